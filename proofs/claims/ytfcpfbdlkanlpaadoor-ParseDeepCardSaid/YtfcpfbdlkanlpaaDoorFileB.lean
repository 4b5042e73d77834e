/- A region of parse.File whose call panics. PRINTED by wip/tools/gen_falls.py. parse.File, the walk: a text that has no words. -/
import Derived.Test.YtfcpfbdlkanlpaaDoorFileA
namespace Go.Proofs.YtfcpfbdlkanlpaaDoor
open Go.RowKit Go.Proofs.YtfcpfbdlkanlpaaDoorW.PrintWords Go.Proofs.YtfcpfbdlkanlpaaDoorW.PrintLast
set_option linter.unusedVariables false
set_option linter.unusedSimpArgs false

section
variable {P : Program} {ops : Array Oper} {Q : Exit → Act → World → Prop} {K : Act → World → Prop} {i : Nat} {o : Oper} {a : Act} {w w1 : World} {v : Value}
theorem wpOp_val (ho : ops[i]? = some o) (hg : o.guard = none) (hrun : (execOp a.eval o).run P w = .ok (.value v) w1) (hK : K (a.put o.dst v) w1) : wpOp P ops Q i K a w := by
  have hw : Region.wanted o (yielded ops a.tmps) = true := by simp [Region.wanted, hg]
  unfold wpOp
  rw [ho]
  dsimp only
  rw [if_pos hw]
  unfold Oper.wp
  rw [hrun]
  exact .inl hK
theorem wpOp_enter {f : FuncId} {args : Array Value} (ho : ops[i]? = some o) (hg : o.guard = none) (hrun : (execOp a.eval o).run P w = .ok (.enter f args) w) (h : Calls P f args w fun
      | .returned v, w'' => K (a.put o.dst v) w''
      | .panicked chain, w'' => Q (.panic chain) a w''
      | .outgrown, _ => LetsOut Q) : wpOp P ops Q i K a w := by
  have hw : Region.wanted o (yielded ops a.tmps) = true := by simp [Region.wanted, hg]
  unfold wpOp
  rw [ho]
  dsimp only
  rw [if_pos hw]
  unfold Oper.wp
  rw [hrun]
  exact .inl h
theorem execOp_move {x : Operand} (h : o.op = .move x) : (execOp a.eval o).run P w = .ok (.value (a.eval x)) w := by unfold execOp; rw [h]; rfl
end
theorem execOp_load33 {o : Oper} {a : Act} {w : World} {x : Operand} {ad : Addr} {v : Value} (h : o.op = .load 33 x) (hx : a.eval x = .pointer (some ad)) (hc : w.cell? ad = some v) : (execOp a.eval o).run Tryd.prog w = .ok (.value v) w := by
  unfold execOp
  rw [h]
  dsimp only
  rw [hx]
  simp [go_sem, hc]
theorem execOp_load41 {o : Oper} {a : Act} {w : World} {x : Operand} {g : Nat} {v u : Value} (h : o.op = .load 41 x) (hx : a.eval x = .pointer (some ⟨g, 0, none⟩)) (hc : w.cell? ⟨g, 0, none⟩ = some v) (hc1 : w.cell? ⟨g, 1, none⟩ = some u) : (execOp a.eval o).run Tryd.prog w = .ok (.value (.agg #[v, u])) w := by
  unfold execOp
  rw [h]
  dsimp only
  rw [hx]
  simp [go_sem, hc, hc1]
theorem execOp_call3 {o : Oper} {a : Act} {w : World} {f : FuncId} {x y : Operand} {u v k : Value} {tys : Array TypeId} (hen : ∀ (args : Array Value) (w : World), (callFunc f args).run Tryd.prog w = .ok (.enter f args) w) (h : o.op = .call { callee := .value (.func f), args := #[x, .const k, y], argTypes := tys }) (hx : a.eval x = u) (hy : a.eval y = v) : (execOp a.eval o).run Tryd.prog w = .ok (.enter f #[u, k, v]) w := by
  unfold execOp
  rw [h]
  dsimp only
  have hm : (#[x, Operand.const k, y].map a.eval) = #[u, k, v] := by simp only [List.map_toArray, List.map_cons, List.map_nil, hx, hy]; rfl
  unfold resolve
  dsimp only
  rw [hm]
  simp [go_sem, invoke, hen]
theorem execOp_call2 {o : Oper} {a : Act} {w : World} {f : FuncId} {x : Operand} {u : Value} {tys : Array TypeId} (hen : ∀ (args : Array Value) (w : World), (callFunc f args).run Tryd.prog w = .ok (.enter f args) w) (h : o.op = .call { callee := .value (.func f), args := #[x], argTypes := tys }) (hx : a.eval x = u) : (execOp a.eval o).run Tryd.prog w = .ok (.enter f #[u]) w := by
  unfold execOp
  rw [h]
  dsimp only
  have hm : (#[x].map a.eval) = #[u] := by simp [hx]
  unfold resolve
  dsimp only
  rw [hm]
  simp [go_sem, invoke, hen]
theorem execOp_len {o : Oper} {a : Act} {w : World} {x : Operand} {A : Option Addr} {n c : Nat} (h : o.op = .call { callee := .builtin .len, args := #[x], argTypes := #[33] }) (hx : a.eval x = .slice A n c) : (execOp a.eval o).run Tryd.prog w = .ok (.value (.int .i64 n)) w := by
  unfold execOp
  rw [h]
  dsimp only
  have hm : (#[x].map a.eval) = #[.slice A n c] := by simp [hx]
  unfold resolve
  dsimp only
  rw [hm]
  simp [go_sem, invoke, Builtin.len_, Tryd.underlying33]
theorem execOp_box {o : Oper} {a : Act} {w : World} (h : o.op = .buildSlice 33 1 #[(0, .const (.agg #[.int .i64 0, .string ⟨#[]⟩, .int .i64 0, .int .i64 0, .slice none 0 0, .slice none 0 0, .slice none 0 0, .slice none 0 0]))]) : (execOp a.eval o).run Tryd.prog w = .ok (.value (.slice (some ⟨w.heap.size, 0, none⟩) 1 1)) (w.alloc zDecl) := by
  unfold execOp
  rw [h]
  dsimp only
  simp [go_sem, Act.eval]
set_option maxHeartbeats 1000000 in
theorem file_falls3 {id : Nat} {ops : Array Oper} {Q : Exit → Act → World → Prop} {W : World} {b g7 : Nat} {en p : Pos} {v : Value} {ls : List De} {ws : List Wd} {a0 : Act} {X0 : World} {er : Int} {q : Pos} (s0 f : Nat) (tys : Array TypeId) (hs : 7 < s0) (hs2 : s0 + 5 < 70)
    (hsz : ops.size = 10)
    (h0 : ∃ o, ops[0]? = some o ∧ o.guard = none ∧ o.dst = some s0 ∧ o.op = .load 33 (.tmp 2) ∧ o.after = #[])
    (h1 : ∃ o, ops[1]? = some o ∧ o.guard = none ∧ o.dst = some (s0 + 1) ∧ o.op = .move (.tmp 6) ∧ o.after = #[])
    (h2 : ∃ o, ops[2]? = some o ∧ o.guard = none ∧ o.dst = some (s0 + 2) ∧ o.op = .load 41 (.tmp 7) ∧ o.after = #[])
    (hc : ∃ o, ops[3]? = some o ∧ o.guard = none ∧ o.op = .call { callee := .value (.func f), args := #[.tmp (s0 + 1), .const (.int .i64 1), .tmp (s0 + 2)], argTypes := tys } ∧ (∃ e ∈ o.after, Region.binds .any e = true ∧ e.on = 1) ∧ (∃ e ∈ o.after, Region.binds .any e = true ∧ e.on = 2) ∧ ∀ e ∈ o.after, e.on = 1 ∨ e.on = 2)
    (hl : ∃ o, ops[4]? = some o ∧ o.guard = none ∧ o.dst = some (s0 + 4) ∧ o.op = .call { callee := .builtin .len, args := #[.tmp s0], argTypes := #[33] } ∧ ∃ e ∈ o.after, Region.binds .any e = true ∧ e.on = 0)
    (hb : ∃ o, ops[5]? = some o ∧ o.guard = none ∧ o.dst = some (s0 + 5) ∧ o.op = .buildSlice 33 1 #[(0, .const (.agg #[.int .i64 0, .string ⟨#[]⟩, .int .i64 0, .int .i64 0, .slice none 0 0, .slice none 0 0, .slice none 0 0, .slice none 0 0]))] ∧ o.after = #[])
    (hr : ∀ i o, 5 < i → ops[i]? = some o → ∃ e ∈ o.after, Region.binds .any e = true ∧ e.on = 3)
    (ha : FileAt W a0) (hd : a0.defers = [fileD W]) (hz : a0.tmps.size = 70) (h6 : a0.tmps.getD 6 undef = .pointer (some ⟨b, 0, none⟩)) (h7 : a0.tmps.getD 7 undef = .pointer (some ⟨g7, 0, none⟩))
    (hX : Fm b en W v ls ws X0) (hA : X0.heap[g7]? = some (.cells #[.int .i64 p.line, .int .i64 p.col] 41 (0, 0))) (hv : ∃ A n c, v = .slice A n c) (hgb : g7 ≠ b)
    (hen : ∀ (args : Array Value) (w : World), (callFunc f args).run Tryd.prog w = .ok (.enter f args) w) (hcall : ∀ X, Fm b en W v ls ws X → Calls Tryd.prog f #[.pointer (some ⟨b, 0, none⟩), .int .i64 1, .agg #[.int .i64 p.line, .int .i64 p.col]] X fun e w' => e = flt er q ∧ Ch b X w')
    (hQ : ∀ a X, FileQ W ⟨[], q, er⟩ (.panic [{ v := .iface 80 (.agg #[.int .i64 er, .int .i64 q.line, .int .i64 q.col]), recovered := false }]) a X → Q (.panic [{ v := .iface 80 (.agg #[.int .i64 er, .int .i64 q.line, .int .i64 q.col]), recovered := false }]) a X) :
    (Code.region id ops true).wp Tryd.prog Q a0 X0 := by
  obtain ⟨A, n, c, rfl⟩ := hv
  obtain ⟨o0, p0, g0, d0, e0, f0⟩ := h0
  obtain ⟨o1, p1, g1, d1, e1, f1⟩ := h1
  obtain ⟨o2, p2, g2, d2, e2, f2⟩ := h2
  obtain ⟨oc, pc, gc, ec, fc1, fc2, fc⟩ := hc
  obtain ⟨ol, pl, gl, dl, el, fl⟩ := hl
  obtain ⟨ob, pb, gb, db, eb, fb⟩ := hb
  refine region_falls (by kernel_rfl) 3 (fun lb a X => Fg W b g7 p (.slice A n c) s0 lb a ∧ lb.size = 10 ∧ lb.getD 3 true = false ∧ Fm b en W (.slice A n c) ls ws X ∧ X.heap[g7]? = some (.cells #[.int .i64 p.line, .int .i64 p.col] 41 (0, 0))) (fun lb a X h => h.2.2.1) ?_ ?_ ?_
  · rintro lb a X ⟨-, hsl, h3, -⟩ e
    have no : ∀ i, i ∉ Region.ready .any ops lb := fun i hi => by rw [e] at hi; cases hi
    have k1 : lb.getD 1 false = true := by
      cases hh : lb.getD 1 true with
      | false => exact absurd (mem_ready.2 ⟨hh, _, p1, by rw [f1]; intro e he; simp at he⟩) (no 1)
      | true => rw [← hh]; simp [hsl]
    have k2 : lb.getD 2 false = true := by
      cases hh : lb.getD 2 true with
      | false => exact absurd (mem_ready.2 ⟨hh, _, p2, by rw [f2]; intro e he; simp at he⟩) (no 2)
      | true => rw [← hh]; simp [hsl]
    refine no 3 (mem_ready.2 ⟨h3, _, pc, fun e he _ => ?_⟩)
    rcases fc e he with q | q <;> rw [q]
    · exact k1
    · exact k2
  · rintro lb a X i ⟨hF, hsl, h3, hM, hg⟩ hi
    obtain ⟨hli, o, ho, hall⟩ := mem_ready.1 hi
    have hlt : i < 10 := by rw [← hsz]; exact (Array.getElem?_eq_some_iff.1 ho).1
    have hkeep : i ≠ 3 → (lb.setIfInBounds i true).getD 3 true = false := fun hne => by rw [getD_set_ne true hne]; exact h3
    have hs' : (lb.setIfInBounds i true).size = 10 := by rw [Array.size_setIfInBounds]; exact hsl
    by_cases hbig : 5 < i
    · obtain ⟨e, he, hb1, hb2⟩ := hr i o hbig ho
      have := hall e he hb1
      rw [hb2] at this
      have h4 : lb.getD 3 true = true := by rw [← this]; simp [hsl]
      rw [h3] at h4; cases h4
    · have hcs : i = 0 ∨ i = 1 ∨ i = 2 ∨ i = 3 ∨ i = 4 ∨ i = 5 := by omega
      rcases hcs with rfl | rfl | rfl | rfl | rfl | rfl
      · obtain rfl : o0 = o := Option.some.inj (p0.symm.trans ho)
        have hc0 : X.cell? ⟨W.heap.size, 0, none⟩ = some (.slice A n c) := blk_cell hM.ca 0
        refine wpOp_val p0 g0 (v := .slice A n c) (w1 := X) ?_ ?_
        · exact execOp_load33 e0 (show a.eval (.tmp 2) = _ from hF.at_.p) hc0
        · rw [d0]
          exact ⟨hF.put 0 s0 _ hs (by omega) hs (fun _ => ⟨rfl, rfl⟩) (by omega) (by omega) (by omega) (by omega) (by omega), hs', hkeep (by decide), hM, hg⟩
      · obtain rfl : o1 = o := Option.some.inj (p1.symm.trans ho)
        refine wpOp_val p1 g1 (v := .pointer (some ⟨b, 0, none⟩)) (w1 := X) ?_ ?_
        · rw [execOp_move e1, show a.eval (.tmp 6) = _ from hF.t6]
        · rw [d1]
          exact ⟨hF.put 1 (s0 + 1) _ hs (by omega) (by omega) (by omega) (fun _ => ⟨rfl, rfl⟩) (by omega) (by omega) (by omega) (by omega), hs', hkeep (by decide), hM, hg⟩
      · obtain rfl : o2 = o := Option.some.inj (p2.symm.trans ho)
        refine wpOp_val p2 g2 (v := .agg #[.int .i64 p.line, .int .i64 p.col]) (w1 := X) ?_ ?_
        · exact execOp_load41 e2 (show a.eval (.tmp 7) = _ from hF.t7) (blk_cell hg 0) (blk_cell hg 1)
        · rw [d2]
          exact ⟨hF.put 2 (s0 + 2) _ hs (by omega) (by omega) (by omega) (by omega) (fun _ => ⟨rfl, rfl⟩) (by omega) (by omega) (by omega), hs', hkeep (by decide), hM, hg⟩
      · obtain rfl : oc = o := Option.some.inj (pc.symm.trans ho)
        obtain ⟨e1', m1, b1, q1⟩ := fc1
        have k1 := hall e1' m1 b1
        rw [q1] at k1
        obtain ⟨e2', m2, b2, q2⟩ := fc2
        have k2 := hall e2' m2 b2
        rw [q2] at k2
        refine wpOp_enter pc gc (f := f) (args := #[.pointer (some ⟨b, 0, none⟩), .int .i64 1, .agg #[.int .i64 p.line, .int .i64 p.col]]) ?_ ?_
        · exact execOp_call3 hen ec (show a.eval (.tmp (s0 + 1)) = _ from hF.t1 k1) (show a.eval (.tmp (s0 + 2)) = _ from hF.t2 k2)
        · refine (hcall X hM).mono ?_
          rintro e w' ⟨rfl, hch⟩
          exact hQ _ _ ⟨hF.at_, hF.df, rfl, rfl, _, _, _, _, hM.outCh hch⟩
      · obtain rfl : ol = o := Option.some.inj (pl.symm.trans ho)
        obtain ⟨e1', m1, b1, q1⟩ := fl
        have k0 := hall e1' m1 b1
        rw [q1] at k0
        refine wpOp_val pl gl (v := .int .i64 n) (w1 := X) ?_ ?_
        · exact execOp_len el (show a.eval (.tmp s0) = _ from hF.t0 k0)
        · rw [dl]
          exact ⟨hF.put 4 (s0 + 4) _ hs (by omega) (by omega) (by omega) (by omega) (by omega) (by omega) (by omega) (by omega), hs', hkeep (by decide), hM, hg⟩
      · obtain rfl : ob = o := Option.some.inj (pb.symm.trans ho)
        refine wpOp_val pb gb (v := .slice (some ⟨X.heap.size, 0, none⟩) 1 1) (w1 := X.alloc zDecl) ?_ ?_
        · exact execOp_box eb
        · rw [db]
          exact ⟨hF.put 5 (s0 + 5) _ hs (by omega) (by omega) (by omega) (by omega) (by omega) (by omega) (by omega) (by omega), hs', hkeep (by decide), hM.alloc _, blk_alloc hg _⟩
  · refine ⟨⟨ha, hd, hz, h6, h7, ?_, ?_, ?_⟩, by rw [hsz]; rfl, by rw [hsz]; rfl, hX.drew, hA⟩
    all_goals (intro hh; rw [hsz] at hh; cases hh)
set_option maxHeartbeats 1000000 in
theorem file_falls2 {id : Nat} {ops : Array Oper} {Q : Exit → Act → World → Prop} {W : World} {b g7 : Nat} {en p : Pos} {v : Value} {ls : List De} {ws : List Wd} {a0 : Act} {X0 : World} {er : Int} {q : Pos} (s0 f : Nat) (tys : Array TypeId) (hs : 7 < s0) (hs2 : s0 + 5 < 70)
    (hsz : ops.size = 9)
    (h0 : ∃ o, ops[0]? = some o ∧ o.guard = none ∧ o.dst = some s0 ∧ o.op = .load 33 (.tmp 2) ∧ o.after = #[])
    (h1 : ∃ o, ops[1]? = some o ∧ o.guard = none ∧ o.dst = some (s0 + 1) ∧ o.op = .move (.tmp 6) ∧ o.after = #[])
    (hc : ∃ o, ops[2]? = some o ∧ o.guard = none ∧ o.op = .call { callee := .value (.func f), args := #[.tmp (s0 + 1)], argTypes := tys } ∧ (∃ e ∈ o.after, Region.binds .any e = true ∧ e.on = 1) ∧ ∀ e ∈ o.after, e.on = 1)
    (hl : ∃ o, ops[3]? = some o ∧ o.guard = none ∧ o.dst = some (s0 + 3) ∧ o.op = .call { callee := .builtin .len, args := #[.tmp s0], argTypes := #[33] } ∧ ∃ e ∈ o.after, Region.binds .any e = true ∧ e.on = 0)
    (hb : ∃ o, ops[4]? = some o ∧ o.guard = none ∧ o.dst = some (s0 + 4) ∧ o.op = .buildSlice 33 1 #[(0, .const (.agg #[.int .i64 0, .string ⟨#[]⟩, .int .i64 0, .int .i64 0, .slice none 0 0, .slice none 0 0, .slice none 0 0, .slice none 0 0]))] ∧ o.after = #[])
    (hr : ∀ i o, 4 < i → ops[i]? = some o → ∃ e ∈ o.after, Region.binds .any e = true ∧ e.on = 2)
    (ha : FileAt W a0) (hd : a0.defers = [fileD W]) (hz : a0.tmps.size = 70) (h6 : a0.tmps.getD 6 undef = .pointer (some ⟨b, 0, none⟩)) (h7 : a0.tmps.getD 7 undef = .pointer (some ⟨g7, 0, none⟩))
    (hX : Fm b en W v ls ws X0) (hA : X0.heap[g7]? = some (.cells #[.int .i64 p.line, .int .i64 p.col] 41 (0, 0))) (hv : ∃ A n c, v = .slice A n c) (hgb : g7 ≠ b)
    (hen : ∀ (args : Array Value) (w : World), (callFunc f args).run Tryd.prog w = .ok (.enter f args) w) (hcall : ∀ X, Fm b en W v ls ws X → Calls Tryd.prog f #[.pointer (some ⟨b, 0, none⟩)] X fun e w' => e = flt er q ∧ Ch b X w')
    (hQ : ∀ a X, FileQ W ⟨[], q, er⟩ (.panic [{ v := .iface 80 (.agg #[.int .i64 er, .int .i64 q.line, .int .i64 q.col]), recovered := false }]) a X → Q (.panic [{ v := .iface 80 (.agg #[.int .i64 er, .int .i64 q.line, .int .i64 q.col]), recovered := false }]) a X) :
    (Code.region id ops true).wp Tryd.prog Q a0 X0 := by
  obtain ⟨A, n, c, rfl⟩ := hv
  obtain ⟨o0, p0, g0, d0, e0, f0⟩ := h0
  obtain ⟨o1, p1, g1, d1, e1, f1⟩ := h1
  obtain ⟨oc, pc, gc, ec, fc1, fc⟩ := hc
  obtain ⟨ol, pl, gl, dl, el, fl⟩ := hl
  obtain ⟨ob, pb, gb, db, eb, fb⟩ := hb
  refine region_falls (by kernel_rfl) 2 (fun lb a X => Fg W b g7 p (.slice A n c) s0 lb a ∧ lb.size = 9 ∧ lb.getD 2 true = false ∧ Fm b en W (.slice A n c) ls ws X ∧ X.heap[g7]? = some (.cells #[.int .i64 p.line, .int .i64 p.col] 41 (0, 0))) (fun lb a X h => h.2.2.1) ?_ ?_ ?_
  · rintro lb a X ⟨-, hsl, h3, -⟩ e
    have no : ∀ i, i ∉ Region.ready .any ops lb := fun i hi => by rw [e] at hi; cases hi
    have k1 : lb.getD 1 false = true := by
      cases hh : lb.getD 1 true with
      | false => exact absurd (mem_ready.2 ⟨hh, _, p1, by rw [f1]; intro e he; simp at he⟩) (no 1)
      | true => rw [← hh]; simp [hsl]
    refine no 2 (mem_ready.2 ⟨h3, _, pc, fun e he _ => ?_⟩)
    rw [fc e he]
    exact k1
  · rintro lb a X i ⟨hF, hsl, h3, hM, hg⟩ hi
    obtain ⟨hli, o, ho, hall⟩ := mem_ready.1 hi
    have hlt : i < 9 := by rw [← hsz]; exact (Array.getElem?_eq_some_iff.1 ho).1
    have hkeep : i ≠ 2 → (lb.setIfInBounds i true).getD 2 true = false := fun hne => by rw [getD_set_ne true hne]; exact h3
    have hs' : (lb.setIfInBounds i true).size = 9 := by rw [Array.size_setIfInBounds]; exact hsl
    by_cases hbig : 4 < i
    · obtain ⟨e, he, hb1, hb2⟩ := hr i o hbig ho
      have := hall e he hb1
      rw [hb2] at this
      have h4 : lb.getD 2 true = true := by rw [← this]; simp [hsl]
      rw [h3] at h4; cases h4
    · have hcs : i = 0 ∨ i = 1 ∨ i = 2 ∨ i = 3 ∨ i = 4 := by omega
      rcases hcs with rfl | rfl | rfl | rfl | rfl
      · obtain rfl : o0 = o := Option.some.inj (p0.symm.trans ho)
        have hc0 : X.cell? ⟨W.heap.size, 0, none⟩ = some (.slice A n c) := blk_cell hM.ca 0
        refine wpOp_val p0 g0 (v := .slice A n c) (w1 := X) ?_ ?_
        · exact execOp_load33 e0 (show a.eval (.tmp 2) = _ from hF.at_.p) hc0
        · rw [d0]
          exact ⟨hF.put 0 s0 _ hs (by omega) hs (fun _ => ⟨rfl, rfl⟩) (by omega) (by omega) (by omega) (by omega) (by omega), hs', hkeep (by decide), hM, hg⟩
      · obtain rfl : o1 = o := Option.some.inj (p1.symm.trans ho)
        refine wpOp_val p1 g1 (v := .pointer (some ⟨b, 0, none⟩)) (w1 := X) ?_ ?_
        · rw [execOp_move e1, show a.eval (.tmp 6) = _ from hF.t6]
        · rw [d1]
          exact ⟨hF.put 1 (s0 + 1) _ hs (by omega) (by omega) (by omega) (fun _ => ⟨rfl, rfl⟩) (by omega) (by omega) (by omega) (by omega), hs', hkeep (by decide), hM, hg⟩
      · obtain rfl : oc = o := Option.some.inj (pc.symm.trans ho)
        obtain ⟨e1', m1, b1, q1⟩ := fc1
        have k1 := hall e1' m1 b1
        rw [q1] at k1
        refine wpOp_enter pc gc (f := f) (args := #[.pointer (some ⟨b, 0, none⟩)]) ?_ ?_
        · exact execOp_call2 hen ec (show a.eval (.tmp (s0 + 1)) = _ from hF.t1 k1)
        · refine (hcall X hM).mono ?_
          rintro e w' ⟨rfl, hch⟩
          exact hQ _ _ ⟨hF.at_, hF.df, rfl, rfl, _, _, _, _, hM.outCh hch⟩
      · obtain rfl : ol = o := Option.some.inj (pl.symm.trans ho)
        obtain ⟨e1', m1, b1, q1⟩ := fl
        have k0 := hall e1' m1 b1
        rw [q1] at k0
        refine wpOp_val pl gl (v := .int .i64 n) (w1 := X) ?_ ?_
        · exact execOp_len el (show a.eval (.tmp s0) = _ from hF.t0 k0)
        · rw [dl]
          exact ⟨hF.put 3 (s0 + 3) _ hs (by omega) (by omega) (by omega) (by omega) (by omega) (by omega) (by omega) (by omega), hs', hkeep (by decide), hM, hg⟩
      · obtain rfl : ob = o := Option.some.inj (pb.symm.trans ho)
        refine wpOp_val pb gb (v := .slice (some ⟨X.heap.size, 0, none⟩) 1 1) (w1 := X.alloc zDecl) ?_ ?_
        · exact execOp_box eb
        · rw [db]
          exact ⟨hF.put 4 (s0 + 4) _ hs (by omega) (by omega) (by omega) (by omega) (by omega) (by omega) (by omega) (by omega), hs', hkeep (by decide), hM.alloc _, blk_alloc hg _⟩
  · refine ⟨⟨ha, hd, hz, h6, h7, ?_, ?_, ?_⟩, by rw [hsz]; rfl, by rw [hsz]; rfl, hX.drew, hA⟩
    all_goals (intro hh; rw [hsz] at hh; cases hh)
end Go.Proofs.YtfcpfbdlkanlpaaDoor

namespace Go.Proofs.YtfcpfbdlkanlpaaDoor
open Go.RowKit Go.Proofs.YtfcpfbdlkanlpaaDoorW.PrintWords Go.Proofs.YtfcpfbdlkanlpaaDoorW.PrintLast
set_option linter.unusedVariables false
set_option linter.unusedSimpArgs false
set_option maxHeartbeats 4000000 in
set_option maxRecDepth 20000 in
theorem file_no (text : ByteArray) (w : World) (hz : text.size ≤ 140737488351232) (hE : Env w) (he : (lexW text).e ≠ 0) :
    Calls Tryd.prog 15 #[.string text] w fun e w' => FileOut w ⟨[], (lexW text).pos, (lexW text).e⟩ e w' := by
  have HE := Aside0.mk hE
  clear hE
  obtain ⟨lx, hlx⟩ : ∃ a, a = lexW text := ⟨_, rfl⟩
  rw [← hlx] at he ⊢
  have HX := Lib.hid hlx
  clear hlx
  have heb : (lx.e != 0) = true := by simpa using he
  clear he
  go_enter_defers Tryd.func15, Tryd.ntmps15
  refine Code.wp_mono (fileQ_post (W := w) (f := ⟨[], lx.pos, lx.e⟩)) ?_
  obtain ⟨A0, A1, A2, hb0, hs0⟩ := three w
  have HT := Aside0.mk (show FileIn w (.slice none 0 0) (.int .i64 0) (.int .i64 0) (.int .i64 0) _ from ⟨A0, A1, A2, hb0⟩)
  clear A0 A1 A2 hb0 hs0
  go_wp2_with (go_at_call 25; refine (words_calls text _ hz (HE.out.below HT.out.bel)).mono ?_; rintro e w1 ⟨v, rfl, hr, hb⟩; rw [← HX.out]; have HT1 := Aside0.mk (HT.out.below hb); have b0 := HT1.out.ca; have b1 := HT1.out.cb; have b2 := HT1.out.cc; have c0 := blk_cell b0 0; have c1 := blk_cell b1 0; have c1' := blk_cell b1 1; have c2 := blk_cell b2 0; have f0 := blk_frozen b0 0; have f1 := blk_frozen b1 0; have f1' := blk_frozen b1 1; have f2 := blk_frozen b2 0; clear hr hb b0 b1 b2)
  go_region
  go_wp2
  have HF := Aside0.mk (((((((HT1.out.setb (.int .i64 lx.pos.line)).setb' (.int .i64 lx.pos.col)).setc (.int .i64 lx.e)).seta (.slice none 0 0)).setb (.int .i64 lx.pos.line)).setb' (.int .i64 lx.pos.col)).setc (.int .i64 lx.e)).drew
  refine ⟨⟨rfl, rfl, rfl⟩, .inl rfl, _, HF.out, Kd.R_nil _ _ _ _ _⟩
end Go.Proofs.YtfcpfbdlkanlpaaDoor
