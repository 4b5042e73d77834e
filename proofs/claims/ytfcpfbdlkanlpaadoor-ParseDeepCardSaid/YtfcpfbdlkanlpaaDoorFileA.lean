/- parse.File's deferred closure: recover, two contracts. A file in the making. parse.File: what holds at its door, and the store of an element just appended. parse.File: the steps of its regions that append a declaration. A region that draws its order and comes to a call that panics, in whatever order. -/
import Derived.Test.YtfcpfbdlkanlpaaDoorParMsg2
import Derived.Defers
import Derived.Recover
import Derived.Test.YtfcpfbdlkanlpaaDoorLexOk
import Derived.Test.YtfcpfbdlkanlpaaDoorLexWords
import Derived.Test.YtfcpfbdlkanlpaaDoorLexEnd
namespace Go.Proofs.YtfcpfbdlkanlpaaDoor
open Go.RowKit Go.Proofs.YtfcpfbdlkanlpaaDoorW.PrintWords Go.Proofs.YtfcpfbdlkanlpaaDoorW.PrintLast
set_option linter.unusedVariables false
set_option linter.unusedSimpArgs false
set_option maxHeartbeats 4000000 in
set_option maxRecDepth 20000 in
theorem file1_idle (a b c : Addr) (w : World) :
    CallsD Tryd.prog 26 #[.pointer (some a), .pointer (some b), .pointer (some c)] .returning w fun e u' w' => e = .returned (.tuple #[]) ∧ u' = .returning ∧ w' = w := by
  refine callsD_of_wpS Tryd.func26 rfl fun c₀ cs hu => ?_
  apply wpS_seq
  apply wpS_region
  simp [wpOpsS, go_sem, recoverD, hu, Tryd.ntmps26, Exit.thenS]
  refine wpS_of_wp ?_
  show Code.wp _ _ _ { tmps := #[.pointer (some a), .pointer (some b), .pointer (some c), undef, undef, undef, .nilIface, undef, undef, undef, undef, undef, undef, undef, undef, undef], defers := [] } _
  have hb : ∀ w, (binOp .eql 20 Value.nilIface Value.nilIface).run Tryd.prog w = .ok (.bool true) w := fun _ => by kernel_rfl
  go_wp2
  cases c₀
  simp_all [bodyPostS, results, Tryd.results26]
set_option maxHeartbeats 4000000 in
set_option maxRecDepth 20000 in
theorem file1_panic {a b c ta tb tc : Nat} {va vb vb' vc : Value} (e : Int) (p : Pos) (older : List PanicEntry) (w : World) (ha : w.heap[a]? = some (.cells #[va] ta (0, 0))) (hb0 : w.heap[b]? = some (.cells #[vb, vb'] tb (0, 0))) (hc : w.heap[c]? = some (.cells #[vc] tc (0, 0))) (hab : a < b) (hbc : b < c) :
    CallsD Tryd.prog 26 #[.pointer (some ⟨a, 0, none⟩), .pointer (some ⟨b, 0, none⟩), .pointer (some ⟨c, 0, none⟩)] (.panicking ({ v := .iface 80 (.agg #[.int .i64 e, .int .i64 p.line, .int .i64 p.col]), recovered := false } :: older)) w fun r u' w' =>
      r = .returned (.tuple #[]) ∧ u' = .panicking ({ v := .iface 80 (.agg #[.int .i64 e, .int .i64 p.line, .int .i64 p.col]), recovered := true } :: older) ∧ w'.heap[a]? = some (.cells #[.slice none 0 0] ta (0, 0)) ∧ w'.heap[b]? = some (.cells #[.int .i64 p.line, .int .i64 p.col] tb (0, 0)) ∧ w'.heap[c]? = some (.cells #[.int .i64 e] tc (0, 0)) ∧ Below a w w' := by
  refine callsD_of_wpS Tryd.func26 rfl fun c₀ cs hu => ?_
  apply wpS_seq
  apply wpS_region
  simp [wpOpsS, go_sem, recoverD, hu, Tryd.ntmps26, Exit.thenS]
  refine wpS_of_wp ?_
  show Code.wp _ _ _ { tmps := #[.pointer (some ⟨a, 0, none⟩), .pointer (some ⟨b, 0, none⟩), .pointer (some ⟨c, 0, none⟩), undef, undef, undef, (.iface 80 (.agg #[.int .i64 e, .int .i64 p.line, .int .i64 p.col])), undef, undef, undef, undef, undef, undef, undef, undef, undef], defers := [] } _
  have hb : ∀ w, (binOp .eql 20 (.iface 80 (.agg #[.int .i64 e, .int .i64 p.line, .int .i64 p.col])) Value.nilIface).run Tryd.prog w = .ok (.bool false) w := fun _ => by rfl
  have ht : ∀ w, (Instr.typeAssert (.iface 80 (.agg #[.int .i64 e, .int .i64 p.line, .int .i64 p.col])) 20 80 true).run Tryd.prog w = .ok (.tuple #[.agg #[.int .i64 e, .int .i64 p.line, .int .i64 p.col], .bool true]) w := fun _ => by rfl
  go_wp2
  have k := blk_new w (.cells #[.int .i64 e, .int .i64 p.line, .int .i64 p.col] 80)
  have a1 := blk_alloc ha (.cells #[.int .i64 e, .int .i64 p.line, .int .i64 p.col] 80)
  have b1 := blk_alloc hb0 (.cells #[.int .i64 e, .int .i64 p.line, .int .i64 p.col] 80)
  have c1 := blk_alloc hc (.cells #[.int .i64 e, .int .i64 p.line, .int .i64 p.col] 80)
  have hlt := blk_lt hc
  have hB := (Below.refl a w).alloc (Nat.le_of_lt (by have := blk_lt hc; omega)) (.cells #[.int .i64 e, .int .i64 p.line, .int .i64 p.col] 80)
  obtain ⟨g, hg⟩ : ∃ g, g = w.heap.size := ⟨_, rfl⟩
  rw [← hg] at k hlt
  simp only [← hg]
  generalize w.alloc (.cells #[.int .i64 e, .int .i64 p.line, .int .i64 p.col] 80) = w1 at k a1 b1 c1 hB ⊢
  have k0 := blk_cell k 0
  have k1 := blk_cell k 1
  have k2 := blk_cell k 2
  have ca := blk_cell a1 0
  have cb := blk_cell b1 0
  have cb1 := blk_cell b1 1
  have cc := blk_cell c1 0
  have fa := blk_frozen a1 0
  have fb := blk_frozen b1 0
  have fb1 := blk_frozen b1 1
  have fc := blk_frozen c1 0
  have n1 : a ≠ b := by omega
  have n2 : a ≠ c := by omega
  have n3 : b ≠ c := by omega
  have n4 : g ≠ a := by omega
  have n5 : g ≠ b := by omega
  have n6 : g ≠ c := by omega
  clear hb ht hg
  go_region
  go_wp2
  have qa : ((((w1.setCell ⟨a, 0, none⟩ (.slice none 0 0)).setCell ⟨b, 0, none⟩ (.int .i64 p.line)).setCell ⟨b, 1, none⟩ (.int .i64 p.col)).setCell ⟨c, 0, none⟩ (.int .i64 e)).drew.heap[a]? = some (.cells #[.slice none 0 0] ta (0, 0)) := blk_far (blk_far (blk_far (blk_set a1 0 (.slice none 0 0)) n1 _) n1 _) n2 _
  have qb : ((((w1.setCell ⟨a, 0, none⟩ (.slice none 0 0)).setCell ⟨b, 0, none⟩ (.int .i64 p.line)).setCell ⟨b, 1, none⟩ (.int .i64 p.col)).setCell ⟨c, 0, none⟩ (.int .i64 e)).drew.heap[b]? = some (.cells #[.int .i64 p.line, .int .i64 p.col] tb (0, 0)) := blk_far (blk_set (blk_set (blk_far b1 (Ne.symm n1) _) 0 (.int .i64 p.line)) 1 (.int .i64 p.col)) n3 _
  have qc : ((((w1.setCell ⟨a, 0, none⟩ (.slice none 0 0)).setCell ⟨b, 0, none⟩ (.int .i64 p.line)).setCell ⟨b, 1, none⟩ (.int .i64 p.col)).setCell ⟨c, 0, none⟩ (.int .i64 e)).drew.heap[c]? = some (.cells #[.int .i64 e] tc (0, 0)) := blk_set (blk_far (blk_far (blk_far c1 (Ne.symm n2) _) (Ne.symm n3) _) (Ne.symm n3) _) 0 (.int .i64 e)
  have qB : Below a w ((((w1.setCell ⟨a, 0, none⟩ (.slice none 0 0)).setCell ⟨b, 0, none⟩ (.int .i64 p.line)).setCell ⟨b, 1, none⟩ (.int .i64 p.col)).setCell ⟨c, 0, none⟩ (.int .i64 e)).drew := ((((hB.setCell (Nat.le_refl _) _).setCell (Nat.le_of_lt hab) _).setCell (Nat.le_of_lt hab) _).setCell (Nat.le_of_lt (Nat.lt_trans hab hbc)) _).drew
  generalize ((((w1.setCell ⟨a, 0, none⟩ (.slice none 0 0)).setCell ⟨b, 0, none⟩ (.int .i64 p.line)).setCell ⟨b, 1, none⟩ (.int .i64 p.col)).setCell ⟨c, 0, none⟩ (.int .i64 e)).drew = X at qa qb qc qB ⊢
  clear k a1 b1 c1 hB k0 k1 k2 ca cb cb1 cc fa fb fb1 fc n1 n2 n3 n4 n5 n6 hlt ha hb0 hc hab hbc
  cases c₀
  simp_all [bodyPostS, results, Tryd.results26]
end Go.Proofs.YtfcpfbdlkanlpaaDoor

namespace Go.Proofs.YtfcpfbdlkanlpaaDoor
open Go.RowKit Go.Proofs.YtfcpfbdlkanlpaaDoorW.PrintWords Go.Proofs.YtfcpfbdlkanlpaaDoorW.PrintLast
set_option linter.unusedVariables false
set_option linter.unusedSimpArgs false

structure Fm (b : Nat) (en : Pos) (W : World) (v : Value) (l : List De) (ws : List Wd) (wr : World) : Prop where
  pr : ∃ u, PrAt W.heap.size b en u ws wr
  ca : wr.heap[W.heap.size]? = some (.cells #[v] 33 (0, 0))
  cb : wr.heap[W.heap.size + 1]? = some (.cells #[.int .i64 0, .int .i64 0] 41 (0, 0))
  cc : wr.heap[W.heap.size + 2]? = some (.cells #[.int .i64 0] 42 (0, 0))
  row : kP.R 49 wr W.heap.size (fun k => b < k) v l
  hb : W.heap.size + 2 < b
  bel : Below W.heap.size W wr
section
variable {b : Nat} {en : Pos} {W : World} {v v1 : Value} {l : List De} {d : De} {ws ws1 : List Wd} {wr w1 : World}
theorem Fm.got (h : Fm b en W v l ws wr) : Got W.heap.size b en ws wr wr := by
  obtain ⟨u, hu⟩ := h.pr
  exact ⟨u, hu, Ch.refl _ _⟩
theorem Fm.lt (h : Fm b en W v l ws wr) : b < wr.heap.size := by
  obtain ⟨u, hu⟩ := h.pr
  exact hu.lt
theorem Fm.got_ (h : Fm b en W v l ws wr) (q : Got W.heap.size b en ws1 wr w1) : Fm b en W v l ws1 w1 := by
  have h1 := h.hb
  obtain ⟨u, hu, hc⟩ := q
  exact ⟨⟨u, hu⟩, hc.blk h.ca (by omega), hc.blk h.cb (by omega), hc.blk h.cc (by omega), Kd.R_grown h.row hc.g (fun k hk e => by have := Option.some.inj e; omega), h1, hc.lower h.bel h.bel.size (by omega)⟩
theorem Fm.below (h : Fm b en W v l ws wr) (hb : Below wr.heap.size wr w1) : Fm b en W v l ws w1 := by
  obtain ⟨u, hu⟩ := h.pr
  exact ⟨⟨u, hu.below hb⟩, blk_below h.ca hb, blk_below h.cb hb, blk_below h.cc hb, Kd.R_below h.row hb, h.hb, below_weaken h.bel h.bel.size hb⟩
theorem Fm.alloc (h : Fm b en W v l ws wr) (o : Obj) : Fm b en W v l ws (wr.alloc o) := h.below (below_alloc (Below.refl _ _) o)
theorem Fm.drew (h : Fm b en W v l ws wr) : Fm b en W v l ws wr.drew := h.below (below_drew (Below.refl _ _))
theorem Fm.push (h : Fm b en W v l ws wr) (ho : kP.R 49 w1 W.heap.size (fun k => b < k) v1 (l ++ [d])) (hk : ∀ k, k < wr.heap.size → some k ≠ v.ownBlock → w1.heap[k]? = wr.heap[k]?) (hB : Below W.heap.size W w1) :
    Fm b en W v1 (l ++ [d]) ws (w1.setCell ⟨W.heap.size, 0, none⟩ v1) := by
  have h1 := h.hb
  have hl := h.lt
  have hb' : ∀ k, k ≤ b → w1.heap[k]? = wr.heap[k]? := fun k hkb => hk k (by omega) (fun e => by have := h.row.1 k e.symm; omega)
  obtain ⟨u, hu⟩ := h.pr
  have ca1 : w1.heap[W.heap.size]? = some (.cells #[v] 33 (0, 0)) := (hb' _ (by omega)).trans h.ca
  have q1 : kWd.Q 86 w1 W.heap.size (fun k => k < b) u ws := Kd.Q_move hu.row (fun k hk2 => hb' k (by omega))
  refine ⟨⟨u, ⟨(Below.heap_setCell _ _ _ _ (by show b ≠ W.heap.size; omega)).trans ((hb' b (Nat.le_refl _)).trans hu.blk), Kd.Q_set q1 ca1 (by decide) 0 v1, hu.ok⟩⟩, blk_put ca1 0 v1 rfl, ?_, ?_, Kd.R_far ho (p := ⟨W.heap.size, 0, none⟩) (fun k hk2 => by show k ≠ W.heap.size; omega) v1, h1, hB.setCell (Nat.le_refl _) v1⟩
  · exact (Below.heap_setCell _ _ _ _ (by show W.heap.size + 1 ≠ W.heap.size; omega)).trans ((hb' _ (by omega)).trans h.cb)
  · exact (Below.heap_setCell _ _ _ _ (by show W.heap.size + 2 ≠ W.heap.size; omega)).trans ((hb' _ (by omega)).trans h.cc)
end
/-- A store of several cells as a step of a region that draws. -/
theorem store_step {P : Program} {ops : Array Oper} {o : Oper} {a : Act} {Q : Exit → Act → World → Prop} {Kc : Act → World → Prop} {W : World} (hw : Region.wanted o (yielded ops a.tmps) = true) (hN : o.dst = none)
    (t : TypeId) (p x : Operand) (ho : o.op = .store t p x) {g off : Nat} {e : TypeId} {cur : Array Value} {u : Value} (seg : List Value) (haddr : a.eval p = .pointer (some ⟨g, off, none⟩)) (hx : a.eval x = u)
    (hh : W.heap[g]? = some (.cells cur e (0, 0))) (hu : u.cells.toList = seg) (ht : (P.info? t).map (·.size) = some seg.length) (hfit : off + seg.length ≤ cur.size) (h1 : ∀ q ∈ seg, q.oneCell' = true)
    (h : Kc (a.put none undef) (W.setCells g off seg)) : if Region.wanted o (yielded ops a.tmps) = true then Oper.wp P o a W Kc Q else Kc (a.put o.dst undef) W := by
  have hrun := run_store_run (P := P) t u seg hh hu ht hfit h1
  rw [if_pos hw]
  unfold Oper.wp execOp
  simp only [ho, haddr, hx, Sem.run_bind, Sem.run_pure, Result.andThen_ok, hrun]
  show Kc (a.put o.dst undef) _
  rw [hN]
  exact h
end Go.Proofs.YtfcpfbdlkanlpaaDoor

namespace Go.Proofs.YtfcpfbdlkanlpaaDoor
open Go.RowKit Go.Proofs.YtfcpfbdlkanlpaaDoorW.PrintWords Go.Proofs.YtfcpfbdlkanlpaaDoorW.PrintLast
set_option linter.unusedVariables false
set_option linter.unusedSimpArgs false

theorem three (w : World) : let W := ((w.alloc (.cells #[.slice none 0 0] 33)).alloc (.cells #[.int .i64 0, .int .i64 0] 41)).alloc (.cells #[.int .i64 0] 42)
    W.heap[w.heap.size]? = some (.cells #[.slice none 0 0] 33 (0, 0)) ∧ W.heap[w.heap.size + 1]? = some (.cells #[.int .i64 0, .int .i64 0] 41 (0, 0)) ∧ W.heap[w.heap.size + 1 + 1]? = some (.cells #[.int .i64 0] 42 (0, 0)) ∧ Below w.heap.size w W ∧ W.heap.size = w.heap.size + 3 := by
  have h0 := blk_new w (.cells #[.slice none 0 0] 33)
  have h1 := blk_new (w.alloc (.cells #[.slice none 0 0] 33)) (.cells #[.int .i64 0, .int .i64 0] 41)
  have h2 := blk_new ((w.alloc (.cells #[.slice none 0 0] 33)).alloc (.cells #[.int .i64 0, .int .i64 0] 41)) (.cells #[.int .i64 0] 42)
  rw [World.size_alloc] at h1
  rw [World.size_alloc, World.size_alloc] at h2
  refine ⟨blk_alloc (blk_alloc h0 _) _, blk_alloc h1 _, h2, below_alloc (below_alloc (below_alloc (Below.refl _ _) _) _) _, ?_⟩
  rw [World.size_alloc, World.size_alloc, World.size_alloc]
theorem results_3 {P : Program} {fn : Func} {p q r : Tmp} {tp tq tr : TypeId} (h : fn.results = #[.cell p tp, .cell q tq, .cell r tr]) (tmps : Array Value) (w : World) {a b c : Nat} {va vb vb' vc : Value}
    (hp : tmps.getD p undef = .pointer (some ⟨a, 0, none⟩)) (hq : tmps.getD q undef = .pointer (some ⟨b, 0, none⟩)) (hr : tmps.getD r undef = .pointer (some ⟨c, 0, none⟩))
    (ha : (loadVar tp ⟨a, 0, none⟩).run P w = .ok va w) (hb : (loadVar tq ⟨b, 0, none⟩).run P w = .ok (.agg #[vb, vb']) w) (hc : (loadVar tr ⟨c, 0, none⟩).run P w = .ok vc w) :
    (results fn tmps).run P w = .ok (.tuple #[va, .agg #[vb, vb'], vc]) w := by
  have hp' : tmps[p]?.getD undef = .pointer (some ⟨a, 0, none⟩) := by simpa using hp
  have hq' : tmps[q]?.getD undef = .pointer (some ⟨b, 0, none⟩) := by simpa using hq
  have hr' : tmps[r]?.getD undef = .pointer (some ⟨c, 0, none⟩) := by simpa using hr
  simp [results, h, hp', hq', hr', asAddr, ha, hb, hc]
theorem size_aPos : (Tryd.prog.info? 41).map (·.size) = some 2 := by kernel_rfl
theorem load_list {w : World} {a t : Nat} {v : Value} (h : w.heap[a]? = some (.cells #[v] t (0, 0))) : (loadVar 33 ⟨a, 0, none⟩).run Tryd.prog w = .ok v w := by
  have h0 : w.cell? ⟨a, 0, none⟩ = some v := blk_cell h 0
  simp [go_sem, h0]
theorem load_errno {w : World} {a t : Nat} {v : Value} (h : w.heap[a]? = some (.cells #[v] t (0, 0))) : (loadVar 42 ⟨a, 0, none⟩).run Tryd.prog w = .ok v w := by
  have h0 : w.cell? ⟨a, 0, none⟩ = some v := blk_cell h 0
  simp [go_sem, h0]
theorem load_pos {w : World} {a t : Nat} {v v' : Value} (h : w.heap[a]? = some (.cells #[v, v'] t (0, 0))) : (loadVar 41 ⟨a, 0, none⟩).run Tryd.prog w = .ok (.agg #[v, v']) w :=
  run_loadVar_row w a t _ _ _ _ h Tryd.underlying41 rfl size_aPos
/-- What parse.File hands back. -/
def FileOut (W : World) (f : Pf) (e : Ending) (w' : World) : Prop := ∃ v, e = .returned (.tuple #[v, .agg #[.int .i64 f.pos.line, .int .i64 f.pos.col], .int .i64 f.e]) ∧ kP.R 49 w' W.heap.size (fun _ => True) v f.l ∧ Below W.heap.size W w'
/-- The deferred closure, as it is laid. -/
def fileD (W : World) : Deferred := { target := .fn (.func 26) #[.pointer (some ⟨W.heap.size, 0, none⟩), .pointer (some ⟨W.heap.size + 1, 0, none⟩), .pointer (some ⟨W.heap.size + 1 + 1, 0, none⟩)], args := #[] }
structure FileAt (W : World) (a : Act) : Prop where
  p : a.tmps.getD 2 undef = .pointer (some ⟨W.heap.size, 0, none⟩)
  q : a.tmps.getD 3 undef = .pointer (some ⟨W.heap.size + 1, 0, none⟩)
  r : a.tmps.getD 4 undef = .pointer (some ⟨W.heap.size + 1 + 1, 0, none⟩)
/-- The three results' blocks. -/
structure FileIn (W : World) (v vl vc ve : Value) (w' : World) : Prop where
  ca : w'.heap[W.heap.size]? = some (.cells #[v] 33 (0, 0))
  cb : w'.heap[W.heap.size + 1]? = some (.cells #[vl, vc] 41 (0, 0))
  cc : w'.heap[W.heap.size + 1 + 1]? = some (.cells #[ve] 42 (0, 0))
  bel : Below W.heap.size W w'
section
variable {W w w1 : World} {v vl vc ve : Value}
theorem FileIn.below (h : FileIn W v vl vc ve w) (hb : Below w.heap.size w w1) : FileIn W v vl vc ve w1 :=
  ⟨blk_below h.ca hb, blk_below h.cb hb, blk_below h.cc hb, below_weaken h.bel h.bel.size hb⟩
theorem FileIn.drew (h : FileIn W v vl vc ve w) : FileIn W v vl vc ve w.drew := h.below (below_drew (Below.refl _ _))
theorem FileIn.alloc (h : FileIn W v vl vc ve w) (o : Obj) : FileIn W v vl vc ve (w.alloc o) := h.below (below_alloc (Below.refl _ _) o)
theorem FileIn.seta (h : FileIn W v vl vc ve w) (u : Value) : FileIn W u vl vc ve (w.setCell ⟨W.heap.size, 0, none⟩ u) :=
  ⟨blk_put h.ca 0 u rfl, blk_far h.cb (p := ⟨W.heap.size, 0, none⟩) (by show W.heap.size + 1 ≠ W.heap.size; omega) u, blk_far h.cc (p := ⟨W.heap.size, 0, none⟩) (by show W.heap.size + 1 + 1 ≠ W.heap.size; omega) u, h.bel.setCell (Nat.le_refl _) u⟩
theorem FileIn.setb (h : FileIn W v vl vc ve w) (u : Value) : FileIn W v u vc ve (w.setCell ⟨W.heap.size + 1, 0, none⟩ u) :=
  ⟨blk_far h.ca (p := ⟨W.heap.size + 1, 0, none⟩) (by show W.heap.size ≠ W.heap.size + 1; omega) u, blk_put h.cb 0 u rfl, blk_far h.cc (p := ⟨W.heap.size + 1, 0, none⟩) (by show W.heap.size + 1 + 1 ≠ W.heap.size + 1; omega) u, h.bel.setCell (by show W.heap.size ≤ W.heap.size + 1; omega) u⟩
theorem FileIn.setb' (h : FileIn W v vl vc ve w) (u : Value) : FileIn W v vl u ve (w.setCell ⟨W.heap.size + 1, 1, none⟩ u) :=
  ⟨blk_far h.ca (p := ⟨W.heap.size + 1, 1, none⟩) (by show W.heap.size ≠ W.heap.size + 1; omega) u, blk_put h.cb 1 u rfl, blk_far h.cc (p := ⟨W.heap.size + 1, 1, none⟩) (by show W.heap.size + 1 + 1 ≠ W.heap.size + 1; omega) u, h.bel.setCell (by show W.heap.size ≤ W.heap.size + 1; omega) u⟩
theorem FileIn.setc (h : FileIn W v vl vc ve w) (u : Value) : FileIn W v vl vc u (w.setCell ⟨W.heap.size + 1 + 1, 0, none⟩ u) :=
  ⟨blk_far h.ca (p := ⟨W.heap.size + 1 + 1, 0, none⟩) (by show W.heap.size ≠ W.heap.size + 1 + 1; omega) u, blk_far h.cb (p := ⟨W.heap.size + 1 + 1, 0, none⟩) (by show W.heap.size + 1 ≠ W.heap.size + 1 + 1; omega) u, blk_put h.cc 0 u rfl, h.bel.setCell (by show W.heap.size ≤ W.heap.size + 1 + 1; omega) u⟩
end
/-- What holds where the body of parse.File is left. -/
def FileQ (W : World) (f : Pf) : Exit → Act → World → Prop
  | .ret, a, w' => FileAt W a ∧ (a.defers = [] ∨ a.defers = [fileD W]) ∧ ∃ v, FileIn W v (.int .i64 f.pos.line) (.int .i64 f.pos.col) (.int .i64 f.e) w' ∧ kP.R 49 w' W.heap.size (fun _ => True) v f.l
  | .panic chain, a, w' => FileAt W a ∧ a.defers = [fileD W] ∧ f.l = [] ∧ chain = [{ v := .iface 80 (.agg #[.int .i64 f.e, .int .i64 f.pos.line, .int .i64 f.pos.col]), recovered := false }] ∧ ∃ v vb vb' vc, FileIn W v vb vb' vc w'
  | _, _, _ => False
theorem file_results {W : World} {a : Act} {w' : World} {v vl vc ve : Value} (ha : FileAt W a) (h : FileIn W v vl vc ve w') : (results Tryd.f15 a.tmps).run Tryd.prog w' = .ok (.tuple #[v, .agg #[vl, vc], ve]) w' :=
  results_3 rfl a.tmps w' ha.p ha.q ha.r (load_list h.ca) (load_pos h.cb) (load_errno h.cc)
theorem fileQ_post {W : World} {f : Pf} : ∀ (e : Exit) (a : Act) (w' : World), FileQ W f e a w' → bodyPostD Tryd.prog Tryd.f15 (FileOut W f) e a w'
  | .ret, a, w', ⟨ha, hd, v, hi, hr⟩ => by
    show Leaves _ _ _ _ _ _ _
    rcases hd with hd | hd
    · rw [hd]
      exact ⟨_, file_results ha hi, v, rfl, hr, hi.bel⟩
    · rw [hd]
      refine leaves_cons (f := 26) (args := #[.pointer (some ⟨W.heap.size, 0, none⟩), .pointer (some ⟨W.heap.size + 1, 0, none⟩), .pointer (some ⟨W.heap.size + 1 + 1, 0, none⟩)]) (by simp) (by simp [go_sem]) ?_
      refine (file1_idle _ _ _ w').mono ?_
      rintro e u' w'' ⟨rfl, rfl, rfl⟩
      exact ⟨_, file_results ha hi, v, rfl, hr, hi.bel⟩
  | .panic chain, a, w', ⟨ha, hd, hl, hc, v, vb, vb', vc, hi⟩ => by
    show Leaves _ _ _ _ _ _ _
    rw [hd, hc]
    refine leaves_cons (f := 26) (args := #[.pointer (some ⟨W.heap.size, 0, none⟩), .pointer (some ⟨W.heap.size + 1, 0, none⟩), .pointer (some ⟨W.heap.size + 1 + 1, 0, none⟩)]) (by simp) (by simp [go_sem]) ?_
    refine (file1_panic f.e f.pos [] w' hi.ca hi.cb hi.cc (Nat.lt_succ_self _) (Nat.lt_succ_self _)).mono ?_
    rintro e u' w'' ⟨rfl, rfl, h1, h2, h3, h4⟩
    have hI : FileIn W (.slice none 0 0) (.int .i64 f.pos.line) (.int .i64 f.pos.col) (.int .i64 f.e) w'' := ⟨h1, h2, h3, hi.bel.trans h4⟩
    refine ⟨_, file_results ha hI, _, rfl, ?_, hI.bel⟩
    rw [hl]
    exact Kd.R_nil _ _ _ _ _
  | .normal, a, w', h => h.elim
  | .exit _, a, w', h => h.elim
  | .goto _, a, w', h => h.elim
  | .outgrown, a, w', h => h.elim
theorem Fm.inn {b : Nat} {en : Pos} {W : World} {v : Value} {l : List De} {ws : List Wd} {wr : World} (h : Fm b en W v l ws wr) : FileIn W v (.int .i64 0) (.int .i64 0) (.int .i64 0) wr := ⟨h.ca, h.cb, h.cc, h.bel⟩
/-- A list with a new element at its end, that was 0 till now. -/
theorem list_set {l : List De} {d : De} : (l ++ [de0]).set l.length d = l ++ [d] := by
  induction l with
  | nil => rfl
  | cons x l ih => show x :: (l ++ [de0]).set l.length d = _; rw [ih]; rfl
theorem list_seg {W : World} {base g n cap : Nat} {ok okp : Nat → Prop} {l : List De} {d : De} {cs : List Value} (h : kP.R 49 W base ok (.slice (some ⟨g, 0, none⟩) n cap) (l ++ [de0])) (hcl : cs.length = 8) (hM : kP.M W base okp d cs) (hokp : ∀ k, okp k → ok k ∧ k ≠ g) :
    kP.R 49 (W.setCells g (l.length * 8) cs) base ok (.slice (some ⟨g, 0, none⟩) n cap) (l ++ [d]) ∧ W.grownBy (W.setCells g (l.length * 8) cs) (some g) := by
  have hn : n = l.length + 1 := by rw [(Kd.R_reads' h).1, List.length_append, List.length_singleton]
  obtain ⟨c, hc1, -, hc3, -⟩ := Kd.R_elem h de0 (l.length : Int) (by omega) (by omega)
  have hsz : kP.sz = 8 := rfl
  have hd : c.drop (0 + cs.length) = [] := List.drop_eq_nil_of_le (by rw [hcl, hc1, hsz]; omega)
  have h2 := Kd.R_seg h (l.length : Int) (by omega) (by omega) (c := c) (seg := cs) (j := 0) hc1 hc3 (by rw [hcl, hsz]; omega) (x' := d) (by rw [List.take_zero, List.nil_append, hd, List.append_nil]; exact hM) hokp
  rw [Int.toNat_natCast, list_set] at h2
  exact h2
end Go.Proofs.YtfcpfbdlkanlpaaDoor

namespace Go.Proofs.YtfcpfbdlkanlpaaDoor
open Go.RowKit Go.Proofs.YtfcpfbdlkanlpaaDoorW.PrintWords Go.Proofs.YtfcpfbdlkanlpaaDoorW.PrintLast
set_option linter.unusedVariables false
set_option linter.unusedSimpArgs false

theorem reads_zero {X : World} {z : Nat} (h : X.heap[z]? = some zDecl) : ReadsRow (fun (x : De) cs => x = de0 ∧ cs = [.int .i64 0, .string ⟨#[]⟩, .int .i64 0, .int .i64 0, .slice none 0 0, .slice none 0 0, .slice none 0 0, .slice none 0 0]) 8 X (some ⟨z, 0, none⟩) 1 [de0] := by
  refine ⟨rfl, by omega, fun _ => ⟨⟨z, 0, none⟩, rfl, fun j p hp => ?_⟩⟩
  cases j with
  | succ j => simp at hp
  | zero =>
    obtain rfl : de0 = p := by simpa using hp
    refine ⟨_, rfl, ⟨rfl, rfl⟩, fun i u hu => ?_⟩
    rw [Nat.zero_mul, Nat.zero_add, add_plain, blk_cell h i]
    simpa using hu
/-- An element behind the list that is in the making, still zero; nothing else has turned but that list's row. -/
structure Fz (b : Nat) (W : World) (v : Value) (l : List De) (X : World) (g cap : Nat) (w9 : World) : Prop where
  row : kP.R 49 w9 W.heap.size (fun k => b < k) (.slice (some ⟨g, 0, none⟩) (l.length + 1) cap) (l ++ [de0])
  gr : X.grownBy w9 v.ownBlock
  own : v.ownBlock = some g ∨ X.heap.size ≤ g
  bel : Below W.heap.size W w9
theorem file_app_step {ops : Array Oper} {o : Oper} {a : Act} {Q : Exit → Act → World → Prop} {Kc : Act → World → Prop} {b : Nat} {en : Pos} {W X : World} {v : Value} {l : List De} {ws : List Wd} {z : Nat} (hw : Region.wanted o (yielded ops a.tmps) = true) (s x : Operand)
    (ho : o.op = .call { callee := .builtin .append, args := #[s, x], argTypes := #[33, 33] }) (hs : a.eval s = v) (hx : a.eval x = .slice (some ⟨z, 0, none⟩) 1 1) (HX : Aside0 (Fm b en W v l ws X)) (hz : Aside0 (X.heap[z]? = some zDecl)) (hl : (l.length + 1) * 136 ≤ 140737488355328)
    (h : ∀ g cap w9, Aside0 (Fz b W v l X g cap w9) → Kc (a.put o.dst (.slice (some ⟨g, 0, none⟩) (l.length + 1) cap)) w9) : if Region.wanted o (yielded ops a.tmps) = true then Oper.wp Tryd.prog o a X Kc Q else Kc (a.put o.dst undef) X := by
  have H := HX.out
  have hlt := H.lt
  refine Kd.R_append_rows_step kP (w0 := W) W.heap.size hw s x 33 49 _ 136 ho Tryd.underlying33 info_pd rfl (by decide) (by decide) v l [de0] _ 1 1 (fun k => b < k) (fun _ => False) hs hx H.row (reads_zero hz.out) (fun x cs hx => ?_) (fun _ hk => hk.elim) (fun k hk => Nat.lt_of_lt_of_le hlt hk) H.bel H.bel.size hl ?_
  · obtain ⟨rfl, rfl⟩ := hx
    exact kDe_mkM _ _ _ de0 (Kd.R_nil _ _ _ _ _) (Kd.R_nil _ _ _ _ _) (Kd.R_nil _ _ _ _ _) (Kd.R_nil _ _ _ _ _)
  · intro v1 w9 ho1 hb1 hg1 hat
    obtain ⟨g, cap, e, hbg, hgl, cells, hc⟩ := Kd.R_form ho1 (by rw [List.length_append, List.length_singleton]; omega)
    rw [List.length_append, List.length_singleton] at e
    subst e
    refine h g cap w9 ⟨⟨ho1, hg1, ?_, hb1⟩⟩
    rcases hat with e | ⟨k, e, hk⟩
    · exact .inl e.symm
    · obtain rfl : g = k := by simpa [Value.ownBlock] using e
      exact .inr hk
/-- The element is there; the list's own cell is to be written yet. -/
structure Fy (b : Nat) (W : World) (v : Value) (l : List De) (d : De) (X : World) (g cap : Nat) (w9 : World) : Prop where
  row : kP.R 49 w9 W.heap.size (fun k => b < k) (.slice (some ⟨g, 0, none⟩) (l.length + 1) cap) (l ++ [d])
  keep : ∀ k, k < X.heap.size → some k ≠ v.ownBlock → w9.heap[k]? = X.heap[k]?
  bel : Below W.heap.size W w9
theorem Fz.elem {b : Nat} {W X w9 : World} {v : Value} {l : List De} {g cap : Nat} (h : Fz b W v l X g cap w9) : ∃ u0 u1 u2 u3 u4 u5 u6 u7, (w9.cell? ⟨g, l.length * 8, none⟩ = some u0 ∧ w9.cell? ⟨g, l.length * 8 + 1, none⟩ = some u1 ∧ w9.cell? ⟨g, l.length * 8 + 2, none⟩ = some u2 ∧ w9.cell? ⟨g, l.length * 8 + 3, none⟩ = some u3 ∧ w9.cell? ⟨g, l.length * 8 + 4, none⟩ = some u4 ∧ w9.cell? ⟨g, l.length * 8 + 5, none⟩ = some u5 ∧ w9.cell? ⟨g, l.length * 8 + 6, none⟩ = some u6 ∧ w9.cell? ⟨g, l.length * 8 + 7, none⟩ = some u7) ∧
    (w9.frozen? ⟨g, l.length * 8, none⟩ = false ∧ w9.frozen? ⟨g, l.length * 8 + 1, none⟩ = false ∧ w9.frozen? ⟨g, l.length * 8 + 2, none⟩ = false ∧ w9.frozen? ⟨g, l.length * 8 + 3, none⟩ = false ∧ w9.frozen? ⟨g, l.length * 8 + 4, none⟩ = false ∧ w9.frozen? ⟨g, l.length * 8 + 5, none⟩ = false ∧ w9.frozen? ⟨g, l.length * 8 + 6, none⟩ = false ∧ w9.frozen? ⟨g, l.length * 8 + 7, none⟩ = false) := by
  obtain ⟨c, hc1, -, hc3, hf⟩ := Kd.R_elem h.row de0 (l.length : Int) (by omega) (by omega)
  have hsz : kP.sz = 8 := rfl
  rw [Int.toNat_natCast, hsz] at hc3 hf
  rw [hsz] at hc1
  have k : ∀ j, (hj : j < 8) → c[j]? = some (c[j]'(by omega)) := fun j hj => List.getElem?_eq_getElem (by omega)
  exact ⟨_, _, _, _, _, _, _, _, ⟨hc3 0 _ (k 0 (by omega)), hc3 1 _ (k 1 (by omega)), hc3 2 _ (k 2 (by omega)), hc3 3 _ (k 3 (by omega)), hc3 4 _ (k 4 (by omega)), hc3 5 _ (k 5 (by omega)), hc3 6 _ (k 6 (by omega)), hc3 7 _ (k 7 (by omega))⟩, hf 0, hf 1, hf 2, hf 3, hf 4, hf 5, hf 6, hf 7⟩
theorem file_put {b : Nat} {en : Pos} {W X w9 : World} {v : Value} {l : List De} {d : De} {ws : List Wd} {g cap : Nat} {cs : List Value} (hcl : cs.length = 8) (HX : Fm b en W v l ws X) (H : Fz b W v l X g cap w9) (HM : kP.M X W.heap.size (fun k => b < k ∧ some k ≠ v.ownBlock ∧ k < X.heap.size) d cs) : Fy b W v l d X g cap (w9.setCells g (l.length * 8) cs) := by
  obtain ⟨g', cap', e, hbg, hgl, cells, hc⟩ := Kd.R_form H.row (by rw [List.length_append, List.length_singleton]; omega)
  obtain rfl : g = g' := by injection e with e1; injection e1 with e1; injection e1
  have hM9 := Kd.M_grown HM H.gr (fun k hk => hk.2.1)
  have hS := list_seg H.row hcl hM9 (fun k hk => ⟨hk.1, by
    rcases H.own with e | hge
    · intro e2; subst e2; exact hk.2.1 e.symm
    · have := hk.2.2; omega⟩)
  refine ⟨hS.1, ?_, ?_⟩
  · intro k hk hne
    have hkg : k ≠ g := by
      rcases H.own with e | hge
      · intro e2; subst e2; exact hne e.symm
      · omega
    exact (hS.2.block k (Nat.lt_of_lt_of_le hk H.gr.size) (fun e => hkg (Option.some.inj e))).trans (H.gr.block k hk hne)
  · exact H.bel.grown hS.2 H.bel.size (fun k e => by cases e; exact hbg)
theorem Fz.far {b : Nat} {en : Pos} {W X w9 : World} {v : Value} {l : List De} {ws : List Wd} {g cap : Nat} (h : Fz b W v l X g cap w9) (HX : Fm b en W v l ws X) : W.heap.size ≠ g ∧ w9.heap[W.heap.size]? = some (.cells #[v] 33 (0, 0)) := by
  have h1 := HX.hb
  have h2 := HX.lt
  have h3 := h.row.1 g rfl
  exact ⟨by omega, (h.gr.block _ (by omega) (fun e => by have := HX.row.1 _ e.symm; omega)).trans HX.ca⟩
theorem Fy.push {b : Nat} {en : Pos} {W X w10 : World} {v : Value} {l : List De} {d : De} {ws : List Wd} {g cap : Nat} (h : Fy b W v l d X g cap w10) (HX : Fm b en W v l ws X) : Fm b en W (.slice (some ⟨g, 0, none⟩) (l.length + 1) cap) (l ++ [d]) ws (w10.setCell ⟨W.heap.size, 0, none⟩ (.slice (some ⟨g, 0, none⟩) (l.length + 1) cap)) :=
  HX.push h.row h.keep h.bel
theorem Fy.cell {b : Nat} {en : Pos} {W X w10 : World} {v : Value} {l : List De} {d : De} {ws : List Wd} {g cap : Nat} (h : Fy b W v l d X g cap w10) (HX : Fm b en W v l ws X) : w10.heap[W.heap.size]? = some (.cells #[v] 33 (0, 0)) := by
  have h1 := HX.hb
  have h2 := HX.lt
  exact (h.keep _ (by omega) (fun e => by have := HX.row.1 _ e.symm; omega)).trans HX.ca
theorem Fm.outCh {b : Nat} {en : Pos} {W X w1 : World} {v : Value} {l : List De} {ws : List Wd} (h : Fm b en W v l ws X) (hc : Ch b X w1) : FileIn W v (.int .i64 0) (.int .i64 0) (.int .i64 0) w1 := by
  have h1 := h.hb
  exact ⟨hc.blk h.ca (by omega), hc.blk h.cb (by omega), hc.blk h.cc (by omega), hc.lower h.bel h.bel.size (by omega)⟩
theorem Fm.start {en : Pos} {w w1 w2 : World} {base : Nat} {v : Value} {ws : List Wd} (h : FileIn w (.slice none 0 0) (.int .i64 0) (.int .i64 0) (.int .i64 0) w1) {okw : Nat → Prop} (hr : kWd.R 86 w1 base okw v ws) (hbase : w.heap.size ≤ base) (hb : Below w1.heap.size w1 w2) (hk : ∀ x ∈ ws, x.ok) :
    Fm w2.heap.size en w (.slice none 0 0) [] ws (w2.alloc (.cells #[v, .int .i64 en.line, .int .i64 en.col] 84)) := by
  have h2 : w.heap.size + 2 < w2.heap.size := Nat.lt_of_lt_of_le (blk_lt h.cc) hb.size
  have hI := (h.below hb).alloc (.cells #[v, .int .i64 en.line, .int .i64 en.col] 84)
  have q := Kd.Q_bound (Kd.Q_below (Kd.Q_lower (Kd.Q_of_R hr) hbase) hb)
  refine ⟨⟨v, ⟨blk_new _ _, Kd.Q_alloc (Kd.Q_mono q (fun k hk => hk.2.2.1)) _, hk⟩⟩, hI.ca, hI.cb, hI.cc, Kd.R_nil _ _ _ _ _, h2, hI.bel⟩
theorem words_keep {w w1 : World} {base : Nat} {v : Value} {ws : List Wd} (hs : base = w.heap.size + 3) (h : kWd.R 86 w1 base (fun _ => True) v ws) (u0 u1 u2 : Value) :
    kWd.R 86 (((w1.setCell ⟨w.heap.size + 1, 0, none⟩ u0).setCell ⟨w.heap.size + 1, 1, none⟩ u1).setCell ⟨w.heap.size + 1 + 1, 0, none⟩ u2) base (fun k => base ≤ k) v ws := by
  have h1 := Kd.R_mono (Kd.R_bound h) (fun k hk => hk.2.1)
  exact Kd.R_far (Kd.R_far (Kd.R_far h1 (p := ⟨w.heap.size + 1, 0, none⟩) (fun k hk => by show k ≠ w.heap.size + 1; omega) u0) (p := ⟨w.heap.size + 1, 1, none⟩) (fun k hk => by show k ≠ w.heap.size + 1; omega) u1) (p := ⟨w.heap.size + 1 + 1, 0, none⟩) (fun k hk => by show k ≠ w.heap.size + 1 + 1; omega) u2
theorem lexW_pos {text : ByteArray} (h : (lexW text).e = 0) : (lexW text).pos = pos0 := by
  unfold lexW at h ⊢
  split at h
  · exact absurd h (by decide)
  · rename_i hh
    rw [if_neg hh]
    unfold lexEnd at h ⊢
    split at h
    · rename_i h2; rw [if_pos h2]
    · rename_i h2; exact absurd h h2
theorem Fm.lowM {b : Nat} {en : Pos} {W X0 X : World} {v : Value} {l : List De} {ws : List Wd} {d : De} {cs : List Value} (h : Fm b en W v l ws X0) (hM : kP.M X X0.heap.size (fun k => k ≠ b) d cs) : kP.M X W.heap.size (fun k => b < k ∧ some k ≠ v.ownBlock ∧ k < X.heap.size) d cs := by
  have h2 := h.lt
  refine kP.M_mono (fun k hk => ⟨by have := hk.2.1; omega, fun e => ?_, hk.2.2.1⟩) (kP.M_lower h.bel.size (kP.M_bound hM))
  have := ((Kd.R_bound h.row).1 k e.symm).2.2.1
  have := hk.2.1
  omega
theorem decl_ok {base b : Nat} {en : Pos} {w w1 : World} {e : Ending} {r : Rs De} {d : De} {ws1 : List Wd} (h : Post base b en w (declV w b) r e w1) (hr : r = .ok d ws1) : ∃ A4 c4 A5 c5 A6 c6 A7 c7, e = .returned (.agg #[.int .i64 d.kind, .string d.name, .int .i64 d.pos.line, .int .i64 d.pos.col, .slice A4 d.fs.length c4, .slice A5 d.vs.length c5, .slice A6 d.ms.length c6, .slice A7 d.inner.length c7]) ∧ kP.M w1 w.heap.size (fun k => k ≠ b) d [.int .i64 d.kind, .string d.name, .int .i64 d.pos.line, .int .i64 d.pos.col, .slice A4 d.fs.length c4, .slice A5 d.vs.length c5, .slice A6 d.ms.length c6, .slice A7 d.inner.length c7] ∧ Got base b en ws1 w w1 := by
  rcases decl_split h with ⟨er, q, h1, -, -⟩ | ⟨d', ws', A4, c4, A5, c5, A6, c6, A7, c7, h1, h2, h3, h4⟩
  · rw [hr] at h1; cases h1
  · rw [hr] at h1
    cases h1
    exact ⟨A4, c4, A5, c5, A6, c6, A7, c7, h2, h3, h4⟩
theorem M_more {W X : World} {v : Value} {b : Nat} {d : De} {cs : List Value} (h : kP.M X W.heap.size (fun k => b < k ∧ some k ≠ v.ownBlock ∧ k < X.heap.size) d cs) (o : Obj) : kP.M (X.alloc o) W.heap.size (fun k => b < k ∧ some k ≠ v.ownBlock ∧ k < (X.alloc o).heap.size) d cs :=
  kP.M_mono (fun k hk => ⟨hk.1, hk.2.1, by rw [World.size_alloc]; have := hk.2.2; omega⟩) (Kd.M_alloc h o)
theorem wless {b : Nat} {w w1 : World} {m n : Nat} (h : wlen b w = n) (h1 : wlen b w1 = m) (hl : m < n) : wlen b w1 < wlen b w := by rw [h, h1]; exact hl
theorem Fm.seg {b : Nat} {en : Pos} {W Y : World} {g n cap : Nat} {l : List De} {d : De} {ws : List Wd} {cs : List Value} {okp : Nat → Prop} (hcl : cs.length = 8) (h : Fm b en W (.slice (some ⟨g, 0, none⟩) n cap) (l ++ [de0]) ws Y) (hM : kP.M Y W.heap.size okp d cs) (hok : ∀ k, okp k → b < k ∧ k ≠ g) : Fm b en W (.slice (some ⟨g, 0, none⟩) n cap) (l ++ [d]) ws (Y.setCells g (l.length * 8) cs) := by
  have h1 := h.hb
  have h2 := h.lt
  have hg : b < g := h.row.1 g rfl
  obtain ⟨hS, hG⟩ := list_seg h.row hcl hM hok
  have hb' : ∀ k, k ≤ b → (Y.setCells g (l.length * 8) cs).heap[k]? = Y.heap[k]? := fun k hk => hG.block k (by omega) (fun e => by have := Option.some.inj e; omega)
  obtain ⟨u, hu⟩ := h.pr
  exact ⟨⟨u, ⟨(hb' b (Nat.le_refl _)).trans hu.blk, Kd.Q_move hu.row (fun k hk => hb' k (by omega)), hu.ok⟩⟩, (hb' _ (by omega)).trans h.ca, (hb' _ (by omega)).trans h.cb, (hb' _ (by omega)).trans h.cc, hS, h1, h.bel.grown hG h.bel.size (fun k e => by cases e; omega)⟩
theorem Fz.done1 {b : Nat} {en : Pos} {W X w9 : World} {v : Value} {l : List De} {d : De} {ws : List Wd} {g cap : Nat} {A4 A5 A6 A7 : Option Addr} {c4 c5 c6 c7 : Nat} (HX : Fm b en W v l ws X) (H : Fz b W v l X g cap w9) (HM : kP.M X W.heap.size (fun k => b < k ∧ some k ≠ v.ownBlock ∧ k < X.heap.size) d [.int .i64 d.kind, .string d.name, .int .i64 d.pos.line, .int .i64 d.pos.col, .slice A4 d.fs.length c4, .slice A5 d.vs.length c5, .slice A6 d.ms.length c6, .slice A7 d.inner.length c7]) :
    Fm b en W (.slice (some ⟨g, 0, none⟩) (l.length + 1) cap) (l ++ [d]) ws (((((((((w9.setCell ⟨g, l.length * 8, none⟩ (.int .i64 d.kind)).setCell ⟨g, l.length * 8 + 1, none⟩ (.string d.name)).setCell ⟨g, l.length * 8 + 2, none⟩ (.int .i64 d.pos.line)).setCell ⟨g, l.length * 8 + 3, none⟩ (.int .i64 d.pos.col)).setCell ⟨g, l.length * 8 + 4, none⟩ (.slice A4 d.fs.length c4)).setCell ⟨g, l.length * 8 + 5, none⟩ (.slice A5 d.vs.length c5)).setCell ⟨g, l.length * 8 + 6, none⟩ (.slice A6 d.ms.length c6)).setCell ⟨g, l.length * 8 + 7, none⟩ (.slice A7 d.inner.length c7)).setCell ⟨W.heap.size, 0, none⟩ (.slice (some ⟨g, 0, none⟩) (l.length + 1) cap)) :=
  (file_put rfl HX H HM).push HX
theorem setCell_swap (w : World) (p q : Addr) (u v : Value) (h : p.block ≠ q.block) : (w.setCell p u).setCell q v = (w.setCell q v).setCell p u := by
  unfold World.setCell
  simp only [World.mk.injEq, and_true]
  apply Array.ext_getElem?
  intro i
  simp only [Array.getElem?_modify]
  by_cases h1 : q.block = i
  · have h2 : p.block ≠ i := fun e => h (by rw [e, h1])
    simp [h1, h2]
  · by_cases h2 : p.block = i
    · simp [h1, h2]
    · simp [h1, h2]
theorem swap8 (w : World) (L : Addr) (v : Value) (g o : Nat) (h : L.block ≠ g) (u0 u1 u2 u3 u4 u5 u6 u7 : Value) : (((((((((w.setCell L v).setCell ⟨g, o, none⟩ u0).setCell ⟨g, o + 1, none⟩ u1).setCell ⟨g, o + 2, none⟩ u2).setCell ⟨g, o + 3, none⟩ u3).setCell ⟨g, o + 4, none⟩ u4).setCell ⟨g, o + 5, none⟩ u5).setCell ⟨g, o + 6, none⟩ u6).setCell ⟨g, o + 7, none⟩ u7) = ((((((((w.setCell ⟨g, o, none⟩ u0).setCell ⟨g, o + 1, none⟩ u1).setCell ⟨g, o + 2, none⟩ u2).setCell ⟨g, o + 3, none⟩ u3).setCell ⟨g, o + 4, none⟩ u4).setCell ⟨g, o + 5, none⟩ u5).setCell ⟨g, o + 6, none⟩ u6).setCell ⟨g, o + 7, none⟩ u7).setCell L v := by
  rw [setCell_swap w L ⟨g, o, none⟩ v u0 h, setCell_swap _ L ⟨g, o + 1, none⟩ v u1 h, setCell_swap _ L ⟨g, o + 2, none⟩ v u2 h, setCell_swap _ L ⟨g, o + 3, none⟩ v u3 h, setCell_swap _ L ⟨g, o + 4, none⟩ v u4 h, setCell_swap _ L ⟨g, o + 5, none⟩ v u5 h, setCell_swap _ L ⟨g, o + 6, none⟩ v u6 h, setCell_swap _ L ⟨g, o + 7, none⟩ v u7 h]
end Go.Proofs.YtfcpfbdlkanlpaaDoor

namespace Go.Proofs.YtfcpfbdlkanlpaaDoor
open Go.RowKit Go.Proofs.YtfcpfbdlkanlpaaDoorW.PrintWords Go.Proofs.YtfcpfbdlkanlpaaDoorW.PrintLast
set_option linter.unusedVariables false
set_option linter.unusedSimpArgs false

def cntF (l : Array Bool) : Nat := (l.toList.filter (fun b => !b)).length
theorem filter_set (l : List Bool) : ∀ i : Nat, l[i]? = some false → ((l.set i true).filter (fun b => !b)).length + 1 = (l.filter (fun b => !b)).length := by
  induction l with
  | nil => intro i h; simp at h
  | cons b l ih =>
    intro i h
    cases i with
    | zero =>
      obtain rfl : b = false := by simpa using h
      simp
    | succ i =>
      have h' : l[i]? = some false := by simpa using h
      have := ih i h'
      rw [List.set_cons_succ, List.filter_cons, List.filter_cons]
      cases b <;> simp <;> omega
theorem getD_false {l : Array Bool} {i : Nat} (h : l.getD i true = false) : l.toList[i]? = some false := by
  rw [Array.getD_eq_getD_getElem?] at h
  cases hi : l[i]? with
  | none => rw [hi] at h; cases h
  | some b =>
    rw [hi] at h
    have : b = false := h
    rw [Array.getElem?_toList, hi, this]
theorem cnt_set {l : Array Bool} {i : Nat} (h : l.getD i true = false) : cntF (l.setIfInBounds i true) + 1 = cntF l := by
  unfold cntF
  rw [Array.toList_setIfInBounds]
  exact filter_set _ _ (getD_false h)
theorem cnt_pos {l : Array Bool} {i : Nat} (h : l.getD i true = false) : 0 < cntF l := by have := cnt_set h; omega
section
variable {P : Program} {ops : Array Oper} {Q : Exit → Act → World → Prop}
theorem falls_go (ic : Nat) (G : Array Bool → Act → World → Prop) (hG : ∀ l a w, G l a w → l.getD ic true = false) (hne : ∀ l a w, G l a w → Region.ready .any ops l ≠ [])
    (hstep : ∀ l a w i, G l a w → i ∈ Region.ready .any ops l → wpOp P ops Q i (fun a' w' => G (l.setIfInBounds i true) a' w') a w) : ∀ (fuel : Nat) (l : Array Bool) (a : Act) (w : World), cntF l ≤ fuel → G l a w → wpAny P .any ops Q fuel l a w
  | 0, l, a, w, hc, h => by have := cnt_pos (hG l a w h); omega
  | fuel + 1, l, a, w, hc, h => by
    refine ⟨fun e => absurd e (hne l a w h), fun i hi => ?_⟩
    have hl := (mem_ready.1 hi).1
    have := cnt_set hl
    exact wpOp_mono (fun a' w' h' => falls_go ic G hG hne hstep fuel _ a' w' (by omega) h') (hstep l a w i h hi)
theorem region_falls {id : Nat} {a : Act} {w : World} (hm : P.follows .mixedOrders = true) (ic : Nat) (G : Array Bool → Act → World → Prop) (hG : ∀ l a w, G l a w → l.getD ic true = false) (hne : ∀ l a w, G l a w → Region.ready .any ops l ≠ [])
    (hstep : ∀ l a w i, G l a w → i ∈ Region.ready .any ops l → wpOp P ops Q i (fun a' w' => G (l.setIfInBounds i true) a' w') a w) (h0 : G (Array.replicate ops.size false) a w.drew) : (Code.region id ops true).wp P Q a w := by
  refine wp_region_any hm (falls_go ic G hG hne hstep ops.size _ a _ ?_ h0)
  unfold cntF
  have : (Array.replicate ops.size false).toList.length = ops.size := by simp
  exact Nat.le_trans (List.length_filter_le _ _) (Nat.le_of_eq this)
end
/-- Ways that meet again: no panic, eight slots forgotten. -/
def Meets (R : Act → World → Prop) : Exit → Act → World → Prop
  | .normal, a, w => R a w
  | _, _, _ => False
def slot8 (a : Act) (s : Nat) (u0 u1 u2 u3 u4 u5 u6 u7 : Value) : Act := (((((((a.put (some s) u0).put (some (s + 1)) u1).put (some (s + 2)) u2).put (some (s + 3)) u3).put (some (s + 4)) u4).put (some (s + 5)) u5).put (some (s + 6)) u6).put (some (s + 7)) u7
def gotS8 (a0 : Act) (s : Nat) (a : Act) : Prop := a = slot8 a0 s (a.tmps.getD s undef) (a.tmps.getD (s + 1) undef) (a.tmps.getD (s + 2) undef) (a.tmps.getD (s + 3) undef) (a.tmps.getD (s + 4) undef) (a.tmps.getD (s + 5) undef) (a.tmps.getD (s + 6) undef) (a.tmps.getD (s + 7) undef)
theorem wp_meet8 {P : Program} {c : Code} {Q : Exit → Act → World → Prop} {a0 : Act} {w : World} (s : Nat) (Fw : World → Prop) (h : c.wp P (Meets fun a w => gotS8 a0 s a ∧ Aside0 (Fw w)) a0 w) (k : ∀ u0 u1 u2 u3 u4 u5 u6 u7 w', Aside0 (Fw w') → Q .normal (slot8 a0 s u0 u1 u2 u3 u4 u5 u6 u7) w') : c.wp P Q a0 w := by
  refine Code.wp_mono (fun e a w hq => ?_) h
  cases e with
  | normal =>
    obtain ⟨h1, h2⟩ := (show gotS8 a0 s a ∧ Aside0 (Fw w) from hq)
    have h1' : a = slot8 a0 s _ _ _ _ _ _ _ _ := h1
    rw [h1']
    exact k _ _ _ _ _ _ _ _ _ h2
  | exit id => exact hq.elim
  | goto l => exact hq.elim
  | ret => exact hq.elim
  | panic ch => exact hq.elim
  | outgrown => exact hq.elim
/-- How a list of what has come up looks at. -/
theorem getD_set_or {l : Array Bool} {i j : Nat} (h : (l.setIfInBounds i true).getD j false = true) : i = j ∨ l.getD j false = true := by
  by_cases e : i = j
  · exact .inl e
  · exact .inr (by rw [← getD_set_ne false e]; exact h)
theorem put_get {a : Act} {d j : Nat} {u : Value} (h : d ≠ j) : (a.put (some d) u).tmps.getD j undef = a.tmps.getD j undef := by
  simp [Act.put, Array.getElem?_setIfInBounds_ne h]
theorem put_same {a : Act} {d : Nat} {u : Value} (h : d < a.tmps.size) : (a.put (some d) u).tmps.getD d undef = u := by
  simp [Act.put, h]
/-- The frame of parse.File while a declaration is being read: what has come up of the region's first three operations lies in slots s0, s0 + 1, s0 + 2. -/
structure Fg (W : World) (b g7 : Nat) (p : Pos) (v : Value) (s0 : Nat) (l : Array Bool) (a : Act) : Prop where
  at_ : FileAt W a
  df : a.defers = [fileD W]
  sz : a.tmps.size = 70
  t6 : a.tmps.getD 6 undef = .pointer (some ⟨b, 0, none⟩)
  t7 : a.tmps.getD 7 undef = .pointer (some ⟨g7, 0, none⟩)
  t0 : l.getD 0 false = true → a.tmps.getD s0 undef = v
  t1 : l.getD 1 false = true → a.tmps.getD (s0 + 1) undef = .pointer (some ⟨b, 0, none⟩)
  t2 : l.getD 2 false = true → a.tmps.getD (s0 + 2) undef = .agg #[.int .i64 p.line, .int .i64 p.col]
theorem Fg.put {W : World} {b g7 : Nat} {p : Pos} {v : Value} {s0 : Nat} {l : Array Bool} {a : Act} (h : Fg W b g7 p v s0 l a) (i : Nat) (d : Nat) (u : Value) (hs : 7 < s0) (hs2 : s0 + 2 < 70) (hd : 7 < d) (hu0 : i = 0 → d = s0 ∧ u = v) (hu1 : i = 1 → d = s0 + 1 ∧ u = .pointer (some ⟨b, 0, none⟩)) (hu2 : i = 2 → d = s0 + 2 ∧ u = .agg #[.int .i64 p.line, .int .i64 p.col]) (ho0 : d = s0 → i = 0) (ho1 : d = s0 + 1 → i = 1) (ho2 : d = s0 + 2 → i = 2) :
    Fg W b g7 p v s0 (l.setIfInBounds i true) (a.put (some d) u) := by
  refine ⟨⟨?_, ?_, ?_⟩, h.df, ?_, ?_, ?_, fun hl => ?_, fun hl => ?_, fun hl => ?_⟩
  · rw [put_get (by omega)]; exact h.at_.p
  · rw [put_get (by omega)]; exact h.at_.q
  · rw [put_get (by omega)]; exact h.at_.r
  · show (a.tmps.setIfInBounds d u).size = 70; rw [Array.size_setIfInBounds]; exact h.sz
  · rw [put_get (by omega)]; exact h.t6
  · rw [put_get (by omega)]; exact h.t7
  · by_cases e : i = 0
    · obtain ⟨rfl, rfl⟩ := hu0 e
      exact put_same (by rw [h.sz]; omega)
    · rw [put_get (fun q => e (ho0 q))]
      exact h.t0 ((getD_set_or hl).resolve_left e)
  · by_cases e : i = 1
    · obtain ⟨rfl, rfl⟩ := hu1 e
      exact put_same (by rw [h.sz]; omega)
    · rw [put_get (fun q => e (ho1 q))]
      exact h.t1 ((getD_set_or hl).resolve_left e)
  · by_cases e : i = 2
    · obtain ⟨rfl, rfl⟩ := hu2 e
      exact put_same (by rw [h.sz]; omega)
    · rw [put_get (fun q => e (ho2 q))]
      exact h.t2 ((getD_set_or hl).resolve_left e)
end Go.Proofs.YtfcpfbdlkanlpaaDoor
