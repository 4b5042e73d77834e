/- The parser in memory; peek, next, have, stop, want, by contract. -/
import Derived.Test.YtfcpfbdlkanlpaaDoorLexEnd
import Derived.Test.YtfcpfbdlkanlpaaDoorParseP
import Derived.WalkLawsBesides
namespace Go.Proofs.YtfcpfbdlkanlpaaDoor
open Go.RowKit Go.Proofs.YtfcpfbdlkanlpaaDoorW.PrintWords Go.Proofs.YtfcpfbdlkanlpaaDoorW.PrintLast
set_option linter.unusedVariables false
set_option linter.unusedSimpArgs false

/-- Only block b turns; new blocks. -/
def Ch (b : Nat) (w w' : World) : Prop := w.grownBy w' (some b)
section
variable {b : Nat} {w w1 w2 : World}
theorem Ch.g (h : Ch b w w1) : w.grownBy w1 (some b) := h
theorem Ch.of (h : Below w.heap.size w w1) (b : Nat) : Ch b w w1 := grown_of_below h _
theorem Ch.refl (b : Nat) (w : World) : Ch b w w := ⟨rfl, rfl, rfl, Nat.le_refl _, fun _ _ _ => rfl⟩
theorem Ch.size (h : Ch b w w1) : w.heap.size ≤ w1.heap.size := h.g.size
theorem Ch.trans (h : Ch b w w1) (k : Ch b w1 w2) : Ch b w w2 :=
  ⟨k.g.os.trans h.g.os, k.g.tape.trans h.g.tape, k.g.output.trans h.g.output, Nat.le_trans h.size k.size, fun i hi hn => (k.g.block i (Nat.lt_of_lt_of_le hi h.size) hn).trans (h.g.block i hi hn)⟩
theorem Ch.below (h : Ch b w w1) (k : Below w1.heap.size w1 w2) : Ch b w w2 := h.trans (Ch.of k _)
theorem Ch.pre (h : Below w.heap.size w w1) (k : Ch b w1 w2) : Ch b w w2 := (Ch.of h _).trans k
theorem Ch.alloc (h : Ch b w w1) (o : Obj) : Ch b w (w1.alloc o) := h.below (below_alloc (Below.refl _ _) o)
theorem Ch.drew (h : Ch b w w1) : Ch b w w1.drew := h.below (below_drew (Below.refl _ _))
theorem Ch.set (h : Ch b w w1) (j : Nat) (u : Value) : Ch b w (w1.setCell ⟨b, j, none⟩ u) :=
  h.trans ⟨rfl, rfl, rfl, by simp [World.setCell], fun i hi hn => Below.heap_setCell _ _ _ _ (fun e => hn (by rw [e]))⟩
theorem Ch.far (h : Ch b w w1) {p : Addr} (hp : w.heap.size ≤ p.block) (u : Value) : Ch b w (w1.setCell p u) :=
  ⟨h.g.os, h.g.tape, h.g.output, by simpa [World.setCell] using h.size, fun i hi hn => (Below.heap_setCell _ _ _ _ (fun e => by omega)).trans (h.g.block i hi hn)⟩
theorem Ch.lower {B : Nat} {w0 : World} (h : Ch b w w1) (hb : Below B w0 w) (hB : B ≤ w.heap.size) (hbb : B ≤ b) : Below B w0 w1 := hb.grown h.g hB (fun k e => by cases e; exact hbb)
theorem Ch.far4 (h : Ch b w w1) {g : Nat} (hp : w.heap.size ≤ g) (u0 u1 u2 u3 : Value) : Ch b w ((((w1.setCell ⟨g, 0, none⟩ u0).setCell ⟨g, 1, none⟩ u1).setCell ⟨g, 2, none⟩ u2).setCell ⟨g, 3, none⟩ u3) :=
  (((h.far (p := ⟨g, 0, none⟩) hp u0).far (p := ⟨g, 1, none⟩) hp u1).far (p := ⟨g, 2, none⟩) hp u2).far (p := ⟨g, 3, none⟩) hp u3
end
/-- What is known of each word. -/
structure Wd.ok (x : Wd) : Prop where
  z : x.text.size ≤ 100000
  n : x.kind = 2 → numB x.text.data.toList = true
structure PrAt (base b : Nat) (en : Pos) (v : Value) (ws : List Wd) (w : World) : Prop where
  blk : w.heap[b]? = some (.cells #[v, .int .i64 en.line, .int .i64 en.col] 84 (0, 0))
  row : kWd.Q 86 w base (fun k => k < b) v ws
  ok : ∀ x ∈ ws, x.ok
section
variable {base b : Nat} {en : Pos} {v : Value} {ws : List Wd} {w w1 : World}
theorem PrAt.below (h : PrAt base b en v ws w) (hb : Below w.heap.size w w1) : PrAt base b en v ws w1 := ⟨blk_below h.blk hb, Kd.Q_below h.row hb, h.ok⟩
theorem PrAt.alloc (h : PrAt base b en v ws w) (o : Obj) : PrAt base b en v ws (w.alloc o) := h.below (below_alloc (Below.refl _ _) o)
theorem PrAt.drew (h : PrAt base b en v ws w) : PrAt base b en v ws w.drew := h.below (below_drew (Below.refl _ _))
theorem PrAt.lt (h : PrAt base b en v ws w) : b < w.heap.size := blk_lt h.blk
theorem PrAt.far (h : PrAt base b en v ws w) {p : Addr} (hp : b < p.block) (u : Value) : PrAt base b en v ws (w.setCell p u) :=
  ⟨(Below.heap_setCell _ _ _ _ (by omega)).trans h.blk, Kd.Q_far h.row (fun k hk => by omega) u, h.ok⟩
theorem PrAt.far4 (h : PrAt base b en v ws w) {g : Nat} (hp : b < g) (u0 u1 u2 u3 : Value) : PrAt base b en v ws ((((w.setCell ⟨g, 0, none⟩ u0).setCell ⟨g, 1, none⟩ u1).setCell ⟨g, 2, none⟩ u2).setCell ⟨g, 3, none⟩ u3) :=
  (((h.far (p := ⟨g, 0, none⟩) hp u0).far (p := ⟨g, 1, none⟩) hp u1).far (p := ⟨g, 2, none⟩) hp u2).far (p := ⟨g, 3, none⟩) hp u3
theorem PrAt.put (h : PrAt base b en v ws w) {v1 : Value} {ws1 : List Wd} (hr : kWd.Q 86 w base (fun k => k < b) v1 ws1) (hk : ∀ x ∈ ws1, x.ok) : PrAt base b en v1 ws1 (w.setCell ⟨b, 0, none⟩ v1) :=
  ⟨blk_put h.blk 0 v1 rfl, Kd.Q_far hr (fun k hk => by show k ≠ b; omega) v1, hk⟩
theorem PrAt.cells (h : PrAt base b en v ws w) : w.cell? ⟨b, 0, none⟩ = some v ∧ w.cell? ⟨b, 1, none⟩ = some (.int .i64 en.line) ∧ w.cell? ⟨b, 2, none⟩ = some (.int .i64 en.col) ∧ w.frozen? ⟨b, 0, none⟩ = false :=
  ⟨blk_cell h.blk 0, blk_cell h.blk 1, blk_cell h.blk 2, blk_frozen h.blk 0⟩
theorem PrAt.form (h : PrAt base b en v ws w) : ∃ A c, v = .slice A ws.length c ∧ ws.length ≤ c ∧ kWd.C w A ws.length ws := Kd.Q_reads h.row
end
theorem addr_add_zero (a : Addr) : a.add 0 = a := by unfold Addr.add; obtain ⟨bl, off, sp⟩ := a; cases sp <;> simp
/-- The parser stands ahead of these words; nothing else has turned. -/
def Got (base b : Nat) (en : Pos) (ws : List Wd) (w w' : World) : Prop := ∃ v, PrAt base b en v ws w' ∧ Ch b w w'
def wdV (x : Wd) : Value := .agg #[.int .i64 x.kind, .string x.text, .int .i64 x.pos.line, .int .i64 x.pos.col]
theorem size_wd : (Tryd.prog.info? 86).map (·.size) = some 4 := by kernel_rfl
theorem put4 {w : World} {g : Nat} {t : TypeId} {a0 a1 a2 a3 : Value} (b0 b1 b2 b3 : Value) (h : w.heap[g]? = some (.cells #[a0, a1, a2, a3] t (0, 0))) : ((((w.setCell ⟨g, 0, none⟩ b0).setCell ⟨g, 1, none⟩ b1).setCell ⟨g, 2, none⟩ b2).setCell ⟨g, 3, none⟩ b3).heap[g]? = some (.cells #[b0, b1, b2, b3] t (0, 0)) :=
  blk_put (blk_put (blk_put (blk_put (cs' := #[b0, a1, a2, a3]) h 0 b0 (by simp)) (cs' := #[b0, b1, a2, a3]) 1 b1 (by simp)) (cs' := #[b0, b1, b2, a3]) 2 b2 (by simp)) 3 b3 (by simp)
set_option maxHeartbeats 1000000 in
theorem peek_calls {base b : Nat} {en : Pos} {v : Value} {ws : List Wd} (w : World) (h : PrAt base b en v ws w) :
    Calls Tryd.prog 28 #[.pointer (some ⟨b, 0, none⟩)] w fun e w' => e = .returned (.agg #[.int .i64 (peekW en ws).kind, .string (peekW en ws).text, .int .i64 (peekW en ws).pos.line, .int .i64 (peekW en ws).pos.col]) ∧ Below w.heap.size w w' := by
  obtain ⟨c0, c1, c2, f0⟩ := h.cells
  have hl := h.lt
  have hne : b ≠ w.heap.size := by omega
  obtain ⟨A, c, rfl, hlc, hC⟩ := h.form
  have hmx := Kd.C_max hC
  have HC := Lib.hid hC
  clear h hC
  rcases ws with _ | ⟨x, ws⟩
  · go_enter Tryd.func28, Tryd.ntmps28
    go_wp2
    refine bodyPost_ret (results_c rfl _ _ w.heap.size _ _ _ _ rfl (blk_new w _) Tryd.underlying86 rfl size_wd) rfl ?_
    exact ⟨rfl, below_alloc (Below.refl _ _) _⟩
  · obtain ⟨ad, rfl, d0, d1, d2, d3⟩ := C_wd HC.out (i := 0) (x := x) rfl
    rw [Nat.zero_mul, addr_add_zero] at d0 d1 d2 d3
    have a0 : ∀ o, (w.alloc o).cell? ad = some (.int .i64 x.kind) := fun o => pw_cell_below (below_alloc (Below.refl _ _) o) d0
    have a1 : ∀ o, (w.alloc o).cell? ⟨ad.block, ad.off + 1, none⟩ = some (.string x.text) := fun o => pw_cell_below (below_alloc (Below.refl _ _) o) d1
    have a2 : ∀ o, (w.alloc o).cell? ⟨ad.block, ad.off + 2, none⟩ = some (.int .i64 x.pos.line) := fun o => pw_cell_below (below_alloc (Below.refl _ _) o) d2
    have a3 : ∀ o, (w.alloc o).cell? ⟨ad.block, ad.off + 3, none⟩ = some (.int .i64 x.pos.col) := fun o => pw_cell_below (below_alloc (Below.refl _ _) o) d3
    clear d0 d1 d2 d3
    have hln : 0 < (x :: ws).length := by simp
    have hb0 : (((x :: ws).length : Int) == 0) = false := beq_eq_false_iff_ne.2 (by omega)
    obtain ⟨n, hn⟩ : ∃ n, n = (x :: ws).length := ⟨_, rfl⟩
    rw [← hn] at c0 hlc hmx hln hb0
    have HN := Lib.hid hn
    clear hn
    go_enter Tryd.func28, Tryd.ntmps28
    go_wp2
    refine bodyPost_ret (results_c rfl _ _ w.heap.size _ _ _ _ rfl (blk_new w _) Tryd.underlying86 rfl size_wd) rfl ?_
    exact ⟨rfl, below_alloc (Below.refl _ _) _⟩
theorem info_wd : ∃ i, Tryd.prog.info? 86 = some i ∧ i.size = 4 := by
  have h := size_wd
  cases hi : Tryd.prog.info? 86 with
  | none => rw [hi] at h; simp at h
  | some i => rw [hi] at h; exact ⟨i, rfl, by simpa using h⟩
/-- The words but the first. -/
theorem PrAt.tail {base b : Nat} {en : Pos} {A : Option Addr} {n c : Nat} {ws : List Wd} {w : World} (h : PrAt base b en (.slice A n c) ws w) (hn : 1 ≤ ws.length) : PrAt base b en (.slice (if c = 1 then A else A.map (·.add (1 * 4))) (n - 1) (c - 1)) ws.tail (w.setCell ⟨b, 0, none⟩ (.slice (if c = 1 then A else A.map (·.add (1 * 4))) (n - 1) (c - 1))) := by
  have hq := Kd.Q_drop (k := 1) h.row hn
  rw [List.drop_one] at hq
  exact h.put hq (fun x hx => h.ok x (List.mem_of_mem_tail hx))
set_option maxHeartbeats 1000000 in
theorem pnext_calls {base b : Nat} {en : Pos} {v : Value} {ws : List Wd} (w : World) (h : PrAt base b en v ws w) :
    Calls Tryd.prog 54 #[.pointer (some ⟨b, 0, none⟩)] w fun e w' => e = .returned (.agg #[.int .i64 (peekW en ws).kind, .string (peekW en ws).text, .int .i64 (peekW en ws).pos.line, .int .i64 (peekW en ws).pos.col]) ∧ Got base b en ws.tail w w' := by
  have hl := h.lt
  obtain ⟨A, c, rfl, hlc, hC⟩ := h.form
  have hmx := Kd.C_max hC
  have H := Aside0.mk h
  clear h hC
  obtain ⟨iw, hiw, hiz⟩ := info_wd
  have hcut := cut_from (P := Tryd.prog) 76 86 .i64 Tryd.underlying76 hiw 4 hiz A ws.length c 1 (by decide)
  clear hiw hiz
  obtain ⟨x, hx⟩ : ∃ x, x = peekW en ws := ⟨_, rfl⟩
  have HX := Lib.hid hx
  rw [← hx]
  clear hx
  by_cases hn : ws.length = 0
  · have hb0 : decide (0 < ws.length) = false := decide_eq_false (by omega)
    have hnil := Lib.hid (List.eq_nil_of_length_eq_zero hn)
    clear hcut hn
    go_enter Tryd.func54, Tryd.ntmps54
    go_wp2_with (go_at_call 28; refine (peek_calls _ (H.out.alloc _)).mono ?_; rintro e w1 ⟨rfl, hb⟩; rw [← HX.out]; have H1 := Aside0.mk ((H.out.alloc _).below hb); obtain ⟨c0, c1, c2, f0⟩ := H1.out.cells; have hl1 := H1.out.lt; have bk := blk_below (blk_new w _) hb; obtain ⟨p0, p1, p2, p3⟩ := box4 bk; have q0 := blk_frozen bk 0; have q1 := blk_frozen bk 1; have q2 := blk_frozen bk 2; have q3 := blk_frozen bk 3; have hl2 := blk_lt bk; have BK := Aside0.mk bk; have HB := Aside0.mk (below_then (below_alloc (Below.refl _ _) _) (by rw [World.size_alloc]; omega) hb); clear hb bk)
    refine bodyPost_ret (results_c rfl _ _ w.heap.size _ _ _ _ rfl (blk_alloc (put4 _ _ _ _ BK.out) _) Tryd.underlying86 rfl size_wd) rfl ?_
    have ht : ws.tail = ws := by rw [hnil.out]; rfl
    rw [ht]
    exact ⟨rfl, _, (H1.out.far4 hl _ _ _ _).alloc _, ((Ch.of HB.out b).far4 (Nat.le_refl _) _ _ _ _).alloc _⟩
  · have hb0 : decide (0 < ws.length) = true := decide_eq_true (by omega)
    have hln : 1 ≤ ws.length := by omega
    have hc1 := hcut (by omega)
    obtain ⟨A', hA'⟩ : ∃ A', A' = (if c = (1 : Int).toNat then A else A.map (·.add ((1 : Int).toNat * 4))) := ⟨_, rfl⟩
    obtain ⟨n', hn'⟩ : ∃ n', n' = ws.length - (1 : Int).toNat := ⟨_, rfl⟩
    obtain ⟨c', hc'⟩ : ∃ c', c' = c - (1 : Int).toNat := ⟨_, rfl⟩
    rw [← hA', ← hn', ← hc'] at hc1
    have HV := Lib.hid (show Value.slice A' n' c' = Value.slice (if c = 1 then A else A.map (·.add (1 * 4))) (ws.length - 1) (c - 1) by rw [hA', hn', hc']; rfl)
    clear hn hcut hA' hn' hc'
    go_enter Tryd.func54, Tryd.ntmps54
    go_wp2_with (go_at_call 28; refine (peek_calls _ (H.out.alloc _)).mono ?_; rintro e w1 ⟨rfl, hb⟩; rw [← HX.out]; have H1 := Aside0.mk ((H.out.alloc _).below hb); obtain ⟨c0, c1, c2, f0⟩ := H1.out.cells; have hl1 := H1.out.lt; have bk := blk_below (blk_new w _) hb; obtain ⟨p0, p1, p2, p3⟩ := box4 bk; have q0 := blk_frozen bk 0; have q1 := blk_frozen bk 1; have q2 := blk_frozen bk 2; have q3 := blk_frozen bk 3; have hl2 := blk_lt bk; have BK := Aside0.mk bk; have HB := Aside0.mk (below_then (below_alloc (Below.refl _ _) _) (by rw [World.size_alloc]; omega) hb); clear hb bk)
    have H2 := H1.out.tail hln
    rw [← HV.out] at H2
    refine bodyPost_ret (results_c rfl _ _ w.heap.size _ _ _ _ rfl (blk_alloc (put4 _ _ _ _ (blk_far BK.out (p := ⟨b, 0, none⟩) (by show w.heap.size ≠ b; omega) _)) _) Tryd.underlying86 rfl size_wd) rfl ?_
    exact ⟨rfl, _, (H2.far4 hl _ _ _ _).alloc _, (((Ch.of HB.out b).set 0 _).far4 (Nat.le_refl _) _ _ _ _).alloc _⟩

/-! ### have -/
theorem fld1 (a c d : Int) (x : ByteArray) (w : World) : (Instr.field 86 (.agg #[.int .i64 a, .string x, .int .i64 c, .int .i64 d]) 1).run Tryd.prog w = .ok (.string x) w := by kernel_rfl
theorem fld2 (a c d : Int) (x : ByteArray) (w : World) : (Instr.field 86 (.agg #[.int .i64 a, .string x, .int .i64 c, .int .i64 d]) 2).run Tryd.prog w = .ok (.agg #[.int .i64 c, .int .i64 d]) w := by kernel_rfl
theorem str_eq {x t : ByteArray} {l : Bytes} (ht : t.data.toList = l) : (x.toList == t.toList) = decide (x.data.toList = l) := by
  rw [Lib.toList_data, Lib.toList_data, ht, beq_dec]
set_option maxHeartbeats 400000 in
set_option maxRecDepth 20000 in
theorem have_calls {base b : Nat} {en : Pos} {v : Value} {ws : List Wd} (t : ByteArray) (l : Bytes) (ht : t.data.toList = l) (w : World) (h : PrAt base b en v ws w) :
    Calls Tryd.prog 29 #[.pointer (some ⟨b, 0, none⟩), .string t] w fun e w' => e = .returned (.bool (haveB en l ws)) ∧ Got base b en (if haveB en l ws then ws.tail else ws) w w' := by
  have H := Aside0.mk h
  have hf1 := fld1
  clear h
  have hx := str_eq (x := (peekW en ws).text) ht
  obtain ⟨x, hxx⟩ : ∃ x, x = peekW en ws := ⟨_, rfl⟩
  unfold haveB
  rw [← hxx] at hx ⊢
  have HX := Lib.hid hxx
  clear hxx ht
  cases hd : decide (x.text.data.toList = l) with
  | true =>
    rw [hd] at hx
    have hx2 : (x.text.toList == t.toList) = true := hx
    clear hx hd
    go_enter Tryd.func29, Tryd.ntmps29
    go_wp2_with (first
      | (go_at_call 28; refine (peek_calls _ H.out).mono ?_; rintro e w1 ⟨rfl, hb⟩; rw [← HX.out]; have HB := Aside0.mk hb; clear hb)
      | (go_at_call 54; refine (pnext_calls _ (H.out.below HB.out)).mono ?_; rintro e w2 ⟨rfl, v', hp, hc⟩; have HP := Aside0.mk hp; have HC := Aside0.mk (Ch.pre HB.out hc); clear hp hc))
    go_ret
    exact ⟨rfl, v', HP.out, HC.out⟩
  | false =>
    rw [hd] at hx
    have hx2 : (x.text.toList == t.toList) = false := hx
    clear hx hd
    go_enter Tryd.func29, Tryd.ntmps29
    go_wp2_with (go_at_call 28; refine (peek_calls _ H.out).mono ?_; rintro e w1 ⟨rfl, hb⟩; rw [← HX.out]; have HB := Aside0.mk hb; clear hb)
    go_ret
    exact ⟨rfl, v, H.out.below HB.out, Ch.of HB.out _⟩

/-! ### stop -/
/-- A fault, on its way up. -/
def flt (e : Int) (p : Pos) : Ending := .panicked [{ v := .iface 80 (.agg #[.int .i64 e, .int .i64 p.line, .int .i64 p.col]), recovered := false }]
set_option maxHeartbeats 400000 in
theorem stop_calls (q : Value) (e : Int) (p : Pos) (w : World) :
    Calls Tryd.prog 33 #[q, .int .i64 e, .agg #[.int .i64 p.line, .int .i64 p.col]] w fun r w' => r = flt e p ∧ Below w.heap.size w w' := by
  go_enter Tryd.func33, Tryd.ntmps33
  go_wp2
  exact ⟨rfl, rfl, below_alloc (Below.refl _ _) _⟩
end Go.Proofs.YtfcpfbdlkanlpaaDoor
