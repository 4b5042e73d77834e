/- The scanner in memory. -/
import Derived.Test.YtfcpfbdlkanlpaaDoorLexP
import Derived.Deep.RegionHeld3
import Derived.Deep.RegionLaw
import Derived.Deep.DeepCutAuto
import Derived.RegionTactic
namespace Go.Proofs.YtfcpfbdlkanlpaaDoor
open Go.RowKit Go.Proofs.YtfcpfbdlkanlpaaDoorW.PrintWords Go.Proofs.YtfcpfbdlkanlpaaDoorW.PrintLast
set_option linter.unusedVariables false
set_option linter.unusedSimpArgs false

theorem info_lw : (Tryd.prog.info? 86).map (fun i => (i.zero, i.size, i.bytes)) = some (some (.agg #[.int .i64 0, .string ⟨#[]⟩, .int .i64 0, .int .i64 0]), 4, 40) := by kernel_rfl
def scCells (v : Value) (s : Sc) : Array Value := #[v, .int .i64 s.pos.line, .int .i64 s.pos.col, .int .i64 s.fr, .int .i64 s.ok, .string s.ot, .int .i64 s.op.line, .int .i64 s.op.col, .bool s.note, .bool s.slash, .int .i64 s.bg.line, .int .i64 s.bg.col, .int .i64 s.e, .int .i64 s.pl.line, .int .i64 s.pl.col]
structure ScAt (w0 : World) (b : Nat) (v : Value) (s : Sc) (w : World) : Prop where
  blk : w.heap[b]? = some (.cells (scCells v s) 112 (0, 0))
  own : kWd.R 86 w w0.heap.size (fun _ => True) v s.ws
  hb : Below w0.heap.size w0 w
  lo : w0.heap.size ≤ b
  n : s.ws.length ≤ 4000
/-- What a step may turn: the scanner, the row of its words; new blocks. -/
structure Stp (w : World) (b : Nat) (v v' : Value) (w' : World) : Prop where
  keep : KeepBut w w' b v.ownBlock
  nw : v'.ownBlock = v.ownBlock ∨ ∃ k, v'.ownBlock = some k ∧ w.heap.size ≤ k
theorem Stp.refl (w : World) (b : Nat) (v : Value) : Stp w b v v w := ⟨KeepBut.refl _ _ _, .inl rfl⟩
theorem Stp.trans {w w1 w2 : World} {b : Nat} {v v1 v2 : Value} (h : Stp w b v v1 w1) (k : Stp w1 b v1 v2 w2) : Stp w b v v2 w2 := by
  refine ⟨h.keep.trans k.keep h.nw, ?_⟩
  have hs := h.keep.1
  rcases k.nw with e | ⟨j, e, hj⟩
  · rw [e]; exact h.nw
  · exact .inr ⟨j, e, by omega⟩
theorem Stp.alloc {w w1 : World} {b : Nat} {v v1 : Value} (h : Stp w b v v1 w1) (o : Obj) : Stp w b v v1 (w1.alloc o) := h.trans ⟨KeepBut.of_below (below_alloc (Below.refl _ _) o) _ _, .inl rfl⟩
theorem Stp.drewN {w w1 : World} {b : Nat} {v v1 : Value} (h : Stp w b v v1 w1) (n : Nat) : Stp w b v v1 (w1.drewN n) := h.trans ⟨KeepBut.of_below (pw_below_drewN (Below.refl _ _) n) _ _, .inl rfl⟩
theorem Stp.drew {w w1 : World} {b : Nat} {v v1 : Value} (h : Stp w b v v1 w1) : Stp w b v v1 w1.drew := h.trans ⟨KeepBut.of_below (below_drew (Below.refl _ _)) _ _, .inl rfl⟩
theorem Stp.below {w w1 w2 : World} {b : Nat} {v v1 : Value} (h : Stp w b v v1 w1) (hb : Below w1.heap.size w1 w2) : Stp w b v v1 w2 := h.trans ⟨KeepBut.of_below hb _ _, .inl rfl⟩
theorem Stp.set {w w1 : World} {b : Nat} {v v1 : Value} (h : Stp w b v v1 w1) (j : Nat) (u : Value) : Stp w b v v1 (w1.setCell ⟨b, j, none⟩ u) := h.trans ⟨(KeepBut.refl _ _ _).set_ j u, .inl rfl⟩
section
variable {w0 w w1 : World} {b : Nat} {v : Value} {s : Sc}
theorem ScAt.below (h : ScAt w0 b v s w) (hb : Below w.heap.size w w1) : ScAt w0 b v s w1 := ⟨blk_below h.blk hb, Kd.R_below h.own hb, below_then h.hb h.hb.size hb, h.lo, h.n⟩
theorem ScAt.alloc (h : ScAt w0 b v s w) (o : Obj) : ScAt w0 b v s (w.alloc o) := h.below (below_alloc (Below.refl _ _) o)
theorem ScAt.drew (h : ScAt w0 b v s w) : ScAt w0 b v s w.drew := h.below (below_drew (Below.refl _ _))
theorem ScAt.drewN (h : ScAt w0 b v s w) (n : Nat) : ScAt w0 b v s (w.drewN n) := h.below (pw_below_drewN (Below.refl _ _) n)
theorem ScAt.set (h : ScAt w0 b v s w) (j : Nat) (u : Value) (s' : Sc) (hc : (scCells v s).setIfInBounds j u = scCells v s') (hw : s'.ws = s.ws) : ScAt w0 b v s' (w.setCell ⟨b, j, none⟩ u) :=
  ⟨hc ▸ blk_set h.blk j u, by rw [hw]; exact Kd.R_set h.own h.blk (by decide) j u, below_set h.hb h.lo, h.lo, by rw [hw]; exact h.n⟩
theorem ScAt.cells (h : ScAt w0 b v s w) : w.cell? ⟨b, 0, none⟩ = some v ∧ w.cell? ⟨b, 1, none⟩ = some (.int .i64 s.pos.line) ∧ w.cell? ⟨b, 2, none⟩ = some (.int .i64 s.pos.col) ∧ w.cell? ⟨b, 3, none⟩ = some (.int .i64 s.fr) ∧ w.cell? ⟨b, 4, none⟩ = some (.int .i64 s.ok) ∧ w.cell? ⟨b, 5, none⟩ = some (.string s.ot) ∧ w.cell? ⟨b, 6, none⟩ = some (.int .i64 s.op.line) ∧ w.cell? ⟨b, 7, none⟩ = some (.int .i64 s.op.col) ∧ w.cell? ⟨b, 8, none⟩ = some (.bool s.note) ∧ w.cell? ⟨b, 9, none⟩ = some (.bool s.slash) ∧ w.cell? ⟨b, 10, none⟩ = some (.int .i64 s.bg.line) ∧ w.cell? ⟨b, 11, none⟩ = some (.int .i64 s.bg.col) ∧ w.cell? ⟨b, 12, none⟩ = some (.int .i64 s.e) ∧ w.cell? ⟨b, 13, none⟩ = some (.int .i64 s.pl.line) ∧ w.cell? ⟨b, 14, none⟩ = some (.int .i64 s.pl.col) :=
  ⟨blk_cell h.blk 0, blk_cell h.blk 1, blk_cell h.blk 2, blk_cell h.blk 3, blk_cell h.blk 4, blk_cell h.blk 5, blk_cell h.blk 6, blk_cell h.blk 7, blk_cell h.blk 8, blk_cell h.blk 9, blk_cell h.blk 10, blk_cell h.blk 11, blk_cell h.blk 12, blk_cell h.blk 13, blk_cell h.blk 14⟩
theorem ScAt.free (h : ScAt w0 b v s w) (j : Nat) : w.frozen? ⟨b, j, none⟩ = false := blk_frozen h.blk j
theorem ScAt.lt (h : ScAt w0 b v s w) : b < w.heap.size := blk_lt h.blk
end

theorem ScAt.push {w0 w w1 : World} {b : Nat} {v v1 : Value} {s : Sc} {x : Wd} (h : ScAt w0 b v s w) (ho : kWd.R 86 w1 w0.heap.size (fun _ => True) v1 (s.ws ++ [x])) (hb : Below w0.heap.size w0 w1) (hg : w.grownBy w1 v.ownBlock) (hn : s.ws.length < 4000) :
    ScAt w0 b v1 { s with ws := s.ws ++ [x] } (w1.setCell ⟨b, 0, none⟩ v1) := by
  have bk := blk_grown h.blk hg (Kd.R_ne h.own h.blk (by decide))
  exact ⟨blk_put bk 0 v1 rfl, Kd.R_set ho bk (by decide) 0 v1, below_set hb h.lo, h.lo, by simp; omega⟩
theorem Stp.push {w w1 : World} {b : Nat} {v v1 : Value} (hg : w.grownBy w1 v.ownBlock) (hat : v1.ownBlock = v.ownBlock ∨ ∃ k, v1.ownBlock = some k ∧ w.heap.size ≤ k) : Stp w b v v1 (w1.setCell ⟨b, 0, none⟩ v1) :=
  ⟨(KeepBut.of_grown hg b).set_ 0 v1, hat⟩
theorem Stp.pre {w w1 w2 : World} {b : Nat} {v v1 : Value} (hb : Below w.heap.size w w1) (h : Stp w1 b v v1 w2) : Stp w b v v1 w2 := ((Stp.refl w b v).below hb).trans h

set_option maxHeartbeats 1000000 in
theorem sfail_calls (w0 : World) (b : Nat) (v : Value) (s : Sc) (e : Int) (p : Pos) (w : World) (h : ScAt w0 b v s w) :
    Calls Tryd.prog 53 #[.pointer (some ⟨b, 0, none⟩), .int .i64 e, .agg #[.int .i64 p.line, .int .i64 p.col]] w fun r w' => r = .returned (.tuple #[]) ∧ ScAt w0 b v (s.fail e p) w' ∧ Stp w b v v w' := by
  have hl := h.lt
  obtain ⟨c0, c1, c2, c3, c4, c5, c6, c7, c8, c9, c10, c11, c12, c13, c14⟩ := h.cells
  have f12 := h.free 12
  have f13 := h.free 13
  have f14 := h.free 14
  have hne : b ≠ w.heap.size := by omega
  clear c0 c1 c2 c3 c4 c5 c6 c7 c8 c9 c10 c11
  have H := Aside0.mk h
  clear h
  unfold Sc.fail
  by_cases he : s.e = 0
  · rw [if_pos he]
    have he' : (s.e == 0) = true := beq_iff_eq.2 he
    go_enter Tryd.func53, Tryd.ntmps53
    go_wp2
    go_region
    go_end0
    exact ⟨rfl, ((((H.out.set 12 _ { s with e := e } rfl rfl).set 13 _ { s with e := e, pl := ⟨p.line, s.pl.col⟩ } rfl rfl).set 14 _ { s with e := e, pl := p } rfl rfl).alloc _).drew, (((((Stp.refl _ _ _).set 12 _).set 13 _).set 14 _).alloc _).drew⟩
  · rw [if_neg he]
    have he' : (s.e == 0) = false := beq_eq_false_iff_ne.2 he
    go_enter Tryd.func53, Tryd.ntmps53
    go_wp2
    go_end0
    exact ⟨rfl, H.out.alloc _, (Stp.refl _ _ _).alloc _⟩
theorem slice_ofL {w : World} {base : Nat} {ok : Nat → Prop} {v : Value} {e : Nat} {α : Type} {d : Kd α} {xs : List α} (h : d.R e w base ok v xs) : ∃ A c n, v = .slice A n c := by
  obtain ⟨A, c, h⟩ := Kd.R_slice h; exact ⟨A, c, _, h⟩

set_option maxHeartbeats 1000000 in
theorem sadd_calls (w0 : World) (b : Nat) (v : Value) (s : Sc) (x : Wd) (w : World) (h : ScAt w0 b v s w) :
    Calls Tryd.prog 75 #[.pointer (some ⟨b, 0, none⟩), .agg #[.int .i64 x.kind, .string x.text, .int .i64 x.pos.line, .int .i64 x.pos.col]] w fun r w' => r = .returned (.tuple #[]) ∧ ∃ v', ScAt w0 b v' (s.add x) w' ∧ Stp w b v v' w' := by
  have hl := h.lt
  have hn := h.n
  have hml : s.ws.length ≤ 9223372036854775807 := by omega
  obtain ⟨A, c, hv⟩ := Kd.R_slice h.own
  subst hv
  obtain ⟨c0, _⟩ := h.cells
  have f0 := h.free 0
  have hne : b ≠ w.heap.size := by omega
  have H := Aside0.mk h
  clear h
  unfold Sc.add
  by_cases he : s.ws.length = 4000
  · rw [if_pos he]
    have he' : ((s.ws.length : Int) == 4000) = true := beq_iff_eq.2 (by omega)
    have HE := Lib.hid he
    clear he
    go_enter Tryd.func75, Tryd.ntmps75
    go_wp2_with (go_at_call 53; refine (sfail_calls w0 b _ s 4 x.pos _ (H.out.alloc _)).mono ?_; rintro e w2 ⟨rfl, hS, hT⟩; have HS := Aside0.mk hS; have HT := Aside0.mk (Stp.pre (below_alloc (Below.refl _ _) _) hT); clear hS hT)
    refine bodyPost_ret (results_none rfl _ _ _) rfl ?_
    exact ⟨rfl, _, HS.out, HT.out⟩
  · rw [if_neg he]
    have he' : ((s.ws.length : Int) == 4000) = false := beq_eq_false_iff_ne.2 (by omega)
    have hn1 : s.ws.length < 4000 := by omega
    have HE := Lib.hid he
    clear he
    go_enter Tryd.func75, Tryd.ntmps75
    have cc : ∀ o, (w.alloc o).cell? ⟨b, 0, none⟩ = some (.slice A s.ws.length c) := fun o => (H.out.alloc o).cells.1
    have cc2 : ∀ o o', ((w.alloc o).alloc o').cell? ⟨b, 0, none⟩ = some (.slice A s.ws.length c) := fun o o' => ((H.out.alloc o).alloc o').cells.1
    have hne2 : some b ≠ (Value.slice A s.ws.length c).ownBlock := Kd.R_ne H.out.own H.out.blk (by decide)
    have HN := Lib.hid hne2
    clear hne2
    have HSZ := Aside0.mk (show w.heap.size + 1 = (w.alloc (.cells #[.int .i64 x.kind, .string x.text, .int .i64 x.pos.line, .int .i64 x.pos.col] 86)).drew.heap.size from (World.size_alloc _ _).symm)
    have HX := Aside0.mk ((H.out.alloc (.cells #[.int .i64 x.kind, .string x.text, .int .i64 x.pos.line, .int .i64 x.pos.col] 86)).drew)
    go_wp2
    go_region_law (first | (refine app_step kWd (w0 := w0) (w.alloc (.cells #[.int .i64 x.kind, .string x.text, .int .i64 x.pos.line, .int .i64 x.pos.col] 86)).drew w0.heap.size (by rfl) (.tmp 18) (.tmp 20) 76 86 _ 40 rfl Tryd.underlying76 info_lw rfl (by decide) (by decide) _ s.ws x [.int .i64 x.kind, .string x.text, .int .i64 x.pos.line, .int .i64 x.pos.col] (fun _ => True) (fun _ => False) rfl rfl (congrArg (fun n => Value.slice (some ⟨n, 0, none⟩) 1 1) HSZ.out) (kWd_mkM _ _ _ x) (fun _ hk => hk.elim) (fun _ _ => trivial) HX.out.own HX.out.hb HX.out.hb.size (by omega) ?_; intro v1 w1 ho hb hg hat1; have bk1 := blk_grown HX.out.blk hg HN.out; have hq := blk_frozen bk1 0; have hp : w1.cell? ⟨b, 0, none⟩ = some (.slice A s.ws.length c) := blk_cell bk1 0; have HO := Aside0.mk ho; have HB := Aside0.mk hb; have HG := Aside0.mk hg; have HA := Aside0.mk hat1; obtain ⟨D4, e4, n4, hv⟩ := slice_ofL ho; subst hv; clear ho hb hg hat1 bk1))
    all_goals (go_wp2_with fail)
    all_goals go_end0
    all_goals exact ⟨rfl, _, HX.out.push HO.out HB.out HG.out hn1, Stp.pre (below_alloc (Below.refl _ _) _).drew (Stp.push HG.out HA.out)⟩
end Go.Proofs.YtfcpfbdlkanlpaaDoor
