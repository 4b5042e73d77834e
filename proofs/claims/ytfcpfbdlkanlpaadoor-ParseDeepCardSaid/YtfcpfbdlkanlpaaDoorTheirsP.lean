/- courierlaw05.Theirs, the parts: a declaration in the making. -/
import Derived.Test.YtfcpfbdlkanlpaaDoorBase
import Derived.Deep.RegionHeld3
import Derived.Deep.RegionLaw
import Derived.Deep.DeepCutAuto
namespace Go.Proofs.YtfcpfbdlkanlpaaDoor
open Go.RowKit Go.Proofs.YtfcpfbdlkanlpaaDoorW.PrintWords Go.Proofs.YtfcpfbdlkanlpaaDoorW.PrintLast
set_option linter.unusedVariables false
set_option linter.unusedSimpArgs false

theorem info_pf : (Tryd.prog.info? 67).map (fun i => (i.zero, i.size, i.bytes)) = some (some (.agg #[(.bool false), (.string ⟨#[]⟩), (.string ⟨#[]⟩), (.int .i64 0), (.int .i64 0), (.int .i64 0)]), 6, 64) := by kernel_rfl
theorem info_pv : (Tryd.prog.info? 70).map (fun i => (i.zero, i.size, i.bytes)) = some (some (.agg #[(.string ⟨#[]⟩), (.int .i64 0), (.int .i64 0), (.int .i64 0)]), 4, 40) := by kernel_rfl
theorem info_pm : (Tryd.prog.info? 73).map (fun i => (i.zero, i.size, i.bytes)) = some (some (.agg #[(.string ⟨#[]⟩), (.string ⟨#[]⟩), (.string ⟨#[]⟩), (.int .i64 0), (.int .i64 0)]), 5, 64) := by kernel_rfl
theorem info_pd : (Tryd.prog.info? 49).map (fun i => (i.zero, i.size, i.bytes)) = some (some (.agg #[(.int .i64 0), (.string ⟨#[]⟩), (.int .i64 0), (.int .i64 0), (.slice none 0 0), (.slice none 0 0), (.slice none 0 0), (.slice none 0 0)]), 8, 136) := by kernel_rfl

theorem put8 {w : World} {g : Nat} {t : TypeId} {a0 a1 a2 a3 a4 a5 a6 a7 : Value} (b0 b1 b2 b3 b4 b5 b6 b7 : Value) (h : w.heap[g]? = some (.cells #[a0, a1, a2, a3, a4, a5, a6, a7] t (0, 0))) :
    ((((((((w.setCell ⟨g, 0, none⟩ b0).setCell ⟨g, 1, none⟩ b1).setCell ⟨g, 2, none⟩ b2).setCell ⟨g, 3, none⟩ b3).setCell ⟨g, 4, none⟩ b4).setCell ⟨g, 5, none⟩ b5).setCell ⟨g, 6, none⟩ b6).setCell ⟨g, 7, none⟩ b7).heap[g]? = some (.cells #[b0, b1, b2, b3, b4, b5, b6, b7] t (0, 0)) :=
  (show ((((((((#[a0, a1, a2, a3, a4, a5, a6, a7].setIfInBounds 0 b0).setIfInBounds 1 b1).setIfInBounds 2 b2).setIfInBounds 3 b3).setIfInBounds 4 b4).setIfInBounds 5 b5).setIfInBounds 6 b6).setIfInBounds 7 b7) = #[b0, b1, b2, b3, b4, b5, b6, b7] by simp) ▸ (blk_set (blk_set (blk_set (blk_set (blk_set (blk_set (blk_set (blk_set h 0 b0) 1 b1) 2 b2) 3 b3) 4 b4) 5 b5) 6 b6) 7 b7)
theorem R_far8 {α : Type} {d : Kd α} {e : Nat} {w : World} {base : Nat} {ok : Nat → Prop} {v : Value} {xs : List α} (h : d.R e w base ok v xs) {g : Nat} (hok : ∀ k, ok k → k ≠ g) (b0 b1 b2 b3 b4 b5 b6 b7 : Value) :
    d.R e ((((((((w.setCell ⟨g, 0, none⟩ b0).setCell ⟨g, 1, none⟩ b1).setCell ⟨g, 2, none⟩ b2).setCell ⟨g, 3, none⟩ b3).setCell ⟨g, 4, none⟩ b4).setCell ⟨g, 5, none⟩ b5).setCell ⟨g, 6, none⟩ b6).setCell ⟨g, 7, none⟩ b7) base ok v xs :=
  Kd.R_far (Kd.R_far (Kd.R_far (Kd.R_far (Kd.R_far (Kd.R_far (Kd.R_far (Kd.R_far h hok b0) hok b1) hok b2) hok b3) hok b4) hok b5) hok b6) hok b7
theorem below_put8 {w0 w : World} {g : Nat} (h : Below w0.heap.size w0 w) (hg : w0.heap.size ≤ g) (b0 b1 b2 b3 b4 b5 b6 b7 : Value) :
    Below w0.heap.size w0 ((((((((w.setCell ⟨g, 0, none⟩ b0).setCell ⟨g, 1, none⟩ b1).setCell ⟨g, 2, none⟩ b2).setCell ⟨g, 3, none⟩ b3).setCell ⟨g, 4, none⟩ b4).setCell ⟨g, 5, none⟩ b5).setCell ⟨g, 6, none⟩ b6).setCell ⟨g, 7, none⟩ b7) :=
  below_set (below_set (below_set (below_set (below_set (below_set (below_set (below_set h hg) hg) hg) hg) hg) hg) hg) hg
/-- A declaration in the making: its block, and what hangs on it, row apart from row. -/
structure Mk (wr : World) (base Bd S2 : Nat) (x : De) (B7 : Option Addr) (d7 : Nat) (v4 v5 v6 : Value) (fs : List Fl) (vs : List Va) (ms : List Me) (wq : World) : Prop where
  blk : wq.heap[Bd]? = some (.cells #[.int .i64 x.kind, .string x.name, .int .i64 x.pos.line, .int .i64 x.pos.col, v4, v5, v6, .slice B7 x.inner.length d7] 49 (0, 0))
  r4 : kFl.R 67 wq base (fun k => S2 ≤ k) v4 fs
  r5 : kVa.R 70 wq base (fun k => S2 ≤ k) v5 vs
  r6 : kMe.R 73 wq base (fun k => S2 ≤ k) v6 ms
  r7 : kP.R 49 wq base (fun k => wr.heap.size ≤ k ∧ k < S2 ∧ k ≠ Bd) (.slice B7 x.inner.length d7) x.inner
  hb : Below wr.heap.size wr wq
  lo : wr.heap.size ≤ Bd
  hi : Bd < S2
  sz : S2 ≤ wq.heap.size
theorem Mk.step4 {wr : World} {base Bd S2 : Nat} {x : De} {B7 : Option Addr} {d7 : Nat} {v4 v5 v6 v' : Value} {fs : List Fl} {vs : List Va} {ms : List Me} {wq w1 : World} {f : Fl} (h : Mk wr base Bd S2 x B7 d7 v4 v5 v6 fs vs ms wq)
    (ho : kFl.R 67 w1 base (fun k => S2 ≤ k) v' (fs ++ [f])) (hg : wq.drew.grownBy w1 v4.ownBlock) : Mk wr base Bd S2 x B7 d7 v' v5 v6 (fs ++ [f]) vs ms (w1.setCell ⟨Bd, 4, none⟩ v') := by
  have hne := Kd.R_ne h.r4 h.blk (show (67 : Nat) ≠ 49 by decide)
  have bk := blk_grown (blk_drew h.blk) hg hne
  have hlo := h.lo
  have hhi := h.hi
  have hsz := h.sz
  have hgs := hg.size
  have hgs' : wq.heap.size ≤ w1.heap.size := hgs
  refine ⟨blk_put bk 4 v' rfl, (Kd.R_set ho bk (by decide) 4 v'), (Kd.R_set (Kd.R_mono (Kd.R_grown (Kd.R_drew (Kd.R_apartR h.r5 h.r4 (by decide))) hg (fun k hk => hk.2)) (fun k hk => hk.1)) bk (by decide) 4 v'), (Kd.R_set (Kd.R_mono (Kd.R_grown (Kd.R_drew (Kd.R_apartR h.r6 h.r4 (by decide))) hg (fun k hk => hk.2)) (fun k hk => hk.1)) bk (by decide) 4 v'), ?_, ?_, hlo, hhi, ?_⟩
  · exact Kd.R_far (Kd.R_grown (Kd.R_drew h.r7) hg (fun k hk e => by have := h.r4.1 k e.symm; omega)) (fun k hk => hk.2.2) v'
  · exact below_set (pw_below_grown h.hb.drew _ h.hb.size hg (fun k e => by have := h.r4.1 k e; omega)) hlo
  · simpa [World.setCell] using Nat.le_trans hsz hgs'
theorem Mk.step5 {wr : World} {base Bd S2 : Nat} {x : De} {B7 : Option Addr} {d7 : Nat} {v4 v5 v6 v' : Value} {fs : List Fl} {vs : List Va} {ms : List Me} {wq w1 : World} {f : Va} (h : Mk wr base Bd S2 x B7 d7 v4 v5 v6 fs vs ms wq)
    (ho : kVa.R 70 w1 base (fun k => S2 ≤ k) v' (vs ++ [f])) (hg : wq.drew.grownBy w1 v5.ownBlock) : Mk wr base Bd S2 x B7 d7 v4 v' v6 fs (vs ++ [f]) ms (w1.setCell ⟨Bd, 5, none⟩ v') := by
  have hne := Kd.R_ne h.r5 h.blk (show (70 : Nat) ≠ 49 by decide)
  have bk := blk_grown (blk_drew h.blk) hg hne
  have hlo := h.lo
  have hhi := h.hi
  have hsz := h.sz
  have hgs := hg.size
  have hgs' : wq.heap.size ≤ w1.heap.size := hgs
  refine ⟨blk_put bk 5 v' rfl, (Kd.R_set (Kd.R_mono (Kd.R_grown (Kd.R_drew (Kd.R_apartR h.r4 h.r5 (by decide))) hg (fun k hk => hk.2)) (fun k hk => hk.1)) bk (by decide) 5 v'), (Kd.R_set ho bk (by decide) 5 v'), (Kd.R_set (Kd.R_mono (Kd.R_grown (Kd.R_drew (Kd.R_apartR h.r6 h.r5 (by decide))) hg (fun k hk => hk.2)) (fun k hk => hk.1)) bk (by decide) 5 v'), ?_, ?_, hlo, hhi, ?_⟩
  · exact Kd.R_far (Kd.R_grown (Kd.R_drew h.r7) hg (fun k hk e => by have := h.r5.1 k e.symm; omega)) (fun k hk => hk.2.2) v'
  · exact below_set (pw_below_grown h.hb.drew _ h.hb.size hg (fun k e => by have := h.r5.1 k e; omega)) hlo
  · simpa [World.setCell] using Nat.le_trans hsz hgs'
theorem Mk.step6 {wr : World} {base Bd S2 : Nat} {x : De} {B7 : Option Addr} {d7 : Nat} {v4 v5 v6 v' : Value} {fs : List Fl} {vs : List Va} {ms : List Me} {wq w1 : World} {f : Me} (h : Mk wr base Bd S2 x B7 d7 v4 v5 v6 fs vs ms wq)
    (ho : kMe.R 73 w1 base (fun k => S2 ≤ k) v' (ms ++ [f])) (hg : wq.drew.grownBy w1 v6.ownBlock) : Mk wr base Bd S2 x B7 d7 v4 v5 v' fs vs (ms ++ [f]) (w1.setCell ⟨Bd, 6, none⟩ v') := by
  have hne := Kd.R_ne h.r6 h.blk (show (73 : Nat) ≠ 49 by decide)
  have bk := blk_grown (blk_drew h.blk) hg hne
  have hlo := h.lo
  have hhi := h.hi
  have hsz := h.sz
  have hgs := hg.size
  have hgs' : wq.heap.size ≤ w1.heap.size := hgs
  refine ⟨blk_put bk 6 v' rfl, (Kd.R_set (Kd.R_mono (Kd.R_grown (Kd.R_drew (Kd.R_apartR h.r4 h.r6 (by decide))) hg (fun k hk => hk.2)) (fun k hk => hk.1)) bk (by decide) 6 v'), (Kd.R_set (Kd.R_mono (Kd.R_grown (Kd.R_drew (Kd.R_apartR h.r5 h.r6 (by decide))) hg (fun k hk => hk.2)) (fun k hk => hk.1)) bk (by decide) 6 v'), (Kd.R_set ho bk (by decide) 6 v'), ?_, ?_, hlo, hhi, ?_⟩
  · exact Kd.R_far (Kd.R_grown (Kd.R_drew h.r7) hg (fun k hk e => by have := h.r6.1 k e.symm; omega)) (fun k hk => hk.2.2) v'
  · exact below_set (pw_below_grown h.hb.drew _ h.hb.size hg (fun k e => by have := h.r6.1 k e; omega)) hlo
  · simpa [World.setCell] using Nat.le_trans hsz hgs'
end Go.Proofs.YtfcpfbdlkanlpaaDoor
