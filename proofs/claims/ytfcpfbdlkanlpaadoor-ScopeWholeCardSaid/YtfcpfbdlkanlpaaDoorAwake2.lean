/- courierlaw07.awake answers yes. -/
import Derived.Test.YtfcpfbdlkanlpaaDoorAwake
namespace Go.Proofs.YtfcpfbdlkanlpaaDoor
open Go.RowKit Go.Maps Go.Proofs.YtfcpfbdlkanlpaaDoorW.PrintWords Go.Proofs.YtfcpfbdlkanlpaaDoorW.PrintLast
set_option linter.unusedVariables false
set_option linter.unusedSimpArgs false

set_option maxHeartbeats 400000 in
set_option maxRecDepth 100000 in
theorem find_aw (A : Option Addr) (m : Int) (w : World) (hC : kP.C w A 1 [awA]) (hml : w.cell? ⟨0, 0, none⟩ = some (.int .i64 m)) :
    Calls Tryd.prog 11 #[.slice A 1 1, .string ⟨#[65]⟩, .string ⟨#[66]⟩] w fun e w' => e = .returned (.tuple #[.agg #[.string ⟨#[65, 46, 66]⟩, .int .i64 1], .bool true]) ∧ Below w.heap.size w w' := by
  have NEW := Lib.hid (fun w1 h => new_row [awA] awK A 1 w1 aw_all (by decide) (by decide) h (by decide) (by
    intro s hs
    simp only [awK, List.mem_cons, List.mem_nil_iff, or_false] at hs
    rcases hs with rfl | rfl
    · exact ⟨by unfold kindIn; decide, by decide⟩
    · exact ⟨by unfold kindIn; decide, by decide⟩))
  have HC := Lib.hid hC
  have HL := Lib.hid hml
  clear hC hml
  go_enter Tryd.func11, Tryd.ntmps11
  go_wp2_with (first
    | (go_at_call 21; refine (NEW.out _ (Kd.C_below HC.out (below_alloc (Below.refl _ _) _))).mono ?_; rintro e w1 ⟨b, g, rfl, hm, hf, hB1⟩; obtain ⟨bk, hB⟩ := box_at hB1; have HB := Aside0.mk hB; have HBK := Aside0.mk bk; have HM := Aside0.mk hm; have HF := Aside0.mk hf; clear hm hf hB1 bk hB)
    | (go_at_call 22; refine (findm_aw b g awK m _ ⟨rfl, rfl⟩ HF.out HM.out (pw_cell_below HB.out HL.out)).mono ?_; rintro e w2 ⟨rfl, hB2⟩; have HB2 := Aside0.mk (below_then HB.out HB.out.size hB2); have bk := blk_below HBK.out hB2; have c0 := blk_cell bk 0; have c1 := blk_cell bk 1; have g0 := blk_frozen bk 0; have g1 := blk_frozen bk 1; have BK := Aside0.mk bk; clear bk hB2))
  refine bodyPost_ret (results_row_tmp rfl _ _ w.heap.size _ _ _ _ rfl (put2 _ _ BK.out) Tryd.underlying30 rfl size_sy) rfl ?_
  exact ⟨rfl, below_set (below_set HB2.out (Nat.le_refl _)) (Nat.le_refl _)⟩
theorem aw_row (w : World) : kP.C ((w.alloc (.cells #[.int .i64 1, .string ⟨#[66]⟩, .int .i64 0, .int .i64 0, .slice none 0 0, .slice none 0 0, .slice none 0 0, .slice none 0 0] 49)).alloc (.cells #[.int .i64 1, .string ⟨#[65]⟩, .int .i64 0, .int .i64 0, .slice none 0 0, .slice none 0 0, .slice none 0 0, .slice (some ⟨w.heap.size, 0, none⟩) 1 1] 49)) (some ⟨w.heap.size + 1, 0, none⟩) 1 [awA] := by
  refine C_one awA rfl rfl rfl (A7 := some ⟨w.heap.size, 0, none⟩) (c7 := 1) ?_ (Nat.le_refl _) ?_
  · refine Kd.C_below ?_ (below_alloc (Below.refl _ _) _)
    refine C_one awB rfl rfl rfl (A7 := none) (c7 := 0) (Kd.C_nil _ _) (Nat.le_refl _) ?_
    exact blk_new w _
  · have h := blk_new (w.alloc (.cells #[.int .i64 1, .string ⟨#[66]⟩, .int .i64 0, .int .i64 0, .slice none 0 0, .slice none 0 0, .slice none 0 0, .slice none 0 0] 49)) (.cells #[.int .i64 1, .string ⟨#[65]⟩, .int .i64 0, .int .i64 0, .slice none 0 0, .slice none 0 0, .slice none 0 0, .slice (some ⟨w.heap.size, 0, none⟩) 1 1] 49)
    rw [World.size_alloc] at h
    exact h
set_option maxHeartbeats 400000 in
theorem awake_calls (m : Int) (w : World) (hml : w.cell? ⟨0, 0, none⟩ = some (.int .i64 m)) :
    Calls Tryd.prog 7 #[] w fun e w' => e = .returned (.bool true) ∧ Below w.heap.size w w' := by
  have HL := Lib.hid hml
  clear hml
  go_enter Tryd.func7, Tryd.ntmps7
  go_wp2_with (go_at_call 11; refine (find_aw _ m _ (aw_row w) (pw_cell_below (below_alloc (below_alloc (Below.refl _ _) _) _) HL.out)).mono ?_; rintro e w1 ⟨rfl, hB1⟩; have HB := Aside0.mk (below_then (below_alloc (below_alloc (Below.refl _ _) _) _) (by simp only [World.size_alloc]; omega) hB1); clear hB1)
  go_ret
  exact ⟨rfl, below_alloc HB.out _⟩
end Go.Proofs.YtfcpfbdlkanlpaaDoor
