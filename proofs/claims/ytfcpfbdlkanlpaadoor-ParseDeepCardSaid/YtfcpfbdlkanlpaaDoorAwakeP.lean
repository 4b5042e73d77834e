/- parse.File, by contract. courierlaw05.awake answers yes. -/
import Derived.Test.YtfcpfbdlkanlpaaDoorFile2
import Derived.Test.YtfcpfbdlkanlpaaDoorDeepP
namespace Go.Proofs.YtfcpfbdlkanlpaaDoor
open Go.RowKit Go.Proofs.YtfcpfbdlkanlpaaDoorW.PrintWords Go.Proofs.YtfcpfbdlkanlpaaDoorW.PrintLast
set_option linter.unusedVariables false

theorem file_calls (text : ByteArray) (w : World) (hz : text.size ≤ 140737488351232) (hE : Env w) :
    Calls Tryd.prog 15 #[.string text] w fun e w' => FileOut w (fileW text) e w' := by
  unfold fileW
  by_cases he : (lexW text).e = 0
  · rw [if_pos he]; exact file_yes text w hz hE he
  · rw [if_neg he]; exact file_no text w hz hE he
end Go.Proofs.YtfcpfbdlkanlpaaDoor

namespace Go.Proofs.YtfcpfbdlkanlpaaDoor
open Go.RowKit Go.Proofs.YtfcpfbdlkanlpaaDoorW.PrintWords Go.Proofs.YtfcpfbdlkanlpaaDoorW.PrintLast
set_option linter.unusedVariables false
set_option linter.unusedSimpArgs false

set_option maxHeartbeats 1000000 in
set_option maxRecDepth 20000 in
theorem awakeP_calls (w : World) (hE : Env w) : Calls Tryd.prog 14 #[] w fun e w' => e = .returned (.bool true) ∧ Below w.heap.size w w' := by
  have hF := file_calls awText w (by decide) hE
  rw [aw_file] at hF
  have HF := Lib.hid hF
  clear hF hE
  go_enter Tryd.func14, Tryd.ntmps14
  go_wp2_with (go_at_call 15; go_loud (refine (HF.out).mono ?_; rintro e w1 ⟨v, rfl, hr, hb⟩; obtain ⟨A, c, hv, hlc, hC⟩ := Kd.R_reads hr; subst hv; obtain ⟨ad, A4, c4, A5, c5, A6, c6, A7, c7, rfl, hD, hH⟩ := C_de hC (i := 0) rfl; rw [Nat.zero_mul, addr_add_zero] at hD; have d4 := hD.h4; have g4 := hH.g4; obtain ⟨af, rfl, x0, x1, x2, x3, x4, x5⟩ := C_fl g4 (i := 0) rfl; rw [Nat.zero_mul, addr_add_zero] at x3; have d4' := fun o => pw_cell_below (below_alloc (Below.refl _ w1) o) d4; have x3' := fun o => pw_cell_below (below_alloc (Below.refl _ w1) o) x3; have HB := Aside0.mk hb; clear hr hb hC hD hH g4 x0 x1 x2 x4 x5 d4 x3))
  go_ret
  exact ⟨rfl, below_alloc HB.out _⟩
end Go.Proofs.YtfcpfbdlkanlpaaDoor
