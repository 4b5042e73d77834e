/- courierref03: Letter, digit, Scalar, Reserved, Runes, Name, Plain. -/
import Derived.Test.YtfcpfbdlkanlpaaDoorIdent
import Derived.Test.YtfcpfbdlkanlpaaDoorShelf
import Derived.Laws.IdiomStrings
namespace Go.Proofs.YtfcpfbdlkanlpaaDoor
open Go.RowKit Go.Proofs.YtfcpfbdlkanlpaaDoorW.PrintWords Go.Proofs.YtfcpfbdlkanlpaaDoorW.PrintLast
set_option linter.unusedVariables false
set_option linter.unusedSimpArgs false

theorem rletter_calls (r : Int) (w : World) : Calls Tryd.prog 69 #[.int .i32 r] w fun e w' => e = .returned (.bool (letterB r)) ∧ w = w' := by
  have hc : r < 65 ∨ (65 ≤ r ∧ r ≤ 90) ∨ (90 < r ∧ r < 97) ∨ (97 ≤ r ∧ r ≤ 122) ∨ (122 < r ∧ r < 913) ∨ (913 ≤ r ∧ r ≤ 969) ∨ 969 < r := by omega
  rcases hc with h | ⟨h, h'⟩ | ⟨h, h'⟩ | ⟨h, h'⟩ | ⟨h, h'⟩ | ⟨h, h'⟩ | h
  all_goals first | rw [letterB_yes (by omega)] | rw [letterB_no (by omega)]
  all_goals
    go_enter Tryd.func69, Tryd.ntmps69
    go_wp2
    go_ret
    first | exact ⟨rfl, rfl⟩ | exact ⟨ret_bool (by simp; omega), rfl⟩
theorem rdigit_calls (r : Int) (w : World) : Calls Tryd.prog 70 #[.int .i32 r] w fun e w' => e = .returned (.bool (digitB r)) ∧ w = w' := by
  have hc : r < 48 ∨ (48 ≤ r ∧ r ≤ 57) ∨ 57 < r := by omega
  rcases hc with h | ⟨h, h'⟩ | h
  all_goals first | rw [digitB_yes (by omega)] | rw [digitB_no (by omega)]
  all_goals
    go_enter Tryd.func70, Tryd.ntmps70
    go_wp2
    go_ret
    first | exact ⟨rfl, rfl⟩ | exact ⟨ret_bool (by simp; omega), rfl⟩

theorem str_ne {s : ByteArray} {l : List UInt8} (h : s.data.toList ≠ l) : (s.toList == l) = false := by
  rw [ByteArray.toList_eq]; exact beq_eq_false_iff_ne.2 h
theorem str_eq {s : ByteArray} {l : List UInt8} (h : s.data.toList = l) : s = ⟨l.toArray⟩ := by
  cases s with
  | mk d => simp only at h; subst h; simp
theorem rscalar_calls (s : ByteArray) (w : World) : Calls Tryd.prog 61 #[.string s] w fun e w' => e = .returned (.int .i64 (scalarN s.data.toList)) ∧ w = w' := by
  by_cases k1 : s.data.toList = [105, 110, 116, 54, 52]
  · obtain rfl := str_eq k1
    clear k1
    go_enter Tryd.func61, Tryd.ntmps61
    go_wp2
    go_ret
    exact ⟨rfl, rfl⟩
  by_cases k2 : s.data.toList = [117, 105, 110, 116, 54, 52]
  · obtain rfl := str_eq k2
    clear k1 k2
    go_enter Tryd.func61, Tryd.ntmps61
    go_wp2
    go_ret
    exact ⟨rfl, rfl⟩
  by_cases k3 : s.data.toList = [115, 105, 110, 116, 54, 52]
  · obtain rfl := str_eq k3
    clear k1 k2 k3
    go_enter Tryd.func61, Tryd.ntmps61
    go_wp2
    go_ret
    exact ⟨rfl, rfl⟩
  by_cases k4 : s.data.toList = [98, 111, 111, 108]
  · obtain rfl := str_eq k4
    clear k1 k2 k3 k4
    go_enter Tryd.func61, Tryd.ntmps61
    go_wp2
    go_ret
    exact ⟨rfl, rfl⟩
  by_cases k5 : s.data.toList = [115, 116, 114, 105, 110, 103]
  · obtain rfl := str_eq k5
    clear k1 k2 k3 k4 k5
    go_enter Tryd.func61, Tryd.ntmps61
    go_wp2
    go_ret
    exact ⟨rfl, rfl⟩
  by_cases k6 : s.data.toList = [98, 121, 116, 101, 115]
  · obtain rfl := str_eq k6
    clear k1 k2 k3 k4 k5 k6
    go_enter Tryd.func61, Tryd.ntmps61
    go_wp2
    go_ret
    exact ⟨rfl, rfl⟩
  by_cases k7 : s.data.toList = [102, 105, 120, 101, 100, 51, 50]
  · obtain rfl := str_eq k7
    clear k1 k2 k3 k4 k5 k6 k7
    go_enter Tryd.func61, Tryd.ntmps61
    go_wp2
    go_ret
    exact ⟨rfl, rfl⟩
  by_cases k8 : s.data.toList = [102, 105, 120, 101, 100, 54, 52]
  · obtain rfl := str_eq k8
    clear k1 k2 k3 k4 k5 k6 k7 k8
    go_enter Tryd.func61, Tryd.ntmps61
    go_wp2
    go_ret
    exact ⟨rfl, rfl⟩
  have hz : scalarN s.data.toList = 0 := by simp [scalarN, wInt64, wUint64, wSint64, wBool, wString, wBytes, wFixed32, wFixed64, k1, k2, k3, k4, k5, k6, k7, k8]
  rw [hz]
  clear hz
  have e1 := str_ne k1
  have e2 := str_ne k2
  have e3 := str_ne k3
  have e4 := str_ne k4
  have e5 := str_ne k5
  have e6 := str_ne k6
  have e7 := str_ne k7
  have e8 := str_ne k8
  clear k1 k2 k3 k4 k5 k6 k7 k8
  go_enter Tryd.func61, Tryd.ntmps61
  go_wp2
  go_ret
  exact ⟨rfl, rfl⟩
theorem six_cases (s : ByteArray) : (∃ d, s = d ∧ (d = ⟨#[109, 101, 115, 115, 97, 103, 101]⟩ ∨ d = ⟨#[101, 110, 117, 109]⟩ ∨ d = ⟨#[115, 101, 114, 118, 105, 99, 101]⟩ ∨ d = ⟨#[114, 112, 99]⟩ ∨ d = ⟨#[114, 101, 116, 117, 114, 110, 115]⟩ ∨ d = ⟨#[114, 101, 112, 101, 97, 116, 101, 100]⟩)) ∨
    (s.data.toList ≠ wMessage ∧ s.data.toList ≠ wEnum ∧ s.data.toList ≠ wService ∧ s.data.toList ≠ wRpc ∧ s.data.toList ≠ wReturns ∧ s.data.toList ≠ wRepeated) := by
  by_cases k1 : s.data.toList = wMessage
  · exact .inl ⟨s, rfl, .inl (str_eq k1)⟩
  by_cases k2 : s.data.toList = wEnum
  · exact .inl ⟨s, rfl, .inr (.inl (str_eq k2))⟩
  by_cases k3 : s.data.toList = wService
  · exact .inl ⟨s, rfl, .inr (.inr (.inl (str_eq k3)))⟩
  by_cases k4 : s.data.toList = wRpc
  · exact .inl ⟨s, rfl, .inr (.inr (.inr (.inl (str_eq k4))))⟩
  by_cases k5 : s.data.toList = wReturns
  · exact .inl ⟨s, rfl, .inr (.inr (.inr (.inr (.inl (str_eq k5)))))⟩
  by_cases k6 : s.data.toList = wRepeated
  · exact .inl ⟨s, rfl, .inr (.inr (.inr (.inr (.inr (str_eq k6)))))⟩
  exact .inr ⟨k1, k2, k3, k4, k5, k6⟩
theorem rreserved_calls (s : ByteArray) (w : World) : Calls Tryd.prog 49 #[.string s] w fun e w' => e = .returned (.bool (reservedB s.data.toList)) ∧ w = w' := by
  rcases six_cases s with ⟨d, rfl, h⟩ | ⟨k1, k2, k3, k4, k5, k6⟩
  · rcases h with rfl | rfl | rfl | rfl | rfl | rfl
    all_goals
      go_enter Tryd.func49, Tryd.ntmps49
      go_wp2
      go_ret
      exact ⟨rfl, rfl⟩
  · have hr : reservedB s.data.toList = decide (0 < scalarN s.data.toList) := by
      unfold reservedB
      rw [decide_eq_false k1, decide_eq_false k2, decide_eq_false k3, decide_eq_false k4, decide_eq_false k5, decide_eq_false k6]; rfl
    rw [hr]
    have e1 := str_ne k1
    have e2 := str_ne k2
    have e3 := str_ne k3
    have e4 := str_ne k4
    have e5 := str_ne k5
    have e6 := str_ne k6
    unfold wMessage at e1
    unfold wEnum at e2
    unfold wService at e3
    unfold wRpc at e4
    unfold wReturns at e5
    unfold wRepeated at e6
    clear hr k1 k2 k3 k4 k5 k6
    go_enter Tryd.func49, Tryd.ntmps49
    go_wp2_with (go_at_call 61; refine (rscalar_calls s _).mono ?_; rintro e w' ⟨rfl, rfl⟩)
    go_ret
    exact ⟨ret_bool (by simp), rfl⟩
end Go.Proofs.YtfcpfbdlkanlpaaDoor
