/- ident.Reserved, Plain, Path. -/
import Derived.Test.YtfcpfbdlkanlpaaDoorIdent2
namespace Go.Proofs.YtfcpfbdlkanlpaaDoor
open Go.RowKit Go.Proofs.YtfcpfbdlkanlpaaDoorW.PrintWords Go.Proofs.YtfcpfbdlkanlpaaDoorW.PrintLast
set_option linter.unusedVariables false
set_option linter.unusedSimpArgs false

theorem reserved_eq (s : Bytes) : reservedB s = (decide (s ≠ []) && (decide (idxIn s (bytesL sixL) < 6) || decide (idxIn s (bytesL scalarsL) < 9))) := by
  simp only [bytesL, sixL, scalarsL, List.map_cons, List.map_nil, idxIn, reservedB, scalarN, wMessage, wEnum, wService, wRpc, wReturns, wRepeated, wInt64, wUint64, wSint64, wBool, wString, wBytes, wFixed32, wFixed64]
  by_cases h0 : s = []
  · subst h0; decide
  by_cases h1 : s = [109, 101, 115, 115, 97, 103, 101]
  · subst h1; decide
  by_cases h2 : s = [101, 110, 117, 109]
  · subst h2; decide
  by_cases h3 : s = [115, 101, 114, 118, 105, 99, 101]
  · subst h3; decide
  by_cases h4 : s = [114, 112, 99]
  · subst h4; decide
  by_cases h5 : s = [114, 101, 116, 117, 114, 110, 115]
  · subst h5; decide
  by_cases h6 : s = [114, 101, 112, 101, 97, 116, 101, 100]
  · subst h6; decide
  by_cases k1 : s = [105, 110, 116, 54, 52]
  · subst k1; decide
  by_cases k2 : s = [117, 105, 110, 116, 54, 52]
  · subst k2; decide
  by_cases k3 : s = [115, 105, 110, 116, 54, 52]
  · subst k3; decide
  by_cases k4 : s = [98, 111, 111, 108]
  · subst k4; decide
  by_cases k5 : s = [115, 116, 114, 105, 110, 103]
  · subst k5; decide
  by_cases k6 : s = [98, 121, 116, 101, 115]
  · subst k6; decide
  by_cases k7 : s = [102, 105, 120, 101, 100, 51, 50]
  · subst k7; decide
  by_cases k8 : s = [102, 105, 120, 101, 100, 54, 52]
  · subst k8; decide
  simp [h0, h1, h2, h3, h4, h5, h6, k1, k2, k3, k4, k5, k6, k7, k8]

set_option maxHeartbeats 1000000 in
set_option maxRecDepth 100000 in
theorem reserved_calls (s : ByteArray) (w : World) : Calls Tryd.prog 76 #[.string s] w fun e w' => e = .returned (.bool (reservedB s.data.toList)) ∧ Below w.heap.size w w' := by
  rw [reserved_eq]
  by_cases h0 : s.data.toList = []
  · have h1 : s.toList.isEmpty = true := by rw [ByteArray.toList_eq, h0]; rfl
    have h2 : decide (s.data.toList ≠ []) = false := decide_eq_false (fun h => h h0)
    rw [h2]
    clear h0 h2
    go_enter Tryd.func76, Tryd.ntmps76
    go_wp2_with fail
    go_ret
    first | exact ⟨ret_bool (by simp), Below.refl _ _⟩ | exact ⟨ret_bool (by simp), below_alloc (Below.refl _ _) _⟩
  · have h1 : s.toList.isEmpty = false := by rw [ByteArray.toList_eq]; simpa using h0
    have h2 : decide (s.data.toList ≠ []) = true := decide_eq_true h0
    rw [h2]
    clear h0 h2
    by_cases h6 : idxIn s.data.toList (bytesL sixL) < 6
    · have h6' := Lib.hid (decide_eq_true h6)
      rw [h6'.out]
      clear h6
      go_enter Tryd.func76, Tryd.ntmps76
      go_wp2_with (go_at_call 77; refine (scontains_calls sixL _ _ s _ (C_lit w sixL _ (by decide)) (by decide)).mono ?_; rintro e w' ⟨rfl, rfl⟩; rw [show sixL.length = 6 from rfl, h6'.out])
      go_ret
      first | exact ⟨ret_bool (by simp), Below.refl _ _⟩ | exact ⟨ret_bool (by simp), below_alloc (Below.refl _ _) _⟩
    · have h6' := Lib.hid (decide_eq_false h6)
      rw [h6'.out]
      clear h6
      obtain ⟨b9, h9⟩ : ∃ b, decide (idxIn s.data.toList (bytesL scalarsL) < 9) = b := ⟨_, rfl⟩
      rw [h9]
      have h9' := Lib.hid h9
      clear h9
      go_enter Tryd.func76, Tryd.ntmps76
      go_wp2_with (first
        | (go_at_call_of 77 (Value.slice (some ⟨w.heap.size, 0, none⟩) 6 6); refine (scontains_calls sixL _ _ s _ (C_lit w sixL _ (by decide)) (by decide)).mono ?_; rintro e w' ⟨rfl, rfl⟩; rw [show sixL.length = 6 from rfl, h6'.out])
        | (go_at_call 78; refine (scalars_calls _).mono ?_; rintro e w1 ⟨A1, c1, rfl, hC1, hc1, hB1⟩; have HC1 := Lib.hid hC1; have HB1 := Lib.hid hB1; clear hC1 hB1)
        | (go_at_call 77; refine (scontains_calls scalarsL A1 c1 s _ HC1.out (by decide)).mono ?_; rintro e w' ⟨rfl, rfl⟩; rw [show scalarsL.length = 9 from rfl, h9'.out]))
      go_ret
      exact ⟨ret_bool (by simp), below_then (below_alloc (Below.refl _ _) _) (by simp) HB1.out⟩

theorem plain_calls (s : ByteArray) (w : World) (hs : s.size ≤ 140737488351232) : Calls Tryd.prog 66 #[.string s] w fun e w' => e = .returned (.bool (plainB s.data.toList)) ∧ Below w.heap.size w w' := by
  unfold plainB
  cases hn : nameB s.data.toList with
  | false =>
    have HN := Lib.hid hn
    clear hn
    go_enter Tryd.func66, Tryd.ntmps66
    go_wp2_with (go_at_call 83; refine (name_calls s _ hs).mono ?_; rintro e w1 ⟨rfl, hB1⟩; rw [HN.out]; have HB1 := Lib.hid hB1; clear hB1)
    go_ret
    first | exact ⟨rfl, HB1.out⟩ | exact ⟨ret_bool (by simp), HB1.out⟩
  | true =>
    have HN := Lib.hid hn
    clear hn
    go_enter Tryd.func66, Tryd.ntmps66
    go_wp2_with (first | (go_at_call 83; refine (name_calls s _ hs).mono ?_; rintro e w1 ⟨rfl, hB1⟩; rw [HN.out]; have HB1 := Lib.hid hB1; clear hB1) | (go_at_call 76; refine (reserved_calls s _).mono ?_; rintro e w2 ⟨rfl, hB2⟩; have HB2 := Lib.hid hB2; clear hB2))
    go_ret
    first | exact ⟨rfl, below_then HB1.out HB1.out.size HB2.out⟩ | exact ⟨ret_bool (by simp), below_then HB1.out HB1.out.size HB2.out⟩
theorem notplain_calls (s : ByteArray) (w : World) (hs : s.size ≤ 140737488351232) : Calls Tryd.prog 65 #[.string s] w fun e w' => e = .returned (.bool (!plainB s.data.toList)) ∧ Below w.heap.size w w' := by
  go_enter Tryd.func65, Tryd.ntmps65
  go_wp2_with (go_at_call 66; refine (plain_calls s _ hs).mono ?_; rintro e w1 ⟨rfl, hB1⟩; have HB1 := Lib.hid hB1; clear hB1)
  go_ret
  exact ⟨rfl, HB1.out⟩
end Go.Proofs.YtfcpfbdlkanlpaaDoor
