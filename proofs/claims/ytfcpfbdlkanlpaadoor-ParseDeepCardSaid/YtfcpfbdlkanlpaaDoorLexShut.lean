/- The scanner's shut, by contract. -/
import Derived.Test.YtfcpfbdlkanlpaaDoorLexRight
import Derived.Test.YtfcpfbdlkanlpaaDoorLexSign
namespace Go.Proofs.YtfcpfbdlkanlpaaDoor
open Go.RowKit Go.Proofs.YtfcpfbdlkanlpaaDoorW.PrintWords Go.Proofs.YtfcpfbdlkanlpaaDoorW.PrintLast
set_option linter.unusedVariables false
set_option linter.unusedSimpArgs false

theorem fail_ws (s : Sc) (e : Int) (p : Pos) : (s.fail e p).ws = s.ws := by unfold Sc.fail; split <;> rfl
theorem shut_none {s : Sc} {text : ByteArray} {i : Nat} (h : s.fr < 0) : s.shut text i = s := by unfold Sc.shut; rw [if_pos h]
theorem shut_yes {s : Sc} {text : ByteArray} {i : Nat} (h : ¬ s.fr < 0) (hr : rightB s.ok (text.extract s.fr.toNat i).data.toList = true) :
    s.shut text i = ({ s with ot := text.extract s.fr.toNat i, fr := -1 } : Sc).add ⟨s.ok, text.extract s.fr.toNat i, s.op⟩ := by unfold Sc.shut; rw [if_neg h]; simp only [hr, if_true]
theorem shut_no {s : Sc} {text : ByteArray} {i : Nat} (h : ¬ s.fr < 0) (hr : rightB s.ok (text.extract s.fr.toNat i).data.toList = false) :
    s.shut text i = ({ s with ot := text.extract s.fr.toNat i, fr := -1 } : Sc).fail 6 s.op := by unfold Sc.shut; rw [if_neg h]; simp only [hr]; rfl
set_option maxHeartbeats 1000000 in
set_option maxRecDepth 100000 in
theorem sshut_calls (w0 : World) (b : Nat) (v : Value) (s : Sc) (text : ByteArray) (i : Nat) (w : World) (h : ScAt w0 b v s w) (hE : Env w0) (hi : i ≤ text.size) (hz : text.size ≤ 100000) (hf : s.fr ≤ i) :
    Calls Tryd.prog 52 #[.pointer (some ⟨b, 0, none⟩), .string text, .int .i64 i] w fun r w' => r = .returned (.tuple #[]) ∧ ∃ v', ScAt w0 b v' (s.shut text i) w' ∧ Stp w b v v' w' := by
  have HE := Aside0.mk hE
  obtain ⟨c0, c1, c2, c3, c4, c5, c6, c7, c8, c9, c10, c11, c12, c13, c14⟩ := h.cells
  have f3 := h.free 3
  have f5 := h.free 5
  clear hE c0 c1 c2 c8 c9 c10 c11 c12 c13 c14
  have H := Aside0.mk h
  clear h
  by_cases hn : s.fr < 0
  · rw [shut_none hn]
    have hn' : decide (s.fr < 0) = true := decide_eq_true hn
    go_enter Tryd.func52, Tryd.ntmps52
    go_wp2
    refine bodyPost_ret (results_none rfl _ _ _) rfl ?_
    exact ⟨rfl, _, H.out, Stp.refl _ _ _⟩
  · have hn' : decide (s.fr < 0) = false := decide_eq_false hn
    obtain ⟨k, hk⟩ := Int.eq_ofNat_of_zero_le (by omega : 0 ≤ s.fr)
    have hx : (text.extract k i).size ≤ 100000 := by rw [ByteArray.size_extract]; omega
    obtain ⟨s', hs'⟩ : ∃ s', s' = s.shut text i := ⟨_, rfl⟩
    rw [← hs']
    have H1 := Aside0.mk (H.out.set 5 (.string (text.extract k i)) { s with ot := text.extract k i } rfl rfl)
    have H2 := Aside0.mk (H1.out.set 3 (.int .i64 (-1)) { s with ot := text.extract k i, fr := -1 } rfl rfl)
    have HE2 := Aside0.mk (HE.out.below H2.out.hb)
    cases hr : rightB s.ok (text.extract k i).data.toList with
    | true =>
      rw [shut_yes hn (by rw [hk]; exact hr), hk] at hs'
      have HR := Lib.hid hr
      have HS := Lib.hid hs'
      rw [hk] at c3 hf hn'
      have hki : k ≤ i := by omega
      clear hr hs' hk hn
      go_enter Tryd.func52, Tryd.ntmps52
      go_wp2_with (first
        | (go_at_call 74; refine (right_calls s.ok (text.extract k i) s.op _ hx HE2.out).mono ?_; rintro e w2 ⟨rfl, hb⟩; rw [HR.out]; have H3 := Aside0.mk (H2.out.below hb); have HT3 := Aside0.mk ((((Stp.refl w b v).set 5 _).set 3 _).below hb); obtain ⟨c0, c1, c2, c3, c4, c5, c6, c7, c8, c9, c10, c11, c12, c13, c14⟩ := H3.out.cells; clear hb c0 c1 c2 c3 c8 c9 c10 c11 c12 c13 c14)
        | (go_at_call 75; refine (sadd_calls w0 b v _ ⟨s.ok, text.extract k i, s.op⟩ _ H3.out).mono ?_; rintro e w4 ⟨rfl, v', hA, hT⟩; have HA := Aside0.mk hA; have HT4 := Aside0.mk (HT3.out.trans hT); clear hA hT))
      go_end0
      rw [HS.out]
      exact ⟨rfl, v', HA.out, HT4.out⟩
    | false =>
      rw [shut_no hn (by rw [hk]; exact hr), hk] at hs'
      have HR := Lib.hid hr
      have HS := Lib.hid hs'
      rw [hk] at c3 hf hn'
      have hki : k ≤ i := by omega
      clear hr hs' hk hn
      go_enter Tryd.func52, Tryd.ntmps52
      go_wp2_with (first
        | (go_at_call 74; refine (right_calls s.ok (text.extract k i) s.op _ hx HE2.out).mono ?_; rintro e w2 ⟨rfl, hb⟩; rw [HR.out]; have H3 := Aside0.mk (H2.out.below hb); have HT3 := Aside0.mk ((((Stp.refl w b v).set 5 _).set 3 _).below hb); obtain ⟨c0, c1, c2, c3, c4, c5, c6, c7, c8, c9, c10, c11, c12, c13, c14⟩ := H3.out.cells; clear hb c0 c1 c2 c3 c8 c9 c10 c11 c12 c13 c14)
        | (go_at_call 53; refine (sfail_calls w0 b v _ 6 s.op _ H3.out).mono ?_; rintro e w4 ⟨rfl, hA, hT⟩; have HA := Aside0.mk hA; have HT4 := Aside0.mk (HT3.out.trans hT); clear hA hT))
      refine bodyPost_ret (results_none rfl _ _ _) rfl ?_
      rw [HS.out]
      exact ⟨rfl, _, HA.out, HT4.out⟩
end Go.Proofs.YtfcpfbdlkanlpaaDoor
