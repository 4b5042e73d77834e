/- courierref05.Formed, All, Small: the ones that are called from outside, by contract. -/
import Derived.Test.YtfcpfbdlkanlpaaDoorFormed2
namespace Go.Proofs.YtfcpfbdlkanlpaaDoor
open Go.RowKit Go.Proofs.YtfcpfbdlkanlpaaDoorW.PrintWords Go.Proofs.YtfcpfbdlkanlpaaDoorW.PrintLast
set_option linter.unusedVariables false
set_option linter.unusedSimpArgs false

set_option maxHeartbeats 2000000 in
set_option maxRecDepth 100000 in
theorem formedL_calls (l : List De) (A : Option Addr) (c : Nat) (w : World) (hw : wtL l ≤ 100000) (hC : kR.C w A l.length l) (hT : Lib.Utf8Tabs 1 2 w) :
    Calls Tryd.prog 9 #[.slice A l.length c] w fun e w' => e = .returned (.bool (formL l)) ∧ Below w.heap.size w w' := by
  have HC := Lib.hid hC
  have HT := Lib.hid hT
  clear hC hT
  have hll := len_le_wtL l
  go_enter Tryd.func9, Tryd.ntmps9
  go_wp2
  go_loopw [6] (fun v wr => ∃ i : Nat, i ≤ l.length ∧ v = .int .i64 i ∧ Aside0 ((l.take i).all (fun d => d.formB 1) = true) ∧ Aside0 (Below w.heap.size w wr)) (fun v _ => l.length - (intOf v).toNat)
  case atStart => exact ⟨0, by omega, rfl, ⟨rfl⟩, ⟨Below.refl _ _⟩⟩
  case round =>
    obtain ⟨i, hi, rfl, hA, hB⟩ := hrel
    by_cases hlt : i < l.length
    · obtain ⟨y, hf⟩ := get_of_lt hlt
      obtain ⟨ad, B4, d4, B5, d5, B6, d6, B7, d7, rfl, hat, hang2⟩ := C_de (Kd.C_below HC.out hB.out) hf
      have hsz := wtL_get hf
      obtain ⟨f0, f1, f2, f3, f4, f5, f6, f7⟩ := hat
      have hf' := Lib.hid hf
      clear hf
      cases hb : y.formB 1 with
      | false =>
        have hb' := Lib.hid hb
        clear hb
        go_wp2_with (go_at_call 19; refine (formed_calls y.n y 1 B4 d4 B5 d5 B6 d6 B7 d7 _ (Nat.le_refl _) (by omega) (by omega) hang2 (Utf8Tabs_below HT.out hB.out)).mono ?_; rintro e w3 ⟨rfl, hB3⟩; rw [hb'.out]; have HX2 := Aside0.mk (below_then hB.out hB.out.size hB3); clear hB3)
        go_ret
        exact ⟨ret_bool (show false = formL l from (List.all_eq_false.2 ⟨y, List.mem_of_getElem? hf'.out, by rw [hb'.out]; simp⟩ : formL l = false).symm), HX2.out⟩
      | true =>
        have hb' := Lib.hid hb
        clear hb
        go_wp2_with (go_at_call 19; refine (formed_calls y.n y 1 B4 d4 B5 d5 B6 d6 B7 d7 _ (Nat.le_refl _) (by omega) (by omega) hang2 (Utf8Tabs_below HT.out hB.out)).mono ?_; rintro e w3 ⟨rfl, hB3⟩; rw [hb'.out]; have HX2 := Aside0.mk (below_then hB.out hB.out.size hB3); clear hB3)
        go_roundw
        case rel => exact ⟨i + 1, by omega, by go_num, ⟨all_step hf'.out hA.out hb'.out⟩, HX2⟩
        case measure => simp [intOf]; omega
    · go_wp2
      go_ret
      exact ⟨ret_bool (show true = formL l from (all_done (by omega) hA.out).symm), hB.out⟩

/-- Small: no matter what it answers, it returns; where it answers yes, the declarations are of a size that is looked at. -/
def SmallSays (l : List De) (w : World) (e : Ending) (w' : World) : Prop :=
  ∃ b : Bool, e = .returned (.bool b) ∧ (b = true → wtL l ≤ 800 ∧ dpL l ≤ 20) ∧ Below w.heap.size w w'
set_option maxHeartbeats 1000000 in
theorem smallL_calls (l : List De) (A : Option Addr) (c : Nat) (w : World) (hok : okL l) (hll : l.length ≤ 140737488351232) (hC : kR.C w A l.length l) (hc : l.length ≤ c) :
    Calls Tryd.prog 8 #[.slice A l.length c] w (SmallSays l w) := by
  go_enter Tryd.func8, Tryd.ntmps8
  go_wp2_with (go_at_call 18; refine (small_calls (nL l) l A c 0 800 _ (Nat.le_refl _) hok hll (by omega) (by omega) (by omega) (by omega) hC hc).mono ?_; rintro e w1 ⟨r, rfl, hr1, hr0, hr, hB⟩; have hr' := Lib.hid hr; clear hr)
  go_ret
  exact ⟨_, rfl, fun h => by have h1 := of_decide_eq_true h; have h2 := hr'.out h1; omega, hB⟩
set_option maxHeartbeats 1000000 in
theorem allL_calls (l : List De) (A : Option Addr) (c : Nat) (w : World) (hn : nL l ≤ 100000) (hb : bL l ≤ 1000000) (hC : kR.C w A l.length l) (hc : l.length ≤ c) :
    Calls Tryd.prog 10 #[.slice A l.length c] w fun e w' => ∃ v, e = .returned v ∧ kSy.R 29 w' w.heap.size (fun _ => True) v (allL ⟨#[]⟩ l) ∧ Below w.heap.size w w' := by
  go_enter Tryd.func10, Tryd.ntmps10
  go_wp2_with (go_at_call 20; refine (refall_calls (nL l) l A c ⟨#[]⟩ _ (Nat.le_refl _) hn (by show 0 + _ ≤ _; omega) hC hc).mono ?_; rintro e w1 ⟨v, rfl, hR, hB⟩)
  go_ret
  exact ⟨_, rfl, hR, hB⟩
end Go.Proofs.YtfcpfbdlkanlpaaDoor
