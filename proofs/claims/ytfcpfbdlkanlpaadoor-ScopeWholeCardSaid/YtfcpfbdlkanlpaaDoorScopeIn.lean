/- (*Finder).in, by contract. -/
import Derived.Test.YtfcpfbdlkanlpaaDoorScopeNew
import Derived.Test.YtfcpfbdlkanlpaaDoorRef03b
namespace Go.Proofs.YtfcpfbdlkanlpaaDoor
open Go.RowKit Go.Maps Go.Proofs.YtfcpfbdlkanlpaaDoorW.PrintWords Go.Proofs.YtfcpfbdlkanlpaaDoorW.PrintLast
set_option linter.unusedVariables false
set_option linter.unusedSimpArgs false

def joinA (sc nm : ByteArray) : ByteArray := if sc.data.toList = [] then nm else sc ++ dot ++ nm
def kb (n : Int) : Bool := n == 1 || n == 2
theorem joinA_size (sc nm : ByteArray) : (joinA sc nm).size ≤ sc.size + 1 + nm.size := by
  unfold joinA
  split
  · omega
  · rw [ByteArray.size_append, ByteArray.size_append]; show sc.size + 1 + nm.size ≤ _; omega
set_option maxHeartbeats 1000000 in
theorem in_calls (b g : Nat) (ks : List Sy) (sc nm : ByteArray) (w : World) (hf : w.heap[g]? = some (.cells #[.map (some b)] 103 (0, 0))) (hm : Mp b ks w) (hs : sc.size ≤ 100000000) (hn : nm.size ≤ 100000000) :
    Calls Tryd.prog 46 #[.pointer (some ⟨g, 0, none⟩), .string sc, .string nm] w fun e w' => e = .returned (.tuple #[.string (joinA sc nm), .bool (kb (kindOf ks (joinA sc nm).data.toList))]) ∧ w = w' := by
  have cf := cell_of_one hf
  by_cases h0 : sc.data.toList = []
  · have hl := hm.look (s := nm) (by unfold maxLen; omega)
    obtain rfl := str_eq h0
    have e : joinA ⟨([] : List UInt8).toArray⟩ nm = nm := by unfold joinA; rw [if_pos rfl]
    rw [e]
    have HM := Lib.hid hm
    clear hm hf e h0
    obtain ⟨c, hc⟩ : ∃ c, c = kindOf ks nm.data.toList := ⟨_, rfl⟩
    rw [← hc] at hl ⊢
    clear hc
    unfold kb
    cases h1 : (c == 1) with
    | true =>
      go_enter Tryd.func46, Tryd.ntmps46
      go_wp2
      go_ret2
      exact ⟨rfl, rfl⟩
    | false =>
      go_enter Tryd.func46, Tryd.ntmps46
      go_wp2
      go_ret2
      exact ⟨rfl, rfl⟩
  · have h1 : sc.toList.isEmpty = false := by rw [ByteArray.toList_eq]; simpa using h0
    have e : joinA sc nm = sc ++ dot ++ nm := by unfold joinA; rw [if_neg h0]
    have hz : (sc ++ dot ++ nm).size ≤ maxLen := by rw [← e]; have := joinA_size sc nm; unfold maxLen; omega
    have hl : (Instr.lookup 101 (.map (some b)) (.string (sc ++ ⟨#[46]⟩ ++ nm)) false).run Tryd.prog w = .ok (.int .i64 (kindOf ks (sc ++ dot ++ nm).data.toList)) w := hm.look hz
    have z1 : sc.size + 1 ≤ 9223372036854775807 := by omega
    have z2 : (sc ++ ⟨#[46]⟩).size + nm.size ≤ 9223372036854775807 := by rw [ByteArray.size_append]; show sc.size + 1 + nm.size ≤ _; omega
    rw [e]
    have HM := Lib.hid hm
    have hd : dot = ⟨#[46]⟩ := rfl
    rw [hd]
    rw [hd] at hl
    clear hm hf e h0 hz hd
    obtain ⟨c, hc⟩ : ∃ c, c = kindOf ks (sc ++ ⟨#[46]⟩ ++ nm).data.toList := ⟨_, rfl⟩
    rw [← hc] at hl ⊢
    clear hc
    unfold kb
    cases h2 : (c == 1) with
    | true =>
      go_enter Tryd.func46, Tryd.ntmps46
      go_wp2
      go_ret2
      exact ⟨rfl, rfl⟩
    | false =>
      go_enter Tryd.func46, Tryd.ntmps46
      go_wp2
      go_ret2
      exact ⟨rfl, rfl⟩
end Go.Proofs.YtfcpfbdlkanlpaaDoor
