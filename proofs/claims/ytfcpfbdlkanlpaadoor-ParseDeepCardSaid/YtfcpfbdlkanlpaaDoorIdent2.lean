/- slices.Index, Contains, IndexFunc, ContainsFunc at strings; ident.Scalars, Reserved, Plain. -/
import Derived.Test.YtfcpfbdlkanlpaaDoorIdent
namespace Go.Proofs.YtfcpfbdlkanlpaaDoor
open Go.RowKit Go.Proofs.YtfcpfbdlkanlpaaDoorW.PrintWords Go.Proofs.YtfcpfbdlkanlpaaDoorW.PrintLast
set_option linter.unusedVariables false
set_option linter.unusedSimpArgs false

theorem ret_int {k : IntKind} {a b : Int} (h : a = b) : Ending.returned (.int k a) = .returned (.int k b) := by rw [h]
/-- Where x stands first; the list's length: nowhere. -/
def idxIn (x : Bytes) : List Bytes → Nat
  | [] => 0
  | y :: l => if x = y then 0 else idxIn x l + 1
theorem idxIn_le (x : Bytes) (l : List Bytes) : idxIn x l ≤ l.length := by
  induction l with
  | nil => exact Nat.le_refl _
  | cons y l ih => simp only [idxIn]; split <;> simp <;> omega
def bytesL (xs : List ByteArray) : List Bytes := xs.map fun s => s.data.toList
theorem idxIn_hit {x : Bytes} {l : List Bytes} {i : Nat} (h : ∀ j, j < i → l[j]? ≠ some x) (hi : l[i]? = some x) : idxIn x l = i := by
  induction l generalizing i with
  | nil => simp at hi
  | cons y l ih =>
    cases i with
    | zero =>
      have : y = x := by simpa using hi
      simp [idxIn, this]
    | succ i =>
      have h0 : y ≠ x := fun e => h 0 (by omega) (by simp [e])
      have := ih (i := i) (fun j hj => by have := h (j + 1) (by omega); simpa using this) (by simpa using hi)
      simp [idxIn, Ne.symm h0, this]
theorem idxIn_miss {x : Bytes} {l : List Bytes} (h : ∀ j, j < l.length → l[j]? ≠ some x) : idxIn x l = l.length := by
  induction l with
  | nil => rfl
  | cons y l ih =>
    have h0 : y ≠ x := fun e => h 0 (by simp) (by simp [e])
    have := ih (fun j hj => by have := h (j + 1) (by simpa using hj); simpa using this)
    simp [idxIn, Ne.symm h0, this]
def idxInt (x : Bytes) (l : List Bytes) : Int := if idxIn x l < l.length then (idxIn x l : Int) else -1

set_option maxHeartbeats 1000000 in
set_option maxRecDepth 100000 in
theorem sindex_calls (xs : List ByteArray) (A : Option Addr) (c : Nat) (x : ByteArray) (w : World) (hC : Kd.string.C w A xs.length xs) (hl : xs.length ≤ 100000) :
    Calls Tryd.prog 90 #[.slice A xs.length c, .string x] w fun e w' => e = .returned (.int .i64 (idxInt x.data.toList (bytesL xs))) ∧ w = w' := by
  have HC := Lib.hid hC
  clear hC
  have hlen : (bytesL xs).length = xs.length := by simp [bytesL]
  have Hlen := Lib.hid hlen
  clear hlen
  go_enter Tryd.func90, Tryd.ntmps90
  go_wp2
  go_loop [8] (fun v => ∃ i : Nat, i ≤ xs.length ∧ v = .int .i64 i ∧ Aside0 (∀ j, j < i → (bytesL xs)[j]? ≠ some x.data.toList)) (fun v => xs.length - (intOf v).toNat)
  case atStart => exact ⟨0, by omega, rfl, ⟨fun j hj => by omega⟩⟩
  case round =>
    obtain ⟨i, hi, rfl, hN⟩ := hrel
    by_cases hlt : i < xs.length
    · obtain ⟨s, hs⟩ := get_of_lt hlt
      obtain ⟨ad, rfl, h0⟩ := C_str HC.out hs
      have hs' : (bytesL xs)[i]? = some s.data.toList := by simp [bytesL, hs]
      have HS := Lib.hid hs'
      clear hs' hs
      go_wp2
      · have h1 : (x.toList == s.toList) = true := by assumption
        rw [ByteArray.toList_eq, ByteArray.toList_eq] at h1
        have h2 : x.data.toList = s.data.toList := by simpa using h1
        go_ret
        refine ⟨ret_int ?_, rfl⟩
        unfold idxInt
        rw [idxIn_hit hN.out (by rw [h2]; exact HS.out), if_pos (by rw [Hlen.out]; omega)]
      · have h1 : (x.toList == s.toList) = false := by assumption
        rw [ByteArray.toList_eq, ByteArray.toList_eq] at h1
        have h2 : x.data.toList ≠ s.data.toList := by simpa using h1
        go_round
        case rel =>
          refine ⟨i + 1, by omega, by go_num, ⟨fun j hj => ?_⟩⟩
          rcases Nat.lt_or_ge j i with h3 | h3
          · exact hN.out j h3
          · obtain rfl : j = i := by omega
            rw [HS.out]
            exact fun e => h2 (Option.some.inj e).symm
        case measure => simp [intOf]; omega
    · go_wp2
      go_ret
      refine ⟨ret_int ?_, rfl⟩
      unfold idxInt
      rw [if_neg]
      rw [idxIn_miss (fun j hj => hN.out j (by have := Hlen.out; omega))]
      omega
theorem scontains_calls (xs : List ByteArray) (A : Option Addr) (c : Nat) (x : ByteArray) (w : World) (hC : Kd.string.C w A xs.length xs) (hl : xs.length ≤ 100000) :
    Calls Tryd.prog 77 #[.slice A xs.length c, .string x] w fun e w' => e = .returned (.bool (decide (idxIn x.data.toList (bytesL xs) < xs.length))) ∧ w = w' := by
  have HC := Lib.hid hC
  clear hC
  have hlen : (bytesL xs).length = xs.length := by simp [bytesL]
  have Hi := Lib.hid (show idxInt x.data.toList (bytesL xs) = if idxIn x.data.toList (bytesL xs) < xs.length then (idxIn x.data.toList (bytesL xs) : Int) else -1 by unfold idxInt; rw [hlen])
  clear hlen
  by_cases h : idxIn x.data.toList (bytesL xs) < xs.length
  · rw [decide_eq_true h]
    have Hi2 := Lib.hid (Hi.out.trans (if_pos h))
    clear h
    go_enter Tryd.func77, Tryd.ntmps77
    go_wp2_with (go_at_call 90; refine (sindex_calls xs A c x _ HC.out hl).mono ?_; rintro e w' ⟨rfl, rfl⟩; rw [Hi2.out])
    go_ret
    first | exact ⟨rfl, rfl⟩ | exact ⟨ret_bool (by simp), rfl⟩
  · rw [decide_eq_false h]
    have Hi2 := Lib.hid (Hi.out.trans (if_neg h))
    clear h
    go_enter Tryd.func77, Tryd.ntmps77
    go_wp2_with (go_at_call 90; refine (sindex_calls xs A c x _ HC.out hl).mono ?_; rintro e w' ⟨rfl, rfl⟩; rw [Hi2.out])
    go_ret
    first | exact ⟨rfl, rfl⟩ | exact ⟨ret_bool (by simp), rfl⟩

/-- A literal of strings, read as a row. -/
theorem C_lit (W : World) (xs : List ByteArray) (e : TypeId) (hl : xs.length ≤ 9223372036854775807) : Kd.string.C (W.alloc (.cells (xs.map Value.string).toArray e)) (some ⟨W.heap.size, 0, none⟩) xs.length xs := by
  refine ⟨rfl, by omega, fun _ => ⟨_, rfl, fun j p hj => ⟨[.string p], rfl, rfl, fun i u hu => ?_⟩⟩⟩
  cases i with
  | zero =>
    have hu' : Value.string p = u := by simpa using hu
    subst hu'
    rw [add_plain, blk_cell (blk_new W _)]
    show ((xs.map Value.string).toArray)[j * 1 + 0]? = _
    simp [hj]
  | succ i => simp at hu
def scalarsL : List ByteArray := [⟨#[]⟩, ⟨#[105, 110, 116, 54, 52]⟩, ⟨#[117, 105, 110, 116, 54, 52]⟩, ⟨#[115, 105, 110, 116, 54, 52]⟩, ⟨#[98, 111, 111, 108]⟩, ⟨#[115, 116, 114, 105, 110, 103]⟩, ⟨#[98, 121, 116, 101, 115]⟩, ⟨#[102, 105, 120, 101, 100, 51, 50]⟩, ⟨#[102, 105, 120, 101, 100, 54, 52]⟩]
def sixL : List ByteArray := [⟨#[109, 101, 115, 115, 97, 103, 101]⟩, ⟨#[101, 110, 117, 109]⟩, ⟨#[115, 101, 114, 118, 105, 99, 101]⟩, ⟨#[114, 112, 99]⟩, ⟨#[114, 101, 116, 117, 114, 110, 115]⟩, ⟨#[114, 101, 112, 101, 97, 116, 101, 100]⟩]
theorem scalars_calls (w : World) : Calls Tryd.prog 78 #[] w fun e w' => ∃ A c, e = .returned (.slice A 9 c) ∧ Kd.string.C w' A 9 scalarsL ∧ 9 ≤ c ∧ Below w.heap.size w w' := by
  go_enter Tryd.func78, Tryd.ntmps78
  go_wp2
  go_ret
  exact ⟨_, _, rfl, C_lit w scalarsL _ (by decide), Nat.le_refl _, below_alloc (Below.refl _ _) _⟩
end Go.Proofs.YtfcpfbdlkanlpaaDoor
