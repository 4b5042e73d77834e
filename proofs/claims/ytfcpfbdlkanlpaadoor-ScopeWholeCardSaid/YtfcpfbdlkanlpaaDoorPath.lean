/- ident.Path, by contract. -/
import Derived.Test.YtfcpfbdlkanlpaaDoorIdent3
import Derived.Test.YtfcpfbdlkanlpaaDoorPieces
import Derived.Test.YtfcpfbdlkanlpaaDoorShelf
namespace Go.Proofs.YtfcpfbdlkanlpaaDoor
open Go.RowKit Go.Proofs.YtfcpfbdlkanlpaaDoorW.PrintWords Go.Proofs.YtfcpfbdlkanlpaaDoorW.PrintLast
set_option linter.unusedVariables false
set_option linter.unusedSimpArgs false

/-- The first string that isn't plain; -1: there is none. -/
def badAt : List ByteArray → Int
  | [] => -1
  | s :: l => if plainB s.data.toList = true then (if badAt l = -1 then -1 else badAt l + 1) else 0
theorem badAt_ge (l : List ByteArray) : -1 ≤ badAt l := by
  induction l with
  | nil => simp [badAt]
  | cons s l ih =>
    simp only [badAt]
    split
    · split <;> omega
    · omega
theorem badAt_iff (l : List ByteArray) : 0 ≤ badAt l ↔ (bytesL l).all plainB = false := by
  induction l with
  | nil => simp [badAt, bytesL]
  | cons s l ih =>
    have h1 := badAt_ge l
    have h2 : (bytesL (s :: l)).all plainB = (plainB s.data.toList && (bytesL l).all plainB) := rfl
    rw [h2]
    by_cases hp : plainB s.data.toList = true
    · have h3 : badAt (s :: l) = if badAt l = -1 then -1 else badAt l + 1 := by simp only [badAt]; rw [if_pos hp]
      rw [h3, hp, Bool.true_and, ← ih]
      split <;> omega
    · have h3 : badAt (s :: l) = 0 := by simp only [badAt]; rw [if_neg hp]
      have hp' : plainB s.data.toList = false := by simpa using hp
      rw [h3, hp', Bool.false_and]
      simp
theorem badAt_all (l : List ByteArray) : decide (0 ≤ badAt l) = !(bytesL l).all plainB := by
  cases h : (bytesL l).all plainB with
  | false => exact decide_eq_true ((badAt_iff l).2 h)
  | true => exact decide_eq_false (fun h2 => by rw [(badAt_iff l).1 h2] at h; cases h)
theorem badAt_hit {l : List ByteArray} {i : Nat} {s : ByteArray} (h : ∀ (j : Nat) (x : ByteArray), j < i → l[j]? = some x → plainB x.data.toList = true) (hi : l[i]? = some s) (hs : plainB s.data.toList = false) : badAt l = i := by
  induction l generalizing i with
  | nil => simp at hi
  | cons y l ih =>
    cases i with
    | zero =>
      obtain rfl : y = s := by simpa using hi
      simp [badAt, hs]
    | succ i =>
      have h0 := h 0 y (by omega) rfl
      have := ih (i := i) (fun j x hj hx => h (j + 1) x (by omega) (by simpa using hx)) (by simpa using hi)
      simp only [badAt]
      rw [if_pos h0, this, if_neg (by omega)]
      omega
theorem badAt_miss {l : List ByteArray} (h : ∀ (j : Nat) (x : ByteArray), l[j]? = some x → plainB x.data.toList = true) : badAt l = -1 := by
  induction l with
  | nil => rfl
  | cons y l ih =>
    simp only [badAt]
    rw [if_pos (h 0 y rfl), ih (fun j x hx => h (j + 1) x (by simpa using hx)), if_pos rfl]

set_option maxHeartbeats 1000000 in
set_option maxRecDepth 100000 in
theorem sindexfunc_calls (xs : List ByteArray) (A : Option Addr) (c : Nat) (w : World) (hC : Kd.string.C w A xs.length xs) (hl : xs.length ≤ 1000000000000) (hs : ∀ x ∈ xs, x.size ≤ 140737488351232) :
    Calls Tryd.prog 82 #[.slice A xs.length c, .func (.func 65) #[] #[]] w fun e w' => e = .returned (.int .i64 (badAt xs)) ∧ Below w.heap.size w w' := by
  have HC := Lib.hid hC
  have HS := Lib.hid hs
  clear hC hs
  go_enter Tryd.func82, Tryd.ntmps82
  go_wp2
  go_loopw [8] (fun v wr => ∃ i : Nat, i ≤ xs.length ∧ v = .int .i64 i ∧ Aside0 (∀ j x, j < i → xs[j]? = some x → plainB x.data.toList = true) ∧ Aside0 (Below w.heap.size w wr)) (fun v _ => xs.length - (intOf v).toNat)
  case atStart => exact ⟨0, by omega, rfl, ⟨fun j x hj => by omega⟩, ⟨Below.refl _ _⟩⟩
  case round =>
    obtain ⟨i, hi, rfl, hN, hB⟩ := hrel
    by_cases hlt : i < xs.length
    · obtain ⟨s, hx⟩ := get_of_lt hlt
      obtain ⟨ad, rfl, h0⟩ := C_str (Kd.C_below HC.out hB.out) hx
      have hsz := HS.out s (List.mem_of_getElem? hx)
      have HX := Lib.hid hx
      clear hx
      cases hp : plainB s.data.toList with
      | false =>
        have HP := Lib.hid hp
        clear hp
        go_wp2_with (go_at_call 65; refine (notplain_calls s _ hsz).mono ?_; rintro e w1 ⟨rfl, hB1⟩; rw [HP.out]; have HB1 := Lib.hid hB1; clear hB1)
        go_ret
        exact ⟨ret_int (badAt_hit hN.out HX.out HP.out).symm, below_then hB.out hB.out.size HB1.out⟩
      | true =>
        have HP := Lib.hid hp
        clear hp
        go_wp2_with (go_at_call 65; refine (notplain_calls s _ hsz).mono ?_; rintro e w1 ⟨rfl, hB1⟩; rw [HP.out]; have HB1 := Lib.hid hB1; clear hB1)
        go_roundw
        case rel =>
          refine ⟨i + 1, by omega, by go_num, ⟨fun j x hj hjx => ?_⟩, ⟨below_then hB.out hB.out.size HB1.out⟩⟩
          rcases Nat.lt_or_ge j i with h3 | h3
          · exact hN.out j x h3 hjx
          · obtain rfl : j = i := by omega
            rw [HX.out] at hjx
            obtain rfl := Option.some.inj hjx
            exact HP.out
        case measure => simp [intOf]; omega
    · go_wp2
      go_ret
      exact ⟨ret_int (badAt_miss (fun j x hx => hN.out j x (by have := (List.getElem?_eq_some_iff.1 hx).1; omega) hx)).symm, hB.out⟩
theorem scontainsfunc_calls (xs : List ByteArray) (A : Option Addr) (c : Nat) (w : World) (hC : Kd.string.C w A xs.length xs) (hl : xs.length ≤ 1000000000000) (hs : ∀ x ∈ xs, x.size ≤ 140737488351232) :
    Calls Tryd.prog 64 #[.slice A xs.length c, .func (.func 65) #[] #[]] w fun e w' => e = .returned (.bool (!(bytesL xs).all plainB)) ∧ Below w.heap.size w w' := by
  rw [← badAt_all]
  obtain ⟨r, hr⟩ : ∃ r, badAt xs = r := ⟨_, rfl⟩
  rw [hr]
  have HR := Lib.hid hr
  have HC := Lib.hid hC
  have HS := Lib.hid hs
  clear hr hC hs
  go_enter Tryd.func64, Tryd.ntmps64
  go_wp2_with (go_at_call 82; refine (sindexfunc_calls xs A c _ HC.out hl HS.out).mono ?_; rintro e w' ⟨rfl, hB⟩; rw [HR.out]; have HB := Lib.hid hB; clear hB)
  go_ret
  exact ⟨rfl, HB.out⟩

/-- What Path hands back: the names, in a row, and true; or nothing. -/
def PathPost (s : ByteArray) (w : World) (e : Ending) (w' : World) : Prop :=
  Below w.heap.size w w' ∧ (if pathB s.data.toList = true then ∃ A c xs, bytesL xs = pieces s.data.toList ∧ e = .returned (.tuple #[.slice A xs.length c, .bool true]) ∧ Kd.string.C w' A xs.length xs ∧ xs.length ≤ c ∧ (∀ x ∈ xs, x.size ≤ s.size)
    else e = .returned (.tuple #[.slice none 0 0, .bool false]))
theorem pieces_len (l : Bytes) : ∀ p ∈ pieces l, p.length ≤ l.length := by
  induction l with
  | nil => intro p hp; simp [pieces] at hp; simp [hp]
  | cons b l ih =>
    intro p hp
    simp only [pieces] at hp
    split at hp
    · rcases List.mem_cons.1 hp with rfl | hp
      · simp
      · have := ih p hp; simp only [List.length_cons]; omega
    · cases hps : pieces l with
      | nil => exact absurd hps (pieces_ne l)
      | cons q qs =>
        rw [hps] at hp
        have h1 : q.length ≤ l.length := ih q (by rw [hps]; exact List.mem_cons_self)
        rcases List.mem_cons.1 hp with rfl | hp
        · simp only [List.length_cons]; omega
        · have := ih p (by rw [hps]; exact List.mem_cons_of_mem _ hp); simp only [List.length_cons]; omega
theorem pieces_count (l : Bytes) : (pieces l).length ≤ l.length + 1 := by
  induction l with
  | nil => simp [pieces]
  | cons b l ih =>
    simp only [pieces]
    split
    · simp only [List.length_cons]; omega
    · split
      · simp
      · rename_i p ps h; rw [h] at ih; simp only [List.length_cons] at ih ⊢; omega
set_option maxHeartbeats 1000000 in
set_option maxRecDepth 100000 in
theorem path_calls (s : ByteArray) (m : Int) (w : World) (hs : s.size < 4294967281) (hm : w.cell? ⟨0, 0, none⟩ = some (.int .i64 m)) :
    Calls Tryd.prog 45 #[.string s] w (PathPost s w) := by
  obtain ⟨xs, hxs⟩ : ∃ xs, Lib.splitB ⟨#[46]⟩ 0 (Lib.countB s ⟨#[46]⟩) s = xs := ⟨_, rfl⟩
  have hp := splitB_pieces s.size s (Nat.le_refl _)
  have hlen : xs.length = Lib.countB s ⟨#[46]⟩ + 1 := by rw [← hxs]; exact Lib.splitB_all _ (by decide) _ _ _ rfl
  rw [hxs] at hp
  have hlp : xs.length = (pieces s.data.toList).length := by rw [← hp, List.length_map]
  have hcnt := pieces_count s.data.toList
  have hsl : s.data.toList.length = s.size := Array.length_toList
  have hsz : ∀ x ∈ xs, x.size ≤ s.size := by
    intro x hx
    have h1 := pieces_len s.data.toList x.data.toList (by rw [← hp]; exact List.mem_map_of_mem hx)
    rw [hsl] at h1
    have h2 : x.data.toList.length = x.size := Array.length_toList
    omega
  have HSZ := Lib.hid hsz
  have HS := Lib.hid (show ∀ x ∈ xs, x.size ≤ 140737488351232 from fun x hx => by have := hsz x hx; omega)
  have HP : Hid (bytesL xs = pieces s.data.toList) := Lib.hid hp
  have HX := Lib.hid hxs
  have HL := Lib.hid hlen
  have hl9 : xs.length ≤ 1000000000000 := by omega
  have HC := C_lit w xs 9
  clear hp hlen hsz hxs
  by_cases h8 : 8 < xs.length
  · have hno : Hid (pathB s.data.toList = false) := Lib.hid (by unfold pathB; rw [decide_eq_false (by omega)]; rfl)
    clear hlp
    go_enter Tryd.func45, Tryd.ntmps45
    go_wp2_with (go_at_call 63; refine (Tryd.strings_Split s ⟨#[46]⟩ m _ hs hm (by decide)).mono ?_; rintro e w' ⟨rfl, rfl⟩; rw [HX.out, ← HL.out])
    go_ret2
    exact ⟨below_alloc (Below.refl _ _) _, by rw [if_neg (by rw [hno.out]; simp)]; rfl⟩
  · have hall : pathB s.data.toList = (bytesL xs).all plainB := by unfold pathB; rw [decide_eq_true (by omega), HP.out, Bool.true_and]
    cases ha : (bytesL xs).all plainB with
    | false =>
      have hno : Hid (pathB s.data.toList = false) := Lib.hid (hall.trans ha)
      have HA := Lib.hid ha
      clear hlp hall ha
      go_enter Tryd.func45, Tryd.ntmps45
      go_wp2_with (first
        | (go_at_call 63; refine (Tryd.strings_Split s ⟨#[46]⟩ m _ hs hm (by decide)).mono ?_; rintro e w' ⟨rfl, rfl⟩; rw [HX.out, ← HL.out])
        | (go_at_call 64; refine (scontainsfunc_calls xs _ _ _ (HC (by omega)) hl9 HS.out).mono ?_; rintro e w1 ⟨rfl, hB1⟩; rw [HA.out]; have HB1 := Lib.hid hB1; clear hB1))
      go_ret2
      exact ⟨below_then (below_alloc (Below.refl _ _) _) (by simp) HB1.out, by rw [if_neg (by rw [hno.out]; simp)]; rfl⟩
    | true =>
      have hno : Hid (pathB s.data.toList = true) := Lib.hid (hall.trans ha)
      have HA := Lib.hid ha
      clear hlp hall ha
      go_enter Tryd.func45, Tryd.ntmps45
      go_wp2_with (first
        | (go_at_call 63; refine (Tryd.strings_Split s ⟨#[46]⟩ m _ hs hm (by decide)).mono ?_; rintro e w' ⟨rfl, rfl⟩; rw [HX.out, ← HL.out])
        | (go_at_call 64; refine (scontainsfunc_calls xs _ _ _ (HC (by omega)) hl9 HS.out).mono ?_; rintro e w1 ⟨rfl, hB1⟩; rw [HA.out]; have HB1 := Lib.hid hB1; clear hB1))
      go_ret2
      exact ⟨below_then (below_alloc (Below.refl _ _) _) (by simp) HB1.out, by rw [if_pos hno.out]; exact ⟨_, _, xs, HP.out, rfl, Kd.C_below (HC (by omega)) HB1.out, Nat.le_refl _, HSZ.out⟩⟩
end Go.Proofs.YtfcpfbdlkanlpaaDoor
