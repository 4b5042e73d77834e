/- ident: Letter, Digit, Inside, Name, by contract. -/
import Derived.Test.YtfcpfbdlkanlpaaDoorBase
import Derived.Test.YtfcpfbdlkanlpaaDoorPlainId
import Derived.Lib.OthersKept
import Derived.Laws.RangeAny
namespace Go.Proofs.YtfcpfbdlkanlpaaDoor
open Go.RowKit Go.Proofs.YtfcpfbdlkanlpaaDoorW.PrintWords Go.Proofs.YtfcpfbdlkanlpaaDoorW.PrintLast
set_option linter.unusedVariables false
set_option linter.unusedSimpArgs false

theorem ret_bool {a b : Bool} (h : a = b) : Ending.returned (.bool a) = .returned (.bool b) := by rw [h]
theorem letter_calls (r : Int) (w : World) : Calls Tryd.prog 85 #[.int .i32 r] w fun e w' => e = .returned (.bool (letterB r)) ∧ w = w' := by
  have hc : r < 65 ∨ (65 ≤ r ∧ r ≤ 90) ∨ (90 < r ∧ r < 97) ∨ (97 ≤ r ∧ r ≤ 122) ∨ (122 < r ∧ r < 913) ∨ (913 ≤ r ∧ r ≤ 969) ∨ 969 < r := by omega
  rcases hc with h | ⟨h, h'⟩ | ⟨h, h'⟩ | ⟨h, h'⟩ | ⟨h, h'⟩ | ⟨h, h'⟩ | h
  all_goals first | rw [letterB_yes (by omega)] | rw [letterB_no (by omega)]
  all_goals
    go_enter Tryd.func85, Tryd.ntmps85
    go_wp2
    go_ret
    first | exact ⟨rfl, rfl⟩ | exact ⟨ret_bool (by simp; omega), rfl⟩
theorem digit_calls (r : Int) (w : World) : Calls Tryd.prog 86 #[.int .i32 r] w fun e w' => e = .returned (.bool (digitB r)) ∧ w = w' := by
  have hc : r < 48 ∨ (48 ≤ r ∧ r ≤ 57) ∨ 57 < r := by omega
  rcases hc with h | ⟨h, h'⟩ | h
  all_goals first | rw [digitB_yes (by omega)] | rw [digitB_no (by omega)]
  all_goals
    go_enter Tryd.func86, Tryd.ntmps86
    go_wp2
    go_ret
    first | exact ⟨rfl, rfl⟩ | exact ⟨ret_bool (by simp; omega), rfl⟩
theorem inside_calls (r : Int) (w : World) : Calls Tryd.prog 72 #[.int .i32 r] w fun e w' => e = .returned (.bool (insideB r)) ∧ w = w' := by
  unfold insideB
  cases hl : letterB r with
  | true =>
    have HL := Lib.hid hl
    clear hl
    go_enter Tryd.func72, Tryd.ntmps72
    go_wp2_with (go_at_call 85; refine (letter_calls _ _).mono ?_; rintro e w' ⟨rfl, rfl⟩; rw [HL.out])
    go_ret
    exact ⟨rfl, rfl⟩
  | false =>
    cases hd : digitB r with
    | true =>
      have HL := Lib.hid hl
      have HD := Lib.hid hd
      clear hl hd
      go_enter Tryd.func72, Tryd.ntmps72
      go_wp2_with (first | (go_at_call 85; refine (letter_calls _ _).mono ?_; rintro e w' ⟨rfl, rfl⟩; rw [HL.out]) | (go_at_call 86; refine (digit_calls _ _).mono ?_; rintro e w' ⟨rfl, rfl⟩; rw [HD.out]))
      go_ret
      exact ⟨rfl, rfl⟩
    | false =>
      have HL := Lib.hid hl
      have HD := Lib.hid hd
      clear hl hd
      by_cases h : r = 95
      · subst h
        go_enter Tryd.func72, Tryd.ntmps72
        go_wp2_with (first | (go_at_call 85; refine (letter_calls _ _).mono ?_; rintro e w' ⟨rfl, rfl⟩; rw [HL.out]) | (go_at_call 86; refine (digit_calls _ _).mono ?_; rintro e w' ⟨rfl, rfl⟩; rw [HD.out]))
        go_ret
        exact ⟨rfl, rfl⟩
      · have hb : (r == 95) = false := beq_eq_false_iff_ne.2 h
        have hb2 : decide (r = 95) = false := decide_eq_false h
        rw [hb2]
        clear h hb2
        go_enter Tryd.func72, Tryd.ntmps72
        go_wp2_with (first | (go_at_call 85; refine (letter_calls _ _).mono ?_; rintro e w' ⟨rfl, rfl⟩; rw [HL.out]) | (go_at_call 86; refine (digit_calls _ _).mono ?_; rintro e w' ⟨rfl, rfl⟩; rw [HD.out]))
        go_ret
        exact ⟨rfl, rfl⟩

theorem below_iter (w : World) (s : ByteArray) (p : Nat) : Below w.heap.size w (w.iter s p) := below_alloc (Below.refl _ _) _
theorem drop_ne_nil {s : ByteArray} {pos : Nat} (h : pos < s.size) : s.data.toList.drop pos ≠ [] := by
  intro e
  have h1 := congrArg List.length e
  rw [List.length_drop, Array.length_toList] at h1
  have h2 : s.data.size = s.size := rfl
  simp at h1
  omega
theorem runes_at {s : ByteArray} {pos : Nat} (h : pos < s.size) : runes (s.data.toList.drop pos) = Utf8.decode s pos :: runes (s.data.toList.drop (pos + (Utf8.decode s pos).2)) := by
  rw [runes_step (drop_ne_nil h), Lib.decodeL_drop, List.drop_drop]
theorem runes_past {s : ByteArray} {pos : Nat} (h : ¬ pos < s.size) : runes (s.data.toList.drop pos) = [] := by
  rw [List.drop_eq_nil_of_le (by rw [Array.length_toList]; have h2 : s.data.size = s.size := rfl; omega)]; rfl
theorem decode_fits (s : ByteArray) (pos : Nat) (h : pos < s.size) : pos + (Utf8.decode s pos).2 ≤ s.size := by
  have h1 := Lib.decodeL_le _ (drop_ne_nil h)
  rw [Lib.decodeL_drop, List.length_drop, Array.length_toList] at h1
  have h2 : s.data.size = s.size := rfl
  omega
theorem width_pos (s : ByteArray) (pos : Nat) : 1 ≤ (Utf8.decode s pos).2 := by rw [← Lib.decodeL_drop]; exact Lib.decodeL_width _

set_option maxHeartbeats 1000000 in
set_option maxRecDepth 100000 in
theorem name_calls (s : ByteArray) (w : World) (hs : s.size ≤ 140737488351232) : Calls Tryd.prog 83 #[.string s] w fun e w' => e = .returned (.bool (nameB s.data.toList)) ∧ Below w.heap.size w w' := by
  obtain ⟨ans, hans⟩ : ∃ b, nameB s.data.toList = b := ⟨_, rfl⟩
  rw [hans]
  go_enter Tryd.func83, Tryd.ntmps83
  go_wp2
  go_loopw [3] (fun v wr => ∃ (pos n : Nat), v = .int .i64 n ∧ n ≤ pos ∧ pos ≤ s.size + 4 ∧ wr = w.iter s pos ∧ Aside0 (nameGo (runes (s.data.toList.drop pos)) n (pos == 0) = ans)) (fun _ wr => s.size - wr.iterPos w.heap.size)
  case atStart => exact ⟨0, 0, rfl, by omega, by omega, rfl, ⟨hans⟩⟩
  case round =>
    clear hans
    obtain ⟨pos, n, rfl, hn, hps, rfl, hA⟩ := hrel
    by_cases hp : pos < s.size
    · have hnx : ∀ ty, (Instr.next (.pointer (some ⟨w.heap.size, 0, none⟩)) true ty).run Tryd.prog (w.iter s pos) = _ := fun ty => run_next_any w s pos ty hp
      have hwd := width_pos s pos
      have hA1 := hA.out
      rw [runes_at hp] at hA1
      have hw1 := decode_le s pos
      simp only [nameGo] at hA1
      have hpz : (pos == 0) = true ∨ (pos == 0) = false := by cases (pos == 0) <;> simp
      have arms : True := trivial
      cases hi : insideB (Utf8.decode s pos).1 with
      | false =>
        rw [hi] at hA1
        simp only [Bool.false_and] at hA1
        have hA2 : false = ans := by simpa using hA1
        subst hA2
        have HI := Lib.hid hi
        clear hi hA1 hpz
        go_wp2_with (go_at_call 72; refine (inside_calls _ _).mono ?_; rintro e w' ⟨rfl, rfl⟩; rw [HI.out])
        go_ret
        exact ⟨rfl, below_iter _ _ _⟩
      | true =>
        rw [hi] at hA1
        have HI := Lib.hid hi
        clear hi hpz
        rcases Nat.eq_zero_or_pos pos with h0 | h0
        · subst h0
          cases hl : letterB (Utf8.decode s 0).1 with
          | false =>
            rw [hl] at hA1
            have hA2 : false = ans := by simpa using hA1
            subst hA2
            have HL := Lib.hid hl
            clear hl hA1
            go_wp2_with (first | (go_at_call 72; refine (inside_calls _ _).mono ?_; rintro e w' ⟨rfl, rfl⟩; rw [HI.out]) | (go_at_call 85; refine (letter_calls _ _).mono ?_; rintro e w' ⟨rfl, rfl⟩; rw [HL.out]))
            go_ret
            exact ⟨rfl, below_iter _ _ _⟩
          | true =>
            rw [hl] at hA1
            have hA2 := Aside0.mk (show nameGo (runes (s.data.toList.drop (0 + (Utf8.decode s 0).2))) (n + 1) false = ans by simpa using hA1)
            have HL := Lib.hid hl
            clear hl hA1
            have hwl := decode_fits s 0 hp
            go_wp2_with (first | (go_at_call 72; refine (inside_calls _ _).mono ?_; rintro e w' ⟨rfl, rfl⟩; rw [HI.out]) | (go_at_call 85; refine (letter_calls _ _).mono ?_; rintro e w' ⟨rfl, rfl⟩; rw [HL.out]))
            go_roundw
            case rel => exact ⟨0 + (Utf8.decode s 0).2, n + 1, by go_num, by omega, by omega, by rw [Nat.zero_add], ⟨by rw [beq_eq_false_iff_ne.2 (by omega)]; exact hA2.out⟩⟩
            case measure => rw [World.iterPos_iter, World.iterPos_iter]; omega
        · have hA2 := Aside0.mk (show nameGo (runes (s.data.toList.drop (pos + (Utf8.decode s pos).2))) (n + 1) false = ans by rw [beq_eq_false_iff_ne.2 (by omega)] at hA1; simpa using hA1)
          clear hA1
          have hwl := decode_fits s pos hp
          have hb0 : ((pos : Int) == 0) = false := beq_eq_false_iff_ne.2 (by omega)
          go_wp2_with (go_at_call 72; refine (inside_calls _ _).mono ?_; rintro e w' ⟨rfl, rfl⟩; rw [HI.out])
          go_roundw
          case rel => exact ⟨pos + (Utf8.decode s pos).2, n + 1, by go_num, by omega, by omega, rfl, ⟨by rw [beq_eq_false_iff_ne.2 (by omega)]; exact hA2.out⟩⟩
          case measure => rw [World.iterPos_iter, World.iterPos_iter]; omega
    · have hnx : ∀ ty, (Instr.next (.pointer (some ⟨w.heap.size, 0, none⟩)) true ty).run Tryd.prog (w.iter s pos) = _ := fun ty => run_next_end w s pos ty hp
      have hA1 := hA.out
      rw [runes_past hp] at hA1
      simp only [nameGo] at hA1
      subst hA1
      by_cases h0 : 0 < n
      · by_cases h40 : n ≤ 40
        · go_wp2
          go_ret
          exact ⟨ret_bool (by simp [h0, h40]; omega), below_iter _ _ _⟩
        · go_wp2
          go_ret
          exact ⟨ret_bool (by simp [h0, h40]; omega), below_iter _ _ _⟩
      · go_wp2
        go_ret
        exact ⟨ret_bool (by simp; omega), below_iter _ _ _⟩
end Go.Proofs.YtfcpfbdlkanlpaaDoor
