/- courierref03: Runes, Name, Plain. -/
import Derived.Test.YtfcpfbdlkanlpaaDoorRef03
namespace Go.Proofs.YtfcpfbdlkanlpaaDoor
open Go.RowKit Go.Proofs.YtfcpfbdlkanlpaaDoorW.PrintWords Go.Proofs.YtfcpfbdlkanlpaaDoorW.PrintLast
set_option linter.unusedVariables false
set_option linter.unusedSimpArgs false

/-! ### plain: the two ways to tell a name -/
def runeL (l : Bytes) : List Int := (runes l).map fun r => (r.1 : Int)
theorem nameGo_false (t : List (Nat × Nat)) (n : Nat) : nameGo t n false = (t.all (fun r => insideB r.1) && decide (0 < n + t.length ∧ n + t.length ≤ 40)) := by
  induction t generalizing n with
  | nil => simp [nameGo]
  | cons r t ih =>
    simp only [nameGo, List.all_cons, List.length_cons]
    cases hi : insideB r.1 with
    | false => simp
    | true =>
      simp only [Bool.not_false, Bool.true_or, Bool.and_true, if_true, Bool.true_and]
      rw [ih, show n + 1 + t.length = n + (t.length + 1) by omega]
theorem name_eq (l : Bytes) : nameB l = (decide (1 ≤ (runeL l).length) && decide ((runeL l).length ≤ 40) && letterB ((runeL l).headD 0) && (runeL l).all insideB) := by
  unfold nameB runeL
  cases hr : runes l with
  | nil => simp [nameGo]
  | cons r t =>
    simp only [nameGo, List.map_cons, List.length_cons, List.headD_cons, List.all_cons, List.length_map, List.all_map]
    rw [nameGo_false]
    have h1 : (t.all fun r => insideB (r.1 : Int)) = t.all (insideB ∘ fun r => (r.1 : Int)) := rfl
    rw [← h1]
    have h2 : decide (0 < 0 + 1 + t.length ∧ 0 + 1 + t.length ≤ 40) = decide (t.length + 1 ≤ 40) := by
      by_cases h : t.length + 1 ≤ 40
      · rw [decide_eq_true h, decide_eq_true (by omega)]
      · rw [decide_eq_false h, decide_eq_false (by omega)]
    rw [h2, decide_eq_true (show 1 ≤ t.length + 1 by omega)]
    cases insideB (r.1 : Int) <;> cases letterB (r.1 : Int) <;> cases (t.all fun r => insideB (r.1 : Int)) <;> cases decide (t.length + 1 ≤ 40) <;> rfl
theorem valid_bad : ∀ (k : Nat) (l : Bytes), l.length ≤ k → Lib.validD l = false → (runeL l).all insideB = false := by
  intro k
  induction k with
  | zero =>
    intro l hl hv
    obtain rfl : l = [] := List.eq_nil_of_length_eq_zero (by omega)
    rw [Lib.validD_nil] at hv
    cases hv
  | succ k ih =>
    intro l hl hv
    by_cases hne : l = []
    · subst hne
      rw [Lib.validD_nil] at hv
      cases hv
    · rw [Lib.validD_step l hne] at hv
      unfold runeL
      rw [runes_step hne, List.map_cons, List.all_cons]
      by_cases hb : (Lib.decodeL l).1 = 65533 ∧ (Lib.decodeL l).2 = 1
      · rw [hb.1]; rfl
      · rw [if_neg hb] at hv
        have hw := decodeL_pos l
        have := ih (l.drop (Lib.decodeL l).2) (by have := List.length_pos_iff.2 hne; rw [List.length_drop]; omega) hv
        unfold runeL at this
        rw [this, Bool.and_false]
theorem runesFrom_eq (s : ByteArray) : ∀ (b i : Nat) (acc : Array Value), s.size ≤ i + b → Conv.runesFrom s b i acc = acc ++ ((runeL (s.data.toList.drop i)).map (Value.int .i32)).toArray
  | 0, i, acc, h => by
    unfold runeL
    rw [runes_past (by omega)]
    simp [Conv.runesFrom]
  | b + 1, i, acc, h => by
    unfold Conv.runesFrom
    by_cases hi : i < s.size
    · have hw := width_pos s i
      rw [if_pos hi]
      show Conv.runesFrom s b (i + (Utf8.decode s i).2) (acc.push (.int .i32 (Int.ofNat (Utf8.decode s i).1))) = _
      rw [runesFrom_eq s b _ _ (by omega)]
      have : runeL (s.data.toList.drop i) = ((Utf8.decode s i).1 : Int) :: runeL (s.data.toList.drop (i + (Utf8.decode s i).2)) := by
        unfold runeL
        rw [runes_at hi, List.map_cons]
      rw [this]
      simp
    · rw [if_neg hi]
      unfold runeL
      rw [runes_past hi]
      simp

/-- A row of whole numbers at the head of a new block. -/
theorem C_ints {k : IntKind} (W : World) (xs : List Int) (spare : Array Value) (e : TypeId) (hl : xs.length ≤ 9223372036854775807) : (Kd.int k).C (W.alloc (.cells ((xs.map (Value.int k)).toArray ++ spare) e)) (some ⟨W.heap.size, 0, none⟩) xs.length xs := by
  refine ⟨rfl, by omega, fun _ => ⟨_, rfl, fun j p hj => ⟨[.int k p], rfl, rfl, fun i u hu => ?_⟩⟩⟩
  cases i with
  | zero =>
    have hu' : Value.int k p = u := by simpa using hu
    subst hu'
    rw [add_plain, blk_cell (blk_new W _)]
    show ((xs.map (Value.int k)).toArray ++ spare)[j * 1 + 0]? = _
    have hj' := (List.getElem?_eq_some_iff.1 hj).1
    rw [Nat.mul_one, Nat.add_zero, Array.getElem?_append_left (by simpa using hj')]
    simp [hj]
  | succ i => simp at hu
theorem C_int {k : IntKind} {w : World} {A : Option Addr} {n : Nat} {xs : List Int} (h : (Kd.int k).C w A n xs) {i : Nat} {x : Int} (hx : xs[i]? = some x) :
    ∃ ad, A = some ad ∧ w.cell? (ad.add i) = some (.int k x) := by
  obtain ⟨ad, c, e, hl, hK, hc⟩ := C_at h hx
  obtain rfl : c = [.int k x] := hK
  exact ⟨ad, e, by have := hc 0 _ rfl; rwa [show i * (Kd.int k).sz + 0 = i from by show i * 1 + 0 = i; omega] at this⟩

def RunesPost (s : ByteArray) (w : World) (e : Ending) (w' : World) : Prop :=
  Below w.heap.size w w' ∧ (if Lib.validD s.data.toList = true then ∃ A c, e = .returned (.tuple #[.slice A (runeL s.data.toList).length c, .bool true]) ∧ (Kd.int .i32).C w' A (runeL s.data.toList).length (runeL s.data.toList)
    else e = .returned (.tuple #[.slice none 0 0, .bool false]))
theorem runes_len (l : Bytes) : (runeL l).length ≤ l.length := by
  have : ∀ (k : Nat) (l : Bytes), l.length ≤ k → (runes l).length ≤ l.length := by
    intro k
    induction k with
    | zero => intro l h; obtain rfl : l = [] := List.eq_nil_of_length_eq_zero (by omega); simp [runes_nil]
    | succ k ih =>
      intro l h
      by_cases hne : l = []
      · subst hne; simp [runes_nil]
      · have hw := decodeL_pos l
        have hp := List.length_pos_iff.2 hne
        rw [runes_step hne, List.length_cons]
        have := ih (l.drop (Lib.decodeL l).2) (by rw [List.length_drop]; omega)
        rw [List.length_drop] at this
        omega
  unfold runeL
  rw [List.length_map]
  exact this _ l (Nat.le_refl _)
set_option maxHeartbeats 1000000 in
set_option maxRecDepth 100000 in
theorem rrunes_calls (s : ByteArray) (w : World) (hs : s.size ≤ 70368744177664) (hT : Lib.Utf8Tabs 1 2 w) : Calls Tryd.prog 68 #[.string s] w (RunesPost s w) := by
  have HT := Lib.hid hT
  clear hT
  cases hv : Lib.validD s.data.toList with
  | false =>
    have HV := Lib.hid hv
    clear hv
    go_enter Tryd.func68, Tryd.ntmps68
    go_wp2_with (go_at_call 84; refine (Tryd.utf8_ValidString s _ (by omega) HT.out).mono ?_; rintro e w1 ⟨rfl, hB1⟩; rw [HV.out]; have HB1 := Lib.hid hB1; clear hB1)
    go_ret2
    exact ⟨HB1.out, by rw [if_neg (by rw [HV.out]; simp)]; rfl⟩
  | true =>
    have HV := Lib.hid hv
    have hrf := runesFrom_eq s s.size 0 #[] (by omega)
    rw [List.drop_zero] at hrf
    have hlen := runes_len s.data.toList
    have hsl : s.data.toList.length = s.size := Array.length_toList
    have hconv := fun (w : World) => run_runes_of_string (P := Tryd.prog) w 9 126 21 s Tryd.underlying9 Tryd.underlying126 Tryd.underlying21 (by rw [hrf]; simp; omega)
    rw [hrf] at hconv
    simp only [Array.empty_append] at hconv
    have hsz : ((runeL s.data.toList).map (Value.int .i32)).toArray.size = (runeL s.data.toList).length := by simp
    rw [hsz] at hconv
    clear hv hrf hsz
    go_enter Tryd.func68, Tryd.ntmps68
    go_wp2_with (go_at_call 84; refine (Tryd.utf8_ValidString s _ (by omega) HT.out).mono ?_; rintro e w1 ⟨rfl, hB1⟩; rw [HV.out]; have HB1 := Lib.hid hB1; clear hB1)
    go_ret2
    refine ⟨(below_alloc HB1.out _).drew, ?_⟩
    rw [if_pos HV.out]
    exact ⟨_, _, rfl, Kd.C_below (C_ints w1 _ _ _ (by omega)) (Below.refl _ _).drew⟩

theorem add_zero_ (a : Addr) : a.add 0 = a := by unfold Addr.add; simp
def NamePost (s : ByteArray) (w : World) (e : Ending) (w' : World) : Prop := e = .returned (.bool (nameB s.data.toList)) ∧ Below w.heap.size w w'
theorem NamePost.of {s : ByteArray} {w w' : World} {b : Bool} (h : nameB s.data.toList = b) (hb : Below w.heap.size w w') : NamePost s w (.returned (.bool b)) w' := ⟨by rw [h], hb⟩
set_option maxHeartbeats 2000000 in
set_option maxRecDepth 100000 in
theorem rname_calls (s : ByteArray) (w : World) (hs : s.size ≤ 70368744177664) (hT : Lib.Utf8Tabs 1 2 w) : Calls Tryd.prog 48 #[.string s] w (NamePost s w) := by
  have HT := Lib.hid hT
  clear hT
  have hname := name_eq s.data.toList
  cases hv : Lib.validD s.data.toList with
  | false =>
    have hn : Hid (nameB s.data.toList = false) := Lib.hid (by rw [hname, valid_bad _ _ (Nat.le_refl _) hv, Bool.and_false])
    have HV := Lib.hid hv
    clear hv hname
    go_enter Tryd.func48, Tryd.ntmps48
    go_wp2_with (go_at_call 68; refine (rrunes_calls s _ hs HT.out).mono ?_; rintro e w1 ⟨hB1, h2⟩; have HB1 := Lib.hid hB1; clear hB1; rw [if_neg (by rw [HV.out]; simp)] at h2; subst h2)
    go_ret
    exact NamePost.of hn.out HB1.out
  | true =>
    have HV := Lib.hid hv
    clear hv
    obtain ⟨rs, hrs⟩ : ∃ rs, runeL s.data.toList = rs := ⟨_, rfl⟩
    have hlen := runes_len s.data.toList
    have hsl : s.data.toList.length = s.size := Array.length_toList
    rw [hrs] at hname hlen
    rw [hsl] at hlen
    have HR := Lib.hid hrs
    clear hrs hsl
    have arm : ∀ w : World, Lib.Utf8Tabs 1 2 w → Calls Tryd.prog 68 #[.string s] w (fun e w' => ∃ A c, e = .returned (.tuple #[.slice A rs.length c, .bool true]) ∧ Aside0 ((Kd.int .i32).C w' A rs.length rs) ∧ Aside0 (Below w.heap.size w w')) := fun w hT => (rrunes_calls s w hs hT).mono fun e w' ⟨hB, h2⟩ => by
      rw [if_pos HV.out, HR.out] at h2
      obtain ⟨A, c, he, hC⟩ := h2
      exact ⟨A, c, he, ⟨hC⟩, ⟨hB⟩⟩
    have ARM := Lib.hid arm
    clear arm
    by_cases h1 : rs.length < 1
    · have hn : Hid (nameB s.data.toList = false) := Lib.hid (by rw [hname, decide_eq_false (by omega)]; rfl)
      clear hname
      go_enter Tryd.func48, Tryd.ntmps48
      go_wp2_with (go_at_call 68; refine (ARM.out _ HT.out).mono ?_; rintro e w1 ⟨A1, c1, rfl, hC1, hB1⟩)
      go_ret
      exact NamePost.of hn.out hB1.out
    · by_cases h40 : 40 < rs.length
      · have hn : Hid (nameB s.data.toList = false) := Lib.hid (by rw [hname, decide_eq_false (show ¬ rs.length ≤ 40 by omega), Bool.and_false]; rfl)
        clear hname
        go_enter Tryd.func48, Tryd.ntmps48
        go_wp2_with (go_at_call 68; refine (ARM.out _ HT.out).mono ?_; rintro e w1 ⟨A1, c1, rfl, hC1, hB1⟩)
        go_ret
        exact NamePost.of hn.out hB1.out
      · obtain ⟨r0, hr0⟩ := get_of_lt (show 0 < rs.length by omega)
        have hhd : rs.headD 0 = r0 := by cases rs with | nil => simp at hr0 | cons a t => simpa using hr0
        rw [hhd, decide_eq_true (show 1 ≤ rs.length by omega), decide_eq_true (show rs.length ≤ 40 by omega), Bool.and_self, Bool.true_and] at hname
        have HR0 := Lib.hid hr0
        clear hhd hr0
        have hpos0 : (0 : Int) < (rs.length : Int) := by omega
        have hb1 : decide ((rs.length : Int) < 1) = false := decide_eq_false (by omega)
        have hb40 : decide ((40 : Int) < (rs.length : Int)) = false := decide_eq_false (by omega)
        cases hl : letterB r0 with
        | false =>
          have hn : Hid (nameB s.data.toList = false) := Lib.hid (by rw [hname, hl]; rfl)
          have HL := Lib.hid hl
          clear hname hl
          go_enter Tryd.func48, Tryd.ntmps48
          go_wp2_with (first
            | (go_at_call 68; refine (ARM.out _ HT.out).mono ?_; rintro e w1 ⟨A1, c1, rfl, hC1, hB1⟩; obtain ⟨ad1, rfl, hc0⟩ := C_int hC1.out HR0.out; rw [add_zero_] at hc0)
            | (go_at_call 69; refine (rletter_calls _ _).mono ?_; rintro e w' ⟨rfl, rfl⟩; rw [HL.out]))
          go_ret
          exact NamePost.of hn.out hB1.out
        | true =>
          rw [hl, Bool.true_and] at hname
          have HN := Lib.hid hname
          have HL := Lib.hid hl
          clear hname hl
          go_enter Tryd.func48, Tryd.ntmps48
          go_wp2_with (first
            | (go_at_call 68; refine (ARM.out _ HT.out).mono ?_; rintro e w1 ⟨A1, c1, rfl, hC1, hB1⟩; obtain ⟨ad1, rfl, hc0⟩ := C_int hC1.out HR0.out; rw [add_zero_] at hc0)
            | (go_at_call 69; refine (rletter_calls _ _).mono ?_; rintro e w' ⟨rfl, rfl⟩; rw [HL.out]))
          go_loopw [32] (fun v wr => ∃ i : Nat, i ≤ rs.length ∧ v = .int .i64 i ∧ wr = w1 ∧ Aside0 ((rs.take i).all insideB = true)) (fun v _ => rs.length - (intOf v).toNat)
          case atStart => exact ⟨0, by omega, rfl, rfl, ⟨rfl⟩⟩
          case round =>
            obtain ⟨i, hi, rfl, rfl, hA⟩ := hrel
            by_cases hlt : i < rs.length
            · obtain ⟨r, hr⟩ := get_of_lt hlt
              obtain ⟨ad2, he2, hci⟩ := C_int hC1.out hr
              obtain rfl : ad1 = ad2 := Option.some.inj he2
              have HRI := Lib.hid hr
              have hmem := List.mem_of_getElem? hr
              clear he2 hr
              cases hli : letterB r with
              | true =>
                have HLI := Lib.hid hli
                have hin : insideB r = true := by unfold insideB; rw [hli]; rfl
                clear hli
                go_wp2_with (go_at_call 69; refine (rletter_calls _ _).mono ?_; rintro e w' ⟨rfl, rfl⟩; rw [HLI.out])
                go_roundw
                case rel => exact ⟨i + 1, by omega, by go_num, trivial, ⟨by rw [take_step HRI.out, List.all_append, hA.out]; simp [hin]⟩⟩
                case measure => simp [intOf]; omega
              | false =>
                cases hdi : digitB r with
                | true =>
                  have HLI := Lib.hid hli
                  have HDI := Lib.hid hdi
                  have hin : insideB r = true := by unfold insideB; rw [hli, hdi]; rfl
                  clear hli hdi
                  go_wp2_with (first | (go_at_call 69; refine (rletter_calls _ _).mono ?_; rintro e w' ⟨rfl, rfl⟩; rw [HLI.out]) | (go_at_call 70; refine (rdigit_calls _ _).mono ?_; rintro e w' ⟨rfl, rfl⟩; rw [HDI.out]))
                  go_roundw
                  case rel => exact ⟨i + 1, by omega, by go_num, trivial, ⟨by rw [take_step HRI.out, List.all_append, hA.out]; simp [hin]⟩⟩
                  case measure => simp [intOf]; omega
                | false =>
                  have HLI := Lib.hid hli
                  have HDI := Lib.hid hdi
                  by_cases h95 : r = 95
                  · have hin : insideB r = true := by unfold insideB; rw [hli, hdi, decide_eq_true h95]; rfl
                    have hb95 : (r != 95) = false := by simp [h95]
                    clear hli hdi h95
                    go_wp2_with (first | (go_at_call 69; refine (rletter_calls _ _).mono ?_; rintro e w' ⟨rfl, rfl⟩; rw [HLI.out]) | (go_at_call 70; refine (rdigit_calls _ _).mono ?_; rintro e w' ⟨rfl, rfl⟩; rw [HDI.out]))
                    go_roundw
                    case rel => exact ⟨i + 1, by omega, by go_num, trivial, ⟨by rw [take_step HRI.out, List.all_append, hA.out]; simp [hin]⟩⟩
                    case measure => simp [intOf]; omega
                  · have hin : insideB r = false := by unfold insideB; rw [hli, hdi, decide_eq_false h95]; rfl
                    have hb95 : (r != 95) = true := by simp [h95]
                    have hn : Hid (nameB s.data.toList = false) := Lib.hid (by rw [HN.out]; exact List.all_eq_false.2 ⟨r, hmem, by rw [hin]; simp⟩)
                    clear hli hdi h95
                    go_wp2_with (first | (go_at_call 69; refine (rletter_calls _ _).mono ?_; rintro e w' ⟨rfl, rfl⟩; rw [HLI.out]) | (go_at_call 70; refine (rdigit_calls _ _).mono ?_; rintro e w' ⟨rfl, rfl⟩; rw [HDI.out]))
                    go_ret
                    exact NamePost.of hn.out hB1.out
            · go_wp2
              go_ret
              exact NamePost.of (by rw [HN.out]; have h := hA.out; rwa [take_all (by omega)] at h) hB1.out

theorem rplain_calls (s : ByteArray) (w : World) (hs : s.size ≤ 70368744177664) (hT : Lib.Utf8Tabs 1 2 w) : Calls Tryd.prog 24 #[.string s] w fun e w' => e = .returned (.bool (plainB s.data.toList)) ∧ Below w.heap.size w w' := by
  have HT := Lib.hid hT
  clear hT
  unfold plainB
  cases hn : nameB s.data.toList with
  | false =>
    have HN := Lib.hid hn
    clear hn
    go_enter Tryd.func24, Tryd.ntmps24
    go_wp2_with (go_at_call 48; refine (rname_calls s _ hs HT.out).mono ?_; rintro e w1 ⟨rfl, hB1⟩; rw [HN.out]; have HB1 := Lib.hid hB1; clear hB1)
    go_ret
    first | exact ⟨rfl, HB1.out⟩ | exact ⟨ret_bool (by simp), HB1.out⟩
  | true =>
    have HN := Lib.hid hn
    clear hn
    go_enter Tryd.func24, Tryd.ntmps24
    go_wp2_with (first | (go_at_call 48; refine (rname_calls s _ hs HT.out).mono ?_; rintro e w1 ⟨rfl, hB1⟩; rw [HN.out]; have HB1 := Lib.hid hB1; clear hB1) | (go_at_call 49; refine (rreserved_calls s _).mono ?_; rintro e w2 ⟨rfl, rfl⟩))
    go_ret
    first | exact ⟨rfl, HB1.out⟩ | exact ⟨ret_bool (by simp), HB1.out⟩
end Go.Proofs.YtfcpfbdlkanlpaaDoor
