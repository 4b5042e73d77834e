/- courierref03.Path; how long a path is. -/
import Derived.Test.YtfcpfbdlkanlpaaDoorRef03c
namespace Go.Proofs.YtfcpfbdlkanlpaaDoor
open Go.RowKit Go.Proofs.YtfcpfbdlkanlpaaDoorW.PrintWords Go.Proofs.YtfcpfbdlkanlpaaDoorW.PrintLast
set_option linter.unusedVariables false
set_option linter.unusedSimpArgs false

theorem decode_w4 (s : ByteArray) (i : Nat) : (Utf8.decode s i).2 ≤ 4 := by
  simp only [Utf8.decode]
  repeat (first | split | omega)
theorem len_runes : ∀ (k : Nat) (l : Bytes), l.length ≤ k → l.length ≤ 4 * (runes l).length := by
  intro k
  induction k with
  | zero => intro l h; omega
  | succ k ih =>
    intro l h
    by_cases hne : l = []
    · subst hne; simp
    · have hw := decodeL_pos l
      have h4 : (Lib.decodeL l).2 ≤ 4 := decode_w4 _ _
      have hp := List.length_pos_iff.2 hne
      rw [runes_step hne, List.length_cons]
      have := ih (l.drop (Lib.decodeL l).2) (by rw [List.length_drop]; omega)
      rw [List.length_drop] at this
      omega
theorem name_short {l : Bytes} (h : nameB l = true) : l.length ≤ 160 := by
  rw [name_eq] at h
  have h1 : decide ((runeL l).length ≤ 40) = true := by
    cases hd : decide ((runeL l).length ≤ 40) with
    | true => rfl
    | false => rw [hd] at h; simp at h
  have h2 := of_decide_eq_true h1
  unfold runeL at h2
  rw [List.length_map] at h2
  have := len_runes _ l (Nat.le_refl _)
  omega
theorem plain_short {l : Bytes} (h : plainB l = true) : l.length ≤ 160 := by
  unfold plainB at h
  exact name_short (by cases hn : nameB l with | true => rfl | false => rw [hn] at h; simp at h)
theorem pieces_sum (l : Bytes) : l.length + 1 = ((pieces l).map (fun p => p.length + 1)).sum := by
  induction l with
  | nil => rfl
  | cons b l ih =>
    simp only [pieces]
    split
    · simp only [List.map_cons, List.sum_cons, List.length_nil, List.length_cons]; omega
    · cases hp : pieces l with
      | nil => exact absurd hp (pieces_ne l)
      | cons p ps =>
        rw [hp] at ih
        simp only [List.map_cons, List.sum_cons, List.length_cons] at ih ⊢
        omega
theorem sum_le {ps : List Bytes} (h : ∀ p ∈ ps, p.length ≤ 160) : (ps.map (fun p => p.length + 1)).sum ≤ 161 * ps.length := by
  induction ps with
  | nil => simp
  | cons p ps ih =>
    have h1 := h p List.mem_cons_self
    have h2 := ih (fun q hq => h q (List.mem_cons_of_mem _ hq))
    simp only [List.map_cons, List.sum_cons, List.length_cons]
    omega
theorem path_short {l : Bytes} (h : pathB l = true) : l.length ≤ 1287 := by
  unfold pathB at h
  rw [Bool.and_eq_true] at h
  have h1 := of_decide_eq_true h.1
  have h2 := sum_le (fun p hp => plain_short (List.all_eq_true.1 h.2 p hp))
  have h3 := pieces_sum l
  omega

theorem rpieces_row (s : ByteArray) (w : World) (hs : s.size ≤ 1000000) : Calls Tryd.prog 23 #[.string s] w fun e w' => ∃ A c xs, e = .returned (.slice A xs.length c) ∧ xs.length ≤ (pieces s.data.toList).length ∧ (pieces s.data.toList).length ≤ xs.length ∧ xs.length ≤ c ∧ Hid (bytesL xs = pieces s.data.toList) ∧ Hid (Kd.string.C w' A xs.length xs) ∧ Hid (∀ x ∈ xs, x.size ≤ s.size) ∧ Hid (Below w.heap.size w w') :=
  (rpieces_calls s w hs).mono fun e w' ⟨v, xs, he, hP, hR, hxs, hB⟩ => by
    obtain ⟨A, c, rfl, hc, hC⟩ := Kd.R_reads hR
    have hl : xs.length = (pieces s.data.toList).length := by rw [← hP, bytesL, List.length_map]
    exact ⟨A, c, xs, he, by omega, by omega, hc, Lib.hid hP, Lib.hid hC, Lib.hid hxs, Lib.hid hB⟩
set_option maxHeartbeats 2000000 in
set_option maxRecDepth 100000 in
theorem rpath_calls (s : ByteArray) (w : World) (hT : Lib.Utf8Tabs 1 2 w) : Calls Tryd.prog 13 #[.string s] w (PathPost s w) := by
  have hsl : s.data.toList.length = s.size := Array.length_toList
  have HT := Lib.hid hT
  clear hT
  by_cases hbig : 2000 < s.size
  · have hno : Hid (pathB s.data.toList = false) := Lib.hid (by
      cases hp : pathB s.data.toList with
      | false => rfl
      | true => have := path_short hp; omega)
    clear hsl
    go_enter Tryd.func13, Tryd.ntmps13
    go_wp2
    go_ret2
    exact ⟨Below.refl _ _, by rw [if_neg (by rw [hno.out]; simp)]; rfl⟩
  · have HSL := Lib.hid hsl
    clear hsl
    by_cases h8 : 8 < (pieces s.data.toList).length
    · have hno : Hid (pathB s.data.toList = false) := Lib.hid (by unfold pathB; rw [decide_eq_false (by omega)]; rfl)
      go_enter Tryd.func13, Tryd.ntmps13
      go_wp2_with (go_at_call 23; refine (rpieces_row s _ (by omega)).mono ?_; rintro e w1 ⟨A1, c1, xs, rfl, hl1, hl2, hc1, HP, HC1, HXS, HB1⟩)
      go_ret2
      exact ⟨HB1.out, by rw [if_neg (by rw [hno.out]; simp)]; rfl⟩
    · go_enter Tryd.func13, Tryd.ntmps13
      go_wp2_with (go_at_call 23; refine (rpieces_row s _ (by omega)).mono ?_; rintro e w1 ⟨A1, c1, xs, rfl, hl1, hl2, hc1, HP, HC1, HXS, HB1⟩)
      have hall : Hid (pathB s.data.toList = (bytesL xs).all plainB) := Lib.hid (by unfold pathB; rw [decide_eq_true (by omega), HP.out, Bool.true_and])
      go_loopw [16] (fun v wr => ∃ i : Nat, i ≤ xs.length ∧ v = .int .i64 i ∧ Aside0 ((bytesL (xs.take i)).all plainB = true) ∧ Aside0 (Below w1.heap.size w1 wr)) (fun v _ => xs.length - (intOf v).toNat)
      case atStart => exact ⟨0, by omega, rfl, ⟨rfl⟩, ⟨Below.refl _ _⟩⟩
      case round =>
        obtain ⟨i, hi, rfl, hA, hB⟩ := hrel
        by_cases hlt : i < xs.length
        · obtain ⟨x, hx⟩ := get_of_lt hlt
          obtain ⟨ad, rfl, h0⟩ := C_str (Kd.C_below HC1.out hB.out) hx
          have hmem := List.mem_of_getElem? hx
          have hxz := HXS.out x hmem
          have HX := Lib.hid hx
          have HTr : Hid (Lib.Utf8Tabs 1 2 wr) := Lib.hid (Utf8Tabs_below HT.out (below_then HB1.out HB1.out.size hB.out))
          clear hx
          cases hp : plainB x.data.toList with
          | false =>
            have hno : Hid (pathB s.data.toList = false) := Lib.hid (by rw [hall.out]; exact List.all_eq_false.2 ⟨x.data.toList, List.mem_map_of_mem hmem, by rw [hp]; simp⟩)
            have HP2 := Lib.hid hp
            clear hp hmem
            go_wp2_with (go_at_call 24; refine (rplain_calls x _ (by omega) HTr.out).mono ?_; rintro e w2 ⟨rfl, hB2⟩; rw [HP2.out]; have HB2 := Lib.hid hB2; clear hB2)
            go_ret2
            exact ⟨below_then (below_then HB1.out HB1.out.size hB.out) (Nat.le_trans HB1.out.size hB.out.size) HB2.out, by rw [if_neg (by rw [hno.out]; simp)]; rfl⟩
          | true =>
            have HP2 := Lib.hid hp
            clear hp hmem
            go_wp2_with (go_at_call 24; refine (rplain_calls x _ (by omega) HTr.out).mono ?_; rintro e w2 ⟨rfl, hB2⟩; rw [HP2.out]; have HB2 := Lib.hid hB2; clear hB2)
            go_roundw
            case rel => exact ⟨i + 1, by omega, by go_num, ⟨by rw [take_step HX.out]; unfold bytesL; rw [List.map_append, List.all_append]; have h := hA.out; unfold bytesL at h; rw [h]; simp [HP2.out]⟩, ⟨below_then hB.out hB.out.size HB2.out⟩⟩
            case measure => simp [intOf]; omega
        · go_wp2
          go_ret2
          refine ⟨below_then HB1.out HB1.out.size hB.out, ?_⟩
          have h := hA.out
          rw [take_all (by omega)] at h
          rw [if_pos (hall.out.trans h)]
          exact ⟨_, _, xs, HP.out, rfl, Kd.C_below HC1.out hB.out, hc1, HXS.out⟩
end Go.Proofs.YtfcpfbdlkanlpaaDoor
