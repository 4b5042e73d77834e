/- A plain NAME has no dot, and is not empty. -/
import Derived.Test.YtfcpfbdlkanlpaaDoorRef03b
namespace Go.Proofs.YtfcpfbdlkanlpaaDoor
set_option linter.unusedVariables false

theorem decodeN_high (n b0 b1 b2 b3 : Nat) : (1 < (Lib.decodeN n b0 b1 b2 b3).2 → 128 ≤ b0 ∧ 128 ≤ b1) ∧ (2 < (Lib.decodeN n b0 b1 b2 b3).2 → 128 ≤ b2) ∧ (3 < (Lib.decodeN n b0 b1 b2 b3).2 → 128 ≤ b3) ∧ (Lib.decodeN n b0 b1 b2 b3).2 ≤ 4 := by
  unfold Lib.decodeN
  split <;> (try split) <;> (try split) <;> (try split) <;> (try split) <;> (try split) <;> (try split)
  all_goals (simp only []; omega)
theorem getD_high {l : List UInt8} {k : Nat} (h0 : 0 < k) (h : k < (Lib.decodeL l).2) : 128 ≤ (l.getD k 0).toNat := by
  rw [Lib.decodeL_N] at h
  obtain ⟨h1, h2, h3, h4⟩ := decodeN_high l.length (l.getD 0 0).toNat (l.getD 1 0).toNat (l.getD 2 0).toNat (l.getD 3 0).toNat
  have hk : k = 1 ∨ k = 2 ∨ k = 3 := by omega
  rcases hk with rfl | rfl | rfl
  · exact (h1 h).2
  · exact h2 h
  · exact h3 h
theorem runes_dot : ∀ (k : Nat) (l : Bytes), l.length ≤ k → 46 ∈ l → ∃ r ∈ runes l, r.1 = 46 := by
  intro k
  induction k with
  | zero => intro l h hm; have := List.length_pos_of_mem hm; omega
  | succ k ih =>
    intro l h hm
    have hne : l ≠ [] := List.ne_nil_of_mem hm
    have hw := decodeL_pos l
    obtain ⟨i, hi⟩ := List.getElem?_of_mem hm
    have hil := (List.getElem?_eq_some_iff.1 hi).1
    rw [runes_step hne]
    by_cases h1 : i < (Lib.decodeL l).2
    · by_cases h0 : i = 0
      · subst h0
        cases l with
        | nil => exact absurd rfl hne
        | cons b t =>
          have hb : b = 46 := by simpa using hi
          subst hb
          refine ⟨_, List.mem_cons_self, ?_⟩
          rw [Lib.decodeL_ascii 46 t (by decide)]; rfl
      · have hh := getD_high (l := l) (by omega) h1
        rw [List.getD_eq_getElem?_getD, hi] at hh
        exact absurd hh (by decide)
    · have hm2 : 46 ∈ l.drop (Lib.decodeL l).2 := by
        refine List.mem_of_getElem? (i := i - (Lib.decodeL l).2) ?_
        rw [List.getElem?_drop, show (Lib.decodeL l).2 + (i - (Lib.decodeL l).2) = i by omega]
        exact hi
      obtain ⟨r, hr, hr2⟩ := ih _ (by rw [List.length_drop]; omega) hm2
      exact ⟨r, List.mem_cons_of_mem _ hr, hr2⟩
theorem plain_name {l : Bytes} (h : plainB l = true) : nameB l = true := by
  unfold plainB at h
  cases hn : nameB l with
  | true => rfl
  | false => rw [hn] at h; simp at h
theorem plain_nodot {l : Bytes} (h : plainB l = true) : 46 ∉ l := by
  intro hm
  obtain ⟨r, hr, h46⟩ := runes_dot _ l (Nat.le_refl _) hm
  have hn := plain_name h
  rw [name_eq, Bool.and_eq_true] at hn
  have h1 := List.all_eq_true.1 hn.2 (r.1 : Int) (List.mem_map.2 ⟨r, hr, rfl⟩)
  rw [h46] at h1
  exact absurd h1 (by decide)
theorem plain_ne {l : Bytes} (h : plainB l = true) : l ≠ [] := by
  rintro rfl
  exact absurd (plain_name h) (by decide)
end Go.Proofs.YtfcpfbdlkanlpaaDoor
