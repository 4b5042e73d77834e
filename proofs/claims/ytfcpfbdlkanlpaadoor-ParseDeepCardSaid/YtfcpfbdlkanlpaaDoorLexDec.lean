/- U+FFFD: read of its three bytes, or of a byte that is no rune. Plain Lean. -/
import Derived.Test.YtfcpfbdlkanlpaaDoorLexP
import Derived.Test.YtfcpfbdlkanlpaaDoorIdent
import Derived.Lib.Small
import Derived.Lib.Strings
namespace Go.Proofs.YtfcpfbdlkanlpaaDoor
set_option linter.unusedVariables false

def rep3 : ByteArray := ⟨#[239, 191, 189]⟩
theorem get_zero (s : ByteArray) (k : Nat) (h : ¬ k < s.size) : s.get! k = 0 := by
  show s.data[k]! = 0
  rw [getElem!_neg s.data k (by exact h)]; rfl
theorem dec_shape (s : ByteArray) (p b0 b1 b2 b3 : Nat) (e0 : (s.get! (p + 0)).toNat = b0) (e1 : (s.get! (p + 1)).toNat = b1) (e2 : (s.get! (p + 2)).toNat = b2) (e3 : (s.get! (p + 3)).toNat = b3) (h1 : (Utf8.decode s p).1 = 65533) (g0 : b0 < 256) (g1 : b1 < 256) (g2 : b2 < 256) (g3 : b3 < 256) (z1 : p + 1 < s.size ∨ b1 = 0) (z2 : p + 2 < s.size ∨ b2 = 0) :
    ((Utf8.decode s p).2 = 1 ∧ ¬ (b0 = 239 ∧ b1 = 191 ∧ b2 = 189)) ∨ ((Utf8.decode s p).2 = 3 ∧ b0 = 239 ∧ b1 = 191 ∧ b2 = 189) := by
  revert h1
  unfold Utf8.decode
  simp only [e0, e1, e2, e3]
  clear e0 e1 e2 e3
  unfold Utf8.runeError Utf8.valid
  repeat' split
  all_goals intro h1
  all_goals dsimp only at h1 ⊢
  all_goals simp only [Bool.and_eq_true, Bool.or_eq_true, decide_eq_true_eq, beq_iff_eq] at *
  all_goals first | omega | (refine .inl ⟨trivial, ?_⟩; rintro ⟨k1, k2, k3⟩; omega) | (refine .inr ⟨trivial, ?_, ?_, ?_⟩ <;> omega)
theorem dec_maxs (s : ByteArray) (p b0 b1 b2 b3 : Nat) (e0 : (s.get! (p + 0)).toNat = b0) (e1 : (s.get! (p + 1)).toNat = b1) (e2 : (s.get! (p + 2)).toNat = b2) (e3 : (s.get! (p + 3)).toNat = b3) : (Utf8.decode s p).1 ≤ 1114111 := by
  unfold Utf8.decode
  simp only [e0, e1, e2, e3]
  clear e0 e1 e2 e3
  unfold Utf8.runeError Utf8.valid
  repeat' split
  all_goals dsimp only
  all_goals first | decide | (simp only [Bool.and_eq_true, Bool.or_eq_true, decide_eq_true_eq, beq_iff_eq] at *; omega) | omega
theorem dec_max (s : ByteArray) (p : Nat) : (Utf8.decode s p).1 ≤ 1114111 := dec_maxs s p _ _ _ _ rfl rfl rfl rfl
theorem get_lt (s : ByteArray) (k : Nat) (h : k < s.size) : s.get! k = s[k] := by
  show s.get! k = _
  simp [ByteArray.get!, getElem!_pos, h]
  rfl
theorem pre3 (s : ByteArray) (p : Nat) (hp : p < s.size) : Lib.hasPrefix (s.extract p s.size).data.toList rep3.data.toList = decide ((s.get! (p + 0)).toNat = 239 ∧ (s.get! (p + 1)).toNat = 191 ∧ (s.get! (p + 2)).toNat = 189) := by
  have hd : (s.extract p s.size).data.toList = s.data.toList.drop p := by
    rw [ByteArray.data_extract, Array.toList_extract]; simp only [List.extract]; exact List.take_of_length_le (by rw [List.length_drop, Array.length_toList]; exact Nat.le_refl _)
  rw [hd]
  have hsz : s.data.toList.length = s.size := by rw [Array.length_toList]; rfl
  have g : ∀ k, p + k < s.size → s.data.toList[p + k]? = some (s.get! (p + k)) := fun k hk => by
    rw [List.getElem?_eq_getElem (by omega), get_lt s _ hk]; simp; rfl
  have hz : ∀ k, ¬ p + k < s.size → (s.get! (p + k)).toNat = 0 := fun k hk => by rw [get_zero s _ hk]; rfl
  unfold Lib.hasPrefix
  have h239 : (239 : UInt8).toNat = 239 := rfl
  have h191 : (191 : UInt8).toNat = 191 := rfl
  have h189 : (189 : UInt8).toNat = 189 := rfl
  have key : ∀ l : List UInt8, rep3.data.toList.isPrefixOf l = decide (l[0]? = some 239 ∧ l[1]? = some 191 ∧ l[2]? = some 189) := by
    intro l
    rcases l with _ | ⟨a, _ | ⟨b, _ | ⟨c, l⟩⟩⟩
    · rfl
    · simp [rep3, List.isPrefixOf]
    · simp [rep3, List.isPrefixOf]
    · show ((239 : UInt8) == a && ((191 : UInt8) == b && ((189 : UInt8) == c && true))) = decide (some a = some 239 ∧ some b = some 191 ∧ some c = some 189)
      rw [Bool.and_true, Bool.eq_iff_iff, Bool.and_eq_true, Bool.and_eq_true, beq_iff_eq, beq_iff_eq, beq_iff_eq, decide_eq_true_eq, Option.some.injEq, Option.some.injEq, Option.some.injEq]
      exact ⟨fun ⟨x, y, z⟩ => ⟨x.symm, y.symm, z.symm⟩, fun ⟨x, y, z⟩ => ⟨x.symm, y.symm, z.symm⟩⟩
  rw [key, List.getElem?_drop, List.getElem?_drop, List.getElem?_drop]
  have one : ∀ (k : Nat) (c : UInt8), 0 < c.toNat → (s.data.toList[p + k]? = some c ↔ (s.get! (p + k)).toNat = c.toNat) := fun k c hc => by
    by_cases hk : p + k < s.size
    · rw [g k hk]; exact ⟨fun e => (by rw [Option.some.inj e]), fun e => (by rw [UInt8.toNat_inj.1 e])⟩
    · rw [List.getElem?_eq_none (by omega), hz k hk]; exact ⟨fun e => (by cases e), fun e => (by omega)⟩
  have e : (s.data.toList[p + 0]? = some 239 ∧ s.data.toList[p + 1]? = some 191 ∧ s.data.toList[p + 2]? = some 189) ↔ ((s.get! (p + 0)).toNat = 239 ∧ (s.get! (p + 1)).toNat = 191 ∧ (s.get! (p + 2)).toNat = 189) := by
    rw [one 0 239 (by decide), one 1 191 (by decide), one 2 189 (by decide)]; exact Iff.rfl
  exact decide_eq_decide.2 e
theorem dec_err (s : ByteArray) (p : Nat) (hp : p < s.size) (h1 : (Utf8.decode s p).1 = 65533) : Lib.hasPrefix (s.extract p s.size).data.toList rep3.data.toList = decide (¬ (Utf8.decode s p).2 = 1) := by
  have z : ∀ k, p + k < s.size ∨ (s.get! (p + k)).toNat = 0 := fun k => by
    by_cases h : p + k < s.size
    · exact .inl h
    · exact .inr (by rw [get_zero s _ h]; rfl)
  rw [pre3 s p hp]
  rcases dec_shape s p _ _ _ _ rfl rfl rfl rfl h1 (UInt8.toNat_lt _) (UInt8.toNat_lt _) (UInt8.toNat_lt _) (UInt8.toNat_lt _) (z 1) (z 2) with ⟨a, b⟩ | ⟨a, b⟩
  · rw [decide_eq_false b, a]; rfl
  · rw [decide_eq_true b, a]; rfl
end Go.Proofs.YtfcpfbdlkanlpaaDoor
