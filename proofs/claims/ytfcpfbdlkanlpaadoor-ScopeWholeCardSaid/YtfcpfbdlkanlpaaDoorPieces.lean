/- What stands between dots, in plain Lean; strings.Split at a dot. -/
import Derived.Test.YtfcpfbdlkanlpaaDoorPlainId
import Derived.Lib.SplitLaws
import Derived.Lib.IndexBytes
import Derived.Lib.IndexLaws
namespace Go.Proofs.YtfcpfbdlkanlpaaDoor
set_option linter.unusedVariables false

def pieces : Bytes → List Bytes
  | [] => [[]]
  | b :: l => if b = 46 then [] :: pieces l else match pieces l with | [] => [[b]] | p :: ps => (b :: p) :: ps
theorem pieces_ne (l : Bytes) : pieces l ≠ [] := by
  cases l with
  | nil => simp [pieces]
  | cons b l =>
    simp only [pieces]
    split
    · simp
    · split <;> simp
theorem pieces_none {l : Bytes} (h : ∀ b ∈ l, b ≠ 46) : pieces l = [l] := by
  induction l with
  | nil => rfl
  | cons b l ih =>
    simp only [pieces]
    rw [if_neg (h b List.mem_cons_self), ih (fun c hc => h c (List.mem_cons_of_mem _ hc))]
theorem pieces_app {l : Bytes} (h : ∀ b ∈ l, b ≠ 46) (m : Bytes) : pieces (l ++ 46 :: m) = l :: pieces m := by
  induction l with
  | nil => simp [pieces]
  | cons b l ih =>
    rw [List.cons_append]
    simp only [pieces]
    rw [if_neg (h b List.mem_cons_self), ih (fun c hc => h c (List.mem_cons_of_mem _ hc))]
theorem splitB_pieces : ∀ (k : Nat) (s : ByteArray), s.size ≤ k → (Lib.splitB ⟨#[46]⟩ 0 (Lib.countB s ⟨#[46]⟩) s).map (fun x => x.data.toList) = pieces s.data.toList := by
  intro k
  induction k using Nat.strongRecOn with
  | _ k ih =>
    intro s hs
    have h1 : Lib.indexB s ⟨#[46]⟩ = Lib.indexByte s.data.toList 46 := Lib.index_one _ _
    have hsz : s.data.toList.length = s.size := Array.length_toList
    by_cases hm : Lib.indexByte s.data.toList 46 = -1
    · rw [Lib.splitB_miss _ _ _ _ (h1.trans hm)]
      have hn := Lib.indexByte_none hm
      rw [pieces_none]
      · rfl
      · intro b hb e
        subst e
        obtain ⟨i, hi⟩ := List.mem_iff_getElem?.1 hb
        exact hn i hi
    · obtain ⟨i, hi⟩ : ∃ i : Nat, Lib.indexByte s.data.toList 46 = i := by
        have := Lib.indexByte_ge s.data.toList 46
        exact ⟨(Lib.indexByte s.data.toList 46).toNat, by omega⟩
      obtain ⟨h2, h3⟩ := Lib.indexByte_some hi
      have hlt : i < s.data.toList.length := (List.getElem?_eq_some_iff.1 h2).1
      rw [Lib.countB_hit s ⟨#[46]⟩ i (by decide) (h1.trans hi), Nat.add_comm 1]
      have hne : (Lib.indexB s ⟨#[46]⟩ == -1) = false := by rw [h1]; exact beq_eq_false_iff_ne.2 hm
      unfold Lib.splitB
      rw [hne]
      simp only [Bool.false_eq_true, if_false, List.map_cons]
      rw [h1, hi]
      have hss : (⟨#[46]⟩ : ByteArray).size = 1 := rfl
      rw [show ((i : Int)).toNat = i from rfl, hss, Nat.add_zero]
      rw [ih (s.extract (i + 1) s.size).size (by rw [ByteArray.size_extract]; omega) _ (Nat.le_refl _)]
      rw [Lib.extract_to_end, Lib.extract_data, List.drop_zero, Nat.sub_zero]
      have hsplit : s.data.toList = s.data.toList.take i ++ 46 :: s.data.toList.drop (i + 1) := by
        conv => lhs; rw [← List.take_append_drop i s.data.toList, List.drop_eq_getElem_cons hlt]
        rw [(List.getElem?_eq_some_iff.1 h2).2]
      conv => rhs; rw [hsplit]
      rw [pieces_app]
      intro b hb e
      subst e
      obtain ⟨j, hj⟩ := List.mem_iff_getElem?.1 hb
      rw [List.getElem?_take] at hj
      split at hj
      · rename_i hji
        exact h3 j hji hj
      · cases hj
/-- A path's names; none: it is no path. -/
def pathB (s : Bytes) : Bool := decide ((pieces s).length ≤ 8) && (pieces s).all plainB
end Go.Proofs.YtfcpfbdlkanlpaaDoor
