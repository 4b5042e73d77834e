/- The scanner's words are as the parser wants them: plain law. -/
import Derived.Test.YtfcpfbdlkanlpaaDoorPar
namespace Go.Proofs.YtfcpfbdlkanlpaaDoor
open Go.RowKit Go.Proofs.YtfcpfbdlkanlpaaDoorW.PrintWords Go.Proofs.YtfcpfbdlkanlpaaDoorW.PrintLast
set_option linter.unusedVariables false
set_option linter.unusedSimpArgs false

structure Sc.Good (s : Sc) : Prop where
  ws : ∀ x ∈ s.ws, x.ok
  n : s.ws.length ≤ 4000
theorem Sc.Good.fail {s : Sc} (h : s.Good) (e : Int) (p : Pos) : (s.fail e p).Good := by
  unfold Sc.fail
  split
  · exact ⟨h.ws, h.n⟩
  · exact h
theorem Sc.Good.add {s : Sc} (h : s.Good) {x : Wd} (hx : x.ok) : (s.add x).Good := by
  have hn := h.n
  unfold Sc.add
  split
  · exact h.fail _ _
  · refine ⟨fun y hy => ?_, ?_⟩
    · rcases List.mem_append.1 hy with h1 | h1
      · exact h.ws y h1
      · rw [List.mem_singleton.1 h1]; exact hx
    · show (s.ws ++ [x]).length ≤ 4000
      rw [List.length_append, List.length_singleton]; omega
theorem Sc.Good.shut {s : Sc} (h : s.Good) (text : ByteArray) (hz : text.size ≤ 20000) (i : Nat) : (s.shut text i).Good := by
  unfold Sc.shut
  split
  · exact h
  · dsimp only
    split
    · rename_i hr
      have hg : Sc.Good { s with ot := text.extract s.fr.toNat i, fr := -1 } := ⟨h.ws, h.n⟩
      refine hg.add ⟨?_, ?_⟩
      · show (text.extract s.fr.toNat i).size ≤ 100000
        rw [ByteArray.size_extract]; omega
      · intro hk
        have hk' : s.ok = 2 := hk
        unfold rightB at hr
        rw [hk', if_neg (by decide)] at hr
        exact hr
    · have hg : Sc.Good { s with ot := text.extract s.fr.toNat i, fr := -1 } := ⟨h.ws, h.n⟩
      exact hg.fail _ _
theorem Sc.Good.rune {s : Sc} (h : s.Good) (i : Nat) (r : Int) : (s.rune i r).Good := by
  unfold Sc.rune
  split
  · exact h
  · split
    · exact ⟨h.ws, h.n⟩
    · split
      · exact ⟨h.ws, h.n⟩
      · split
        · exact h.add ⟨by show 1 ≤ 100000; omega, fun hk => absurd hk (by decide : ¬ ((3 : Int) = 2))⟩
        · split
          · exact ⟨h.ws, h.n⟩
          · exact h.fail _ _
theorem Sc.Good.mode {s : Sc} (h : s.Good) (i : Nat) (r : Int) : (s.mode i r).Good := by
  unfold Sc.mode
  split
  · exact ⟨h.ws, h.n⟩
  · split
    · split
      · exact ⟨h.ws, h.n⟩
      · exact h.fail _ _
    · split
      · exact h.rune _ _
      · exact h
theorem Sc.Good.next {s : Sc} (h : s.Good) (text : ByteArray) (hz : text.size ≤ 20000) (i : Nat) (r : Int) : (s.next text i r).Good := by
  have h1 : (if 0 ≤ s.fr ∧ insideB r = false then s.shut text i else s).Good := by
    split
    · exact h.shut text hz i
    · exact h
  unfold Sc.next
  have h2 := h1.mode i r
  exact ⟨h2.ws, h2.n⟩
theorem lexGo_good (text : ByteArray) (hz : text.size ≤ 20000) : ∀ (rs : List (Nat × Nat)) (i : Nat) (s : Sc), s.Good → (lexGo text rs i s).Good
  | [], i, s, h => by
    have h1 := h.shut text hz text.size
    unfold lexGo
    dsimp only
    split
    · exact h1.fail _ _
    · exact h1
  | r :: t, i, s, h => by
    have h1 := h.next text hz i (fixR r)
    unfold lexGo
    dsimp only
    split
    · exact lexGo_good text hz t _ _ h1
    · exact h1
theorem lexW_good (text : ByteArray) : (∀ x ∈ (lexW text).ws, x.ok) ∧ (lexW text).ws.length ≤ 4000 := by
  unfold lexW
  split
  · exact ⟨fun x hx => (by cases hx), Nat.zero_le _⟩
  · rename_i hz
    have h := lexGo_good text (by omega) (runes text.data.toList) 0 sc0 ⟨fun x hx => (by cases hx), Nat.zero_le _⟩
    unfold lexEnd
    split
    · exact ⟨h.ws, h.n⟩
    · exact ⟨fun x hx => (by cases hx), Nat.zero_le _⟩
end Go.Proofs.YtfcpfbdlkanlpaaDoor
