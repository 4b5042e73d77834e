/- What the scanner's machine leaves as it was; its bounds. Plain Lean. -/
import Derived.Test.YtfcpfbdlkanlpaaDoorLexP
namespace Go.Proofs.YtfcpfbdlkanlpaaDoor
set_option linter.unusedVariables false

namespace Sc
theorem fail_form (s : Sc) (e : Int) (p : Pos) : (s.fail e p).pos = s.pos ∧ (s.fail e p).note = s.note ∧ (s.fail e p).slash = s.slash ∧ (s.fail e p).fr = s.fr := by unfold fail; split <;> exact ⟨rfl, rfl, rfl, rfl⟩
theorem add_form (s : Sc) (w : Wd) : (s.add w).pos = s.pos ∧ (s.add w).note = s.note ∧ (s.add w).slash = s.slash ∧ (s.add w).fr = s.fr := by
  unfold add; split
  · exact fail_form _ _ _
  · exact ⟨rfl, rfl, rfl, rfl⟩
theorem shut_form (s : Sc) (text : ByteArray) (i : Nat) : (s.shut text i).pos = s.pos ∧ (s.shut text i).note = s.note ∧ (s.shut text i).slash = s.slash ∧ (s.shut text i).fr < 0 := by
  unfold shut
  split
  · rename_i h; exact ⟨rfl, rfl, rfl, h⟩
  · simp only
    split
    · obtain ⟨a, b, c, d⟩ := add_form { s with ot := text.extract s.fr.toNat i, fr := -1 } ⟨s.ok, text.extract s.fr.toNat i, s.op⟩
      exact ⟨a, b, c, by rw [d]; show (-1 : Int) < 0; decide⟩
    · obtain ⟨a, b, c, d⟩ := fail_form { s with ot := text.extract s.fr.toNat i, fr := -1 } 6 s.op
      exact ⟨a, b, c, by rw [d]; show (-1 : Int) < 0; decide⟩
theorem rune_form (s : Sc) (i : Nat) (r : Int) (hs : s.slash = false) (hf : s.fr < 0) : (s.rune i r).pos = s.pos ∧ (s.rune i r).note = s.note ∧ (s.rune i r).fr ≤ i ∧ (0 ≤ (s.rune i r).fr → (s.rune i r).slash = false) := by
  unfold rune
  split
  · exact ⟨rfl, rfl, by omega, fun _ => hs⟩
  · split
    · exact ⟨rfl, rfl, Int.le_refl _, fun _ => hs⟩
    · split
      · exact ⟨rfl, rfl, Int.le_refl _, fun _ => hs⟩
      · split
        · obtain ⟨a, b, c, d⟩ := add_form s ⟨3, ⟨#[UInt8.ofNat r.toNat]⟩, s.pos⟩
          exact ⟨a, b, by rw [d]; omega, fun _ => c.trans hs⟩
        · split
          · exact ⟨rfl, rfl, by show s.fr ≤ _; omega, fun h => by have h' : 0 ≤ s.fr := h; omega⟩
          · obtain ⟨a, b, c, d⟩ := fail_form s 6 s.pos
            exact ⟨a, b, by rw [d]; omega, fun _ => c.trans hs⟩
/-- What holds of the machine ahead of the rune at byte i. -/
structure inv (s : Sc) (i : Nat) : Prop where
  fr : s.fr ≤ i
  md : 0 ≤ s.fr → s.note = false ∧ s.slash = false
  l0 : 0 ≤ s.pos.line
  l1 : s.pos.line ≤ 1 + i
  c0 : 0 ≤ s.pos.col
  c1 : s.pos.col ≤ 1 + i
/-- The machine behind the end of the open word, if it ends here. -/
def pre (s : Sc) (text : ByteArray) (i : Nat) (r : Int) : Sc := if 0 ≤ s.fr ∧ insideB r = false then s.shut text i else s
theorem next_eq (s : Sc) (text : ByteArray) (i : Nat) (r : Int) : s.next text i r = ((s.pre text i r).mode i r).move r := rfl
theorem mode_inv {s : Sc} {i j : Nat} (h : s.inv i) (r : Int) (hj : i < j) : ((s.mode i r).move r).inv j := by
  have mv : ∀ t : Sc, t.pos = s.pos → t.fr ≤ i → (0 ≤ t.fr → t.note = false ∧ t.slash = false) → (t.move r).inv j := by
    intro t hp hf hm
    obtain ⟨a1, a2, a3, a4, a5, a6⟩ := h
    unfold move
    by_cases hr : r = 10
    · simp only [if_pos hr]
      exact ⟨by show t.fr ≤ _; omega, hm, by show 0 ≤ t.pos.line + 1; rw [hp]; omega, by show t.pos.line + 1 ≤ _; rw [hp]; omega, by show (0 : Int) ≤ 1; omega, by show (1 : Int) ≤ _; omega⟩
    · simp only [if_neg hr]
      exact ⟨by show t.fr ≤ _; omega, hm, by show 0 ≤ t.pos.line; rw [hp]; omega, by show t.pos.line ≤ _; rw [hp]; omega, by show 0 ≤ t.pos.col + 1; rw [hp]; omega, by show t.pos.col + 1 ≤ _; rw [hp]; omega⟩
  unfold mode
  by_cases hn : s.note = true
  · rw [if_pos hn]
    exact mv _ rfl h.fr (fun h0 => by have := (h.md h0).1; rw [hn] at this; cases this)
  · rw [if_neg hn]
    by_cases hs : s.slash = true
    · rw [if_pos hs]
      by_cases h47 : r = 47
      · rw [if_pos h47]; exact mv _ rfl h.fr (fun h0 => by have := (h.md h0).2; rw [hs] at this; cases this)
      · rw [if_neg h47]
        obtain ⟨a, b, c, d⟩ := fail_form s 6 s.bg
        exact mv _ a (by rw [d]; exact h.fr) (fun h0 => by rw [d] at h0; have := (h.md h0).2; rw [hs] at this; cases this)
    · rw [if_neg hs]
      simp only [Bool.not_eq_true] at hn hs
      by_cases hf : s.fr < 0
      · rw [if_pos hf]
        obtain ⟨a, b, c, d⟩ := rune_form s i r hs hf
        exact mv _ a c (fun h0 => ⟨b.trans hn, d h0⟩)
      · rw [if_neg hf]; exact mv _ rfl h.fr h.md
theorem pre_inv {s : Sc} {text : ByteArray} {i : Nat} {r : Int} (h : s.inv i) : (s.pre text i r).inv i := by
  unfold pre
  split
  · obtain ⟨a, b, c, d⟩ := shut_form s text i
    exact ⟨by omega, fun h0 => by omega, by rw [a]; exact h.l0, by rw [a]; exact h.l1, by rw [a]; exact h.c0, by rw [a]; exact h.c1⟩
  · exact h
theorem next_inv {s : Sc} {text : ByteArray} {i j : Nat} {r : Int} (h : s.inv i) (hj : i < j) : (s.next text i r).inv j := mode_inv (pre_inv h) r hj
end Sc
theorem inv_start : sc0.inv 0 := ⟨by decide, fun h => by revert h; decide, by decide, by decide, by decide, by decide⟩
end Go.Proofs.YtfcpfbdlkanlpaaDoor
