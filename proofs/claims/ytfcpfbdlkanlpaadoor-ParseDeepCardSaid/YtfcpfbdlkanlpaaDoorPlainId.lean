/- Letters, digits, reserved words and names, in plain Lean: no program in sight. -/
import Derived.Test.YtfcpfbdlkanlpaaDoorKinds
import Derived.Lib.ValidLaws
import Derived.Lib.RuneLoops
import Derived.Lib.TrimUEq
import Derived.Lib.MapLaws
namespace Go.Proofs.YtfcpfbdlkanlpaaDoor
set_option linter.unusedVariables false

def letterB (r : Int) : Bool := decide ((97 ≤ r ∧ r ≤ 122) ∨ (65 ≤ r ∧ r ≤ 90) ∨ (913 ≤ r ∧ r ≤ 969))
def digitB (r : Int) : Bool := decide (48 ≤ r ∧ r ≤ 57)
def insideB (r : Int) : Bool := letterB r || digitB r || decide (r = 95)
theorem letterB_yes {r : Int} (h : (97 ≤ r ∧ r ≤ 122) ∨ (65 ≤ r ∧ r ≤ 90) ∨ (913 ≤ r ∧ r ≤ 969)) : letterB r = true := decide_eq_true h
theorem letterB_no {r : Int} (h : ¬ ((97 ≤ r ∧ r ≤ 122) ∨ (65 ≤ r ∧ r ≤ 90) ∨ (913 ≤ r ∧ r ≤ 969))) : letterB r = false := decide_eq_false h
theorem digitB_yes {r : Int} (h : 48 ≤ r ∧ r ≤ 57) : digitB r = true := decide_eq_true h
theorem digitB_no {r : Int} (h : ¬ (48 ≤ r ∧ r ≤ 57)) : digitB r = false := decide_eq_false h

abbrev Bytes := List UInt8
def wMessage : Bytes := [109, 101, 115, 115, 97, 103, 101]
def wEnum : Bytes := [101, 110, 117, 109]
def wService : Bytes := [115, 101, 114, 118, 105, 99, 101]
def wRpc : Bytes := [114, 112, 99]
def wReturns : Bytes := [114, 101, 116, 117, 114, 110, 115]
def wRepeated : Bytes := [114, 101, 112, 101, 97, 116, 101, 100]
def wInt64 : Bytes := [105, 110, 116, 54, 52]
def wUint64 : Bytes := [117, 105, 110, 116, 54, 52]
def wSint64 : Bytes := [115, 105, 110, 116, 54, 52]
def wBool : Bytes := [98, 111, 111, 108]
def wString : Bytes := [115, 116, 114, 105, 110, 103]
def wBytes : Bytes := [98, 121, 116, 101, 115]
def wFixed32 : Bytes := [102, 105, 120, 101, 100, 51, 50]
def wFixed64 : Bytes := [102, 105, 120, 101, 100, 54, 52]
/-- The kind of a type by that word; 0: it is none. -/
def scalarN (s : Bytes) : Nat :=
  if s = wInt64 then 1 else if s = wUint64 then 2 else if s = wSint64 then 3 else if s = wBool then 4 else if s = wString then 5 else if s = wBytes then 6 else if s = wFixed32 then 7 else if s = wFixed64 then 8 else 0
def reservedB (s : Bytes) : Bool := decide (s = wMessage) || decide (s = wEnum) || decide (s = wService) || decide (s = wRpc) || decide (s = wReturns) || decide (s = wRepeated) || decide (0 < scalarN s)
/-- The runes of a text, byte for byte as Go goes through it. -/
def runesF : Nat → Bytes → List (Nat × Nat)
  | 0, _ => []
  | n + 1, l => if l = [] then [] else Lib.decodeL l :: runesF n (l.drop (Lib.decodeL l).2)
def runes (l : Bytes) : List (Nat × Nat) := runesF l.length l
theorem decodeL_pos (l : Bytes) : 1 ≤ (Lib.decodeL l).2 := Lib.decodeL_width l
theorem runesF_fuel : ∀ (n m : Nat) (l : Bytes), l.length ≤ n → l.length ≤ m → runesF n l = runesF m l
  | 0, 0, _, _, _ => rfl
  | 0, m + 1, l, h, _ => by
    obtain rfl : l = [] := List.eq_nil_of_length_eq_zero (by omega)
    simp [runesF]
  | n + 1, 0, l, _, h => by
    obtain rfl : l = [] := List.eq_nil_of_length_eq_zero (by omega)
    simp [runesF]
  | n + 1, m + 1, l, h, h' => by
    simp only [runesF]
    by_cases hl : l = []
    · simp [hl]
    · have := decodeL_pos l
      have hpos : 0 < l.length := List.length_pos_iff.2 hl
      rw [if_neg hl, if_neg hl, runesF_fuel n m _ (by rw [List.length_drop]; omega) (by rw [List.length_drop]; omega)]
theorem runes_nil : runes [] = [] := rfl
theorem runes_step {l : Bytes} (h : l ≠ []) : runes l = Lib.decodeL l :: runes (l.drop (Lib.decodeL l).2) := by
  have := decodeL_pos l
  have hpos : 0 < l.length := List.length_pos_iff.2 h
  unfold runes
  obtain ⟨n, hn⟩ : ∃ n, l.length = n + 1 := ⟨l.length - 1, by omega⟩
  rw [hn]
  simp only [runesF]
  rw [if_neg h, runesF_fuel n _ _ (by rw [List.length_drop]; omega) (Nat.le_refl _)]
/-- Runes of a name, n of them gone by; first: none has. -/
def nameGo : List (Nat × Nat) → Nat → Bool → Bool
  | [], n, _ => decide (0 < n ∧ n ≤ 40)
  | r :: t, n, first => if insideB r.1 && (!first || letterB r.1) then nameGo t (n + 1) false else false
def nameB (s : Bytes) : Bool := nameGo (runes s) 0 true
def plainB (s : Bytes) : Bool := nameB s && !reservedB s
end Go.Proofs.YtfcpfbdlkanlpaaDoor
