/- The words of a text, in plain Lean, as the package has them: a machine that takes a rune at a time. No program in sight. -/
import Derived.Test.YtfcpfbdlkanlpaaDoorWd
import Derived.Test.YtfcpfbdlkanlpaaDoorPlainId
import Derived.Lib.ParseIntB
import Derived.Lib.ItoaNum
namespace Go.Proofs.YtfcpfbdlkanlpaaDoor
set_option linter.unusedVariables false

/-! ### numbers -/
def digB (c : UInt8) : Bool := decide (48 ≤ c.toNat ∧ c.toNat ≤ 57)
def digV (c : UInt8) : Nat := c.toNat - 48
theorem digV_eq (c : UInt8) : digV c = c.toNat - 48 := rfl
attribute [local irreducible] digV
/-- What digits spell, behind a number. -/
def numFrom : Nat → Bytes → Nat
  | a, [] => a
  | a, c :: t => numFrom (a * 10 + digV c) t
def numVal (t : Bytes) : Nat := numFrom 0 t
theorem numFrom_nil (a : Nat) : numFrom a [] = a := rfl
theorem numFrom_cons (a : Nat) (c : UInt8) (t : Bytes) : numFrom a (c :: t) = numFrom (a * 10 + digV c) t := by rw [numFrom]
theorem numFrom_one (a : Nat) (c : UInt8) : numFrom a [c] = a * 10 + digV c := by rw [numFrom_cons, numFrom_nil]
attribute [local irreducible] numFrom
/-- Is a text a number, as it is written? -/
def numB (t : Bytes) : Bool := t.all digB && decide (0 < t.length) && (decide (t.length = 1) || decide (t.head? ≠ some 48)) && decide (numVal t ≤ 2147483647)
theorem numFrom_ge (t : Bytes) : ∀ a : Nat, a ≤ numFrom a t := by
  induction t with
  | nil => intro a; rw [numFrom_nil]; exact Nat.le_refl _
  | cons c t ih => intro a; rw [numFrom_cons]; have := ih (a * 10 + digV c); omega
theorem parse_cases (M : Nat) (hM : M < 18446744073709551620) (t : Bytes) : ∀ a : Nat, a ≤ M →
    (Lib.parseUintM M a t = .ok (numFrom a t) ∧ t.all digB = true ∧ numFrom a t ≤ M) ∨ (Lib.parseUintM M a t = .range ∧ (t.all digB = true → M < numFrom a t)) ∨ (Lib.parseUintM M a t = Lib.parseUintB 64 [] ∧ (t.all digB = true → M < numFrom a t)) := by
  induction t with
  | nil => intro a ha; exact .inl ⟨by rw [numFrom_nil]; rfl, rfl, by rw [numFrom_nil]; exact ha⟩
  | cons c t ih =>
    intro a ha
    rw [numFrom_cons, List.all_cons]
    unfold Lib.parseUintM digB
    rw [← digV_eq c]
    have hge := numFrom_ge t (a * 10 + digV c)
    have hdv := digV_eq c
    by_cases hc : 48 ≤ c.toNat ∧ c.toNat ≤ 57
    · rw [if_pos hc, decide_eq_true hc, Bool.true_and]
      by_cases h1 : 1844674407370955162 ≤ a
      · rw [if_pos h1]; exact .inr (.inl ⟨rfl, fun _ => by omega⟩)
      · rw [if_neg h1]
        by_cases h2 : M < a * 10 + digV c
        · rw [if_pos h2]; exact .inr (.inl ⟨rfl, fun _ => by omega⟩)
        · rw [if_neg h2]; exact ih _ (by omega)
    · rw [if_neg hc, decide_eq_false hc]; exact .inr (.inr ⟨rfl, fun h => by simp at h⟩)
theorem head_app {s t : Bytes} (h : s ≠ []) : (s ++ t).head? = s.head? := by cases s with | nil => exact absurd rfl h | cons _ _ => rfl
theorem parse_all (t : Bytes) (h : t ≠ []) :
    (Lib.parseUintB 64 t = .ok (numVal t) ∧ t.all digB = true ∧ numVal t ≤ 18446744073709551615) ∨ ((Lib.parseUintB 64 t = .range ∨ Lib.parseUintB 64 t = Lib.parseUintB 64 []) ∧ numB t = false) := by
  unfold Lib.parseUintB numVal
  rw [if_neg h]
  rcases parse_cases (2 ^ 64 - 1) (by decide) t 0 (Nat.zero_le _) with ⟨h1, h2, h3⟩ | ⟨h1, h2⟩ | ⟨h1, h2⟩
  · exact .inl ⟨h1, h2, h3⟩
  · refine .inr ⟨.inl h1, ?_⟩
    unfold numB numVal
    by_cases hd : t.all digB = true
    · have := h2 hd; rw [decide_eq_false (p := numFrom 0 t ≤ 2147483647) (by omega)]; simp
    · simp only [Bool.not_eq_true] at hd; rw [hd]; rfl
  · refine .inr ⟨.inr h1, ?_⟩
    unfold numB numVal
    by_cases hd : t.all digB = true
    · have := h2 hd; rw [decide_eq_false (p := numFrom 0 t ≤ 2147483647) (by omega)]; simp
    · simp only [Bool.not_eq_true] at hd; rw [hd]; rfl
theorem numB_nil : numB [] = false := by decide
theorem numFrom_append (s : Bytes) (c : UInt8) : ∀ a : Nat, numFrom a (s ++ [c]) = numFrom a s * 10 + digV c := by
  induction s with
  | nil => intro a; rw [List.nil_append, numFrom_one, numFrom_nil]
  | cons d s ih => intro a; rw [List.cons_append, numFrom_cons, numFrom_cons]; exact ih _
/-- Digits without a 0 ahead are the numeral of what they spell. -/
theorem dec_of_digits : ∀ (k : Nat) (t : Bytes), t.length = k → t ≠ [] → t.all digB = true → (t.length = 1 ∨ t.head? ≠ some 48) → Lib.decDigits (numVal t) = t ∧ (1 < t.length → 10 ≤ numVal t) := by
  intro k
  induction k using Nat.strongRecOn with
  | _ k ih =>
    intro t hk hne hd hz
    rcases List.eq_nil_or_concat t with rfl | ⟨s, c, e⟩
    · exact absurd rfl hne
    · rw [List.concat_eq_append] at e
      subst e
      have hv : numVal (s ++ [c]) = numVal s * 10 + (c.toNat - 48) := by rw [← digV_eq]; exact numFrom_append s c 0
      rw [List.all_append] at hd
      simp only [List.all_cons, List.all_nil, Bool.and_true, Bool.and_eq_true] at hd
      obtain ⟨hds, hdc⟩ := hd
      have hc := of_decide_eq_true hdc
      by_cases hs : s = []
      · subst hs
        have hv1 : numVal [c] = c.toNat - 48 := by unfold numVal; rw [numFrom_one, digV_eq]; omega
        rw [List.nil_append, hv1, Lib.decDigits, dif_pos (by omega)]
        refine ⟨?_, fun h => by simp at h⟩
        rw [show 48 + (c.toNat - 48) = c.toNat from by omega]
        simp
      · have hlen : (s ++ [c]).length = s.length + 1 := by simp
        have hsl : 0 < s.length := List.length_pos_iff.2 hs
        have hz' : s.head? ≠ some 48 := by
          rcases hz with h | h
          · omega
          · rwa [head_app hs] at h
        obtain ⟨i1, i2⟩ := ih s.length (by omega) s rfl hs hds (.inr hz')
        have hpos : 1 ≤ numVal s := by
          by_cases h1 : 1 < s.length
          · have := i2 h1; omega
          · obtain ⟨d, rfl⟩ : ∃ d, s = [d] := List.length_eq_one_iff.1 (by omega)
            have hd1 : decide (48 ≤ d.toNat ∧ d.toNat ≤ 57) = true := by simpa [digB] using hds
            have hd2 := of_decide_eq_true hd1
            have hd3 : d ≠ 48 := fun e => hz' (by rw [e]; rfl)
            have hd4 : d.toNat ≠ 48 := fun e => hd3 (UInt8.toNat_inj.1 e)
            show 1 ≤ numFrom 0 [d]
            rw [numFrom_one, digV_eq]; omega
        rw [hv]
        refine ⟨?_, fun _ => by omega⟩
        rw [Lib.decDigits, dif_neg (by omega), show (numVal s * 10 + (c.toNat - 48)) / 10 = numVal s from by omega, show 48 + (numVal s * 10 + (c.toNat - 48)) % 10 = c.toNat from by omega, i1]
        simp
theorem dec_form : ∀ (k u : Nat), u = k → (Lib.decDigits u).all digB = true ∧ Lib.decDigits u ≠ [] ∧ ((Lib.decDigits u).length = 1 ∨ (Lib.decDigits u).head? ≠ some 48) ∧ (1 ≤ u → (Lib.decDigits u).head? ≠ some 48) := by
  intro k
  induction k using Nat.strongRecOn with
  | _ k ih =>
    intro u hk
    by_cases h : u < 10
    · rw [Lib.decDigits, dif_pos h]
      have e : (UInt8.ofNat (48 + u)).toNat = 48 + u := by simp; omega
      refine ⟨by simp only [List.all_cons, List.all_nil, Bool.and_true, digB, e]; exact decide_eq_true (by omega), by simp, .inl rfl, fun h1 he => ?_⟩
      simp only [List.head?_cons, Option.some.injEq] at he
      have := congrArg UInt8.toNat he
      rw [e] at this
      have h48 : (48 : UInt8).toNat = 48 := rfl
      omega
    · rw [Lib.decDigits, dif_neg h]
      obtain ⟨a1, a2, a3, a4⟩ := ih (u / 10) (by omega) (u / 10) rfl
      have e : (UInt8.ofNat (48 + u % 10)).toNat = 48 + u % 10 := by simp; omega
      have hh : (Lib.decDigits (u / 10) ++ [UInt8.ofNat (48 + u % 10)]).head? ≠ some 48 := by
        rw [head_app a2]; exact a4 (by omega)
      refine ⟨?_, by simp, .inr hh, fun _ => hh⟩
      rw [List.all_append, a1]
      simp only [List.all_cons, List.all_nil, Bool.and_true, Bool.true_and, digB, e]; exact decide_eq_true (by omega)
/-- A number is what the numeral of its value is. -/
theorem numB_dec {t : Bytes} (h : t ≠ []) (hd : t.all digB = true) (hv : numVal t ≤ 2147483647) : numB t = decide (Lib.decDigits (numVal t) = t) := by
  have hl : 0 < t.length := List.length_pos_iff.2 h
  unfold numB
  rw [hd, decide_eq_true hl, decide_eq_true hv, Bool.and_true, Bool.true_and, Bool.true_and]
  by_cases hz : t.length = 1 ∨ t.head? ≠ some 48
  · rw [(dec_of_digits _ t rfl h hd hz).1, decide_eq_true rfl]
    rcases hz with hz | hz
    · rw [decide_eq_true hz]; rfl
    · rw [decide_eq_true hz, Bool.or_true]
  · have e : Lib.decDigits (numVal t) ≠ t := fun e => hz (by have := (dec_form _ (numVal t) rfl).2.2.1; rwa [e] at this)
    rw [decide_eq_false e, decide_eq_false (fun h => hz (.inl h)), decide_eq_false (fun h => hz (.inr h))]; rfl
theorem numB_big {t : Bytes} (hv : 2147483647 < numVal t) : numB t = false := by
  unfold numB; rw [decide_eq_false (p := numVal t ≤ 2147483647) (by omega), Bool.and_false]

/-! ### the machine -/
def signB (r : Int) : Bool := decide (r = 123 ∨ r = 125 ∨ r = 40 ∨ r = 41 ∨ r = 61 ∨ r = 59 ∨ r = 46)
def blankB (r : Int) : Bool := decide (r = 32 ∨ r = 9 ∨ r = 10)
def rightB (k : Int) (t : Bytes) : Bool := if k = 1 then nameB t else numB t
structure Sc where
  ws : List Wd
  pos : Pos
  fr : Int
  ok : Int
  ot : ByteArray
  op : Pos
  note : Bool
  slash : Bool
  bg : Pos
  e : Int
  pl : Pos
namespace Sc
def fail (s : Sc) (e : Int) (p : Pos) : Sc := if s.e = 0 then { s with e := e, pl := p } else s
def add (s : Sc) (w : Wd) : Sc := if s.ws.length = 4000 then s.fail 4 w.pos else { s with ws := s.ws ++ [w] }
def shut (s : Sc) (text : ByteArray) (i : Nat) : Sc :=
  if s.fr < 0 then s
  else
    let t := text.extract s.fr.toNat i
    let s1 : Sc := { s with ot := t, fr := -1 }
    if rightB s.ok t.data.toList then s1.add ⟨s.ok, t, s.op⟩ else s1.fail 6 s.op
def rune (s : Sc) (i : Nat) (r : Int) : Sc :=
  if blankB r then s
  else if letterB r then { s with fr := i, ok := 1, ot := ⟨#[]⟩, op := s.pos }
  else if digitB r then { s with fr := i, ok := 2, ot := ⟨#[]⟩, op := s.pos }
  else if signB r then s.add ⟨3, ⟨#[UInt8.ofNat r.toNat]⟩, s.pos⟩
  else if r = 47 then { s with slash := true, bg := s.pos }
  else s.fail 6 s.pos
def move (s : Sc) (r : Int) : Sc := { s with pos := if r = 10 then ⟨s.pos.line + 1, 1⟩ else ⟨s.pos.line, s.pos.col + 1⟩ }
def mode (s : Sc) (i : Nat) (r : Int) : Sc :=
  if s.note then { s with note := decide (r ≠ 10) }
  else if s.slash then (if r = 47 then { s with note := true, slash := false } else s.fail 6 s.bg)
  else if s.fr < 0 then s.rune i r
  else s
def next (s : Sc) (text : ByteArray) (i : Nat) (r : Int) : Sc :=
  ((if 0 ≤ s.fr ∧ insideB r = false then s.shut text i else s).mode i r).move r
end Sc
def pos1 : Pos := ⟨1, 1⟩
def sc0 : Sc := ⟨[], pos1, -1, 0, ⟨#[]⟩, pos0, false, false, pos0, 0, pos0⟩
/-- The rune as the words have it: -1 where it is none. -/
def fixR (r : Nat × Nat) : Int := if r.1 = 65533 ∧ r.2 = 1 then -1 else r.1
/-- From a place on, these runes to come. -/
def lexGo (text : ByteArray) : List (Nat × Nat) → Nat → Sc → Sc
  | [], i, s => let s1 := s.shut text text.size; if s1.slash then s1.fail 6 s1.bg else s1
  | r :: t, i, s => let s1 := s.next text i (fixR r); if s1.e = 0 then lexGo text t (i + r.2) s1 else s1
structure Lx where
  ws : List Wd
  pos : Pos
  e : Int
def lexEnd (s : Sc) : Lx := if s.e = 0 then ⟨s.ws, pos0, 0⟩ else ⟨[], s.pl, s.e⟩
def lexW (text : ByteArray) : Lx := if 20000 < text.size then ⟨[], pos1, 4⟩ else lexEnd (lexGo text (runes text.data.toList) 0 sc0)
/-- The place behind a text's last rune. -/
def endGo : List (Nat × Nat) → Pos → Pos
  | [], p => p
  | r :: t, p => endGo t (if (r.1 : Int) = 10 then ⟨p.line + 1, 1⟩ else ⟨p.line, p.col + 1⟩)
def endW (text : ByteArray) : Pos := endGo (runes text.data.toList) pos1
end Go.Proofs.YtfcpfbdlkanlpaaDoor
