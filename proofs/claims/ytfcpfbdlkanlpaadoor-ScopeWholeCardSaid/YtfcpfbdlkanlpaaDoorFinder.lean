/- The Finder's map: what kind a whole name is of (of the first that bears it); scope.New, by contract. -/
import Derived.Test.YtfcpfbdlkanlpaaDoorScopeAll2
import Derived.Maps.OwnSet
import Derived.Maps.OwnOps
import Derived.Carry
namespace Go.Proofs.YtfcpfbdlkanlpaaDoor
open Go.RowKit Go.Maps Go.Proofs.YtfcpfbdlkanlpaaDoorW.PrintWords Go.Proofs.YtfcpfbdlkanlpaaDoorW.PrintLast
set_option linter.unusedVariables false
set_option linter.unusedSimpArgs false

def kindOf : List Sy → List UInt8 → Int
  | [], _ => 0
  | s :: l, k => if s.name.data.toList = k then s.kind else kindOf l k
def thereB (l : List Sy) (k : List UInt8) : Bool := l.any (fun s => decide (s.name.data.toList = k))
theorem thereB_append (l m : List Sy) (k : List UInt8) : thereB (l ++ m) k = (thereB l k || thereB m k) := by unfold thereB; rw [List.any_append]
theorem kindOf_append (l m : List Sy) (k : List UInt8) : kindOf (l ++ m) k = if thereB l k = true then kindOf l k else kindOf m k := by
  induction l with
  | nil => rfl
  | cons s l ih =>
    simp only [List.cons_append, kindOf, ih, thereB, List.any_cons]
    by_cases h : s.name.data.toList = k
    · simp [h]
    · simp [h]
theorem kindOf_none {l : List Sy} {k : List UInt8} (h : thereB l k = false) : kindOf l k = 0 := by
  induction l with
  | nil => rfl
  | cons s l ih =>
    unfold thereB at h
    rw [List.any_cons, Bool.or_eq_false_iff] at h
    unfold kindOf
    rw [if_neg (of_decide_eq_false h.1)]
    exact ih h.2

theorem keyS : Keyed Tryd.prog 9 := string_keyed Tryd.underlying9
theorem zeroI (w : World) : (zeroValue 3).run Tryd.prog w = .ok (.int .i64 0) w := by kernel_rfl
def kindIn (n : Int) : Prop := (Lit.int .i64 n).wf = true

/-- Block b is the map of these names' kinds. -/
structure Mp (b : Nat) (xs : List Sy) (w : World) : Prop where
  own : ∃ D : DataW Unit, w.ownsMap Tryd.prog 9 (plainElem Tryd.prog 3) b xs.length D ∧ ∀ k : List UInt8, D.atKey (.string k) (.lit (.int .i64 0)) = .lit (.int .i64 (kindOf xs k)) ∧ has D (.string k) = thereB xs k
theorem Mp.start (w : World) : Mp w.heap.size [] (w.alloc (.map #[] 0)) := ⟨⟨.map [], World.ownsMap_made _ _ _ _, fun k => ⟨rfl, rfl⟩⟩⟩
theorem Mp.move {b : Nat} {xs : List Sy} {w w1 : World} (h : Mp b xs w) (hb : w1.heap[b]? = w.heap[b]?) : Mp b xs w1 := by
  obtain ⟨D, ⟨es, clock, h1, h2⟩, h3⟩ := h.own
  exact ⟨⟨D, ⟨es, clock, hb.trans h1, h2⟩, h3⟩⟩
theorem Mp.lt {b : Nat} {xs : List Sy} {w : World} (h : Mp b xs w) : b < w.heap.size := by
  obtain ⟨D, h1, _⟩ := h.own
  exact h1.lt
theorem Mp.below {b : Nat} {xs : List Sy} {w w1 : World} (h : Mp b xs w) (hb : Below w.heap.size w w1) : Mp b xs w1 := h.move (hb.block b h.lt)
theorem Mp.look {b : Nat} {xs : List Sy} {w : World} (h : Mp b xs w) {s : ByteArray} (hs : s.size ≤ maxLen) :
    (Instr.lookup 101 (.map (some b)) (.string s) false).run Tryd.prog w = .ok (.int .i64 (kindOf xs s.data.toList)) w := by
  obtain ⟨D, h1, h3⟩ := h.own
  obtain ⟨c, hrun, hat, _⟩ := h1.lookup_int keyS Tryd.underlying101 Tryd.underlying3 (zeroI _) (WideMaps.keyOf_string_mk Tryd.underlying9 hs)
  rw [(h3 _).1] at hat
  simp only [DataW.lit.injEq, Lit.int.injEq, true_and] at hat
  rw [hrun, ← hat]
theorem Mp.lookok {b : Nat} {xs : List Sy} {w : World} (h : Mp b xs w) {s : ByteArray} (hs : s.size ≤ maxLen) :
    (Instr.lookup 101 (.map (some b)) (.string s) true).run Tryd.prog w = .ok (.tuple #[.int .i64 (kindOf xs s.data.toList), .bool (thereB xs s.data.toList)]) w := by
  obtain ⟨D, h1, h3⟩ := h.own
  obtain ⟨v, ps, hrun, hv⟩ := h1.look_ok keyS Tryd.underlying101 (zeroI _) (plainElem_int Tryd.underlying3 (by decide)) (WideMaps.keyOf_string_mk Tryd.underlying9 hs)
  obtain ⟨c, rfl, hc, _⟩ := plainElem_int_inv Tryd.underlying3 hv
  simp only [Prod.mk.injEq] at hc
  have hat := hc.1
  rw [(h3 _).1] at hat
  simp only [DataW.lit.injEq, Lit.int.injEq, true_and] at hat
  rw [hrun, (h3 _).2, ← hat]
theorem Mp.same {b : Nat} {xs : List Sy} {w : World} (h : Mp b xs w) {s : Sy} (hs : thereB xs s.name.data.toList = true) : Mp b (xs ++ [s]) w := by
  obtain ⟨D, h1, h3⟩ := h.own
  refine ⟨⟨D, h1.mono (by simp), fun k => ⟨(h3 k).1.trans ?_, (h3 k).2.trans ?_⟩⟩⟩
  · rw [kindOf_append]
    by_cases hk : thereB xs k = true
    · rw [if_pos hk]
    · rw [if_neg hk, kindOf_none (by simpa using hk)]
      unfold kindOf
      rw [if_neg (fun e => hk (by rw [← e]; exact hs))]; rfl
  · rw [thereB_append]
    by_cases hk : s.name.data.toList = k
    · rw [← hk, hs]; rfl
    · simp [thereB, hk]
theorem Mp.put {b : Nat} {xs : List Sy} {w : World} (h : Mp b xs w) {s : Sy} (hs : thereB xs s.name.data.toList = false) (hz : s.name.size ≤ maxLen) (hk : kindIn s.kind) (hn : xs.length < maxLen) :
    ∃ w1, (Instr.mapUpdate 101 (.map (some b)) (.string s.name) (.int .i64 s.kind)).run Tryd.prog w = .ok () w1 ∧ Mp b (xs ++ [s]) w1 ∧ w.grownBy w1 (some b) := by
  obtain ⟨D, h1, h3⟩ := h.own
  obtain ⟨w1, hrun, h2, hg⟩ := h1.update keyS Tryd.underlying101 hn (WideMaps.keyOf_string_mk Tryd.underlying9 hz) (plainElem_int Tryd.underlying3 hk)
  refine ⟨w1, hrun, ⟨⟨_, by rw [List.length_append, List.length_singleton]; exact h2, fun k => ?_⟩⟩, hg⟩
  by_cases e : s.name.data.toList = k
  · subst e
    refine ⟨(atKey_put_same h1.isMap (by simp [WideAt.IsKeyLit]) _ _).trans ?_, (has_put_same h1.isMap (by simp [WideAt.IsKeyLit]) _).trans ?_⟩
    · rw [kindOf_append, if_neg (by rw [hs]; simp)]; simp [kindOf]
    · rw [thereB_append]; simp [thereB]
  · have hne : (Lit.string k) ≠ .string s.name.data.toList := fun e' => e (by simp only [Lit.string.injEq] at e'; exact e'.symm)
    refine ⟨(atKey_put_other hne _ _).trans ((h3 k).1.trans ?_), (has_put_other hne _).trans ((h3 k).2.trans ?_)⟩
    · rw [kindOf_append]
      by_cases hk2 : thereB xs k = true
      · rw [if_pos hk2]
      · rw [if_neg hk2, kindOf_none (by simpa using hk2)]; simp [kindOf, e]
    · rw [thereB_append]; simp [thereB, e]
end Go.Proofs.YtfcpfbdlkanlpaaDoor
