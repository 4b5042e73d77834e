/- From what an argument reads as to what its cells say: a row of elements, each by its own opening; sizes from the weights. -/
import Derived.Test.YtfcpfbdlkanlpaaDoorBase
import Derived.SizedLaws
import Derived.ChangeArms
import Derived.DataReads
namespace Go.Proofs.YtfcpfbdlkanlpaaDoor
open Go.RowKit Go.Proofs.YtfcpfbdlkanlpaaDoorW.PrintWords Go.Proofs.YtfcpfbdlkanlpaaDoorW.PrintLast
set_option linter.unusedVariables false

section
variable {H : Type} {enc : TypeId × Value → H} {w : World} {base : Nat} {spare : Nat → Bool} {held : Bool}

/-- All that lies in a datum is of a size that the row speaks of. -/
def Szd (t : TypeId) (d : DataW H) : Prop := ∀ n ∈ d.weights Tryd.prog t, n ≤ reachBytes
theorem szd_str {t : TypeId} {bs : List UInt8} (h : Szd (H := H) t (.lit (.string bs))) : bs.length ≤ reachBytes := h _ (by simp [DataW.weights])
theorem mem_weightsAll {e : TypeId} : ∀ {l : List (DataW H)} {d : DataW H}, d ∈ l → ∀ n ∈ d.weights Tryd.prog e, n ∈ DataW.weightsAll Tryd.prog e l
  | x :: l, d, hd, n, hn => by
    simp only [DataW.weightsAll]
    rcases List.mem_cons.1 hd with rfl | hd
    · exact List.mem_append_left _ hn
    · exact List.mem_append_right _ (mem_weightsAll hd n hn)
theorem szd_slice {t e : TypeId} (hu : Tryd.prog.underlying t = some (.slice e)) {es sp : List (DataW H)} (h : Szd t (.slice es sp)) : (es.length + sp.length) * Tryd.prog.bytesOf e ≤ reachBytes ∧ ∀ d ∈ es, Szd e d := by
  have hw : DataW.weights Tryd.prog t (.slice es sp) = (es.length + sp.length) * Tryd.prog.bytesOf e :: (DataW.weightsAll Tryd.prog e es ++ DataW.weightsAll Tryd.prog e sp) := by
    simp only [DataW.weights, hu]
  unfold Szd at h
  rw [hw] at h
  exact ⟨h _ List.mem_cons_self, fun d hd n hn => h n (List.mem_cons_of_mem _ (List.mem_append_left _ (mem_weightsAll hd n hn)))⟩
theorem szd_struct {t : TypeId} {fs : Array Field} (hu : Tryd.prog.underlying t = some (.struct fs)) {ps : List (DataW H)} (h : Szd t (.agg ps)) {i : Nat} {f : Field} {d : DataW H} (hf : fs[i]? = some f) (hd : ps[i]? = some d) : Szd f.type d := by
  have hw : DataW.weights Tryd.prog t (.agg ps) = DataW.weightsEach Tryd.prog (fs.toList.map (·.type)) ps := by simp only [DataW.weights, hu]
  unfold Szd at h
  rw [hw] at h
  intro n hn
  refine h n (DataW.weights_mem_each (j := i) (t := f.type) ?_ hd n hn)
  rw [List.getElem?_map, Array.getElem?_toList, hf]; rfl

theorem list_of {α : Type} {q : Nat → α → Prop} : ∀ (n : Nat), (∀ i, i < n → ∃ p, q i p) → ∃ l : List α, l.length = n ∧ ∀ i p, l[i]? = some p → q i p
  | 0, _ => ⟨[], rfl, fun i p hp => by simp at hp⟩
  | m + 1, h => by
    obtain ⟨l, h1, h2⟩ := list_of m (fun i hi => h i (by omega))
    obtain ⟨p, h3⟩ := h m (by omega)
    refine ⟨l ++ [p], by simp [h1], fun i x hx => ?_⟩
    by_cases hi : i < l.length
    · rw [List.getElem?_append_left hi] at hx
      exact h2 i x hx
    · have hlt := (List.getElem?_eq_some_iff.1 hx).1
      rw [List.length_append, List.length_singleton] at hlt
      have him : i = m := by omega
      subst him
      rw [List.getElem?_append_right (by omega), h1, Nat.sub_self] at hx
      have : p = x := by simpa using hx
      subst this
      exact h3
/-- A slice, by its elements' own opening (at less fuel). -/
theorem open_kd {α : Type} (d : Kd α) {t e : TypeId} (hu : Tryd.prog.underlying t = some (.slice e)) (hc : Tryd.prog.cellsOf e = d.sz) (hb : 1 ≤ Tryd.prog.bytesOf e) (ok : α → Prop) {fuel : Nat}
    (helem : ∀ n, n < fuel → ∀ cs x, DataW.trod enc Tryd.prog w base spare held n e cs = some x → Szd e x.1 → ∃ p, d.K w p cs ∧ ok p)
    {cs : List Value} {x : DataW H × List MemPlace} (h : DataW.trod enc Tryd.prog w base spare held fuel t cs = some x) (hs : Szd t x.1) :
    ∃ (A : Option Addr) (l : List α) (cap : Nat), cs = [.slice A l.length cap] ∧ l.length ≤ cap ∧ l.length ≤ 140737488351232 ∧ d.C w A l.length l ∧ ∀ p ∈ l, ok p := by
  rcases DataW.trod_slice hu h with ⟨rfl, rfl⟩ | ⟨a, len, cap, elems, rest, n, rfl, rfl, rfl, _, hl, hm, hlen, hel, _, _⟩
  · exact ⟨none, [], 0, rfl, Nat.le_refl _, (by show 0 ≤ _; omega), Kd.C_nil _ _, fun p hp => by cases hp⟩
  · obtain ⟨hz, hsz⟩ := szd_slice hu hs
    have hle : len ≤ 140737488351232 := by
      have h1 : (elems.map (·.1)).length = len := by rw [List.length_map]; exact hlen
      have h2 : len * 1 ≤ ((elems.map (·.1)).length + (rest.map (·.1)).length) * Tryd.prog.bytesOf e := Nat.mul_le_mul (by omega) hb
      have h3 : reachBytes = 140737488351232 := by decide
      omega
    have hone : ∀ i, i < len → ∃ p cs', w.cells? base (a.add (i * d.sz)) d.sz = some cs' ∧ d.K w p cs' ∧ ok p := by
      intro i hi
      have h1 := hel i hi
      rw [hc, List.getElem?_eq_getElem (by omega)] at h1
      obtain ⟨cs', h2, h3⟩ := Option.bind_eq_some_iff.1 h1
      obtain ⟨p, h4, h5⟩ := helem n (by omega) cs' _ h3 (hsz _ (List.mem_map_of_mem (List.getElem_mem _)))
      exact ⟨p, cs', h2, h4, h5⟩
    have hall := list_of (q := fun i p => ∃ cs', w.cells? base (a.add (i * d.sz)) d.sz = some cs' ∧ d.K w p cs' ∧ ok p) len hone
    obtain ⟨l, h1, h2⟩ := hall
    refine ⟨some a, l, cap, by rw [h1], by omega, by omega, ⟨rfl, by omega, fun _ => ⟨a, rfl, fun j p hp => ?_⟩⟩, fun p hp => ?_⟩
    · obtain ⟨cs', h3, h4, _⟩ := h2 j p hp
      obtain ⟨_, h5, h6⟩ := World.cells?_some h3
      refine ⟨cs', h5, h4, fun i u hu' => ?_⟩
      have hi : i < d.sz := by rw [← h5]; exact (List.getElem?_eq_some_iff.1 hu').1
      rw [← add_add, h6 i hi, hu']
    · obtain ⟨i, hi⟩ := List.getElem?_of_mem hp
      obtain ⟨_, _, _, h5⟩ := h2 i p hi
      exact h5
end
end Go.Proofs.YtfcpfbdlkanlpaaDoor
