/- ScopeWhole, the plain law: a whole name that is there once means itself in no scope. -/
import Derived.Test.YtfcpfbdlkanlpaaDoorNoDot
import Derived.Test.YtfcpfbdlkanlpaaDoorFormed
import Derived.Test.YtfcpfbdlkanlpaaDoorScopeFind
namespace Go.Proofs.YtfcpfbdlkanlpaaDoor
open Go.RowKit Go.Maps Go.Proofs.YtfcpfbdlkanlpaaDoorW.PrintWords Go.Proofs.YtfcpfbdlkanlpaaDoorW.PrintLast
set_option linter.unusedVariables false

/-! ### names that lie in one another -/
def jl (a : Bytes) (ns : List Bytes) : Bytes := a ++ ns.flatMap (fun n => 46 :: n)
theorem jl_nil (a : Bytes) : jl a [] = a := by unfold jl; simp
theorem jl_cons (a n : Bytes) (ns : List Bytes) : jl a (n :: ns) = jl (a ++ 46 :: n) ns := by unfold jl; simp
theorem pieces_one {p : Bytes} (h : 46 ∉ p) : pieces p = [p] := by
  induction p with
  | nil => rfl
  | cons b p ih =>
    have hb : ¬ b = 46 := fun e => h (by rw [e]; exact List.mem_cons_self)
    simp only [pieces, if_neg hb, ih (fun hm => h (List.mem_cons_of_mem _ hm))]
theorem pieces_at {p q : Bytes} (h : 46 ∉ p) : pieces (p ++ 46 :: q) = p :: pieces q := by
  induction p with
  | nil => simp [pieces]
  | cons b p ih =>
    have hb : ¬ b = 46 := fun e => h (by rw [e]; exact List.mem_cons_self)
    simp only [List.cons_append, pieces, if_neg hb, ih (fun hm => h (List.mem_cons_of_mem _ hm))]
theorem pieces_jl {ns : List Bytes} : ∀ {n0 : Bytes}, 46 ∉ n0 → (∀ p ∈ ns, 46 ∉ p) → pieces (jl n0 ns) = n0 :: ns := by
  induction ns with
  | nil => intro n0 h _; rw [jl_nil]; exact pieces_one h
  | cons n ns ih =>
    intro n0 h hs
    have h1 := ih (hs n List.mem_cons_self) (fun p hp => hs p (List.mem_cons_of_mem _ hp))
    have e : jl n0 (n :: ns) = n0 ++ 46 :: jl n ns := by unfold jl; simp
    rw [e, pieces_at h, h1]

/-! ### what lies ahead of a declaration is a message -/
structure Chain (ks : List Sy) (a : Bytes) (x : Sy) (n0 : Bytes) (ns : List Bytes) : Prop where
  nd0 : 46 ∉ n0
  ne0 : n0 ≠ []
  nd : ∀ p ∈ ns, 46 ∉ p
  eq : x.name.data.toList = jl (a ++ n0) ns
  up : ∀ i, i < ns.length → ∃ y ∈ ks, y.name.data.toList = jl (a ++ n0) (ns.take i) ∧ y.kind = 1
  k : x.kind = 1 ∨ x.kind = 2 ∨ x.kind = 3
theorem Chain.sub {ks ks' : List Sy} {a : Bytes} {x : Sy} {n0 : Bytes} {ns : List Bytes} (h : Chain ks a x n0 ns) (hs : ∀ y ∈ ks, y ∈ ks') : Chain ks' a x n0 ns :=
  ⟨h.nd0, h.ne0, h.nd, h.eq, fun i hi => by obtain ⟨y, hy, e⟩ := h.up i hi; exact ⟨y, hs y hy, e⟩, h.k⟩
theorem kind_of_form {n : Nat} {d : De} (h : d.formB n = true) : plainB d.name.data.toList = true ∧ (d.kind = 1 ∨ d.kind = 2 ∨ d.kind = 3) ∧ (d.kind ≠ 1 → d.inner = []) ∧ formI (n + 1) d.inner = true := by
  rw [form_mk, Bool.and_eq_true] at h
  obtain ⟨h1, h2⟩ := h
  unfold De.ownB at h1
  simp only [Bool.and_eq_true] at h1
  obtain ⟨⟨⟨⟨⟨h3, _⟩, h4⟩, _⟩, _⟩, _⟩ := h1
  refine ⟨h3, ?_, ?_, h2⟩
  · unfold De.kindB at h4
    by_cases e1 : d.kind = 1
    · exact .inl e1
    · by_cases e2 : d.kind = 2
      · exact .inr (.inl e2)
      · by_cases e3 : d.kind = 3
        · exact .inr (.inr e3)
        · rw [if_neg e1, if_neg e2, if_neg e3] at h4; cases h4
  · intro e1
    unfold De.kindB at h4
    rw [if_neg e1] at h4
    by_cases e2 : d.kind = 2
    · rw [if_pos e2] at h4
      simp only [Bool.and_eq_true] at h4
      exact List.isEmpty_iff.1 h4.2
    · rw [if_neg e2] at h4
      by_cases e3 : d.kind = 3
      · rw [if_pos e3] at h4
        simp only [Bool.and_eq_true] at h4
        exact List.isEmpty_iff.1 h4.1.2
      · rw [if_neg e3] at h4; cases h4
theorem formI_form {n : Nat} {l : List De} (h : formI n l = true) : l.all (fun d => d.formB n) = true := by
  rw [formI_all] at h
  refine List.all_eq_true.2 fun d hd => ?_
  have := List.all_eq_true.1 h d hd
  rw [Bool.and_eq_true] at this
  exact this.2
theorem data_append (a b : ByteArray) : (a ++ b).data.toList = a.data.toList ++ b.data.toList := by
  rw [ByteArray.data_append, Array.toList_append]
theorem chains : ∀ (k : Nat) (n : Nat) (a : ByteArray) (l : List De), nL l ≤ k → l.all (fun d => d.formB n) = true → ∀ x ∈ allL a l, ∃ n0 ns, Chain (allL a l) a.data.toList x n0 ns := by
  intro k
  induction k using Nat.strongRecOn with
  | _ k ih =>
    intro n a l
    induction l with
    | nil => intro _ _ x hx; cases hx
    | cons d l ihl =>
      intro hk hf x hx
      rw [nL_cons] at hk
      have hd := n_mk d
      have hp := n_pos d
      rw [List.all_cons, Bool.and_eq_true] at hf
      rw [allL_cons] at hx ⊢
      rcases List.mem_append.1 hx with hx | hx
      · obtain ⟨hpl, hkd, hin, hfi⟩ := kind_of_form hf.1
        rw [all_mk] at hx
        rcases List.mem_cons.1 hx with rfl | hx
        · exact ⟨d.name.data.toList, [], plain_nodot hpl, plain_ne hpl, fun p hp => (by cases hp), (by rw [jl_nil]; exact data_append _ _), fun i hi => (by cases hi), hkd⟩
        · have hinn : d.inner ≠ [] := by rintro e; rw [e] at hx; cases hx
          have hk1 : d.kind = 1 := Classical.byContradiction fun e => hinn (hin e)
          obtain ⟨n1, ns, hc⟩ := ih (nL d.inner) (by omega) (n + 1) _ d.inner (Nat.le_refl _) (formI_form hfi) x hx
          have hbase : (a ++ d.name ++ dot).data.toList ++ n1 = (a.data.toList ++ d.name.data.toList) ++ 46 :: n1 := by
            rw [data_append, data_append]
            show _ ++ [46] ++ n1 = _
            simp
          refine ⟨d.name.data.toList, n1 :: ns, plain_nodot hpl, plain_ne hpl, ?_, ?_, ?_, hc.k⟩
          · intro p hp
            rcases List.mem_cons.1 hp with rfl | hp
            · exact hc.nd0
            · exact hc.nd p hp
          · rw [hc.eq, hbase, jl_cons]
          · intro i hi
            cases i with
            | zero => exact ⟨⟨a ++ d.name, d.kind⟩, List.mem_append_left _ (by rw [all_mk]; exact List.mem_cons_self), by rw [List.take_zero, jl_nil]; exact data_append _ _, hk1⟩
            | succ i =>
              obtain ⟨y, hy, e1, e2⟩ := hc.up i (by simpa using hi)
              exact ⟨y, List.mem_append_left _ (by rw [all_mk]; exact List.mem_cons_of_mem _ hy), by rw [e1, hbase, List.take_succ_cons, jl_cons], e2⟩
      · obtain ⟨n0, ns, hc⟩ := ihl (by omega) hf.2 x hx
        exact ⟨n0, ns, hc.sub (fun y hy => List.mem_append_right _ hy)⟩

/-! ### names that are there once -/
theorem kindOf_mem {ks : List Sy} (hu : ks.Pairwise (fun s t => s.name.data.toList ≠ t.name.data.toList)) {y : Sy} (hy : y ∈ ks) : kindOf ks y.name.data.toList = y.kind := by
  induction ks with
  | nil => cases hy
  | cons s ks ih =>
    rw [List.pairwise_cons] at hu
    unfold kindOf
    rcases List.mem_cons.1 hy with rfl | hy
    · rw [if_pos rfl]
    · rw [if_neg (hu.1 y hy)]
      exact ih hu.2 hy
theorem joinA_data {a n : ByteArray} (h : a.data.toList ≠ []) : (joinA a n).data.toList = a.data.toList ++ 46 :: n.data.toList := by
  unfold joinA
  rw [if_neg h, data_append, data_append]
  show _ ++ [46] ++ _ = _
  simp
theorem goN_jl (ks : List Sy) (l : List ByteArray) : ∀ (a : ByteArray), a.data.toList ≠ [] → (∀ i, i < l.length → kb (kindOf ks (jl a.data.toList ((bytesL l).take i))) = true) →
    (goN ks a (kb (kindOf ks a.data.toList)) l).1.data.toList = jl a.data.toList (bytesL l) ∧ (goN ks a (kb (kindOf ks a.data.toList)) l).2 = kb (kindOf ks (jl a.data.toList (bytesL l))) := by
  induction l with
  | nil => intro a _ _; rw [show bytesL [] = [] from rfl, jl_nil]; exact ⟨rfl, rfl⟩
  | cons n l ih =>
    intro a ha hk
    have h0 := hk 0 (by simp)
    rw [List.take_zero, jl_nil] at h0
    have hb : bytesL (n :: l) = n.data.toList :: bytesL l := rfl
    rw [goN, if_pos h0, hb, jl_cons, ← joinA_data ha]
    refine ih (joinA a n) (by rw [joinA_data ha]; simp) (fun i hi => ?_)
    have h1 := hk (i + 1) (by simpa using hi)
    rw [hb, List.take_succ_cons, jl_cons, ← joinA_data ha] at h1
    exact h1
theorem whole_law {l : List De} (hf : formL l = true) (hu : (allL ⟨#[]⟩ l).Pairwise (fun s t => s.name.data.toList ≠ t.name.data.toList)) {x : Sy} (hx : x ∈ allL ⟨#[]⟩ l) {s : ByteArray} {k : Int} {b : Bool} (h : FindSays (allL ⟨#[]⟩ l) x.name s k b) :
    (x.kind = 3 → b = false) ∧ (x.kind ≠ 3 → b = pathB x.name.data.toList ∧ (b = true → s = x.name ∧ k = x.kind)) := by
  rcases h with ⟨h1, h2, h3, h4⟩ | ⟨ns, hns, hp, h⟩
  · exact ⟨fun _ => h4, fun _ => ⟨by rw [h4, h1], fun e => by rw [h4] at e; cases e⟩⟩
  · obtain ⟨n0, nt, hc⟩ := chains _ 1 _ l (Nat.le_refl _) hf x hx
    have he : x.name.data.toList = jl n0 nt := by have := hc.eq; simpa using this
    have hpc : bytesL ns = n0 :: nt := by rw [hns, he]; exact pieces_jl hc.nd0 hc.nd
    cases ns with
    | nil => cases hpc
    | cons m ms =>
      have hm : m.data.toList = n0 := (List.cons.inj hpc).1
      have hms : bytesL ms = nt := (List.cons.inj hpc).2
      have hg := goN_jl (allL ⟨#[]⟩ l) ms m (by rw [hm]; exact hc.ne0) (fun i hi => by
        obtain ⟨y, hy, e1, e2⟩ := hc.up i (by rw [← hms]; unfold bytesL; rwa [List.length_map])
        have e3 : y.name.data.toList = jl m.data.toList ((bytesL ms).take i) := by rw [e1, hm, hms]; rfl
        rw [← e3, kindOf_mem hu hy, e2]; rfl)
      rw [hm, hms, ← he, kindOf_mem hu hx] at hg
      have hA : goAll (allL ⟨#[]⟩ l) (m :: ms) = goN (allL ⟨#[]⟩ l) m (kb (kindOf (allL ⟨#[]⟩ l) n0)) ms := by rw [← hm]; rfl
      rw [hA] at h
      rw [hg.2] at h
      rcases h with ⟨h1, h2, h3, h4⟩ | ⟨h1, h2, h3, h4⟩
      · refine ⟨fun _ => h4, fun hk => ?_⟩
        exfalso
        rcases hc.k with e | e | e
        · rw [e] at h1; exact absurd h1 (by decide)
        · rw [e] at h1; exact absurd h1 (by decide)
        · exact hk e
      · have hsx : s = x.name := by
          rw [h2]
          have := hg.1
          exact ByteArray.ext (by rw [← Array.toList_inj]; exact this)
        refine ⟨fun hk => by rw [hk] at h1; exact absurd h1 (by decide), fun _ => ⟨by rw [h4, hp], fun _ => ⟨hsx, ?_⟩⟩⟩
        rw [h3, hg.1, kindOf_mem hu hx]
end Go.Proofs.YtfcpfbdlkanlpaaDoor
