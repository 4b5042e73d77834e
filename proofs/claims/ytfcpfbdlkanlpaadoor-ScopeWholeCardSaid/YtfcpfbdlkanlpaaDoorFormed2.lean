/- courierref05.formed, Formed, All and Small, by contract. -/
import Derived.Test.YtfcpfbdlkanlpaaDoorFormed
import Derived.Test.YtfcpfbdlkanlpaaDoorRefAll
import Derived.Test.YtfcpfbdlkanlpaaDoorRefSmall
namespace Go.Proofs.YtfcpfbdlkanlpaaDoor
open Go.RowKit Go.Proofs.YtfcpfbdlkanlpaaDoorW.PrintWords Go.Proofs.YtfcpfbdlkanlpaaDoorW.PrintLast
set_option linter.unusedVariables false
set_option linter.unusedSimpArgs false

theorem sumBy_get {α : Type} (f : α → Nat) {l : List α} {i : Nat} {x : α} (hx : l[i]? = some x) : f x ≤ sumBy f l := by
  have h := sumBy_append f (l.take (i + 1)) (l.drop (i + 1))
  rw [List.take_append_drop] at h
  have := sumBy_step f hx
  omega
theorem wtL_get {l : List De} {i : Nat} {x : De} (hx : l[i]? = some x) : x.wt ≤ wtL l := by
  have h := wtL_append (l.take (i + 1)) (l.drop (i + 1))
  rw [List.take_append_drop] at h
  have := wtL_step hx
  omega
/-- A declaration's cells, in a box of its own, behind some world. -/
structure Boxed (w wr : World) (x : De) (A4 : Option Addr) (c4 : Nat) (A5 : Option Addr) (c5 : Nat) (A6 : Option Addr) (c6 : Nat) (A7 : Option Addr) (c7 : Nat) : Prop where
  hb : Below w.heap.size w wr
  bk : wr.heap[w.heap.size]? = some (.cells #[.int .i64 x.kind, .string x.name, .int .i64 x.pos.line, .int .i64 x.pos.col, .slice A4 x.fs.length c4, .slice A5 x.vs.length c5, .slice A6 x.ms.length c6, .slice A7 x.inner.length c7] 61 (0, 0))
theorem Boxed.mk0 {w : World} {x : De} {A4 : Option Addr} {c4 : Nat} {A5 : Option Addr} {c5 : Nat} {A6 : Option Addr} {c6 : Nat} {A7 : Option Addr} {c7 : Nat} :
    Boxed w (w.alloc (.cells #[.int .i64 x.kind, .string x.name, .int .i64 x.pos.line, .int .i64 x.pos.col, .slice A4 x.fs.length c4, .slice A5 x.vs.length c5, .slice A6 x.ms.length c6, .slice A7 x.inner.length c7] 61)) x A4 c4 A5 c5 A6 c6 A7 c7 := ⟨below_alloc (Below.refl _ _) _, blk_new _ _⟩
theorem Boxed.go {w wr w2 : World} {x : De} {A4 : Option Addr} {c4 : Nat} {A5 : Option Addr} {c5 : Nat} {A6 : Option Addr} {c6 : Nat} {A7 : Option Addr} {c7 : Nat} (h : Boxed w wr x A4 c4 A5 c5 A6 c6 A7 c7) (hb : Below wr.heap.size wr w2) : Boxed w w2 x A4 c4 A5 c5 A6 c6 A7 c7 :=
  ⟨below_then h.hb h.hb.size hb, blk_below h.bk hb⟩
theorem all_step {α : Type} {p : α → Bool} {l : List α} {i : Nat} {x : α} (hx : l[i]? = some x) (h : (l.take i).all p = true) (hp : p x = true) : (l.take (i + 1)).all p = true := by
  rw [take_step hx, List.all_append, h]; simp [hp]
theorem all_done {α : Type} {p : α → Bool} {l : List α} {i : Nat} (hi : l.length ≤ i) (h : (l.take i).all p = true) : l.all p = true := by rwa [take_all hi] at h
theorem form_yes {n : Nat} {x : De} (h1 : plainB x.name.data.toList = true) (h2 : n ≤ 8) (h3 : x.kindB n = true) (h4 : x.fs.all Fl.formB = true) (h5 : x.vs.all Va.formB = true) (h6 : x.ms.all Me.formB = true) (h7 : x.inner.all (fun d => d.kind != 3 && d.formB (n + 1)) = true) : x.formB n = true := by
  rw [form_mk, formI_all, h7]; unfold De.ownB; rw [h1, h3, h4, h5, h6, decide_eq_true h2]; rfl
theorem form_own {n : Nat} {x : De} (h : x.ownB n = false) : x.formB n = false := by rw [form_mk, h]; rfl
theorem own_kind {n : Nat} {x : De} (h : x.kindB n = false) : x.formB n = false := form_own (by unfold De.ownB; rw [h]; simp)
theorem own_f {n : Nat} {x : De} {f : Fl} (hm : f ∈ x.fs) (h : f.formB = false) : x.formB n = false := form_own (by
  have : x.fs.all Fl.formB = false := List.all_eq_false.2 ⟨f, hm, by rw [h]; simp⟩
  unfold De.ownB; rw [this]; simp)
theorem own_v {n : Nat} {x : De} {f : Va} (hm : f ∈ x.vs) (h : f.formB = false) : x.formB n = false := form_own (by
  have : x.vs.all Va.formB = false := List.all_eq_false.2 ⟨f, hm, by rw [h]; simp⟩
  unfold De.ownB; rw [this]; simp)
theorem own_m {n : Nat} {x : De} {f : Me} (hm : f ∈ x.ms) (h : f.formB = false) : x.formB n = false := form_own (by
  have : x.ms.all Me.formB = false := List.all_eq_false.2 ⟨f, hm, by rw [h]; simp⟩
  unfold De.ownB; rw [this]; simp)
theorem own_i {n : Nat} {x d : De} (hm : d ∈ x.inner) (h : (d.kind != 3 && d.formB (n + 1)) = false) : x.formB n = false := by
  have : formI (n + 1) x.inner = false := by rw [formI_all]; exact List.all_eq_false.2 ⟨d, hm, by rw [h]; simp⟩
  rw [form_mk, this]; simp

set_option maxHeartbeats 8000000 in
set_option maxRecDepth 100000 in
theorem formed_calls (k : Nat) : ∀ (x : De) (n : Nat) (A4 : Option Addr) (c4 : Nat) (A5 : Option Addr) (c5 : Nat) (A6 : Option Addr) (c6 : Nat) (A7 : Option Addr) (c7 : Nat) (w : World), x.n ≤ k → x.wt ≤ 100000 → n ≤ 9 →
    Hang 61 68 71 74 w x A4 c4 A5 c5 A6 c6 A7 c7 → Lib.Utf8Tabs 1 2 w →
    Calls Tryd.prog 19 #[.agg #[.int .i64 x.kind, .string x.name, .int .i64 x.pos.line, .int .i64 x.pos.col, .slice A4 x.fs.length c4, .slice A5 x.vs.length c5, .slice A6 x.ms.length c6, .slice A7 x.inner.length c7], .int .i64 n] w fun e w' => e = .returned (.bool (x.formB n)) ∧ Below w.heap.size w w' := by
  induction k using Nat.strongRecOn with
  | _ k ih =>
  intro x n A4 c4 A5 c5 A6 c6 A7 c7 w hk hw hn hang hT
  have HT := Lib.hid hT
  clear hT
  have hwx := wt_mk x
  unfold De.own_wt at hwx
  have hxn := n_mk x
  have q1 : x.name.size ≤ 20000000 := by omega
  have q2 : x.fs.length ≤ 100000 := by omega
  have q3 : x.vs.length ≤ 100000 := by omega
  have q4 : x.ms.length ≤ 100000 := by omega
  have q5 : x.inner.length ≤ 100000 := by have := len_le_wtL x.inner; omega
  cases hp : plainB x.name.data.toList with
  | false =>
    have HP := Lib.hid hp
    clear hp
    go_enter Tryd.func19, Tryd.ntmps19
    go_wp2_with (first
      | (go_at_call 24; refine (rplain_calls x.name _ (by omega) (Utf8Tabs_below HT.out Boxed.mk0.hb)).mono ?_; rintro e w2 ⟨rfl, hB2⟩; rw [HP.out]; have HX := Aside0.mk ((Boxed.mk0 (w := w) (x := x) (A4 := A4) (c4 := c4) (A5 := A5) (c5 := c5) (A6 := A6) (c6 := c6) (A7 := A7) (c7 := c7)).go hB2); obtain ⟨p0, p1, p2, p3, p4, p5, p6, p7⟩ := box8 HX.out.bk; clear hB2))
    go_ret
    exact ⟨ret_bool (form_own (by unfold De.ownB; rw [HP.out]; rfl)).symm, HX.out.hb⟩
  | true =>
  have HP := Lib.hid hp
  clear hp
  by_cases hdeep : 8 < n
  · go_enter Tryd.func19, Tryd.ntmps19
    go_wp2_with (first
      | (go_at_call 24; refine (rplain_calls x.name _ (by omega) (Utf8Tabs_below HT.out Boxed.mk0.hb)).mono ?_; rintro e w2 ⟨rfl, hB2⟩; rw [HP.out]; have HX := Aside0.mk ((Boxed.mk0 (w := w) (x := x) (A4 := A4) (c4 := c4) (A5 := A5) (c5 := c5) (A6 := A6) (c6 := c6) (A7 := A7) (c7 := c7)).go hB2); obtain ⟨p0, p1, p2, p3, p4, p5, p6, p7⟩ := box8 HX.out.bk; clear hB2))
    go_ret
    exact ⟨ret_bool (form_own (by unfold De.ownB; rw [HP.out, decide_eq_false (show ¬ n ≤ 8 by omega)]; rfl)).symm, HX.out.hb⟩
  have hkind : (x.kind = 1 ∧ 0 < x.vs.length + x.ms.length) ∨ (x.kind = 2 ∧ 0 < x.fs.length + x.ms.length + x.inner.length) ∨ (x.kind = 3 ∧ 0 < x.fs.length + x.vs.length + x.inner.length) ∨ (x.kind = 3 ∧ x.fs.length + x.vs.length + x.inner.length ≤ 0 ∧ 1 < n) ∨ (x.kind ≠ 1 ∧ x.kind ≠ 2 ∧ x.kind ≠ 3) ∨ (x.kind = 1 ∧ x.vs.length + x.ms.length ≤ 0) ∨ (x.kind = 2 ∧ x.fs.length + x.ms.length + x.inner.length ≤ 0) ∨ (x.kind = 3 ∧ x.fs.length + x.vs.length + x.inner.length ≤ 0 ∧ n ≤ 1) := by omega
  rcases hkind with ⟨hk1, hs⟩ | ⟨hk1, hs⟩ | ⟨hk1, hs⟩ | ⟨hk1, hs, hn1⟩ | ⟨hk1, hk2, hk3⟩ | hok
  · have HK := Lib.hid (show x.kindB n = false by
      unfold De.kindB; rw [if_pos hk1]
      cases hv : x.vs with
      | cons _ _ => rfl
      | nil => cases hm : x.ms with
        | cons _ _ => rfl
        | nil => rw [hv, hm] at hs; simp at hs)
    have hk0 : 1 ≤ x.kind ∧ x.kind ≤ 1 := by omega
    obtain ⟨hka, hkb⟩ := hk0
    clear hk1
    go_enter Tryd.func19, Tryd.ntmps19
    go_wp2_with (first
      | (go_at_call 24; refine (rplain_calls x.name _ (by omega) (Utf8Tabs_below HT.out Boxed.mk0.hb)).mono ?_; rintro e w2 ⟨rfl, hB2⟩; rw [HP.out]; have HX := Aside0.mk ((Boxed.mk0 (w := w) (x := x) (A4 := A4) (c4 := c4) (A5 := A5) (c5 := c5) (A6 := A6) (c6 := c6) (A7 := A7) (c7 := c7)).go hB2); obtain ⟨p0, p1, p2, p3, p4, p5, p6, p7⟩ := box8 HX.out.bk; clear hB2))
    go_ret
    exact ⟨ret_bool (own_kind HK.out).symm, HX.out.hb⟩
  · have HK := Lib.hid (show x.kindB n = false by
      unfold De.kindB; rw [if_neg (by omega), if_pos hk1]
      cases hv : x.fs with
      | cons _ _ => rfl
      | nil => cases hm : x.ms with
        | cons _ _ => rfl
        | nil => cases hi : x.inner with
          | cons _ _ => rfl
          | nil => rw [hv, hm, hi] at hs; simp at hs)
    have hk0 : 2 ≤ x.kind ∧ x.kind ≤ 2 := by omega
    obtain ⟨hka, hkb⟩ := hk0
    clear hk1
    go_enter Tryd.func19, Tryd.ntmps19
    go_wp2_with (first
      | (go_at_call 24; refine (rplain_calls x.name _ (by omega) (Utf8Tabs_below HT.out Boxed.mk0.hb)).mono ?_; rintro e w2 ⟨rfl, hB2⟩; rw [HP.out]; have HX := Aside0.mk ((Boxed.mk0 (w := w) (x := x) (A4 := A4) (c4 := c4) (A5 := A5) (c5 := c5) (A6 := A6) (c6 := c6) (A7 := A7) (c7 := c7)).go hB2); obtain ⟨p0, p1, p2, p3, p4, p5, p6, p7⟩ := box8 HX.out.bk; clear hB2))
    go_ret
    exact ⟨ret_bool (own_kind HK.out).symm, HX.out.hb⟩
  · have HK := Lib.hid (show x.kindB n = false by
      unfold De.kindB; rw [if_neg (by omega), if_neg (by omega), if_pos hk1]
      cases hv : x.fs with
      | cons _ _ => rfl
      | nil => cases hm : x.vs with
        | cons _ _ => rfl
        | nil => cases hi : x.inner with
          | cons _ _ => rfl
          | nil => rw [hv, hm, hi] at hs; simp at hs)
    have hk0 : 3 ≤ x.kind ∧ x.kind ≤ 3 := by omega
    obtain ⟨hka, hkb⟩ := hk0
    clear hk1
    go_enter Tryd.func19, Tryd.ntmps19
    go_wp2_with (first
      | (go_at_call 24; refine (rplain_calls x.name _ (by omega) (Utf8Tabs_below HT.out Boxed.mk0.hb)).mono ?_; rintro e w2 ⟨rfl, hB2⟩; rw [HP.out]; have HX := Aside0.mk ((Boxed.mk0 (w := w) (x := x) (A4 := A4) (c4 := c4) (A5 := A5) (c5 := c5) (A6 := A6) (c6 := c6) (A7 := A7) (c7 := c7)).go hB2); obtain ⟨p0, p1, p2, p3, p4, p5, p6, p7⟩ := box8 HX.out.bk; clear hB2))
    go_ret
    exact ⟨ret_bool (own_kind HK.out).symm, HX.out.hb⟩
  · have HK := Lib.hid (show x.kindB n = false by
      unfold De.kindB; rw [if_neg (by omega), if_neg (by omega), if_pos hk1, decide_eq_false (by omega)]; simp)
    have hk0 : 3 ≤ x.kind ∧ x.kind ≤ 3 := by omega
    obtain ⟨hka, hkb⟩ := hk0
    clear hk1
    go_enter Tryd.func19, Tryd.ntmps19
    go_wp2_with (first
      | (go_at_call 24; refine (rplain_calls x.name _ (by omega) (Utf8Tabs_below HT.out Boxed.mk0.hb)).mono ?_; rintro e w2 ⟨rfl, hB2⟩; rw [HP.out]; have HX := Aside0.mk ((Boxed.mk0 (w := w) (x := x) (A4 := A4) (c4 := c4) (A5 := A5) (c5 := c5) (A6 := A6) (c6 := c6) (A7 := A7) (c7 := c7)).go hB2); obtain ⟨p0, p1, p2, p3, p4, p5, p6, p7⟩ := box8 HX.out.bk; clear hB2))
    go_ret
    exact ⟨ret_bool (own_kind HK.out).symm, HX.out.hb⟩
  · have HK := Lib.hid (show x.kindB n = false by
      unfold De.kindB; rw [if_neg hk1, if_neg hk2, if_neg hk3])
    go_enter Tryd.func19, Tryd.ntmps19
    go_wp2_with (first
      | (go_at_call 24; refine (rplain_calls x.name _ (by omega) (Utf8Tabs_below HT.out Boxed.mk0.hb)).mono ?_; rintro e w2 ⟨rfl, hB2⟩; rw [HP.out]; have HX := Aside0.mk ((Boxed.mk0 (w := w) (x := x) (A4 := A4) (c4 := c4) (A5 := A5) (c5 := c5) (A6 := A6) (c6 := c6) (A7 := A7) (c7 := c7)).go hB2); obtain ⟨p0, p1, p2, p3, p4, p5, p6, p7⟩ := box8 HX.out.bk; clear hB2))
    go_ret
    exact ⟨ret_bool (own_kind HK.out).symm, HX.out.hb⟩
  have HK := Lib.hid (show x.kindB n = true by
    have e0 : ∀ {α : Type} (l : List α), l.length ≤ 0 → l.isEmpty = true := fun l h => by cases l with | nil => rfl | cons _ _ => simp at h
    unfold De.kindB
    rcases hok with ⟨h1, h2⟩ | ⟨h1, h2⟩ | ⟨h1, h2, h3⟩
    · rw [if_pos h1, e0 x.vs (by omega), e0 x.ms (by omega)]; rfl
    · rw [if_neg (by omega), if_pos h1, e0 x.fs (by omega), e0 x.ms (by omega), e0 x.inner (by omega)]; rfl
    · rw [if_neg (by omega), if_neg (by omega), if_pos h1, e0 x.fs (by omega), e0 x.vs (by omega), e0 x.inner (by omega), decide_eq_true h3]; rfl)
  have hok2 : (1 ≤ x.kind ∧ x.kind ≤ 1 ∧ x.vs.length + x.ms.length ≤ 0) ∨ (2 ≤ x.kind ∧ x.kind ≤ 2 ∧ x.fs.length + x.ms.length + x.inner.length ≤ 0) ∨ (3 ≤ x.kind ∧ x.kind ≤ 3 ∧ x.fs.length + x.vs.length + x.inner.length ≤ 0 ∧ n ≤ 1) := by omega
  clear hok
  have hb1 : ∀ c : Int, c ≤ x.kind → x.kind ≤ c → (x.kind == c) = true := fun c h1 h2 => beq_iff_eq.2 (by omega)
  have hb0 : ∀ c : Int, c < x.kind → (x.kind == c) = false := fun c h1 => by rw [beq_eq_false_iff_ne]; omega
  rcases hok2 with ⟨hka, hkb, hs⟩ | ⟨hka, hkb, hs⟩ | ⟨hka, hkb, hs, hn1⟩
  have hk1 := hb1 1 hka hkb
  rotate_left
  have hk1 := hb0 1 (by omega)
  have hk2 := hb1 2 hka hkb
  rotate_left
  have hk1 := hb0 1 (by omega)
  have hk2 := hb0 2 (by omega)
  have hk3 := hb1 3 hka hkb
  rotate_left
  all_goals (
    clear hb1 hb0
    go_enter Tryd.func19, Tryd.ntmps19
    go_wp2_with (first
      | (go_at_call 24; refine (rplain_calls x.name _ (by omega) (Utf8Tabs_below HT.out Boxed.mk0.hb)).mono ?_; rintro e w2 ⟨rfl, hB2⟩; rw [HP.out]; have HX := Aside0.mk ((Boxed.mk0 (w := w) (x := x) (A4 := A4) (c4 := c4) (A5 := A5) (c5 := c5) (A6 := A6) (c6 := c6) (A7 := A7) (c7 := c7)).go hB2); obtain ⟨p0, p1, p2, p3, p4, p5, p6, p7⟩ := box8 HX.out.bk; clear hB2))
    go_loopw [68] (fun v wr => ∃ i : Nat, i ≤ x.fs.length ∧ v = .int .i64 i ∧ Aside0 ((x.fs.take i).all Fl.formB = true) ∧ Aside0 (Boxed w wr x A4 c4 A5 c5 A6 c6 A7 c7)) (fun v _ => x.fs.length - (intOf v).toNat)
    case atStart => exact ⟨0, by omega, rfl, ⟨rfl⟩, HX⟩
    case round =>
      clear p0 p1 p2 p3 p4 p5 p6 p7
      obtain ⟨i, hi, rfl, hA, hB⟩ := hrel
      obtain ⟨p0, p1, p2, p3, p4, p5, p6, p7⟩ := box8 hB.out.bk
      by_cases hlt : i < x.fs.length
      · first
        | (exfalso; omega)
        | (
          obtain ⟨f, hf⟩ := get_of_lt hlt
          obtain ⟨ad, rfl, f0, f1, f2, f3, f4, f5⟩ := C_fl (Kd.C_below hang.g4 hB.out.hb) hf
          have hsz := sumBy_get Fl.wt hf
          rw [Fl.wt_eq] at hsz
          have hf' := Lib.hid hf
          clear hf
          cases hb : f.formB with
          | false =>
            have hb' := Lib.hid hb
            clear hb
            go_wp2_with (first
              | (go_at_call 43; refine (formfield_calls f _ (by omega) (Utf8Tabs_below HT.out hB.out.hb)).mono ?_; rintro e w3 ⟨rfl, hB3⟩; rw [hb'.out]; have HX2 := Aside0.mk (hB.out.go hB3); clear hB3))
            go_ret
            exact ⟨ret_bool (own_f (List.mem_of_getElem? hf'.out) hb'.out).symm, HX2.out.hb⟩
          | true =>
            have hb' := Lib.hid hb
            clear hb
            go_wp2_with (first
              | (go_at_call 43; refine (formfield_calls f _ (by omega) (Utf8Tabs_below HT.out hB.out.hb)).mono ?_; rintro e w3 ⟨rfl, hB3⟩; rw [hb'.out]; have HX2 := Aside0.mk (hB.out.go hB3); clear hB3))
            go_roundw
            case rel => exact ⟨i + 1, by omega, by go_num, ⟨all_step hf'.out hA.out hb'.out⟩, HX2⟩
            case measure => simp [intOf]; omega)
      · have HFA := Lib.hid (all_done (by omega) hA.out)
        have HB0 := hB
        clear hA hB
        go_wp2
        go_loopw [82] (fun v wr => ∃ i : Nat, i ≤ x.vs.length ∧ v = .int .i64 i ∧ Aside0 ((x.vs.take i).all Va.formB = true) ∧ Aside0 (Boxed w wr x A4 c4 A5 c5 A6 c6 A7 c7)) (fun v _ => x.vs.length - (intOf v).toNat)
        case atStart => exact ⟨0, by omega, rfl, ⟨rfl⟩, HB0⟩
        case round =>
          clear p0 p1 p2 p3 p4 p5 p6 p7
          obtain ⟨i, hi, rfl, hA, hB⟩ := hrel
          obtain ⟨p0, p1, p2, p3, p4, p5, p6, p7⟩ := box8 hB.out.bk
          by_cases hlt : i < x.vs.length
          · first
            | (exfalso; omega)
            | (
              obtain ⟨f, hf⟩ := get_of_lt hlt
              obtain ⟨ad, rfl, f0, f1, f2, f3⟩ := C_va (Kd.C_below hang.g5 hB.out.hb) hf
              have hsz := sumBy_get Va.wt hf
              rw [Va.wt_eq] at hsz
              have hf' := Lib.hid hf
              clear hf
              cases hb : plainB f.name.data.toList with
              | false =>
                have hP := Lib.hid hb
                clear hb
                go_wp2_with (first
                  | (go_at_call 24; refine (rplain_calls f.name _ (by omega) (Utf8Tabs_below HT.out hB.out.hb)).mono ?_; rintro e w3 ⟨rfl, hB3⟩; rw [hP.out]; have HX2 := Aside0.mk (hB.out.go hB3); replace f0 := pw_cell_below hB3 f0; replace f1 := pw_cell_below hB3 f1; replace p5 := pw_cell_below hB3 p5; clear hB3))
                go_ret
                exact ⟨ret_bool (own_v (List.mem_of_getElem? hf'.out) (by unfold Va.formB; rw [hP.out]; rfl)).symm, HX2.out.hb⟩
              | true =>
                have hP := Lib.hid hb
                clear hb
                by_cases hn0 : f.num < 0
                · go_wp2_with (first
                    | (go_at_call 24; refine (rplain_calls f.name _ (by omega) (Utf8Tabs_below HT.out hB.out.hb)).mono ?_; rintro e w3 ⟨rfl, hB3⟩; rw [hP.out]; have HX2 := Aside0.mk (hB.out.go hB3); replace f0 := pw_cell_below hB3 f0; replace f1 := pw_cell_below hB3 f1; replace p5 := pw_cell_below hB3 p5; clear hB3))
                  go_ret
                  exact ⟨ret_bool (own_v (List.mem_of_getElem? hf'.out) (by unfold Va.formB numB; rw [decide_eq_false (show ¬ 0 ≤ f.num by omega)]; simp)).symm, HX2.out.hb⟩
                by_cases hn1 : 2147483647 < f.num
                · go_wp2_with (first
                    | (go_at_call 24; refine (rplain_calls f.name _ (by omega) (Utf8Tabs_below HT.out hB.out.hb)).mono ?_; rintro e w3 ⟨rfl, hB3⟩; rw [hP.out]; have HX2 := Aside0.mk (hB.out.go hB3); replace f0 := pw_cell_below hB3 f0; replace f1 := pw_cell_below hB3 f1; replace p5 := pw_cell_below hB3 p5; clear hB3))
                  go_ret
                  exact ⟨ret_bool (own_v (List.mem_of_getElem? hf'.out) (by unfold Va.formB numB; rw [decide_eq_false (show ¬ f.num ≤ 2147483647 by omega)]; simp)).symm, HX2.out.hb⟩
                go_wp2_with (first
                  | (go_at_call 24; refine (rplain_calls f.name _ (by omega) (Utf8Tabs_below HT.out hB.out.hb)).mono ?_; rintro e w3 ⟨rfl, hB3⟩; rw [hP.out]; have HX2 := Aside0.mk (hB.out.go hB3); replace f0 := pw_cell_below hB3 f0; replace f1 := pw_cell_below hB3 f1; replace p5 := pw_cell_below hB3 p5; clear hB3))
                go_roundw
                case rel => exact ⟨i + 1, by omega, by go_num, ⟨all_step hf'.out hA.out (by unfold Va.formB numB; rw [hP.out, decide_eq_true (by omega), decide_eq_true (by omega)]; rfl)⟩, HX2⟩
                case measure => simp [intOf]; omega)
          · have HVA := Lib.hid (all_done (by omega) hA.out)
            have HB0 := hB
            clear hA hB
            go_wp2
            go_loopw [115] (fun v wr => ∃ i : Nat, i ≤ x.ms.length ∧ v = .int .i64 i ∧ Aside0 ((x.ms.take i).all Me.formB = true) ∧ Aside0 (Boxed w wr x A4 c4 A5 c5 A6 c6 A7 c7)) (fun v _ => x.ms.length - (intOf v).toNat)
            case atStart => exact ⟨0, by omega, rfl, ⟨rfl⟩, HB0⟩
            case round =>
              clear p0 p1 p2 p3 p4 p5 p6 p7
              obtain ⟨i, hi, rfl, hA, hB⟩ := hrel
              obtain ⟨p0, p1, p2, p3, p4, p5, p6, p7⟩ := box8 hB.out.bk
              by_cases hlt : i < x.ms.length
              · first
                | (exfalso; omega)
                | (
                  obtain ⟨f, hf⟩ := get_of_lt hlt
                  obtain ⟨ad, rfl, f0, f1, f2, f3, f4⟩ := C_me (Kd.C_below hang.g6 hB.out.hb) hf
                  have hsz := sumBy_get Me.wt hf
                  rw [Me.wt_eq] at hsz
                  have hf' := Lib.hid hf
                  clear hf
                  cases hb : plainB f.name.data.toList with
                  | false =>
                    have hP := Lib.hid hb
                    clear hb
                    go_wp2_with (first
                      | (go_at_call 13; (with_reducible refine (rpath_flag f.inp _ (Utf8Tabs_below HT.out hB.out.hb)).mono ?_); rintro e w3 ⟨vi, rfl, hB3⟩; have HX2 := Aside0.mk (hB.out.go hB3); replace f0 := pw_cell_below hB3 f0; replace f2 := pw_cell_below hB3 f2; replace p6 := pw_cell_below hB3 p6; clear hB3)
                      | (go_at_call 13; (with_reducible refine (rpath_flag f.out _ (Utf8Tabs_below HT.out HX2.out.hb)).mono ?_); rintro e w4 ⟨vo, rfl, hB4⟩; have HX3 := Aside0.mk (HX2.out.go hB4); replace f0 := pw_cell_below hB4 f0; replace p6 := pw_cell_below hB4 p6; clear hB4)
                      | (go_at_call 24; refine (rplain_calls f.name _ (by omega) (Utf8Tabs_below HT.out HX3.out.hb)).mono ?_; rintro e w5 ⟨rfl, hB5⟩; rw [hP.out]; have HX4 := Aside0.mk (HX3.out.go hB5); clear hB5))
                    go_ret
                    exact ⟨ret_bool (own_m (List.mem_of_getElem? hf'.out) (by unfold Me.formB; rw [hP.out]; rfl)).symm, HX4.out.hb⟩
                  | true =>
                    have hP := Lib.hid hb
                    clear hb
                    cases hi0 : pathB f.inp.data.toList with
                    | false =>
                      have hI := Lib.hid hi0
                      clear hi0
                      go_wp2_with (first
                        | (go_at_call 13; (with_reducible refine (rpath_flag f.inp _ (Utf8Tabs_below HT.out hB.out.hb)).mono ?_); rintro e w3 ⟨vi, rfl, hB3⟩; rw [hI.out]; have HX2 := Aside0.mk (hB.out.go hB3); replace f0 := pw_cell_below hB3 f0; replace f2 := pw_cell_below hB3 f2; replace p6 := pw_cell_below hB3 p6; clear hB3)
                        | (go_at_call 13; (with_reducible refine (rpath_flag f.out _ (Utf8Tabs_below HT.out HX2.out.hb)).mono ?_); rintro e w4 ⟨vo, rfl, hB4⟩; have HX3 := Aside0.mk (HX2.out.go hB4); replace f0 := pw_cell_below hB4 f0; replace p6 := pw_cell_below hB4 p6; clear hB4)
                        | (go_at_call 24; refine (rplain_calls f.name _ (by omega) (Utf8Tabs_below HT.out HX3.out.hb)).mono ?_; rintro e w5 ⟨rfl, hB5⟩; rw [hP.out]; have HX4 := Aside0.mk (HX3.out.go hB5); clear hB5))
                      go_ret
                      exact ⟨ret_bool (own_m (List.mem_of_getElem? hf'.out) (by unfold Me.formB; rw [hP.out, hI.out]; rfl)).symm, HX4.out.hb⟩
                    | true =>
                      have hI := Lib.hid hi0
                      clear hi0
                      cases ho0 : pathB f.out.data.toList with
                      | false =>
                        have hO := Lib.hid ho0
                        clear ho0
                        go_wp2_with (first
                          | (go_at_call 13; (with_reducible refine (rpath_flag f.inp _ (Utf8Tabs_below HT.out hB.out.hb)).mono ?_); rintro e w3 ⟨vi, rfl, hB3⟩; rw [hI.out]; have HX2 := Aside0.mk (hB.out.go hB3); replace f0 := pw_cell_below hB3 f0; replace f2 := pw_cell_below hB3 f2; replace p6 := pw_cell_below hB3 p6; clear hB3)
                          | (go_at_call 13; (with_reducible refine (rpath_flag f.out _ (Utf8Tabs_below HT.out HX2.out.hb)).mono ?_); rintro e w4 ⟨vo, rfl, hB4⟩; rw [hO.out]; have HX3 := Aside0.mk (HX2.out.go hB4); replace f0 := pw_cell_below hB4 f0; replace p6 := pw_cell_below hB4 p6; clear hB4)
                          | (go_at_call 24; refine (rplain_calls f.name _ (by omega) (Utf8Tabs_below HT.out HX3.out.hb)).mono ?_; rintro e w5 ⟨rfl, hB5⟩; rw [hP.out]; have HX4 := Aside0.mk (HX3.out.go hB5); clear hB5))
                        go_ret
                        exact ⟨ret_bool (own_m (List.mem_of_getElem? hf'.out) (by unfold Me.formB; rw [hP.out, hI.out, hO.out]; rfl)).symm, HX4.out.hb⟩
                      | true =>
                        have hO := Lib.hid ho0
                        clear ho0
                        go_wp2_with (first
                          | (go_at_call 13; (with_reducible refine (rpath_flag f.inp _ (Utf8Tabs_below HT.out hB.out.hb)).mono ?_); rintro e w3 ⟨vi, rfl, hB3⟩; rw [hI.out]; have HX2 := Aside0.mk (hB.out.go hB3); replace f0 := pw_cell_below hB3 f0; replace f2 := pw_cell_below hB3 f2; replace p6 := pw_cell_below hB3 p6; clear hB3)
                          | (go_at_call 13; (with_reducible refine (rpath_flag f.out _ (Utf8Tabs_below HT.out HX2.out.hb)).mono ?_); rintro e w4 ⟨vo, rfl, hB4⟩; rw [hO.out]; have HX3 := Aside0.mk (HX2.out.go hB4); replace f0 := pw_cell_below hB4 f0; replace p6 := pw_cell_below hB4 p6; clear hB4)
                          | (go_at_call 24; refine (rplain_calls f.name _ (by omega) (Utf8Tabs_below HT.out HX3.out.hb)).mono ?_; rintro e w5 ⟨rfl, hB5⟩; rw [hP.out]; have HX4 := Aside0.mk (HX3.out.go hB5); clear hB5))
                        go_roundw
                        case rel => exact ⟨i + 1, by omega, by go_num, ⟨all_step hf'.out hA.out (by unfold Me.formB; rw [hP.out, hI.out, hO.out]; rfl)⟩, HX4⟩
                        case measure => simp [intOf]; omega)
              · have HMA := Lib.hid (all_done (by omega) hA.out)
                have HB0 := hB
                clear hA hB
                go_wp2
                go_loopw [158] (fun v wr => ∃ i : Nat, i ≤ x.inner.length ∧ v = .int .i64 i ∧ Aside0 ((x.inner.take i).all (fun d => d.kind != 3 && d.formB (n + 1)) = true) ∧ Aside0 (Boxed w wr x A4 c4 A5 c5 A6 c6 A7 c7)) (fun v _ => x.inner.length - (intOf v).toNat)
                case atStart => exact ⟨0, by omega, rfl, ⟨rfl⟩, HB0⟩
                case round =>
                  clear p0 p1 p2 p3 p4 p5 p6 p7
                  obtain ⟨i, hi, rfl, hA, hB⟩ := hrel
                  obtain ⟨p0, p1, p2, p3, p4, p5, p6, p7⟩ := box8 hB.out.bk
                  by_cases hlt : i < x.inner.length
                  · first
                    | (exfalso; omega)
                    | (
                      obtain ⟨y, hf⟩ := get_of_lt hlt
                      obtain ⟨ad, B4, d4, B5, d5, B6, d6, B7, d7, rfl, hat, hang2⟩ := C_de (Kd.C_below hang.g7 hB.out.hb) hf
                      have hsz := wtL_get hf
                      have hsn := nL_get hf
                      obtain ⟨f0, f1, f2, f3, f4, f5, f6, f7⟩ := hat
                      have hf' := Lib.hid hf
                      clear hf
                      by_cases hy3 : y.kind = 3
                      · have hy0 : 3 ≤ y.kind ∧ y.kind ≤ 3 := by omega
                        obtain ⟨hya, hyb⟩ := hy0
                        have hyk := Lib.hid hy3
                        clear hy3
                        go_wp2
                        go_ret
                        exact ⟨ret_bool (own_i (List.mem_of_getElem? hf'.out) (by rw [hyk.out]; rfl)).symm, hB.out.hb⟩
                      have hyk := Lib.hid hy3
                      cases hb : y.formB (n + 1) with
                      | false =>
                        have hb' := Lib.hid hb
                        clear hb
                        go_wp2_with (first
                          | (go_at_call 19; refine (ih y.n (by omega) y (n + 1) B4 d4 B5 d5 B6 d6 B7 d7 _ (Nat.le_refl _) (by omega) (by omega) hang2 (Utf8Tabs_below HT.out hB.out.hb)).mono ?_; rintro e w3 ⟨rfl, hB3⟩; rw [hb'.out]; have HX2 := Aside0.mk (hB.out.go hB3); clear hB3))
                        go_ret
                        exact ⟨ret_bool (own_i (List.mem_of_getElem? hf'.out) (by rw [hb'.out, Bool.and_false])).symm, HX2.out.hb⟩
                      | true =>
                        have hb' := Lib.hid hb
                        clear hb
                        go_wp2_with (first
                          | (go_at_call 19; refine (ih y.n (by omega) y (n + 1) B4 d4 B5 d5 B6 d6 B7 d7 _ (Nat.le_refl _) (by omega) (by omega) hang2 (Utf8Tabs_below HT.out hB.out.hb)).mono ?_; rintro e w3 ⟨rfl, hB3⟩; rw [hb'.out]; have HX2 := Aside0.mk (hB.out.go hB3); clear hB3))
                        go_roundw
                        case rel => exact ⟨i + 1, by omega, by go_num, ⟨all_step (p := fun d => d.kind != 3 && d.formB (n + 1)) hf'.out hA.out (by show (y.kind != 3 && y.formB (n + 1)) = true; rw [hb'.out, Bool.and_true]; exact bne_iff_ne.2 hyk.out)⟩, HX2⟩
                        case measure => simp [intOf]; omega)
                  · go_wp2
                    go_ret
                    exact ⟨ret_bool (form_yes HP.out (by omega) HK.out HFA.out HVA.out HMA.out (all_done (by omega) hA.out)).symm, hB.out.hb⟩)
end Go.Proofs.YtfcpfbdlkanlpaaDoor
