/- courierref05.formedField, by contract; what 'formed' means. -/
import Derived.Test.YtfcpfbdlkanlpaaDoorRef03d
namespace Go.Proofs.YtfcpfbdlkanlpaaDoor
open Go.RowKit Go.Proofs.YtfcpfbdlkanlpaaDoorW.PrintWords Go.Proofs.YtfcpfbdlkanlpaaDoorW.PrintLast
set_option linter.unusedVariables false
set_option linter.unusedSimpArgs false

def numB (n : Int) : Bool := decide (0 ≤ n) && decide (n ≤ 2147483647)
def Fl.formB (f : Fl) : Bool := plainB f.name.data.toList && numB f.num && (pathB f.ty.data.toList || decide (0 < scalarN f.ty.data.toList))
def Va.formB (f : Va) : Bool := plainB f.name.data.toList && numB f.num
def Me.formB (f : Me) : Bool := plainB f.name.data.toList && pathB f.inp.data.toList && pathB f.out.data.toList
/-- Does a declaration have just what its kind may have? -/
def De.kindB (d : De) (n : Nat) : Bool :=
  if d.kind = 1 then d.vs.isEmpty && d.ms.isEmpty
  else if d.kind = 2 then d.fs.isEmpty && d.ms.isEmpty && d.inner.isEmpty
  else if d.kind = 3 then d.fs.isEmpty && d.vs.isEmpty && d.inner.isEmpty && decide (n ≤ 1) else false
def De.ownB (d : De) (n : Nat) : Bool := plainB d.name.data.toList && decide (n ≤ 8) && d.kindB n && d.fs.all Fl.formB && d.vs.all Va.formB && d.ms.all Me.formB
mutual
def De.formB (n : Nat) : De → Bool | .mk k nm p f v m i => (De.mk k nm p f v m i).ownB n && formI (n + 1) i
def formI (n : Nat) : List De → Bool | [] => true | d :: l => (d.kind != 3 && d.formB n) && formI n l
end
theorem form_mk (n : Nat) (d : De) : d.formB n = (d.ownB n && formI (n + 1) d.inner) := by cases d; rfl
theorem formI_all (n : Nat) (l : List De) : formI n l = l.all (fun d => d.kind != 3 && d.formB n) := by
  induction l with
  | nil => rfl
  | cons d l ih => rw [List.all_cons, ← ih]; rfl
def formL (l : List De) : Bool := l.all (fun d => d.formB 1)

theorem box6 {w : World} {g : Nat} {t : TypeId} {a0 a1 a2 a3 a4 a5 : Value} (h : w.heap[g]? = some (.cells #[a0, a1, a2, a3, a4, a5] t (0, 0))) : w.cell? ⟨g, 0, none⟩ = some a0 ∧ w.cell? ⟨g, 1, none⟩ = some a1 ∧ w.cell? ⟨g, 2, none⟩ = some a2 ∧ w.cell? ⟨g, 3, none⟩ = some a3 ∧ w.cell? ⟨g, 4, none⟩ = some a4 ∧ w.cell? ⟨g, 5, none⟩ = some a5 :=
  ⟨blk_cell h 0, blk_cell h 1, blk_cell h 2, blk_cell h 3, blk_cell h 4, blk_cell h 5⟩
theorem cell6 {w w1 : World} {g : Nat} {a0 a1 a2 a3 a4 a5 : Value} (f0 : w.cell? ⟨g, 0, none⟩ = some a0) (f1 : w.cell? ⟨g, 1, none⟩ = some a1) (f2 : w.cell? ⟨g, 2, none⟩ = some a2) (f3 : w.cell? ⟨g, 3, none⟩ = some a3) (f4 : w.cell? ⟨g, 4, none⟩ = some a4) (f5 : w.cell? ⟨g, 5, none⟩ = some a5) (hb : Below w.heap.size w w1) : w1.cell? ⟨g, 0, none⟩ = some a0 ∧ w1.cell? ⟨g, 1, none⟩ = some a1 ∧ w1.cell? ⟨g, 2, none⟩ = some a2 ∧ w1.cell? ⟨g, 3, none⟩ = some a3 ∧ w1.cell? ⟨g, 4, none⟩ = some a4 ∧ w1.cell? ⟨g, 5, none⟩ = some a5 :=
  ⟨pw_cell_below hb f0, pw_cell_below hb f1, pw_cell_below hb f2, pw_cell_below hb f3, pw_cell_below hb f4, pw_cell_below hb f5⟩
theorem rpath_flag (s : ByteArray) (w : World) (hT : Lib.Utf8Tabs 1 2 w) :
    Calls Tryd.prog 13 #[.string s] w fun e w' => ∃ v, e = .returned (.tuple #[v, .bool (pathB s.data.toList)]) ∧ Below w.heap.size w w' :=
  (rpath_calls s w hT).mono fun e w' ⟨hB, h⟩ => by
    cases hp : pathB s.data.toList with
    | true => rw [hp, if_pos rfl] at h; obtain ⟨_, _, _, _, he, _⟩ := h; exact ⟨_, he, hB⟩
    | false => rw [hp, if_neg (by simp)] at h; exact ⟨_, h, hB⟩
set_option maxHeartbeats 2000000 in
set_option maxRecDepth 100000 in
theorem formfield_calls (f : Fl) (w : World) (hn : f.name.size ≤ 70368744177664) (hT : Lib.Utf8Tabs 1 2 w) :
    Calls Tryd.prog 43 #[.agg #[.bool f.rep, .string f.ty, .string f.name, .int .i64 f.num, .int .i64 f.pos.line, .int .i64 f.pos.col]] w fun e w' => e = .returned (.bool f.formB) ∧ Below w.heap.size w w' := by
  have HT := Lib.hid hT
  clear hT
  cases hp : plainB f.name.data.toList with
  | false =>
    have HP := Lib.hid hp
    clear hp
    go_enter Tryd.func43, Tryd.ntmps43
    go_wp2_with (first
      | (go_at_call 13; refine (rpath_flag f.ty _ (Utf8Tabs_below HT.out (below_alloc (Below.refl _ _) _))).mono ?_; rintro e w1 ⟨v1, rfl, hB1⟩; obtain ⟨f0, f1, f2, f3, f4, f5⟩ := box6 (blk_below (blk_new w _) hB1); have HB1 := Lib.hid (below_then (below_alloc (Below.refl _ _) _) (by simp) hB1); clear hB1)
      | (go_at_call 24; refine (rplain_calls f.name _ (by omega) (Utf8Tabs_below HT.out HB1.out)).mono ?_; rintro e w2 ⟨rfl, hB2⟩; obtain ⟨f0, f1, f2, f3, f4, f5⟩ := cell6 f0 f1 f2 f3 f4 f5 hB2; have HB2 := Lib.hid (below_then HB1.out HB1.out.size hB2); clear hB2; rw [HP.out])
      | (go_at_call 61; refine (rscalar_calls f.ty _).mono ?_; rintro e w3 ⟨rfl, rfl⟩))
    go_ret
    exact ⟨ret_bool (by unfold Fl.formB; rw [HP.out]; rfl), HB2.out⟩
  | true =>
    have HP := Lib.hid hp
    clear hp
    by_cases hn0 : f.num < 0
    · go_enter Tryd.func43, Tryd.ntmps43
      go_wp2_with (first
        | (go_at_call 13; refine (rpath_flag f.ty _ (Utf8Tabs_below HT.out (below_alloc (Below.refl _ _) _))).mono ?_; rintro e w1 ⟨v1, rfl, hB1⟩; obtain ⟨f0, f1, f2, f3, f4, f5⟩ := box6 (blk_below (blk_new w _) hB1); have HB1 := Lib.hid (below_then (below_alloc (Below.refl _ _) _) (by simp) hB1); clear hB1)
        | (go_at_call 24; refine (rplain_calls f.name _ (by omega) (Utf8Tabs_below HT.out HB1.out)).mono ?_; rintro e w2 ⟨rfl, hB2⟩; obtain ⟨f0, f1, f2, f3, f4, f5⟩ := cell6 f0 f1 f2 f3 f4 f5 hB2; have HB2 := Lib.hid (below_then HB1.out HB1.out.size hB2); clear hB2; rw [HP.out])
        | (go_at_call 61; refine (rscalar_calls f.ty _).mono ?_; rintro e w3 ⟨rfl, rfl⟩))
      go_ret
      exact ⟨ret_bool (by unfold Fl.formB numB; rw [HP.out, decide_eq_false (by omega)]; rfl), HB2.out⟩
    by_cases hn1 : 2147483647 < f.num
    · go_enter Tryd.func43, Tryd.ntmps43
      go_wp2_with (first
        | (go_at_call 13; refine (rpath_flag f.ty _ (Utf8Tabs_below HT.out (below_alloc (Below.refl _ _) _))).mono ?_; rintro e w1 ⟨v1, rfl, hB1⟩; obtain ⟨f0, f1, f2, f3, f4, f5⟩ := box6 (blk_below (blk_new w _) hB1); have HB1 := Lib.hid (below_then (below_alloc (Below.refl _ _) _) (by simp) hB1); clear hB1)
        | (go_at_call 24; refine (rplain_calls f.name _ (by omega) (Utf8Tabs_below HT.out HB1.out)).mono ?_; rintro e w2 ⟨rfl, hB2⟩; obtain ⟨f0, f1, f2, f3, f4, f5⟩ := cell6 f0 f1 f2 f3 f4 f5 hB2; have HB2 := Lib.hid (below_then HB1.out HB1.out.size hB2); clear hB2; rw [HP.out])
        | (go_at_call 61; refine (rscalar_calls f.ty _).mono ?_; rintro e w3 ⟨rfl, rfl⟩))
      go_ret
      exact ⟨ret_bool (by unfold Fl.formB numB; rw [HP.out, decide_eq_false (show ¬ f.num ≤ 2147483647 by omega), Bool.and_false]; rfl), HB2.out⟩
    have HN := Lib.hid (show numB f.num = true by unfold numB; rw [decide_eq_true (by omega), decide_eq_true (by omega)]; rfl)
    cases hq : pathB f.ty.data.toList with
    | true =>
      have HQ := Lib.hid hq
      clear hq
      go_enter Tryd.func43, Tryd.ntmps43
      go_wp2_with (first
        | (go_at_call 13; refine (rpath_flag f.ty _ (Utf8Tabs_below HT.out (below_alloc (Below.refl _ _) _))).mono ?_; rintro e w1 ⟨v1, rfl, hB1⟩; rw [HQ.out]; obtain ⟨f0, f1, f2, f3, f4, f5⟩ := box6 (blk_below (blk_new w _) hB1); have HB1 := Lib.hid (below_then (below_alloc (Below.refl _ _) _) (by simp) hB1); clear hB1)
        | (go_at_call 24; refine (rplain_calls f.name _ (by omega) (Utf8Tabs_below HT.out HB1.out)).mono ?_; rintro e w2 ⟨rfl, hB2⟩; obtain ⟨f0, f1, f2, f3, f4, f5⟩ := cell6 f0 f1 f2 f3 f4 f5 hB2; have HB2 := Lib.hid (below_then HB1.out HB1.out.size hB2); clear hB2; rw [HP.out])
        | (go_at_call 61; refine (rscalar_calls f.ty _).mono ?_; rintro e w3 ⟨rfl, rfl⟩))
      go_ret
      exact ⟨ret_bool (by unfold Fl.formB; rw [HP.out, HN.out, HQ.out]; rfl), HB2.out⟩
    | false =>
      have HQ := Lib.hid hq
      clear hq
      go_enter Tryd.func43, Tryd.ntmps43
      go_wp2_with (first
        | (go_at_call 13; refine (rpath_flag f.ty _ (Utf8Tabs_below HT.out (below_alloc (Below.refl _ _) _))).mono ?_; rintro e w1 ⟨v1, rfl, hB1⟩; rw [HQ.out]; obtain ⟨f0, f1, f2, f3, f4, f5⟩ := box6 (blk_below (blk_new w _) hB1); have HB1 := Lib.hid (below_then (below_alloc (Below.refl _ _) _) (by simp) hB1); clear hB1)
        | (go_at_call 24; refine (rplain_calls f.name _ (by omega) (Utf8Tabs_below HT.out HB1.out)).mono ?_; rintro e w2 ⟨rfl, hB2⟩; obtain ⟨f0, f1, f2, f3, f4, f5⟩ := cell6 f0 f1 f2 f3 f4 f5 hB2; have HB2 := Lib.hid (below_then HB1.out HB1.out.size hB2); clear hB2; rw [HP.out])
        | (go_at_call 61; refine (rscalar_calls f.ty _).mono ?_; rintro e w3 ⟨rfl, rfl⟩))
      go_ret
      exact ⟨ret_bool (by unfold Fl.formB; rw [HP.out, HN.out, HQ.out]; simp), HB2.out⟩
end Go.Proofs.YtfcpfbdlkanlpaaDoor
