/- The scanner's next, by contract: a rune is taken. -/
import Derived.Test.YtfcpfbdlkanlpaaDoorLexRune
import Derived.Test.YtfcpfbdlkanlpaaDoorLexInv
namespace Go.Proofs.YtfcpfbdlkanlpaaDoor
open Go.RowKit Go.Proofs.YtfcpfbdlkanlpaaDoorW.PrintWords Go.Proofs.YtfcpfbdlkanlpaaDoorW.PrintLast
set_option linter.unusedVariables false
set_option linter.unusedSimpArgs false

theorem move_nl {s : Sc} {r : Int} (h : r = 10) : s.move r = { s with pos := ⟨s.pos.line + 1, 1⟩ } := by unfold Sc.move; rw [if_pos h]
theorem move_no {s : Sc} {r : Int} (h : ¬ r = 10) : s.move r = { s with pos := ⟨s.pos.line, s.pos.col + 1⟩ } := by unfold Sc.move; rw [if_neg h]
set_option maxHeartbeats 1000000 in
set_option maxRecDepth 100000 in
theorem snext_in (w0 : World) (b : Nat) (v : Value) (s : Sc) (text : ByteArray) (i : Nat) (r : Int) (w : World) (h : ScAt w0 b v s w) (hE : Env w0) (hi : i ≤ text.size) (hz : text.size ≤ 100000) (h0 : -1 ≤ r) (h3 : r ≤ 1114111) (hv : s.inv i) (hn : 0 ≤ s.fr) (hin : insideB r = true) (hr10 : ¬ r = 10) :
    Calls Tryd.prog 51 #[.pointer (some ⟨b, 0, none⟩), .string text, .int .i64 i, .int .i32 r] w fun e w' => e = .returned (.tuple #[]) ∧ ∃ v', ScAt w0 b v' (s.move r) w' ∧ Stp w b v v' w' := by
  have hpl0 := hv.l0
  have hpl1 := hv.l1
  have hpc0 := hv.c0
  have hpc1 := hv.c1
  have hff := hv.fr
  have hmd := Lib.hid hv.md
  obtain ⟨c0, c1, c2, c3, c4, c5, c6, c7, c8, c9, c10, c11, c12, c13, c14⟩ := h.cells
  have f1 := h.free 1
  have f2 := h.free 2
  have f8 := h.free 8
  have f9 := h.free 9
  have H := Aside0.mk h
  have HE := Aside0.mk hE
  clear h hE hv c0 c4 c5 c6 c7 c12 c13 c14
  obtain ⟨hm1, hm2⟩ := hmd.out hn
  rw [hm1] at c8
  rw [hm2] at c9
  have hn1 : decide (0 ≤ s.fr) = true := decide_eq_true hn
  have hn2 : decide (s.fr < 0) = false := decide_eq_false (by omega)
  have hb10 : (r == 10) = false := beq_eq_false_iff_ne.2 hr10
  have HI := Lib.hid hin
  clear hin hm1 hm2
  go_enter Tryd.func51, Tryd.ntmps51
  go_wp2_with ((go_at_call 72; refine (inside_calls _ _).mono ?_; rintro e w' ⟨rfl, rfl⟩; rw [HI.out]))
  go_end0
  exact ⟨rfl, _, by rw [move_no hr10]; exact H.out.set 2 _ { s with pos := ⟨(s).pos.line, (s).pos.col + 1⟩ } rfl rfl, (Stp.refl w b v).set 2 _⟩
set_option maxHeartbeats 1000000 in
set_option maxRecDepth 100000 in
theorem snext_note0 (w0 : World) (b : Nat) (v : Value) (s : Sc) (text : ByteArray) (i : Nat) (r : Int) (w : World) (h : ScAt w0 b v s w) (hE : Env w0) (hi : i ≤ text.size) (hz : text.size ≤ 100000) (h0 : -1 ≤ r) (h3 : r ≤ 1114111) (hv : s.inv i) (hn : s.fr < 0) (hno : s.note = true) (hr10 : ¬ r = 10) :
    Calls Tryd.prog 51 #[.pointer (some ⟨b, 0, none⟩), .string text, .int .i64 i, .int .i32 r] w fun e w' => e = .returned (.tuple #[]) ∧ ∃ v', ScAt w0 b v' (({ s with note := decide (r ≠ 10) } : Sc).move r) w' ∧ Stp w b v v' w' := by
  have hpl0 := hv.l0
  have hpl1 := hv.l1
  have hpc0 := hv.c0
  have hpc1 := hv.c1
  have hff := hv.fr
  have hmd := Lib.hid hv.md
  obtain ⟨c0, c1, c2, c3, c4, c5, c6, c7, c8, c9, c10, c11, c12, c13, c14⟩ := h.cells
  have f1 := h.free 1
  have f2 := h.free 2
  have f8 := h.free 8
  have f9 := h.free 9
  have H := Aside0.mk h
  have HE := Aside0.mk hE
  clear h hE hv c0 c4 c5 c6 c7 c12 c13 c14
  rw [hno] at c8
  have hn1 : decide (0 ≤ s.fr) = false := decide_eq_false (by omega)
  have hb10 : (r == 10) = false := beq_eq_false_iff_ne.2 hr10
  have hb11 : (r != 10) = true := by rw [bne]; rw [hb10]; rfl
  have hdec : decide (r ≠ 10) = true := by simp [hr10]
  clear hno
  rw [hdec]
  have H1 := Aside0.mk (H.out.set 8 (.bool true) { s with note := true } rfl rfl)
  go_enter Tryd.func51, Tryd.ntmps51
  go_wp2_with fail
  go_end0
  exact ⟨rfl, _, by rw [move_no hr10]; exact H1.out.set 2 _ { ({ s with note := true } : Sc) with pos := ⟨(({ s with note := true } : Sc)).pos.line, (({ s with note := true } : Sc)).pos.col + 1⟩ } rfl rfl, ((Stp.refl w b v).set 8 _).set 2 _⟩
set_option maxHeartbeats 1000000 in
set_option maxRecDepth 100000 in
theorem snext_note1 (w0 : World) (b : Nat) (v : Value) (s : Sc) (text : ByteArray) (i : Nat) (r : Int) (w : World) (h : ScAt w0 b v s w) (hE : Env w0) (hi : i ≤ text.size) (hz : text.size ≤ 100000) (h0 : -1 ≤ r) (h3 : r ≤ 1114111) (hv : s.inv i) (hn : s.fr < 0) (hno : s.note = true) (hr10 : r = 10) :
    Calls Tryd.prog 51 #[.pointer (some ⟨b, 0, none⟩), .string text, .int .i64 i, .int .i32 r] w fun e w' => e = .returned (.tuple #[]) ∧ ∃ v', ScAt w0 b v' (({ s with note := decide (r ≠ 10) } : Sc).move r) w' ∧ Stp w b v v' w' := by
  have hpl0 := hv.l0
  have hpl1 := hv.l1
  have hpc0 := hv.c0
  have hpc1 := hv.c1
  have hff := hv.fr
  have hmd := Lib.hid hv.md
  obtain ⟨c0, c1, c2, c3, c4, c5, c6, c7, c8, c9, c10, c11, c12, c13, c14⟩ := h.cells
  have f1 := h.free 1
  have f2 := h.free 2
  have f8 := h.free 8
  have f9 := h.free 9
  have H := Aside0.mk h
  have HE := Aside0.mk hE
  clear h hE hv c0 c4 c5 c6 c7 c12 c13 c14
  rw [hno] at c8
  have hn1 : decide (0 ≤ s.fr) = false := decide_eq_false (by omega)
  have hb10 : (r == 10) = true := beq_iff_eq.2 hr10
  have hb11 : (r != 10) = false := by rw [bne]; rw [hb10]; rfl
  have hdec : decide (r ≠ 10) = false := by simp [hr10]
  clear hno
  rw [hdec]
  have H1 := Aside0.mk (H.out.set 8 (.bool false) { s with note := false } rfl rfl)
  have H10 := Lib.hid hr10
  clear hr10
  go_enter Tryd.func51, Tryd.ntmps51
  go_wp2_with fail
  go_end0
  exact ⟨rfl, _, by rw [move_nl H10.out]; exact ((H1.out.set 2 _ { ({ s with note := false } : Sc) with pos := ⟨(({ s with note := false } : Sc)).pos.line, (({ s with note := false } : Sc)).pos.col + 1⟩ } rfl rfl).set 1 _ { ({ s with note := false } : Sc) with pos := ⟨(({ s with note := false } : Sc)).pos.line + 1, (({ s with note := false } : Sc)).pos.col + 1⟩ } rfl rfl).set 2 _ { ({ s with note := false } : Sc) with pos := ⟨(({ s with note := false } : Sc)).pos.line + 1, 1⟩ } rfl rfl, ((((Stp.refl w b v).set 8 _).set 2 _).set 1 _).set 2 _⟩
set_option maxHeartbeats 1000000 in
set_option maxRecDepth 100000 in
theorem snext_two (w0 : World) (b : Nat) (v : Value) (s : Sc) (text : ByteArray) (i : Nat) (r : Int) (w : World) (h : ScAt w0 b v s w) (hE : Env w0) (hi : i ≤ text.size) (hz : text.size ≤ 100000) (h0 : -1 ≤ r) (h3 : r ≤ 1114111) (hv : s.inv i) (hn : s.fr < 0) (hno : s.note = false) (hsl : s.slash = true) (h47 : r = 47) (hr10 : ¬ r = 10) :
    Calls Tryd.prog 51 #[.pointer (some ⟨b, 0, none⟩), .string text, .int .i64 i, .int .i32 r] w fun e w' => e = .returned (.tuple #[]) ∧ ∃ v', ScAt w0 b v' (({ s with note := true, slash := false } : Sc).move r) w' ∧ Stp w b v v' w' := by
  have hpl0 := hv.l0
  have hpl1 := hv.l1
  have hpc0 := hv.c0
  have hpc1 := hv.c1
  have hff := hv.fr
  have hmd := Lib.hid hv.md
  obtain ⟨c0, c1, c2, c3, c4, c5, c6, c7, c8, c9, c10, c11, c12, c13, c14⟩ := h.cells
  have f1 := h.free 1
  have f2 := h.free 2
  have f8 := h.free 8
  have f9 := h.free 9
  have H := Aside0.mk h
  have HE := Aside0.mk hE
  clear h hE hv c0 c4 c5 c6 c7 c12 c13 c14
  rw [hno] at c8
  rw [hsl] at c9
  have hn1 : decide (0 ≤ s.fr) = false := decide_eq_false (by omega)
  have hb10 : (r == 10) = false := beq_eq_false_iff_ne.2 hr10
  have hb47 : (r == 47) = true := beq_iff_eq.2 h47
  clear hno hsl h47
  have H1 := Aside0.mk ((H.out.set 8 (.bool true) { s with note := true } rfl rfl).set 9 (.bool false) { s with note := true, slash := false } rfl rfl)
  go_enter Tryd.func51, Tryd.ntmps51
  go_wp2_with fail
  go_end0
  exact ⟨rfl, _, by rw [move_no hr10]; exact H1.out.set 2 _ { ({ s with note := true, slash := false } : Sc) with pos := ⟨(({ s with note := true, slash := false } : Sc)).pos.line, (({ s with note := true, slash := false } : Sc)).pos.col + 1⟩ } rfl rfl, (((Stp.refl w b v).set 8 _).set 9 _).set 2 _⟩
set_option maxHeartbeats 1000000 in
set_option maxRecDepth 100000 in
theorem snext_one0 (w0 : World) (b : Nat) (v : Value) (s : Sc) (text : ByteArray) (i : Nat) (r : Int) (w : World) (h : ScAt w0 b v s w) (hE : Env w0) (hi : i ≤ text.size) (hz : text.size ≤ 100000) (h0 : -1 ≤ r) (h3 : r ≤ 1114111) (hv : s.inv i) (hn : s.fr < 0) (hno : s.note = false) (hsl : s.slash = true) (h47 : ¬ r = 47) (hr10 : ¬ r = 10) :
    Calls Tryd.prog 51 #[.pointer (some ⟨b, 0, none⟩), .string text, .int .i64 i, .int .i32 r] w fun e w' => e = .returned (.tuple #[]) ∧ ∃ v', ScAt w0 b v' ((s.fail 6 s.bg).move r) w' ∧ Stp w b v v' w' := by
  have hpl0 := hv.l0
  have hpl1 := hv.l1
  have hpc0 := hv.c0
  have hpc1 := hv.c1
  have hff := hv.fr
  have hmd := Lib.hid hv.md
  obtain ⟨c0, c1, c2, c3, c4, c5, c6, c7, c8, c9, c10, c11, c12, c13, c14⟩ := h.cells
  have f1 := h.free 1
  have f2 := h.free 2
  have f8 := h.free 8
  have f9 := h.free 9
  have H := Aside0.mk h
  have HE := Aside0.mk hE
  clear h hE hv c0 c4 c5 c6 c7 c12 c13 c14
  rw [hno] at c8
  rw [hsl] at c9
  have hn1 : decide (0 ≤ s.fr) = false := decide_eq_false (by omega)
  have hb10 : (r == 10) = false := beq_eq_false_iff_ne.2 hr10
  have hb47 : (r == 47) = false := beq_eq_false_iff_ne.2 h47
  clear hno hsl h47
  obtain ⟨s', hs'⟩ : ∃ s', s' = s.fail 6 s.bg := ⟨_, rfl⟩
  have hp := (Sc.fail_form s 6 s.bg).1
  rw [← hs'] at hp ⊢
  have HS := Lib.hid hs'
  have HP := Lib.hid hp
  clear hs' hp
  go_enter Tryd.func51, Tryd.ntmps51
  go_wp2_with (go_at_call 53; refine (sfail_calls w0 b v s 6 s.bg _ H.out).mono ?_; rintro e w2 ⟨rfl, hA, hT⟩; rw [← HS.out] at hA; have HA := Aside0.mk hA; have HT := Aside0.mk hT; obtain ⟨_, c1, c2, _⟩ := HA.out.cells; rw [HP.out] at c1 c2; have f1 := HA.out.free 1; have f2 := HA.out.free 2; clear hA hT)
  rw [← HP.out]
  go_end0
  exact ⟨rfl, _, by rw [move_no hr10]; exact HA.out.set 2 _ { s' with pos := ⟨(s').pos.line, (s').pos.col + 1⟩ } rfl rfl, HT.out.set 2 _⟩
set_option maxHeartbeats 1000000 in
set_option maxRecDepth 100000 in
theorem snext_one1 (w0 : World) (b : Nat) (v : Value) (s : Sc) (text : ByteArray) (i : Nat) (r : Int) (w : World) (h : ScAt w0 b v s w) (hE : Env w0) (hi : i ≤ text.size) (hz : text.size ≤ 100000) (h0 : -1 ≤ r) (h3 : r ≤ 1114111) (hv : s.inv i) (hn : s.fr < 0) (hno : s.note = false) (hsl : s.slash = true) (h47 : ¬ r = 47) (hr10 : r = 10) :
    Calls Tryd.prog 51 #[.pointer (some ⟨b, 0, none⟩), .string text, .int .i64 i, .int .i32 r] w fun e w' => e = .returned (.tuple #[]) ∧ ∃ v', ScAt w0 b v' ((s.fail 6 s.bg).move r) w' ∧ Stp w b v v' w' := by
  have hpl0 := hv.l0
  have hpl1 := hv.l1
  have hpc0 := hv.c0
  have hpc1 := hv.c1
  have hff := hv.fr
  have hmd := Lib.hid hv.md
  obtain ⟨c0, c1, c2, c3, c4, c5, c6, c7, c8, c9, c10, c11, c12, c13, c14⟩ := h.cells
  have f1 := h.free 1
  have f2 := h.free 2
  have f8 := h.free 8
  have f9 := h.free 9
  have H := Aside0.mk h
  have HE := Aside0.mk hE
  clear h hE hv c0 c4 c5 c6 c7 c12 c13 c14
  rw [hno] at c8
  rw [hsl] at c9
  have hn1 : decide (0 ≤ s.fr) = false := decide_eq_false (by omega)
  have hb10 : (r == 10) = true := beq_iff_eq.2 hr10
  have hb47 : (r == 47) = false := beq_eq_false_iff_ne.2 h47
  clear hno hsl h47
  obtain ⟨s', hs'⟩ : ∃ s', s' = s.fail 6 s.bg := ⟨_, rfl⟩
  have hp := (Sc.fail_form s 6 s.bg).1
  rw [← hs'] at hp ⊢
  have HS := Lib.hid hs'
  have HP := Lib.hid hp
  clear hs' hp
  have H10 := Lib.hid hr10
  clear hr10
  go_enter Tryd.func51, Tryd.ntmps51
  go_wp2_with (go_at_call 53; refine (sfail_calls w0 b v s 6 s.bg _ H.out).mono ?_; rintro e w2 ⟨rfl, hA, hT⟩; rw [← HS.out] at hA; have HA := Aside0.mk hA; have HT := Aside0.mk hT; obtain ⟨_, c1, c2, _⟩ := HA.out.cells; rw [HP.out] at c1 c2; have f1 := HA.out.free 1; have f2 := HA.out.free 2; clear hA hT)
  rw [← HP.out]
  go_end0
  exact ⟨rfl, _, by rw [move_nl H10.out]; exact ((HA.out.set 2 _ { s' with pos := ⟨(s').pos.line, (s').pos.col + 1⟩ } rfl rfl).set 1 _ { s' with pos := ⟨(s').pos.line + 1, (s').pos.col + 1⟩ } rfl rfl).set 2 _ { s' with pos := ⟨(s').pos.line + 1, 1⟩ } rfl rfl, ((HT.out.set 2 _).set 1 _).set 2 _⟩
set_option maxHeartbeats 1000000 in
set_option maxRecDepth 100000 in
theorem snext_rune0 (w0 : World) (b : Nat) (v : Value) (s : Sc) (text : ByteArray) (i : Nat) (r : Int) (w : World) (h : ScAt w0 b v s w) (hE : Env w0) (hi : i ≤ text.size) (hz : text.size ≤ 100000) (h0 : -1 ≤ r) (h3 : r ≤ 1114111) (hv : s.inv i) (hn : s.fr < 0) (hno : s.note = false) (hsl : s.slash = false) (hr10 : ¬ r = 10) :
    Calls Tryd.prog 51 #[.pointer (some ⟨b, 0, none⟩), .string text, .int .i64 i, .int .i32 r] w fun e w' => e = .returned (.tuple #[]) ∧ ∃ v', ScAt w0 b v' ((s.rune i r).move r) w' ∧ Stp w b v v' w' := by
  have hpl0 := hv.l0
  have hpl1 := hv.l1
  have hpc0 := hv.c0
  have hpc1 := hv.c1
  have hff := hv.fr
  have hmd := Lib.hid hv.md
  obtain ⟨c0, c1, c2, c3, c4, c5, c6, c7, c8, c9, c10, c11, c12, c13, c14⟩ := h.cells
  have f1 := h.free 1
  have f2 := h.free 2
  have f8 := h.free 8
  have f9 := h.free 9
  have H := Aside0.mk h
  have HE := Aside0.mk hE
  clear h hE hv c0 c4 c5 c6 c7 c12 c13 c14
  rw [hno] at c8
  rw [hsl] at c9
  have hn1 : decide (0 ≤ s.fr) = false := decide_eq_false (by omega)
  have hn2 : decide (s.fr < 0) = true := decide_eq_true hn
  have hb10 : (r == 10) = false := beq_eq_false_iff_ne.2 hr10
  obtain ⟨s', hs'⟩ : ∃ s', s' = s.rune i r := ⟨_, rfl⟩
  have hp := (Sc.rune_form s i r hsl hn).1
  rw [← hs'] at hp ⊢
  have HS := Lib.hid hs'
  have HP := Lib.hid hp
  clear hs' hp hno hsl
  go_enter Tryd.func51, Tryd.ntmps51
  go_wp2_with (go_at_call 73; refine (srune_calls w0 b v s i r _ H.out h0 h3).mono ?_; rintro e w2 ⟨rfl, v2, hA, hT⟩; rw [← HS.out] at hA; have HA := Aside0.mk hA; have HT := Aside0.mk hT; obtain ⟨_, c1, c2, _⟩ := HA.out.cells; rw [HP.out] at c1 c2; have f1 := HA.out.free 1; have f2 := HA.out.free 2; clear hA hT)
  rw [← HP.out]
  go_end0
  exact ⟨rfl, _, by rw [move_no hr10]; exact HA.out.set 2 _ { s' with pos := ⟨(s').pos.line, (s').pos.col + 1⟩ } rfl rfl, HT.out.set 2 _⟩
set_option maxHeartbeats 1000000 in
set_option maxRecDepth 100000 in
theorem snext_rune1 (w0 : World) (b : Nat) (v : Value) (s : Sc) (text : ByteArray) (i : Nat) (r : Int) (w : World) (h : ScAt w0 b v s w) (hE : Env w0) (hi : i ≤ text.size) (hz : text.size ≤ 100000) (h0 : -1 ≤ r) (h3 : r ≤ 1114111) (hv : s.inv i) (hn : s.fr < 0) (hno : s.note = false) (hsl : s.slash = false) (hr10 : r = 10) :
    Calls Tryd.prog 51 #[.pointer (some ⟨b, 0, none⟩), .string text, .int .i64 i, .int .i32 r] w fun e w' => e = .returned (.tuple #[]) ∧ ∃ v', ScAt w0 b v' ((s.rune i r).move r) w' ∧ Stp w b v v' w' := by
  have hpl0 := hv.l0
  have hpl1 := hv.l1
  have hpc0 := hv.c0
  have hpc1 := hv.c1
  have hff := hv.fr
  have hmd := Lib.hid hv.md
  obtain ⟨c0, c1, c2, c3, c4, c5, c6, c7, c8, c9, c10, c11, c12, c13, c14⟩ := h.cells
  have f1 := h.free 1
  have f2 := h.free 2
  have f8 := h.free 8
  have f9 := h.free 9
  have H := Aside0.mk h
  have HE := Aside0.mk hE
  clear h hE hv c0 c4 c5 c6 c7 c12 c13 c14
  rw [hno] at c8
  rw [hsl] at c9
  have hn1 : decide (0 ≤ s.fr) = false := decide_eq_false (by omega)
  have hn2 : decide (s.fr < 0) = true := decide_eq_true hn
  have hb10 : (r == 10) = true := beq_iff_eq.2 hr10
  obtain ⟨s', hs'⟩ : ∃ s', s' = s.rune i r := ⟨_, rfl⟩
  have hp := (Sc.rune_form s i r hsl hn).1
  rw [← hs'] at hp ⊢
  have HS := Lib.hid hs'
  have HP := Lib.hid hp
  clear hs' hp hno hsl
  have H10 := Lib.hid hr10
  clear hr10
  go_enter Tryd.func51, Tryd.ntmps51
  go_wp2_with (go_at_call 73; refine (srune_calls w0 b v s i r _ H.out h0 h3).mono ?_; rintro e w2 ⟨rfl, v2, hA, hT⟩; rw [← HS.out] at hA; have HA := Aside0.mk hA; have HT := Aside0.mk hT; obtain ⟨_, c1, c2, _⟩ := HA.out.cells; rw [HP.out] at c1 c2; have f1 := HA.out.free 1; have f2 := HA.out.free 2; clear hA hT)
  rw [← HP.out]
  go_end0
  exact ⟨rfl, _, by rw [move_nl H10.out]; exact ((HA.out.set 2 _ { s' with pos := ⟨(s').pos.line, (s').pos.col + 1⟩ } rfl rfl).set 1 _ { s' with pos := ⟨(s').pos.line + 1, (s').pos.col + 1⟩ } rfl rfl).set 2 _ { s' with pos := ⟨(s').pos.line + 1, 1⟩ } rfl rfl, ((HT.out.set 2 _).set 1 _).set 2 _⟩
set_option maxHeartbeats 1000000 in
set_option maxRecDepth 100000 in
theorem snext_end0 (w0 : World) (b : Nat) (v : Value) (s : Sc) (text : ByteArray) (i : Nat) (r : Int) (w : World) (h : ScAt w0 b v s w) (hE : Env w0) (hi : i ≤ text.size) (hz : text.size ≤ 100000) (h0 : -1 ≤ r) (h3 : r ≤ 1114111) (hv : s.inv i) (hn : 0 ≤ s.fr) (hin : insideB r = false) (hr10 : ¬ r = 10) :
    Calls Tryd.prog 51 #[.pointer (some ⟨b, 0, none⟩), .string text, .int .i64 i, .int .i32 r] w fun e w' => e = .returned (.tuple #[]) ∧ ∃ v', ScAt w0 b v' (((s.shut text i).rune i r).move r) w' ∧ Stp w b v v' w' := by
  have hpl0 := hv.l0
  have hpl1 := hv.l1
  have hpc0 := hv.c0
  have hpc1 := hv.c1
  have hff := hv.fr
  have hmd := Lib.hid hv.md
  obtain ⟨c0, c1, c2, c3, c4, c5, c6, c7, c8, c9, c10, c11, c12, c13, c14⟩ := h.cells
  have f1 := h.free 1
  have f2 := h.free 2
  have f8 := h.free 8
  have f9 := h.free 9
  have H := Aside0.mk h
  have HE := Aside0.mk hE
  clear h hE hv c0 c4 c5 c6 c7 c12 c13 c14
  obtain ⟨hm1, hm2⟩ := hmd.out hn
  have hn1 : decide (0 ≤ s.fr) = true := decide_eq_true hn
  have hb10 : (r == 10) = false := beq_eq_false_iff_ne.2 hr10
  have HI := Lib.hid hin
  obtain ⟨s1, hs1⟩ : ∃ s1, s1 = s.shut text i := ⟨_, rfl⟩
  obtain ⟨g1, g2, g3, g4⟩ := Sc.shut_form s text i
  rw [← hs1] at g1 g2 g3 g4 ⊢
  obtain ⟨s', hs'⟩ : ∃ s', s' = s1.rune i r := ⟨_, rfl⟩
  have hp := (Sc.rune_form s1 i r (g3.trans hm2) g4).1
  rw [← hs'] at hp ⊢
  have hn2 : decide (s1.fr < 0) = true := decide_eq_true g4
  have HS := Lib.hid hs'
  have HS1 := Lib.hid hs1
  have HP := Lib.hid (hp.trans g1)
  have HG2 := Lib.hid (g2.trans hm1)
  have HG3 := Lib.hid (g3.trans hm2)
  clear hs' hs1 hp hin hm1 hm2 g1 g2 g3 g4
  go_enter Tryd.func51, Tryd.ntmps51
  go_wp2_with (first
    | (go_at_call 72; refine (inside_calls _ _).mono ?_; rintro e w' ⟨rfl, rfl⟩; rw [HI.out])
    | (go_at_call 52; refine (sshut_calls w0 b v s text i _ H.out HE.out hi hz hff).mono ?_; rintro e w1 ⟨rfl, v1, hA, hT⟩; rw [← HS1.out] at hA; have HA1 := Aside0.mk hA; have HT1 := Aside0.mk hT; obtain ⟨_, _, _, c3, _, _, _, _, c8, c9, _⟩ := HA1.out.cells; rw [HG2.out] at c8; rw [HG3.out] at c9; clear hA hT)
    | (go_at_call 73; refine (srune_calls w0 b v1 s1 i r _ HA1.out h0 h3).mono ?_; rintro e w2 ⟨rfl, v2, hA, hT⟩; rw [← HS.out] at hA; have HA := Aside0.mk hA; have HT := Aside0.mk (HT1.out.trans hT); obtain ⟨_, c1, c2, _⟩ := HA.out.cells; rw [HP.out] at c1 c2; have f1 := HA.out.free 1; have f2 := HA.out.free 2; clear hA hT))
  rw [← HP.out]
  go_end0
  exact ⟨rfl, _, by rw [move_no hr10]; exact HA.out.set 2 _ { s' with pos := ⟨(s').pos.line, (s').pos.col + 1⟩ } rfl rfl, HT.out.set 2 _⟩
set_option maxHeartbeats 1000000 in
set_option maxRecDepth 100000 in
theorem snext_end1 (w0 : World) (b : Nat) (v : Value) (s : Sc) (text : ByteArray) (i : Nat) (r : Int) (w : World) (h : ScAt w0 b v s w) (hE : Env w0) (hi : i ≤ text.size) (hz : text.size ≤ 100000) (h0 : -1 ≤ r) (h3 : r ≤ 1114111) (hv : s.inv i) (hn : 0 ≤ s.fr) (hin : insideB r = false) (hr10 : r = 10) :
    Calls Tryd.prog 51 #[.pointer (some ⟨b, 0, none⟩), .string text, .int .i64 i, .int .i32 r] w fun e w' => e = .returned (.tuple #[]) ∧ ∃ v', ScAt w0 b v' (((s.shut text i).rune i r).move r) w' ∧ Stp w b v v' w' := by
  have hpl0 := hv.l0
  have hpl1 := hv.l1
  have hpc0 := hv.c0
  have hpc1 := hv.c1
  have hff := hv.fr
  have hmd := Lib.hid hv.md
  obtain ⟨c0, c1, c2, c3, c4, c5, c6, c7, c8, c9, c10, c11, c12, c13, c14⟩ := h.cells
  have f1 := h.free 1
  have f2 := h.free 2
  have f8 := h.free 8
  have f9 := h.free 9
  have H := Aside0.mk h
  have HE := Aside0.mk hE
  clear h hE hv c0 c4 c5 c6 c7 c12 c13 c14
  obtain ⟨hm1, hm2⟩ := hmd.out hn
  have hn1 : decide (0 ≤ s.fr) = true := decide_eq_true hn
  have hb10 : (r == 10) = true := beq_iff_eq.2 hr10
  have HI := Lib.hid hin
  obtain ⟨s1, hs1⟩ : ∃ s1, s1 = s.shut text i := ⟨_, rfl⟩
  obtain ⟨g1, g2, g3, g4⟩ := Sc.shut_form s text i
  rw [← hs1] at g1 g2 g3 g4 ⊢
  obtain ⟨s', hs'⟩ : ∃ s', s' = s1.rune i r := ⟨_, rfl⟩
  have hp := (Sc.rune_form s1 i r (g3.trans hm2) g4).1
  rw [← hs'] at hp ⊢
  have hn2 : decide (s1.fr < 0) = true := decide_eq_true g4
  have HS := Lib.hid hs'
  have HS1 := Lib.hid hs1
  have HP := Lib.hid (hp.trans g1)
  have HG2 := Lib.hid (g2.trans hm1)
  have HG3 := Lib.hid (g3.trans hm2)
  clear hs' hs1 hp hin hm1 hm2 g1 g2 g3 g4
  have H10 := Lib.hid hr10
  clear hr10
  go_enter Tryd.func51, Tryd.ntmps51
  go_wp2_with (first
    | (go_at_call 72; refine (inside_calls _ _).mono ?_; rintro e w' ⟨rfl, rfl⟩; rw [HI.out])
    | (go_at_call 52; refine (sshut_calls w0 b v s text i _ H.out HE.out hi hz hff).mono ?_; rintro e w1 ⟨rfl, v1, hA, hT⟩; rw [← HS1.out] at hA; have HA1 := Aside0.mk hA; have HT1 := Aside0.mk hT; obtain ⟨_, _, _, c3, _, _, _, _, c8, c9, _⟩ := HA1.out.cells; rw [HG2.out] at c8; rw [HG3.out] at c9; clear hA hT)
    | (go_at_call 73; refine (srune_calls w0 b v1 s1 i r _ HA1.out h0 h3).mono ?_; rintro e w2 ⟨rfl, v2, hA, hT⟩; rw [← HS.out] at hA; have HA := Aside0.mk hA; have HT := Aside0.mk (HT1.out.trans hT); obtain ⟨_, c1, c2, _⟩ := HA.out.cells; rw [HP.out] at c1 c2; have f1 := HA.out.free 1; have f2 := HA.out.free 2; clear hA hT))
  rw [← HP.out]
  go_end0
  exact ⟨rfl, _, by rw [move_nl H10.out]; exact ((HA.out.set 2 _ { s' with pos := ⟨(s').pos.line, (s').pos.col + 1⟩ } rfl rfl).set 1 _ { s' with pos := ⟨(s').pos.line + 1, (s').pos.col + 1⟩ } rfl rfl).set 2 _ { s' with pos := ⟨(s').pos.line + 1, 1⟩ } rfl rfl, ((HT.out.set 2 _).set 1 _).set 2 _⟩
theorem snext_calls (w0 : World) (b : Nat) (v : Value) (s : Sc) (text : ByteArray) (i : Nat) (r : Int) (w : World) (h : ScAt w0 b v s w) (hE : Env w0) (hi : i ≤ text.size) (hz : text.size ≤ 100000) (h0 : -1 ≤ r) (h3 : r ≤ 1114111) (hv : s.inv i) :
    Calls Tryd.prog 51 #[.pointer (some ⟨b, 0, none⟩), .string text, .int .i64 i, .int .i32 r] w fun e w' => e = .returned (.tuple #[]) ∧ ∃ v', ScAt w0 b v' (s.next text i r) w' ∧ Stp w b v v' w' := by
  rw [Sc.next_eq]
  unfold Sc.pre
  by_cases hn : 0 ≤ s.fr
  · obtain ⟨hm1, hm2⟩ := hv.md hn
    cases hin : insideB r with
    | true =>
      have h10 : ¬ r = 10 := fun e => by subst e; revert hin; decide
      have e : (if 0 ≤ s.fr ∧ true = false then s.shut text i else s).mode i r = s := by rw [if_neg (fun h => by cases h.2)]; unfold Sc.mode; rw [hm1, hm2]; simp only [Bool.false_eq_true, if_false]; rw [if_neg (by omega)]
      rw [e]
      exact snext_in w0 b v s text i r w h hE hi hz h0 h3 hv hn hin h10
    | false =>
      obtain ⟨g1, g2, g3, g4⟩ := Sc.shut_form s text i
      have e : (if 0 ≤ s.fr ∧ false = false then s.shut text i else s).mode i r = (s.shut text i).rune i r := by rw [if_pos ⟨hn, rfl⟩]; unfold Sc.mode; rw [g2, g3, hm1, hm2]; simp only [Bool.false_eq_true, if_false]; rw [if_pos g4]
      rw [e]
      by_cases h10 : r = 10
      · exact snext_end1 w0 b v s text i r w h hE hi hz h0 h3 hv hn hin h10
      · exact snext_end0 w0 b v s text i r w h hE hi hz h0 h3 hv hn hin h10
  · rw [if_neg (fun h => hn h.1)]
    have hn' : s.fr < 0 := by omega
    unfold Sc.mode
    cases hno : s.note with
    | true =>
      rw [if_pos rfl]
      by_cases h10 : r = 10
      · exact snext_note1 w0 b v s text i r w h hE hi hz h0 h3 hv hn' hno h10
      · exact snext_note0 w0 b v s text i r w h hE hi hz h0 h3 hv hn' hno h10
    | false =>
      rw [if_neg (by decide)]
      cases hsl : s.slash with
      | true =>
        rw [if_pos rfl]
        by_cases h47 : r = 47
        · rw [if_pos h47]; exact snext_two w0 b v s text i r w h hE hi hz h0 h3 hv hn' hno hsl h47 (by omega)
        · rw [if_neg h47]
          by_cases h10 : r = 10
          · exact snext_one1 w0 b v s text i r w h hE hi hz h0 h3 hv hn' hno hsl h47 h10
          · exact snext_one0 w0 b v s text i r w h hE hi hz h0 h3 hv hn' hno hsl h47 h10
      | false =>
        rw [if_neg (by decide), if_pos hn']
        by_cases h10 : r = 10
        · exact snext_rune1 w0 b v s text i r w h hE hi hz h0 h3 hv hn' hno hsl h10
        · exact snext_rune0 w0 b v s text i r w h hE hi hz h0 h3 hv hn' hno hsl h10
end Go.Proofs.YtfcpfbdlkanlpaaDoor
