/- The scanner's rune, by contract. -/
import Derived.Test.YtfcpfbdlkanlpaaDoorLexShut
namespace Go.Proofs.YtfcpfbdlkanlpaaDoor
open Go.RowKit Go.Proofs.YtfcpfbdlkanlpaaDoorW.PrintWords Go.Proofs.YtfcpfbdlkanlpaaDoorW.PrintLast
set_option linter.unusedVariables false
set_option linter.unusedSimpArgs false

theorem enc_ascii (r : Int) (h0 : 0 ≤ r) (h1 : r < 128) : Utf8.encode r = ⟨#[UInt8.ofNat r.toNat]⟩ := by
  have hv : Utf8.valid r = true := by unfold Utf8.valid; simp; omega
  unfold Utf8.encode
  simp only [hv, if_true]
  rw [if_pos (by omega)]
set_option maxHeartbeats 1000000 in
set_option maxRecDepth 100000 in
theorem srune_calls (w0 : World) (b : Nat) (v : Value) (s : Sc) (i : Nat) (r : Int) (w : World) (h : ScAt w0 b v s w) (h0 : -1 ≤ r) (h3 : r ≤ 1114111) :
    Calls Tryd.prog 73 #[.pointer (some ⟨b, 0, none⟩), .int .i64 i, .int .i32 r] w fun e w' => e = .returned (.tuple #[]) ∧ ∃ v', ScAt w0 b v' (s.rune i r) w' ∧ Stp w b v v' w' := by
  obtain ⟨c0, c1, c2, c3, c4, c5, c6, c7, c8, c9, c10, c11, c12, c13, c14⟩ := h.cells
  have f3 := h.free 3
  have f4 := h.free 4
  have f5 := h.free 5
  have f6 := h.free 6
  have f7 := h.free 7
  have f9 := h.free 9
  have f10 := h.free 10
  have f11 := h.free 11
  have H := Aside0.mk h
  clear h
  obtain ⟨s', hs'⟩ : ∃ s', s' = s.rune i r := ⟨_, rfl⟩
  rw [← hs']
  by_cases hb : r = 32 ∨ r = 9 ∨ r = 10
  · have e : s.rune i r = s := by unfold Sc.rune; rw [show blankB r = true from decide_eq_true hb]; rfl
    rw [e] at hs'
    subst hs'
    rcases hb with rfl | rfl | rfl
    all_goals
      go_enter Tryd.func73, Tryd.ntmps73
      go_wp2
      go_end0
      exact ⟨rfl, _, H.out, Stp.refl _ _ _⟩
  · have b1 : (r == 32) = false := beq_eq_false_iff_ne.2 (by omega)
    have b2 : (r == 9) = false := beq_eq_false_iff_ne.2 (by omega)
    have b3 : (r == 10) = false := beq_eq_false_iff_ne.2 (by omega)
    have hbl : blankB r = false := decide_eq_false hb
    clear hb
    cases hl : letterB r with
    | true =>
      have e : s.rune i r = { s with fr := i, ok := 1, ot := ⟨#[]⟩, op := s.pos } := by unfold Sc.rune; simp only [hbl, hl]; rfl
      rw [e] at hs'
      have HS := Lib.hid hs'
      have HL := Lib.hid hl
      clear hs' hl hbl e
      go_enter Tryd.func73, Tryd.ntmps73
      go_wp2_with (go_at_call 85; refine (letter_calls _ _).mono ?_; rintro e w' ⟨rfl, rfl⟩; rw [HL.out])
      go_end0
      rw [HS.out]
      exact ⟨rfl, _, ((((H.out.set 3 _ { s with fr := i } rfl rfl).set 4 _ { s with fr := i, ok := 1 } rfl rfl).set 5 _ { s with fr := i, ok := 1, ot := ⟨#[]⟩ } rfl rfl).set 6 _ { s with fr := i, ok := 1, ot := ⟨#[]⟩, op := ⟨s.pos.line, s.op.col⟩ } rfl rfl).set 7 _ _ rfl rfl, (((((Stp.refl _ _ _).set 3 _).set 4 _).set 5 _).set 6 _).set 7 _⟩
    | false =>
      cases hd : digitB r with
      | true =>
        have e : s.rune i r = { s with fr := i, ok := 2, ot := ⟨#[]⟩, op := s.pos } := by unfold Sc.rune; simp only [hbl, hl, hd]; rfl
        rw [e] at hs'
        have HS := Lib.hid hs'
        have HL := Lib.hid hl
        have HD := Lib.hid hd
        clear hs' hl hd hbl e
        go_enter Tryd.func73, Tryd.ntmps73
        go_wp2_with (first | (go_at_call 85; refine (letter_calls _ _).mono ?_; rintro e w' ⟨rfl, rfl⟩; rw [HL.out]) | (go_at_call 86; refine (digit_calls _ _).mono ?_; rintro e w' ⟨rfl, rfl⟩; rw [HD.out]))
        go_end0
        rw [HS.out]
        exact ⟨rfl, _, ((((H.out.set 3 _ { s with fr := i } rfl rfl).set 4 _ { s with fr := i, ok := 2 } rfl rfl).set 5 _ { s with fr := i, ok := 2, ot := ⟨#[]⟩ } rfl rfl).set 6 _ { s with fr := i, ok := 2, ot := ⟨#[]⟩, op := ⟨s.pos.line, s.op.col⟩ } rfl rfl).set 7 _ _ rfl rfl, (((((Stp.refl _ _ _).set 3 _).set 4 _).set 5 _).set 6 _).set 7 _⟩
      | false =>
        cases hg : signB r with
        | true =>
          have e : s.rune i r = s.add ⟨3, ⟨#[UInt8.ofNat r.toNat]⟩, s.pos⟩ := by unfold Sc.rune; simp only [hbl, hl, hd, hg]; rfl
          rw [e] at hs'
          have hr := of_decide_eq_true hg
          have he := enc_ascii r (by omega) (by omega)
          have HS := Lib.hid hs'
          have HL := Lib.hid hl
          have HD := Lib.hid hd
          have HG := Lib.hid hg
          clear hs' hl hd hbl e hg hr
          go_enter Tryd.func73, Tryd.ntmps73
          go_wp2_with (first
            | (go_at_call 85; refine (letter_calls _ _).mono ?_; rintro e w' ⟨rfl, rfl⟩; rw [HL.out])
            | (go_at_call 86; refine (digit_calls _ _).mono ?_; rintro e w' ⟨rfl, rfl⟩; rw [HD.out])
            | (go_at_call 87; refine (contains_calls r _ h0 h3).mono ?_; rintro e w2 ⟨rfl, hb⟩; rw [HG.out]; have H2 := Aside0.mk (H.out.below hb); have HT2 := Aside0.mk ((Stp.refl w b v).below hb); obtain ⟨_, c1, c2, _⟩ := H2.out.cells; clear hb)
            | (go_at_call 75; refine (sadd_calls w0 b v _ ⟨3, ⟨#[UInt8.ofNat r.toNat]⟩, s.pos⟩ _ H2.out).mono ?_; rintro e w4 ⟨rfl, v', hA, hT⟩; have HA := Aside0.mk hA; have HT4 := Aside0.mk (HT2.out.trans hT); clear hA hT))
          go_end0
          rw [HS.out]
          exact ⟨rfl, v', HA.out, HT4.out⟩
        | false =>
          by_cases h47 : r = 47
          · subst h47
            have e : s.rune i 47 = { s with slash := true, bg := s.pos } := by unfold Sc.rune; simp only [hbl, hl, hd, hg]; rfl
            rw [e] at hs'
            have HS := Lib.hid hs'
            have HL := Lib.hid hl
            have HD := Lib.hid hd
            have HG := Lib.hid hg
            clear hs' hl hd hbl e hg
            go_enter Tryd.func73, Tryd.ntmps73
            go_wp2_with (first
              | (go_at_call 85; refine (letter_calls _ _).mono ?_; rintro e w' ⟨rfl, rfl⟩; rw [HL.out])
              | (go_at_call 86; refine (digit_calls _ _).mono ?_; rintro e w' ⟨rfl, rfl⟩; rw [HD.out])
              | (go_at_call 87; refine (contains_calls 47 _ h0 h3).mono ?_; rintro e w2 ⟨rfl, hb⟩; rw [HG.out]; have H2 := Aside0.mk (H.out.below hb); have HT2 := Aside0.mk ((Stp.refl w b v).below hb); obtain ⟨_, c1, c2, _, _, _, _, _, _, c9, c10, c11, _⟩ := H2.out.cells; have f9 := H2.out.free 9; have f10 := H2.out.free 10; have f11 := H2.out.free 11; clear hb))
            go_end0
            rw [HS.out]
            exact ⟨rfl, _, ((H2.out.set 9 _ { s with slash := true } rfl rfl).set 10 _ { s with slash := true, bg := ⟨s.pos.line, s.bg.col⟩ } rfl rfl).set 11 _ _ rfl rfl, ((HT2.out.set 9 _).set 10 _).set 11 _⟩
          · have b4 : (r == 47) = false := beq_eq_false_iff_ne.2 h47
            have e : s.rune i r = s.fail 6 s.pos := by unfold Sc.rune; simp only [hbl, hl, hd, hg, if_neg h47]; rfl
            rw [e] at hs'
            have HS := Lib.hid hs'
            have HL := Lib.hid hl
            have HD := Lib.hid hd
            have HG := Lib.hid hg
            clear hs' hl hd hbl e hg h47
            go_enter Tryd.func73, Tryd.ntmps73
            go_wp2_with (first
              | (go_at_call 85; refine (letter_calls _ _).mono ?_; rintro e w' ⟨rfl, rfl⟩; rw [HL.out])
              | (go_at_call 86; refine (digit_calls _ _).mono ?_; rintro e w' ⟨rfl, rfl⟩; rw [HD.out])
              | (go_at_call 87; refine (contains_calls r _ h0 h3).mono ?_; rintro e w2 ⟨rfl, hb⟩; rw [HG.out]; have H2 := Aside0.mk (H.out.below hb); have HT2 := Aside0.mk ((Stp.refl w b v).below hb); obtain ⟨_, c1, c2, _⟩ := H2.out.cells; clear hb)
              | (go_at_call 53; refine (sfail_calls w0 b v _ 6 s.pos _ H2.out).mono ?_; rintro e w4 ⟨rfl, hA, hT⟩; have HA := Aside0.mk hA; have HT4 := Aside0.mk (HT2.out.trans hT); clear hA hT))
            go_end0
            rw [HS.out]
            exact ⟨rfl, _, HA.out, HT4.out⟩
end Go.Proofs.YtfcpfbdlkanlpaaDoor
