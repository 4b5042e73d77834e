/- The parser's field, by contract. PRINTED by wip/tools/gen_field.py. -/
import Derived.Test.YtfcpfbdlkanlpaaDoorParFd
namespace Go.Proofs.YtfcpfbdlkanlpaaDoor
open Go.RowKit Go.Proofs.YtfcpfbdlkanlpaaDoorW.PrintWords Go.Proofs.YtfcpfbdlkanlpaaDoorW.PrintLast
set_option linter.unusedVariables false
set_option linter.unusedSimpArgs false

theorem put6 {w : World} {g : Nat} {t : TypeId} {a0 a1 a2 a3 a4 a5 : Value} (b0 b1 b2 b3 b4 b5 : Value) (h : w.heap[g]? = some (.cells #[a0, a1, a2, a3, a4, a5] t (0, 0))) :
    ((((((w.setCell ⟨g, 0, none⟩ b0).setCell ⟨g, 1, none⟩ b1).setCell ⟨g, 2, none⟩ b2).setCell ⟨g, 3, none⟩ b3).setCell ⟨g, 4, none⟩ b4).setCell ⟨g, 5, none⟩ b5).heap[g]? = some (.cells #[b0, b1, b2, b3, b4, b5] t (0, 0)) :=
  (show ((((((#[a0, a1, a2, a3, a4, a5].setIfInBounds 0 b0).setIfInBounds 1 b1).setIfInBounds 2 b2).setIfInBounds 3 b3).setIfInBounds 4 b4).setIfInBounds 5 b5) = #[b0, b1, b2, b3, b4, b5] by simp) ▸ (blk_set (blk_set (blk_set (blk_set (blk_set (blk_set h 0 b0) 1 b1) 2 b2) 3 b3) 4 b4) 5 b5)
theorem scal_contains (A : Option Addr) (c : Nat) (x : ByteArray) (w : World) (hC : Kd.string.C w A 9 scalarsL) :
    Calls Tryd.prog 77 #[.slice A 9 c, .string x] w fun e w' => e = .returned (.bool (decide (idxIn x.data.toList (bytesL scalarsL) < 9))) ∧ w = w' := scontains_calls scalarsL A c x w hC (by decide)
theorem size_set (w : World) (a : Addr) (u : Value) : (w.setCell a u).heap.size = w.heap.size := by simp [World.setCell]
def fieldRest (en : Pos) (rep : Bool) (ty : ByteArray) (ws1 : List Wd) : Rs Fl :=
  (nameP en ws1).bind fun x ws2 => (wantP en kEq ws2).bind fun _ ws3 => (numberP en ws3).bind fun k ws4 => (wantP en kSemi ws4).bind fun _ ws5 => .ok ⟨rep, ty, x.1, k, x.2⟩ ws5
set_option maxHeartbeats 4000000 in
set_option maxRecDepth 20000 in
theorem field_t1 {base b : Nat} {en : Pos} {ws : List Wd} (w : World) (h : Got base b en ws w w) (rep : Bool) (hrep : rep = haveB en wRepeated ws) (ws0 : List Wd) (hw0 : ws0 = if haveB en wRepeated ws then ws.tail else ws) (x : Wd) (hx : x = peekW en ws0) (hx1 : x.text.toList.isEmpty = true) (ans : Rs Fl) (hans : ans = (pathP en ws0).bind fun ty ws1 => fieldRest en rep ty ws1) :
    Calls Tryd.prog 58 #[.pointer (some ⟨b, 0, none⟩)] w fun e w' => Post base b en w fieldV ans e w' := by
  have H := Aside0.mk ((h.alloc (.cells #[.bool false, .string ⟨#[]⟩, .string ⟨#[]⟩, .int .i64 0, .int .i64 0, .int .i64 0] 67)).here)
  have HF0 := Aside0.mk (show Fs base b en w fl0 ws (w.alloc (.cells #[.bool false, .string ⟨#[]⟩, .string ⟨#[]⟩, .int .i64 0, .int .i64 0, .int .i64 0] 67)) from ⟨h.alloc _, blk_new w _, h.blt⟩)
  have HREP := Lib.hid hrep
  have HW0 := Lib.hid hw0
  have HX := Lib.hid hx
  have hf1 := fld1
  have tokE : True := trivial
  have tokS : True := trivial
  clear h hrep hw0 hx
  cases hp : pathP en ws0 with
  | bad er p =>
    rw [hp] at hans
    have HA := Aside0.mk hans
    have HP := Lib.hid hp
    clear hans hp
    go_enter Tryd.func58, Tryd.ntmps58
    go_wp2_with (first | (go_at_call 29; refine (have_got ⟨#[114, 101, 112, 101, 97, 116, 101, 100]⟩ wRepeated rfl H.out).mono ?_; rintro e w1 ⟨rfl, hg⟩; rw [← HW0.out] at hg; rw [← HREP.out]; have HF1 := Aside0.mk (HF0.out.got_ hg); obtain ⟨c0, c1, c2, c3, c4, c5⟩ := HF1.out.cells; obtain ⟨f0, f1, f2, f3, f4, f5⟩ := HF1.out.free; have hl1 := blk_lt HF1.out.blk; have HG1 := Aside0.mk (HF1.out.set 0 (.bool rep) { fl0 with rep := rep } rfl); clear hg) | (go_at_call 28; refine (peek_got HG1.out.got.here).mono ?_; rintro e w2 ⟨rfl, hb⟩; rw [← HX.out]; have HF2 := Aside0.mk ((HG1.out.below hb).alloc (.cells #[.int .i64 x.kind, .string x.text, .int .i64 x.pos.line, .int .i64 x.pos.col] 86)); have bk2 := Aside0.mk (blk_new w2 (.cells #[.int .i64 x.kind, .string x.text, .int .i64 x.pos.line, .int .i64 x.pos.col] 86)); have p1 : (w2.alloc (.cells #[.int .i64 x.kind, .string x.text, .int .i64 x.pos.line, .int .i64 x.pos.col] 86)).cell? ⟨w2.heap.size, 1, none⟩ = some (.string x.text) := blk_cell bk2.out 1; have P1 := Aside0.mk (show (w2.alloc (.cells #[.int .i64 x.kind, .string x.text, .int .i64 x.pos.line, .int .i64 x.pos.col] 86)).drew.cell? ⟨w2.heap.size, 1, none⟩ = some (.string x.text) from p1); clear hb))
    go_quiet (fail)
    have HF3 := Aside0.mk (HF2.out.below (pw_below_drewN (Below.refl _ _) nq))
    go_wp2_with (first | (go_at_call 60; refine (ppath_got _ HF3.out.got.here).mono ?_; rintro e w4 hp; obtain ⟨rfl, hc⟩ := hp.bad HP.out; have HC := Aside0.mk hc; clear hp hc; unfold flt))
    refine ⟨rfl, ?_⟩
    rw [HA.out]
    exact ⟨rfl, HF3.out.got.ch.trans HC.out⟩
  | ok ty ws1 =>
    rw [hp, Rs.bind_ok] at hans
    have HP := Lib.hid hp
    clear hp
    unfold fieldRest at hans
    cases hn : nameP en ws1 with
    | bad er p =>
      rw [hn] at hans
      have HA := Aside0.mk hans
      have HN := Lib.hid hn
      clear hans hn
      go_enter Tryd.func58, Tryd.ntmps58
      go_wp2_with (first | (go_at_call 29; refine (have_got ⟨#[114, 101, 112, 101, 97, 116, 101, 100]⟩ wRepeated rfl H.out).mono ?_; rintro e w1 ⟨rfl, hg⟩; rw [← HW0.out] at hg; rw [← HREP.out]; have HF1 := Aside0.mk (HF0.out.got_ hg); obtain ⟨c0, c1, c2, c3, c4, c5⟩ := HF1.out.cells; obtain ⟨f0, f1, f2, f3, f4, f5⟩ := HF1.out.free; have hl1 := blk_lt HF1.out.blk; have HG1 := Aside0.mk (HF1.out.set 0 (.bool rep) { fl0 with rep := rep } rfl); clear hg) | (go_at_call 28; refine (peek_got HG1.out.got.here).mono ?_; rintro e w2 ⟨rfl, hb⟩; rw [← HX.out]; have HF2 := Aside0.mk ((HG1.out.below hb).alloc (.cells #[.int .i64 x.kind, .string x.text, .int .i64 x.pos.line, .int .i64 x.pos.col] 86)); have bk2 := Aside0.mk (blk_new w2 (.cells #[.int .i64 x.kind, .string x.text, .int .i64 x.pos.line, .int .i64 x.pos.col] 86)); have p1 : (w2.alloc (.cells #[.int .i64 x.kind, .string x.text, .int .i64 x.pos.line, .int .i64 x.pos.col] 86)).cell? ⟨w2.heap.size, 1, none⟩ = some (.string x.text) := blk_cell bk2.out 1; have P1 := Aside0.mk (show (w2.alloc (.cells #[.int .i64 x.kind, .string x.text, .int .i64 x.pos.line, .int .i64 x.pos.col] 86)).drew.cell? ⟨w2.heap.size, 1, none⟩ = some (.string x.text) from p1); clear hb))
      go_quiet (fail)
      have HF3 := Aside0.mk (HF2.out.below (pw_below_drewN (Below.refl _ _) nq))
      go_wp2_with (first | (go_at_call 60; refine (ppath_got _ HF3.out.got.here).mono ?_; rintro e w4 hp; obtain ⟨rfl, hg⟩ := post_path hp HP.out; have HF4 := Aside0.mk (HF3.out.got_ hg); obtain ⟨c0, c1, c2, c3, c4, c5⟩ := HF4.out.cells; obtain ⟨f0, f1, f2, f3, f4, f5⟩ := HF4.out.free; have hl4 := blk_lt HF4.out.blk; have HG4 := Aside0.mk (HF4.out.set 1 (.string ty) { fl0 with rep := rep, ty := ty } rfl); clear hp hg) | (go_at_call 56; refine (pname_got _ HG4.out.got.here).mono ?_; rintro e w5 hp; obtain ⟨rfl, hc⟩ := hp.bad HN.out; have HC := Aside0.mk hc; clear hp hc; unfold flt))
      refine ⟨rfl, ?_⟩
      rw [HA.out]
      exact ⟨rfl, HG4.out.got.ch.trans HC.out⟩
    | ok nm ws2 =>
      rw [hn, Rs.bind_ok] at hans
      have HN := Lib.hid hn
      clear hn
      cases he : wantP en kEq ws2 with
      | bad er p =>
        rw [he] at hans
        have HA := Aside0.mk hans
        have HE := Lib.hid he
        clear hans he
        go_enter Tryd.func58, Tryd.ntmps58
        go_wp2_with (first | (go_at_call 29; refine (have_got ⟨#[114, 101, 112, 101, 97, 116, 101, 100]⟩ wRepeated rfl H.out).mono ?_; rintro e w1 ⟨rfl, hg⟩; rw [← HW0.out] at hg; rw [← HREP.out]; have HF1 := Aside0.mk (HF0.out.got_ hg); obtain ⟨c0, c1, c2, c3, c4, c5⟩ := HF1.out.cells; obtain ⟨f0, f1, f2, f3, f4, f5⟩ := HF1.out.free; have hl1 := blk_lt HF1.out.blk; have HG1 := Aside0.mk (HF1.out.set 0 (.bool rep) { fl0 with rep := rep } rfl); clear hg) | (go_at_call 28; refine (peek_got HG1.out.got.here).mono ?_; rintro e w2 ⟨rfl, hb⟩; rw [← HX.out]; have HF2 := Aside0.mk ((HG1.out.below hb).alloc (.cells #[.int .i64 x.kind, .string x.text, .int .i64 x.pos.line, .int .i64 x.pos.col] 86)); have bk2 := Aside0.mk (blk_new w2 (.cells #[.int .i64 x.kind, .string x.text, .int .i64 x.pos.line, .int .i64 x.pos.col] 86)); have p1 : (w2.alloc (.cells #[.int .i64 x.kind, .string x.text, .int .i64 x.pos.line, .int .i64 x.pos.col] 86)).cell? ⟨w2.heap.size, 1, none⟩ = some (.string x.text) := blk_cell bk2.out 1; have P1 := Aside0.mk (show (w2.alloc (.cells #[.int .i64 x.kind, .string x.text, .int .i64 x.pos.line, .int .i64 x.pos.col] 86)).drew.cell? ⟨w2.heap.size, 1, none⟩ = some (.string x.text) from p1); clear hb))
        go_quiet (fail)
        have HF3 := Aside0.mk (HF2.out.below (pw_below_drewN (Below.refl _ _) nq))
        go_wp2_with (first | (go_at_call 60; refine (ppath_got _ HF3.out.got.here).mono ?_; rintro e w4 hp; obtain ⟨rfl, hg⟩ := post_path hp HP.out; have HF4 := Aside0.mk (HF3.out.got_ hg); obtain ⟨c0, c1, c2, c3, c4, c5⟩ := HF4.out.cells; obtain ⟨f0, f1, f2, f3, f4, f5⟩ := HF4.out.free; have hl4 := blk_lt HF4.out.blk; have HG4 := Aside0.mk (HF4.out.set 1 (.string ty) { fl0 with rep := rep, ty := ty } rfl); clear hp hg) | (go_at_call 56; refine (pname_got _ HG4.out.got.here).mono ?_; rintro e w5 hp; obtain ⟨rfl, hg⟩ := post_name hp HN.out; have HF5 := Aside0.mk (HG4.out.got_ hg); obtain ⟨c0, c1, c2, c3, c4, c5⟩ := HF5.out.cells; obtain ⟨f0, f1, f2, f3, f4, f5⟩ := HF5.out.free; have hl5 := blk_lt HF5.out.blk; have HG5 := Aside0.mk (((HF5.out.set 2 (.string nm.1) { fl0 with rep := rep, ty := ty, name := nm.1 } rfl).set 4 (.int .i64 nm.2.line) { fl0 with rep := rep, ty := ty, name := nm.1, pos := ⟨nm.2.line, 0⟩ } rfl).set 5 (.int .i64 nm.2.col) ⟨rep, ty, nm.1, 0, nm.2⟩ rfl); clear hp hg) | (go_at_call 57; have _t := tokE; refine (want_one ⟨#[61]⟩ _ _ ?hE1 HG5.out.got.here).mono ?_; (case hE1 => simp only [size_set]); rintro e w6 hp; clear tokE _t; obtain ⟨rfl, hc⟩ := hp.bad HE.out; have HC := Aside0.mk hc; clear hp hc; unfold flt))
        refine ⟨rfl, ?_⟩
        rw [HA.out]
        exact ⟨rfl, HG5.out.got.ch.trans HC.out⟩
      | ok u1 ws3 =>
        rw [he, Rs.bind_ok] at hans
        have HE := Lib.hid he
        clear he
        cases hk : numberP en ws3 with
        | bad er p =>
          rw [hk] at hans
          have HA := Aside0.mk hans
          have HK := Lib.hid hk
          clear hans hk
          go_enter Tryd.func58, Tryd.ntmps58
          go_wp2_with (first | (go_at_call 29; refine (have_got ⟨#[114, 101, 112, 101, 97, 116, 101, 100]⟩ wRepeated rfl H.out).mono ?_; rintro e w1 ⟨rfl, hg⟩; rw [← HW0.out] at hg; rw [← HREP.out]; have HF1 := Aside0.mk (HF0.out.got_ hg); obtain ⟨c0, c1, c2, c3, c4, c5⟩ := HF1.out.cells; obtain ⟨f0, f1, f2, f3, f4, f5⟩ := HF1.out.free; have hl1 := blk_lt HF1.out.blk; have HG1 := Aside0.mk (HF1.out.set 0 (.bool rep) { fl0 with rep := rep } rfl); clear hg) | (go_at_call 28; refine (peek_got HG1.out.got.here).mono ?_; rintro e w2 ⟨rfl, hb⟩; rw [← HX.out]; have HF2 := Aside0.mk ((HG1.out.below hb).alloc (.cells #[.int .i64 x.kind, .string x.text, .int .i64 x.pos.line, .int .i64 x.pos.col] 86)); have bk2 := Aside0.mk (blk_new w2 (.cells #[.int .i64 x.kind, .string x.text, .int .i64 x.pos.line, .int .i64 x.pos.col] 86)); have p1 : (w2.alloc (.cells #[.int .i64 x.kind, .string x.text, .int .i64 x.pos.line, .int .i64 x.pos.col] 86)).cell? ⟨w2.heap.size, 1, none⟩ = some (.string x.text) := blk_cell bk2.out 1; have P1 := Aside0.mk (show (w2.alloc (.cells #[.int .i64 x.kind, .string x.text, .int .i64 x.pos.line, .int .i64 x.pos.col] 86)).drew.cell? ⟨w2.heap.size, 1, none⟩ = some (.string x.text) from p1); clear hb))
          go_quiet (fail)
          have HF3 := Aside0.mk (HF2.out.below (pw_below_drewN (Below.refl _ _) nq))
          go_wp2_with (first | (go_at_call 60; refine (ppath_got _ HF3.out.got.here).mono ?_; rintro e w4 hp; obtain ⟨rfl, hg⟩ := post_path hp HP.out; have HF4 := Aside0.mk (HF3.out.got_ hg); obtain ⟨c0, c1, c2, c3, c4, c5⟩ := HF4.out.cells; obtain ⟨f0, f1, f2, f3, f4, f5⟩ := HF4.out.free; have hl4 := blk_lt HF4.out.blk; have HG4 := Aside0.mk (HF4.out.set 1 (.string ty) { fl0 with rep := rep, ty := ty } rfl); clear hp hg) | (go_at_call 56; refine (pname_got _ HG4.out.got.here).mono ?_; rintro e w5 hp; obtain ⟨rfl, hg⟩ := post_name hp HN.out; have HF5 := Aside0.mk (HG4.out.got_ hg); obtain ⟨c0, c1, c2, c3, c4, c5⟩ := HF5.out.cells; obtain ⟨f0, f1, f2, f3, f4, f5⟩ := HF5.out.free; have hl5 := blk_lt HF5.out.blk; have HG5 := Aside0.mk (((HF5.out.set 2 (.string nm.1) { fl0 with rep := rep, ty := ty, name := nm.1 } rfl).set 4 (.int .i64 nm.2.line) { fl0 with rep := rep, ty := ty, name := nm.1, pos := ⟨nm.2.line, 0⟩ } rfl).set 5 (.int .i64 nm.2.col) ⟨rep, ty, nm.1, 0, nm.2⟩ rfl); clear hp hg) | (go_at_call 57; have _t := tokE; refine (want_one ⟨#[61]⟩ _ _ ?hE1 HG5.out.got.here).mono ?_; (case hE1 => simp only [size_set]); rintro e w6 hp; clear tokE _t; obtain ⟨rfl, hg⟩ := post_unit hp HE.out; have HF6 := Aside0.mk (HG5.out.got_ hg); clear hp hg) | (go_at_call 59; refine (number_got _ HF6.out.got.here).mono ?_; rintro e w7 hp; obtain ⟨rfl, hc⟩ := hp.bad HK.out; have HC := Aside0.mk hc; clear hp hc; unfold flt))
          refine ⟨rfl, ?_⟩
          rw [HA.out]
          exact ⟨rfl, HF6.out.got.ch.trans HC.out⟩
        | ok k ws4 =>
          rw [hk, Rs.bind_ok] at hans
          have HK := Lib.hid hk
          clear hk
          cases hm : wantP en kSemi ws4 with
          | bad er p =>
            rw [hm] at hans
            have HA := Aside0.mk hans
            have HM := Lib.hid hm
            clear hans hm
            go_enter Tryd.func58, Tryd.ntmps58
            go_wp2_with (first | (go_at_call 29; refine (have_got ⟨#[114, 101, 112, 101, 97, 116, 101, 100]⟩ wRepeated rfl H.out).mono ?_; rintro e w1 ⟨rfl, hg⟩; rw [← HW0.out] at hg; rw [← HREP.out]; have HF1 := Aside0.mk (HF0.out.got_ hg); obtain ⟨c0, c1, c2, c3, c4, c5⟩ := HF1.out.cells; obtain ⟨f0, f1, f2, f3, f4, f5⟩ := HF1.out.free; have hl1 := blk_lt HF1.out.blk; have HG1 := Aside0.mk (HF1.out.set 0 (.bool rep) { fl0 with rep := rep } rfl); clear hg) | (go_at_call 28; refine (peek_got HG1.out.got.here).mono ?_; rintro e w2 ⟨rfl, hb⟩; rw [← HX.out]; have HF2 := Aside0.mk ((HG1.out.below hb).alloc (.cells #[.int .i64 x.kind, .string x.text, .int .i64 x.pos.line, .int .i64 x.pos.col] 86)); have bk2 := Aside0.mk (blk_new w2 (.cells #[.int .i64 x.kind, .string x.text, .int .i64 x.pos.line, .int .i64 x.pos.col] 86)); have p1 : (w2.alloc (.cells #[.int .i64 x.kind, .string x.text, .int .i64 x.pos.line, .int .i64 x.pos.col] 86)).cell? ⟨w2.heap.size, 1, none⟩ = some (.string x.text) := blk_cell bk2.out 1; have P1 := Aside0.mk (show (w2.alloc (.cells #[.int .i64 x.kind, .string x.text, .int .i64 x.pos.line, .int .i64 x.pos.col] 86)).drew.cell? ⟨w2.heap.size, 1, none⟩ = some (.string x.text) from p1); clear hb))
            go_quiet (fail)
            have HF3 := Aside0.mk (HF2.out.below (pw_below_drewN (Below.refl _ _) nq))
            go_wp2_with (first | (go_at_call 60; refine (ppath_got _ HF3.out.got.here).mono ?_; rintro e w4 hp; obtain ⟨rfl, hg⟩ := post_path hp HP.out; have HF4 := Aside0.mk (HF3.out.got_ hg); obtain ⟨c0, c1, c2, c3, c4, c5⟩ := HF4.out.cells; obtain ⟨f0, f1, f2, f3, f4, f5⟩ := HF4.out.free; have hl4 := blk_lt HF4.out.blk; have HG4 := Aside0.mk (HF4.out.set 1 (.string ty) { fl0 with rep := rep, ty := ty } rfl); clear hp hg) | (go_at_call 56; refine (pname_got _ HG4.out.got.here).mono ?_; rintro e w5 hp; obtain ⟨rfl, hg⟩ := post_name hp HN.out; have HF5 := Aside0.mk (HG4.out.got_ hg); obtain ⟨c0, c1, c2, c3, c4, c5⟩ := HF5.out.cells; obtain ⟨f0, f1, f2, f3, f4, f5⟩ := HF5.out.free; have hl5 := blk_lt HF5.out.blk; have HG5 := Aside0.mk (((HF5.out.set 2 (.string nm.1) { fl0 with rep := rep, ty := ty, name := nm.1 } rfl).set 4 (.int .i64 nm.2.line) { fl0 with rep := rep, ty := ty, name := nm.1, pos := ⟨nm.2.line, 0⟩ } rfl).set 5 (.int .i64 nm.2.col) ⟨rep, ty, nm.1, 0, nm.2⟩ rfl); clear hp hg) | (go_at_call 57; have _t := tokE; refine (want_one ⟨#[61]⟩ _ _ ?hE1 HG5.out.got.here).mono ?_; (case hE1 => simp only [size_set]); rintro e w6 hp; clear tokE _t; obtain ⟨rfl, hg⟩ := post_unit hp HE.out; have HF6 := Aside0.mk (HG5.out.got_ hg); clear hp hg) | (go_at_call 59; refine (number_got _ HF6.out.got.here).mono ?_; rintro e w7 hp; obtain ⟨rfl, hg⟩ := post_int hp HK.out; have HF7 := Aside0.mk (HF6.out.got_ hg); obtain ⟨c0, c1, c2, c3, c4, c5⟩ := HF7.out.cells; obtain ⟨f0, f1, f2, f3, f4, f5⟩ := HF7.out.free; have hl7 := blk_lt HF7.out.blk; have HG7 := Aside0.mk (HF7.out.set 3 (.int .i64 k) ⟨rep, ty, nm.1, k, nm.2⟩ rfl); clear hp hg) | (go_at_call 57; have _t := tokS; refine (want_one ⟨#[59]⟩ _ _ ?hE2 HG7.out.got.here).mono ?_; (case hE2 => simp only [size_set]); rintro e w8 hp; clear tokS _t; obtain ⟨rfl, hc⟩ := hp.bad HM.out; have HC := Aside0.mk hc; clear hp hc; unfold flt))
            refine ⟨rfl, ?_⟩
            rw [HA.out]
            exact ⟨rfl, HG7.out.got.ch.trans HC.out⟩
          | ok u2 ws5 =>
            rw [hm, Rs.bind_ok] at hans
            have HM := Lib.hid hm
            clear hm
            have HA := Aside0.mk hans
            clear hans
            go_enter Tryd.func58, Tryd.ntmps58
            go_wp2_with (first | (go_at_call 29; refine (have_got ⟨#[114, 101, 112, 101, 97, 116, 101, 100]⟩ wRepeated rfl H.out).mono ?_; rintro e w1 ⟨rfl, hg⟩; rw [← HW0.out] at hg; rw [← HREP.out]; have HF1 := Aside0.mk (HF0.out.got_ hg); obtain ⟨c0, c1, c2, c3, c4, c5⟩ := HF1.out.cells; obtain ⟨f0, f1, f2, f3, f4, f5⟩ := HF1.out.free; have hl1 := blk_lt HF1.out.blk; have HG1 := Aside0.mk (HF1.out.set 0 (.bool rep) { fl0 with rep := rep } rfl); clear hg) | (go_at_call 28; refine (peek_got HG1.out.got.here).mono ?_; rintro e w2 ⟨rfl, hb⟩; rw [← HX.out]; have HF2 := Aside0.mk ((HG1.out.below hb).alloc (.cells #[.int .i64 x.kind, .string x.text, .int .i64 x.pos.line, .int .i64 x.pos.col] 86)); have bk2 := Aside0.mk (blk_new w2 (.cells #[.int .i64 x.kind, .string x.text, .int .i64 x.pos.line, .int .i64 x.pos.col] 86)); have p1 : (w2.alloc (.cells #[.int .i64 x.kind, .string x.text, .int .i64 x.pos.line, .int .i64 x.pos.col] 86)).cell? ⟨w2.heap.size, 1, none⟩ = some (.string x.text) := blk_cell bk2.out 1; have P1 := Aside0.mk (show (w2.alloc (.cells #[.int .i64 x.kind, .string x.text, .int .i64 x.pos.line, .int .i64 x.pos.col] 86)).drew.cell? ⟨w2.heap.size, 1, none⟩ = some (.string x.text) from p1); clear hb))
            go_quiet (fail)
            have HF3 := Aside0.mk (HF2.out.below (pw_below_drewN (Below.refl _ _) nq))
            go_wp2_with (first | (go_at_call 60; refine (ppath_got _ HF3.out.got.here).mono ?_; rintro e w4 hp; obtain ⟨rfl, hg⟩ := post_path hp HP.out; have HF4 := Aside0.mk (HF3.out.got_ hg); obtain ⟨c0, c1, c2, c3, c4, c5⟩ := HF4.out.cells; obtain ⟨f0, f1, f2, f3, f4, f5⟩ := HF4.out.free; have hl4 := blk_lt HF4.out.blk; have HG4 := Aside0.mk (HF4.out.set 1 (.string ty) { fl0 with rep := rep, ty := ty } rfl); clear hp hg) | (go_at_call 56; refine (pname_got _ HG4.out.got.here).mono ?_; rintro e w5 hp; obtain ⟨rfl, hg⟩ := post_name hp HN.out; have HF5 := Aside0.mk (HG4.out.got_ hg); obtain ⟨c0, c1, c2, c3, c4, c5⟩ := HF5.out.cells; obtain ⟨f0, f1, f2, f3, f4, f5⟩ := HF5.out.free; have hl5 := blk_lt HF5.out.blk; have HG5 := Aside0.mk (((HF5.out.set 2 (.string nm.1) { fl0 with rep := rep, ty := ty, name := nm.1 } rfl).set 4 (.int .i64 nm.2.line) { fl0 with rep := rep, ty := ty, name := nm.1, pos := ⟨nm.2.line, 0⟩ } rfl).set 5 (.int .i64 nm.2.col) ⟨rep, ty, nm.1, 0, nm.2⟩ rfl); clear hp hg) | (go_at_call 57; have _t := tokE; refine (want_one ⟨#[61]⟩ _ _ ?hE1 HG5.out.got.here).mono ?_; (case hE1 => simp only [size_set]); rintro e w6 hp; clear tokE _t; obtain ⟨rfl, hg⟩ := post_unit hp HE.out; have HF6 := Aside0.mk (HG5.out.got_ hg); clear hp hg) | (go_at_call 59; refine (number_got _ HF6.out.got.here).mono ?_; rintro e w7 hp; obtain ⟨rfl, hg⟩ := post_int hp HK.out; have HF7 := Aside0.mk (HF6.out.got_ hg); obtain ⟨c0, c1, c2, c3, c4, c5⟩ := HF7.out.cells; obtain ⟨f0, f1, f2, f3, f4, f5⟩ := HF7.out.free; have hl7 := blk_lt HF7.out.blk; have HG7 := Aside0.mk (HF7.out.set 3 (.int .i64 k) ⟨rep, ty, nm.1, k, nm.2⟩ rfl); clear hp hg) | (go_at_call 57; have _t := tokS; refine (want_one ⟨#[59]⟩ _ _ ?hE2 HG7.out.got.here).mono ?_; (case hE2 => simp only [size_set]); rintro e w8 hp; clear tokS _t; obtain ⟨rfl, hg⟩ := post_unit hp HM.out; have HF8 := Aside0.mk (HG7.out.got_ hg); obtain ⟨c0, c1, c2, c3, c4, c5⟩ := HF8.out.cells; obtain ⟨f0, f1, f2, f3, f4, f5⟩ := HF8.out.free; have hl8 := blk_lt HF8.out.blk; clear hp hg))
            refine bodyPost_ret (results_c rfl _ _ w.heap.size _ _ _ _ rfl (put6 _ _ _ _ _ _ HF8.out.blk) Tryd.underlying67 rfl size_fl) rfl ?_
            rw [HA.out]
            exact ⟨_, rfl, rfl, (((((((HF8.out.set 0 _ _ rfl).set 1 _ _ rfl).set 2 _ _ rfl).set 3 _ _ rfl).set 4 _ _ rfl).set 5 _ ⟨rep, ty, nm.1, k, nm.2⟩ rfl)).got⟩
set_option maxHeartbeats 4000000 in
set_option maxRecDepth 20000 in
theorem field_t2 {base b : Nat} {en : Pos} {ws : List Wd} (w : World) (h : Got base b en ws w w) (rep : Bool) (hrep : rep = haveB en wRepeated ws) (ws0 : List Wd) (hw0 : ws0 = if haveB en wRepeated ws then ws.tail else ws) (x : Wd) (hx : x = peekW en ws0) (hx1 : x.text.toList.isEmpty = false) (hs9 : decide (idxIn x.text.data.toList (bytesL scalarsL) < 9) = false) (ans : Rs Fl) (hans : ans = (pathP en ws0).bind fun ty ws1 => fieldRest en rep ty ws1) :
    Calls Tryd.prog 58 #[.pointer (some ⟨b, 0, none⟩)] w fun e w' => Post base b en w fieldV ans e w' := by
  have H := Aside0.mk ((h.alloc (.cells #[.bool false, .string ⟨#[]⟩, .string ⟨#[]⟩, .int .i64 0, .int .i64 0, .int .i64 0] 67)).here)
  have HF0 := Aside0.mk (show Fs base b en w fl0 ws (w.alloc (.cells #[.bool false, .string ⟨#[]⟩, .string ⟨#[]⟩, .int .i64 0, .int .i64 0, .int .i64 0] 67)) from ⟨h.alloc _, blk_new w _, h.blt⟩)
  have HREP := Lib.hid hrep
  have HW0 := Lib.hid hw0
  have HX := Lib.hid hx
  have hf1 := fld1
  have tokE : True := trivial
  have tokS : True := trivial
  have HS9 := Lib.hid hs9
  clear hs9
  clear h hrep hw0 hx
  cases hp : pathP en ws0 with
  | bad er p =>
    rw [hp] at hans
    have HA := Aside0.mk hans
    have HP := Lib.hid hp
    clear hans hp
    go_enter Tryd.func58, Tryd.ntmps58
    go_wp2_with (first | (go_at_call 29; refine (have_got ⟨#[114, 101, 112, 101, 97, 116, 101, 100]⟩ wRepeated rfl H.out).mono ?_; rintro e w1 ⟨rfl, hg⟩; rw [← HW0.out] at hg; rw [← HREP.out]; have HF1 := Aside0.mk (HF0.out.got_ hg); obtain ⟨c0, c1, c2, c3, c4, c5⟩ := HF1.out.cells; obtain ⟨f0, f1, f2, f3, f4, f5⟩ := HF1.out.free; have hl1 := blk_lt HF1.out.blk; have HG1 := Aside0.mk (HF1.out.set 0 (.bool rep) { fl0 with rep := rep } rfl); clear hg) | (go_at_call 28; refine (peek_got HG1.out.got.here).mono ?_; rintro e w2 ⟨rfl, hb⟩; rw [← HX.out]; have HF2 := Aside0.mk ((HG1.out.below hb).alloc (.cells #[.int .i64 x.kind, .string x.text, .int .i64 x.pos.line, .int .i64 x.pos.col] 86)); have bk2 := Aside0.mk (blk_new w2 (.cells #[.int .i64 x.kind, .string x.text, .int .i64 x.pos.line, .int .i64 x.pos.col] 86)); have p1 : (w2.alloc (.cells #[.int .i64 x.kind, .string x.text, .int .i64 x.pos.line, .int .i64 x.pos.col] 86)).cell? ⟨w2.heap.size, 1, none⟩ = some (.string x.text) := blk_cell bk2.out 1; have P1 := Aside0.mk (show (w2.alloc (.cells #[.int .i64 x.kind, .string x.text, .int .i64 x.pos.line, .int .i64 x.pos.col] 86)).drew.cell? ⟨w2.heap.size, 1, none⟩ = some (.string x.text) from p1); clear hb))
    go_region_held3 (fun w' => w'.cell? ⟨w2.heap.size, 1, none⟩ = some (.string x.text)) (first | (with_reducible exact pw_cell_below hB3 P1.out) | go_keep) (first | (go_at_call 78; with_reducible refine (scalars_calls (w2.alloc (.cells #[.int .i64 x.kind, .string x.text, .int .i64 x.pos.line, .int .i64 x.pos.col] 86)).drew).mono ?_; rintro e w3 ⟨A1, c1', rfl, hC1, hc1, hB3⟩) | (go_at_call 77; with_reducible refine (scal_contains A1 c1' x.text w3 hC1).mono ?_; rintro e w' ⟨rfl, rfl⟩; rw [HS9.out]))
    have HF3 := Aside0.mk (HF2.out.below (below_then ((Below.refl _ _).drew) (Nat.le_refl _) hB3))
    go_wp2_with (first | (go_at_call 60; refine (ppath_got _ HF3.out.got.here).mono ?_; rintro e w4 hp; obtain ⟨rfl, hc⟩ := hp.bad HP.out; have HC := Aside0.mk hc; clear hp hc; unfold flt))
    refine ⟨rfl, ?_⟩
    rw [HA.out]
    exact ⟨rfl, HF3.out.got.ch.trans HC.out⟩
  | ok ty ws1 =>
    rw [hp, Rs.bind_ok] at hans
    have HP := Lib.hid hp
    clear hp
    unfold fieldRest at hans
    cases hn : nameP en ws1 with
    | bad er p =>
      rw [hn] at hans
      have HA := Aside0.mk hans
      have HN := Lib.hid hn
      clear hans hn
      go_enter Tryd.func58, Tryd.ntmps58
      go_wp2_with (first | (go_at_call 29; refine (have_got ⟨#[114, 101, 112, 101, 97, 116, 101, 100]⟩ wRepeated rfl H.out).mono ?_; rintro e w1 ⟨rfl, hg⟩; rw [← HW0.out] at hg; rw [← HREP.out]; have HF1 := Aside0.mk (HF0.out.got_ hg); obtain ⟨c0, c1, c2, c3, c4, c5⟩ := HF1.out.cells; obtain ⟨f0, f1, f2, f3, f4, f5⟩ := HF1.out.free; have hl1 := blk_lt HF1.out.blk; have HG1 := Aside0.mk (HF1.out.set 0 (.bool rep) { fl0 with rep := rep } rfl); clear hg) | (go_at_call 28; refine (peek_got HG1.out.got.here).mono ?_; rintro e w2 ⟨rfl, hb⟩; rw [← HX.out]; have HF2 := Aside0.mk ((HG1.out.below hb).alloc (.cells #[.int .i64 x.kind, .string x.text, .int .i64 x.pos.line, .int .i64 x.pos.col] 86)); have bk2 := Aside0.mk (blk_new w2 (.cells #[.int .i64 x.kind, .string x.text, .int .i64 x.pos.line, .int .i64 x.pos.col] 86)); have p1 : (w2.alloc (.cells #[.int .i64 x.kind, .string x.text, .int .i64 x.pos.line, .int .i64 x.pos.col] 86)).cell? ⟨w2.heap.size, 1, none⟩ = some (.string x.text) := blk_cell bk2.out 1; have P1 := Aside0.mk (show (w2.alloc (.cells #[.int .i64 x.kind, .string x.text, .int .i64 x.pos.line, .int .i64 x.pos.col] 86)).drew.cell? ⟨w2.heap.size, 1, none⟩ = some (.string x.text) from p1); clear hb))
      go_region_held3 (fun w' => w'.cell? ⟨w2.heap.size, 1, none⟩ = some (.string x.text)) (first | (with_reducible exact pw_cell_below hB3 P1.out) | go_keep) (first | (go_at_call 78; with_reducible refine (scalars_calls (w2.alloc (.cells #[.int .i64 x.kind, .string x.text, .int .i64 x.pos.line, .int .i64 x.pos.col] 86)).drew).mono ?_; rintro e w3 ⟨A1, c1', rfl, hC1, hc1, hB3⟩) | (go_at_call 77; with_reducible refine (scal_contains A1 c1' x.text w3 hC1).mono ?_; rintro e w' ⟨rfl, rfl⟩; rw [HS9.out]))
      have HF3 := Aside0.mk (HF2.out.below (below_then ((Below.refl _ _).drew) (Nat.le_refl _) hB3))
      go_wp2_with (first | (go_at_call 60; refine (ppath_got _ HF3.out.got.here).mono ?_; rintro e w4 hp; obtain ⟨rfl, hg⟩ := post_path hp HP.out; have HF4 := Aside0.mk (HF3.out.got_ hg); obtain ⟨c0, c1, c2, c3, c4, c5⟩ := HF4.out.cells; obtain ⟨f0, f1, f2, f3, f4, f5⟩ := HF4.out.free; have hl4 := blk_lt HF4.out.blk; have HG4 := Aside0.mk (HF4.out.set 1 (.string ty) { fl0 with rep := rep, ty := ty } rfl); clear hp hg) | (go_at_call 56; refine (pname_got _ HG4.out.got.here).mono ?_; rintro e w5 hp; obtain ⟨rfl, hc⟩ := hp.bad HN.out; have HC := Aside0.mk hc; clear hp hc; unfold flt))
      refine ⟨rfl, ?_⟩
      rw [HA.out]
      exact ⟨rfl, HG4.out.got.ch.trans HC.out⟩
    | ok nm ws2 =>
      rw [hn, Rs.bind_ok] at hans
      have HN := Lib.hid hn
      clear hn
      cases he : wantP en kEq ws2 with
      | bad er p =>
        rw [he] at hans
        have HA := Aside0.mk hans
        have HE := Lib.hid he
        clear hans he
        go_enter Tryd.func58, Tryd.ntmps58
        go_wp2_with (first | (go_at_call 29; refine (have_got ⟨#[114, 101, 112, 101, 97, 116, 101, 100]⟩ wRepeated rfl H.out).mono ?_; rintro e w1 ⟨rfl, hg⟩; rw [← HW0.out] at hg; rw [← HREP.out]; have HF1 := Aside0.mk (HF0.out.got_ hg); obtain ⟨c0, c1, c2, c3, c4, c5⟩ := HF1.out.cells; obtain ⟨f0, f1, f2, f3, f4, f5⟩ := HF1.out.free; have hl1 := blk_lt HF1.out.blk; have HG1 := Aside0.mk (HF1.out.set 0 (.bool rep) { fl0 with rep := rep } rfl); clear hg) | (go_at_call 28; refine (peek_got HG1.out.got.here).mono ?_; rintro e w2 ⟨rfl, hb⟩; rw [← HX.out]; have HF2 := Aside0.mk ((HG1.out.below hb).alloc (.cells #[.int .i64 x.kind, .string x.text, .int .i64 x.pos.line, .int .i64 x.pos.col] 86)); have bk2 := Aside0.mk (blk_new w2 (.cells #[.int .i64 x.kind, .string x.text, .int .i64 x.pos.line, .int .i64 x.pos.col] 86)); have p1 : (w2.alloc (.cells #[.int .i64 x.kind, .string x.text, .int .i64 x.pos.line, .int .i64 x.pos.col] 86)).cell? ⟨w2.heap.size, 1, none⟩ = some (.string x.text) := blk_cell bk2.out 1; have P1 := Aside0.mk (show (w2.alloc (.cells #[.int .i64 x.kind, .string x.text, .int .i64 x.pos.line, .int .i64 x.pos.col] 86)).drew.cell? ⟨w2.heap.size, 1, none⟩ = some (.string x.text) from p1); clear hb))
        go_region_held3 (fun w' => w'.cell? ⟨w2.heap.size, 1, none⟩ = some (.string x.text)) (first | (with_reducible exact pw_cell_below hB3 P1.out) | go_keep) (first | (go_at_call 78; with_reducible refine (scalars_calls (w2.alloc (.cells #[.int .i64 x.kind, .string x.text, .int .i64 x.pos.line, .int .i64 x.pos.col] 86)).drew).mono ?_; rintro e w3 ⟨A1, c1', rfl, hC1, hc1, hB3⟩) | (go_at_call 77; with_reducible refine (scal_contains A1 c1' x.text w3 hC1).mono ?_; rintro e w' ⟨rfl, rfl⟩; rw [HS9.out]))
        have HF3 := Aside0.mk (HF2.out.below (below_then ((Below.refl _ _).drew) (Nat.le_refl _) hB3))
        go_wp2_with (first | (go_at_call 60; refine (ppath_got _ HF3.out.got.here).mono ?_; rintro e w4 hp; obtain ⟨rfl, hg⟩ := post_path hp HP.out; have HF4 := Aside0.mk (HF3.out.got_ hg); obtain ⟨c0, c1, c2, c3, c4, c5⟩ := HF4.out.cells; obtain ⟨f0, f1, f2, f3, f4, f5⟩ := HF4.out.free; have hl4 := blk_lt HF4.out.blk; have HG4 := Aside0.mk (HF4.out.set 1 (.string ty) { fl0 with rep := rep, ty := ty } rfl); clear hp hg) | (go_at_call 56; refine (pname_got _ HG4.out.got.here).mono ?_; rintro e w5 hp; obtain ⟨rfl, hg⟩ := post_name hp HN.out; have HF5 := Aside0.mk (HG4.out.got_ hg); obtain ⟨c0, c1, c2, c3, c4, c5⟩ := HF5.out.cells; obtain ⟨f0, f1, f2, f3, f4, f5⟩ := HF5.out.free; have hl5 := blk_lt HF5.out.blk; have HG5 := Aside0.mk (((HF5.out.set 2 (.string nm.1) { fl0 with rep := rep, ty := ty, name := nm.1 } rfl).set 4 (.int .i64 nm.2.line) { fl0 with rep := rep, ty := ty, name := nm.1, pos := ⟨nm.2.line, 0⟩ } rfl).set 5 (.int .i64 nm.2.col) ⟨rep, ty, nm.1, 0, nm.2⟩ rfl); clear hp hg) | (go_at_call 57; have _t := tokE; refine (want_one ⟨#[61]⟩ _ _ ?hE1 HG5.out.got.here).mono ?_; (case hE1 => simp only [size_set]); rintro e w6 hp; clear tokE _t; obtain ⟨rfl, hc⟩ := hp.bad HE.out; have HC := Aside0.mk hc; clear hp hc; unfold flt))
        refine ⟨rfl, ?_⟩
        rw [HA.out]
        exact ⟨rfl, HG5.out.got.ch.trans HC.out⟩
      | ok u1 ws3 =>
        rw [he, Rs.bind_ok] at hans
        have HE := Lib.hid he
        clear he
        cases hk : numberP en ws3 with
        | bad er p =>
          rw [hk] at hans
          have HA := Aside0.mk hans
          have HK := Lib.hid hk
          clear hans hk
          go_enter Tryd.func58, Tryd.ntmps58
          go_wp2_with (first | (go_at_call 29; refine (have_got ⟨#[114, 101, 112, 101, 97, 116, 101, 100]⟩ wRepeated rfl H.out).mono ?_; rintro e w1 ⟨rfl, hg⟩; rw [← HW0.out] at hg; rw [← HREP.out]; have HF1 := Aside0.mk (HF0.out.got_ hg); obtain ⟨c0, c1, c2, c3, c4, c5⟩ := HF1.out.cells; obtain ⟨f0, f1, f2, f3, f4, f5⟩ := HF1.out.free; have hl1 := blk_lt HF1.out.blk; have HG1 := Aside0.mk (HF1.out.set 0 (.bool rep) { fl0 with rep := rep } rfl); clear hg) | (go_at_call 28; refine (peek_got HG1.out.got.here).mono ?_; rintro e w2 ⟨rfl, hb⟩; rw [← HX.out]; have HF2 := Aside0.mk ((HG1.out.below hb).alloc (.cells #[.int .i64 x.kind, .string x.text, .int .i64 x.pos.line, .int .i64 x.pos.col] 86)); have bk2 := Aside0.mk (blk_new w2 (.cells #[.int .i64 x.kind, .string x.text, .int .i64 x.pos.line, .int .i64 x.pos.col] 86)); have p1 : (w2.alloc (.cells #[.int .i64 x.kind, .string x.text, .int .i64 x.pos.line, .int .i64 x.pos.col] 86)).cell? ⟨w2.heap.size, 1, none⟩ = some (.string x.text) := blk_cell bk2.out 1; have P1 := Aside0.mk (show (w2.alloc (.cells #[.int .i64 x.kind, .string x.text, .int .i64 x.pos.line, .int .i64 x.pos.col] 86)).drew.cell? ⟨w2.heap.size, 1, none⟩ = some (.string x.text) from p1); clear hb))
          go_region_held3 (fun w' => w'.cell? ⟨w2.heap.size, 1, none⟩ = some (.string x.text)) (first | (with_reducible exact pw_cell_below hB3 P1.out) | go_keep) (first | (go_at_call 78; with_reducible refine (scalars_calls (w2.alloc (.cells #[.int .i64 x.kind, .string x.text, .int .i64 x.pos.line, .int .i64 x.pos.col] 86)).drew).mono ?_; rintro e w3 ⟨A1, c1', rfl, hC1, hc1, hB3⟩) | (go_at_call 77; with_reducible refine (scal_contains A1 c1' x.text w3 hC1).mono ?_; rintro e w' ⟨rfl, rfl⟩; rw [HS9.out]))
          have HF3 := Aside0.mk (HF2.out.below (below_then ((Below.refl _ _).drew) (Nat.le_refl _) hB3))
          go_wp2_with (first | (go_at_call 60; refine (ppath_got _ HF3.out.got.here).mono ?_; rintro e w4 hp; obtain ⟨rfl, hg⟩ := post_path hp HP.out; have HF4 := Aside0.mk (HF3.out.got_ hg); obtain ⟨c0, c1, c2, c3, c4, c5⟩ := HF4.out.cells; obtain ⟨f0, f1, f2, f3, f4, f5⟩ := HF4.out.free; have hl4 := blk_lt HF4.out.blk; have HG4 := Aside0.mk (HF4.out.set 1 (.string ty) { fl0 with rep := rep, ty := ty } rfl); clear hp hg) | (go_at_call 56; refine (pname_got _ HG4.out.got.here).mono ?_; rintro e w5 hp; obtain ⟨rfl, hg⟩ := post_name hp HN.out; have HF5 := Aside0.mk (HG4.out.got_ hg); obtain ⟨c0, c1, c2, c3, c4, c5⟩ := HF5.out.cells; obtain ⟨f0, f1, f2, f3, f4, f5⟩ := HF5.out.free; have hl5 := blk_lt HF5.out.blk; have HG5 := Aside0.mk (((HF5.out.set 2 (.string nm.1) { fl0 with rep := rep, ty := ty, name := nm.1 } rfl).set 4 (.int .i64 nm.2.line) { fl0 with rep := rep, ty := ty, name := nm.1, pos := ⟨nm.2.line, 0⟩ } rfl).set 5 (.int .i64 nm.2.col) ⟨rep, ty, nm.1, 0, nm.2⟩ rfl); clear hp hg) | (go_at_call 57; have _t := tokE; refine (want_one ⟨#[61]⟩ _ _ ?hE1 HG5.out.got.here).mono ?_; (case hE1 => simp only [size_set]); rintro e w6 hp; clear tokE _t; obtain ⟨rfl, hg⟩ := post_unit hp HE.out; have HF6 := Aside0.mk (HG5.out.got_ hg); clear hp hg) | (go_at_call 59; refine (number_got _ HF6.out.got.here).mono ?_; rintro e w7 hp; obtain ⟨rfl, hc⟩ := hp.bad HK.out; have HC := Aside0.mk hc; clear hp hc; unfold flt))
          refine ⟨rfl, ?_⟩
          rw [HA.out]
          exact ⟨rfl, HF6.out.got.ch.trans HC.out⟩
        | ok k ws4 =>
          rw [hk, Rs.bind_ok] at hans
          have HK := Lib.hid hk
          clear hk
          cases hm : wantP en kSemi ws4 with
          | bad er p =>
            rw [hm] at hans
            have HA := Aside0.mk hans
            have HM := Lib.hid hm
            clear hans hm
            go_enter Tryd.func58, Tryd.ntmps58
            go_wp2_with (first | (go_at_call 29; refine (have_got ⟨#[114, 101, 112, 101, 97, 116, 101, 100]⟩ wRepeated rfl H.out).mono ?_; rintro e w1 ⟨rfl, hg⟩; rw [← HW0.out] at hg; rw [← HREP.out]; have HF1 := Aside0.mk (HF0.out.got_ hg); obtain ⟨c0, c1, c2, c3, c4, c5⟩ := HF1.out.cells; obtain ⟨f0, f1, f2, f3, f4, f5⟩ := HF1.out.free; have hl1 := blk_lt HF1.out.blk; have HG1 := Aside0.mk (HF1.out.set 0 (.bool rep) { fl0 with rep := rep } rfl); clear hg) | (go_at_call 28; refine (peek_got HG1.out.got.here).mono ?_; rintro e w2 ⟨rfl, hb⟩; rw [← HX.out]; have HF2 := Aside0.mk ((HG1.out.below hb).alloc (.cells #[.int .i64 x.kind, .string x.text, .int .i64 x.pos.line, .int .i64 x.pos.col] 86)); have bk2 := Aside0.mk (blk_new w2 (.cells #[.int .i64 x.kind, .string x.text, .int .i64 x.pos.line, .int .i64 x.pos.col] 86)); have p1 : (w2.alloc (.cells #[.int .i64 x.kind, .string x.text, .int .i64 x.pos.line, .int .i64 x.pos.col] 86)).cell? ⟨w2.heap.size, 1, none⟩ = some (.string x.text) := blk_cell bk2.out 1; have P1 := Aside0.mk (show (w2.alloc (.cells #[.int .i64 x.kind, .string x.text, .int .i64 x.pos.line, .int .i64 x.pos.col] 86)).drew.cell? ⟨w2.heap.size, 1, none⟩ = some (.string x.text) from p1); clear hb))
            go_region_held3 (fun w' => w'.cell? ⟨w2.heap.size, 1, none⟩ = some (.string x.text)) (first | (with_reducible exact pw_cell_below hB3 P1.out) | go_keep) (first | (go_at_call 78; with_reducible refine (scalars_calls (w2.alloc (.cells #[.int .i64 x.kind, .string x.text, .int .i64 x.pos.line, .int .i64 x.pos.col] 86)).drew).mono ?_; rintro e w3 ⟨A1, c1', rfl, hC1, hc1, hB3⟩) | (go_at_call 77; with_reducible refine (scal_contains A1 c1' x.text w3 hC1).mono ?_; rintro e w' ⟨rfl, rfl⟩; rw [HS9.out]))
            have HF3 := Aside0.mk (HF2.out.below (below_then ((Below.refl _ _).drew) (Nat.le_refl _) hB3))
            go_wp2_with (first | (go_at_call 60; refine (ppath_got _ HF3.out.got.here).mono ?_; rintro e w4 hp; obtain ⟨rfl, hg⟩ := post_path hp HP.out; have HF4 := Aside0.mk (HF3.out.got_ hg); obtain ⟨c0, c1, c2, c3, c4, c5⟩ := HF4.out.cells; obtain ⟨f0, f1, f2, f3, f4, f5⟩ := HF4.out.free; have hl4 := blk_lt HF4.out.blk; have HG4 := Aside0.mk (HF4.out.set 1 (.string ty) { fl0 with rep := rep, ty := ty } rfl); clear hp hg) | (go_at_call 56; refine (pname_got _ HG4.out.got.here).mono ?_; rintro e w5 hp; obtain ⟨rfl, hg⟩ := post_name hp HN.out; have HF5 := Aside0.mk (HG4.out.got_ hg); obtain ⟨c0, c1, c2, c3, c4, c5⟩ := HF5.out.cells; obtain ⟨f0, f1, f2, f3, f4, f5⟩ := HF5.out.free; have hl5 := blk_lt HF5.out.blk; have HG5 := Aside0.mk (((HF5.out.set 2 (.string nm.1) { fl0 with rep := rep, ty := ty, name := nm.1 } rfl).set 4 (.int .i64 nm.2.line) { fl0 with rep := rep, ty := ty, name := nm.1, pos := ⟨nm.2.line, 0⟩ } rfl).set 5 (.int .i64 nm.2.col) ⟨rep, ty, nm.1, 0, nm.2⟩ rfl); clear hp hg) | (go_at_call 57; have _t := tokE; refine (want_one ⟨#[61]⟩ _ _ ?hE1 HG5.out.got.here).mono ?_; (case hE1 => simp only [size_set]); rintro e w6 hp; clear tokE _t; obtain ⟨rfl, hg⟩ := post_unit hp HE.out; have HF6 := Aside0.mk (HG5.out.got_ hg); clear hp hg) | (go_at_call 59; refine (number_got _ HF6.out.got.here).mono ?_; rintro e w7 hp; obtain ⟨rfl, hg⟩ := post_int hp HK.out; have HF7 := Aside0.mk (HF6.out.got_ hg); obtain ⟨c0, c1, c2, c3, c4, c5⟩ := HF7.out.cells; obtain ⟨f0, f1, f2, f3, f4, f5⟩ := HF7.out.free; have hl7 := blk_lt HF7.out.blk; have HG7 := Aside0.mk (HF7.out.set 3 (.int .i64 k) ⟨rep, ty, nm.1, k, nm.2⟩ rfl); clear hp hg) | (go_at_call 57; have _t := tokS; refine (want_one ⟨#[59]⟩ _ _ ?hE2 HG7.out.got.here).mono ?_; (case hE2 => simp only [size_set]); rintro e w8 hp; clear tokS _t; obtain ⟨rfl, hc⟩ := hp.bad HM.out; have HC := Aside0.mk hc; clear hp hc; unfold flt))
            refine ⟨rfl, ?_⟩
            rw [HA.out]
            exact ⟨rfl, HG7.out.got.ch.trans HC.out⟩
          | ok u2 ws5 =>
            rw [hm, Rs.bind_ok] at hans
            have HM := Lib.hid hm
            clear hm
            have HA := Aside0.mk hans
            clear hans
            go_enter Tryd.func58, Tryd.ntmps58
            go_wp2_with (first | (go_at_call 29; refine (have_got ⟨#[114, 101, 112, 101, 97, 116, 101, 100]⟩ wRepeated rfl H.out).mono ?_; rintro e w1 ⟨rfl, hg⟩; rw [← HW0.out] at hg; rw [← HREP.out]; have HF1 := Aside0.mk (HF0.out.got_ hg); obtain ⟨c0, c1, c2, c3, c4, c5⟩ := HF1.out.cells; obtain ⟨f0, f1, f2, f3, f4, f5⟩ := HF1.out.free; have hl1 := blk_lt HF1.out.blk; have HG1 := Aside0.mk (HF1.out.set 0 (.bool rep) { fl0 with rep := rep } rfl); clear hg) | (go_at_call 28; refine (peek_got HG1.out.got.here).mono ?_; rintro e w2 ⟨rfl, hb⟩; rw [← HX.out]; have HF2 := Aside0.mk ((HG1.out.below hb).alloc (.cells #[.int .i64 x.kind, .string x.text, .int .i64 x.pos.line, .int .i64 x.pos.col] 86)); have bk2 := Aside0.mk (blk_new w2 (.cells #[.int .i64 x.kind, .string x.text, .int .i64 x.pos.line, .int .i64 x.pos.col] 86)); have p1 : (w2.alloc (.cells #[.int .i64 x.kind, .string x.text, .int .i64 x.pos.line, .int .i64 x.pos.col] 86)).cell? ⟨w2.heap.size, 1, none⟩ = some (.string x.text) := blk_cell bk2.out 1; have P1 := Aside0.mk (show (w2.alloc (.cells #[.int .i64 x.kind, .string x.text, .int .i64 x.pos.line, .int .i64 x.pos.col] 86)).drew.cell? ⟨w2.heap.size, 1, none⟩ = some (.string x.text) from p1); clear hb))
            go_region_held3 (fun w' => w'.cell? ⟨w2.heap.size, 1, none⟩ = some (.string x.text)) (first | (with_reducible exact pw_cell_below hB3 P1.out) | go_keep) (first | (go_at_call 78; with_reducible refine (scalars_calls (w2.alloc (.cells #[.int .i64 x.kind, .string x.text, .int .i64 x.pos.line, .int .i64 x.pos.col] 86)).drew).mono ?_; rintro e w3 ⟨A1, c1', rfl, hC1, hc1, hB3⟩) | (go_at_call 77; with_reducible refine (scal_contains A1 c1' x.text w3 hC1).mono ?_; rintro e w' ⟨rfl, rfl⟩; rw [HS9.out]))
            have HF3 := Aside0.mk (HF2.out.below (below_then ((Below.refl _ _).drew) (Nat.le_refl _) hB3))
            go_wp2_with (first | (go_at_call 60; refine (ppath_got _ HF3.out.got.here).mono ?_; rintro e w4 hp; obtain ⟨rfl, hg⟩ := post_path hp HP.out; have HF4 := Aside0.mk (HF3.out.got_ hg); obtain ⟨c0, c1, c2, c3, c4, c5⟩ := HF4.out.cells; obtain ⟨f0, f1, f2, f3, f4, f5⟩ := HF4.out.free; have hl4 := blk_lt HF4.out.blk; have HG4 := Aside0.mk (HF4.out.set 1 (.string ty) { fl0 with rep := rep, ty := ty } rfl); clear hp hg) | (go_at_call 56; refine (pname_got _ HG4.out.got.here).mono ?_; rintro e w5 hp; obtain ⟨rfl, hg⟩ := post_name hp HN.out; have HF5 := Aside0.mk (HG4.out.got_ hg); obtain ⟨c0, c1, c2, c3, c4, c5⟩ := HF5.out.cells; obtain ⟨f0, f1, f2, f3, f4, f5⟩ := HF5.out.free; have hl5 := blk_lt HF5.out.blk; have HG5 := Aside0.mk (((HF5.out.set 2 (.string nm.1) { fl0 with rep := rep, ty := ty, name := nm.1 } rfl).set 4 (.int .i64 nm.2.line) { fl0 with rep := rep, ty := ty, name := nm.1, pos := ⟨nm.2.line, 0⟩ } rfl).set 5 (.int .i64 nm.2.col) ⟨rep, ty, nm.1, 0, nm.2⟩ rfl); clear hp hg) | (go_at_call 57; have _t := tokE; refine (want_one ⟨#[61]⟩ _ _ ?hE1 HG5.out.got.here).mono ?_; (case hE1 => simp only [size_set]); rintro e w6 hp; clear tokE _t; obtain ⟨rfl, hg⟩ := post_unit hp HE.out; have HF6 := Aside0.mk (HG5.out.got_ hg); clear hp hg) | (go_at_call 59; refine (number_got _ HF6.out.got.here).mono ?_; rintro e w7 hp; obtain ⟨rfl, hg⟩ := post_int hp HK.out; have HF7 := Aside0.mk (HF6.out.got_ hg); obtain ⟨c0, c1, c2, c3, c4, c5⟩ := HF7.out.cells; obtain ⟨f0, f1, f2, f3, f4, f5⟩ := HF7.out.free; have hl7 := blk_lt HF7.out.blk; have HG7 := Aside0.mk (HF7.out.set 3 (.int .i64 k) ⟨rep, ty, nm.1, k, nm.2⟩ rfl); clear hp hg) | (go_at_call 57; have _t := tokS; refine (want_one ⟨#[59]⟩ _ _ ?hE2 HG7.out.got.here).mono ?_; (case hE2 => simp only [size_set]); rintro e w8 hp; clear tokS _t; obtain ⟨rfl, hg⟩ := post_unit hp HM.out; have HF8 := Aside0.mk (HG7.out.got_ hg); obtain ⟨c0, c1, c2, c3, c4, c5⟩ := HF8.out.cells; obtain ⟨f0, f1, f2, f3, f4, f5⟩ := HF8.out.free; have hl8 := blk_lt HF8.out.blk; clear hp hg))
            refine bodyPost_ret (results_c rfl _ _ w.heap.size _ _ _ _ rfl (put6 _ _ _ _ _ _ HF8.out.blk) Tryd.underlying67 rfl size_fl) rfl ?_
            rw [HA.out]
            exact ⟨_, rfl, rfl, (((((((HF8.out.set 0 _ _ rfl).set 1 _ _ rfl).set 2 _ _ rfl).set 3 _ _ rfl).set 4 _ _ rfl).set 5 _ ⟨rep, ty, nm.1, k, nm.2⟩ rfl)).got⟩
set_option maxHeartbeats 4000000 in
set_option maxRecDepth 20000 in
theorem field_t3 {base b : Nat} {en : Pos} {ws : List Wd} (w : World) (h : Got base b en ws w w) (rep : Bool) (hrep : rep = haveB en wRepeated ws) (ws0 : List Wd) (hw0 : ws0 = if haveB en wRepeated ws then ws.tail else ws) (x : Wd) (hx : x = peekW en ws0) (hx1 : x.text.toList.isEmpty = false) (hs9 : decide (idxIn x.text.data.toList (bytesL scalarsL) < 9) = true) (ans : Rs Fl) (hans : ans = fieldRest en rep x.text ws0.tail) :
    Calls Tryd.prog 58 #[.pointer (some ⟨b, 0, none⟩)] w fun e w' => Post base b en w fieldV ans e w' := by
  have H := Aside0.mk ((h.alloc (.cells #[.bool false, .string ⟨#[]⟩, .string ⟨#[]⟩, .int .i64 0, .int .i64 0, .int .i64 0] 67)).here)
  have HF0 := Aside0.mk (show Fs base b en w fl0 ws (w.alloc (.cells #[.bool false, .string ⟨#[]⟩, .string ⟨#[]⟩, .int .i64 0, .int .i64 0, .int .i64 0] 67)) from ⟨h.alloc _, blk_new w _, h.blt⟩)
  have HREP := Lib.hid hrep
  have HW0 := Lib.hid hw0
  have HX := Lib.hid hx
  have hf1 := fld1
  have tokE : True := trivial
  have tokS : True := trivial
  have HS9 := Lib.hid hs9
  clear hs9
  clear h hrep hw0 hx
  unfold fieldRest at hans
  cases hn : nameP en ws0.tail with
  | bad er p =>
    rw [hn] at hans
    have HA := Aside0.mk hans
    have HN := Lib.hid hn
    clear hans hn
    go_enter Tryd.func58, Tryd.ntmps58
    go_wp2_with (first | (go_at_call 29; refine (have_got ⟨#[114, 101, 112, 101, 97, 116, 101, 100]⟩ wRepeated rfl H.out).mono ?_; rintro e w1 ⟨rfl, hg⟩; rw [← HW0.out] at hg; rw [← HREP.out]; have HF1 := Aside0.mk (HF0.out.got_ hg); obtain ⟨c0, c1, c2, c3, c4, c5⟩ := HF1.out.cells; obtain ⟨f0, f1, f2, f3, f4, f5⟩ := HF1.out.free; have hl1 := blk_lt HF1.out.blk; have HG1 := Aside0.mk (HF1.out.set 0 (.bool rep) { fl0 with rep := rep } rfl); clear hg) | (go_at_call 28; refine (peek_got HG1.out.got.here).mono ?_; rintro e w2 ⟨rfl, hb⟩; rw [← HX.out]; have HF2 := Aside0.mk ((HG1.out.below hb).alloc (.cells #[.int .i64 x.kind, .string x.text, .int .i64 x.pos.line, .int .i64 x.pos.col] 86)); have bk2 := Aside0.mk (blk_new w2 (.cells #[.int .i64 x.kind, .string x.text, .int .i64 x.pos.line, .int .i64 x.pos.col] 86)); have p1 : (w2.alloc (.cells #[.int .i64 x.kind, .string x.text, .int .i64 x.pos.line, .int .i64 x.pos.col] 86)).cell? ⟨w2.heap.size, 1, none⟩ = some (.string x.text) := blk_cell bk2.out 1; have P1 := Aside0.mk (show (w2.alloc (.cells #[.int .i64 x.kind, .string x.text, .int .i64 x.pos.line, .int .i64 x.pos.col] 86)).drew.cell? ⟨w2.heap.size, 1, none⟩ = some (.string x.text) from p1); clear hb))
    go_region_held3 (fun w' => w'.cell? ⟨w2.heap.size, 1, none⟩ = some (.string x.text)) (first | (with_reducible exact pw_cell_below hB3 P1.out) | go_keep) (first | (go_at_call 78; with_reducible refine (scalars_calls (w2.alloc (.cells #[.int .i64 x.kind, .string x.text, .int .i64 x.pos.line, .int .i64 x.pos.col] 86)).drew).mono ?_; rintro e w3 ⟨A1, c1', rfl, hC1, hc1, hB3⟩) | (go_at_call 77; with_reducible refine (scal_contains A1 c1' x.text w3 hC1).mono ?_; rintro e w' ⟨rfl, rfl⟩; rw [HS9.out]))
    have HF3 := Aside0.mk (HF2.out.below (below_then ((Below.refl _ _).drew) (Nat.le_refl _) hB3))
    go_wp2_with (first | (go_at_call 54; refine (next_got HF3.out.got.here).mono ?_; rintro e w4 ⟨rfl, hg⟩; rw [← HX.out]; have HF4 := Aside0.mk (HF3.out.got_ hg); obtain ⟨c0, c1, c2, c3, c4, c5⟩ := HF4.out.cells; obtain ⟨f0, f1, f2, f3, f4, f5⟩ := HF4.out.free; have hl4 := blk_lt HF4.out.blk; have HG4 := Aside0.mk (HF4.out.set 1 (.string x.text) { fl0 with rep := rep, ty := x.text } rfl); clear hg) | (go_at_call 56; refine (pname_got _ HG4.out.got.here).mono ?_; rintro e w5 hp; obtain ⟨rfl, hc⟩ := hp.bad HN.out; have HC := Aside0.mk hc; clear hp hc; unfold flt))
    refine ⟨rfl, ?_⟩
    rw [HA.out]
    exact ⟨rfl, HG4.out.got.ch.trans HC.out⟩
  | ok nm ws2 =>
    rw [hn, Rs.bind_ok] at hans
    have HN := Lib.hid hn
    clear hn
    cases he : wantP en kEq ws2 with
    | bad er p =>
      rw [he] at hans
      have HA := Aside0.mk hans
      have HE := Lib.hid he
      clear hans he
      go_enter Tryd.func58, Tryd.ntmps58
      go_wp2_with (first | (go_at_call 29; refine (have_got ⟨#[114, 101, 112, 101, 97, 116, 101, 100]⟩ wRepeated rfl H.out).mono ?_; rintro e w1 ⟨rfl, hg⟩; rw [← HW0.out] at hg; rw [← HREP.out]; have HF1 := Aside0.mk (HF0.out.got_ hg); obtain ⟨c0, c1, c2, c3, c4, c5⟩ := HF1.out.cells; obtain ⟨f0, f1, f2, f3, f4, f5⟩ := HF1.out.free; have hl1 := blk_lt HF1.out.blk; have HG1 := Aside0.mk (HF1.out.set 0 (.bool rep) { fl0 with rep := rep } rfl); clear hg) | (go_at_call 28; refine (peek_got HG1.out.got.here).mono ?_; rintro e w2 ⟨rfl, hb⟩; rw [← HX.out]; have HF2 := Aside0.mk ((HG1.out.below hb).alloc (.cells #[.int .i64 x.kind, .string x.text, .int .i64 x.pos.line, .int .i64 x.pos.col] 86)); have bk2 := Aside0.mk (blk_new w2 (.cells #[.int .i64 x.kind, .string x.text, .int .i64 x.pos.line, .int .i64 x.pos.col] 86)); have p1 : (w2.alloc (.cells #[.int .i64 x.kind, .string x.text, .int .i64 x.pos.line, .int .i64 x.pos.col] 86)).cell? ⟨w2.heap.size, 1, none⟩ = some (.string x.text) := blk_cell bk2.out 1; have P1 := Aside0.mk (show (w2.alloc (.cells #[.int .i64 x.kind, .string x.text, .int .i64 x.pos.line, .int .i64 x.pos.col] 86)).drew.cell? ⟨w2.heap.size, 1, none⟩ = some (.string x.text) from p1); clear hb))
      go_region_held3 (fun w' => w'.cell? ⟨w2.heap.size, 1, none⟩ = some (.string x.text)) (first | (with_reducible exact pw_cell_below hB3 P1.out) | go_keep) (first | (go_at_call 78; with_reducible refine (scalars_calls (w2.alloc (.cells #[.int .i64 x.kind, .string x.text, .int .i64 x.pos.line, .int .i64 x.pos.col] 86)).drew).mono ?_; rintro e w3 ⟨A1, c1', rfl, hC1, hc1, hB3⟩) | (go_at_call 77; with_reducible refine (scal_contains A1 c1' x.text w3 hC1).mono ?_; rintro e w' ⟨rfl, rfl⟩; rw [HS9.out]))
      have HF3 := Aside0.mk (HF2.out.below (below_then ((Below.refl _ _).drew) (Nat.le_refl _) hB3))
      go_wp2_with (first | (go_at_call 54; refine (next_got HF3.out.got.here).mono ?_; rintro e w4 ⟨rfl, hg⟩; rw [← HX.out]; have HF4 := Aside0.mk (HF3.out.got_ hg); obtain ⟨c0, c1, c2, c3, c4, c5⟩ := HF4.out.cells; obtain ⟨f0, f1, f2, f3, f4, f5⟩ := HF4.out.free; have hl4 := blk_lt HF4.out.blk; have HG4 := Aside0.mk (HF4.out.set 1 (.string x.text) { fl0 with rep := rep, ty := x.text } rfl); clear hg) | (go_at_call 56; refine (pname_got _ HG4.out.got.here).mono ?_; rintro e w5 hp; obtain ⟨rfl, hg⟩ := post_name hp HN.out; have HF5 := Aside0.mk (HG4.out.got_ hg); obtain ⟨c0, c1, c2, c3, c4, c5⟩ := HF5.out.cells; obtain ⟨f0, f1, f2, f3, f4, f5⟩ := HF5.out.free; have hl5 := blk_lt HF5.out.blk; have HG5 := Aside0.mk (((HF5.out.set 2 (.string nm.1) { fl0 with rep := rep, ty := x.text, name := nm.1 } rfl).set 4 (.int .i64 nm.2.line) { fl0 with rep := rep, ty := x.text, name := nm.1, pos := ⟨nm.2.line, 0⟩ } rfl).set 5 (.int .i64 nm.2.col) ⟨rep, x.text, nm.1, 0, nm.2⟩ rfl); clear hp hg) | (go_at_call 57; have _t := tokE; refine (want_one ⟨#[61]⟩ _ _ ?hE1 HG5.out.got.here).mono ?_; (case hE1 => simp only [size_set]); rintro e w6 hp; clear tokE _t; obtain ⟨rfl, hc⟩ := hp.bad HE.out; have HC := Aside0.mk hc; clear hp hc; unfold flt))
      refine ⟨rfl, ?_⟩
      rw [HA.out]
      exact ⟨rfl, HG5.out.got.ch.trans HC.out⟩
    | ok u1 ws3 =>
      rw [he, Rs.bind_ok] at hans
      have HE := Lib.hid he
      clear he
      cases hk : numberP en ws3 with
      | bad er p =>
        rw [hk] at hans
        have HA := Aside0.mk hans
        have HK := Lib.hid hk
        clear hans hk
        go_enter Tryd.func58, Tryd.ntmps58
        go_wp2_with (first | (go_at_call 29; refine (have_got ⟨#[114, 101, 112, 101, 97, 116, 101, 100]⟩ wRepeated rfl H.out).mono ?_; rintro e w1 ⟨rfl, hg⟩; rw [← HW0.out] at hg; rw [← HREP.out]; have HF1 := Aside0.mk (HF0.out.got_ hg); obtain ⟨c0, c1, c2, c3, c4, c5⟩ := HF1.out.cells; obtain ⟨f0, f1, f2, f3, f4, f5⟩ := HF1.out.free; have hl1 := blk_lt HF1.out.blk; have HG1 := Aside0.mk (HF1.out.set 0 (.bool rep) { fl0 with rep := rep } rfl); clear hg) | (go_at_call 28; refine (peek_got HG1.out.got.here).mono ?_; rintro e w2 ⟨rfl, hb⟩; rw [← HX.out]; have HF2 := Aside0.mk ((HG1.out.below hb).alloc (.cells #[.int .i64 x.kind, .string x.text, .int .i64 x.pos.line, .int .i64 x.pos.col] 86)); have bk2 := Aside0.mk (blk_new w2 (.cells #[.int .i64 x.kind, .string x.text, .int .i64 x.pos.line, .int .i64 x.pos.col] 86)); have p1 : (w2.alloc (.cells #[.int .i64 x.kind, .string x.text, .int .i64 x.pos.line, .int .i64 x.pos.col] 86)).cell? ⟨w2.heap.size, 1, none⟩ = some (.string x.text) := blk_cell bk2.out 1; have P1 := Aside0.mk (show (w2.alloc (.cells #[.int .i64 x.kind, .string x.text, .int .i64 x.pos.line, .int .i64 x.pos.col] 86)).drew.cell? ⟨w2.heap.size, 1, none⟩ = some (.string x.text) from p1); clear hb))
        go_region_held3 (fun w' => w'.cell? ⟨w2.heap.size, 1, none⟩ = some (.string x.text)) (first | (with_reducible exact pw_cell_below hB3 P1.out) | go_keep) (first | (go_at_call 78; with_reducible refine (scalars_calls (w2.alloc (.cells #[.int .i64 x.kind, .string x.text, .int .i64 x.pos.line, .int .i64 x.pos.col] 86)).drew).mono ?_; rintro e w3 ⟨A1, c1', rfl, hC1, hc1, hB3⟩) | (go_at_call 77; with_reducible refine (scal_contains A1 c1' x.text w3 hC1).mono ?_; rintro e w' ⟨rfl, rfl⟩; rw [HS9.out]))
        have HF3 := Aside0.mk (HF2.out.below (below_then ((Below.refl _ _).drew) (Nat.le_refl _) hB3))
        go_wp2_with (first | (go_at_call 54; refine (next_got HF3.out.got.here).mono ?_; rintro e w4 ⟨rfl, hg⟩; rw [← HX.out]; have HF4 := Aside0.mk (HF3.out.got_ hg); obtain ⟨c0, c1, c2, c3, c4, c5⟩ := HF4.out.cells; obtain ⟨f0, f1, f2, f3, f4, f5⟩ := HF4.out.free; have hl4 := blk_lt HF4.out.blk; have HG4 := Aside0.mk (HF4.out.set 1 (.string x.text) { fl0 with rep := rep, ty := x.text } rfl); clear hg) | (go_at_call 56; refine (pname_got _ HG4.out.got.here).mono ?_; rintro e w5 hp; obtain ⟨rfl, hg⟩ := post_name hp HN.out; have HF5 := Aside0.mk (HG4.out.got_ hg); obtain ⟨c0, c1, c2, c3, c4, c5⟩ := HF5.out.cells; obtain ⟨f0, f1, f2, f3, f4, f5⟩ := HF5.out.free; have hl5 := blk_lt HF5.out.blk; have HG5 := Aside0.mk (((HF5.out.set 2 (.string nm.1) { fl0 with rep := rep, ty := x.text, name := nm.1 } rfl).set 4 (.int .i64 nm.2.line) { fl0 with rep := rep, ty := x.text, name := nm.1, pos := ⟨nm.2.line, 0⟩ } rfl).set 5 (.int .i64 nm.2.col) ⟨rep, x.text, nm.1, 0, nm.2⟩ rfl); clear hp hg) | (go_at_call 57; have _t := tokE; refine (want_one ⟨#[61]⟩ _ _ ?hE1 HG5.out.got.here).mono ?_; (case hE1 => simp only [size_set]); rintro e w6 hp; clear tokE _t; obtain ⟨rfl, hg⟩ := post_unit hp HE.out; have HF6 := Aside0.mk (HG5.out.got_ hg); clear hp hg) | (go_at_call 59; refine (number_got _ HF6.out.got.here).mono ?_; rintro e w7 hp; obtain ⟨rfl, hc⟩ := hp.bad HK.out; have HC := Aside0.mk hc; clear hp hc; unfold flt))
        refine ⟨rfl, ?_⟩
        rw [HA.out]
        exact ⟨rfl, HF6.out.got.ch.trans HC.out⟩
      | ok k ws4 =>
        rw [hk, Rs.bind_ok] at hans
        have HK := Lib.hid hk
        clear hk
        cases hm : wantP en kSemi ws4 with
        | bad er p =>
          rw [hm] at hans
          have HA := Aside0.mk hans
          have HM := Lib.hid hm
          clear hans hm
          go_enter Tryd.func58, Tryd.ntmps58
          go_wp2_with (first | (go_at_call 29; refine (have_got ⟨#[114, 101, 112, 101, 97, 116, 101, 100]⟩ wRepeated rfl H.out).mono ?_; rintro e w1 ⟨rfl, hg⟩; rw [← HW0.out] at hg; rw [← HREP.out]; have HF1 := Aside0.mk (HF0.out.got_ hg); obtain ⟨c0, c1, c2, c3, c4, c5⟩ := HF1.out.cells; obtain ⟨f0, f1, f2, f3, f4, f5⟩ := HF1.out.free; have hl1 := blk_lt HF1.out.blk; have HG1 := Aside0.mk (HF1.out.set 0 (.bool rep) { fl0 with rep := rep } rfl); clear hg) | (go_at_call 28; refine (peek_got HG1.out.got.here).mono ?_; rintro e w2 ⟨rfl, hb⟩; rw [← HX.out]; have HF2 := Aside0.mk ((HG1.out.below hb).alloc (.cells #[.int .i64 x.kind, .string x.text, .int .i64 x.pos.line, .int .i64 x.pos.col] 86)); have bk2 := Aside0.mk (blk_new w2 (.cells #[.int .i64 x.kind, .string x.text, .int .i64 x.pos.line, .int .i64 x.pos.col] 86)); have p1 : (w2.alloc (.cells #[.int .i64 x.kind, .string x.text, .int .i64 x.pos.line, .int .i64 x.pos.col] 86)).cell? ⟨w2.heap.size, 1, none⟩ = some (.string x.text) := blk_cell bk2.out 1; have P1 := Aside0.mk (show (w2.alloc (.cells #[.int .i64 x.kind, .string x.text, .int .i64 x.pos.line, .int .i64 x.pos.col] 86)).drew.cell? ⟨w2.heap.size, 1, none⟩ = some (.string x.text) from p1); clear hb))
          go_region_held3 (fun w' => w'.cell? ⟨w2.heap.size, 1, none⟩ = some (.string x.text)) (first | (with_reducible exact pw_cell_below hB3 P1.out) | go_keep) (first | (go_at_call 78; with_reducible refine (scalars_calls (w2.alloc (.cells #[.int .i64 x.kind, .string x.text, .int .i64 x.pos.line, .int .i64 x.pos.col] 86)).drew).mono ?_; rintro e w3 ⟨A1, c1', rfl, hC1, hc1, hB3⟩) | (go_at_call 77; with_reducible refine (scal_contains A1 c1' x.text w3 hC1).mono ?_; rintro e w' ⟨rfl, rfl⟩; rw [HS9.out]))
          have HF3 := Aside0.mk (HF2.out.below (below_then ((Below.refl _ _).drew) (Nat.le_refl _) hB3))
          go_wp2_with (first | (go_at_call 54; refine (next_got HF3.out.got.here).mono ?_; rintro e w4 ⟨rfl, hg⟩; rw [← HX.out]; have HF4 := Aside0.mk (HF3.out.got_ hg); obtain ⟨c0, c1, c2, c3, c4, c5⟩ := HF4.out.cells; obtain ⟨f0, f1, f2, f3, f4, f5⟩ := HF4.out.free; have hl4 := blk_lt HF4.out.blk; have HG4 := Aside0.mk (HF4.out.set 1 (.string x.text) { fl0 with rep := rep, ty := x.text } rfl); clear hg) | (go_at_call 56; refine (pname_got _ HG4.out.got.here).mono ?_; rintro e w5 hp; obtain ⟨rfl, hg⟩ := post_name hp HN.out; have HF5 := Aside0.mk (HG4.out.got_ hg); obtain ⟨c0, c1, c2, c3, c4, c5⟩ := HF5.out.cells; obtain ⟨f0, f1, f2, f3, f4, f5⟩ := HF5.out.free; have hl5 := blk_lt HF5.out.blk; have HG5 := Aside0.mk (((HF5.out.set 2 (.string nm.1) { fl0 with rep := rep, ty := x.text, name := nm.1 } rfl).set 4 (.int .i64 nm.2.line) { fl0 with rep := rep, ty := x.text, name := nm.1, pos := ⟨nm.2.line, 0⟩ } rfl).set 5 (.int .i64 nm.2.col) ⟨rep, x.text, nm.1, 0, nm.2⟩ rfl); clear hp hg) | (go_at_call 57; have _t := tokE; refine (want_one ⟨#[61]⟩ _ _ ?hE1 HG5.out.got.here).mono ?_; (case hE1 => simp only [size_set]); rintro e w6 hp; clear tokE _t; obtain ⟨rfl, hg⟩ := post_unit hp HE.out; have HF6 := Aside0.mk (HG5.out.got_ hg); clear hp hg) | (go_at_call 59; refine (number_got _ HF6.out.got.here).mono ?_; rintro e w7 hp; obtain ⟨rfl, hg⟩ := post_int hp HK.out; have HF7 := Aside0.mk (HF6.out.got_ hg); obtain ⟨c0, c1, c2, c3, c4, c5⟩ := HF7.out.cells; obtain ⟨f0, f1, f2, f3, f4, f5⟩ := HF7.out.free; have hl7 := blk_lt HF7.out.blk; have HG7 := Aside0.mk (HF7.out.set 3 (.int .i64 k) ⟨rep, x.text, nm.1, k, nm.2⟩ rfl); clear hp hg) | (go_at_call 57; have _t := tokS; refine (want_one ⟨#[59]⟩ _ _ ?hE2 HG7.out.got.here).mono ?_; (case hE2 => simp only [size_set]); rintro e w8 hp; clear tokS _t; obtain ⟨rfl, hc⟩ := hp.bad HM.out; have HC := Aside0.mk hc; clear hp hc; unfold flt))
          refine ⟨rfl, ?_⟩
          rw [HA.out]
          exact ⟨rfl, HG7.out.got.ch.trans HC.out⟩
        | ok u2 ws5 =>
          rw [hm, Rs.bind_ok] at hans
          have HM := Lib.hid hm
          clear hm
          have HA := Aside0.mk hans
          clear hans
          go_enter Tryd.func58, Tryd.ntmps58
          go_wp2_with (first | (go_at_call 29; refine (have_got ⟨#[114, 101, 112, 101, 97, 116, 101, 100]⟩ wRepeated rfl H.out).mono ?_; rintro e w1 ⟨rfl, hg⟩; rw [← HW0.out] at hg; rw [← HREP.out]; have HF1 := Aside0.mk (HF0.out.got_ hg); obtain ⟨c0, c1, c2, c3, c4, c5⟩ := HF1.out.cells; obtain ⟨f0, f1, f2, f3, f4, f5⟩ := HF1.out.free; have hl1 := blk_lt HF1.out.blk; have HG1 := Aside0.mk (HF1.out.set 0 (.bool rep) { fl0 with rep := rep } rfl); clear hg) | (go_at_call 28; refine (peek_got HG1.out.got.here).mono ?_; rintro e w2 ⟨rfl, hb⟩; rw [← HX.out]; have HF2 := Aside0.mk ((HG1.out.below hb).alloc (.cells #[.int .i64 x.kind, .string x.text, .int .i64 x.pos.line, .int .i64 x.pos.col] 86)); have bk2 := Aside0.mk (blk_new w2 (.cells #[.int .i64 x.kind, .string x.text, .int .i64 x.pos.line, .int .i64 x.pos.col] 86)); have p1 : (w2.alloc (.cells #[.int .i64 x.kind, .string x.text, .int .i64 x.pos.line, .int .i64 x.pos.col] 86)).cell? ⟨w2.heap.size, 1, none⟩ = some (.string x.text) := blk_cell bk2.out 1; have P1 := Aside0.mk (show (w2.alloc (.cells #[.int .i64 x.kind, .string x.text, .int .i64 x.pos.line, .int .i64 x.pos.col] 86)).drew.cell? ⟨w2.heap.size, 1, none⟩ = some (.string x.text) from p1); clear hb))
          go_region_held3 (fun w' => w'.cell? ⟨w2.heap.size, 1, none⟩ = some (.string x.text)) (first | (with_reducible exact pw_cell_below hB3 P1.out) | go_keep) (first | (go_at_call 78; with_reducible refine (scalars_calls (w2.alloc (.cells #[.int .i64 x.kind, .string x.text, .int .i64 x.pos.line, .int .i64 x.pos.col] 86)).drew).mono ?_; rintro e w3 ⟨A1, c1', rfl, hC1, hc1, hB3⟩) | (go_at_call 77; with_reducible refine (scal_contains A1 c1' x.text w3 hC1).mono ?_; rintro e w' ⟨rfl, rfl⟩; rw [HS9.out]))
          have HF3 := Aside0.mk (HF2.out.below (below_then ((Below.refl _ _).drew) (Nat.le_refl _) hB3))
          go_wp2_with (first | (go_at_call 54; refine (next_got HF3.out.got.here).mono ?_; rintro e w4 ⟨rfl, hg⟩; rw [← HX.out]; have HF4 := Aside0.mk (HF3.out.got_ hg); obtain ⟨c0, c1, c2, c3, c4, c5⟩ := HF4.out.cells; obtain ⟨f0, f1, f2, f3, f4, f5⟩ := HF4.out.free; have hl4 := blk_lt HF4.out.blk; have HG4 := Aside0.mk (HF4.out.set 1 (.string x.text) { fl0 with rep := rep, ty := x.text } rfl); clear hg) | (go_at_call 56; refine (pname_got _ HG4.out.got.here).mono ?_; rintro e w5 hp; obtain ⟨rfl, hg⟩ := post_name hp HN.out; have HF5 := Aside0.mk (HG4.out.got_ hg); obtain ⟨c0, c1, c2, c3, c4, c5⟩ := HF5.out.cells; obtain ⟨f0, f1, f2, f3, f4, f5⟩ := HF5.out.free; have hl5 := blk_lt HF5.out.blk; have HG5 := Aside0.mk (((HF5.out.set 2 (.string nm.1) { fl0 with rep := rep, ty := x.text, name := nm.1 } rfl).set 4 (.int .i64 nm.2.line) { fl0 with rep := rep, ty := x.text, name := nm.1, pos := ⟨nm.2.line, 0⟩ } rfl).set 5 (.int .i64 nm.2.col) ⟨rep, x.text, nm.1, 0, nm.2⟩ rfl); clear hp hg) | (go_at_call 57; have _t := tokE; refine (want_one ⟨#[61]⟩ _ _ ?hE1 HG5.out.got.here).mono ?_; (case hE1 => simp only [size_set]); rintro e w6 hp; clear tokE _t; obtain ⟨rfl, hg⟩ := post_unit hp HE.out; have HF6 := Aside0.mk (HG5.out.got_ hg); clear hp hg) | (go_at_call 59; refine (number_got _ HF6.out.got.here).mono ?_; rintro e w7 hp; obtain ⟨rfl, hg⟩ := post_int hp HK.out; have HF7 := Aside0.mk (HF6.out.got_ hg); obtain ⟨c0, c1, c2, c3, c4, c5⟩ := HF7.out.cells; obtain ⟨f0, f1, f2, f3, f4, f5⟩ := HF7.out.free; have hl7 := blk_lt HF7.out.blk; have HG7 := Aside0.mk (HF7.out.set 3 (.int .i64 k) ⟨rep, x.text, nm.1, k, nm.2⟩ rfl); clear hp hg) | (go_at_call 57; have _t := tokS; refine (want_one ⟨#[59]⟩ _ _ ?hE2 HG7.out.got.here).mono ?_; (case hE2 => simp only [size_set]); rintro e w8 hp; clear tokS _t; obtain ⟨rfl, hg⟩ := post_unit hp HM.out; have HF8 := Aside0.mk (HG7.out.got_ hg); obtain ⟨c0, c1, c2, c3, c4, c5⟩ := HF8.out.cells; obtain ⟨f0, f1, f2, f3, f4, f5⟩ := HF8.out.free; have hl8 := blk_lt HF8.out.blk; clear hp hg))
          refine bodyPost_ret (results_c rfl _ _ w.heap.size _ _ _ _ rfl (put6 _ _ _ _ _ _ HF8.out.blk) Tryd.underlying67 rfl size_fl) rfl ?_
          rw [HA.out]
          exact ⟨_, rfl, rfl, (((((((HF8.out.set 0 _ _ rfl).set 1 _ _ rfl).set 2 _ _ rfl).set 3 _ _ rfl).set 4 _ _ rfl).set 5 _ ⟨rep, x.text, nm.1, k, nm.2⟩ rfl)).got⟩
theorem field_got {base b : Nat} {en : Pos} {ws : List Wd} (w : World) (h : Got base b en ws w w) :
    Calls Tryd.prog 58 #[.pointer (some ⟨b, 0, none⟩)] w fun e w' => Post base b en w fieldV (fieldP en ws) e w' := by
  obtain ⟨ws0, hw0⟩ : ∃ ws0, ws0 = if haveB en wRepeated ws then ws.tail else ws := ⟨_, rfl⟩
  have hd : fieldP en ws = (typeP en ws0).bind fun ty ws1 => fieldRest en (haveB en wRepeated ws) ty ws1 := by rw [hw0]; rfl
  rw [hd]
  unfold typeP
  have hsc := scalar_eq (peekW en ws0).text.data.toList
  by_cases h0 : (peekW en ws0).text.data.toList = []
  · rw [if_neg (by rw [h0]; decide)]
    exact field_t1 w h _ rfl ws0 hw0 _ rfl (by rw [ByteArray.toList_eq, h0]; rfl) _ rfl
  · rw [decide_eq_true h0, Bool.true_and] at hsc
    have h1 : (peekW en ws0).text.toList.isEmpty = false := by rw [ByteArray.toList_eq]; simpa using h0
    by_cases hs : 0 < scalarN (peekW en ws0).text.data.toList
    · rw [if_pos hs]
      exact field_t3 w h _ rfl ws0 hw0 _ rfl h1 (by rw [← hsc]; exact decide_eq_true hs) _ rfl
    · rw [if_neg hs]
      exact field_t2 w h _ rfl ws0 hw0 _ rfl h1 (by rw [← hsc]; exact decide_eq_false hs) _ rfl
end Go.Proofs.YtfcpfbdlkanlpaaDoor
