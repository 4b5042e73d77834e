/- The parser's message, the walk. PRINTED by wip/tools/gen_msg.py. -/
import Derived.Test.YtfcpfbdlkanlpaaDoorParMsg
namespace Go.Proofs.YtfcpfbdlkanlpaaDoor
open Go.RowKit Go.Proofs.YtfcpfbdlkanlpaaDoorW.PrintWords Go.Proofs.YtfcpfbdlkanlpaaDoorW.PrintLast
set_option linter.unusedVariables false
set_option linter.unusedSimpArgs false

theorem Db.start1 {base b : Nat} {en p : Pos} {w w1 : World} {ws : List Wd} (h : Got base b en ws w w) (hb : Below ((w.alloc (.cells #[.int .i64 p.line, .int .i64 p.col] 41)).alloc zDecl).heap.size ((w.alloc (.cells #[.int .i64 p.line, .int .i64 p.col] 41)).alloc zDecl) w1) :
    Db base b en w (w.heap.size + 1) w1.heap.size 1 (⟨#[]⟩, pos0) nilS nilS nilS nilS ws (w1.alloc (.cells #[.int .i64 1, .string ⟨#[]⟩, .int .i64 0, .int .i64 0, nilS, nilS, nilS, nilS] 49)) := by
  have hs : (w.alloc (.cells #[.int .i64 p.line, .int .i64 p.col] 41)).heap.size = w.heap.size + 1 := World.size_alloc _ _
  have bk := blk_below (blk_new (w.alloc (.cells #[.int .i64 p.line, .int .i64 p.col] 41)) zDecl) hb
  rw [hs] at bk
  exact ⟨(((h.alloc _).alloc _).below hb).alloc _, blk_alloc bk _, blk_new w1 _, h.blt, by omega, blk_lt bk⟩
/-- What message answers, at this fuel. -/
def MsgIs (n : Nat) : Prop := ∀ {base b : Nat} {en : Pos} {ws : List Wd} (depth : Nat) (p : Pos) (w : World), Got base b en ws w w → ws.length < n → ws.length ≤ 100000 → depth ≤ 1000 →
    Calls Tryd.prog 30 #[.pointer (some ⟨b, 0, none⟩), .int .i64 depth, .agg #[.int .i64 p.line, .int .i64 p.col]] w fun e w' => Post base b en w (declV w b) (msgP en n depth p ws) e w'
set_option maxHeartbeats 8000000 in
set_option maxRecDepth 20000 in
theorem msg_step (n : Nat) (ih : ∀ m, m < n → MsgIs m) {base b : Nat} {en : Pos} {ws : List Wd} (depth : Nat) (p : Pos) (w : World) (h : Got base b en ws w w) (hn : ws.length < n) (hl : ws.length ≤ 100000) (hdep : depth ≤ 1000) :
    Calls Tryd.prog 30 #[.pointer (some ⟨b, 0, none⟩), .int .i64 depth, .agg #[.int .i64 p.line, .int .i64 p.col]] w fun e w' => Post base b en w (declV w b) (msgP en n depth p ws) e w' := by
  have h0 := Aside0.mk h
  have IH := Lib.hid ih
  have hf2 := fld2
  have tokO : True := trivial
  have tokA : True := trivial
  have tokB : True := trivial
  have tokC : True := trivial
  have hbl := h.blt
  clear h ih
  obtain ⟨ans, hans⟩ : ∃ a, a = msgP en n depth p ws := ⟨_, rfl⟩
  rw [← hans]
  unfold msgP deepP headP at hans
  by_cases hd : 8 < depth
  · rw [if_pos hd] at hans
    have HA := Aside0.mk (show ans = .bad 8 p from hans)
    clear hans
    go_enter Tryd.func30, Tryd.ntmps30
    go_wp2_with (go_at_call 55; refine (deep_bad b depth p _ hd).mono ?_; rintro e w1 ⟨rfl, hb⟩; have HB := Aside0.mk hb; clear hb; unfold flt)
    refine ⟨rfl, ?_⟩
    rw [HA.out]
    exact ⟨rfl, Ch.pre (below_alloc (below_alloc (Below.refl _ _) _) _) (Ch.of HB.out b)⟩

  · rw [if_neg hd] at hans
    cases hnm : nameP en ws with
    | bad er q =>
      rw [hnm] at hans
      have HA := Aside0.mk (show ans = .bad er q from hans)
      have HN := Lib.hid hnm
      clear hans hnm
      go_enter Tryd.func30, Tryd.ntmps30
      go_wp2_with (first | (go_at_call 55; refine (deep_fine b depth p _ (by omega)).mono ?_; rintro e w1 ⟨rfl, hb⟩; have HD1 := Aside0.mk (Db.start1 h0.out hb); have hl1 := blk_lt HD1.out.res; have HB1 := Aside0.mk hb; clear hb) | (go_at_call 56; refine (pname_got _ HD1.out.got.here).mono ?_; rintro e w2 hp; obtain ⟨rfl, hc⟩ := hp.bad HN.out; have HC := Aside0.mk hc; clear hp hc; unfold flt))
      refine ⟨rfl, ?_⟩
      rw [HA.out]
      exact ⟨rfl, HD1.out.got.ch.trans HC.out⟩

    | ok nm ws1 =>
      have hlen1 := nameP_len hnm
      rw [hnm, Rs.bind_ok] at hans
      have HN := Lib.hid hnm
      clear hnm
      cases ho : wantP en kOpen ws1 with
      | bad er q =>
        rw [ho] at hans
        have HA := Aside0.mk (show ans = .bad er q from hans)
        have HO := Lib.hid ho
        clear hans ho
        go_enter Tryd.func30, Tryd.ntmps30
        go_wp2_with (first | (go_at_call 55; refine (deep_fine b depth p _ (by omega)).mono ?_; rintro e w1 ⟨rfl, hb⟩; have HD1 := Aside0.mk (Db.start1 h0.out hb); have hl1 := blk_lt HD1.out.res; have HB1 := Aside0.mk hb; clear hb) | (go_at_call 56; refine (pname_got _ HD1.out.got.here).mono ?_; rintro e w2 hp; obtain ⟨rfl, hg⟩ := post_name hp HN.out; have HD2 := Aside0.mk (HD1.out.got_ hg); obtain ⟨c0, c1, c2, c3, c4, c5, c6, c7⟩ := HD2.out.cells; obtain ⟨f0, f1, f2, f3, f4, f5, f6, f7⟩ := free8 HD2.out.blk; have HD3 := Aside0.mk (((HD2.out.set 1 (.string nm.1) (k' := 1) (x' := (nm.1, pos0)) rfl).set 2 (.int .i64 nm.2.line) (k' := 1) (x' := (nm.1, ⟨nm.2.line, 0⟩)) rfl).set 3 (.int .i64 nm.2.col) (k' := 1) (x' := nm) rfl); clear hp hg) | (go_at_call 57; have _t := tokO; refine (want_one ⟨#[123]⟩ _ _ ?hO1 HD3.out.got.here).mono ?_; (case hO1 => simp only [size_set]); rintro e w3 hp; clear tokO _t; obtain ⟨rfl, hc⟩ := hp.bad HO.out; have HC := Aside0.mk hc; clear hp hc; unfold flt))
        refine ⟨rfl, ?_⟩
        rw [HA.out]
        exact ⟨rfl, HD3.out.got.ch.trans HC.out⟩

      | ok u ws2 =>
        have hlen2 := wantP_len ho
        rw [ho, Rs.bind_ok, Rs.bind_ok] at hans
        have HA := Lib.hid hans
        have HO := Lib.hid ho
        have hd8 : depth ≤ 8 := by omega
        clear hans ho hd
        go_enter Tryd.func30, Tryd.ntmps30
        go_wp2_with (first | (go_at_call 55; refine (deep_fine b depth p _ (by omega)).mono ?_; rintro e w1 ⟨rfl, hb⟩; have HD1 := Aside0.mk (Db.start1 h0.out hb); have hl1 := blk_lt HD1.out.res; have HB1 := Aside0.mk hb; clear hb) | (go_at_call 56; refine (pname_got _ HD1.out.got.here).mono ?_; rintro e w2 hp; obtain ⟨rfl, hg⟩ := post_name hp HN.out; have HD2 := Aside0.mk (HD1.out.got_ hg); obtain ⟨c0, c1, c2, c3, c4, c5, c6, c7⟩ := HD2.out.cells; obtain ⟨f0, f1, f2, f3, f4, f5, f6, f7⟩ := free8 HD2.out.blk; have HD3 := Aside0.mk (((HD2.out.set 1 (.string nm.1) (k' := 1) (x' := (nm.1, pos0)) rfl).set 2 (.int .i64 nm.2.line) (k' := 1) (x' := (nm.1, ⟨nm.2.line, 0⟩)) rfl).set 3 (.int .i64 nm.2.col) (k' := 1) (x' := nm) rfl); clear hp hg) | (go_at_call 57; have _t := tokO; refine (want_one ⟨#[123]⟩ _ _ ?hO1 HD3.out.got.here).mono ?_; (case hO1 => simp only [size_set]); rintro e w3 hp; clear tokO _t; obtain ⟨rfl, hg⟩ := post_unit hp HO.out; have HD4 := Aside0.mk (HD3.out.got_ hg); clear hp hg))
        obtain ⟨r, hr⟩ : ∃ r, r = w.heap.size + 1 := ⟨_, rfl⟩
        obtain ⟨g, hg⟩ : ∃ g, g = w1.heap.size := ⟨_, rfl⟩
        have HE0 := Aside0.mk (show Mg base b en w r g nm nilS [] nilS [] ws2 w3 from ⟨by rw [hr, hg]; exact HD4.out, Kd.R_nil _ _ _ _ _, Kd.R_nil _ _ _ _ _⟩)
        rw [← hg, ← hr]
        clear hr hg
        go_loopw [] (fun wr => ∃ (fs : List Fl) (v4 : Value) (ds : List De) (v7 : Value) (ws3 : List Wd) (m : Nat), ws3.length < m ∧ m ≤ n ∧ fs.length + ds.length + ws3.length ≤ 100000 ∧ Aside0 (Mg base b en w r g nm v4 fs v7 ds ws3 wr ∧ msgGo en m depth nm fs ds ws3 = ans)) (fun wr => wlen b wr)
        case atStart => exact ⟨[], nilS, [], nilS, ws2, n, by omega, Nat.le_refl _, by simp; omega, ⟨HE0.out, HA.out.symm⟩⟩
        case round =>
          clear HE0 HD4 HD3 HD2 HD1 c0 c1 c2 c3 c4 c5 c6 c7 f0 f1 f2 f3 f4 f5 f6 f7
          obtain ⟨fs, v4, ds, v7, ws3, m, hm, hmn, hvl, hR⟩ := hrel
          have HE := Aside0.mk hR.out.1
          have hw := hR.out.2
          clear hR
          obtain ⟨m, rfl⟩ : ∃ m', m = m' + 1 := ⟨m - 1, by omega⟩
          simp only [msgGo] at hw
          obtain ⟨A4, n4, hv4⟩ := Kd.R_slice HE.out.r4
          obtain ⟨A7, n7, hv7⟩ := Kd.R_slice HE.out.r7
          subst hv4 hv7
          have hl4 := Lib.hid (show ∀ f : Fl, (fs ++ [f]).length = fs.length + 1 from fun f => by rw [List.length_append, List.length_singleton])
          have hl7 := Lib.hid (show ∀ d : De, (ds ++ [d]).length = ds.length + 1 from fun d => by rw [List.length_append, List.length_singleton])
          cases hh : haveB en kShut ws3 with
          | true =>
            rw [hh, if_pos rfl] at hw
            have HW := Aside0.mk hw
            have HH := Lib.hid hh
            clear hw hh
            go_wp2_with (first | (go_at_call 29; have _t := tokA; refine (have_got ⟨#[125]⟩ kShut rfl HE.out.db.got.here).mono ?_; rintro e w4 ⟨rfl, hg⟩; clear tokA _t; rw [HH.out] at hg ⊢; (have hg2 : Got base b en ws3.tail _ w4 := hg); have HE1 := Aside0.mk (HE.out.got_ hg2); obtain ⟨c0, c1, c2, c3, c4, c5, c6, c7⟩ := HE1.out.db.cells; obtain ⟨r0, r1, r2, r3, r4, r5, r6, r7⟩ := HE1.out.db.rcells; obtain ⟨f0, f1, f2, f3, f4, f5, f6, f7⟩ := free8 HE1.out.db.res; clear hg hg2))
            refine bodyPost_ret (results_c rfl _ _ r _ _ _ _ rfl (put8 _ _ _ _ _ _ _ _ HE1.out.db.res) Tryd.underlying49 rfl size_de) rfl ?_
            rw [← HW.out]
            exact ⟨_, rfl, ⟨_, rfl, HE1.out.done _ _ _ _ _ _ _ _⟩, HE1.out.db.rfar _ _ _ _ _ _ _ _⟩

          | false =>
            rw [hh, if_neg (by decide)] at hw
            have HH := Lib.hid hh
            clear hh
            cases hm1 : haveB en wMessage ws3 with
            | true =>
              rw [hm1, if_pos rfl] at hw
              have htl := have_len hm1 (by decide)
              have HM := Lib.hid hm1
              clear hm1
              have HWW := Aside0.mk (show (msgP en m (depth + 1) (peekW en ws3).pos ws3.tail).bind (fun d ws2 => msgGo en m depth nm fs (ds ++ [d]) ws2) = ans from hw)
              clear hw
              have hq1 : Aside0 (m < n) := ⟨by omega⟩
              have hq2 : Aside0 (ws3.tail.length < m) := ⟨by omega⟩
              have hq3 : Aside0 (ws3.tail.length ≤ 100000) := ⟨by omega⟩
              have hq4 : Aside0 (depth + 1 ≤ 1000) := ⟨Nat.le_trans (Nat.succ_le_succ hd8) (by decide)⟩
              have hwr : IntKind.i64.wrap ((depth : Int) + 1) = ((depth + 1 : Nat) : Int) := by rw [IntWalk.i64_in _ (by omega)]; rfl
              have hwr2 : wrap64 ((depth : Int) + 1) = ((depth + 1 : Nat) : Int) := by rw [IntWalk.wrap64_in _ (by omega)]; rfl
              go_wp2_with (first | (go_at_call 29; have _t := tokA; refine (have_got ⟨#[125]⟩ kShut rfl HE.out.db.got.here).mono ?_; rintro e w4 ⟨rfl, hg⟩; clear tokA _t; rw [HH.out] at hg ⊢; (have hg2 : Got base b en ws3 _ w4 := hg); have HE1 := Aside0.mk (HE.out.got_ hg2); clear hg hg2) | (go_at_call 28; refine (peek_got HE1.out.db.got.here).mono ?_; rintro e w5 ⟨rfl, hb⟩; have HE2 := Aside0.mk ((HE1.out.below hb).alloc (.cells #[.int .i64 (peekW en ws3).pos.line, .int .i64 (peekW en ws3).pos.col] 41)); have pk := Aside0.mk (blk_new w5 (.cells #[.int .i64 (peekW en ws3).pos.line, .int .i64 (peekW en ws3).pos.col] 41)); have hl5 := blk_lt (HE1.out.below hb).db.blk; clear hb) | (go_at_call 29; have _t := tokB; refine (have_got ⟨#[109, 101, 115, 115, 97, 103, 101]⟩ wMessage rfl HE2.out.db.got.here).mono ?_; rintro e w6 ⟨rfl, hg⟩; clear tokB _t; rw [HM.out] at hg ⊢; (have hg2 : Got base b en ws3.tail _ w6 := hg); have HE3 := Aside0.mk (HE2.out.got_ hg2); have pk3 := Aside0.mk (hg2.ch.blk pk.out (by have h1 := HE.out.db.bg; omega)); obtain ⟨_, _, _, _, c4, _, _, c7⟩ := HE3.out.db.cells; have a0 := blk_cell pk3.out 0; have a1 := blk_cell pk3.out 1; have f4 := blk_frozen HE3.out.db.blk 4; have f7 := blk_frozen HE3.out.db.blk 7; clear hg hg2))
              go_region_law (first | (refine app_step kP (w0 := w8) w8 w.heap.size (by rfl) (.tmp 41) (.tmp 47) 33 49 _ 136 rfl Tryd.underlying33 info_pd rfl (by decide) (by decide) _ ds d [.int .i64 d.kind, .string d.name, .int .i64 d.pos.line, .int .i64 d.pos.col, .slice B4 d.fs.length e4, .slice B5 d.vs.length e5, .slice B6 d.ms.length e6, .slice B7 d.inner.length e7] (fun k => g < k ∧ some k ≠ (Value.slice A4 fs.length n4).ownBlock) (fun k => w6.drew.heap.size ≤ k ∧ k ≠ b) rfl rfl rfl HM2.out HO2.out HE5.out.fresh HE5.out.r7 (Below.refl _ _) HE5.out.db.got.ch.size (by omega) ?_; intro v1 w9 ho hb hg hat1; obtain ⟨D1, e1, hv1⟩ := Kd.R_slice ho; rw [hl7.out] at hv1; subst hv1; have hne := HE5.out.db.own hg (fun j e => (HE5.out.r7.1 j e).1); have HE6 := Aside0.mk (HE5.out.pushD ho hg); have d7 := blk_cell hne.blk 7; have g7 := blk_frozen hne.blk 7; clear ho hb hg hat1 hne) | (go_simp; go_at_call 30; refine (IH.out m hq1.out (depth + 1) (peekW en ws3).pos _ HE3.out.drew.db.got.here hq2.out hq3.out hq4.out).mono ?_; rintro e w8 hp; have hw := HWW.out; rcases decl_split hp with ⟨er, q, hf, rfl, hc⟩ | ⟨d, ws4, B4, e4, B5, e5, B6, e6, B7, e7, hf, rfl, hM, hg⟩ <;> rw [hf] at hw; unfold flt; go_wp2_with fail; refine ⟨rfl, ?_⟩; rw [← (show Rs.bad er q = ans from hw)]; exact ⟨rfl, HE3.out.drew.db.got.ch.trans hc⟩; rw [Rs.bind_ok] at hw; have HW2 := Aside0.mk hw; have hlf := msgP_len hf; have HM2 := Aside0.mk (HE3.out.drew.lowM hM); have HO2 := Aside0.mk HE3.out.drew.okp; have HE5 := Aside0.mk (HE3.out.drew.got_ hg); obtain ⟨_, _, _, _, _, _, _, c7⟩ := HE5.out.db.cells; have cc7 : ∀ o, (w8.alloc o).cell? ⟨g, 7, none⟩ = _ := fun o => (HE5.out.alloc o).db.cells.2.2.2.2.2.2.2; have f7 := blk_frozen HE5.out.db.blk 7; have HF := Lib.hid hf; clear hw hp hg hf hM))
              all_goals clear hwr hwr2
              all_goals go_wp2_with fail
              all_goals go_roundw
              all_goals first
                | exact ⟨fs, _, ds ++ [d], _, ws4, m, by omega, by omega, by rw [hl7.out]; omega, ⟨HE6.out, HW2.out⟩⟩
                | (rw [show wlen b _ = ws3.length from HE.out.db.got.wlen, show wlen b _ = ws4.length from HE6.out.db.got.wlen]; omega)

            | false =>
              rw [hm1, if_neg (by decide)] at hw
              have HM := Lib.hid hm1
              clear hm1
              cases he1 : haveB en wEnum ws3 with
              | true =>
                rw [he1, if_pos rfl] at hw
                have htl := have_len he1 (by decide)
                have HQ := Lib.hid he1
                clear he1
                have HWW := Aside0.mk (show (enumP en m (depth + 1) (peekW en ws3).pos ws3.tail).bind (fun d ws2 => msgGo en m depth nm fs (ds ++ [d]) ws2) = ans from hw)
                clear hw
                have hq1 : Aside0 (m < n) := ⟨by omega⟩
                have hq2 : Aside0 (ws3.tail.length < m) := ⟨by omega⟩
                have hq3 : Aside0 (ws3.tail.length ≤ 100000) := ⟨by omega⟩
                have hq4 : Aside0 (depth + 1 ≤ 1000) := ⟨Nat.le_trans (Nat.succ_le_succ hd8) (by decide)⟩
                have hwr : IntKind.i64.wrap ((depth : Int) + 1) = ((depth + 1 : Nat) : Int) := by rw [IntWalk.i64_in _ (by omega)]; rfl
                have hwr2 : wrap64 ((depth : Int) + 1) = ((depth + 1 : Nat) : Int) := by rw [IntWalk.wrap64_in _ (by omega)]; rfl
                go_wp2_with (first | (go_at_call 29; have _t := tokA; refine (have_got ⟨#[125]⟩ kShut rfl HE.out.db.got.here).mono ?_; rintro e w4 ⟨rfl, hg⟩; clear tokA _t; rw [HH.out] at hg ⊢; (have hg2 : Got base b en ws3 _ w4 := hg); have HE1 := Aside0.mk (HE.out.got_ hg2); clear hg hg2) | (go_at_call 28; refine (peek_got HE1.out.db.got.here).mono ?_; rintro e w5 ⟨rfl, hb⟩; have HE2 := Aside0.mk ((HE1.out.below hb).alloc (.cells #[.int .i64 (peekW en ws3).pos.line, .int .i64 (peekW en ws3).pos.col] 41)); have pk := Aside0.mk (blk_new w5 (.cells #[.int .i64 (peekW en ws3).pos.line, .int .i64 (peekW en ws3).pos.col] 41)); have hl5 := blk_lt (HE1.out.below hb).db.blk; clear hb) | (go_at_call 29; have _t := tokB; refine (have_got ⟨#[109, 101, 115, 115, 97, 103, 101]⟩ wMessage rfl HE2.out.db.got.here).mono ?_; rintro e w6 ⟨rfl, hg⟩; clear tokB _t; rw [HM.out] at hg ⊢; (have hg2 : Got base b en ws3 _ w6 := hg); have HE3 := Aside0.mk (HE2.out.got_ hg2); have pk3 := Aside0.mk (hg2.ch.blk pk.out (by have h1 := HE.out.db.bg; omega)); clear hg hg2) | (go_at_call 29; have _t := tokC; refine (have_got ⟨#[101, 110, 117, 109]⟩ wEnum rfl HE3.out.db.got.here).mono ?_; rintro e w7 ⟨rfl, hg⟩; clear tokC _t; rw [HQ.out] at hg ⊢; (have hg2 : Got base b en ws3.tail _ w7 := hg); have HE4 := Aside0.mk (HE3.out.got_ hg2); have pk4 := Aside0.mk (hg2.ch.blk pk3.out (by have h1 := HE.out.db.bg; omega)); obtain ⟨_, _, _, _, c4, _, _, c7⟩ := HE4.out.db.cells; have a0 := blk_cell pk4.out 0; have a1 := blk_cell pk4.out 1; have f4 := blk_frozen HE4.out.db.blk 4; have f7 := blk_frozen HE4.out.db.blk 7; clear hg hg2))
                go_region_law (first | (refine app_step kP (w0 := w8) w8 w.heap.size (by rfl) (.tmp 54) (.tmp 60) 33 49 _ 136 rfl Tryd.underlying33 info_pd rfl (by decide) (by decide) _ ds d [.int .i64 d.kind, .string d.name, .int .i64 d.pos.line, .int .i64 d.pos.col, .slice B4 d.fs.length e4, .slice B5 d.vs.length e5, .slice B6 d.ms.length e6, .slice B7 d.inner.length e7] (fun k => g < k ∧ some k ≠ (Value.slice A4 fs.length n4).ownBlock) (fun k => w7.drew.heap.size ≤ k ∧ k ≠ b) rfl rfl rfl HM2.out HO2.out HE5.out.fresh HE5.out.r7 (Below.refl _ _) HE5.out.db.got.ch.size (by omega) ?_; intro v1 w9 ho hb hg hat1; obtain ⟨D1, e1, hv1⟩ := Kd.R_slice ho; rw [hl7.out] at hv1; subst hv1; have hne := HE5.out.db.own hg (fun j e => (HE5.out.r7.1 j e).1); have HE6 := Aside0.mk (HE5.out.pushD ho hg); have d7 := blk_cell hne.blk 7; have g7 := blk_frozen hne.blk 7; clear ho hb hg hat1 hne) | (go_simp; go_at_call 31; refine (enum_got m (depth + 1) (peekW en ws3).pos _ HE4.out.drew.db.got.here hq2.out hq3.out hq4.out).mono ?_; rintro e w8 hp; have hw := HWW.out; rcases decl_split hp with ⟨er, q, hf, rfl, hc⟩ | ⟨d, ws4, B4, e4, B5, e5, B6, e6, B7, e7, hf, rfl, hM, hg⟩ <;> rw [hf] at hw; unfold flt; go_wp2_with fail; refine ⟨rfl, ?_⟩; rw [← (show Rs.bad er q = ans from hw)]; exact ⟨rfl, HE4.out.drew.db.got.ch.trans hc⟩; rw [Rs.bind_ok] at hw; have HW2 := Aside0.mk hw; have hlf := enumP_len hf; have HM2 := Aside0.mk (HE4.out.drew.lowM hM); have HO2 := Aside0.mk HE4.out.drew.okp; have HE5 := Aside0.mk (HE4.out.drew.got_ hg); obtain ⟨_, _, _, _, _, _, _, c7⟩ := HE5.out.db.cells; have cc7 : ∀ o, (w8.alloc o).cell? ⟨g, 7, none⟩ = _ := fun o => (HE5.out.alloc o).db.cells.2.2.2.2.2.2.2; have f7 := blk_frozen HE5.out.db.blk 7; have HF := Lib.hid hf; clear hw hp hg hf hM))
                all_goals clear hwr hwr2
                all_goals go_wp2_with fail
                all_goals go_roundw
                all_goals first
                  | exact ⟨fs, _, ds ++ [d], _, ws4, m, by omega, by omega, by rw [hl7.out]; omega, ⟨HE6.out, HW2.out⟩⟩
                  | (rw [show wlen b _ = ws3.length from HE.out.db.got.wlen, show wlen b _ = ws4.length from HE6.out.db.got.wlen]; omega)

              | false =>
                rw [he1, if_neg (by decide)] at hw
                have HQ := Lib.hid he1
                clear he1
                have HWW := Aside0.mk hw
                clear hw
                go_wp2_with (first | (go_at_call 29; have _t := tokA; refine (have_got ⟨#[125]⟩ kShut rfl HE.out.db.got.here).mono ?_; rintro e w4 ⟨rfl, hg⟩; clear tokA _t; rw [HH.out] at hg ⊢; (have hg2 : Got base b en ws3 _ w4 := hg); have HE1 := Aside0.mk (HE.out.got_ hg2); clear hg hg2) | (go_at_call 28; refine (peek_got HE1.out.db.got.here).mono ?_; rintro e w5 ⟨rfl, hb⟩; have HE2 := Aside0.mk ((HE1.out.below hb).alloc (.cells #[.int .i64 (peekW en ws3).pos.line, .int .i64 (peekW en ws3).pos.col] 41)); have pk := Aside0.mk (blk_new w5 (.cells #[.int .i64 (peekW en ws3).pos.line, .int .i64 (peekW en ws3).pos.col] 41)); have hl5 := blk_lt (HE1.out.below hb).db.blk; clear hb) | (go_at_call 29; have _t := tokB; refine (have_got ⟨#[109, 101, 115, 115, 97, 103, 101]⟩ wMessage rfl HE2.out.db.got.here).mono ?_; rintro e w6 ⟨rfl, hg⟩; clear tokB _t; rw [HM.out] at hg ⊢; (have hg2 : Got base b en ws3 _ w6 := hg); have HE3 := Aside0.mk (HE2.out.got_ hg2); have pk3 := Aside0.mk (hg2.ch.blk pk.out (by have h1 := HE.out.db.bg; omega)); clear hg hg2) | (go_at_call 29; have _t := tokC; refine (have_got ⟨#[101, 110, 117, 109]⟩ wEnum rfl HE3.out.db.got.here).mono ?_; rintro e w7 ⟨rfl, hg⟩; clear tokC _t; rw [HQ.out] at hg ⊢; (have hg2 : Got base b en ws3 _ w7 := hg); have HE4 := Aside0.mk (HE3.out.got_ hg2); have pk4 := Aside0.mk (hg2.ch.blk pk3.out (by have h1 := HE.out.db.bg; omega)); obtain ⟨_, _, _, _, c4, _, _, c7⟩ := HE4.out.db.cells; have a0 := blk_cell pk4.out 0; have a1 := blk_cell pk4.out 1; have f4 := blk_frozen HE4.out.db.blk 4; have f7 := blk_frozen HE4.out.db.blk 7; clear hg hg2))
                go_region_law (first | (refine app_step kFl (w0 := w8) w8 w.heap.size (by rfl) (.tmp 31) (.tmp 34) 45 67 _ 64 rfl Tryd.underlying45 info_pf rfl (by decide) (by decide) _ fs f [.bool f.rep, .string f.ty, .string f.name, .int .i64 f.num, .int .i64 f.pos.line, .int .i64 f.pos.col] (fun k => g < k) (fun _ => False) rfl rfl rfl (kFl_mkM _ _ _ f) (fun _ hk => hk.elim) hF8.out HE5.out.r4 (Below.refl _ _) HE5.out.db.got.ch.size (by omega) ?_; intro v1 w9 ho hb hg hat1; obtain ⟨D1, e1, hv1⟩ := Kd.R_slice ho; rw [hl4.out] at hv1; subst hv1; have hne := HE5.out.db.own hg (fun j e => HE5.out.r4.1 j e); have HE6 := Aside0.mk (HE5.out.pushF ho hg hat1); have d4 := blk_cell hne.blk 4; have g4 := blk_frozen hne.blk 4; clear ho hb hg hat1 hne) | (go_simp; go_at_call 58; refine (field_got _ HE4.out.drew.db.got.here).mono ?_; rintro e w8 hp; have hw := HWW.out; rcases field_split hp with ⟨er, q, hf, rfl, hc⟩ | ⟨f, ws4, hf, rfl, hg⟩ <;> rw [hf] at hw; unfold flt; go_wp2_with fail; refine ⟨rfl, ?_⟩; rw [← (show Rs.bad er q = ans from hw)]; exact ⟨rfl, HE4.out.drew.db.got.ch.trans hc⟩; rw [Rs.bind_ok] at hw; have HW2 := Aside0.mk hw; have hlf := fieldP_len hf; have HE5 := Aside0.mk (HE4.out.drew.got_ hg); obtain ⟨_, _, _, _, c4, _, _, c7⟩ := HE5.out.db.cells; have cc4 : ∀ o, (w8.alloc o).cell? ⟨g, 4, none⟩ = _ := fun o => (HE5.out.alloc o).db.cells.2.2.2.2.1; have f4 := blk_frozen HE5.out.db.blk 4; have hF8 := Aside0.mk (show ∀ k, w8.heap.size ≤ k → g < k from fun k hk => Nat.lt_of_lt_of_le (blk_lt HE5.out.db.blk) hk); have HF := Lib.hid hf; clear hw hp hg hf))
                all_goals go_wp2_with fail
                all_goals go_roundw
                all_goals first
                  | exact ⟨fs ++ [f], _, ds, _, ws4, m, by omega, by omega, by rw [hl4.out]; omega, ⟨HE6.out, HW2.out⟩⟩
                  | (rw [show wlen b _ = ws3.length from HE.out.db.got.wlen, show wlen b _ = ws4.length from HE6.out.db.got.wlen]; omega)

theorem msg_got : ∀ n, MsgIs n := by
  intro n
  induction n using Nat.strongRecOn with
  | ind n ih => intro base b en ws depth p w h hn hl hdep; exact msg_step n ih depth p w h hn hl hdep
end Go.Proofs.YtfcpfbdlkanlpaaDoor
