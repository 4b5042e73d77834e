/- parse.File, the walk: a text that has words. PRINTED by wip/tools/gen_file.py. -/
import Derived.Test.YtfcpfbdlkanlpaaDoorFileA
import Derived.Test.YtfcpfbdlkanlpaaDoorFileB
namespace Go.Proofs.YtfcpfbdlkanlpaaDoor
open Go.RowKit Go.Proofs.YtfcpfbdlkanlpaaDoorW.PrintWords Go.Proofs.YtfcpfbdlkanlpaaDoorW.PrintLast
set_option linter.unusedVariables false
set_option linter.unusedSimpArgs false

set_option maxHeartbeats 20000000 in
set_option maxRecDepth 20000 in
theorem file_yes (text : ByteArray) (w : World) (hz : text.size ≤ 140737488351232) (hE : Env w) (he : (lexW text).e = 0) :
    Calls Tryd.prog 15 #[.string text] w fun e w' => FileOut w (fileEnd (fileGo (endW text) ((lexW text).ws.length + 1) [] (lexW text).ws)) e w' := by
  have HE := Aside0.mk hE
  clear hE
  have hgood := lexW_good text
  have hp0 : (lexW text).pos = pos0 := lexW_pos he
  have hmf : ∀ (fn : Fn) (first cap : Array Value) (w : World), (Instr.makeFunc fn first cap).run Tryd.prog w = .ok (.func fn first cap) w := fun _ _ _ _ => rfl
  have hf2 := fld2
  obtain ⟨lx, hlx⟩ : ∃ a, a = lexW text := ⟨_, rfl⟩
  rw [← hlx] at he hgood hp0 ⊢
  have HX := Lib.hid hlx
  obtain ⟨en, hen⟩ : ∃ a, a = endW text := ⟨_, rfl⟩
  rw [← hen]
  have HEN := Lib.hid hen
  obtain ⟨ans, hans⟩ : ∃ a, a = fileGo en (lx.ws.length + 1) [] lx.ws := ⟨_, rfl⟩
  rw [← hans]
  have HA := Lib.hid hans
  have HG := Lib.hid hgood.1
  have hl4 : lx.ws.length ≤ 4000 := hgood.2
  clear hlx hen hans hgood
  obtain ⟨lws, lpos, le⟩ := lx
  dsimp only at he hp0 hl4 HG HA
  subst he hp0
  have tokM : True := trivial
  have tokE : True := trivial
  have tokS : True := trivial
  go_enter_defers Tryd.func15, Tryd.ntmps15
  refine Code.wp_mono (fileQ_post (W := w) (f := fileEnd ans)) ?_
  obtain ⟨A0, A1, A2, hb0, hs0⟩ := three w
  have HT := Aside0.mk (show FileIn w (.slice none 0 0) (.int .i64 0) (.int .i64 0) (.int .i64 0) _ from ⟨A0, A1, A2, hb0⟩)
  have HS0 := Aside0.mk hs0
  clear A0 A1 A2 hb0 hs0
  go_wp2_with (first | (go_at_call 25; refine (words_calls text _ hz (HE.out.below HT.out.bel)).mono ?_; rintro e w1 ⟨v, rfl, hr, hb⟩; rw [← HX.out] at hr ⊢; obtain ⟨A, cw, hv⟩ := Kd.R_slice hr; subst hv; have HT1 := Aside0.mk (HT.out.below hb); have c0 := blk_cell HT1.out.ca 0; have c1 := blk_cell HT1.out.cb 0; have c1' := blk_cell HT1.out.cb 1; have c2 := blk_cell HT1.out.cc 0; have f0 := blk_frozen HT1.out.ca 0; have f1 := blk_frozen HT1.out.cb 0; have f1' := blk_frozen HT1.out.cb 1; have f2 := blk_frozen HT1.out.cc 0; have HT2 := Aside0.mk (((HT1.out.setb (.int .i64 pos0.line)).setb' (.int .i64 pos0.col)).setc (.int .i64 0)); have HR2 := Aside0.mk (words_keep HS0.out hr (.int .i64 pos0.line) (.int .i64 pos0.col) (.int .i64 0)); clear hr hb) | (go_at_call 27; refine (end_calls text _ hz).mono ?_; rintro e w2 ⟨rfl, hb⟩; rw [← HEN.out]; have HB2 := Aside0.mk hb; clear hb))
  have HF0 := Aside0.mk (Fm.start (en := en) HT2.out HR2.out (Nat.le_trans (Nat.le_add_right _ 3) (Nat.le_of_eq HS0.out.symm)) HB2.out HG.out)
  obtain ⟨b, hb⟩ : ∃ b, b = w2.heap.size := ⟨_, rfl⟩
  rw [← hb] at HF0 ⊢
  clear hb
  go_loopw [] (fun wr => ∃ (l : List De) (v : Value) (ws3 : List Wd) (m : Nat), ws3.length < m ∧ l.length + ws3.length ≤ 100000 ∧ Aside0 (Fm b en w v l ws3 wr ∧ fileGo en m l ws3 = ans)) (fun wr => wlen b wr)
  case atStart => exact ⟨[], _, lws, lws.length + 1, by omega, by simp; omega, ⟨HF0.out, HA.out.symm⟩⟩
  case round =>
    clear HF0 HT HT1 HT2 HR2 HB2 HS0 c0 c1 c1' c2 f0 f1 f1' f2
    obtain ⟨l, v, ws3, m, hm, hvl, hR⟩ := hrel
    have H0 := Aside0.mk hR.out.1
    have hw := hR.out.2
    clear hR
    obtain ⟨m, rfl⟩ : ∃ m', m = m' + 1 := ⟨m - 1, by omega⟩
    simp only [fileGo] at hw
    obtain ⟨A1, n1, hv1⟩ := Kd.R_slice H0.out.row
    subst hv1
    have pc := H0.out.pr
    obtain ⟨u, pr⟩ := pc
    obtain ⟨A2, n2, hu, -, -⟩ := pr.form
    subst hu
    have p0 := pr.cells.1
    clear pr
    by_cases hws : ws3 = []
    · rw [if_pos hws] at hw
      have HW := Aside0.mk hw
      clear hw
      have hln : decide (0 < ws3.length) = false := by rw [hws]; rfl
      have HWS := Lib.hid hws
      clear hws
      have l0 := blk_cell H0.out.ca 0
      have l1 := blk_cell H0.out.cb 0
      have l1' := blk_cell H0.out.cb 1
      have l2 := blk_cell H0.out.cc 0
      have f0 := blk_frozen H0.out.ca 0
      have f1 := blk_frozen H0.out.cb 0
      have f1' := blk_frozen H0.out.cb 1
      have f2 := blk_frozen H0.out.cc 0
      go_wp2
      rw [← HW.out]
      have hb2 := H0.out.hb
      have HI := Aside0.mk ((((H0.out.inn.seta (.slice A1 l.length n1)).setb (.int .i64 0)).setb' (.int .i64 0)).setc (.int .i64 0))
      have HRR := Aside0.mk (Kd.R_far (Kd.R_far (Kd.R_far (Kd.R_far H0.out.row (p := ⟨w.heap.size, 0, none⟩) (fun k hk => by show k ≠ w.heap.size; omega) (.slice A1 l.length n1)) (p := ⟨w.heap.size + 1, 0, none⟩) (fun k hk => by show k ≠ w.heap.size + 1; omega) (.int .i64 0)) (p := ⟨w.heap.size + 1, 1, none⟩) (fun k hk => by show k ≠ w.heap.size + 1; omega) (.int .i64 0)) (p := ⟨w.heap.size + 1 + 1, 0, none⟩) (fun k hk => by show k ≠ w.heap.size + 1 + 1; omega) (.int .i64 0))
      exact ⟨⟨rfl, rfl, rfl⟩, .inr rfl, _, HI.out, Kd.R_mono HRR.out (fun _ _ => trivial)⟩

    · rw [if_neg hws] at hw
      have hlp : 0 < ws3.length := List.length_pos_iff.2 hws
      have hln : decide (0 < ws3.length) = true := decide_eq_true hlp
      clear hws
      cases hm1 : haveB en wMessage ws3 with
      | true =>
        rw [hm1, if_pos rfl] at hw
        have htl := have_len hm1 (by decide)
        have HM := Lib.hid hm1
        clear hm1
        have hw : (msgP en m 1 (peekW en ws3).pos ws3.tail).bind (fun d ws1 => fileGo en m (l ++ [d]) ws1) = ans := hw
        have hq2 : Aside0 (ws3.tail.length < m) := ⟨by omega⟩
        have hq3 : Aside0 (ws3.tail.length ≤ 100000) := ⟨by omega⟩
        have hq4 : Aside0 (1 ≤ 1000) := ⟨by decide⟩
        cases hr : msgP en m 1 (peekW en ws3).pos ws3.tail with
        | bad er q =>
          rw [hr] at hw
          have HA2 := Aside0.mk (show Rs.bad er q = ans from hw)
          have HRB := Lib.hid hr
          clear hw hr
          go_wp2_with (first | (go_at_call 28; refine (peek_got H0.out.got.here).mono ?_; rintro e w5 ⟨rfl, hb⟩; have H1 := Aside0.mk ((H0.out.below hb).alloc (.cells #[.int .i64 (peekW en ws3).pos.line, .int .i64 (peekW en ws3).pos.col] 41)); have pk := Aside0.mk (blk_new w5 (.cells #[.int .i64 (peekW en ws3).pos.line, .int .i64 (peekW en ws3).pos.col] 41)); have hl5 : b < w5.heap.size := (H0.out.below hb).lt; clear hb) | (go_at_call 29; have _t := tokM; refine (have_got ⟨#[109, 101, 115, 115, 97, 103, 101]⟩ wMessage rfl H1.out.got.here).mono ?_; rintro e w6 ⟨rfl, hg⟩; clear tokM _t; rw [HM.out] at hg ⊢; (have hg2 : Got w.heap.size b en ws3.tail _ w6 := hg); have H2 := Aside0.mk (H1.out.got_ hg2); have pk2 := Aside0.mk (hg2.ch.blk pk.out (by omega)); have l0 := blk_cell H2.out.ca 0; have l0f := blk_frozen H2.out.ca 0; have a0 := blk_cell pk2.out 0; have a1 := blk_cell pk2.out 1; clear hg hg2))
          have hen : ∀ (args : Array Value) (w : World), (callFunc 30 args).run Tryd.prog w = .ok (.enter 30 args) w := fun args w => by simp [go_sem]
          have hQ0 : ∀ a X, FileQ w ⟨[], q, er⟩ (.panic [{ v := .iface 80 (.agg #[.int .i64 er, .int .i64 q.line, .int .i64 q.col]), recovered := false }]) a X → FileQ w (fileEnd ans) (.panic [{ v := .iface 80 (.agg #[.int .i64 er, .int .i64 q.line, .int .i64 q.col]), recovered := false }]) a X := by
            intro a X h
            rw [← HA2.out]
            exact h
          refine file_falls3 (W := w) (b := b) (g7 := w5.heap.size) (en := en) (p := (peekW en ws3).pos) (v := .slice A1 l.length n1) (ls := l) (ws := ws3.tail) (er := er) (q := q) 39 30 _ (by decide) (by decide) rfl ⟨_, rfl, rfl, rfl, rfl, rfl⟩ ⟨_, rfl, rfl, rfl, rfl, rfl⟩ ⟨_, rfl, rfl, rfl, rfl, rfl⟩ ⟨_, rfl, rfl, rfl, ⟨{ on := 1, ground := .data }, by simp, rfl, rfl⟩, ⟨{ on := 2, ground := .data }, by simp, rfl, rfl⟩, (by intro e he; simp at he; rcases he with rfl | rfl <;> simp)⟩ ⟨_, rfl, rfl, rfl, rfl, ⟨{ on := 0, ground := .data }, by simp, rfl, rfl⟩⟩ ⟨_, rfl, rfl, rfl, rfl, rfl⟩ (fun i o hi ho => by have hlt : i < 10 := (Array.getElem?_eq_some_iff.1 ho).1; rcases (by omega : i = 6 ∨ i = 7 ∨ i = 8 ∨ i = 9) with rfl | rfl | rfl | rfl <;> (cases ho; exact ⟨{ on := 3, ground := .phase }, by simp, rfl, rfl⟩)) ⟨rfl, rfl, rfl⟩ rfl rfl rfl rfl H2.out pk2.out ⟨_, _, _, rfl⟩ (Nat.ne_of_gt hl5) hen (fun X hX => (msg_got m 1 (peekW en ws3).pos _ hX.got hq2.out hq3.out hq4.out).mono (fun e w' hp => hp.bad HRB.out)) hQ0
        | ok d ws4 =>
          rw [hr, Rs.bind_ok] at hw
          have HW2 := Aside0.mk hw
          have hlf := msgP_len hr
          have hm2 : Aside0 (ws4.length < m) := ⟨by omega⟩
          have hm3 : Aside0 ((l ++ [d]).length + ws4.length ≤ 100000) := ⟨by rw [List.length_append, List.length_singleton]; omega⟩
          have hm4 : Aside0 (ws4.length < ws3.length) := ⟨by omega⟩
          have HM1 := Aside0.mk H0.out.got.wlen
          clear hlf
          have HRB := Lib.hid hr
          clear hw hr
          go_wp2_with (first | (go_at_call 28; refine (peek_got H0.out.got.here).mono ?_; rintro e w5 ⟨rfl, hb⟩; have H1 := Aside0.mk ((H0.out.below hb).alloc (.cells #[.int .i64 (peekW en ws3).pos.line, .int .i64 (peekW en ws3).pos.col] 41)); have pk := Aside0.mk (blk_new w5 (.cells #[.int .i64 (peekW en ws3).pos.line, .int .i64 (peekW en ws3).pos.col] 41)); have hl5 : b < w5.heap.size := (H0.out.below hb).lt; clear hb) | (go_at_call 29; have _t := tokM; refine (have_got ⟨#[109, 101, 115, 115, 97, 103, 101]⟩ wMessage rfl H1.out.got.here).mono ?_; rintro e w6 ⟨rfl, hg⟩; clear tokM _t; rw [HM.out] at hg ⊢; (have hg2 : Got w.heap.size b en ws3.tail _ w6 := hg); have H2 := Aside0.mk (H1.out.got_ hg2); have pk2 := Aside0.mk (hg2.ch.blk pk.out (by omega)); have l0 := blk_cell H2.out.ca 0; have l0f := blk_frozen H2.out.ca 0; have a0 := blk_cell pk2.out 0; have a1 := blk_cell pk2.out 1; clear hg hg2))
          have l0' := fun o => blk_cell (H2.out.alloc o).ca 0
          have a0' := fun o => blk_cell (blk_alloc pk2.out o) 0
          have a1' := fun o => blk_cell (blk_alloc pk2.out o) 1
          have hb1 : (0 : Int) ≤ (l.length : Int) := Int.natCast_nonneg _
          have hb2 : (l.length : Int) < ((l.length + 1 : Nat) : Int) := by omega
          have hb3 : (l.length : Int) < (l.length : Int) + 1 := by omega
          have CA := Lib.hid (show Calls Tryd.prog 30 #[.pointer (some ⟨b, 0, none⟩), .int .i64 1, .agg #[.int .i64 (peekW en ws3).pos.line, .int .i64 (peekW en ws3).pos.col]] _ _ from msg_got m 1 (peekW en ws3).pos _ (H2.out.drew).got.here hq2.out hq3.out hq4.out)
          have CB := Lib.hid (show Calls Tryd.prog 30 #[.pointer (some ⟨b, 0, none⟩), .int .i64 1, .agg #[.int .i64 (peekW en ws3).pos.line, .int .i64 (peekW en ws3).pos.col]] _ _ from msg_got m 1 (peekW en ws3).pos _ ((H2.out.alloc zDecl).drew).got.here hq2.out hq3.out hq4.out)
          refine wp_region_noPanic ?_
          go_region_law (first | (refine file_app_step (by rfl) (.tmp 39) (.tmp 44) rfl rfl rfl HX HZ0 (by omega) ?_; intro g cap w9 HZ9; obtain ⟨u0, u1, u2, u3, u4, u5, u6, u7, ⟨y0, y1, y2, y3, y4, y5, y6, y7⟩, z0, z1, z2, z3, z4, z5, z6, z7⟩ := HZ9.out.elem; have hgw := (HZ9.out.far HX.out).1; have hgw' := Ne.symm hgw; have x0 := blk_cell (HZ9.out.far HX.out).2 0; have x0f := blk_frozen (HZ9.out.far HX.out).2 0; have HP1 := Aside0.mk (Fz.done1 HX.out HZ9.out HMM.out)) | (go_simp; go_at_call 30; ((with_reducible refine (CA.out).mono ?_); rintro e wc hp); obtain ⟨B4, e4, B5, e5, B6, e6, B7, e7, rfl, hM, hg⟩ := decl_ok hp HRB.out; have HC := Aside0.mk ((H2.out.drew).got_ hg); have l00 := blk_cell HC.out.ca 0; have l0f := blk_frozen HC.out.ca 0; have HX := Aside0.mk (HC.out.alloc zDecl); have HZ0 := Aside0.mk (blk_new wc zDecl); have HMM := Aside0.mk (M_more ((H2.out.drew).lowM hM) zDecl); have l0 : ∀ o, (wc.alloc o).cell? ⟨w.heap.size, 0, none⟩ = some (.slice A1 l.length n1) := fun o => blk_cell (HC.out.alloc o).ca 0; clear hp hg hM) | (go_simp; go_at_call 30; ((with_reducible refine (CB.out).mono ?_); rintro e wc hp); obtain ⟨B4, e4, B5, e5, B6, e6, B7, e7, rfl, hM, hg⟩ := decl_ok hp HRB.out; have HC := Aside0.mk (((H2.out.alloc zDecl).drew).got_ hg); have l00 := blk_cell HC.out.ca 0; have l0f := blk_frozen HC.out.ca 0; have HX := HC; have HZ0 := Aside0.mk (hg.ch.blk (blk_drew (blk_new _ zDecl)) (fun e => by have := H2.out.lt; omega)); have HMM := Aside0.mk (((H2.out.alloc zDecl).drew).lowM hM); clear hp hg hM))
          all_goals refine NoPanic.normal ?_
          all_goals go_wp2_with fail
          all_goals go_roundw
          all_goals try rw [swap8 _ _ _ _ _ hgw]
          all_goals first
            | (with_reducible exact ⟨l ++ [d], _, ws4, m, hm2.out, hm3.out, ⟨HP1.out, HW2.out⟩⟩)
            | (with_reducible exact wless HM1.out (HP1.out.got.wlen) hm4.out)

      | false =>
        rw [hm1, if_neg (by decide)] at hw
        have HM := Lib.hid hm1
        clear hm1
        cases he1 : haveB en wEnum ws3 with
        | true =>
          rw [he1, if_pos rfl] at hw
          have htl := have_len he1 (by decide)
          have HQ := Lib.hid he1
          clear he1
          have hw : (enumP en m 1 (peekW en ws3).pos ws3.tail).bind (fun d ws1 => fileGo en m (l ++ [d]) ws1) = ans := hw
          have hq2 : Aside0 (ws3.tail.length < m) := ⟨by omega⟩
          have hq3 : Aside0 (ws3.tail.length ≤ 100000) := ⟨by omega⟩
          have hq4 : Aside0 (1 ≤ 1000) := ⟨by decide⟩
          cases hr : enumP en m 1 (peekW en ws3).pos ws3.tail with
          | bad er q =>
            rw [hr] at hw
            have HA2 := Aside0.mk (show Rs.bad er q = ans from hw)
            have HRB := Lib.hid hr
            clear hw hr
            go_wp2_with (first | (go_at_call 28; refine (peek_got H0.out.got.here).mono ?_; rintro e w5 ⟨rfl, hb⟩; have H1 := Aside0.mk ((H0.out.below hb).alloc (.cells #[.int .i64 (peekW en ws3).pos.line, .int .i64 (peekW en ws3).pos.col] 41)); have pk := Aside0.mk (blk_new w5 (.cells #[.int .i64 (peekW en ws3).pos.line, .int .i64 (peekW en ws3).pos.col] 41)); have hl5 : b < w5.heap.size := (H0.out.below hb).lt; clear hb) | (go_at_call 29; have _t := tokM; refine (have_got ⟨#[109, 101, 115, 115, 97, 103, 101]⟩ wMessage rfl H1.out.got.here).mono ?_; rintro e w6 ⟨rfl, hg⟩; clear tokM _t; rw [HM.out] at hg ⊢; (have hg2 : Got w.heap.size b en ws3 _ w6 := hg); have H2 := Aside0.mk (H1.out.got_ hg2); have pk2 := Aside0.mk (hg2.ch.blk pk.out (by omega)); clear hg hg2) | (go_at_call 29; have _t := tokE; refine (have_got ⟨#[101, 110, 117, 109]⟩ wEnum rfl H2.out.got.here).mono ?_; rintro e w7 ⟨rfl, hg⟩; clear tokE _t; rw [HQ.out] at hg ⊢; (have hg2 : Got w.heap.size b en ws3.tail _ w7 := hg); have H3 := Aside0.mk (H2.out.got_ hg2); have pk3 := Aside0.mk (hg2.ch.blk pk2.out (by omega)); have l0 := blk_cell H3.out.ca 0; have l0f := blk_frozen H3.out.ca 0; have a0 := blk_cell pk3.out 0; have a1 := blk_cell pk3.out 1; clear hg hg2))
            have hen : ∀ (args : Array Value) (w : World), (callFunc 31 args).run Tryd.prog w = .ok (.enter 31 args) w := fun args w => by simp [go_sem]
            have hQ0 : ∀ a X, FileQ w ⟨[], q, er⟩ (.panic [{ v := .iface 80 (.agg #[.int .i64 er, .int .i64 q.line, .int .i64 q.col]), recovered := false }]) a X → FileQ w (fileEnd ans) (.panic [{ v := .iface 80 (.agg #[.int .i64 er, .int .i64 q.line, .int .i64 q.col]), recovered := false }]) a X := by
              intro a X h
              rw [← HA2.out]
              exact h
            refine file_falls3 (W := w) (b := b) (g7 := w5.heap.size) (en := en) (p := (peekW en ws3).pos) (v := .slice A1 l.length n1) (ls := l) (ws := ws3.tail) (er := er) (q := q) 50 31 _ (by decide) (by decide) rfl ⟨_, rfl, rfl, rfl, rfl, rfl⟩ ⟨_, rfl, rfl, rfl, rfl, rfl⟩ ⟨_, rfl, rfl, rfl, rfl, rfl⟩ ⟨_, rfl, rfl, rfl, ⟨{ on := 1, ground := .data }, by simp, rfl, rfl⟩, ⟨{ on := 2, ground := .data }, by simp, rfl, rfl⟩, (by intro e he; simp at he; rcases he with rfl | rfl <;> simp)⟩ ⟨_, rfl, rfl, rfl, rfl, ⟨{ on := 0, ground := .data }, by simp, rfl, rfl⟩⟩ ⟨_, rfl, rfl, rfl, rfl, rfl⟩ (fun i o hi ho => by have hlt : i < 10 := (Array.getElem?_eq_some_iff.1 ho).1; rcases (by omega : i = 6 ∨ i = 7 ∨ i = 8 ∨ i = 9) with rfl | rfl | rfl | rfl <;> (cases ho; exact ⟨{ on := 3, ground := .phase }, by simp, rfl, rfl⟩)) ⟨rfl, rfl, rfl⟩ rfl rfl rfl rfl H3.out pk3.out ⟨_, _, _, rfl⟩ (Nat.ne_of_gt hl5) hen (fun X hX => (enum_got m 1 (peekW en ws3).pos _ hX.got hq2.out hq3.out hq4.out).mono (fun e w' hp => hp.bad HRB.out)) hQ0
          | ok d ws4 =>
            rw [hr, Rs.bind_ok] at hw
            have HW2 := Aside0.mk hw
            have hlf := enumP_len hr
            have hm2 : Aside0 (ws4.length < m) := ⟨by omega⟩
            have hm3 : Aside0 ((l ++ [d]).length + ws4.length ≤ 100000) := ⟨by rw [List.length_append, List.length_singleton]; omega⟩
            have hm4 : Aside0 (ws4.length < ws3.length) := ⟨by omega⟩
            have HM1 := Aside0.mk H0.out.got.wlen
            clear hlf
            have HRB := Lib.hid hr
            clear hw hr
            go_wp2_with (first | (go_at_call 28; refine (peek_got H0.out.got.here).mono ?_; rintro e w5 ⟨rfl, hb⟩; have H1 := Aside0.mk ((H0.out.below hb).alloc (.cells #[.int .i64 (peekW en ws3).pos.line, .int .i64 (peekW en ws3).pos.col] 41)); have pk := Aside0.mk (blk_new w5 (.cells #[.int .i64 (peekW en ws3).pos.line, .int .i64 (peekW en ws3).pos.col] 41)); have hl5 : b < w5.heap.size := (H0.out.below hb).lt; clear hb) | (go_at_call 29; have _t := tokM; refine (have_got ⟨#[109, 101, 115, 115, 97, 103, 101]⟩ wMessage rfl H1.out.got.here).mono ?_; rintro e w6 ⟨rfl, hg⟩; clear tokM _t; rw [HM.out] at hg ⊢; (have hg2 : Got w.heap.size b en ws3 _ w6 := hg); have H2 := Aside0.mk (H1.out.got_ hg2); have pk2 := Aside0.mk (hg2.ch.blk pk.out (by omega)); clear hg hg2) | (go_at_call 29; have _t := tokE; refine (have_got ⟨#[101, 110, 117, 109]⟩ wEnum rfl H2.out.got.here).mono ?_; rintro e w7 ⟨rfl, hg⟩; clear tokE _t; rw [HQ.out] at hg ⊢; (have hg2 : Got w.heap.size b en ws3.tail _ w7 := hg); have H3 := Aside0.mk (H2.out.got_ hg2); have pk3 := Aside0.mk (hg2.ch.blk pk2.out (by omega)); have l0 := blk_cell H3.out.ca 0; have l0f := blk_frozen H3.out.ca 0; have a0 := blk_cell pk3.out 0; have a1 := blk_cell pk3.out 1; clear hg hg2))
            have l0' := fun o => blk_cell (H3.out.alloc o).ca 0
            have a0' := fun o => blk_cell (blk_alloc pk3.out o) 0
            have a1' := fun o => blk_cell (blk_alloc pk3.out o) 1
            have hb1 : (0 : Int) ≤ (l.length : Int) := Int.natCast_nonneg _
            have hb2 : (l.length : Int) < ((l.length + 1 : Nat) : Int) := by omega
            have hb3 : (l.length : Int) < (l.length : Int) + 1 := by omega
            have CA := Lib.hid (show Calls Tryd.prog 31 #[.pointer (some ⟨b, 0, none⟩), .int .i64 1, .agg #[.int .i64 (peekW en ws3).pos.line, .int .i64 (peekW en ws3).pos.col]] _ _ from enum_got m 1 (peekW en ws3).pos _ (H3.out.drew).got.here hq2.out hq3.out hq4.out)
            have CB := Lib.hid (show Calls Tryd.prog 31 #[.pointer (some ⟨b, 0, none⟩), .int .i64 1, .agg #[.int .i64 (peekW en ws3).pos.line, .int .i64 (peekW en ws3).pos.col]] _ _ from enum_got m 1 (peekW en ws3).pos _ ((H3.out.alloc zDecl).drew).got.here hq2.out hq3.out hq4.out)
            refine wp_region_noPanic ?_
            go_region_law (first | (refine file_app_step (by rfl) (.tmp 50) (.tmp 55) rfl rfl rfl HX HZ0 (by omega) ?_; intro g cap w9 HZ9; obtain ⟨u0, u1, u2, u3, u4, u5, u6, u7, ⟨y0, y1, y2, y3, y4, y5, y6, y7⟩, z0, z1, z2, z3, z4, z5, z6, z7⟩ := HZ9.out.elem; have hgw := (HZ9.out.far HX.out).1; have hgw' := Ne.symm hgw; have x0 := blk_cell (HZ9.out.far HX.out).2 0; have x0f := blk_frozen (HZ9.out.far HX.out).2 0; have HP1 := Aside0.mk (Fz.done1 HX.out HZ9.out HMM.out)) | (go_simp; go_at_call 31; ((with_reducible refine (CA.out).mono ?_); rintro e wc hp); obtain ⟨B4, e4, B5, e5, B6, e6, B7, e7, rfl, hM, hg⟩ := decl_ok hp HRB.out; have HC := Aside0.mk ((H3.out.drew).got_ hg); have l00 := blk_cell HC.out.ca 0; have l0f := blk_frozen HC.out.ca 0; have HX := Aside0.mk (HC.out.alloc zDecl); have HZ0 := Aside0.mk (blk_new wc zDecl); have HMM := Aside0.mk (M_more ((H3.out.drew).lowM hM) zDecl); have l0 : ∀ o, (wc.alloc o).cell? ⟨w.heap.size, 0, none⟩ = some (.slice A1 l.length n1) := fun o => blk_cell (HC.out.alloc o).ca 0; clear hp hg hM) | (go_simp; go_at_call 31; ((with_reducible refine (CB.out).mono ?_); rintro e wc hp); obtain ⟨B4, e4, B5, e5, B6, e6, B7, e7, rfl, hM, hg⟩ := decl_ok hp HRB.out; have HC := Aside0.mk (((H3.out.alloc zDecl).drew).got_ hg); have l00 := blk_cell HC.out.ca 0; have l0f := blk_frozen HC.out.ca 0; have HX := HC; have HZ0 := Aside0.mk (hg.ch.blk (blk_drew (blk_new _ zDecl)) (fun e => by have := H3.out.lt; omega)); have HMM := Aside0.mk (((H3.out.alloc zDecl).drew).lowM hM); clear hp hg hM))
            all_goals refine NoPanic.normal ?_
            all_goals go_wp2_with fail
            all_goals go_roundw
            all_goals try rw [swap8 _ _ _ _ _ hgw]
            all_goals first
              | (with_reducible exact ⟨l ++ [d], _, ws4, m, hm2.out, hm3.out, ⟨HP1.out, HW2.out⟩⟩)
              | (with_reducible exact wless HM1.out (HP1.out.got.wlen) hm4.out)

        | false =>
          rw [he1, if_neg (by decide)] at hw
          have HQ := Lib.hid he1
          clear he1
          cases hs1 : haveB en wService ws3 with
          | true =>
            rw [hs1, if_pos rfl] at hw
            have htl := have_len hs1 (by decide)
            have HV := Lib.hid hs1
            clear hs1
            have hw : (servP en m ws3.tail).bind (fun d ws1 => fileGo en m (l ++ [d]) ws1) = ans := hw
            have hq2 : Aside0 (ws3.tail.length < m) := ⟨by omega⟩
            have hq3 : Aside0 (ws3.tail.length ≤ 100000) := ⟨by omega⟩
            have hq4 : Aside0 (1 ≤ 1000) := ⟨by decide⟩
            cases hr : servP en m ws3.tail with
            | bad er q =>
              rw [hr] at hw
              have HA2 := Aside0.mk (show Rs.bad er q = ans from hw)
              have HRB := Lib.hid hr
              clear hw hr
              go_wp2_with (first | (go_at_call 28; refine (peek_got H0.out.got.here).mono ?_; rintro e w5 ⟨rfl, hb⟩; have H1 := Aside0.mk ((H0.out.below hb).alloc (.cells #[.int .i64 (peekW en ws3).pos.line, .int .i64 (peekW en ws3).pos.col] 41)); have pk := Aside0.mk (blk_new w5 (.cells #[.int .i64 (peekW en ws3).pos.line, .int .i64 (peekW en ws3).pos.col] 41)); have hl5 : b < w5.heap.size := (H0.out.below hb).lt; clear hb) | (go_at_call 29; have _t := tokM; refine (have_got ⟨#[109, 101, 115, 115, 97, 103, 101]⟩ wMessage rfl H1.out.got.here).mono ?_; rintro e w6 ⟨rfl, hg⟩; clear tokM _t; rw [HM.out] at hg ⊢; (have hg2 : Got w.heap.size b en ws3 _ w6 := hg); have H2 := Aside0.mk (H1.out.got_ hg2); have pk2 := Aside0.mk (hg2.ch.blk pk.out (by omega)); clear hg hg2) | (go_at_call 29; have _t := tokE; refine (have_got ⟨#[101, 110, 117, 109]⟩ wEnum rfl H2.out.got.here).mono ?_; rintro e w7 ⟨rfl, hg⟩; clear tokE _t; rw [HQ.out] at hg ⊢; (have hg2 : Got w.heap.size b en ws3 _ w7 := hg); have H3 := Aside0.mk (H2.out.got_ hg2); have pk3 := Aside0.mk (hg2.ch.blk pk2.out (by omega)); clear hg hg2) | (go_at_call 29; have _t := tokS; refine (have_got ⟨#[115, 101, 114, 118, 105, 99, 101]⟩ wService rfl H3.out.got.here).mono ?_; rintro e w8 ⟨rfl, hg⟩; clear tokS _t; rw [HV.out] at hg ⊢; (have hg2 : Got w.heap.size b en ws3.tail _ w8 := hg); have H4 := Aside0.mk (H3.out.got_ hg2); have pk4 := Aside0.mk (hg2.ch.blk pk3.out (by omega)); have l0 := blk_cell H4.out.ca 0; have l0f := blk_frozen H4.out.ca 0; have a0 := blk_cell pk4.out 0; have a1 := blk_cell pk4.out 1; clear hg hg2))
              have hen : ∀ (args : Array Value) (w : World), (callFunc 32 args).run Tryd.prog w = .ok (.enter 32 args) w := fun args w => by simp [go_sem]
              have hQ0 : ∀ a X, FileQ w ⟨[], q, er⟩ (.panic [{ v := .iface 80 (.agg #[.int .i64 er, .int .i64 q.line, .int .i64 q.col]), recovered := false }]) a X → FileQ w (fileEnd ans) (.panic [{ v := .iface 80 (.agg #[.int .i64 er, .int .i64 q.line, .int .i64 q.col]), recovered := false }]) a X := by
                intro a X h
                rw [← HA2.out]
                exact h
              refine file_falls2 (W := w) (b := b) (g7 := w5.heap.size) (en := en) (p := (peekW en ws3).pos) (v := .slice A1 l.length n1) (ls := l) (ws := ws3.tail) (er := er) (q := q) 61 32 _ (by decide) (by decide) rfl ⟨_, rfl, rfl, rfl, rfl, rfl⟩ ⟨_, rfl, rfl, rfl, rfl, rfl⟩ ⟨_, rfl, rfl, rfl, ⟨{ on := 1, ground := .data }, by simp, rfl, rfl⟩, (by intro e he; simp at he; subst he; rfl)⟩ ⟨_, rfl, rfl, rfl, rfl, ⟨{ on := 0, ground := .data }, by simp, rfl, rfl⟩⟩ ⟨_, rfl, rfl, rfl, rfl, rfl⟩ (fun i o hi ho => by have hlt : i < 9 := (Array.getElem?_eq_some_iff.1 ho).1; rcases (by omega : i = 5 ∨ i = 6 ∨ i = 7 ∨ i = 8) with rfl | rfl | rfl | rfl <;> (cases ho; exact ⟨{ on := 2, ground := .phase }, by simp, rfl, rfl⟩)) ⟨rfl, rfl, rfl⟩ rfl rfl rfl rfl H4.out pk4.out ⟨_, _, _, rfl⟩ (Nat.ne_of_gt hl5) hen (fun X hX => (serv_got m _ hX.got hq2.out hq3.out).mono (fun e w' hp => hp.bad HRB.out)) hQ0
            | ok d ws4 =>
              rw [hr, Rs.bind_ok] at hw
              have HW2 := Aside0.mk hw
              have hlf := servP_len hr
              have hm2 : Aside0 (ws4.length < m) := ⟨by omega⟩
              have hm3 : Aside0 ((l ++ [d]).length + ws4.length ≤ 100000) := ⟨by rw [List.length_append, List.length_singleton]; omega⟩
              have hm4 : Aside0 (ws4.length < ws3.length) := ⟨by omega⟩
              have HM1 := Aside0.mk H0.out.got.wlen
              clear hlf
              have HRB := Lib.hid hr
              clear hw hr
              go_wp2_with (first | (go_at_call 28; refine (peek_got H0.out.got.here).mono ?_; rintro e w5 ⟨rfl, hb⟩; have H1 := Aside0.mk ((H0.out.below hb).alloc (.cells #[.int .i64 (peekW en ws3).pos.line, .int .i64 (peekW en ws3).pos.col] 41)); have pk := Aside0.mk (blk_new w5 (.cells #[.int .i64 (peekW en ws3).pos.line, .int .i64 (peekW en ws3).pos.col] 41)); have hl5 : b < w5.heap.size := (H0.out.below hb).lt; clear hb) | (go_at_call 29; have _t := tokM; refine (have_got ⟨#[109, 101, 115, 115, 97, 103, 101]⟩ wMessage rfl H1.out.got.here).mono ?_; rintro e w6 ⟨rfl, hg⟩; clear tokM _t; rw [HM.out] at hg ⊢; (have hg2 : Got w.heap.size b en ws3 _ w6 := hg); have H2 := Aside0.mk (H1.out.got_ hg2); have pk2 := Aside0.mk (hg2.ch.blk pk.out (by omega)); clear hg hg2) | (go_at_call 29; have _t := tokE; refine (have_got ⟨#[101, 110, 117, 109]⟩ wEnum rfl H2.out.got.here).mono ?_; rintro e w7 ⟨rfl, hg⟩; clear tokE _t; rw [HQ.out] at hg ⊢; (have hg2 : Got w.heap.size b en ws3 _ w7 := hg); have H3 := Aside0.mk (H2.out.got_ hg2); have pk3 := Aside0.mk (hg2.ch.blk pk2.out (by omega)); clear hg hg2) | (go_at_call 29; have _t := tokS; refine (have_got ⟨#[115, 101, 114, 118, 105, 99, 101]⟩ wService rfl H3.out.got.here).mono ?_; rintro e w8 ⟨rfl, hg⟩; clear tokS _t; rw [HV.out] at hg ⊢; (have hg2 : Got w.heap.size b en ws3.tail _ w8 := hg); have H4 := Aside0.mk (H3.out.got_ hg2); have pk4 := Aside0.mk (hg2.ch.blk pk3.out (by omega)); have l0 := blk_cell H4.out.ca 0; have l0f := blk_frozen H4.out.ca 0; have a0 := blk_cell pk4.out 0; have a1 := blk_cell pk4.out 1; clear hg hg2))
              have l0' := fun o => blk_cell (H4.out.alloc o).ca 0
              have hb1 : (0 : Int) ≤ (l.length : Int) := Int.natCast_nonneg _
              have hb2 : (l.length : Int) < ((l.length + 1 : Nat) : Int) := by omega
              have hb3 : (l.length : Int) < (l.length : Int) + 1 := by omega
              have CA := Lib.hid (show Calls Tryd.prog 32 #[.pointer (some ⟨b, 0, none⟩)] _ _ from serv_got m _ (H4.out.drew).got.here hq2.out hq3.out)
              have CB := Lib.hid (show Calls Tryd.prog 32 #[.pointer (some ⟨b, 0, none⟩)] _ _ from serv_got m _ ((H4.out.alloc zDecl).drew).got.here hq2.out hq3.out)
              refine wp_region_noPanic ?_
              go_region_law (first | (refine file_app_step (by rfl) (.tmp 61) (.tmp 65) rfl rfl rfl HX HZ0 (by omega) ?_; intro g cap w9 HZ9; obtain ⟨u0, u1, u2, u3, u4, u5, u6, u7, ⟨y0, y1, y2, y3, y4, y5, y6, y7⟩, z0, z1, z2, z3, z4, z5, z6, z7⟩ := HZ9.out.elem; have hgw := (HZ9.out.far HX.out).1; have hgw' := Ne.symm hgw; have x0 := blk_cell (HZ9.out.far HX.out).2 0; have x0f := blk_frozen (HZ9.out.far HX.out).2 0; have HP1 := Aside0.mk (Fz.done1 HX.out HZ9.out HMM.out)) | (go_simp; go_at_call 32; ((with_reducible refine (CA.out).mono ?_); rintro e wc hp); obtain ⟨B4, e4, B5, e5, B6, e6, B7, e7, rfl, hM, hg⟩ := decl_ok hp HRB.out; have HC := Aside0.mk ((H4.out.drew).got_ hg); have l00 := blk_cell HC.out.ca 0; have l0f := blk_frozen HC.out.ca 0; have HX := Aside0.mk (HC.out.alloc zDecl); have HZ0 := Aside0.mk (blk_new wc zDecl); have HMM := Aside0.mk (M_more ((H4.out.drew).lowM hM) zDecl); have l0 : ∀ o, (wc.alloc o).cell? ⟨w.heap.size, 0, none⟩ = some (.slice A1 l.length n1) := fun o => blk_cell (HC.out.alloc o).ca 0; clear hp hg hM) | (go_simp; go_at_call 32; ((with_reducible refine (CB.out).mono ?_); rintro e wc hp); obtain ⟨B4, e4, B5, e5, B6, e6, B7, e7, rfl, hM, hg⟩ := decl_ok hp HRB.out; have HC := Aside0.mk (((H4.out.alloc zDecl).drew).got_ hg); have l00 := blk_cell HC.out.ca 0; have l0f := blk_frozen HC.out.ca 0; have HX := HC; have HZ0 := Aside0.mk (hg.ch.blk (blk_drew (blk_new _ zDecl)) (fun e => by have := H4.out.lt; omega)); have HMM := Aside0.mk (((H4.out.alloc zDecl).drew).lowM hM); clear hp hg hM))
              all_goals refine NoPanic.normal ?_
              all_goals go_wp2_with fail
              all_goals go_roundw
              all_goals try rw [swap8 _ _ _ _ _ hgw]
              all_goals first
                | (with_reducible exact ⟨l ++ [d], _, ws4, m, hm2.out, hm3.out, ⟨HP1.out, HW2.out⟩⟩)
                | (with_reducible exact wless HM1.out (HP1.out.got.wlen) hm4.out)

          | false =>
            rw [hs1, if_neg (by decide)] at hw
            have HV := Lib.hid hs1
            clear hs1
            go_wp2_with (first | (go_at_call 28; refine (peek_got H0.out.got.here).mono ?_; rintro e w5 ⟨rfl, hb⟩; have H1 := Aside0.mk ((H0.out.below hb).alloc (.cells #[.int .i64 (peekW en ws3).pos.line, .int .i64 (peekW en ws3).pos.col] 41)); have pk := Aside0.mk (blk_new w5 (.cells #[.int .i64 (peekW en ws3).pos.line, .int .i64 (peekW en ws3).pos.col] 41)); have hl5 : b < w5.heap.size := (H0.out.below hb).lt; clear hb) | (go_at_call 29; have _t := tokM; refine (have_got ⟨#[109, 101, 115, 115, 97, 103, 101]⟩ wMessage rfl H1.out.got.here).mono ?_; rintro e w6 ⟨rfl, hg⟩; clear tokM _t; rw [HM.out] at hg ⊢; (have hg2 : Got w.heap.size b en ws3 _ w6 := hg); have H2 := Aside0.mk (H1.out.got_ hg2); have pk2 := Aside0.mk (hg2.ch.blk pk.out (by omega)); clear hg hg2) | (go_at_call 29; have _t := tokE; refine (have_got ⟨#[101, 110, 117, 109]⟩ wEnum rfl H2.out.got.here).mono ?_; rintro e w7 ⟨rfl, hg⟩; clear tokE _t; rw [HQ.out] at hg ⊢; (have hg2 : Got w.heap.size b en ws3 _ w7 := hg); have H3 := Aside0.mk (H2.out.got_ hg2); have pk3 := Aside0.mk (hg2.ch.blk pk2.out (by omega)); clear hg hg2) | (go_at_call 29; have _t := tokS; refine (have_got ⟨#[115, 101, 114, 118, 105, 99, 101]⟩ wService rfl H3.out.got.here).mono ?_; rintro e w8 ⟨rfl, hg⟩; clear tokS _t; rw [HV.out] at hg ⊢; (have hg2 : Got w.heap.size b en ws3 _ w8 := hg); have H4 := Aside0.mk (H3.out.got_ hg2); have pk4 := Aside0.mk (hg2.ch.blk pk3.out (by omega)); have l0 := blk_cell H4.out.ca 0; have l0f := blk_frozen H4.out.ca 0; have a0 := blk_cell pk4.out 0; have a1 := blk_cell pk4.out 1; clear hg hg2) | (go_at_call 33; refine (stop_calls _ 7 (peekW en ws3).pos _).mono ?_; rintro e w9 ⟨rfl, hb⟩; have H5 := Aside0.mk (H4.out.below hb); clear hb; unfold flt))
            rw [← (show Rs.bad 7 (peekW en ws3).pos = ans from hw)]
            exact ⟨⟨rfl, rfl, rfl⟩, rfl, rfl, rfl, _, _, _, _, H5.out.inn⟩

end Go.Proofs.YtfcpfbdlkanlpaaDoor
