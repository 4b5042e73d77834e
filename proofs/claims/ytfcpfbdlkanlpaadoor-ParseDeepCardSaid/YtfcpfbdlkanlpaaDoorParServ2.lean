/- The parser's service, the walk. PRINTED by wip/tools/gen_serv.py. -/
import Derived.Test.YtfcpfbdlkanlpaaDoorParServ
namespace Go.Proofs.YtfcpfbdlkanlpaaDoor
open Go.RowKit Go.Proofs.YtfcpfbdlkanlpaaDoorW.PrintWords Go.Proofs.YtfcpfbdlkanlpaaDoorW.PrintLast
set_option linter.unusedVariables false
set_option linter.unusedSimpArgs false

theorem Db.start3 {base b : Nat} {en : Pos} {w : World} {ws : List Wd} (h : Got base b en ws w w) :
    Db base b en w w.heap.size (w.heap.size + 1) 3 (⟨#[]⟩, pos0) nilS nilS nilS nilS ws ((w.alloc zDecl).alloc (.cells #[.int .i64 3, .string ⟨#[]⟩, .int .i64 0, .int .i64 0, nilS, nilS, nilS, nilS] 49)) := by
  have hs : (w.alloc zDecl).heap.size = w.heap.size + 1 := World.size_alloc _ _
  have bk := blk_new (w.alloc zDecl) (.cells #[.int .i64 3, .string ⟨#[]⟩, .int .i64 0, .int .i64 0, nilS, nilS, nilS, nilS] 49)
  rw [hs] at bk
  exact ⟨(h.alloc _).alloc _, blk_alloc (blk_new w _) _, bk, h.blt, Nat.le_refl _, Nat.lt_succ_self _⟩
set_option maxHeartbeats 8000000 in
set_option maxRecDepth 20000 in
theorem serv_got {base b : Nat} {en : Pos} {ws : List Wd} (n : Nat) (w : World) (h : Got base b en ws w w) (hn : ws.length < n) (hl : ws.length ≤ 100000) :
    Calls Tryd.prog 32 #[.pointer (some ⟨b, 0, none⟩)] w fun e w' => Post base b en w (declV w b) (servP en n ws) e w' := by
  have HD1 := Aside0.mk (Db.start3 h)
  have tokO : True := trivial
  have tokR : True := trivial
  have tokP : True := trivial
  have tokT : True := trivial
  have tokA : True := trivial
  have tokB : True := trivial
  have tokS : True := trivial
  have hbl := h.blt
  clear h
  obtain ⟨c0, c1, c2, c3, c4, c5, c6, c7⟩ := HD1.out.cells
  clear c0 c1 c2 c3 c4 c5 c6 c7
  obtain ⟨ans, hans⟩ : ∃ a, a = servP en n ws := ⟨_, rfl⟩
  rw [← hans]
  unfold servP headP at hans
  cases hnm : nameP en ws with
  | bad er q =>
    rw [hnm] at hans
    have HA := Aside0.mk (show ans = .bad er q from hans)
    have HN := Lib.hid hnm
    clear hans hnm
    go_enter Tryd.func32, Tryd.ntmps32
    go_wp2_with (first | (go_at_call 56; refine (pname_got _ HD1.out.got.here).mono ?_; rintro e w2 hp; obtain ⟨rfl, hc⟩ := hp.bad HN.out; have HC := Aside0.mk hc; clear hp hc; unfold flt))
    refine ⟨rfl, ?_⟩
    rw [HA.out]
    exact ⟨rfl, HD1.out.got.ch.trans HC.out⟩

  | ok nm ws1 =>
    have hlen1 := nameP_len hnm
    rw [hnm, Rs.bind_ok] at hans
    have HN := Lib.hid hnm
    clear hnm
    cases ho : wantP en kOpen ws1 with
    | bad er q =>
      rw [ho] at hans
      have HA := Aside0.mk (show ans = .bad er q from hans)
      have HO := Lib.hid ho
      clear hans ho
      go_enter Tryd.func32, Tryd.ntmps32
      go_wp2_with (first | (go_at_call 56; refine (pname_got _ HD1.out.got.here).mono ?_; rintro e w2 hp; obtain ⟨rfl, hg⟩ := post_name hp HN.out; have HD2 := Aside0.mk (HD1.out.got_ hg); obtain ⟨c0, c1, c2, c3, c4, c5, c6, c7⟩ := HD2.out.cells; obtain ⟨f0, f1, f2, f3, f4, f5, f6, f7⟩ := free8 HD2.out.blk; have HD3 := Aside0.mk (((HD2.out.set 1 (.string nm.1) (k' := 3) (x' := (nm.1, pos0)) rfl).set 2 (.int .i64 nm.2.line) (k' := 3) (x' := (nm.1, ⟨nm.2.line, 0⟩)) rfl).set 3 (.int .i64 nm.2.col) (k' := 3) (x' := nm) rfl); clear hp hg) | (go_at_call 57; have _t := tokO; refine (want_one ⟨#[123]⟩ _ _ ?hO1 HD3.out.got.here).mono ?_; (case hO1 => first | (simp only [size_set, World.size_alloc]; done) | rfl); rintro e w3 hp; clear tokO _t; obtain ⟨rfl, hc⟩ := hp.bad HO.out; have HC := Aside0.mk hc; clear hp hc; unfold flt))
      refine ⟨rfl, ?_⟩
      rw [HA.out]
      exact ⟨rfl, HD3.out.got.ch.trans HC.out⟩

    | ok u ws2 =>
      have hlen2 := wantP_len ho
      rw [ho, Rs.bind_ok, Rs.bind_ok] at hans
      have HA := Lib.hid hans
      have HO := Lib.hid ho
      clear hans ho
      go_enter Tryd.func32, Tryd.ntmps32
      go_wp2_with (first | (go_at_call 56; refine (pname_got _ HD1.out.got.here).mono ?_; rintro e w2 hp; obtain ⟨rfl, hg⟩ := post_name hp HN.out; have HD2 := Aside0.mk (HD1.out.got_ hg); obtain ⟨c0, c1, c2, c3, c4, c5, c6, c7⟩ := HD2.out.cells; obtain ⟨f0, f1, f2, f3, f4, f5, f6, f7⟩ := free8 HD2.out.blk; have HD3 := Aside0.mk (((HD2.out.set 1 (.string nm.1) (k' := 3) (x' := (nm.1, pos0)) rfl).set 2 (.int .i64 nm.2.line) (k' := 3) (x' := (nm.1, ⟨nm.2.line, 0⟩)) rfl).set 3 (.int .i64 nm.2.col) (k' := 3) (x' := nm) rfl); clear hp hg) | (go_at_call 57; have _t := tokO; refine (want_one ⟨#[123]⟩ _ _ ?hO1 HD3.out.got.here).mono ?_; (case hO1 => first | (simp only [size_set, World.size_alloc]; done) | rfl); rintro e w3 hp; clear tokO _t; obtain ⟨rfl, hg⟩ := post_unit hp HO.out; have HD4 := Aside0.mk (HD3.out.got_ hg); clear hp hg))
      obtain ⟨r, hr⟩ : ∃ r, r = w.heap.size := ⟨_, rfl⟩
      obtain ⟨g, hg⟩ : ∃ g, g = w.heap.size + 1 := ⟨_, rfl⟩
      have HE0 := Aside0.mk (show Sn base b en w r g nm nilS [] ws2 w3 from ⟨by rw [hr, hg]; exact HD4.out, Kd.R_nil _ _ _ _ _⟩)
      rw [← hg]
      have HR := Lib.hid hr
      clear hg
      go_loopw [] (fun wr => ∃ (ms : List Me) (v6 : Value) (ws3 : List Wd) (m : Nat), ws3.length < m ∧ ms.length + ws3.length ≤ 100000 ∧ Aside0 (Sn base b en w r g nm v6 ms ws3 wr ∧ servGo en m nm ms ws3 = ans)) (fun wr => wlen b wr)
      case atStart => exact ⟨[], nilS, ws2, n, by omega, by simp; omega, ⟨HE0.out, HA.out.symm⟩⟩
      case round =>
        clear hr HE0 HD4 HD3 HD2 HD1 c0 c1 c2 c3 c4 c5 c6 c7 f0 f1 f2 f3 f4 f5 f6 f7
        obtain ⟨ms, v6, ws3, m, hm, hvl, hR⟩ := hrel
        have HE := Aside0.mk hR.out.1
        have hw := hR.out.2
        clear hR
        obtain ⟨m, rfl⟩ : ∃ m', m = m' + 1 := ⟨m - 1, by omega⟩
        rw [servGo_eq, methodP_eq] at hw
        obtain ⟨A5, n5, hv5⟩ := Kd.R_slice HE.out.row
        subst hv5
        cases hh : haveB en kShut ws3 with
        | true =>
          rw [hh, if_pos rfl] at hw
          have HW := Aside0.mk hw
          have HH := Lib.hid hh
          clear hw hh
          have hrw : w.heap.size = r := HR.out.symm
          subst hrw
          go_wp2_with (first | (go_at_call 29; refine (have_got ⟨#[125]⟩ kShut rfl HE.out.db.got.here).mono ?_; rintro e w4 ⟨rfl, hg⟩; rw [HH.out] at hg ⊢; have HE1 := Aside0.mk (HE.out.got_ hg); obtain ⟨c0, c1, c2, c3, c4, c5, c6, c7⟩ := HE1.out.db.cells; obtain ⟨r0, r1, r2, r3, r4, r5, r6, r7⟩ := HE1.out.db.rcells; obtain ⟨f0, f1, f2, f3, f4, f5, f6, f7⟩ := free8 HE1.out.db.res; clear hg))
          refine bodyPost_ret (results_c rfl _ _ w.heap.size _ _ _ _ rfl (put8 _ _ _ _ _ _ _ _ HE1.out.db.res) Tryd.underlying49 rfl size_de) rfl ?_
          rw [← HW.out]
          exact ⟨_, rfl, ⟨_, rfl, HE1.out.done _ _ _ _ _ _ _ _⟩, HE1.out.db.rfar _ _ _ _ _ _ _ _⟩

        | false =>
          rw [hh, if_neg (by decide)] at hw
          have HH := Lib.hid hh
          clear hh
          cases hh0 : wantP en wRpc ws3 with
          | bad er q =>
            rw [hh0] at hw
            have HA := Aside0.mk (show ans = .bad er q from hw.symm)
            have H0 := Lib.hid hh0
            clear hw hh0
            go_wp2_with (first | (go_at_call 29; refine (have_got ⟨#[125]⟩ kShut rfl HE.out.db.got.here).mono ?_; rintro e w4 ⟨rfl, hg⟩; rw [HH.out] at hg ⊢; have HE1 := Aside0.mk (HE.out.got_ hg); have HV0 := Aside0.mk HE1.out.new; clear hg) | (go_at_call 57; have _t := tokR; refine (want_one ⟨#[114, 112, 99]⟩ _ _ ?hR1 HV0.out.db.got.here).mono ?_; (case hR1 => first | (simp only [size_set, World.size_alloc]; done) | rfl); rintro e w5 hp; clear tokR _t; obtain ⟨rfl, hc⟩ := hp.bad H0.out; have HC := Aside0.mk hc; clear hp hc; unfold flt))
            refine ⟨rfl, ?_⟩
            rw [HA.out]
            exact ⟨rfl, HV0.out.db.got.ch.trans HC.out⟩
          | ok u0 ws4 =>
            have hlv0 := wantP_len hh0
            rw [hh0, Rs.bind_ok] at hw
            have H0 := Lib.hid hh0
            clear hh0
            cases hh1 : nameP en ws4 with
            | bad er q =>
              rw [hh1] at hw
              have HA := Aside0.mk (show ans = .bad er q from hw.symm)
              have H1 := Lib.hid hh1
              clear hw hh1
              go_wp2_with (first | (go_at_call 29; refine (have_got ⟨#[125]⟩ kShut rfl HE.out.db.got.here).mono ?_; rintro e w4 ⟨rfl, hg⟩; rw [HH.out] at hg ⊢; have HE1 := Aside0.mk (HE.out.got_ hg); have HV0 := Aside0.mk HE1.out.new; clear hg) | (go_at_call 57; have _t := tokR; refine (want_one ⟨#[114, 112, 99]⟩ _ _ ?hR1 HV0.out.db.got.here).mono ?_; (case hR1 => first | (simp only [size_set, World.size_alloc]; done) | rfl); rintro e w5 hp; clear tokR _t; obtain ⟨rfl, hg⟩ := post_unit hp H0.out; have HV1 := Aside0.mk (HV0.out.got_ hg); clear hp hg) | (go_at_call 56; refine (pname_got _ HV1.out.db.got.here).mono ?_; rintro e w6 hp; obtain ⟨rfl, hc⟩ := hp.bad H1.out; have HC := Aside0.mk hc; clear hp hc; unfold flt))
              refine ⟨rfl, ?_⟩
              rw [HA.out]
              exact ⟨rfl, HV1.out.db.got.ch.trans HC.out⟩
            | ok vn ws5 =>
              have hlv1 := nameP_len hh1
              rw [hh1, Rs.bind_ok] at hw
              have H1 := Lib.hid hh1
              clear hh1
              cases hh2 : wantP en kPar ws5 with
              | bad er q =>
                rw [hh2] at hw
                have HA := Aside0.mk (show ans = .bad er q from hw.symm)
                have H2 := Lib.hid hh2
                clear hw hh2
                go_wp2_with (first | (go_at_call 29; refine (have_got ⟨#[125]⟩ kShut rfl HE.out.db.got.here).mono ?_; rintro e w4 ⟨rfl, hg⟩; rw [HH.out] at hg ⊢; have HE1 := Aside0.mk (HE.out.got_ hg); have HV0 := Aside0.mk HE1.out.new; clear hg) | (go_at_call 57; have _t := tokR; refine (want_one ⟨#[114, 112, 99]⟩ _ _ ?hR1 HV0.out.db.got.here).mono ?_; (case hR1 => first | (simp only [size_set, World.size_alloc]; done) | rfl); rintro e w5 hp; clear tokR _t; obtain ⟨rfl, hg⟩ := post_unit hp H0.out; have HV1 := Aside0.mk (HV0.out.got_ hg); clear hp hg) | (go_at_call 56; refine (pname_got _ HV1.out.db.got.here).mono ?_; rintro e w6 hp; obtain ⟨rfl, hg⟩ := post_name hp H1.out; have HV2 := Aside0.mk (HV1.out.got_ hg); obtain ⟨p0, p1, p2, p3, p4⟩ := HV2.out.cells; obtain ⟨q0, q1, q2, q3, q4⟩ := HV2.out.free; have HV3 := Aside0.mk (((HV2.out.set 0 (.string vn.1) ⟨vn.1, ⟨#[]⟩, ⟨#[]⟩, pos0⟩ rfl).set 3 (.int .i64 vn.2.line) ⟨vn.1, ⟨#[]⟩, ⟨#[]⟩, ⟨vn.2.line, 0⟩⟩ rfl).set 4 (.int .i64 vn.2.col) ⟨vn.1, ⟨#[]⟩, ⟨#[]⟩, vn.2⟩ rfl); clear hp hg) | (go_at_call 57; have _t := tokP; refine (want_one ⟨#[40]⟩ _ _ ?hP1 HV3.out.db.got.here).mono ?_; (case hP1 => first | (simp only [size_set, World.size_alloc]; done) | rfl); rintro e w7 hp; clear tokP _t; obtain ⟨rfl, hc⟩ := hp.bad H2.out; have HC := Aside0.mk hc; clear hp hc; unfold flt))
                refine ⟨rfl, ?_⟩
                rw [HA.out]
                exact ⟨rfl, HV3.out.db.got.ch.trans HC.out⟩
              | ok u2 ws6 =>
                have hlv2 := wantP_len hh2
                rw [hh2, Rs.bind_ok] at hw
                have H2 := Lib.hid hh2
                clear hh2
                cases hh3 : pathP en ws6 with
                | bad er q =>
                  rw [hh3] at hw
                  have HA := Aside0.mk (show ans = .bad er q from hw.symm)
                  have H3 := Lib.hid hh3
                  clear hw hh3
                  go_wp2_with (first | (go_at_call 29; refine (have_got ⟨#[125]⟩ kShut rfl HE.out.db.got.here).mono ?_; rintro e w4 ⟨rfl, hg⟩; rw [HH.out] at hg ⊢; have HE1 := Aside0.mk (HE.out.got_ hg); have HV0 := Aside0.mk HE1.out.new; clear hg) | (go_at_call 57; have _t := tokR; refine (want_one ⟨#[114, 112, 99]⟩ _ _ ?hR1 HV0.out.db.got.here).mono ?_; (case hR1 => first | (simp only [size_set, World.size_alloc]; done) | rfl); rintro e w5 hp; clear tokR _t; obtain ⟨rfl, hg⟩ := post_unit hp H0.out; have HV1 := Aside0.mk (HV0.out.got_ hg); clear hp hg) | (go_at_call 56; refine (pname_got _ HV1.out.db.got.here).mono ?_; rintro e w6 hp; obtain ⟨rfl, hg⟩ := post_name hp H1.out; have HV2 := Aside0.mk (HV1.out.got_ hg); obtain ⟨p0, p1, p2, p3, p4⟩ := HV2.out.cells; obtain ⟨q0, q1, q2, q3, q4⟩ := HV2.out.free; have HV3 := Aside0.mk (((HV2.out.set 0 (.string vn.1) ⟨vn.1, ⟨#[]⟩, ⟨#[]⟩, pos0⟩ rfl).set 3 (.int .i64 vn.2.line) ⟨vn.1, ⟨#[]⟩, ⟨#[]⟩, ⟨vn.2.line, 0⟩⟩ rfl).set 4 (.int .i64 vn.2.col) ⟨vn.1, ⟨#[]⟩, ⟨#[]⟩, vn.2⟩ rfl); clear hp hg) | (go_at_call 57; have _t := tokP; refine (want_one ⟨#[40]⟩ _ _ ?hP1 HV3.out.db.got.here).mono ?_; (case hP1 => first | (simp only [size_set, World.size_alloc]; done) | rfl); rintro e w7 hp; clear tokP _t; obtain ⟨rfl, hg⟩ := post_unit hp H2.out; have HV4 := Aside0.mk (HV3.out.got_ hg); clear hp hg) | (go_at_call 60; have _t := tokA; refine (ppath_got _ HV4.out.db.got.here).mono ?_; rintro e w8 hp; clear tokA _t; obtain ⟨rfl, hc⟩ := hp.bad H3.out; have HC := Aside0.mk hc; clear hp hc; unfold flt))
                  refine ⟨rfl, ?_⟩
                  rw [HA.out]
                  exact ⟨rfl, HV4.out.db.got.ch.trans HC.out⟩
                | ok vi ws7 =>
                  have hlv3 := pathP_len hh3
                  rw [hh3, Rs.bind_ok] at hw
                  have H3 := Lib.hid hh3
                  clear hh3
                  cases hh4 : wantsP en [tRap, tRet, tPar] ws7 with
                  | bad er q =>
                    rw [hh4] at hw
                    have HA := Aside0.mk (show ans = .bad er q from hw.symm)
                    have H4 := Lib.hid hh4
                    clear hw hh4
                    go_wp2_with (first | (go_at_call 29; refine (have_got ⟨#[125]⟩ kShut rfl HE.out.db.got.here).mono ?_; rintro e w4 ⟨rfl, hg⟩; rw [HH.out] at hg ⊢; have HE1 := Aside0.mk (HE.out.got_ hg); have HV0 := Aside0.mk HE1.out.new; clear hg) | (go_at_call 57; have _t := tokR; refine (want_one ⟨#[114, 112, 99]⟩ _ _ ?hR1 HV0.out.db.got.here).mono ?_; (case hR1 => first | (simp only [size_set, World.size_alloc]; done) | rfl); rintro e w5 hp; clear tokR _t; obtain ⟨rfl, hg⟩ := post_unit hp H0.out; have HV1 := Aside0.mk (HV0.out.got_ hg); clear hp hg) | (go_at_call 56; refine (pname_got _ HV1.out.db.got.here).mono ?_; rintro e w6 hp; obtain ⟨rfl, hg⟩ := post_name hp H1.out; have HV2 := Aside0.mk (HV1.out.got_ hg); obtain ⟨p0, p1, p2, p3, p4⟩ := HV2.out.cells; obtain ⟨q0, q1, q2, q3, q4⟩ := HV2.out.free; have HV3 := Aside0.mk (((HV2.out.set 0 (.string vn.1) ⟨vn.1, ⟨#[]⟩, ⟨#[]⟩, pos0⟩ rfl).set 3 (.int .i64 vn.2.line) ⟨vn.1, ⟨#[]⟩, ⟨#[]⟩, ⟨vn.2.line, 0⟩⟩ rfl).set 4 (.int .i64 vn.2.col) ⟨vn.1, ⟨#[]⟩, ⟨#[]⟩, vn.2⟩ rfl); clear hp hg) | (go_at_call 57; have _t := tokP; refine (want_one ⟨#[40]⟩ _ _ ?hP1 HV3.out.db.got.here).mono ?_; (case hP1 => first | (simp only [size_set, World.size_alloc]; done) | rfl); rintro e w7 hp; clear tokP _t; obtain ⟨rfl, hg⟩ := post_unit hp H2.out; have HV4 := Aside0.mk (HV3.out.got_ hg); clear hp hg) | (go_at_call 60; have _t := tokA; refine (ppath_got _ HV4.out.db.got.here).mono ?_; rintro e w8 hp; clear tokA _t; obtain ⟨rfl, hg⟩ := post_path hp H3.out; have HV5 := Aside0.mk (HV4.out.got_ hg); obtain ⟨p0, p1, p2, p3, p4⟩ := HV5.out.cells; obtain ⟨q0, q1, q2, q3, q4⟩ := HV5.out.free; have HV6 := Aside0.mk (HV5.out.set 1 (.string vi) ⟨vn.1, vi, ⟨#[]⟩, vn.2⟩ rfl); clear hp hg) | (go_at_call 57; have _t := tokT; refine (want_three tRap tRet tPar _ _ ?hT1 HV6.out.db.got.here).mono ?_; (case hT1 => first | (simp only [size_set, World.size_alloc]; done) | rfl); rintro e w9 hp; clear tokT _t; obtain ⟨rfl, hc⟩ := hp.bad H4.out; have HC := Aside0.mk hc; clear hp hc; unfold flt))
                    refine ⟨rfl, ?_⟩
                    rw [HA.out]
                    exact ⟨rfl, HV6.out.db.got.ch.trans HC.out⟩
                  | ok u4 ws8 =>
                    have hlv4 := wantsP_len _ _ _ _ hh4
                    rw [hh4, Rs.bind_ok] at hw
                    have H4 := Lib.hid hh4
                    clear hh4
                    cases hh5 : pathP en ws8 with
                    | bad er q =>
                      rw [hh5] at hw
                      have HA := Aside0.mk (show ans = .bad er q from hw.symm)
                      have H5 := Lib.hid hh5
                      clear hw hh5
                      go_wp2_with (first | (go_at_call 29; refine (have_got ⟨#[125]⟩ kShut rfl HE.out.db.got.here).mono ?_; rintro e w4 ⟨rfl, hg⟩; rw [HH.out] at hg ⊢; have HE1 := Aside0.mk (HE.out.got_ hg); have HV0 := Aside0.mk HE1.out.new; clear hg) | (go_at_call 57; have _t := tokR; refine (want_one ⟨#[114, 112, 99]⟩ _ _ ?hR1 HV0.out.db.got.here).mono ?_; (case hR1 => first | (simp only [size_set, World.size_alloc]; done) | rfl); rintro e w5 hp; clear tokR _t; obtain ⟨rfl, hg⟩ := post_unit hp H0.out; have HV1 := Aside0.mk (HV0.out.got_ hg); clear hp hg) | (go_at_call 56; refine (pname_got _ HV1.out.db.got.here).mono ?_; rintro e w6 hp; obtain ⟨rfl, hg⟩ := post_name hp H1.out; have HV2 := Aside0.mk (HV1.out.got_ hg); obtain ⟨p0, p1, p2, p3, p4⟩ := HV2.out.cells; obtain ⟨q0, q1, q2, q3, q4⟩ := HV2.out.free; have HV3 := Aside0.mk (((HV2.out.set 0 (.string vn.1) ⟨vn.1, ⟨#[]⟩, ⟨#[]⟩, pos0⟩ rfl).set 3 (.int .i64 vn.2.line) ⟨vn.1, ⟨#[]⟩, ⟨#[]⟩, ⟨vn.2.line, 0⟩⟩ rfl).set 4 (.int .i64 vn.2.col) ⟨vn.1, ⟨#[]⟩, ⟨#[]⟩, vn.2⟩ rfl); clear hp hg) | (go_at_call 57; have _t := tokP; refine (want_one ⟨#[40]⟩ _ _ ?hP1 HV3.out.db.got.here).mono ?_; (case hP1 => first | (simp only [size_set, World.size_alloc]; done) | rfl); rintro e w7 hp; clear tokP _t; obtain ⟨rfl, hg⟩ := post_unit hp H2.out; have HV4 := Aside0.mk (HV3.out.got_ hg); clear hp hg) | (go_at_call 60; have _t := tokA; refine (ppath_got _ HV4.out.db.got.here).mono ?_; rintro e w8 hp; clear tokA _t; obtain ⟨rfl, hg⟩ := post_path hp H3.out; have HV5 := Aside0.mk (HV4.out.got_ hg); obtain ⟨p0, p1, p2, p3, p4⟩ := HV5.out.cells; obtain ⟨q0, q1, q2, q3, q4⟩ := HV5.out.free; have HV6 := Aside0.mk (HV5.out.set 1 (.string vi) ⟨vn.1, vi, ⟨#[]⟩, vn.2⟩ rfl); clear hp hg) | (go_at_call 57; have _t := tokT; refine (want_three tRap tRet tPar _ _ ?hT1 HV6.out.db.got.here).mono ?_; (case hT1 => first | (simp only [size_set, World.size_alloc]; done) | rfl); rintro e w9 hp; clear tokT _t; obtain ⟨rfl, hg⟩ := post_unit hp H4.out; have HV7 := Aside0.mk (HV6.out.got_ hg); clear hp hg) | (go_at_call 60; have _t := tokB; refine (ppath_got _ HV7.out.db.got.here).mono ?_; rintro e w10 hp; clear tokB _t; obtain ⟨rfl, hc⟩ := hp.bad H5.out; have HC := Aside0.mk hc; clear hp hc; unfold flt))
                      refine ⟨rfl, ?_⟩
                      rw [HA.out]
                      exact ⟨rfl, HV7.out.db.got.ch.trans HC.out⟩
                    | ok vo ws9 =>
                      have hlv5 := pathP_len hh5
                      rw [hh5, Rs.bind_ok] at hw
                      have H5 := Lib.hid hh5
                      clear hh5
                      rw [Rs.bind_ok] at hw
                      have hl1' := Lib.hid (show (ms ++ [(⟨vn.1, vi, vo, vn.2⟩ : Me)]).length = ms.length + 1 by rw [List.length_append, List.length_singleton])
                      cases hh6 : wantsP en [tRap, tSemi] ws9 with
                      | bad er q =>
                        rw [hh6] at hw
                        have HA := Aside0.mk (show ans = .bad er q from hw.symm)
                        have H6 := Lib.hid hh6
                        clear hw hh6
                        go_wp2_with (first | (go_at_call 29; refine (have_got ⟨#[125]⟩ kShut rfl HE.out.db.got.here).mono ?_; rintro e w4 ⟨rfl, hg⟩; rw [HH.out] at hg ⊢; have HE1 := Aside0.mk (HE.out.got_ hg); have HV0 := Aside0.mk HE1.out.new; clear hg) | (go_at_call 57; have _t := tokR; refine (want_one ⟨#[114, 112, 99]⟩ _ _ ?hR1 HV0.out.db.got.here).mono ?_; (case hR1 => first | (simp only [size_set, World.size_alloc]; done) | rfl); rintro e w5 hp; clear tokR _t; obtain ⟨rfl, hg⟩ := post_unit hp H0.out; have HV1 := Aside0.mk (HV0.out.got_ hg); clear hp hg) | (go_at_call 56; refine (pname_got _ HV1.out.db.got.here).mono ?_; rintro e w6 hp; obtain ⟨rfl, hg⟩ := post_name hp H1.out; have HV2 := Aside0.mk (HV1.out.got_ hg); obtain ⟨p0, p1, p2, p3, p4⟩ := HV2.out.cells; obtain ⟨q0, q1, q2, q3, q4⟩ := HV2.out.free; have HV3 := Aside0.mk (((HV2.out.set 0 (.string vn.1) ⟨vn.1, ⟨#[]⟩, ⟨#[]⟩, pos0⟩ rfl).set 3 (.int .i64 vn.2.line) ⟨vn.1, ⟨#[]⟩, ⟨#[]⟩, ⟨vn.2.line, 0⟩⟩ rfl).set 4 (.int .i64 vn.2.col) ⟨vn.1, ⟨#[]⟩, ⟨#[]⟩, vn.2⟩ rfl); clear hp hg) | (go_at_call 57; have _t := tokP; refine (want_one ⟨#[40]⟩ _ _ ?hP1 HV3.out.db.got.here).mono ?_; (case hP1 => first | (simp only [size_set, World.size_alloc]; done) | rfl); rintro e w7 hp; clear tokP _t; obtain ⟨rfl, hg⟩ := post_unit hp H2.out; have HV4 := Aside0.mk (HV3.out.got_ hg); clear hp hg) | (go_at_call 60; have _t := tokA; refine (ppath_got _ HV4.out.db.got.here).mono ?_; rintro e w8 hp; clear tokA _t; obtain ⟨rfl, hg⟩ := post_path hp H3.out; have HV5 := Aside0.mk (HV4.out.got_ hg); obtain ⟨p0, p1, p2, p3, p4⟩ := HV5.out.cells; obtain ⟨q0, q1, q2, q3, q4⟩ := HV5.out.free; have HV6 := Aside0.mk (HV5.out.set 1 (.string vi) ⟨vn.1, vi, ⟨#[]⟩, vn.2⟩ rfl); clear hp hg) | (go_at_call 57; have _t := tokT; refine (want_three tRap tRet tPar _ _ ?hT1 HV6.out.db.got.here).mono ?_; (case hT1 => first | (simp only [size_set, World.size_alloc]; done) | rfl); rintro e w9 hp; clear tokT _t; obtain ⟨rfl, hg⟩ := post_unit hp H4.out; have HV7 := Aside0.mk (HV6.out.got_ hg); clear hp hg) | (go_at_call 60; have _t := tokB; refine (ppath_got _ HV7.out.db.got.here).mono ?_; rintro e w10 hp; clear tokB _t; obtain ⟨rfl, hg⟩ := post_path hp H5.out; have HV8 := Aside0.mk (HV7.out.got_ hg); obtain ⟨p0, p1, p2, p3, p4⟩ := HV8.out.cells; obtain ⟨q0, q1, q2, q3, q4⟩ := HV8.out.free; have HV9 := Aside0.mk (HV8.out.set 2 (.string vo) ⟨vn.1, vi, vo, vn.2⟩ rfl); obtain ⟨_, _, _, _, _, _, c6, _⟩ := HV8.out.db.cells; have f6 := blk_frozen HV8.out.db.blk 6; have hgl := blk_lt HV8.out.db.blk; clear hp hg) | ((with_reducible refine gate_bi (b := .append) (xs := #[.tmp 45, .tmp 47]) rfl ?_); at_builtin; refine Kd.R_append kMe (w0 := (w10.setCell ⟨w4.heap.size, 2, none⟩ (.string vo))) (W := (w10.setCell ⟨w4.heap.size, 2, none⟩ (.string vo))) w.heap.size rfl (.tmp 45) (.tmp 47) 47 73 (.agg #[.string ⟨#[]⟩, .string ⟨#[]⟩, .string ⟨#[]⟩, .int .i64 0, .int .i64 0]) 64 rfl Tryd.underlying47 info_pm rfl (by decide) (by decide) _ ms (⟨vn.1, vi, vo, vn.2⟩ : Me) [.string vn.1, .string vi, .string vo, .int .i64 vn.2.line, .int .i64 vn.2.col] (fun k => g < k) (fun _ => False) rfl ?aX (kMe_mkM _ _ _ ⟨vn.1, vi, vo, vn.2⟩) (fun _ hk => hk.elim) ?aF HV9.out.back.row (Below.refl _ _) ?aS ?aL ?_; (case aX => (rw [size_set]; rfl)); (case aF => (intro j hj; have h2 := blk_lt HV9.out.db.blk; omega)); (case aS => exact HV9.out.db.got.ch.size); (case aL => omega); intro v1 w11 ho hb hg hat; have hne := Db.own HV9.out.db hg (fun j e => HV9.out.back.row.1 j e); obtain ⟨D1, e1, hv1⟩ := Kd.R_slice ho; rw [hl1'.out] at hv1; subst hv1; have HE2 := Aside0.mk (HV9.out.back.push ho hg); have c6' := blk_cell hne.blk 6; have f6' := blk_frozen hne.blk 6; clear ho hb hg hat hne) | (go_at_call 57; have _t := tokS; refine (want_two tRap tSemi _ _ ?hS1 HE2.out.db.got.here).mono ?_; (case hS1 => first | (simp only [size_set, World.size_alloc]; done) | rfl); rintro e w12 hp; clear tokS _t; obtain ⟨rfl, hc⟩ := hp.bad H6.out; have HC := Aside0.mk hc; clear hp hc; unfold flt))
                        refine ⟨rfl, ?_⟩
                        rw [HA.out]
                        exact ⟨rfl, HE2.out.db.got.ch.trans HC.out⟩
                      | ok u6 ws10 =>
                        have hlv6 := wantsP_len _ _ _ _ hh6
                        rw [hh6, Rs.bind_ok] at hw
                        have H6 := Lib.hid hh6
                        clear hh6
                        have HW := Aside0.mk hw
                        clear hw
                        go_wp2_with (first | (go_at_call 29; refine (have_got ⟨#[125]⟩ kShut rfl HE.out.db.got.here).mono ?_; rintro e w4 ⟨rfl, hg⟩; rw [HH.out] at hg ⊢; have HE1 := Aside0.mk (HE.out.got_ hg); have HV0 := Aside0.mk HE1.out.new; clear hg) | (go_at_call 57; have _t := tokR; refine (want_one ⟨#[114, 112, 99]⟩ _ _ ?hR1 HV0.out.db.got.here).mono ?_; (case hR1 => first | (simp only [size_set, World.size_alloc]; done) | rfl); rintro e w5 hp; clear tokR _t; obtain ⟨rfl, hg⟩ := post_unit hp H0.out; have HV1 := Aside0.mk (HV0.out.got_ hg); clear hp hg) | (go_at_call 56; refine (pname_got _ HV1.out.db.got.here).mono ?_; rintro e w6 hp; obtain ⟨rfl, hg⟩ := post_name hp H1.out; have HV2 := Aside0.mk (HV1.out.got_ hg); obtain ⟨p0, p1, p2, p3, p4⟩ := HV2.out.cells; obtain ⟨q0, q1, q2, q3, q4⟩ := HV2.out.free; have HV3 := Aside0.mk (((HV2.out.set 0 (.string vn.1) ⟨vn.1, ⟨#[]⟩, ⟨#[]⟩, pos0⟩ rfl).set 3 (.int .i64 vn.2.line) ⟨vn.1, ⟨#[]⟩, ⟨#[]⟩, ⟨vn.2.line, 0⟩⟩ rfl).set 4 (.int .i64 vn.2.col) ⟨vn.1, ⟨#[]⟩, ⟨#[]⟩, vn.2⟩ rfl); clear hp hg) | (go_at_call 57; have _t := tokP; refine (want_one ⟨#[40]⟩ _ _ ?hP1 HV3.out.db.got.here).mono ?_; (case hP1 => first | (simp only [size_set, World.size_alloc]; done) | rfl); rintro e w7 hp; clear tokP _t; obtain ⟨rfl, hg⟩ := post_unit hp H2.out; have HV4 := Aside0.mk (HV3.out.got_ hg); clear hp hg) | (go_at_call 60; have _t := tokA; refine (ppath_got _ HV4.out.db.got.here).mono ?_; rintro e w8 hp; clear tokA _t; obtain ⟨rfl, hg⟩ := post_path hp H3.out; have HV5 := Aside0.mk (HV4.out.got_ hg); obtain ⟨p0, p1, p2, p3, p4⟩ := HV5.out.cells; obtain ⟨q0, q1, q2, q3, q4⟩ := HV5.out.free; have HV6 := Aside0.mk (HV5.out.set 1 (.string vi) ⟨vn.1, vi, ⟨#[]⟩, vn.2⟩ rfl); clear hp hg) | (go_at_call 57; have _t := tokT; refine (want_three tRap tRet tPar _ _ ?hT1 HV6.out.db.got.here).mono ?_; (case hT1 => first | (simp only [size_set, World.size_alloc]; done) | rfl); rintro e w9 hp; clear tokT _t; obtain ⟨rfl, hg⟩ := post_unit hp H4.out; have HV7 := Aside0.mk (HV6.out.got_ hg); clear hp hg) | (go_at_call 60; have _t := tokB; refine (ppath_got _ HV7.out.db.got.here).mono ?_; rintro e w10 hp; clear tokB _t; obtain ⟨rfl, hg⟩ := post_path hp H5.out; have HV8 := Aside0.mk (HV7.out.got_ hg); obtain ⟨p0, p1, p2, p3, p4⟩ := HV8.out.cells; obtain ⟨q0, q1, q2, q3, q4⟩ := HV8.out.free; have HV9 := Aside0.mk (HV8.out.set 2 (.string vo) ⟨vn.1, vi, vo, vn.2⟩ rfl); obtain ⟨_, _, _, _, _, _, c6, _⟩ := HV8.out.db.cells; have f6 := blk_frozen HV8.out.db.blk 6; have hgl := blk_lt HV8.out.db.blk; clear hp hg) | ((with_reducible refine gate_bi (b := .append) (xs := #[.tmp 45, .tmp 47]) rfl ?_); at_builtin; refine Kd.R_append kMe (w0 := (w10.setCell ⟨w4.heap.size, 2, none⟩ (.string vo))) (W := (w10.setCell ⟨w4.heap.size, 2, none⟩ (.string vo))) w.heap.size rfl (.tmp 45) (.tmp 47) 47 73 (.agg #[.string ⟨#[]⟩, .string ⟨#[]⟩, .string ⟨#[]⟩, .int .i64 0, .int .i64 0]) 64 rfl Tryd.underlying47 info_pm rfl (by decide) (by decide) _ ms (⟨vn.1, vi, vo, vn.2⟩ : Me) [.string vn.1, .string vi, .string vo, .int .i64 vn.2.line, .int .i64 vn.2.col] (fun k => g < k) (fun _ => False) rfl ?aX (kMe_mkM _ _ _ ⟨vn.1, vi, vo, vn.2⟩) (fun _ hk => hk.elim) ?aF HV9.out.back.row (Below.refl _ _) ?aS ?aL ?_; (case aX => (rw [size_set]; rfl)); (case aF => (intro j hj; have h2 := blk_lt HV9.out.db.blk; omega)); (case aS => exact HV9.out.db.got.ch.size); (case aL => omega); intro v1 w11 ho hb hg hat; have hne := Db.own HV9.out.db hg (fun j e => HV9.out.back.row.1 j e); obtain ⟨D1, e1, hv1⟩ := Kd.R_slice ho; rw [hl1'.out] at hv1; subst hv1; have HE2 := Aside0.mk (HV9.out.back.push ho hg); have c6' := blk_cell hne.blk 6; have f6' := blk_frozen hne.blk 6; clear ho hb hg hat hne) | (go_at_call 57; have _t := tokS; refine (want_two tRap tSemi _ _ ?hS1 HE2.out.db.got.here).mono ?_; (case hS1 => first | (simp only [size_set, World.size_alloc]; done) | rfl); rintro e w12 hp; clear tokS _t; obtain ⟨rfl, hg⟩ := post_unit hp H6.out; have HE3 := Aside0.mk (HE2.out.got_ hg); clear hp hg))
                        go_roundw
                        case rel => exact ⟨ms ++ [⟨vn.1, vi, vo, vn.2⟩], _, ws10, m, by omega, by rw [List.length_append, List.length_singleton]; omega, ⟨HE3.out, HW.out⟩⟩
                        case measure => rw [show wlen b _ = ws3.length from HE.out.db.got.wlen, show wlen b _ = ws10.length from HE3.out.db.got.wlen]; omega

end Go.Proofs.YtfcpfbdlkanlpaaDoor
