/- The parser's enum, the walk. PRINTED by wip/tools/gen_enum.py. -/
import Derived.Test.YtfcpfbdlkanlpaaDoorParEnum
namespace Go.Proofs.YtfcpfbdlkanlpaaDoor
open Go.RowKit Go.Proofs.YtfcpfbdlkanlpaaDoorW.PrintWords Go.Proofs.YtfcpfbdlkanlpaaDoorW.PrintLast
set_option linter.unusedVariables false
set_option linter.unusedSimpArgs false

theorem Db.start {base b : Nat} {en p : Pos} {w w1 : World} {ws : List Wd} (h : Got base b en ws w w) (hb : Below ((w.alloc (.cells #[.int .i64 p.line, .int .i64 p.col] 41)).alloc zDecl).heap.size ((w.alloc (.cells #[.int .i64 p.line, .int .i64 p.col] 41)).alloc zDecl) w1) :
    Db base b en w (w.heap.size + 1) w1.heap.size 2 (⟨#[]⟩, pos0) nilS nilS nilS nilS ws (w1.alloc (.cells #[.int .i64 2, .string ⟨#[]⟩, .int .i64 0, .int .i64 0, nilS, nilS, nilS, nilS] 49)) := by
  have hs : (w.alloc (.cells #[.int .i64 p.line, .int .i64 p.col] 41)).heap.size = w.heap.size + 1 := World.size_alloc _ _
  have bk := blk_below (blk_new (w.alloc (.cells #[.int .i64 p.line, .int .i64 p.col] 41)) zDecl) hb
  rw [hs] at bk
  exact ⟨(((h.alloc _).alloc _).below hb).alloc _, blk_alloc bk _, blk_new w1 _, h.blt, by omega, blk_lt bk⟩
set_option maxHeartbeats 8000000 in
set_option maxRecDepth 20000 in
theorem enum_got {base b : Nat} {en : Pos} {ws : List Wd} (n depth : Nat) (p : Pos) (w : World) (h : Got base b en ws w w) (hn : ws.length < n) (hl : ws.length ≤ 100000) (hdep : depth ≤ 1000) :
    Calls Tryd.prog 31 #[.pointer (some ⟨b, 0, none⟩), .int .i64 depth, .agg #[.int .i64 p.line, .int .i64 p.col]] w fun e w' => Post base b en w (declV w b) (enumP en n depth p ws) e w' := by
  have h0 := Aside0.mk h
  have tokO : True := trivial
  have tokE : True := trivial
  have tokS : True := trivial
  have hbl := h.blt
  clear h
  obtain ⟨ans, hans⟩ : ∃ a, a = enumP en n depth p ws := ⟨_, rfl⟩
  rw [← hans]
  unfold enumP deepP headP at hans
  by_cases hd : 8 < depth
  · rw [if_pos hd] at hans
    have HA := Aside0.mk (show ans = .bad 8 p from hans)
    clear hans
    go_enter Tryd.func31, Tryd.ntmps31
    go_wp2_with (go_at_call 55; refine (deep_bad b depth p _ hd).mono ?_; rintro e w1 ⟨rfl, hb⟩; have HB := Aside0.mk hb; clear hb; unfold flt)
    refine ⟨rfl, ?_⟩
    rw [HA.out]
    exact ⟨rfl, Ch.pre (below_alloc (below_alloc (Below.refl _ _) _) _) (Ch.of HB.out b)⟩

  · rw [if_neg hd] at hans
    cases hnm : nameP en ws with
    | bad er q =>
      rw [hnm] at hans
      have HA := Aside0.mk (show ans = .bad er q from hans)
      have HN := Lib.hid hnm
      clear hans hnm
      go_enter Tryd.func31, Tryd.ntmps31
      go_wp2_with (first | (go_at_call 55; refine (deep_fine b depth p _ (by omega)).mono ?_; rintro e w1 ⟨rfl, hb⟩; have HD1 := Aside0.mk (Db.start h0.out hb); have hl1 := blk_lt HD1.out.res; have HB1 := Aside0.mk hb; obtain ⟨c0, c1, c2, c3, c4, c5, c6, c7⟩ := HD1.out.cells; clear hb) | (go_at_call 56; refine (pname_got _ HD1.out.got.here).mono ?_; rintro e w2 hp; obtain ⟨rfl, hc⟩ := hp.bad HN.out; have HC := Aside0.mk hc; clear hp hc; unfold flt))
      refine ⟨rfl, ?_⟩
      rw [HA.out]
      exact ⟨rfl, HD1.out.got.ch.trans HC.out⟩

    | ok nm ws1 =>
      have hlen1 := nameP_len hnm
      rw [hnm, Rs.bind_ok] at hans
      have HN := Lib.hid hnm
      clear hnm
      cases ho : wantP en kOpen ws1 with
      | bad er q =>
        rw [ho] at hans
        have HA := Aside0.mk (show ans = .bad er q from hans)
        have HO := Lib.hid ho
        clear hans ho
        go_enter Tryd.func31, Tryd.ntmps31
        go_wp2_with (first | (go_at_call 55; refine (deep_fine b depth p _ (by omega)).mono ?_; rintro e w1 ⟨rfl, hb⟩; have HD1 := Aside0.mk (Db.start h0.out hb); have hl1 := blk_lt HD1.out.res; have HB1 := Aside0.mk hb; obtain ⟨c0, c1, c2, c3, c4, c5, c6, c7⟩ := HD1.out.cells; clear hb) | (go_at_call 56; refine (pname_got _ HD1.out.got.here).mono ?_; rintro e w2 hp; obtain ⟨rfl, hg⟩ := post_name hp HN.out; have HD2 := Aside0.mk (HD1.out.got_ hg); obtain ⟨c0, c1, c2, c3, c4, c5, c6, c7⟩ := HD2.out.cells; obtain ⟨f0, f1, f2, f3, f4, f5, f6, f7⟩ := free8 HD2.out.blk; have HD3 := Aside0.mk (((HD2.out.set 1 (.string nm.1) (k' := 2) (x' := (nm.1, pos0)) rfl).set 2 (.int .i64 nm.2.line) (k' := 2) (x' := (nm.1, ⟨nm.2.line, 0⟩)) rfl).set 3 (.int .i64 nm.2.col) (k' := 2) (x' := nm) rfl); clear hp hg) | (go_at_call 57; have _t := tokO; refine (want_one ⟨#[123]⟩ _ _ ?hO1 HD3.out.got.here).mono ?_; (case hO1 => simp only [size_set]); rintro e w3 hp; clear tokO _t; obtain ⟨rfl, hc⟩ := hp.bad HO.out; have HC := Aside0.mk hc; clear hp hc; unfold flt))
        refine ⟨rfl, ?_⟩
        rw [HA.out]
        exact ⟨rfl, HD3.out.got.ch.trans HC.out⟩

      | ok u ws2 =>
        have hlen2 := wantP_len ho
        rw [ho, Rs.bind_ok, Rs.bind_ok] at hans
        have HA := Lib.hid hans
        have HO := Lib.hid ho
        clear hans ho
        go_enter Tryd.func31, Tryd.ntmps31
        go_wp2_with (first | (go_at_call 55; refine (deep_fine b depth p _ (by omega)).mono ?_; rintro e w1 ⟨rfl, hb⟩; have HD1 := Aside0.mk (Db.start h0.out hb); have hl1 := blk_lt HD1.out.res; have HB1 := Aside0.mk hb; obtain ⟨c0, c1, c2, c3, c4, c5, c6, c7⟩ := HD1.out.cells; clear hb) | (go_at_call 56; refine (pname_got _ HD1.out.got.here).mono ?_; rintro e w2 hp; obtain ⟨rfl, hg⟩ := post_name hp HN.out; have HD2 := Aside0.mk (HD1.out.got_ hg); obtain ⟨c0, c1, c2, c3, c4, c5, c6, c7⟩ := HD2.out.cells; obtain ⟨f0, f1, f2, f3, f4, f5, f6, f7⟩ := free8 HD2.out.blk; have HD3 := Aside0.mk (((HD2.out.set 1 (.string nm.1) (k' := 2) (x' := (nm.1, pos0)) rfl).set 2 (.int .i64 nm.2.line) (k' := 2) (x' := (nm.1, ⟨nm.2.line, 0⟩)) rfl).set 3 (.int .i64 nm.2.col) (k' := 2) (x' := nm) rfl); clear hp hg) | (go_at_call 57; have _t := tokO; refine (want_one ⟨#[123]⟩ _ _ ?hO1 HD3.out.got.here).mono ?_; (case hO1 => simp only [size_set]); rintro e w3 hp; clear tokO _t; obtain ⟨rfl, hg⟩ := post_unit hp HO.out; have HD4 := Aside0.mk (HD3.out.got_ hg); clear hp hg))
        obtain ⟨r, hr⟩ : ∃ r, r = w.heap.size + 1 := ⟨_, rfl⟩
        obtain ⟨g, hg⟩ : ∃ g, g = w1.heap.size := ⟨_, rfl⟩
        have HE0 := Aside0.mk (show En base b en w r g nm nilS [] ws2 w3 from ⟨by rw [hr, hg]; exact HD4.out, Kd.R_nil _ _ _ _ _⟩)
        rw [← hg, ← hr]
        clear hr hg
        go_loopw [] (fun wr => ∃ (vs : List Va) (v5 : Value) (ws3 : List Wd) (m : Nat), ws3.length < m ∧ vs.length + ws3.length ≤ 100000 ∧ Aside0 (En base b en w r g nm v5 vs ws3 wr ∧ enumGo en m nm vs ws3 = ans)) (fun wr => wlen b wr)
        case atStart => exact ⟨[], nilS, ws2, n, by omega, by simp; omega, ⟨HE0.out, HA.out.symm⟩⟩
        case round =>
          clear HE0 HD4 HD3 HD2 HD1 c0 c1 c2 c3 c4 c5 c6 c7 f0 f1 f2 f3 f4 f5 f6 f7
          obtain ⟨vs, v5, ws3, m, hm, hvl, hR⟩ := hrel
          have HE := Aside0.mk hR.out.1
          have hw := hR.out.2
          clear hR
          obtain ⟨m, rfl⟩ : ∃ m', m = m' + 1 := ⟨m - 1, by omega⟩
          simp only [enumGo] at hw
          obtain ⟨A5, n5, hv5⟩ := Kd.R_slice HE.out.row
          subst hv5
          cases hh : haveB en kShut ws3 with
          | true =>
            rw [hh, if_pos rfl] at hw
            have HW := Aside0.mk hw
            have HH := Lib.hid hh
            clear hw hh
            go_wp2_with (first | (go_at_call 29; refine (have_got ⟨#[125]⟩ kShut rfl HE.out.db.got.here).mono ?_; rintro e w4 ⟨rfl, hg⟩; rw [HH.out] at hg ⊢; have HE1 := Aside0.mk (HE.out.got_ hg); obtain ⟨c0, c1, c2, c3, c4, c5, c6, c7⟩ := HE1.out.db.cells; obtain ⟨r0, r1, r2, r3, r4, r5, r6, r7⟩ := HE1.out.db.rcells; obtain ⟨f0, f1, f2, f3, f4, f5, f6, f7⟩ := free8 HE1.out.db.res; clear hg))
            refine bodyPost_ret (results_c rfl _ _ r _ _ _ _ rfl (put8 _ _ _ _ _ _ _ _ HE1.out.db.res) Tryd.underlying49 rfl size_de) rfl ?_
            rw [← HW.out]
            exact ⟨_, rfl, ⟨_, rfl, HE1.out.done _ _ _ _ _ _ _ _⟩, HE1.out.db.rfar _ _ _ _ _ _ _ _⟩

          | false =>
            rw [hh, if_neg (by decide)] at hw
            unfold valueP at hw
            have HH := Lib.hid hh
            have hl1' := Lib.hid (show (vs ++ [(⟨⟨#[]⟩, 0, pos0⟩ : Va)]).length = vs.length + 1 by rw [List.length_append, List.length_singleton])
            clear hh
            cases hvn : nameP en ws3 with
            | bad er q =>
              rw [hvn] at hw
              have HA := Aside0.mk (show ans = .bad er q from hw.symm)
              have HVN := Lib.hid hvn
              clear hw hvn
              go_wp2_with (first | (go_at_call 29; refine (have_got ⟨#[125]⟩ kShut rfl HE.out.db.got.here).mono ?_; rintro e w4 ⟨rfl, hg⟩; rw [HH.out] at hg ⊢; have HE1 := Aside0.mk (HE.out.got_ hg); have HV0 := Aside0.mk HE1.out.new; clear hg) | (go_at_call 56; refine (pname_got _ HV0.out.db.got.here).mono ?_; rintro e w5 hp; obtain ⟨rfl, hc⟩ := hp.bad HVN.out; have HC := Aside0.mk hc; clear hp hc; unfold flt))
              refine ⟨rfl, ?_⟩
              rw [HA.out]
              exact ⟨rfl, HV0.out.db.got.ch.trans HC.out⟩
            | ok vn ws4 =>
              have hlv0 := nameP_len hvn
              rw [hvn, Rs.bind_ok] at hw
              have HVN := Lib.hid hvn
              clear hvn
              cases hve : wantP en kEq ws4 with
              | bad er q =>
                rw [hve] at hw
                have HA := Aside0.mk (show ans = .bad er q from hw.symm)
                have HVE := Lib.hid hve
                clear hw hve
                go_wp2_with (first | (go_at_call 29; refine (have_got ⟨#[125]⟩ kShut rfl HE.out.db.got.here).mono ?_; rintro e w4 ⟨rfl, hg⟩; rw [HH.out] at hg ⊢; have HE1 := Aside0.mk (HE.out.got_ hg); have HV0 := Aside0.mk HE1.out.new; clear hg) | (go_at_call 56; refine (pname_got _ HV0.out.db.got.here).mono ?_; rintro e w5 hp; obtain ⟨rfl, hg⟩ := post_name hp HVN.out; have HV1 := Aside0.mk (HV0.out.got_ hg); obtain ⟨p0, p1, p2, p3⟩ := box4 HV1.out.bk; obtain ⟨q0, q1, q2, q3⟩ := HV1.out.free; have HV2 := Aside0.mk (((HV1.out.set 0 (.string vn.1) ⟨vn.1, 0, pos0⟩ rfl).set 2 (.int .i64 vn.2.line) ⟨vn.1, 0, ⟨vn.2.line, 0⟩⟩ rfl).set 3 (.int .i64 vn.2.col) ⟨vn.1, 0, vn.2⟩ rfl); clear hp hg) | (go_at_call 57; have _t := tokE; refine (want_one ⟨#[61]⟩ _ _ ?hE1 HV2.out.db.got.here).mono ?_; (case hE1 => simp only [size_set]); rintro e w6 hp; clear tokE _t; obtain ⟨rfl, hc⟩ := hp.bad HVE.out; have HC := Aside0.mk hc; clear hp hc; unfold flt))
                refine ⟨rfl, ?_⟩
                rw [HA.out]
                exact ⟨rfl, HV2.out.db.got.ch.trans HC.out⟩
              | ok u1 ws5 =>
                have hlv1 := wantP_len hve
                rw [hve, Rs.bind_ok] at hw
                have HVE := Lib.hid hve
                clear hve
                cases hvk : numberP en ws5 with
                | bad er q =>
                  rw [hvk] at hw
                  have HA := Aside0.mk (show ans = .bad er q from hw.symm)
                  have HVK := Lib.hid hvk
                  clear hw hvk
                  go_wp2_with (first | (go_at_call 29; refine (have_got ⟨#[125]⟩ kShut rfl HE.out.db.got.here).mono ?_; rintro e w4 ⟨rfl, hg⟩; rw [HH.out] at hg ⊢; have HE1 := Aside0.mk (HE.out.got_ hg); have HV0 := Aside0.mk HE1.out.new; clear hg) | (go_at_call 56; refine (pname_got _ HV0.out.db.got.here).mono ?_; rintro e w5 hp; obtain ⟨rfl, hg⟩ := post_name hp HVN.out; have HV1 := Aside0.mk (HV0.out.got_ hg); obtain ⟨p0, p1, p2, p3⟩ := box4 HV1.out.bk; obtain ⟨q0, q1, q2, q3⟩ := HV1.out.free; have HV2 := Aside0.mk (((HV1.out.set 0 (.string vn.1) ⟨vn.1, 0, pos0⟩ rfl).set 2 (.int .i64 vn.2.line) ⟨vn.1, 0, ⟨vn.2.line, 0⟩⟩ rfl).set 3 (.int .i64 vn.2.col) ⟨vn.1, 0, vn.2⟩ rfl); clear hp hg) | (go_at_call 57; have _t := tokE; refine (want_one ⟨#[61]⟩ _ _ ?hE1 HV2.out.db.got.here).mono ?_; (case hE1 => simp only [size_set]); rintro e w6 hp; clear tokE _t; obtain ⟨rfl, hg⟩ := post_unit hp HVE.out; have HV3 := Aside0.mk (HV2.out.got_ hg); clear hp hg) | (go_at_call 59; refine (number_got _ HV3.out.db.got.here).mono ?_; rintro e w7 hp; obtain ⟨rfl, hc⟩ := hp.bad HVK.out; have HC := Aside0.mk hc; clear hp hc; unfold flt))
                  refine ⟨rfl, ?_⟩
                  rw [HA.out]
                  exact ⟨rfl, HV3.out.db.got.ch.trans HC.out⟩
                | ok k ws6 =>
                  have hlv2 := numberP_len hvk
                  rw [hvk, Rs.bind_ok] at hw
                  have HVK := Lib.hid hvk
                  clear hvk
                  rw [Rs.bind_ok] at hw
                  have hl1' := Lib.hid (show (vs ++ [(⟨vn.1, k, vn.2⟩ : Va)]).length = vs.length + 1 by rw [List.length_append, List.length_singleton])
                  cases hvm : wantP en kSemi ws6 with
                  | bad er q =>
                    rw [hvm] at hw
                    have HA := Aside0.mk (show ans = .bad er q from hw.symm)
                    have HVM := Lib.hid hvm
                    clear hw hvm
                    go_wp2_with (first | (go_at_call 29; refine (have_got ⟨#[125]⟩ kShut rfl HE.out.db.got.here).mono ?_; rintro e w4 ⟨rfl, hg⟩; rw [HH.out] at hg ⊢; have HE1 := Aside0.mk (HE.out.got_ hg); have HV0 := Aside0.mk HE1.out.new; clear hg) | (go_at_call 56; refine (pname_got _ HV0.out.db.got.here).mono ?_; rintro e w5 hp; obtain ⟨rfl, hg⟩ := post_name hp HVN.out; have HV1 := Aside0.mk (HV0.out.got_ hg); obtain ⟨p0, p1, p2, p3⟩ := box4 HV1.out.bk; obtain ⟨q0, q1, q2, q3⟩ := HV1.out.free; have HV2 := Aside0.mk (((HV1.out.set 0 (.string vn.1) ⟨vn.1, 0, pos0⟩ rfl).set 2 (.int .i64 vn.2.line) ⟨vn.1, 0, ⟨vn.2.line, 0⟩⟩ rfl).set 3 (.int .i64 vn.2.col) ⟨vn.1, 0, vn.2⟩ rfl); clear hp hg) | (go_at_call 57; have _t := tokE; refine (want_one ⟨#[61]⟩ _ _ ?hE1 HV2.out.db.got.here).mono ?_; (case hE1 => simp only [size_set]); rintro e w6 hp; clear tokE _t; obtain ⟨rfl, hg⟩ := post_unit hp HVE.out; have HV3 := Aside0.mk (HV2.out.got_ hg); clear hp hg) | (go_at_call 59; refine (number_got _ HV3.out.db.got.here).mono ?_; rintro e w7 hp; obtain ⟨rfl, hg⟩ := post_int hp HVK.out; have HV4 := Aside0.mk (HV3.out.got_ hg); obtain ⟨p0, p1, p2, p3⟩ := box4 HV4.out.bk; obtain ⟨q0, q1, q2, q3⟩ := HV4.out.free; have HV5 := Aside0.mk (HV4.out.set 1 (.int .i64 k) ⟨vn.1, k, vn.2⟩ rfl); obtain ⟨_, _, _, _, _, c5, _, _⟩ := HV4.out.db.cells; have f5 := blk_frozen HV4.out.db.blk 5; have hgl := blk_lt HV4.out.db.blk; clear hp hg) | ((with_reducible refine gate_bi (b := .append) (xs := #[.tmp 44, .tmp 46]) rfl ?_); at_builtin; refine Kd.R_append kVa (w0 := (w7.setCell ⟨w4.heap.size, 1, none⟩ (.int .i64 k))) (W := (w7.setCell ⟨w4.heap.size, 1, none⟩ (.int .i64 k))) w.heap.size rfl (.tmp 44) (.tmp 46) 46 70 (.agg #[.string ⟨#[]⟩, .int .i64 0, .int .i64 0, .int .i64 0]) 40 rfl Tryd.underlying46 info_pv rfl (by decide) (by decide) _ vs (⟨vn.1, k, vn.2⟩ : Va) [.string vn.1, .int .i64 k, .int .i64 vn.2.line, .int .i64 vn.2.col] (fun k => g < k) (fun _ => False) rfl ?aX (kVa_mkM _ _ _ ⟨vn.1, k, vn.2⟩) (fun _ hk => hk.elim) ?aF HV5.out.back.row (Below.refl _ _) ?aS ?aL ?_; (case aX => (rw [size_set]; rfl)); (case aF => (intro j hj; have h2 := blk_lt HV5.out.db.blk; omega)); (case aS => exact HV5.out.db.got.ch.size); (case aL => omega); intro v1 w8 ho hb hg hat; have hne := Db.own HV5.out.db hg (fun j e => HV5.out.back.row.1 j e); obtain ⟨D1, e1, hv1⟩ := Kd.R_slice ho; rw [hl1'.out] at hv1; subst hv1; have HE2 := Aside0.mk (HV5.out.back.push ho hg); have c5' := blk_cell hne.blk 5; have f5' := blk_frozen hne.blk 5; clear ho hb hg hat hne) | (go_at_call 57; have _t := tokS; refine (want_one ⟨#[59]⟩ _ _ ?hS1 HE2.out.db.got.here).mono ?_; (case hS1 => simp only [size_set]); rintro e w9 hp; clear tokS _t; obtain ⟨rfl, hc⟩ := hp.bad HVM.out; have HC := Aside0.mk hc; clear hp hc; unfold flt))
                    refine ⟨rfl, ?_⟩
                    rw [HA.out]
                    exact ⟨rfl, HE2.out.db.got.ch.trans HC.out⟩
                  | ok u2 ws7 =>
                    have hlv3 := wantP_len hvm
                    rw [hvm, Rs.bind_ok] at hw
                    have HVM := Lib.hid hvm
                    clear hvm
                    have HW := Aside0.mk hw
                    clear hw
                    go_wp2_with (first | (go_at_call 29; refine (have_got ⟨#[125]⟩ kShut rfl HE.out.db.got.here).mono ?_; rintro e w4 ⟨rfl, hg⟩; rw [HH.out] at hg ⊢; have HE1 := Aside0.mk (HE.out.got_ hg); have HV0 := Aside0.mk HE1.out.new; clear hg) | (go_at_call 56; refine (pname_got _ HV0.out.db.got.here).mono ?_; rintro e w5 hp; obtain ⟨rfl, hg⟩ := post_name hp HVN.out; have HV1 := Aside0.mk (HV0.out.got_ hg); obtain ⟨p0, p1, p2, p3⟩ := box4 HV1.out.bk; obtain ⟨q0, q1, q2, q3⟩ := HV1.out.free; have HV2 := Aside0.mk (((HV1.out.set 0 (.string vn.1) ⟨vn.1, 0, pos0⟩ rfl).set 2 (.int .i64 vn.2.line) ⟨vn.1, 0, ⟨vn.2.line, 0⟩⟩ rfl).set 3 (.int .i64 vn.2.col) ⟨vn.1, 0, vn.2⟩ rfl); clear hp hg) | (go_at_call 57; have _t := tokE; refine (want_one ⟨#[61]⟩ _ _ ?hE1 HV2.out.db.got.here).mono ?_; (case hE1 => simp only [size_set]); rintro e w6 hp; clear tokE _t; obtain ⟨rfl, hg⟩ := post_unit hp HVE.out; have HV3 := Aside0.mk (HV2.out.got_ hg); clear hp hg) | (go_at_call 59; refine (number_got _ HV3.out.db.got.here).mono ?_; rintro e w7 hp; obtain ⟨rfl, hg⟩ := post_int hp HVK.out; have HV4 := Aside0.mk (HV3.out.got_ hg); obtain ⟨p0, p1, p2, p3⟩ := box4 HV4.out.bk; obtain ⟨q0, q1, q2, q3⟩ := HV4.out.free; have HV5 := Aside0.mk (HV4.out.set 1 (.int .i64 k) ⟨vn.1, k, vn.2⟩ rfl); obtain ⟨_, _, _, _, _, c5, _, _⟩ := HV4.out.db.cells; have f5 := blk_frozen HV4.out.db.blk 5; have hgl := blk_lt HV4.out.db.blk; clear hp hg) | ((with_reducible refine gate_bi (b := .append) (xs := #[.tmp 44, .tmp 46]) rfl ?_); at_builtin; refine Kd.R_append kVa (w0 := (w7.setCell ⟨w4.heap.size, 1, none⟩ (.int .i64 k))) (W := (w7.setCell ⟨w4.heap.size, 1, none⟩ (.int .i64 k))) w.heap.size rfl (.tmp 44) (.tmp 46) 46 70 (.agg #[.string ⟨#[]⟩, .int .i64 0, .int .i64 0, .int .i64 0]) 40 rfl Tryd.underlying46 info_pv rfl (by decide) (by decide) _ vs (⟨vn.1, k, vn.2⟩ : Va) [.string vn.1, .int .i64 k, .int .i64 vn.2.line, .int .i64 vn.2.col] (fun k => g < k) (fun _ => False) rfl ?aX (kVa_mkM _ _ _ ⟨vn.1, k, vn.2⟩) (fun _ hk => hk.elim) ?aF HV5.out.back.row (Below.refl _ _) ?aS ?aL ?_; (case aX => (rw [size_set]; rfl)); (case aF => (intro j hj; have h2 := blk_lt HV5.out.db.blk; omega)); (case aS => exact HV5.out.db.got.ch.size); (case aL => omega); intro v1 w8 ho hb hg hat; have hne := Db.own HV5.out.db hg (fun j e => HV5.out.back.row.1 j e); obtain ⟨D1, e1, hv1⟩ := Kd.R_slice ho; rw [hl1'.out] at hv1; subst hv1; have HE2 := Aside0.mk (HV5.out.back.push ho hg); have c5' := blk_cell hne.blk 5; have f5' := blk_frozen hne.blk 5; clear ho hb hg hat hne) | (go_at_call 57; have _t := tokS; refine (want_one ⟨#[59]⟩ _ _ ?hS1 HE2.out.db.got.here).mono ?_; (case hS1 => simp only [size_set]); rintro e w9 hp; clear tokS _t; obtain ⟨rfl, hg⟩ := post_unit hp HVM.out; have HE3 := Aside0.mk (HE2.out.got_ hg); clear hp hg))
                    go_roundw
                    case rel => exact ⟨vs ++ [⟨vn.1, k, vn.2⟩], _, ws7, m, by omega, by rw [List.length_append, List.length_singleton]; omega, ⟨HE3.out, HW.out⟩⟩
                    case measure => rw [show wlen b _ = ws3.length from HE.out.db.got.wlen, show wlen b _ = ws7.length from HE3.out.db.got.wlen]; omega

end Go.Proofs.YtfcpfbdlkanlpaaDoor
