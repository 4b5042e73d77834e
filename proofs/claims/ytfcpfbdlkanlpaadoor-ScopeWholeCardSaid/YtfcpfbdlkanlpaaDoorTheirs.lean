/- courierlaw05.Theirs: the declarations as the program has them: the same, in new memory. -/
import Derived.Test.YtfcpfbdlkanlpaaDoorTheirsP
namespace Go.Proofs.YtfcpfbdlkanlpaaDoor
open Go.RowKit Go.Proofs.YtfcpfbdlkanlpaaDoorW.PrintWords Go.Proofs.YtfcpfbdlkanlpaaDoorW.PrintLast
set_option linter.unusedVariables false
set_option linter.unusedSimpArgs false

set_option maxHeartbeats 8000000 in
set_option maxRecDepth 100000 in
theorem theirs_calls (k : Nat) : ∀ (l : List De) (A : Option Addr) (c : Nat) (w : World), nL l ≤ k → wtL l ≤ 100000 →
    kR.C w A l.length l → l.length ≤ c →
    Calls Tryd.prog 12 #[.slice A l.length c] w fun e w' => ∃ v, e = .returned v ∧ kP.R 49 w' w.heap.size (fun _ => True) v l ∧ Below w.heap.size w w' := by
  induction k using Nat.strongRecOn with
  | _ k ih =>
  intro l A c w hk hw hC hc
  have HC := Lib.hid hC
  clear hC
  go_enter Tryd.func12, Tryd.ntmps12
  go_wp2
  go_loopw [3, 11] (fun v i wr => ∃ j : Nat, j ≤ l.length ∧ i = .int .i64 j ∧ Aside0 (kP.R 49 wr w.heap.size (fun _ => True) v (l.take j)) ∧ Aside0 (Below w.heap.size w wr)) (fun _ i _ => l.length - (intOf i).toNat)
  case atStart => exact ⟨0, by omega, rfl, ⟨Kd.R_nil _ _ _ _ _⟩, ⟨Below.refl _ _⟩⟩
  case round =>
    obtain ⟨j, hj, rfl, hR, hB⟩ := hrel
    by_cases hlt : j < l.length
    · obtain ⟨x, hx⟩ := get_of_lt hlt
      obtain ⟨ad, A4, c4, A5, c5, A6, c6, A7, c7, rfl, hat, hang⟩ := C_de HC.out hx
      have hgn := nL_get hx
      have hxn := n_mk x
      have hll := len_le_nL l
      obtain ⟨h0, h1, h2, h3, h4, h5, h6, h7⟩ := hat.below hB.out
      have hne := World.new_ne wr _ h0
      have hlw := len_le_wtL l
      have hwx := wtL_step hx
      have hwx2 : wtL (l.take (j + 1)) ≤ wtL l := by have h := wtL_append (l.take (j + 1)) (l.drop (j + 1)); rw [List.take_append_drop] at h; omega
      have hwx3 := wt_mk x
      unfold De.own_wt at hwx3
      go_upto_region 5 with (fail)
      go_cut [5] (fun s5 wx => ∃ (Bd : Nat) (B7 : Option Addr) (d7 : Nat), s5 = .pointer (some ⟨Bd, 0, none⟩) ∧ Aside0 (wr.heap.size ≤ Bd ∧ wx.heap[Bd]? = some (.cells #[.int .i64 x.kind, .string x.name, .int .i64 x.pos.line, .int .i64 x.pos.col, .slice none 0 0, .slice none 0 0, .slice none 0 0, .slice B7 x.inner.length d7] 49 (0, 0)) ∧ kP.R 49 wx w.heap.size (fun k => wr.heap.size ≤ k ∧ k ≠ Bd) (.slice B7 x.inner.length d7) x.inner ∧ Below wr.heap.size wr wx))
      case first =>
        go_region_held3 (fun w' => w'.cell? (ad.add (j * 8)) = some (.int .i64 x.kind) ∧ w'.cell? ⟨(ad.add (j * 8)).block, (ad.add (j * 8)).off + 1, none⟩ = some (.string x.name) ∧ w'.cell? ⟨(ad.add (j * 8)).block, (ad.add (j * 8)).off + 2, none⟩ = some (.int .i64 x.pos.line) ∧ w'.cell? ⟨(ad.add (j * 8)).block, (ad.add (j * 8)).off + 3, none⟩ = some (.int .i64 x.pos.col) ∧ w'.cell? ⟨(ad.add (j * 8)).block, (ad.add (j * 8)).off + 7, none⟩ = some (.slice A7 x.inner.length c7))
          (first | (with_reducible exact hat.five hB3) | (with_reducible exact hat.five (below_alloc hB3 _)) | go_keep)
          (first
            | (go_at_call 12; with_reducible refine (ih (nL x.inner) (by omega) x.inner A7 c7 wr.drew (Nat.le_refl _) (by omega) (Kd.C_below hang.g7 (hB.out.drew)) hang.l7).mono ?_; rintro e w2 ⟨v7, rfl, hR7, hB2⟩; obtain ⟨B7, d7, rfl⟩ := Kd.R_slice hR7; have hR7' := Aside0.mk hR7; have hB3 := below_then hB.out.drew (hB.out.drew).size hB2)
            | (go_at_call 12; with_reducible refine (ih (nL x.inner) (by omega) x.inner A7 c7 (wr.alloc _).drew (Nat.le_refl _) (by omega) (Kd.C_below hang.g7 ((below_alloc hB.out _).drew)) hang.l7).mono ?_; rintro e w2 ⟨v7, rfl, hR7, hB2⟩; obtain ⟨B7, d7, rfl⟩ := Kd.R_slice hR7; have hR7' := Aside0.mk hR7; have hB3 := below_then (below_alloc hB.out _).drew ((below_alloc hB.out _).drew).size hB2; have bk := blk_below (blk_drew (blk_new wr _)) hB2; have bks := blk_lt bk; obtain ⟨p0, p1, p2, p3, p4, p5, p6, p7⟩ := box8 bk; obtain ⟨q0, q1, q2, q3, q4, q5, q6, q7⟩ := free8 bk; have bk' := Aside0.mk bk; clear bk))
        · go_wp2_with fail
          go_meet
          refine ⟨_, _, _, rfl, ⟨?_, blk_new w2 _, ?_, ?_⟩⟩
          · exact hB2.size
          · exact Kd.R_mono (Kd.R_below (Kd.R_lower (Kd.R_bound hR7'.out) hB.out.size) (below_alloc (Below.refl _ _) _)) (fun k hk => ⟨hk.2.1, by have := hk.2.2.1; omega⟩)
          · exact below_alloc (below_then ((Below.refl wr.heap.size wr).drew) (Nat.le_refl _) hB2) _
        · go_wp2_with fail
          go_meet
          refine ⟨_, _, _, rfl, ⟨?_, put8 _ _ _ _ _ _ _ _ bk'.out, ?_, ?_⟩⟩
          · exact Nat.le_refl _
          · refine R_far8 (Kd.R_mono (Kd.R_lower (Kd.R_bound hR7'.out) ?_) (fun k hk => ⟨?_, ?_⟩)) (fun k hk => hk.2) _ _ _ _ _ _ _ _
            · have h1 := hB.out.size
              show w.heap.size ≤ (wr.alloc _).heap.size
              simp only [World.size_alloc]; omega
            · have h1 : (wr.alloc _).heap.size ≤ k := hk.2.1
              simp only [World.size_alloc] at h1; omega
            · have h1 : (wr.alloc _).heap.size ≤ k := hk.2.1
              simp only [World.size_alloc] at h1; omega
          · exact below_put8 (below_then ((below_alloc (Below.refl wr.heap.size wr) _).drew) (by show wr.heap.size ≤ (wr.alloc _).heap.size; simp only [World.size_alloc]; omega) hB2) (Nat.le_refl _) _ _ _ _ _ _ _ _
      case rest =>
        obtain ⟨Bd, B7, d7, rfl, hX⟩ := hcut
        obtain ⟨hX1, hX2, hX3, hX4⟩ := hX.out
        obtain ⟨S2, hS2⟩ : ∃ S2, S2 = wc.heap.size := ⟨_, rfl⟩
        have hM : Mk wr w.heap.size Bd S2 x B7 d7 (.slice none 0 0) (.slice none 0 0) (.slice none 0 0) (x.fs.take 0) (x.vs.take 0) (x.ms.take 0) wc := ⟨hX2, Kd.R_nil _ _ _ _ _, Kd.R_nil _ _ _ _ _, Kd.R_nil _ _ _ _ _, Kd.R_mono (Kd.R_bound hX3) (fun k hk => ⟨hk.1.1, by rw [hS2]; exact hk.2.2.1, hk.1.2⟩), hX4, hX1, by rw [hS2]; exact blk_lt hX2, by omega⟩
        have hS2' := Lib.hid hS2
        clear hX hX1 hX2 hX3 hS2
        have hB2 := below_then hB.out hB.out.size hX4
        have hM' := Aside0.mk hM
        clear hM hX4
        obtain ⟨_, _, _, _, h4, h5, h6, _⟩ := hat.below hB2
        have hB2' := Aside0.mk hB2
        clear hB2
        obtain ⟨wo, rfl⟩ : ∃ wo : World, wo = wr := ⟨_, rfl⟩
        go_wp2_with fail
        go_loopw [42] (fun vc wq => ∃ (i : Nat) (v4 : Value), i ≤ x.fs.length ∧ vc = .int .i64 i ∧ Aside0 (Mk wo w.heap.size Bd S2 x B7 d7 v4 (.slice none 0 0) (.slice none 0 0) (x.fs.take i) (x.vs.take 0) (x.ms.take 0) wq)) (fun i _ => x.fs.length - (intOf i).toNat)
        case atStart => exact ⟨0, _, by omega, rfl, hM'⟩
        case round =>
          obtain ⟨i, v4, hi, rfl, hM⟩ := hrel
          have hBq := Aside0.mk (below_then hB.out hB.out.size hM.out.hb)
          obtain ⟨_, _, _, _, h4, h5, h6, _⟩ := hat.below hBq.out
          by_cases hlt2 : i < x.fs.length
          · obtain ⟨f, hf⟩ := get_of_lt hlt2
            obtain ⟨ad4, rfl, f0, f1, f2, f3, f4, f5⟩ := C_fl (Kd.C_below hang.g4 hBq.out) hf
            obtain ⟨p0, p1, p2, p3, p4, p5, p6, p7⟩ := box8 hM.out.blk
            obtain ⟨q0, q1, q2, q3, q4, q5, q6, q7⟩ := free8 hM.out.blk
            have hpa : ∀ o, (wr.alloc o).cell? ⟨Bd, 4, none⟩ = some v4 := fun o => blk_cell (blk_alloc hM.out.blk o) 4
            have hne4 := Aside0.mk (Kd.R_ne hM.out.r4 hM.out.blk (show (67 : Nat) ≠ 49 by decide))
            have htl : (x.fs.take i).length ≤ 100000 := by rw [List.length_take]; omega
            have hl1 := Lib.hid (show (x.fs.take i ++ [f]).length = i + 1 by rw [List.length_append, List.length_take, List.length_singleton]; omega)
            go_wp2_with fail
            go_region_law (first | (refine app_step kFl (w0 := w) wr.drew w.heap.size (by rfl) (.tmp 46) (.tmp 55) 45 67 _ 64 rfl Tryd.underlying45 info_pf rfl (by decide) (by decide) v4 (x.fs.take i) f [.bool f.rep, .string f.ty, .string f.name, .int .i64 f.num, .int .i64 f.pos.line, .int .i64 f.pos.col] (fun k => S2 ≤ k) (fun _ => False) rfl rfl rfl (kFl_mkM _ _ _ f) (fun _ hk => hk.elim) (fun k hk => Nat.le_trans hM.out.sz hk) (Kd.R_drew hM.out.r4) hBq.out.drew hBq.out.size (by omega) ?_; intro v1 w1 ho hb hg hat1; have hg' := Aside0.mk hg; obtain ⟨D4, e4, hv⟩ := Kd.R_slice ho; rw [hl1.out] at hv; subst hv; have ho' := Aside0.mk ho; have bk1 := blk_grown (blk_drew hM.out.blk) hg hne4.out; obtain ⟨p0, p1, p2, p3, p4, p5, p6, p7⟩ := box8 bk1; obtain ⟨q0, q1, q2, q3, q4, q5, q6, q7⟩ := free8 bk1; clear ho hb hg hat1 bk1))
            all_goals (go_wp2_with fail; go_roundw)
            all_goals first | exact ⟨i + 1, _, by omega, by go_num, ⟨by rw [take_step hf]; exact hM.out.step4 ho'.out hg'.out⟩⟩ | (simp [intOf]; omega)
          · have hM' := Aside0.mk (show Mk wo w.heap.size Bd S2 x B7 d7 v4 (.slice none 0 0) (.slice none 0 0) x.fs (x.vs.take 0) (x.ms.take 0) wr from by have h := hM.out; rwa [take_all (by omega : x.fs.length ≤ i)] at h)
            clear hM
            obtain ⟨wi4, rfl⟩ : ∃ wi : World, wi = wr := ⟨_, rfl⟩
            go_wp2_with fail
            go_loopw [65] (fun vc wq => ∃ (i : Nat) (v5 : Value), i ≤ x.vs.length ∧ vc = .int .i64 i ∧ Aside0 (Mk wo w.heap.size Bd S2 x B7 d7 v4 v5 (.slice none 0 0) x.fs (x.vs.take i) (x.ms.take 0) wq)) (fun i _ => x.vs.length - (intOf i).toNat)
            case atStart => exact ⟨0, _, by omega, rfl, hM'⟩
            case round =>
              obtain ⟨i, v5, hi, rfl, hM⟩ := hrel
              have hBq := Aside0.mk (below_then hB.out hB.out.size hM.out.hb)
              obtain ⟨_, _, _, _, h4, h5, h6, _⟩ := hat.below hBq.out
              by_cases hlt2 : i < x.vs.length
              · obtain ⟨f, hf⟩ := get_of_lt hlt2
                obtain ⟨ad5, rfl, f0, f1, f2, f3⟩ := C_va (Kd.C_below hang.g5 hBq.out) hf
                obtain ⟨p0, p1, p2, p3, p4, p5, p6, p7⟩ := box8 hM.out.blk
                obtain ⟨q0, q1, q2, q3, q4, q5, q6, q7⟩ := free8 hM.out.blk
                have hpa : ∀ o, (wr.alloc o).cell? ⟨Bd, 5, none⟩ = some v5 := fun o => blk_cell (blk_alloc hM.out.blk o) 5
                have hne4 := Aside0.mk (Kd.R_ne hM.out.r5 hM.out.blk (show (70 : Nat) ≠ 49 by decide))
                have htl : (x.vs.take i).length ≤ 100000 := by rw [List.length_take]; omega
                have hl1 := Lib.hid (show (x.vs.take i ++ [f]).length = i + 1 by rw [List.length_append, List.length_take, List.length_singleton]; omega)
                go_wp2_with fail
                go_region_law (first | (refine app_step kVa (w0 := w) wr.drew w.heap.size (by rfl) (.tmp 69) (.tmp 78) 46 70 _ 40 rfl Tryd.underlying46 info_pv rfl (by decide) (by decide) v5 (x.vs.take i) f [.string f.name, .int .i64 f.num, .int .i64 f.pos.line, .int .i64 f.pos.col] (fun k => S2 ≤ k) (fun _ => False) rfl rfl rfl (kVa_mkM _ _ _ f) (fun _ hk => hk.elim) (fun k hk => Nat.le_trans hM.out.sz hk) (Kd.R_drew hM.out.r5) hBq.out.drew hBq.out.size (by omega) ?_; intro v1 w1 ho hb hg hat1; have hg' := Aside0.mk hg; obtain ⟨D4, e4, hv⟩ := Kd.R_slice ho; rw [hl1.out] at hv; subst hv; have ho' := Aside0.mk ho; have bk1 := blk_grown (blk_drew hM.out.blk) hg hne4.out; obtain ⟨p0, p1, p2, p3, p4, p5, p6, p7⟩ := box8 bk1; obtain ⟨q0, q1, q2, q3, q4, q5, q6, q7⟩ := free8 bk1; clear ho hb hg hat1 bk1))
                all_goals (go_wp2_with fail; go_roundw)
                all_goals first | exact ⟨i + 1, _, by omega, by go_num, ⟨by rw [take_step hf]; exact hM.out.step5 ho'.out hg'.out⟩⟩ | (simp [intOf]; omega)
              · have hM' := Aside0.mk (show Mk wo w.heap.size Bd S2 x B7 d7 v4 v5 (.slice none 0 0) x.fs x.vs (x.ms.take 0) wr from by have h := hM.out; rwa [take_all (by omega : x.vs.length ≤ i)] at h)
                clear hM
                obtain ⟨wi5, rfl⟩ : ∃ wi : World, wi = wr := ⟨_, rfl⟩
                go_wp2_with fail
                go_loopw [88] (fun vc wq => ∃ (i : Nat) (v6 : Value), i ≤ x.ms.length ∧ vc = .int .i64 i ∧ Aside0 (Mk wo w.heap.size Bd S2 x B7 d7 v4 v5 v6 x.fs x.vs (x.ms.take i) wq)) (fun i _ => x.ms.length - (intOf i).toNat)
                case atStart => exact ⟨0, _, by omega, rfl, hM'⟩
                case round =>
                  obtain ⟨i, v6, hi, rfl, hM⟩ := hrel
                  have hBq := Aside0.mk (below_then hB.out hB.out.size hM.out.hb)
                  obtain ⟨_, _, _, _, h4, h5, h6, _⟩ := hat.below hBq.out
                  by_cases hlt2 : i < x.ms.length
                  · obtain ⟨f, hf⟩ := get_of_lt hlt2
                    obtain ⟨ad6, rfl, f0, f1, f2, f3, f4⟩ := C_me (Kd.C_below hang.g6 hBq.out) hf
                    obtain ⟨p0, p1, p2, p3, p4, p5, p6, p7⟩ := box8 hM.out.blk
                    obtain ⟨q0, q1, q2, q3, q4, q5, q6, q7⟩ := free8 hM.out.blk
                    have hpa : ∀ o, (wr.alloc o).cell? ⟨Bd, 6, none⟩ = some v6 := fun o => blk_cell (blk_alloc hM.out.blk o) 6
                    have hne4 := Aside0.mk (Kd.R_ne hM.out.r6 hM.out.blk (show (73 : Nat) ≠ 49 by decide))
                    have htl : (x.ms.take i).length ≤ 100000 := by rw [List.length_take]; omega
                    have hl1 := Lib.hid (show (x.ms.take i ++ [f]).length = i + 1 by rw [List.length_append, List.length_take, List.length_singleton]; omega)
                    go_wp2_with fail
                    go_region_law (first | (refine app_step kMe (w0 := w) wr.drew w.heap.size (by rfl) (.tmp 92) (.tmp 101) 47 73 _ 64 rfl Tryd.underlying47 info_pm rfl (by decide) (by decide) v6 (x.ms.take i) f [.string f.name, .string f.inp, .string f.out, .int .i64 f.pos.line, .int .i64 f.pos.col] (fun k => S2 ≤ k) (fun _ => False) rfl rfl rfl (kMe_mkM _ _ _ f) (fun _ hk => hk.elim) (fun k hk => Nat.le_trans hM.out.sz hk) (Kd.R_drew hM.out.r6) hBq.out.drew hBq.out.size (by omega) ?_; intro v1 w1 ho hb hg hat1; have hg' := Aside0.mk hg; obtain ⟨D4, e4, hv⟩ := Kd.R_slice ho; rw [hl1.out] at hv; subst hv; have ho' := Aside0.mk ho; have bk1 := blk_grown (blk_drew hM.out.blk) hg hne4.out; obtain ⟨p0, p1, p2, p3, p4, p5, p6, p7⟩ := box8 bk1; obtain ⟨q0, q1, q2, q3, q4, q5, q6, q7⟩ := free8 bk1; clear ho hb hg hat1 bk1))
                    all_goals (go_wp2_with fail; go_roundw)
                    all_goals first | exact ⟨i + 1, _, by omega, by go_num, ⟨by rw [take_step hf]; exact hM.out.step6 ho'.out hg'.out⟩⟩ | (simp [intOf]; omega)
                  · have hM' := Aside0.mk (show Mk wo w.heap.size Bd S2 x B7 d7 v4 v5 v6 x.fs x.vs x.ms wr from by have h := hM.out; rwa [take_all (by omega : x.ms.length ≤ i)] at h)
                    clear hM
                    obtain ⟨Z4, z4, rfl⟩ := Kd.R_slice hM'.out.r4
                    obtain ⟨Z5, z5, rfl⟩ := Kd.R_slice hM'.out.r5
                    obtain ⟨Z6, z6, rfl⟩ := Kd.R_slice hM'.out.r6
                    obtain ⟨p0, p1, p2, p3, p4, p5, p6, p7⟩ := box8 hM'.out.blk
                    have hR' := Aside0.mk (Kd.R_mono (Kd.R_move (w1 := wr) (Kd.R_bound hR.out) (fun k hk => hM'.out.hb.block k hk.2.2.1)) (fun _ _ => trivial) : kP.R 49 wr w.heap.size (fun _ => True) u3 (l.take j))
                    have hS2lo : wo.heap.size ≤ S2 := by have h1 := hM'.out.lo; have h2 := hM'.out.hi; omega
                    have hm4 := Aside0.mk (Kd.R_mono hM'.out.r4 (fun k hk => Nat.le_trans hS2lo hk))
                    have hm5 := Aside0.mk (Kd.R_mono hM'.out.r5 (fun k hk => Nat.le_trans hS2lo hk))
                    have hm6 := Aside0.mk (Kd.R_mono hM'.out.r6 (fun k hk => Nat.le_trans hS2lo hk))
                    have hm7 := Aside0.mk (Kd.R_mono hM'.out.r7 (fun k hk => hk.1))
                    have hsep := Aside0.mk (show ∀ k, wo.heap.size ≤ k → True ∧ some k ≠ u3.ownBlock from fun k hk => ⟨trivial, fun e => by have := (Kd.R_bound hR.out).1 k e.symm; omega⟩)
                    have htl : (l.take j).length ≤ 100000 := by have h1 := len_le_wtL (l.take j); have h2 := wtL_append (l.take j) (l.drop j); rw [List.take_append_drop] at h2; omega
                    go_wp2_with (first | ((with_reducible refine gate_bi (b := .append) (xs := #[.tmp 105, .tmp 107]) rfl ?_); at_builtin; refine Kd.R_append kP (w0 := w) w.heap.size rfl (.tmp 105) (.tmp 107) 33 49 _ 136 rfl Tryd.underlying33 info_pd rfl (by decide) (by decide) _ _ x [.int .i64 x.kind, .string x.name, .int .i64 x.pos.line, .int .i64 x.pos.col, .slice Z4 x.fs.length z4, .slice Z5 x.vs.length z5, .slice Z6 x.ms.length z6, .slice B7 x.inner.length d7] (fun _ => True) (fun k => wo.heap.size ≤ k) rfl rfl (kDe_mkM _ _ _ x hm4.out hm5.out hm6.out hm7.out) hsep.out (fun _ _ => trivial) hR'.out hBq.out hBq.out.size (by omega) ?_; intro v1 w1 ho hb hg hat1; have hO1 := Aside0.mk ho; have hB1 := Aside0.mk hb; clear ho hb hg hat1))
                    go_roundw
                    case rel => exact ⟨j + 1, by omega, by go_num, ⟨by rw [take_step hx]; exact hO1.out⟩, hB1⟩
                    case measure => simp [intOf]; omega
    · go_wp2
      go_ret
      exact ⟨_, rfl, by rw [take_all (by omega)] at hR; exact hR.out, hB.out⟩
end Go.Proofs.YtfcpfbdlkanlpaaDoor
