/- lex.Words, by contract. -/
import Derived.Test.YtfcpfbdlkanlpaaDoorLexNext
import Derived.Test.YtfcpfbdlkanlpaaDoorLexDec
namespace Go.Proofs.YtfcpfbdlkanlpaaDoor
open Go.RowKit Go.Proofs.YtfcpfbdlkanlpaaDoorW.PrintWords Go.Proofs.YtfcpfbdlkanlpaaDoorW.PrintLast
set_option linter.unusedVariables false
set_option linter.unusedSimpArgs false

theorem results_tct {P : Program} {fn : Func} {p u q : Tmp} {ty : TypeId} (h : fn.results = #[.tmp u, .cell p ty, .tmp q]) (tmps : Array Value) (w : World) (g : Nat) (t : TypeId) (cs : Array Value) (fr : Nat × Nat) (d : TypeDesc)
    (hp : tmps.getD p undef = .pointer (some ⟨g, 0, none⟩)) (hg : w.heap[g]? = some (.cells cs t fr))
    (hu : P.underlying ty = some d) (hd : (match d with | .struct _ | .array _ _ => true | _ => false) = true) (hi : (P.info? ty).map (·.size) = some cs.size) :
    (results fn tmps).run P w = .ok (.tuple #[tmps.getD u undef, .agg cs, tmps.getD q undef]) w := by
  have hp' : tmps[p]?.getD undef = .pointer (some ⟨g, 0, none⟩) := by simpa using hp
  simp [results, h, hp', asAddr, run_loadVar_row w g t ty cs fr d hg hu hd hi]
theorem size_pos : (Tryd.prog.info? 41).map (·.size) = some 2 := by kernel_rfl
theorem put2 {w : World} {g : Nat} {t : TypeId} {a0 a1 : Value} (b0 b1 : Value) (h : w.heap[g]? = some (.cells #[a0, a1] t (0, 0))) : ((w.setCell ⟨g, 0, none⟩ b0).setCell ⟨g, 1, none⟩ b1).heap[g]? = some (.cells #[b0, b1] t (0, 0)) :=
  blk_put (blk_put (cs' := #[b0, a1]) h 0 b0 (by simp)) 1 b1 (by simp)

/-- The place of the answer, the scanner, the iterator: behind some rounds. -/
structure Lp (w : World) (text : ByteArray) (v : Value) (s : Sc) (pos : Nat) (wr : World) : Prop where
  sc : ScAt w (w.heap.size + 1) v s wr
  pl : wr.heap[w.heap.size]? = some (.cells #[.int .i64 0, .int .i64 0] 41 (0, 0))
  it : wr.heap[w.heap.size + 1 + 1]? = some (.stringIter text pos)
section
variable {w : World} {text : ByteArray} {v : Value} {s : Sc} {pos : Nat} {wr : World}
theorem own_cells (h : ScAt w (w.heap.size + 1) v s wr) {k : Nat} (hk : v.ownBlock = some k) : ∃ cs, wr.heap[k]? = some (.cells cs 86 (0, 0)) := Kd.R_typed h.own k hk
theorem Lp.iter (h : Lp w text v s pos wr) (pos' : Nat) : Lp w text v s pos' (wr.iterAt (w.heap.size + 1 + 1) text pos') := by
  refine ⟨⟨?_, ?_, Lib.below_iterAt h.sc.hb (by omega) _ _, h.sc.lo, h.sc.n⟩, ?_, Lib.iterAt_heap _ _ _ _ _ h.it⟩
  · rw [Lib.iterAt_other _ _ _ _ _ (by omega)]; exact h.sc.blk
  · exact Kd.R_mono (Kd.R_move (Kd.R_bound h.sc.own) (fun k hk => by
      obtain ⟨_, _, _, q, _, cells, hc⟩ := hk
      exact Lib.iterAt_other _ _ _ _ _ (fun e => by rw [e, h.it] at hc; cases hc))) (fun _ _ => trivial)
  · rw [Lib.iterAt_other _ _ _ _ _ (by omega)]; exact h.pl
theorem Lp.next (h : Lp w text v s pos wr) {v1 : Value} {s1 : Sc} {w1 : World} (hs : ScAt w (w.heap.size + 1) v1 s1 w1) (ht : Stp wr (w.heap.size + 1) v v1 w1) : Lp w text v1 s1 pos w1 := by
  have hl1 := blk_lt h.pl
  have hl2 := blk_lt h.it
  refine ⟨hs, ?_, ?_⟩
  · rw [ht.keep.2 _ hl1 (by omega) (fun e => by
      obtain ⟨cs, hc⟩ := own_cells h.sc e.symm
      rw [h.pl] at hc; simp at hc)]
    exact h.pl
  · rw [ht.keep.2 _ hl2 (by omega) (fun e => by
      obtain ⟨cs, hc⟩ := own_cells h.sc e.symm
      rw [h.it] at hc; cases hc)]
    exact h.it
theorem Lp.start (w : World) (text : ByteArray) : Lp w text (.slice none 0 0) sc0 0 (((w.alloc (.cells #[.int .i64 0, .int .i64 0] 41)).alloc (.cells (scCells (.slice none 0 0) sc0) 112)).iter text 0) := by
  have b1 := blk_new w (.cells #[.int .i64 0, .int .i64 0] 41)
  have b2 := blk_new (w.alloc (.cells #[.int .i64 0, .int .i64 0] 41)) (.cells (scCells (.slice none 0 0) sc0) 112)
  have hsz : (w.alloc (.cells #[.int .i64 0, .int .i64 0] 41)).heap.size = w.heap.size + 1 := World.size_alloc _ _
  rw [hsz] at b2
  refine ⟨⟨?_, Kd.R_nil _ _ _ _ _, below_alloc (below_alloc (below_alloc (Below.refl _ _) _) _) _, by omega, by decide⟩, ?_, ?_⟩
  · exact blk_alloc b2 _
  · exact blk_alloc (blk_alloc b1 _) _
  · have b3 := blk_new ((w.alloc (.cells #[.int .i64 0, .int .i64 0] 41)).alloc (.cells (scCells (.slice none 0 0) sc0) 112)) (.stringIter text 0)
    rw [World.size_alloc, hsz] at b3
    exact b3
end
set_option maxHeartbeats 1000000 in
set_option maxRecDepth 100000 in
theorem words_calls (text : ByteArray) (w : World) (hz : text.size ≤ 140737488351232) (hE : Env w) :
    Calls Tryd.prog 25 #[.string text] w fun e w' => ∃ v, e = .returned (.tuple #[v, .agg #[.int .i64 (lexW text).pos.line, .int .i64 (lexW text).pos.col], .int .i64 (lexW text).e]) ∧ kWd.R 86 w' w.heap.size (fun _ => True) v (lexW text).ws ∧ Below w.heap.size w w' := by
  have HE := Aside0.mk hE
  clear hE
  unfold lexW
  by_cases hl : 20000 < text.size
  · rw [if_pos hl]
    have hd : decide (20000 < (text.size : Int)) = true := decide_eq_true (by omega)
    go_enter Tryd.func25, Tryd.ntmps25
    go_wp2
    refine bodyPost_ret (results_tct rfl _ _ w.heap.size _ _ _ _ rfl (blk_new w _) Tryd.underlying41 rfl size_pos) rfl ?_
    exact ⟨_, rfl, Kd.R_nil _ _ _ _ _, below_alloc (Below.refl _ _) _⟩
  · rw [if_neg hl]
    have hd : decide (20000 < (text.size : Int)) = false := decide_eq_false (by omega)
    obtain ⟨ans, hans⟩ : ∃ a, a = lexGo text (runes text.data.toList) 0 sc0 := ⟨_, rfl⟩
    rw [← hans]
    have HS := Aside0.mk (Lp.start w text)
    have HA := Lib.hid hans
    have hz2 : text.size ≤ 20000 := by omega
    clear hans hl
    go_enter Tryd.func25, Tryd.ntmps25
    go_wp2_with fail
    go_loopw [] (fun wr => ∃ (v : Value) (s : Sc) (pos : Nat), pos ≤ text.size ∧ Aside0 (Lp w text v s pos wr ∧ s.inv pos ∧ s.e = 0 ∧ lexGo text (runes (text.data.toList.drop pos)) pos s = ans)) (fun wr => text.size - wr.iterPos (w.heap.size + 1 + 1))
    case atStart => exact ⟨_, sc0, 0, Nat.zero_le _, ⟨HS.out, inv_start, rfl, HA.out.symm⟩⟩
    case round =>
      obtain ⟨v, s, pos, hps, hR⟩ := hrel
      have HL := Aside0.mk hR.out.1
      have HI := Aside0.mk hR.out.2.1
      have HEZ := Lib.hid hR.out.2.2.1
      have HG := Aside0.mk hR.out.2.2.2
      clear hR
      by_cases hp : pos < text.size
      · have hnx : ∀ ty, (Instr.next (.pointer (some ⟨w.heap.size + 1 + 1, 0, none⟩)) true ty).run Tryd.prog wr = _ := fun ty => Lib.run_next_any_at wr _ text pos ty HL.out.it hp
        have hit := Aside0.mk (show wr.iterPos (w.heap.size + 1 + 1) = pos by unfold World.iterPos; rw [HL.out.it])
        have hwd := width_pos text pos
        have hfit := decode_fits text pos hp
        have hmax := dec_max text pos
        have hG1 := HG.out
        rw [runes_at hp] at hG1
        simp only [lexGo] at hG1
        obtain ⟨d, hd'⟩ : ∃ d, d = Utf8.decode text pos := ⟨_, rfl⟩
        rw [← hd'] at hnx hwd hfit hmax hG1
        have HD := Lib.hid hd'
        have HG1 := Aside0.mk hG1
        clear hG1 HG hd'
        have HL1 := Aside0.mk (HL.out.iter (pos + d.2))
        obtain ⟨s1, hs1⟩ : ∃ s1, s.next text pos (fixR d) = s1 := ⟨_, rfl⟩
        have hG2 := HG1.out
        rw [hs1] at hG2
        clear HG1
        by_cases hr : d.1 = 65533
        · have hb1 : (((d.1 : Nat) : Int) == 65533) = true := beq_iff_eq.2 (by omega)
          have hpre := dec_err text pos hp (by rw [← HD.out]; exact hr)
          rw [← HD.out] at hpre
          by_cases hw : d.2 = 1
          · have hx : s.next text pos (-1) = s1 := by rw [← hs1]; unfold fixR; rw [if_pos ⟨hr, hw⟩]
            have HX := Lib.hid hx
            have HP := Lib.hid (hpre.trans (decide_eq_false (fun h => h hw)))
            clear hx hs1 hr hpre hw
            by_cases hez : s1.e = 0
            · have HZ := Lib.hid (show (s1.e : Int) = 0 from hez)
              rw [if_pos hez] at hG2
              have HG2 := Aside0.mk hG2
              clear hG2 hez
              go_wp2_with (first | (go_at_call 50; refine (Tryd.strings_HasPrefix (text.extract pos text.size) rep3 _).mono ?_; rintro e w' ⟨rfl, rfl⟩; rw [HP.out]) | (go_at_call 51; refine (snext_calls w (w.heap.size + 1) v s text pos (-1) _ HL1.out.sc HE.out hps (by omega) (by omega) (by omega) HI.out).mono ?_; rintro e w1 ⟨rfl, v1, hA, hT⟩; rw [HX.out] at hA; have HL2 := Aside0.mk (HL1.out.next hA hT); obtain ⟨_, _, _, _, _, _, _, _, _, _, _, _, c12, c13, c14⟩ := HL2.out.sc.cells; rw [HZ.out] at c12; have p0 := blk_cell HL2.out.pl 0; have p1 := blk_cell HL2.out.pl 1; have q0 := blk_frozen HL2.out.pl 0; have q1 := blk_frozen HL2.out.pl 1; clear hA hT))
              go_roundw
              case rel => exact ⟨v1, s1, pos + d.2, by omega, ⟨HL2.out, by rw [← HX.out]; exact Sc.next_inv HI.out (by omega), HZ.out, HG2.out⟩⟩
              case measure => rw [show World.iterPos _ (w.heap.size + 1 + 1) = pos from hit.out, show World.iterPos _ (w.heap.size + 1 + 1) = pos + d.2 by unfold World.iterPos; rw [HL2.out.it]]; omega
            · obtain ⟨ez, hez2⟩ : ∃ z, s1.e = z := ⟨_, rfl⟩
              have HZ := Lib.hid hez2
              rw [if_neg hez] at hG2
              rw [hez2] at hez
              have hb0 : (ez != 0) = true := by rw [bne_iff_ne]; exact hez
              have HG2 := Aside0.mk hG2
              have hez3 := Lib.hid hez
              clear hG2 hez2 hez
              go_wp2_with (first | (go_at_call 50; refine (Tryd.strings_HasPrefix (text.extract pos text.size) rep3 _).mono ?_; rintro e w' ⟨rfl, rfl⟩; rw [HP.out]) | (go_at_call 51; refine (snext_calls w (w.heap.size + 1) v s text pos (-1) _ HL1.out.sc HE.out hps (by omega) (by omega) (by omega) HI.out).mono ?_; rintro e w1 ⟨rfl, v1, hA, hT⟩; rw [HX.out] at hA; have HL2 := Aside0.mk (HL1.out.next hA hT); obtain ⟨_, _, _, _, _, _, _, _, _, _, _, _, c12, c13, c14⟩ := HL2.out.sc.cells; rw [HZ.out] at c12; have p0 := blk_cell HL2.out.pl 0; have p1 := blk_cell HL2.out.pl 1; have q0 := blk_frozen HL2.out.pl 0; have q1 := blk_frozen HL2.out.pl 1; clear hA hT))
              go_region
              go_wp2_with fail
              refine bodyPost_ret (results_tct rfl _ _ w.heap.size _ _ _ _ rfl (put2 _ _ HL2.out.pl) Tryd.underlying41 rfl size_pos) rfl ?_
              rw [← HG2.out]
              unfold lexEnd
              rw [if_neg (by rw [HZ.out]; exact hez3.out), HZ.out]
              exact ⟨_, rfl, Kd.R_nil _ _ _ _ _, (below_set (below_set HL2.out.sc.hb (Nat.le_refl _)) (Nat.le_refl _)).drew⟩
          · have hx : s.next text pos d.1 = s1 := by rw [← hs1]; unfold fixR; rw [if_neg (fun h => hw h.2)]
            have HX := Lib.hid hx
            have HP := Lib.hid (hpre.trans (decide_eq_true hw))
            clear hx hs1 hr hpre hw
            by_cases hez : s1.e = 0
            · have HZ := Lib.hid (show (s1.e : Int) = 0 from hez)
              rw [if_pos hez] at hG2
              have HG2 := Aside0.mk hG2
              clear hG2 hez
              go_wp2_with (first | (go_at_call 50; refine (Tryd.strings_HasPrefix (text.extract pos text.size) rep3 _).mono ?_; rintro e w' ⟨rfl, rfl⟩; rw [HP.out]) | (go_at_call 51; refine (snext_calls w (w.heap.size + 1) v s text pos d.1 _ HL1.out.sc HE.out hps (by omega) (by omega) (by omega) HI.out).mono ?_; rintro e w1 ⟨rfl, v1, hA, hT⟩; rw [HX.out] at hA; have HL2 := Aside0.mk (HL1.out.next hA hT); obtain ⟨_, _, _, _, _, _, _, _, _, _, _, _, c12, c13, c14⟩ := HL2.out.sc.cells; rw [HZ.out] at c12; have p0 := blk_cell HL2.out.pl 0; have p1 := blk_cell HL2.out.pl 1; have q0 := blk_frozen HL2.out.pl 0; have q1 := blk_frozen HL2.out.pl 1; clear hA hT))
              go_roundw
              case rel => exact ⟨v1, s1, pos + d.2, by omega, ⟨HL2.out, by rw [← HX.out]; exact Sc.next_inv HI.out (by omega), HZ.out, HG2.out⟩⟩
              case measure => rw [show World.iterPos _ (w.heap.size + 1 + 1) = pos from hit.out, show World.iterPos _ (w.heap.size + 1 + 1) = pos + d.2 by unfold World.iterPos; rw [HL2.out.it]]; omega
            · obtain ⟨ez, hez2⟩ : ∃ z, s1.e = z := ⟨_, rfl⟩
              have HZ := Lib.hid hez2
              rw [if_neg hez] at hG2
              rw [hez2] at hez
              have hb0 : (ez != 0) = true := by rw [bne_iff_ne]; exact hez
              have HG2 := Aside0.mk hG2
              have hez3 := Lib.hid hez
              clear hG2 hez2 hez
              go_wp2_with (first | (go_at_call 50; refine (Tryd.strings_HasPrefix (text.extract pos text.size) rep3 _).mono ?_; rintro e w' ⟨rfl, rfl⟩; rw [HP.out]) | (go_at_call 51; refine (snext_calls w (w.heap.size + 1) v s text pos d.1 _ HL1.out.sc HE.out hps (by omega) (by omega) (by omega) HI.out).mono ?_; rintro e w1 ⟨rfl, v1, hA, hT⟩; rw [HX.out] at hA; have HL2 := Aside0.mk (HL1.out.next hA hT); obtain ⟨_, _, _, _, _, _, _, _, _, _, _, _, c12, c13, c14⟩ := HL2.out.sc.cells; rw [HZ.out] at c12; have p0 := blk_cell HL2.out.pl 0; have p1 := blk_cell HL2.out.pl 1; have q0 := blk_frozen HL2.out.pl 0; have q1 := blk_frozen HL2.out.pl 1; clear hA hT))
              go_region
              go_wp2_with fail
              refine bodyPost_ret (results_tct rfl _ _ w.heap.size _ _ _ _ rfl (put2 _ _ HL2.out.pl) Tryd.underlying41 rfl size_pos) rfl ?_
              rw [← HG2.out]
              unfold lexEnd
              rw [if_neg (by rw [HZ.out]; exact hez3.out), HZ.out]
              exact ⟨_, rfl, Kd.R_nil _ _ _ _ _, (below_set (below_set HL2.out.sc.hb (Nat.le_refl _)) (Nat.le_refl _)).drew⟩
        · have hb1 : (((d.1 : Nat) : Int) == 65533) = false := beq_eq_false_iff_ne.2 (by omega)
          have hx : s.next text pos d.1 = s1 := by rw [← hs1]; unfold fixR; rw [if_neg (fun h => hr h.1)]
          have HX := Lib.hid hx
          clear hx hs1 hr
          by_cases hez : s1.e = 0
          · have HZ := Lib.hid (show (s1.e : Int) = 0 from hez)
            rw [if_pos hez] at hG2
            have HG2 := Aside0.mk hG2
            clear hG2 hez
            go_wp2_with ((go_at_call 51; refine (snext_calls w (w.heap.size + 1) v s text pos d.1 _ HL1.out.sc HE.out hps (by omega) (by omega) (by omega) HI.out).mono ?_; rintro e w1 ⟨rfl, v1, hA, hT⟩; rw [HX.out] at hA; have HL2 := Aside0.mk (HL1.out.next hA hT); obtain ⟨_, _, _, _, _, _, _, _, _, _, _, _, c12, c13, c14⟩ := HL2.out.sc.cells; rw [HZ.out] at c12; have p0 := blk_cell HL2.out.pl 0; have p1 := blk_cell HL2.out.pl 1; have q0 := blk_frozen HL2.out.pl 0; have q1 := blk_frozen HL2.out.pl 1; clear hA hT))
            go_roundw
            case rel => exact ⟨v1, s1, pos + d.2, by omega, ⟨HL2.out, by rw [← HX.out]; exact Sc.next_inv HI.out (by omega), HZ.out, HG2.out⟩⟩
            case measure => rw [show World.iterPos _ (w.heap.size + 1 + 1) = pos from hit.out, show World.iterPos _ (w.heap.size + 1 + 1) = pos + d.2 by unfold World.iterPos; rw [HL2.out.it]]; omega
          · obtain ⟨ez, hez2⟩ : ∃ z, s1.e = z := ⟨_, rfl⟩
            have HZ := Lib.hid hez2
            rw [if_neg hez] at hG2
            rw [hez2] at hez
            have hb0 : (ez != 0) = true := by rw [bne_iff_ne]; exact hez
            have HG2 := Aside0.mk hG2
            have hez3 := Lib.hid hez
            clear hG2 hez2 hez
            go_wp2_with ((go_at_call 51; refine (snext_calls w (w.heap.size + 1) v s text pos d.1 _ HL1.out.sc HE.out hps (by omega) (by omega) (by omega) HI.out).mono ?_; rintro e w1 ⟨rfl, v1, hA, hT⟩; rw [HX.out] at hA; have HL2 := Aside0.mk (HL1.out.next hA hT); obtain ⟨_, _, _, _, _, _, _, _, _, _, _, _, c12, c13, c14⟩ := HL2.out.sc.cells; rw [HZ.out] at c12; have p0 := blk_cell HL2.out.pl 0; have p1 := blk_cell HL2.out.pl 1; have q0 := blk_frozen HL2.out.pl 0; have q1 := blk_frozen HL2.out.pl 1; clear hA hT))
            go_region
            go_wp2_with fail
            refine bodyPost_ret (results_tct rfl _ _ w.heap.size _ _ _ _ rfl (put2 _ _ HL2.out.pl) Tryd.underlying41 rfl size_pos) rfl ?_
            rw [← HG2.out]
            unfold lexEnd
            rw [if_neg (by rw [HZ.out]; exact hez3.out), HZ.out]
            exact ⟨_, rfl, Kd.R_nil _ _ _ _ _, (below_set (below_set HL2.out.sc.hb (Nat.le_refl _)) (Nat.le_refl _)).drew⟩
      · have hnx : ∀ ty, (Instr.next (.pointer (some ⟨w.heap.size + 1 + 1, 0, none⟩)) true ty).run Tryd.prog wr = _ := fun ty => Lib.run_next_end_at wr _ text pos ty HL.out.it hp
        have hG1 := HG.out
        rw [runes_past hp] at hG1
        simp only [lexGo] at hG1
        obtain ⟨s1, hs1⟩ : ∃ s1, s.shut text text.size = s1 := ⟨_, rfl⟩
        rw [hs1] at hG1
        have HX := Lib.hid hs1
        clear HG hs1
        cases hsl : s1.slash with
        | true =>
          rw [hsl, if_pos rfl] at hG1
          obtain ⟨s2, hs2⟩ : ∃ s2, s1.fail 6 s1.bg = s2 := ⟨_, rfl⟩
          rw [hs2] at hG1
          have HX2 := Lib.hid hs2
          have HSL := Lib.hid hsl
          have HA2 := Lib.hid hG1
          clear hs2 hsl hG1
          by_cases hez : s2.e = 0
          · have HZ := Lib.hid (show (s2.e : Int) = 0 from hez)
            clear hez
            go_wp2_with (first | (go_at_call 52; refine (sshut_calls w (w.heap.size + 1) v s text text.size _ HL.out.sc HE.out (Nat.le_refl _) (by omega) (by have h1 := HI.out.fr; omega)).mono ?_; rintro e w1 ⟨rfl, v1, hA, hT⟩; rw [HX.out] at hA; have HL2 := Aside0.mk (HL.out.next hA hT); obtain ⟨c0, _, _, _, _, _, _, _, _, c9, c10, c11, c12, c13, c14⟩ := HL2.out.sc.cells; rw [HSL.out] at c9; have p0 := blk_cell HL2.out.pl 0; have p1 := blk_cell HL2.out.pl 1; have q0 := blk_frozen HL2.out.pl 0; have q1 := blk_frozen HL2.out.pl 1; clear hA hT) | (go_at_call 53; refine (sfail_calls w (w.heap.size + 1) v1 s1 6 s1.bg _ HL2.out.sc).mono ?_; rintro e w2 ⟨rfl, hA, hT⟩; rw [HX2.out] at hA; have HL3 := Aside0.mk (HL2.out.next hA hT); obtain ⟨c0, _, _, _, _, _, _, _, _, c9, c10, c11, c12, c13, c14⟩ := HL3.out.sc.cells; rw [HZ.out] at c12; have p0 := blk_cell HL3.out.pl 0; have p1 := blk_cell HL3.out.pl 1; have q0 := blk_frozen HL3.out.pl 0; have q1 := blk_frozen HL3.out.pl 1; clear hA hT))
            refine bodyPost_ret (results_tct rfl _ _ w.heap.size _ _ _ _ rfl (put2 _ _ HL3.out.pl) Tryd.underlying41 rfl size_pos) rfl ?_
            rw [← HA2.out]
            unfold lexEnd
            rw [if_pos HZ.out]
            exact ⟨_, rfl, Kd.R_set (Kd.R_set HL3.out.sc.own HL3.out.pl (by decide) 0 _) (blk_set HL3.out.pl 0 _) (by decide) 1 _, below_set (below_set HL3.out.sc.hb (Nat.le_refl _)) (Nat.le_refl _)⟩
          · obtain ⟨ez, hez2⟩ : ∃ z, s2.e = z := ⟨_, rfl⟩
            have HZ := Lib.hid hez2
            rw [hez2] at hez
            have hb0 : (ez != 0) = true := by rw [bne_iff_ne]; exact hez
            have hez3 := Lib.hid hez
            clear hez2 hez
            go_wp2_with (first | (go_at_call 52; refine (sshut_calls w (w.heap.size + 1) v s text text.size _ HL.out.sc HE.out (Nat.le_refl _) (by omega) (by have h1 := HI.out.fr; omega)).mono ?_; rintro e w1 ⟨rfl, v1, hA, hT⟩; rw [HX.out] at hA; have HL2 := Aside0.mk (HL.out.next hA hT); obtain ⟨c0, _, _, _, _, _, _, _, _, c9, c10, c11, c12, c13, c14⟩ := HL2.out.sc.cells; rw [HSL.out] at c9; have p0 := blk_cell HL2.out.pl 0; have p1 := blk_cell HL2.out.pl 1; have q0 := blk_frozen HL2.out.pl 0; have q1 := blk_frozen HL2.out.pl 1; clear hA hT) | (go_at_call 53; refine (sfail_calls w (w.heap.size + 1) v1 s1 6 s1.bg _ HL2.out.sc).mono ?_; rintro e w2 ⟨rfl, hA, hT⟩; rw [HX2.out] at hA; have HL3 := Aside0.mk (HL2.out.next hA hT); obtain ⟨c0, _, _, _, _, _, _, _, _, c9, c10, c11, c12, c13, c14⟩ := HL3.out.sc.cells; rw [HZ.out] at c12; have p0 := blk_cell HL3.out.pl 0; have p1 := blk_cell HL3.out.pl 1; have q0 := blk_frozen HL3.out.pl 0; have q1 := blk_frozen HL3.out.pl 1; clear hA hT))
            go_region
            go_wp2_with fail
            refine bodyPost_ret (results_tct rfl _ _ w.heap.size _ _ _ _ rfl (put2 _ _ HL3.out.pl) Tryd.underlying41 rfl size_pos) rfl ?_
            rw [← HA2.out]
            unfold lexEnd
            rw [if_neg (by rw [HZ.out]; exact hez3.out), HZ.out]
            exact ⟨_, rfl, Kd.R_nil _ _ _ _ _, (below_set (below_set HL3.out.sc.hb (Nat.le_refl _)) (Nat.le_refl _)).drew⟩
        | false =>
          rw [hsl, if_neg (by decide)] at hG1
          have HSL := Lib.hid hsl
          have HA2 := Lib.hid hG1
          clear hsl hG1
          by_cases hez : s1.e = 0
          · have HZ := Lib.hid (show (s1.e : Int) = 0 from hez)
            clear hez
            go_wp2_with (first | (go_at_call 52; refine (sshut_calls w (w.heap.size + 1) v s text text.size _ HL.out.sc HE.out (Nat.le_refl _) (by omega) (by have h1 := HI.out.fr; omega)).mono ?_; rintro e w1 ⟨rfl, v1, hA, hT⟩; rw [HX.out] at hA; have HL2 := Aside0.mk (HL.out.next hA hT); obtain ⟨c0, _, _, _, _, _, _, _, _, c9, c10, c11, c12, c13, c14⟩ := HL2.out.sc.cells; rw [HSL.out] at c9; rw [HZ.out] at c12; have p0 := blk_cell HL2.out.pl 0; have p1 := blk_cell HL2.out.pl 1; have q0 := blk_frozen HL2.out.pl 0; have q1 := blk_frozen HL2.out.pl 1; clear hA hT))
            refine bodyPost_ret (results_tct rfl _ _ w.heap.size _ _ _ _ rfl (put2 _ _ HL2.out.pl) Tryd.underlying41 rfl size_pos) rfl ?_
            rw [← HA2.out]
            unfold lexEnd
            rw [if_pos HZ.out]
            exact ⟨_, rfl, Kd.R_set (Kd.R_set HL2.out.sc.own HL2.out.pl (by decide) 0 _) (blk_set HL2.out.pl 0 _) (by decide) 1 _, below_set (below_set HL2.out.sc.hb (Nat.le_refl _)) (Nat.le_refl _)⟩
          · obtain ⟨ez, hez2⟩ : ∃ z, s1.e = z := ⟨_, rfl⟩
            have HZ := Lib.hid hez2
            rw [hez2] at hez
            have hb0 : (ez != 0) = true := by rw [bne_iff_ne]; exact hez
            have hez3 := Lib.hid hez
            clear hez2 hez
            go_wp2_with (first | (go_at_call 52; refine (sshut_calls w (w.heap.size + 1) v s text text.size _ HL.out.sc HE.out (Nat.le_refl _) (by omega) (by have h1 := HI.out.fr; omega)).mono ?_; rintro e w1 ⟨rfl, v1, hA, hT⟩; rw [HX.out] at hA; have HL2 := Aside0.mk (HL.out.next hA hT); obtain ⟨c0, _, _, _, _, _, _, _, _, c9, c10, c11, c12, c13, c14⟩ := HL2.out.sc.cells; rw [HSL.out] at c9; rw [HZ.out] at c12; have p0 := blk_cell HL2.out.pl 0; have p1 := blk_cell HL2.out.pl 1; have q0 := blk_frozen HL2.out.pl 0; have q1 := blk_frozen HL2.out.pl 1; clear hA hT))
            go_region
            go_wp2_with fail
            refine bodyPost_ret (results_tct rfl _ _ w.heap.size _ _ _ _ rfl (put2 _ _ HL2.out.pl) Tryd.underlying41 rfl size_pos) rfl ?_
            rw [← HA2.out]
            unfold lexEnd
            rw [if_neg (by rw [HZ.out]; exact hez3.out), HZ.out]
            exact ⟨_, rfl, Kd.R_nil _ _ _ _ _, (below_set (below_set HL2.out.sc.hb (Nat.le_refl _)) (Nat.le_refl _)).drew⟩
end Go.Proofs.YtfcpfbdlkanlpaaDoor
