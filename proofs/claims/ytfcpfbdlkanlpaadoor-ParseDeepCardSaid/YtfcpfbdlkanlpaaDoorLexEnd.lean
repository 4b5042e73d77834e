/- lex.End, by contract. -/
import Derived.Test.YtfcpfbdlkanlpaaDoorLexWords
namespace Go.Proofs.YtfcpfbdlkanlpaaDoor
open Go.RowKit Go.Proofs.YtfcpfbdlkanlpaaDoorW.PrintWords Go.Proofs.YtfcpfbdlkanlpaaDoorW.PrintLast
set_option linter.unusedVariables false
set_option linter.unusedSimpArgs false

theorem results_c {P : Program} {fn : Func} {p : Tmp} {ty : TypeId} (h : fn.results = #[.cell p ty]) (tmps : Array Value) (w : World) (g : Nat) (t : TypeId) (cs : Array Value) (fr : Nat × Nat) (d : TypeDesc)
    (hp : tmps.getD p undef = .pointer (some ⟨g, 0, none⟩)) (hg : w.heap[g]? = some (.cells cs t fr))
    (hu : P.underlying ty = some d) (hd : (match d with | .struct _ | .array _ _ => true | _ => false) = true) (hi : (P.info? ty).map (·.size) = some cs.size) :
    (results fn tmps).run P w = .ok (.agg cs) w := by
  have hp' : tmps[p]?.getD undef = .pointer (some ⟨g, 0, none⟩) := by simpa using hp
  simp [results, h, hp', asAddr, run_loadVar_row w g t ty cs fr d hg hu hd hi]
structure Le (w : World) (text : ByteArray) (p : Pos) (pos : Nat) (wr : World) : Prop where
  rs : wr.heap[w.heap.size]? = some (.cells #[.int .i64 0, .int .i64 0] 41 (0, 0))
  pl : wr.heap[w.heap.size + 1]? = some (.cells #[.int .i64 p.line, .int .i64 p.col] 41 (0, 0))
  it : wr.heap[w.heap.size + 1 + 1]? = some (.stringIter text pos)
  hb : Below w.heap.size w wr
section
variable {w : World} {text : ByteArray} {p : Pos} {pos : Nat} {wr : World}
theorem Le.iter (h : Le w text p pos wr) (pos' : Nat) : Le w text p pos' (wr.iterAt (w.heap.size + 1 + 1) text pos') :=
  ⟨(Lib.iterAt_other _ _ _ _ _ (by omega)).trans h.rs, (Lib.iterAt_other _ _ _ _ _ (by omega)).trans h.pl, Lib.iterAt_heap _ _ _ _ _ h.it, Lib.below_iterAt h.hb (by omega) _ _⟩
theorem Le.col (h : Le w text p pos wr) (c : Int) : Le w text ⟨p.line, c⟩ pos (wr.setCell ⟨w.heap.size + 1, 1, none⟩ (.int .i64 c)) :=
  ⟨(Below.heap_setCell _ _ _ _ (by show w.heap.size ≠ w.heap.size + 1; omega)).trans h.rs, blk_put h.pl 1 _ rfl, (Below.heap_setCell _ _ _ _ (by show w.heap.size + 1 + 1 ≠ w.heap.size + 1; omega)).trans h.it, below_set h.hb (by omega)⟩
theorem Le.line (h : Le w text p pos wr) (c : Int) : Le w text ⟨c, p.col⟩ pos (wr.setCell ⟨w.heap.size + 1, 0, none⟩ (.int .i64 c)) :=
  ⟨(Below.heap_setCell _ _ _ _ (by show w.heap.size ≠ w.heap.size + 1; omega)).trans h.rs, blk_put h.pl 0 _ rfl, (Below.heap_setCell _ _ _ _ (by show w.heap.size + 1 + 1 ≠ w.heap.size + 1; omega)).trans h.it, below_set h.hb (by omega)⟩
theorem Le.start (w : World) (text : ByteArray) : Le w text pos1 0 (((w.alloc (.cells #[.int .i64 0, .int .i64 0] 41)).alloc (.cells #[.int .i64 1, .int .i64 1] 41)).iter text 0) := by
  have b1 := blk_new w (.cells #[.int .i64 0, .int .i64 0] 41)
  have b2 := blk_new (w.alloc (.cells #[.int .i64 0, .int .i64 0] 41)) (.cells #[.int .i64 1, .int .i64 1] 41)
  have hsz : (w.alloc (.cells #[.int .i64 0, .int .i64 0] 41)).heap.size = w.heap.size + 1 := World.size_alloc _ _
  rw [hsz] at b2
  have b3 := blk_new ((w.alloc (.cells #[.int .i64 0, .int .i64 0] 41)).alloc (.cells #[.int .i64 1, .int .i64 1] 41)) (.stringIter text 0)
  rw [World.size_alloc, hsz] at b3
  exact ⟨blk_alloc (blk_alloc b1 _) _, blk_alloc b2 _, b3, below_alloc (below_alloc (below_alloc (Below.refl _ _) _) _) _⟩
end
set_option maxHeartbeats 1000000 in
set_option maxRecDepth 100000 in
theorem end_calls (text : ByteArray) (w : World) (hz : text.size ≤ 140737488351232) :
    Calls Tryd.prog 27 #[.string text] w fun e w' => e = .returned (.agg #[.int .i64 (endW text).line, .int .i64 (endW text).col]) ∧ Below w.heap.size w w' := by
  unfold endW
  obtain ⟨ans, hans⟩ : ∃ a, a = endGo (runes text.data.toList) pos1 := ⟨_, rfl⟩
  rw [← hans]
  have HS := Aside0.mk (Le.start w text)
  have HA := Lib.hid hans
  clear hans
  go_enter Tryd.func27, Tryd.ntmps27
  go_wp2_with fail
  go_loopw [] (fun wr => ∃ (p : Pos) (pos : Nat), pos ≤ text.size ∧ 0 ≤ p.line ∧ p.line ≤ 1 + pos ∧ 0 ≤ p.col ∧ p.col ≤ 1 + pos ∧ Aside0 (Le w text p pos wr ∧ endGo (runes (text.data.toList.drop pos)) p = ans)) (fun wr => text.size - wr.iterPos (w.heap.size + 1 + 1))
  case atStart => exact ⟨pos1, 0, Nat.zero_le _, by decide, by decide, by decide, by decide, ⟨HS.out, HA.out.symm⟩⟩
  case round =>
    obtain ⟨p, pos, hps, h1, h2, h3, h4, hR⟩ := hrel
    have HL := Aside0.mk hR.out.1
    have HG := Aside0.mk hR.out.2
    clear hR
    by_cases hp : pos < text.size
    · have hnx : ∀ ty, (Instr.next (.pointer (some ⟨w.heap.size + 1 + 1, 0, none⟩)) true ty).run Tryd.prog wr = _ := fun ty => Lib.run_next_any_at wr _ text pos ty HL.out.it hp
      have hit := Aside0.mk (show wr.iterPos (w.heap.size + 1 + 1) = pos by unfold World.iterPos; rw [HL.out.it])
      have hwd := width_pos text pos
      have hfit := decode_fits text pos hp
      have hG1 := HG.out
      rw [runes_at hp] at hG1
      simp only [endGo] at hG1
      obtain ⟨d, hd'⟩ : ∃ d, d = Utf8.decode text pos := ⟨_, rfl⟩
      rw [← hd'] at hnx hwd hfit hG1
      have HL1 := Aside0.mk (HL.out.iter (pos + d.2))
      have p0 := blk_cell HL1.out.pl 0
      have p1 := blk_cell HL1.out.pl 1
      have q0 := blk_frozen HL1.out.pl 0
      have q1 := blk_frozen HL1.out.pl 1
      have HG1 := Aside0.mk hG1
      clear hG1 HG hd'
      by_cases h10 : d.1 = 10
      · have hb : (((d.1 : Nat) : Int) == 10) = true := beq_iff_eq.2 (by omega)
        have hG2 := HG1.out
        rw [if_pos (by omega)] at hG2
        have HG2 := Aside0.mk hG2
        clear hG2 HG1 h10
        have HL2 := Aside0.mk (((HL1.out.col (p.col + 1)).line (p.line + 1)).col 1)
        go_wp2_with fail
        go_roundw
        case rel => exact ⟨⟨p.line + 1, 1⟩, pos + d.2, by omega, by show 0 ≤ p.line + 1; omega, by show p.line + 1 ≤ _; omega, by show (0 : Int) ≤ 1; omega, by show (1 : Int) ≤ _; omega, ⟨HL2.out, HG2.out⟩⟩
        case measure => rw [show World.iterPos _ (w.heap.size + 1 + 1) = pos from hit.out, show World.iterPos _ (w.heap.size + 1 + 1) = pos + d.2 by unfold World.iterPos; rw [HL2.out.it]]; omega
      · have hb : (((d.1 : Nat) : Int) == 10) = false := beq_eq_false_iff_ne.2 (by omega)
        have hG2 := HG1.out
        rw [if_neg (by omega)] at hG2
        have HG2 := Aside0.mk hG2
        clear hG2 HG1 h10
        have HL2 := Aside0.mk (HL1.out.col (p.col + 1))
        go_wp2_with fail
        go_roundw
        case rel => exact ⟨⟨p.line, p.col + 1⟩, pos + d.2, by omega, by show 0 ≤ p.line; omega, by show p.line ≤ _; omega, by show 0 ≤ p.col + 1; omega, by show p.col + 1 ≤ _; omega, ⟨HL2.out, HG2.out⟩⟩
        case measure => rw [show World.iterPos _ (w.heap.size + 1 + 1) = pos from hit.out, show World.iterPos _ (w.heap.size + 1 + 1) = pos + d.2 by unfold World.iterPos; rw [HL2.out.it]]; omega
    · have hnx : ∀ ty, (Instr.next (.pointer (some ⟨w.heap.size + 1 + 1, 0, none⟩)) true ty).run Tryd.prog wr = _ := fun ty => Lib.run_next_end_at wr _ text pos ty HL.out.it hp
      have hG1 := HG.out
      rw [runes_past hp] at hG1
      have hG2 : p = ans := hG1
      subst hG2
      have p0 := blk_cell HL.out.pl 0
      have p1 := blk_cell HL.out.pl 1
      have r0 := blk_cell HL.out.rs 0
      have r1 := blk_cell HL.out.rs 1
      have q0 := blk_frozen HL.out.rs 0
      have q1 := blk_frozen HL.out.rs 1
      clear HG hG1
      go_wp2_with fail
      refine bodyPost_ret (results_c rfl _ _ w.heap.size _ _ _ _ rfl (put2 _ _ HL.out.rs) Tryd.underlying41 rfl size_pos) rfl ?_
      exact ⟨rfl, below_set (below_set HL.out.hb (Nat.le_refl _)) (Nat.le_refl _)⟩
end Go.Proofs.YtfcpfbdlkanlpaaDoor
