/- scope.New, by contract. -/
import Derived.Test.YtfcpfbdlkanlpaaDoorFinder
namespace Go.Proofs.YtfcpfbdlkanlpaaDoor
open Go.RowKit Go.Maps Go.Proofs.YtfcpfbdlkanlpaaDoorW.PrintWords Go.Proofs.YtfcpfbdlkanlpaaDoorW.PrintLast
set_option linter.unusedVariables false
set_option linter.unusedSimpArgs false

theorem size_drewN (w : World) (m : Nat) : (w.drewN m).heap = w.heap := by
  induction m generalizing w with
  | zero => rfl
  | succ m ih => exact (ih _)
/-- The list of names and the map, behind some rounds. -/
structure Nw (w : World) (base : Nat) (v : Value) (ss : List Sy) (i : Nat) (wr : World) : Prop where
  mp : Mp w.heap.size (ss.take i) wr
  f : wr.heap[w.heap.size + 1]? = some (.cells #[.map (some w.heap.size)] 103 (0, 0))
  hb : Below w.heap.size w wr
  r : kSy.R 30 wr base (fun _ => True) v ss
  lo : w.heap.size + 2 ≤ base
theorem Nw.below {w : World} {base : Nat} {v : Value} {ss : List Sy} {i : Nat} {wr w1 : World} (h : Nw w base v ss i wr) (hb : Below wr.heap.size wr w1) : Nw w base v ss i w1 :=
  ⟨h.mp.below hb, blk_below h.f hb, below_then h.hb h.hb.size hb, Kd.R_below h.r hb, h.lo⟩
theorem Nw.step {w : World} {base : Nat} {v : Value} {ss : List Sy} {i : Nat} {wr w1 : World} (h : Nw w base v ss i wr) {s : Sy} (hs : ss[i]? = some s) (hm : Mp w.heap.size (ss.take i ++ [s]) w1) (hg : wr.grownBy w1 (some w.heap.size)) : Nw w base v ss (i + 1) w1 := by
  refine ⟨by rw [take_step hs]; exact hm, blk_grown h.f hg (by simp), h.hb.grown hg h.hb.size (fun j hj => by cases hj; exact Nat.le_refl _), ?_, h.lo⟩
  refine Kd.R_mono (Kd.R_grown (Kd.R_bound h.r) hg (fun k hk e => ?_)) (fun _ _ => trivial)
  have h1 := hk.2.1
  have h2 := h.lo
  cases e
  omega
theorem Nw.skip {w : World} {base : Nat} {v : Value} {ss : List Sy} {i : Nat} {wr : World} (h : Nw w base v ss i wr) {s : Sy} (hs : ss[i]? = some s) (ht : thereB (ss.take i) s.name.data.toList = true) : Nw w base v ss (i + 1) wr :=
  ⟨by rw [take_step hs]; exact h.mp.same ht, h.f, h.hb, h.r, h.lo⟩

theorem Nw.start {w w2 : World} {v : Value} {ss : List Sy} (hB : Below ((w.alloc (.map #[] 0)).alloc (.cells #[.map (some w.heap.size)] 103)).heap.size ((w.alloc (.map #[] 0)).alloc (.cells #[.map (some w.heap.size)] 103)) w2)
    (hR : kSy.R 30 w2 ((w.alloc (.map #[] 0)).alloc (.cells #[.map (some w.heap.size)] 103)).heap.size (fun _ => True) v ss) : Nw w ((w.alloc (.map #[] 0)).alloc (.cells #[.map (some w.heap.size)] 103)).heap.size v ss 0 w2 where
  mp := ((Mp.start w).below (below_alloc (Below.refl _ _) _)).below hB
  f := blk_below (by have h := blk_new (w.alloc (.map #[] 0)) (.cells #[.map (some w.heap.size)] 103); rwa [World.size_alloc] at h) hB
  hb := below_then (below_alloc (below_alloc (Below.refl _ _) _) _) (by simp only [World.size_alloc]; omega) hB
  r := hR
  lo := by simp only [World.size_alloc]; omega
set_option maxHeartbeats 4000000 in
set_option maxRecDepth 100000 in
theorem new_calls (l : List De) (A : Option Addr) (c : Nat) (w : World) (hn : nL l ≤ 100000) (hb : bL l ≤ 1000000) (hC : kP.C w A l.length l) (hc : l.length ≤ c)
    (hk : ∀ s ∈ allL ⟨#[]⟩ l, kindIn s.kind ∧ s.name.size ≤ 1000000) :
    Calls Tryd.prog 21 #[.slice A l.length c] w fun e w' => e = .returned (.pointer (some ⟨w.heap.size + 1, 0, none⟩)) ∧ Mp w.heap.size (allL ⟨#[]⟩ l) w' ∧ w'.heap[w.heap.size + 1]? = some (.cells #[.map (some w.heap.size)] 103 (0, 0)) ∧ Below w.heap.size w w' := by
  have HC := Lib.hid hC
  have HK := Lib.hid hk
  clear hC hk
  have hmm := @run_makeMap Tryd.prog
  obtain ⟨ss, hss⟩ : ∃ ss, ss = allL ⟨#[]⟩ l := ⟨_, rfl⟩
  have hsl : ss.length ≤ 100000 := by rw [hss, allL_len _ _ l (Nat.le_refl _)]; exact hn
  have HSS := Lib.hid hss
  clear hss
  go_enter Tryd.func21, Tryd.ntmps21
  go_wp2_with (go_at_call 44; refine (pall_calls l A c _ hn hb (Kd.C_below HC.out (below_alloc (below_alloc (Below.refl _ _) _) _)) hc).mono ?_; rintro e w2 ⟨v, rfl, hR, hB⟩; rw [← HSS.out] at hR; obtain ⟨A2, c2, rfl, hl2, hC2⟩ := Kd.R_reads hR; have HN := Aside0.mk (Nw.start hB hR); clear hR hB hC2 hl2)
  obtain ⟨base, HN⟩ : ∃ base, Aside0 (Nw w base (.slice A2 ss.length c2) ss 0 w2) := ⟨_, HN⟩
  go_loopw [14] (fun i wr => ∃ j : Nat, j ≤ ss.length ∧ i = .int .i64 j ∧ Aside0 (Nw w base (.slice A2 ss.length c2) ss j wr)) (fun i _ => ss.length - (intOf i).toNat)
  case atStart => exact ⟨0, by omega, rfl, HN⟩
  case round =>
    obtain ⟨j, hj, rfl, hN⟩ := hrel
    by_cases hlt : j < ss.length
    · obtain ⟨x, hx⟩ := get_of_lt hlt
      obtain ⟨A', c', e', hl', hC'⟩ := Kd.R_reads hN.out.r
      cases e'
      obtain ⟨ad, rfl, h0, h1⟩ := C_sy hC' hx
      have hxm := HK.out x (by rw [← HSS.out]; exact List.mem_of_getElem? hx)
      have hxz : x.name.size ≤ maxLen := by have := hxm.2; unfold maxLen; omega
      have hxk := Lib.hid hxm.1
      have htk : (ss.take j).length < maxLen := by rw [List.length_take]; unfold maxLen; omega
      have HX := Lib.hid hx
      have cf : ∀ o, (wr.alloc o).cell? ⟨w.heap.size + 1, 0, none⟩ = some (.map (some w.heap.size)) := fun o => cell_of_one (blk_alloc hN.out.f o)
      clear hC' hx hxm hl'
      cases ht : thereB (ss.take j) x.name.data.toList with
      | true =>
        have hlk : ∀ o m, (Instr.lookup 101 (.map (some w.heap.size)) (.string x.name) true).run Tryd.prog ((wr.alloc o).drewN m) = .ok (.tuple #[.int .i64 (kindOf (ss.take j) x.name.data.toList), .bool true]) ((wr.alloc o).drewN m) := fun o m => by
          have h := (hN.out.mp.below (pw_below_drewN (below_alloc (Below.refl _ _) o) m)).lookok hxz
          rwa [ht] at h
        have HT := Lib.hid ht
        clear ht
        go_wp2
        go_quiet (fail)
        go_wp2
        go_roundw
        case rel => exact ⟨j + 1, by omega, by go_num, ⟨(hN.out.skip HX.out HT.out).below (pw_below_drewN (below_alloc (Below.refl _ _) _) _)⟩⟩
        case measure => simp [intOf]; omega
      | false =>
        have hlk : ∀ o m, (Instr.lookup 101 (.map (some w.heap.size)) (.string x.name) true).run Tryd.prog ((wr.alloc o).drewN m) = .ok (.tuple #[.int .i64 (kindOf (ss.take j) x.name.data.toList), .bool false]) ((wr.alloc o).drewN m) := fun o m => by
          have h := (hN.out.mp.below (pw_below_drewN (below_alloc (Below.refl _ _) o) m)).lookok hxz
          rwa [ht] at h
        have HT := Lib.hid ht
        clear ht
        go_wp2
        go_quiet (fail)
        have hup := fun m => (hN.out.mp.below (pw_below_drewN (below_alloc (Below.refl _ _) (.cells #[.string x.name, .int .i64 x.kind] 30)) m)).put HT.out hxz hxk.out htk
        obtain ⟨g, hg⟩ := Classical.axiomOfChoice hup
        have hg1 := fun m => (hg m).1
        have hg2 := Aside0.mk (fun m => (hg m).2)
        clear hup hg
        go_wp2
        go_region
        go_wp2
        go_roundw
        case rel => exact ⟨j + 1, by omega, by go_num, ⟨(hN.out.below (pw_below_drewN (below_alloc (Below.refl _ _) _) _)).step HX.out (hg2.out _).1 (hg2.out _).2⟩⟩
        case measure => simp [intOf]; omega
    · go_wp2
      go_ret
      have hN' := hN.out
      refine ⟨rfl, ?_, hN'.f, hN'.hb⟩
      have h := hN'.mp
      rw [take_all (by omega)] at h
      rw [← HSS.out]; exact h
end Go.Proofs.YtfcpfbdlkanlpaaDoor
