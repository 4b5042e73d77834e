/- scope.Find in no scope, by contract. -/
import Derived.Test.YtfcpfbdlkanlpaaDoorScopeFind
namespace Go.Proofs.YtfcpfbdlkanlpaaDoor
open Go.RowKit Go.Maps Go.Proofs.YtfcpfbdlkanlpaaDoorW.PrintWords Go.Proofs.YtfcpfbdlkanlpaaDoorW.PrintLast
set_option linter.unusedVariables false
set_option linter.unusedSimpArgs false

theorem new_row (l : List De) (ks : List Sy) (A : Option Addr) (c : Nat) (w : World) (hks : ks = allL ⟨#[]⟩ l) (hn : nL l ≤ 100000) (hb : bL l ≤ 1000000) (hC : kP.C w A l.length l) (hc : l.length ≤ c)
    (hk : ∀ s ∈ ks, kindIn s.kind ∧ s.name.size ≤ 1000000) :
    Calls Tryd.prog 21 #[.slice A l.length c] w fun e w' => ∃ b g, e = .returned (.pointer (some ⟨g, 0, none⟩)) ∧ Mp b ks w' ∧ w'.heap[g]? = some (.cells #[.map (some b)] 103 (0, 0)) ∧ Below w.heap.size w w' :=
  (new_calls l A c w hn hb hC hc (by rw [← hks]; exact hk)).mono fun e w' ⟨h1, h2, h3, h4⟩ => ⟨_, _, h1, by rw [hks]; exact h2, h3, h4⟩
theorem box_at {w w1 : World} {cs : Array Value} {t : TypeId} (hB : Below (w.alloc (.cells cs t)).heap.size (w.alloc (.cells cs t)) w1) : w1.heap[w.heap.size]? = some (.cells cs t (0, 0)) ∧ Below w.heap.size w w1 :=
  ⟨blk_below (blk_new w _) hB, below_then (below_alloc (Below.refl _ _) _) (by simp) hB⟩
set_option maxHeartbeats 400000 in
set_option maxRecDepth 100000 in
theorem find_calls (l : List De) (ks : List Sy) (A : Option Addr) (c : Nat) (path : ByteArray) (m : Int) (w : World) (hks : ks = allL ⟨#[]⟩ l) (hn : nL l ≤ 100000) (hb : bL l ≤ 1000000) (hC : kP.C w A l.length l) (hc : l.length ≤ c)
    (hk : ∀ s ∈ ks, kindIn s.kind ∧ s.name.size ≤ 1000000) (hs : path.size ≤ 1000000) (hml : w.cell? ⟨0, 0, none⟩ = some (.int .i64 m)) :
    Calls Tryd.prog 11 #[.slice A l.length c, .string ⟨#[]⟩, .string path] w (FindPost ks path w) := by
  have NEW := Lib.hid (fun w1 h => new_row l ks A c w1 hks hn hb h hc hk)
  have HC := Lib.hid hC
  have HL := Lib.hid hml
  clear hC hk hml hks hn hb hc
  go_enter Tryd.func11, Tryd.ntmps11
  go_wp2_with (first
    | (go_at_call 21; refine (NEW.out _ (Kd.C_below HC.out (below_alloc (Below.refl _ _) _))).mono ?_; rintro e w1 ⟨b, g, rfl, hm, hf, hB1⟩; obtain ⟨bk, hB⟩ := box_at hB1; have HB := Aside0.mk hB; have HBK := Aside0.mk bk; have HM := Aside0.mk hm; have HF := Aside0.mk hf; clear hm hf hB1 bk hB)
    | (go_at_call 22; refine (findm_calls b g ks path m _ HF.out HM.out hs (pw_cell_below HB.out HL.out)).mono ?_; rintro e w2 ⟨s, k, q, rfl, hS, hB2⟩; have HB2 := Aside0.mk (below_then HB.out HB.out.size hB2); have bk := blk_below HBK.out hB2; have c0 := blk_cell bk 0; have c1 := blk_cell bk 1; have g0 := blk_frozen bk 0; have g1 := blk_frozen bk 1; have BK := Aside0.mk bk; have HS := Aside0.mk hS; clear bk hS hB2))
  refine bodyPost_ret (results_row_tmp rfl _ _ w.heap.size _ _ _ _ rfl (put2 _ _ BK.out) Tryd.underlying30 rfl size_sy) rfl ?_
  exact ⟨s, k, q, rfl, HS.out, below_set (below_set HB2.out (Nat.le_refl _)) (Nat.le_refl _)⟩
end Go.Proofs.YtfcpfbdlkanlpaaDoor
