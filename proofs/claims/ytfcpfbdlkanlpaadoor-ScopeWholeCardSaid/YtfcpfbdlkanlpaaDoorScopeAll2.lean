/- scope.All, by contract: the same list of whole names. -/
import Derived.Test.YtfcpfbdlkanlpaaDoorScopeAll
import Derived.Laws.EntriesVeiled
namespace Go.Proofs.YtfcpfbdlkanlpaaDoor
open Go.RowKit Go.Proofs.YtfcpfbdlkanlpaaDoorW.PrintWords Go.Proofs.YtfcpfbdlkanlpaaDoorW.PrintLast
set_option linter.unusedVariables false
set_option linter.unusedSimpArgs false

theorem Wk_start (w : World) : Wk w w.heap.size (w.heap.size + 1) [] ((w.alloc (.cells #[.slice none 0 0] 104)).alloc (.cells #[.func (.func 62) #[] #[.pointer (some ⟨w.heap.size, 0, none⟩), .pointer (some ⟨w.heap.size + 1, 0, none⟩)]] 123)) :=
  ⟨below_alloc (below_alloc (Below.refl _ _) _) _, ⟨_, blk_alloc (blk_new w _) _, Kd.R_nil _ _ _ _ _⟩, by have h := blk_new (w.alloc (.cells #[.slice none 0 0] 104)) (.cells #[.func (.func 62) #[] #[.pointer (some ⟨w.heap.size, 0, none⟩), .pointer (some ⟨w.heap.size + 1, 0, none⟩)]] 123); rwa [World.size_alloc] at h, Nat.le_refl _, by omega⟩
set_option maxHeartbeats 1000000 in
theorem pall_calls (l : List De) (A : Option Addr) (c : Nat) (w : World) (hn : nL l ≤ 100000) (hb : bL l ≤ 1000000) (hC : kP.C w A l.length l) (hc : l.length ≤ c) :
    Calls Tryd.prog 44 #[.slice A l.length c] w fun e w' => ∃ v, e = .returned v ∧ kSy.R 30 w' w.heap.size (fun _ => True) v (allL ⟨#[]⟩ l) ∧ Below w.heap.size w w' := by
  have HC := Lib.hid hC
  clear hC
  go_enter Tryd.func44, Tryd.ntmps44
  go_wp2_with (go_at_call 62; refine (walk_calls w w.heap.size (w.heap.size + 1) (nL l) l A c ⟨#[]⟩ [] _ (Nat.le_refl _) (by simp; omega) (by show 0 + _ ≤ _; omega) HC.out hc (Wk_start w)).mono ?_; rintro e w2 ⟨rfl, hW⟩; obtain ⟨v, hv, hR⟩ := hW.bo; have co := cell_of_one hv; have HR := Aside0.mk hR; have HB := Aside0.mk hW.hb; clear hW hv hR)
  go_ret
  exact ⟨_, rfl, HR.out, HB.out⟩
end Go.Proofs.YtfcpfbdlkanlpaaDoor
