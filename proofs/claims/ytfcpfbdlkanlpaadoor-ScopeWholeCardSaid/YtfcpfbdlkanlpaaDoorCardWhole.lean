/- The tied card of ScopeWhole. -/
import Derived.Test.YtfcpfbdlkanlpaaDoorRowWhole
import Derived.Test.YtfcpfbdlkanlpaaDoorCards
import Derived.Test.YtfcpfbdlkanlpaaDoorTie
import Derived.SevenTiedAt
namespace Go.Proofs.YtfcpfbdlkanlpaaDoor
open Go

theorem scopeWhole_card_holds : Rows.ScopeWholeCardSaid :=
  Claim7.holds_tied_plain_at .later [] [.data, .pinned] true (true, "84ac6d581f432dc53762761869d3930164b5bc597328bc322f80bf9a7109c028") true
    scopeWhole_holds (fun _ h => by cases h) (by kernel_rfl) (fun _ h => by cases h) scopeWhole_row_tie rfl ⟨rfl, rfl⟩ (by kernel_rfl) rfl
    (fun f fn hf hfn => by
      obtain rfl : f = 3 := Option.some.inj ((show Tryd.prog.funcNamed "courier/courierlaw07.ScopeWhole" = some 3 by kernel_rfl).symm.trans hf) |>.symm
      obtain rfl : fn = Tryd.f3 := (Option.some.inj (Tryd.func3.symm.trans hfn)).symm
      exact ⟨by kernel_rfl, fun j t ht => by
        rw [Tryd.params3] at ht
        have h3 : t = 22 ∨ t = 23 := by
          rcases j with _ | _ | j
          · exact .inl (by simpa using ht.symm)
          · exact .inr (by simpa using ht.symm)
          · simp at ht
        rcases h3 with rfl | rfl
        · exact (show Tryd.prog.wantsStandIn 22 = false by kernel_rfl)
        · exact (show Tryd.prog.wantsStandIn 23 = false by kernel_rfl)⟩)
    (by kernel_rfl)
#print axioms scopeWhole_card_holds
end Go.Proofs.YtfcpfbdlkanlpaaDoor
