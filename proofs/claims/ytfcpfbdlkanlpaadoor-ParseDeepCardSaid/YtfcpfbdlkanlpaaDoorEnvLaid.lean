/- What the text's numbers lean on, out of what a row says is laid. -/
import Derived.Test.YtfcpfbdlkanlpaaDoorFmtU
import Derived.LaidLaws
import Derived.Lib.LaidTab
import Derived.Lib.LaidU8T
import Derived.Lay
namespace Go.Proofs.YtfcpfbdlkanlpaaDoor
open Go.RowKit Go.Lib
set_option linter.unusedVariables false

theorem tab_of_reads {P : Program} {W : World} {name : String} {k : IntKind} {zs : List Int} {g : Nat} {t e : TypeId} {n : Nat}
    (hg : P.globalNamed name = some g) (hty : (P.globals[g]?).map (·.type) = some t) (ht : P.underlying t = some (.array n e)) (he : P.underlying e = some (.int k)) (hce : P.cellsOf e = 1) (hct : P.cellsOf t = n)
    (h : VarReads P W name (tabData k zs)) : TabIs P W name k zs := by
  obtain ⟨g', t', cs, fuel, p, hg', ht', hvar, hd⟩ := h
  obtain rfl := Option.some.inj (hg.symm.trans hg')
  obtain rfl := Option.some.inj (hty.symm.trans ht')
  unfold TabIs
  rw [hvar, ← cells_of_tab ht he hce hct hd]
theorem err_of_reads {P : Program} {W : World} {name nm : String} {d : DataW Unit} {g : Nat} {t : TypeId} {ms : Array (String × TypeId)}
    (hg : P.globalNamed name = some g) (hty : (P.globals[g]?).map (·.type) = some t) (hi : P.underlying t = some (.interface ms)) (h : VarReads P W name (.iface nm d)) : ∃ tp p, W.var? P name = some #[.iface tp p] := by
  obtain ⟨g', t', cs, fuel, p, hg', ht', hvar, hd⟩ := h
  obtain rfl := Option.some.inj (hg.symm.trans hg')
  obtain rfl := Option.some.inj (hty.symm.trans ht')
  obtain ⟨fuel', u, v, hcs, -, -⟩ := iface_of_trod hi hd
  have hc : cs = #[.iface u v] := Array.toList_inj.1 hcs
  exact ⟨u, v, by rw [hvar, hc]⟩
theorem env_of_reads {W : World} {nm1 nm2 : String} {d1 d2 : DataW Unit} (h1 : VarReads Tryd.prog W "internal/strconv.uint64pow10" (tabData .u64 Lib.pow10Tab)) (h2 : VarReads Tryd.prog W "strconv.ErrSyntax" (.iface nm1 d1)) (h3 : VarReads Tryd.prog W "strconv.ErrRange" (.iface nm2 d2)) : Env W :=
  ⟨tab_of_reads (g := 5) (by kernel_rfl) (by kernel_rfl) Tryd.underlying187 Tryd.underlying143 (by kernel_rfl) (by kernel_rfl) h1,
    err_of_reads (g := 3) (t := 136) (by kernel_rfl) (by kernel_rfl) Tryd.underlying136 h2,
    err_of_reads (g := 4) (t := 136) (by kernel_rfl) (by kernel_rfl) Tryd.underlying136 h3⟩
end Go.Proofs.YtfcpfbdlkanlpaaDoor
