/- Words: as Lean data, and what their cells say in memory. -/
import Derived.Test.YtfcpfbdlkanlpaaDoorBase
namespace Go.Proofs.YtfcpfbdlkanlpaaDoor
open Go.RowKit Go.Proofs.YtfcpfbdlkanlpaaDoorW.PrintWords Go.Proofs.YtfcpfbdlkanlpaaDoorW.PrintLast
set_option linter.unusedVariables false

structure Wd where
  kind : Int
  text : ByteArray
  pos : Pos
def kWd : Kd Wd := Kd.iso (Kd.pair (Kd.int .i64) (Kd.pair Kd.string kPos)) (fun x : Wd => (x.kind, x.text, x.pos))
theorem kWd_open {w : World} {x : Wd} {cs : List Value} (h : kWd.K w x cs) : cs = [.int .i64 x.kind, .string x.text, .int .i64 x.pos.line, .int .i64 x.pos.col] := by
  obtain ⟨_, _, rfl, rfl, ⟨_, _, rfl, rfl, s2⟩⟩ := h
  obtain rfl := kPos_open s2
  exact rfl
theorem kWd_mk (w : World) (x : Wd) : kWd.K w x [.int .i64 x.kind, .string x.text, .int .i64 x.pos.line, .int .i64 x.pos.col] :=
  ⟨[.int .i64 x.kind], [.string x.text, .int .i64 x.pos.line, .int .i64 x.pos.col], rfl, rfl, [.string x.text], [.int .i64 x.pos.line, .int .i64 x.pos.col], rfl, rfl, kPos_mk w x.pos⟩
theorem kWd_mkM (w : World) (base : Nat) (ok : Nat → Prop) (x : Wd) : kWd.M w base ok x [.int .i64 x.kind, .string x.text, .int .i64 x.pos.line, .int .i64 x.pos.col] :=
  ⟨[.int .i64 x.kind], [.string x.text, .int .i64 x.pos.line, .int .i64 x.pos.col], rfl, rfl, [.string x.text], [.int .i64 x.pos.line, .int .i64 x.pos.col], rfl, rfl, kPos_mkM w base ok x.pos⟩
theorem E_wd : kWd.E = [] := rfl
theorem C_wd {w : World} {A : Option Addr} {n : Nat} {xs : List Wd} (h : kWd.C w A n xs) {i : Nat} {x : Wd} (hx : xs[i]? = some x) :
    ∃ ad, A = some ad ∧ w.cell? (ad.add (i * 4)) = some (.int .i64 x.kind) ∧ w.cell? ⟨(ad.add (i * 4)).block, (ad.add (i * 4)).off + 1, none⟩ = some (.string x.text) ∧ w.cell? ⟨(ad.add (i * 4)).block, (ad.add (i * 4)).off + 2, none⟩ = some (.int .i64 x.pos.line) ∧ w.cell? ⟨(ad.add (i * 4)).block, (ad.add (i * 4)).off + 3, none⟩ = some (.int .i64 x.pos.col) := by
  obtain ⟨ad, c, e, hl, hK, hc0⟩ := C_at h hx
  have hc : ∀ j u, c[j]? = some u → w.cell? (ad.add (i * 4 + j)) = some u := hc0
  obtain rfl := kWd_open hK
  exact ⟨ad, e, hc 0 _ rfl, by rw [← add_field _ _ 1 (by omega)]; exact hc 1 _ rfl, by rw [← add_field _ _ 2 (by omega)]; exact hc 2 _ rfl, by rw [← add_field _ _ 3 (by omega)]; exact hc 3 _ rfl⟩
end Go.Proofs.YtfcpfbdlkanlpaaDoor
