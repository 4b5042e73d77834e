/- A field in the making. -/
import Derived.Test.YtfcpfbdlkanlpaaDoorParPath
namespace Go.Proofs.YtfcpfbdlkanlpaaDoor
open Go.RowKit Go.Proofs.YtfcpfbdlkanlpaaDoorW.PrintWords Go.Proofs.YtfcpfbdlkanlpaaDoorW.PrintLast
set_option linter.unusedVariables false
set_option linter.unusedSimpArgs false

theorem scalar_eq (s : Bytes) : decide (0 < scalarN s) = (decide (s ≠ []) && decide (idxIn s (bytesL scalarsL) < 9)) := by
  simp only [bytesL, scalarsL, List.map_cons, List.map_nil, idxIn, scalarN, wInt64, wUint64, wSint64, wBool, wString, wBytes, wFixed32, wFixed64]
  by_cases h0 : s = []
  · subst h0; decide
  by_cases k1 : s = [105, 110, 116, 54, 52]
  · subst k1; decide
  by_cases k2 : s = [117, 105, 110, 116, 54, 52]
  · subst k2; decide
  by_cases k3 : s = [115, 105, 110, 116, 54, 52]
  · subst k3; decide
  by_cases k4 : s = [98, 111, 111, 108]
  · subst k4; decide
  by_cases k5 : s = [115, 116, 114, 105, 110, 103]
  · subst k5; decide
  by_cases k6 : s = [98, 121, 116, 101, 115]
  · subst k6; decide
  by_cases k7 : s = [102, 105, 120, 101, 100, 51, 50]
  · subst k7; decide
  by_cases k8 : s = [102, 105, 120, 101, 100, 54, 52]
  · subst k8; decide
  simp [h0, k1, k2, k3, k4, k5, k6, k7, k8]
theorem wants_one (en : Pos) (t : ByteArray) (ws : List Wd) : wantsP en [t] ws = wantP en t.data.toList ws := by
  simp only [wantsP]
  cases wantP en t.data.toList ws <;> rfl
/-- One word is wanted. -/
theorem want_one {base b : Nat} {en : Pos} (t : ByteArray) {ws : List Wd} (n : Nat) (w : World) (hn : w.heap.size = n) (h : Got base b en ws w w) :
    Calls Tryd.prog 57 #[.pointer (some ⟨b, 0, none⟩), .slice (some ⟨n, 0, none⟩) 1 1] (w.alloc (.cells #[.string t] 9)) fun e w' => Post base b en w unitV (wantP en t.data.toList ws) e w' := by
  subst hn
  have hb := h.blt
  refine (want_calls [t] (some ⟨w.heap.size, 0, none⟩) 1 (w.alloc (.cells #[.string t] 9)) (h.alloc _).here (C_lit w [t] _ (by simp)) (fun ad e => by cases e; show w.heap.size ≠ b; omega)).mono ?_
  intro e w' hp
  rw [wants_one] at hp
  cases hr : wantP en t.data.toList ws with
  | bad er p => obtain ⟨he, hc⟩ := hp.bad hr; exact ⟨he, Ch.pre (below_alloc (Below.refl _ _) _) hc⟩
  | ok u ws1 => obtain ⟨v, he, hv, hg⟩ := hp.ok hr; exact ⟨v, he, hv, Got.pre (below_alloc (Below.refl _ _) _) hg⟩
theorem size_fl : (Tryd.prog.info? 67).map (·.size) = some 6 := by kernel_rfl
/-- The field's block, and the words that are left. -/
structure Fs (base b : Nat) (en : Pos) (w : World) (f : Fl) (ws : List Wd) (wr : World) : Prop where
  got : Got base b en ws w wr
  blk : wr.heap[w.heap.size]? = some (.cells #[.bool f.rep, .string f.ty, .string f.name, .int .i64 f.num, .int .i64 f.pos.line, .int .i64 f.pos.col] 67 (0, 0))
  lt : b < w.heap.size
section
variable {base b : Nat} {en : Pos} {w : World} {f : Fl} {ws ws1 : List Wd} {wr w1 : World}
theorem Fs.got_ (h : Fs base b en w f ws wr) (k : Got base b en ws1 wr w1) : Fs base b en w f ws1 w1 :=
  ⟨Got.then h.got.ch k, k.ch.blk h.blk (by have := h.lt; omega), h.lt⟩
theorem Fs.below (h : Fs base b en w f ws wr) (hb : Below wr.heap.size wr w1) : Fs base b en w f ws w1 := ⟨h.got.below hb, blk_below h.blk hb, h.lt⟩
theorem Fs.alloc (h : Fs base b en w f ws wr) (o : Obj) : Fs base b en w f ws (wr.alloc o) := h.below (below_alloc (Below.refl _ _) o)
theorem Fs.set (h : Fs base b en w f ws wr) (j : Nat) (u : Value) (f' : Fl) (hc : (#[.bool f.rep, .string f.ty, .string f.name, .int .i64 f.num, .int .i64 f.pos.line, .int .i64 f.pos.col] : Array Value).setIfInBounds j u = #[.bool f'.rep, .string f'.ty, .string f'.name, .int .i64 f'.num, .int .i64 f'.pos.line, .int .i64 f'.pos.col]) : Fs base b en w f' ws (wr.setCell ⟨w.heap.size, j, none⟩ u) :=
  ⟨h.got.far (p := ⟨w.heap.size, j, none⟩) (Nat.le_refl _) h.lt u, blk_put h.blk j u hc, h.lt⟩
theorem Fs.cells (h : Fs base b en w f ws wr) : wr.cell? ⟨w.heap.size, 0, none⟩ = some (.bool f.rep) ∧ wr.cell? ⟨w.heap.size, 1, none⟩ = some (.string f.ty) ∧ wr.cell? ⟨w.heap.size, 2, none⟩ = some (.string f.name) ∧ wr.cell? ⟨w.heap.size, 3, none⟩ = some (.int .i64 f.num) ∧ wr.cell? ⟨w.heap.size, 4, none⟩ = some (.int .i64 f.pos.line) ∧ wr.cell? ⟨w.heap.size, 5, none⟩ = some (.int .i64 f.pos.col) :=
  ⟨blk_cell h.blk 0, blk_cell h.blk 1, blk_cell h.blk 2, blk_cell h.blk 3, blk_cell h.blk 4, blk_cell h.blk 5⟩
theorem Fs.free (h : Fs base b en w f ws wr) : wr.frozen? ⟨w.heap.size, 0, none⟩ = false ∧ wr.frozen? ⟨w.heap.size, 1, none⟩ = false ∧ wr.frozen? ⟨w.heap.size, 2, none⟩ = false ∧ wr.frozen? ⟨w.heap.size, 3, none⟩ = false ∧ wr.frozen? ⟨w.heap.size, 4, none⟩ = false ∧ wr.frozen? ⟨w.heap.size, 5, none⟩ = false :=
  ⟨blk_frozen h.blk 0, blk_frozen h.blk 1, blk_frozen h.blk 2, blk_frozen h.blk 3, blk_frozen h.blk 4, blk_frozen h.blk 5⟩
end
def fieldV : Fl → Value → World → Prop := fun f u _ => u = .agg #[.bool f.rep, .string f.ty, .string f.name, .int .i64 f.num, .int .i64 f.pos.line, .int .i64 f.pos.col]
theorem post_name {base b : Nat} {en : Pos} {ws ws1 : List Wd} {w w1 : World} {e : Ending} {x : ByteArray × Pos} (h : Post base b en w nameV (nameP en ws) e w1) (hr : nameP en ws = .ok x ws1) : e = .returned (.tuple #[.string x.1, .agg #[.int .i64 x.2.line, .int .i64 x.2.col]]) ∧ Got base b en ws1 w w1 := by
  obtain ⟨u, he, hu, hg⟩ := h.ok hr; exact ⟨by rw [he]; congr 1, hg⟩
theorem post_path {base b : Nat} {en : Pos} {ws ws1 : List Wd} {w w1 : World} {e : Ending} {x : ByteArray} (h : Post base b en w pathV (pathP en ws) e w1) (hr : pathP en ws = .ok x ws1) : e = .returned (.string x) ∧ Got base b en ws1 w w1 := by
  obtain ⟨u, he, hu, hg⟩ := h.ok hr; exact ⟨by rw [he]; congr 1, hg⟩
theorem post_int {base b : Nat} {en : Pos} {ws ws1 : List Wd} {w w1 : World} {e : Ending} {k : Int} (h : Post base b en w intV (numberP en ws) e w1) (hr : numberP en ws = .ok k ws1) : e = .returned (.int .i64 k) ∧ Got base b en ws1 w w1 := by
  obtain ⟨u, he, hu, hg⟩ := h.ok hr; exact ⟨by rw [he]; congr 1, hg⟩
theorem post_unit {base b : Nat} {en : Pos} {w w1 : World} {e : Ending} {r : Rs Unit} {x : Unit} {ws1 : List Wd} (h : Post base b en w unitV r e w1) (hr : r = .ok x ws1) : e = .returned (.tuple #[]) ∧ Got base b en ws1 w w1 := by
  obtain ⟨u, he, hu, hg⟩ := h.ok hr; exact ⟨by rw [he]; congr 1, hg⟩
theorem post_field {base b : Nat} {en : Pos} {w w1 : World} {e : Ending} {r : Rs Fl} {f : Fl} {ws1 : List Wd} (h : Post base b en w fieldV r e w1) (hr : r = .ok f ws1) : e = .returned (.agg #[.bool f.rep, .string f.ty, .string f.name, .int .i64 f.num, .int .i64 f.pos.line, .int .i64 f.pos.col]) ∧ Got base b en ws1 w w1 := by
  obtain ⟨u, he, hu, hg⟩ := h.ok hr; exact ⟨by rw [he]; congr 1, hg⟩
end Go.Proofs.YtfcpfbdlkanlpaaDoor
