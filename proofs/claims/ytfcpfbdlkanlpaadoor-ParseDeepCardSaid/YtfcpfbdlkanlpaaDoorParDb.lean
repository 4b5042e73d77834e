/- A declaration in the making, in the parser's memory. -/
import Derived.Test.YtfcpfbdlkanlpaaDoorParField
import Derived.Test.YtfcpfbdlkanlpaaDoorTheirsP
namespace Go.Proofs.YtfcpfbdlkanlpaaDoor
open Go.RowKit Go.Proofs.YtfcpfbdlkanlpaaDoorW.PrintWords Go.Proofs.YtfcpfbdlkanlpaaDoorW.PrintLast
set_option linter.unusedVariables false
set_option linter.unusedSimpArgs false

abbrev nilS : Value := .slice none 0 0
abbrev zDecl : Obj := .cells #[.int .i64 0, .string ⟨#[]⟩, .int .i64 0, .int .i64 0, .slice none 0 0, .slice none 0 0, .slice none 0 0, .slice none 0 0] 49
/-- The blocks of the answer (r) and of the declaration (g); the words that are left. -/
structure Db (base b : Nat) (en : Pos) (w : World) (r g : Nat) (k : Int) (x : ByteArray × Pos) (v4 v5 v6 v7 : Value) (ws : List Wd) (wr : World) : Prop where
  got : Got base b en ws w wr
  res : wr.heap[r]? = some zDecl
  blk : wr.heap[g]? = some (.cells #[.int .i64 k, .string x.1, .int .i64 x.2.line, .int .i64 x.2.col, v4, v5, v6, v7] 49 (0, 0))
  hb : b < w.heap.size
  hr : w.heap.size ≤ r
  hg : r < g
section
variable {base b : Nat} {en : Pos} {w : World} {r g : Nat} {k : Int} {x : ByteArray × Pos} {v4 v5 v6 v7 : Value} {ws ws1 : List Wd} {wr w1 : World}
theorem Db.got_ (h : Db base b en w r g k x v4 v5 v6 v7 ws wr) (q : Got base b en ws1 wr w1) : Db base b en w r g k x v4 v5 v6 v7 ws1 w1 := by
  have h1 := h.hb
  have h2 := h.hr
  have h3 := h.hg
  exact ⟨Got.then h.got.ch q, q.ch.blk h.res (by omega), q.ch.blk h.blk (by omega), h1, h2, h3⟩
theorem Db.below (h : Db base b en w r g k x v4 v5 v6 v7 ws wr) (hb : Below wr.heap.size wr w1) : Db base b en w r g k x v4 v5 v6 v7 ws w1 :=
  ⟨h.got.below hb, blk_below h.res hb, blk_below h.blk hb, h.hb, h.hr, h.hg⟩
theorem Db.alloc (h : Db base b en w r g k x v4 v5 v6 v7 ws wr) (o : Obj) : Db base b en w r g k x v4 v5 v6 v7 ws (wr.alloc o) := h.below (below_alloc (Below.refl _ _) o)
theorem Db.far (h : Db base b en w r g k x v4 v5 v6 v7 ws wr) {p : Addr} (hp : g < p.block) (u : Value) : Db base b en w r g k x v4 v5 v6 v7 ws (wr.setCell p u) := by
  have h1 := h.hb
  have h2 := h.hr
  have h3 := h.hg
  exact ⟨h.got.far (by omega) h1 u, (Below.heap_setCell _ _ _ _ (by omega)).trans h.res, (Below.heap_setCell _ _ _ _ (by omega)).trans h.blk, h1, h2, h3⟩
theorem Db.set (h : Db base b en w r g k x v4 v5 v6 v7 ws wr) (j : Nat) (u : Value) {k' : Int} {x' : ByteArray × Pos} {u4 u5 u6 u7 : Value} (hc : (#[.int .i64 k, .string x.1, .int .i64 x.2.line, .int .i64 x.2.col, v4, v5, v6, v7] : Array Value).setIfInBounds j u = #[.int .i64 k', .string x'.1, .int .i64 x'.2.line, .int .i64 x'.2.col, u4, u5, u6, u7]) : Db base b en w r g k' x' u4 u5 u6 u7 ws (wr.setCell ⟨g, j, none⟩ u) := by
  have h1 := h.hb
  have h2 := h.hr
  have h3 := h.hg
  exact ⟨h.got.far (p := ⟨g, j, none⟩) (by show w.heap.size ≤ g; omega) h1 u, (Below.heap_setCell _ _ _ _ (by show r ≠ g; omega)).trans h.res, blk_put h.blk j u hc, h1, h2, h3⟩
/-- An append to a row of one's own that isn't of declarations. -/
theorem Db.own (h : Db base b en w r g k x v4 v5 v6 v7 ws wr) {row : Option Nat} (hg : wr.grownBy w1 row) (hr : ∀ k, row = some k → g < k) : Db base b en w r g k x v4 v5 v6 v7 ws w1 := by
  have h1 := h.hb
  have h2 := h.hr
  have h3 := h.hg
  exact ⟨h.got.own hg (fun k e => by have := hr k e; omega) h1, blk_grown h.res hg (fun e => by have := hr _ e.symm; omega), blk_grown h.blk hg (fun e => by have := hr _ e.symm; omega), h1, h2, h3⟩
theorem Db.cells (h : Db base b en w r g k x v4 v5 v6 v7 ws wr) : wr.cell? ⟨g, 0, none⟩ = some (.int .i64 k) ∧ wr.cell? ⟨g, 1, none⟩ = some (.string x.1) ∧ wr.cell? ⟨g, 2, none⟩ = some (.int .i64 x.2.line) ∧ wr.cell? ⟨g, 3, none⟩ = some (.int .i64 x.2.col) ∧ wr.cell? ⟨g, 4, none⟩ = some v4 ∧ wr.cell? ⟨g, 5, none⟩ = some v5 ∧ wr.cell? ⟨g, 6, none⟩ = some v6 ∧ wr.cell? ⟨g, 7, none⟩ = some v7 := box8 h.blk
theorem Db.rcells (h : Db base b en w r g k x v4 v5 v6 v7 ws wr) : wr.cell? ⟨r, 0, none⟩ = some (.int .i64 0) ∧ wr.cell? ⟨r, 1, none⟩ = some (.string ⟨#[]⟩) ∧ wr.cell? ⟨r, 2, none⟩ = some (.int .i64 0) ∧ wr.cell? ⟨r, 3, none⟩ = some (.int .i64 0) ∧ wr.cell? ⟨r, 4, none⟩ = some (.slice none 0 0) ∧ wr.cell? ⟨r, 5, none⟩ = some (.slice none 0 0) ∧ wr.cell? ⟨r, 6, none⟩ = some (.slice none 0 0) ∧ wr.cell? ⟨r, 7, none⟩ = some (.slice none 0 0) := box8 h.res
end
/-- How many words the parser is ahead of. -/
def wlen (b : Nat) (w : World) : Nat := match w.cell? ⟨b, 0, none⟩ with | some v => lenV v | none => 0
theorem Got.wlen {base b : Nat} {en : Pos} {ws : List Wd} {w w1 : World} (h : Got base b en ws w w1) : wlen b w1 = ws.length := by
  obtain ⟨v, p, _⟩ := h
  obtain ⟨A, c, hv, _⟩ := p.form
  unfold Go.Proofs.YtfcpfbdlkanlpaaDoor.wlen
  rw [p.cells.1, hv]; rfl
/-- A declaration, as it is handed back: its rows are new. -/
def declV (w : World) (b : Nat) : De → Value → World → Prop := fun d u w' => ∃ cs : List Value, u = .agg cs.toArray ∧ kP.M w' w.heap.size (fun k => k ≠ b) d cs
theorem size_de : (Tryd.prog.info? 49).map (·.size) = some 8 := by kernel_rfl
/-! ### words that are left are fewer -/
theorem nameP_len {en : Pos} {ws ws1 : List Wd} {x : ByteArray × Pos} (h : nameP en ws = .ok x ws1) : ws1.length < ws.length := by
  unfold nameP at h
  split at h
  · rename_i hc
    cases h
    rcases ws with _ | ⟨y, ws⟩
    · exact absurd hc.1 (show ¬ (0 : Int) = 1 by decide)
    · simp
  · cases h
theorem wantP_len {en : Pos} {t : Bytes} {ws ws1 : List Wd} {x : Unit} (h : wantP en t ws = .ok x ws1) : ws1.length ≤ ws.length := by
  unfold wantP at h
  split at h
  · cases h; simp
  · cases h
theorem numberP_len {en : Pos} {ws ws1 : List Wd} {x : Int} (h : numberP en ws = .ok x ws1) : ws1.length ≤ ws.length := by
  unfold numberP at h
  split at h
  · cases h; simp
  · cases h
theorem pathGo_len {en : Pos} : ∀ (n : Nat) (p : Pos) (l : List ByteArray) (ws ws1 : List Wd) (x : List ByteArray), pathGo en n p l ws = .ok x ws1 → ws1.length ≤ ws.length
  | 0, p, l, ws, ws1, x, h => by cases h; exact Nat.le_refl _
  | n + 1, p, l, ws, ws1, x, h => by
    simp only [pathGo] at h
    split at h
    · cases hn : nameP en ws.tail with
      | bad e q => rw [hn] at h; cases h
      | ok y ws2 =>
        rw [hn, Rs.bind_ok] at h
        have h1 := nameP_len hn
        split at h
        · cases h
        · have h2 := pathGo_len n p _ ws2 ws1 x h
          have h3 : ws.tail.length ≤ ws.length := by simp
          omega
    · cases h; exact Nat.le_refl _
theorem pathP_len {en : Pos} {ws ws1 : List Wd} {x : ByteArray} (h : pathP en ws = .ok x ws1) : ws1.length < ws.length := by
  unfold pathP at h
  cases hn : nameP en ws with
  | bad e q => rw [hn] at h; cases h
  | ok y ws2 =>
    rw [hn, Rs.bind_ok] at h
    have h1 := nameP_len hn
    cases hp : pathGo en 9 y.2 [y.1] ws2 with
    | bad e q => rw [hp] at h; cases h
    | ok l ws3 =>
      rw [hp, Rs.bind_ok] at h
      cases h
      have := pathGo_len _ _ _ _ _ _ hp
      omega
end Go.Proofs.YtfcpfbdlkanlpaaDoor
