/- The parser's enum, by contract. -/
import Derived.Test.YtfcpfbdlkanlpaaDoorParDb
namespace Go.Proofs.YtfcpfbdlkanlpaaDoor
open Go.RowKit Go.Proofs.YtfcpfbdlkanlpaaDoorW.PrintWords Go.Proofs.YtfcpfbdlkanlpaaDoorW.PrintLast
set_option linter.unusedVariables false
set_option linter.unusedSimpArgs false

abbrev zVal : Obj := .cells #[.string ⟨#[]⟩, .int .i64 0, .int .i64 0, .int .i64 0] 70
/-- An enum so far. -/
structure En (base b : Nat) (en : Pos) (w : World) (r g : Nat) (x : ByteArray × Pos) (v5 : Value) (vs : List Va) (ws : List Wd) (wr : World) : Prop where
  db : Db base b en w r g 2 x nilS v5 nilS nilS ws wr
  row : kVa.R 70 wr w.heap.size (fun k => g < k) v5 vs
/-- And a value in the making, in block h. -/
structure Ev (base b : Nat) (en : Pos) (w : World) (r g : Nat) (x : ByteArray × Pos) (v5 : Value) (vs : List Va) (h : Nat) (y : Va) (ws : List Wd) (wr : World) : Prop where
  db : Db base b en w r g 2 x nilS v5 nilS nilS ws wr
  row : kVa.R 70 wr w.heap.size (fun k => g < k ∧ k < h) v5 vs
  bk : wr.heap[h]? = some (.cells #[.string y.name, .int .i64 y.num, .int .i64 y.pos.line, .int .i64 y.pos.col] 70 (0, 0))
  gh : g < h
section
variable {base b : Nat} {en : Pos} {w : World} {r g : Nat} {x : ByteArray × Pos} {v5 : Value} {vs : List Va} {h0 : Nat} {y : Va} {ws ws1 : List Wd} {wr w1 : World}
theorem Db.bg {k : Int} {v4 v5 v6 v7 : Value} (h : Db base b en w r g k x v4 v5 v6 v7 ws wr) : b < g := by have := h.hb; have := h.hr; have := h.hg; omega
theorem En.got_ (h : En base b en w r g x v5 vs ws wr) (q : Got base b en ws1 wr w1) : En base b en w r g x v5 vs ws1 w1 :=
  ⟨h.db.got_ q, Kd.R_grown h.row q.ch.g (fun k hk e => by have := h.db.bg; have := Option.some.inj e; omega)⟩
theorem En.alloc (h : En base b en w r g x v5 vs ws wr) (o : Obj) : En base b en w r g x v5 vs ws (wr.alloc o) := ⟨h.db.alloc o, Kd.R_alloc h.row o⟩
theorem En.new (h : En base b en w r g x v5 vs ws wr) : Ev base b en w r g x v5 vs wr.heap.size va0 ws (wr.alloc zVal) :=
  ⟨h.db.alloc _, Kd.R_mono (Kd.R_alloc (Kd.R_bound h.row) _) (fun k hk => ⟨hk.1, hk.2.2.1⟩), blk_new wr _, blk_lt h.db.blk⟩
theorem Ev.got_ (h : Ev base b en w r g x v5 vs h0 y ws wr) (q : Got base b en ws1 wr w1) : Ev base b en w r g x v5 vs h0 y ws1 w1 := by
  have h1 := h.db.bg
  have h2 := h.gh
  exact ⟨h.db.got_ q, Kd.R_grown h.row q.ch.g (fun k hk e => by have := Option.some.inj e; omega), q.ch.blk h.bk (by omega), h2⟩
theorem Ev.set (h : Ev base b en w r g x v5 vs h0 y ws wr) (j : Nat) (u : Value) (y' : Va) (hc : (#[.string y.name, .int .i64 y.num, .int .i64 y.pos.line, .int .i64 y.pos.col] : Array Value).setIfInBounds j u = #[.string y'.name, .int .i64 y'.num, .int .i64 y'.pos.line, .int .i64 y'.pos.col]) : Ev base b en w r g x v5 vs h0 y' ws (wr.setCell ⟨h0, j, none⟩ u) :=
  ⟨h.db.far (p := ⟨h0, j, none⟩) h.gh u, Kd.R_far h.row (p := ⟨h0, j, none⟩) (fun k hk => by show k ≠ h0; omega) u, blk_put h.bk j u hc, h.gh⟩
theorem Ev.back (h : Ev base b en w r g x v5 vs h0 y ws wr) : En base b en w r g x v5 vs ws wr := ⟨h.db, Kd.R_mono h.row (fun k hk => hk.1)⟩
theorem Ev.free (h : Ev base b en w r g x v5 vs h0 y ws wr) : wr.frozen? ⟨h0, 0, none⟩ = false ∧ wr.frozen? ⟨h0, 1, none⟩ = false ∧ wr.frozen? ⟨h0, 2, none⟩ = false ∧ wr.frozen? ⟨h0, 3, none⟩ = false :=
  ⟨blk_frozen h.bk 0, blk_frozen h.bk 1, blk_frozen h.bk 2, blk_frozen h.bk 3⟩
theorem En.push (h : En base b en w r g x v5 vs ws wr) {v1 : Value} (ho : kVa.R 70 w1 w.heap.size (fun k => g < k) v1 (vs ++ [y])) (hg : wr.grownBy w1 v5.ownBlock) : En base b en w r g x v1 (vs ++ [y]) ws (w1.setCell ⟨g, 5, none⟩ v1) := by
  have h1 := h.db.own hg (fun k e => h.row.1 k e)
  exact ⟨h1.set 5 v1 rfl, Kd.R_set ho h1.blk (by decide) 5 v1⟩
end
theorem Db.rfar {base b : Nat} {en : Pos} {w : World} {r g : Nat} {k : Int} {x : ByteArray × Pos} {v4 v5 v6 v7 : Value} {ws : List Wd} {wr : World} (h : Db base b en w r g k x v4 v5 v6 v7 ws wr) (b0 b1 b2 b3 b4 b5 b6 b7 : Value) :
    Got base b en ws w ((((((((wr.setCell ⟨r, 0, none⟩ b0).setCell ⟨r, 1, none⟩ b1).setCell ⟨r, 2, none⟩ b2).setCell ⟨r, 3, none⟩ b3).setCell ⟨r, 4, none⟩ b4).setCell ⟨r, 5, none⟩ b5).setCell ⟨r, 6, none⟩ b6).setCell ⟨r, 7, none⟩ b7) := by
  have h1 := h.hb
  have h2 := h.hr
  exact (((((((h.got.far (p := ⟨r, 0, none⟩) h2 h1 b0).far (p := ⟨r, 1, none⟩) h2 h1 b1).far (p := ⟨r, 2, none⟩) h2 h1 b2).far (p := ⟨r, 3, none⟩) h2 h1 b3).far (p := ⟨r, 4, none⟩) h2 h1 b4).far (p := ⟨r, 5, none⟩) h2 h1 b5).far (p := ⟨r, 6, none⟩) h2 h1 b6).far (p := ⟨r, 7, none⟩) h2 h1 b7
theorem kVa_nil (w : World) (base : Nat) (ok : Nat → Prop) : kVa.R 70 w base ok nilS [] := Kd.R_nil _ _ _ _ _
/-- The answer: the declaration's cells in block r. -/
theorem En.done {base b : Nat} {en : Pos} {w : World} {r g : Nat} {x : ByteArray × Pos} {A : Option Addr} {n c : Nat} {vs : List Va} {ws : List Wd} {wr : World} (h : En base b en w r g x (.slice A n c) vs ws wr) (b0 b1 b2 b3 b4 b5 b6 b7 : Value) :
    kP.M ((((((((wr.setCell ⟨r, 0, none⟩ b0).setCell ⟨r, 1, none⟩ b1).setCell ⟨r, 2, none⟩ b2).setCell ⟨r, 3, none⟩ b3).setCell ⟨r, 4, none⟩ b4).setCell ⟨r, 5, none⟩ b5).setCell ⟨r, 6, none⟩ b6).setCell ⟨r, 7, none⟩ b7) w.heap.size (fun k => k ≠ b) (.mk 2 x.1 x.2 [] vs [] []) [.int .i64 2, .string x.1, .int .i64 x.2.line, .int .i64 x.2.col, .slice none 0 0, .slice A n c, .slice none 0 0, .slice none 0 0] := by
  have h1 := h.db.bg
  have h2 := h.db.hg
  exact kDe_mkM _ _ _ (.mk 2 x.1 x.2 [] vs [] []) (Kd.R_nil _ _ _ _ _) (Kd.R_mono (R_far8 h.row (g := r) (fun k hk => (by omega : k ≠ r)) _ _ _ _ _ _ _ _) (fun k hk => (by omega : k ≠ b))) (Kd.R_nil _ _ _ _ _) (Kd.R_nil _ _ _ _ _)
end Go.Proofs.YtfcpfbdlkanlpaaDoor
