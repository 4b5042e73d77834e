/- A message in the making. -/
import Derived.Test.YtfcpfbdlkanlpaaDoorParEnum2
import Derived.Test.YtfcpfbdlkanlpaaDoorParServ2
import Derived.Test.YtfcpfbdlkanlpaaDoorParLen
namespace Go.Proofs.YtfcpfbdlkanlpaaDoor
open Go.RowKit Go.Proofs.YtfcpfbdlkanlpaaDoorW.PrintWords Go.Proofs.YtfcpfbdlkanlpaaDoorW.PrintLast
set_option linter.unusedVariables false
set_option linter.unusedSimpArgs false

structure Mg (base b : Nat) (en : Pos) (w : World) (r g : Nat) (x : ByteArray × Pos) (v4 : Value) (fs : List Fl) (v7 : Value) (ds : List De) (ws : List Wd) (wr : World) : Prop where
  db : Db base b en w r g 1 x v4 nilS nilS v7 ws wr
  r4 : kFl.R 67 wr w.heap.size (fun k => g < k) v4 fs
  r7 : kP.R 49 wr w.heap.size (fun k => g < k ∧ some k ≠ v4.ownBlock) v7 ds
section
variable {base b : Nat} {en : Pos} {w : World} {r g : Nat} {x : ByteArray × Pos} {v4 v7 : Value} {fs : List Fl} {ds : List De} {f : Fl} {d : De} {ws ws1 : List Wd} {wr w1 : World}
theorem Mg.got_ (h : Mg base b en w r g x v4 fs v7 ds ws wr) (q : Got base b en ws1 wr w1) : Mg base b en w r g x v4 fs v7 ds ws1 w1 := by
  have h1 := h.db.bg
  exact ⟨h.db.got_ q, Kd.R_grown h.r4 q.ch.g (fun k hk e => by have := Option.some.inj e; omega), Kd.R_grown h.r7 q.ch.g (fun k hk e => by have := Option.some.inj e; have := hk.1; omega)⟩
theorem Mg.below (h : Mg base b en w r g x v4 fs v7 ds ws wr) (hb : Below wr.heap.size wr w1) : Mg base b en w r g x v4 fs v7 ds ws w1 := ⟨h.db.below hb, Kd.R_below h.r4 hb, Kd.R_below h.r7 hb⟩
theorem Mg.alloc (h : Mg base b en w r g x v4 fs v7 ds ws wr) (o : Obj) : Mg base b en w r g x v4 fs v7 ds ws (wr.alloc o) := h.below (below_alloc (Below.refl _ _) o)
theorem Mg.drew (h : Mg base b en w r g x v4 fs v7 ds ws wr) : Mg base b en w r g x v4 fs v7 ds ws wr.drew := h.below (below_drew (Below.refl _ _))
theorem Mg.pushF (h : Mg base b en w r g x v4 fs v7 ds ws wr) {v1 : Value} (ho : kFl.R 67 w1 w.heap.size (fun k => g < k) v1 (fs ++ [f])) (hg : wr.grownBy w1 v4.ownBlock) (hat : v1.ownBlock = v4.ownBlock ∨ ∃ k, v1.ownBlock = some k ∧ wr.heap.size ≤ k) : Mg base b en w r g x v1 (fs ++ [f]) v7 ds ws (w1.setCell ⟨g, 4, none⟩ v1) := by
  refine ⟨(h.db.own hg (fun k e => h.r4.1 k e)).set 4 v1 rfl, Kd.R_far ho (p := ⟨g, 4, none⟩) (fun k hk => by show k ≠ g; omega) v1, ?_⟩
  refine Kd.R_far (Kd.R_mono (Kd.R_grown (Kd.R_bound h.r7) hg (fun k hk => hk.1.2)) (fun k hk => ⟨hk.1.1, ?_⟩)) (p := ⟨g, 4, none⟩) (fun k hk => by show k ≠ g; have := hk.1; omega) v1
  rcases hat with e | ⟨j, e, hj⟩
  · rw [e]; exact hk.1.2
  · rw [e]; intro e2; have := Option.some.inj e2; have := hk.2.2.1; omega
theorem Mg.pushD (h : Mg base b en w r g x v4 fs v7 ds ws wr) {v1 : Value} (ho : kP.R 49 w1 w.heap.size (fun k => g < k ∧ some k ≠ v4.ownBlock) v1 (ds ++ [d])) (hg : wr.grownBy w1 v7.ownBlock) : Mg base b en w r g x v4 fs v1 (ds ++ [d]) ws (w1.setCell ⟨g, 7, none⟩ v1) := by
  refine ⟨(h.db.own hg (fun k e => (h.r7.1 k e).1)).set 7 v1 rfl, ?_, Kd.R_far ho (p := ⟨g, 7, none⟩) (fun k hk => by show k ≠ g; have := hk.1; omega) v1⟩
  exact Kd.R_far (Kd.R_mono (Kd.R_grown (Kd.R_apartR h.r4 h.r7 (by decide)) hg (fun k hk => hk.2)) (fun k hk => hk.1)) (p := ⟨g, 7, none⟩) (fun k hk => by show k ≠ g; omega) v1
end
/-- The answer: the declaration's cells in block r. -/
theorem Mg.done {base b : Nat} {en : Pos} {w : World} {r g : Nat} {x : ByteArray × Pos} {A4 A7 : Option Addr} {n4 c4 n7 c7 : Nat} {fs : List Fl} {ds : List De} {ws : List Wd} {wr : World} (h : Mg base b en w r g x (.slice A4 n4 c4) fs (.slice A7 n7 c7) ds ws wr) (b0 b1 b2 b3 b4 b5 b6 b7 : Value) :
    kP.M ((((((((wr.setCell ⟨r, 0, none⟩ b0).setCell ⟨r, 1, none⟩ b1).setCell ⟨r, 2, none⟩ b2).setCell ⟨r, 3, none⟩ b3).setCell ⟨r, 4, none⟩ b4).setCell ⟨r, 5, none⟩ b5).setCell ⟨r, 6, none⟩ b6).setCell ⟨r, 7, none⟩ b7) w.heap.size (fun k => k ≠ b) (.mk 1 x.1 x.2 fs [] [] ds) [.int .i64 1, .string x.1, .int .i64 x.2.line, .int .i64 x.2.col, .slice A4 n4 c4, .slice none 0 0, .slice none 0 0, .slice A7 n7 c7] := by
  have h1 := h.db.bg
  have h2 := h.db.hg
  exact kDe_mkM _ _ _ (.mk 1 x.1 x.2 fs [] [] ds) (Kd.R_mono (R_far8 h.r4 (g := r) (fun k hk => (by omega : k ≠ r)) _ _ _ _ _ _ _ _) (fun k hk => (by omega : k ≠ b))) (Kd.R_nil _ _ _ _ _) (Kd.R_nil _ _ _ _ _) (Kd.R_mono (R_far8 h.r7 (g := r) (fun k hk => (by have := hk.1; omega : k ≠ r)) _ _ _ _ _ _ _ _) (fun k hk => (by have := hk.1; omega : k ≠ b)))
theorem field_split {base b : Nat} {en : Pos} {w w1 : World} {e : Ending} {r : Rs Fl} (h : Post base b en w fieldV r e w1) : (∃ er q, r = .bad er q ∧ e = flt er q ∧ Ch b w w1) ∨ (∃ f ws1, r = .ok f ws1 ∧ e = .returned (.agg #[.bool f.rep, .string f.ty, .string f.name, .int .i64 f.num, .int .i64 f.pos.line, .int .i64 f.pos.col]) ∧ Got base b en ws1 w w1) := by
  cases r with
  | bad er q => obtain ⟨h1, h2⟩ := h.bad rfl; exact .inl ⟨er, q, rfl, h1, h2⟩
  | ok f ws1 => obtain ⟨h1, h2⟩ := post_field h rfl; exact .inr ⟨f, ws1, rfl, h1, h2⟩
theorem decl_split {base b : Nat} {en : Pos} {w w1 : World} {e : Ending} {r : Rs De} (h : Post base b en w (declV w b) r e w1) : (∃ er q, r = .bad er q ∧ e = flt er q ∧ Ch b w w1) ∨ (∃ d ws1 A4 c4 A5 c5 A6 c6 A7 c7, r = .ok d ws1 ∧ e = .returned (.agg #[.int .i64 d.kind, .string d.name, .int .i64 d.pos.line, .int .i64 d.pos.col, .slice A4 d.fs.length c4, .slice A5 d.vs.length c5, .slice A6 d.ms.length c6, .slice A7 d.inner.length c7]) ∧ kP.M w1 w.heap.size (fun k => k ≠ b) d [.int .i64 d.kind, .string d.name, .int .i64 d.pos.line, .int .i64 d.pos.col, .slice A4 d.fs.length c4, .slice A5 d.vs.length c5, .slice A6 d.ms.length c6, .slice A7 d.inner.length c7] ∧ Got base b en ws1 w w1) := by
  cases r with
  | bad er q => obtain ⟨h1, h2⟩ := h.bad rfl; exact .inl ⟨er, q, rfl, h1, h2⟩
  | ok d ws1 =>
    obtain ⟨u, h1, ⟨cs, h2, h3⟩, h4⟩ := h.ok rfl
    obtain ⟨v4, v5, v6, v7, rfl, g4, g5, g6, g7⟩ := kDe_openM h3
    obtain ⟨A4, c4, rfl⟩ := Kd.R_slice g4
    obtain ⟨A5, c5, rfl⟩ := Kd.R_slice g5
    obtain ⟨A6, c6, rfl⟩ := Kd.R_slice g6
    obtain ⟨A7, c7, rfl⟩ := Kd.R_slice g7
    exact .inr ⟨d, ws1, A4, c4, A5, c5, A6, c6, A7, c7, rfl, by rw [h1, h2], h3, h4⟩
theorem Mg.own4 {base b : Nat} {en : Pos} {w : World} {r g : Nat} {x : ByteArray × Pos} {v4 v7 : Value} {fs : List Fl} {ds : List De} {ws : List Wd} {wr : World} (h : Mg base b en w r g x v4 fs v7 ds ws wr) (k : Nat) (e : v4.ownBlock = some k) : k < wr.heap.size := ((Kd.R_bound h.r4).1 k e).2.2.1
theorem Mg.own7 {base b : Nat} {en : Pos} {w : World} {r g : Nat} {x : ByteArray × Pos} {v4 v7 : Value} {fs : List Fl} {ds : List De} {ws : List Wd} {wr : World} (h : Mg base b en w r g x v4 fs v7 ds ws wr) (k : Nat) (e : v7.ownBlock = some k) : k < wr.heap.size := ((Kd.R_bound h.r7).1 k e).2.2.1
theorem Mg.fresh {base b : Nat} {en : Pos} {w : World} {r g : Nat} {x : ByteArray × Pos} {v4 v7 : Value} {fs : List Fl} {ds : List De} {ws : List Wd} {wr : World} (h : Mg base b en w r g x v4 fs v7 ds ws wr) (k : Nat) (hk : wr.heap.size ≤ k) : g < k ∧ some k ≠ v4.ownBlock :=
  ⟨Nat.lt_of_lt_of_le (blk_lt h.db.blk) hk, fun e => by have := h.own4 k e.symm; omega⟩
theorem Mg.okp {base b : Nat} {en : Pos} {w : World} {r g : Nat} {x : ByteArray × Pos} {v4 v7 : Value} {fs : List Fl} {ds : List De} {ws : List Wd} {wr : World} (h : Mg base b en w r g x v4 fs v7 ds ws wr) (k : Nat) (hk : wr.heap.size ≤ k ∧ k ≠ b) : (g < k ∧ some k ≠ v4.ownBlock) ∧ some k ≠ v7.ownBlock :=
  ⟨h.fresh k hk.1, fun e => by have := h.own7 k e.symm; have := hk.1; omega⟩
theorem Mg.lowM {base b : Nat} {en : Pos} {w : World} {r g : Nat} {x : ByteArray × Pos} {v4 v7 : Value} {fs : List Fl} {ds : List De} {ws : List Wd} {wr w1 : World} (h : Mg base b en w r g x v4 fs v7 ds ws wr) {d : De} {cs : List Value} (hM : kP.M w1 wr.heap.size (fun k => k ≠ b) d cs) : kP.M w1 w.heap.size (fun k => wr.heap.size ≤ k ∧ k ≠ b) d cs :=
  kP.M_mono (fun k hk => ⟨hk.2.1, hk.1⟩) (kP.M_lower h.db.got.ch.size (kP.M_bound hM))
end Go.Proofs.YtfcpfbdlkanlpaaDoor
