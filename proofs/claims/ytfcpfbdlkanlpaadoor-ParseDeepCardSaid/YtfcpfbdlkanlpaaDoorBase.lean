/- What every walk of this seat uses: reading an element's cells; sizes of declarations; small lemmas on worlds. -/
import Derived.Test.YtfcpfbdlkanlpaaDoorProg
import Derived.Test.YtfcpfbdlkanlpaaDoorKinds
import Derived.WalkKit
import Derived.KernelRfl
import Derived.RowKit3
import Derived.Deep.LoopGhost
import Derived.Deep.QuietTactic
import Derived.BigQuiet
import Derived.Lib.Hide
import Derived.Outline
namespace Go.Proofs.YtfcpfbdlkanlpaaDoor
open Go.RowKit Go.Proofs.YtfcpfbdlkanlpaaDoorW.PrintWords Go.Proofs.YtfcpfbdlkanlpaaDoorW.PrintLast
set_option linter.unusedVariables false

/-! ### the kinds at this program's element types -/
abbrev kR : Kd De := kDe 61 68 71 74
abbrev kP : Kd De := kDe 49 67 70 73

/-! ### which builtin is called, on which slots -/
theorem gate_bi {P : Program} {ops : Array Oper} {rest : List Oper} {o : Oper} {a : Act} {Q : Exit → Act → World → Prop} {W : World} {b : Builtin} {xs : Array Operand} {ts : Array TypeId} (_ho : o.op = .call { callee := .builtin b, args := xs, argTypes := ts }) (h : wpList P ops Q (o :: rest) a W) : wpList P ops Q (o :: rest) a W := h

/-- An append as one step of a region that draws; the world behind the box is named apart. -/
theorem app_step {P : Program} {ops : Array Oper} {o : Oper} {a : Act} {Q : Exit → Act → World → Prop} {Kc : Act → World → Prop} {α : Type}
    (d : Kd α) {w0 : World} (W : World) {W1 : World} (base : Nat) (hw : Region.wanted o (yielded ops a.tmps) = true) (s x : Operand) (t e : TypeId) (z : Value) (bytes : Nat)
    (ho : o.op = .call { callee := .builtin .append, args := #[s, x], argTypes := #[t, t] })
    (ht : P.underlying t = some (.slice e)) (hinfo : (P.info? e).map (fun i => (i.zero, i.size, i.bytes)) = some (some z, d.sz, bytes)) (hz : z.cells.size = d.sz) (hs0 : 0 < d.sz) (hb0 : 0 < bytes)
    (v : Value) (xs : List α) (p : α) (cs : List Value) (ok okp : Nat → Prop) (hW : W1 = W.alloc (.cells cs.toArray e)) (hs : a.eval s = v) (hx : a.eval x = .slice (some ⟨W.heap.size, 0, none⟩) 1 1) (hp : d.M W base okp p cs) (hokp : ∀ k, okp k → ok k ∧ some k ≠ v.ownBlock) (hfresh : ∀ k, W.heap.size ≤ k → ok k)
    (HO : d.R e W base ok v xs) (HB : Below base w0 W) (hbase : base ≤ W.heap.size) (hl : (xs.length + 1) * bytes ≤ 140737488355328)
    (h : ∀ v1 w1, d.R e w1 base ok v1 (xs ++ [p]) → Below base w0 w1 → W.grownBy w1 v.ownBlock → (v1.ownBlock = v.ownBlock ∨ ∃ b, v1.ownBlock = some b ∧ W.heap.size ≤ b) → Kc (a.put o.dst v1) w1) :
    if Region.wanted o (yielded ops a.tmps) = true then Oper.wp P o a W1 Kc Q else Kc (a.put o.dst undef) W1 := by
  subst hW
  exact Kd.R_append_step d base hw s x t e z bytes ho ht hinfo hz hs0 hb0 v xs p cs ok okp hs hx hp hokp hfresh HO HB hbase hl h

/-! ### an element of a row, cell by cell -/
theorem C_at {α : Type} {d : Kd α} {w : World} {A : Option Addr} {n : Nat} {xs : List α} (h : d.C w A n xs) {i : Nat} {x : α} (hx : xs[i]? = some x) :
    ∃ ad c, A = some ad ∧ c.length = d.sz ∧ d.K w x c ∧ ∀ j u, c[j]? = some u → w.cell? (ad.add (i * d.sz + j)) = some u := by
  have hi := (List.getElem?_eq_some_iff.1 hx).1
  obtain ⟨ad, e, hc⟩ := h.2.2 (by have := h.1; omega)
  obtain ⟨c, h1, h2, h3⟩ := hc i x hx
  exact ⟨ad, c, e, h1, h2, h3⟩
theorem C_str {w : World} {A : Option Addr} {n : Nat} {xs : List ByteArray} (h : Kd.string.C w A n xs) {i : Nat} {x : ByteArray} (hx : xs[i]? = some x) :
    ∃ ad, A = some ad ∧ w.cell? (ad.add i) = some (.string x) := by
  obtain ⟨ad, c, e, hl, hK, hc⟩ := C_at h hx
  obtain rfl : c = [.string x] := hK
  exact ⟨ad, e, by have := hc 0 _ rfl; rwa [show i * Kd.string.sz + 0 = i from by show i * 1 + 0 = i; omega] at this⟩
theorem C_fl {w : World} {A : Option Addr} {n : Nat} {xs : List Fl} (h : kFl.C w A n xs) {i : Nat} {x : Fl} (hx : xs[i]? = some x) :
    ∃ ad, A = some ad ∧ w.cell? (ad.add (i * 6)) = some (.bool x.rep) ∧ w.cell? ⟨(ad.add (i * 6)).block, (ad.add (i * 6)).off + 1, none⟩ = some (.string x.ty) ∧ w.cell? ⟨(ad.add (i * 6)).block, (ad.add (i * 6)).off + 2, none⟩ = some (.string x.name) ∧ w.cell? ⟨(ad.add (i * 6)).block, (ad.add (i * 6)).off + 3, none⟩ = some (.int .i64 x.num) ∧ w.cell? ⟨(ad.add (i * 6)).block, (ad.add (i * 6)).off + 4, none⟩ = some (.int .i64 x.pos.line) ∧ w.cell? ⟨(ad.add (i * 6)).block, (ad.add (i * 6)).off + 5, none⟩ = some (.int .i64 x.pos.col) := by
  obtain ⟨ad, c, e, hl, hK, hc0⟩ := C_at h hx
  have hc : ∀ j u, c[j]? = some u → w.cell? (ad.add (i * 6 + j)) = some u := hc0
  obtain rfl := kFl_open hK
  exact ⟨ad, e, hc 0 _ rfl, by rw [← add_field _ _ 1 (by omega)]; exact hc 1 _ rfl, by rw [← add_field _ _ 2 (by omega)]; exact hc 2 _ rfl, by rw [← add_field _ _ 3 (by omega)]; exact hc 3 _ rfl, by rw [← add_field _ _ 4 (by omega)]; exact hc 4 _ rfl, by rw [← add_field _ _ 5 (by omega)]; exact hc 5 _ rfl⟩
theorem C_va {w : World} {A : Option Addr} {n : Nat} {xs : List Va} (h : kVa.C w A n xs) {i : Nat} {x : Va} (hx : xs[i]? = some x) :
    ∃ ad, A = some ad ∧ w.cell? (ad.add (i * 4)) = some (.string x.name) ∧ w.cell? ⟨(ad.add (i * 4)).block, (ad.add (i * 4)).off + 1, none⟩ = some (.int .i64 x.num) ∧ w.cell? ⟨(ad.add (i * 4)).block, (ad.add (i * 4)).off + 2, none⟩ = some (.int .i64 x.pos.line) ∧ w.cell? ⟨(ad.add (i * 4)).block, (ad.add (i * 4)).off + 3, none⟩ = some (.int .i64 x.pos.col) := by
  obtain ⟨ad, c, e, hl, hK, hc0⟩ := C_at h hx
  have hc : ∀ j u, c[j]? = some u → w.cell? (ad.add (i * 4 + j)) = some u := hc0
  obtain rfl := kVa_open hK
  exact ⟨ad, e, hc 0 _ rfl, by rw [← add_field _ _ 1 (by omega)]; exact hc 1 _ rfl, by rw [← add_field _ _ 2 (by omega)]; exact hc 2 _ rfl, by rw [← add_field _ _ 3 (by omega)]; exact hc 3 _ rfl⟩
theorem C_me {w : World} {A : Option Addr} {n : Nat} {xs : List Me} (h : kMe.C w A n xs) {i : Nat} {x : Me} (hx : xs[i]? = some x) :
    ∃ ad, A = some ad ∧ w.cell? (ad.add (i * 5)) = some (.string x.name) ∧ w.cell? ⟨(ad.add (i * 5)).block, (ad.add (i * 5)).off + 1, none⟩ = some (.string x.inp) ∧ w.cell? ⟨(ad.add (i * 5)).block, (ad.add (i * 5)).off + 2, none⟩ = some (.string x.out) ∧ w.cell? ⟨(ad.add (i * 5)).block, (ad.add (i * 5)).off + 3, none⟩ = some (.int .i64 x.pos.line) ∧ w.cell? ⟨(ad.add (i * 5)).block, (ad.add (i * 5)).off + 4, none⟩ = some (.int .i64 x.pos.col) := by
  obtain ⟨ad, c, e, hl, hK, hc0⟩ := C_at h hx
  have hc : ∀ j u, c[j]? = some u → w.cell? (ad.add (i * 5 + j)) = some u := hc0
  obtain rfl := kMe_open hK
  exact ⟨ad, e, hc 0 _ rfl, by rw [← add_field _ _ 1 (by omega)]; exact hc 1 _ rfl, by rw [← add_field _ _ 2 (by omega)]; exact hc 2 _ rfl, by rw [← add_field _ _ 3 (by omega)]; exact hc 3 _ rfl, by rw [← add_field _ _ 4 (by omega)]; exact hc 4 _ rfl⟩
/-- The slices that hang on a declaration. -/
structure Hang (eD eF eV eM : Nat) (w : World) (x : De) (A4 : Option Addr) (c4 : Nat) (A5 : Option Addr) (c5 : Nat) (A6 : Option Addr) (c6 : Nat) (A7 : Option Addr) (c7 : Nat) : Prop where
  l4 : x.fs.length ≤ c4
  g4 : kFl.C w A4 x.fs.length x.fs
  l5 : x.vs.length ≤ c5
  g5 : kVa.C w A5 x.vs.length x.vs
  l6 : x.ms.length ≤ c6
  g6 : kMe.C w A6 x.ms.length x.ms
  l7 : x.inner.length ≤ c7
  g7 : (kDe eD eF eV eM).C w A7 x.inner.length x.inner
/-- The eight cells of a declaration at an address. -/
structure DeAt (w : World) (a : Addr) (x : De) (A4 : Option Addr) (c4 : Nat) (A5 : Option Addr) (c5 : Nat) (A6 : Option Addr) (c6 : Nat) (A7 : Option Addr) (c7 : Nat) : Prop where
  h0 : w.cell? a = some (.int .i64 x.kind)
  h1 : w.cell? ⟨a.block, a.off + 1, none⟩ = some (.string x.name)
  h2 : w.cell? ⟨a.block, a.off + 2, none⟩ = some (.int .i64 x.pos.line)
  h3 : w.cell? ⟨a.block, a.off + 3, none⟩ = some (.int .i64 x.pos.col)
  h4 : w.cell? ⟨a.block, a.off + 4, none⟩ = some (.slice A4 x.fs.length c4)
  h5 : w.cell? ⟨a.block, a.off + 5, none⟩ = some (.slice A5 x.vs.length c5)
  h6 : w.cell? ⟨a.block, a.off + 6, none⟩ = some (.slice A6 x.ms.length c6)
  h7 : w.cell? ⟨a.block, a.off + 7, none⟩ = some (.slice A7 x.inner.length c7)
section
variable {eD eF eV eM : Nat} {w w1 : World} {x : De} {A4 A5 A6 A7 : Option Addr} {c4 c5 c6 c7 : Nat}
theorem C_de {A : Option Addr} {n : Nat} {xs : List De} (h : (kDe eD eF eV eM).C w A n xs) {i : Nat} (hx : xs[i]? = some x) :
    ∃ ad A4 c4 A5 c5 A6 c6 A7 c7, A = some ad ∧ DeAt w (ad.add (i * 8)) x A4 c4 A5 c5 A6 c6 A7 c7 ∧ Hang eD eF eV eM w x A4 c4 A5 c5 A6 c6 A7 c7 := by
  obtain ⟨ad, c, e, hl, hK, hc0⟩ := C_at h hx
  have hc : ∀ j u, c[j]? = some u → w.cell? (ad.add (i * 8 + j)) = some u := hc0
  obtain ⟨A4, c4, A5, c5, A6, c6, A7, c7, rfl, l4, g4, l5, g5, l6, g6, l7, g7⟩ := kDe_open hK
  exact ⟨ad, A4, c4, A5, c5, A6, c6, A7, c7, e, ⟨hc 0 _ rfl, by rw [← add_field _ _ 1 (by omega)]; exact hc 1 _ rfl, by rw [← add_field _ _ 2 (by omega)]; exact hc 2 _ rfl, by rw [← add_field _ _ 3 (by omega)]; exact hc 3 _ rfl, by rw [← add_field _ _ 4 (by omega)]; exact hc 4 _ rfl, by rw [← add_field _ _ 5 (by omega)]; exact hc 5 _ rfl, by rw [← add_field _ _ 6 (by omega)]; exact hc 6 _ rfl, by rw [← add_field _ _ 7 (by omega)]; exact hc 7 _ rfl⟩, ⟨l4, g4, l5, g5, l6, g6, l7, g7⟩⟩
theorem DeAt.below {a : Addr} (h : DeAt w a x A4 c4 A5 c5 A6 c6 A7 c7) (hb : Below w.heap.size w w1) : DeAt w1 a x A4 c4 A5 c5 A6 c6 A7 c7 :=
  ⟨pw_cell_below hb h.h0, pw_cell_below hb h.h1, pw_cell_below hb h.h2, pw_cell_below hb h.h3, pw_cell_below hb h.h4, pw_cell_below hb h.h5, pw_cell_below hb h.h6, pw_cell_below hb h.h7⟩
theorem DeAt.five {a : Addr} (h : DeAt w a x A4 c4 A5 c5 A6 c6 A7 c7) (hb : Below w.heap.size w w1) : w1.cell? a = some (.int .i64 x.kind) ∧ w1.cell? ⟨a.block, a.off + 1, none⟩ = some (.string x.name) ∧ w1.cell? ⟨a.block, a.off + 2, none⟩ = some (.int .i64 x.pos.line) ∧ w1.cell? ⟨a.block, a.off + 3, none⟩ = some (.int .i64 x.pos.col) ∧ w1.cell? ⟨a.block, a.off + 7, none⟩ = some (.slice A7 x.inner.length c7) :=
  ⟨pw_cell_below hb h.h0, pw_cell_below hb h.h1, pw_cell_below hb h.h2, pw_cell_below hb h.h3, pw_cell_below hb h.h7⟩
theorem Hang.below (h : Hang eD eF eV eM w x A4 c4 A5 c5 A6 c6 A7 c7) (hb : Below w.heap.size w w1) : Hang eD eF eV eM w1 x A4 c4 A5 c5 A6 c6 A7 c7 :=
  ⟨h.l4, Kd.C_below h.g4 hb, h.l5, Kd.C_below h.g5 hb, h.l6, Kd.C_below h.g6 hb, h.l7, Kd.C_below h.g7 hb⟩
end

/-! ### a declaration in a block of its own -/
theorem box8 {w : World} {g : Nat} {t : TypeId} {a0 a1 a2 a3 a4 a5 a6 a7 : Value} (h : w.heap[g]? = some (.cells #[a0, a1, a2, a3, a4, a5, a6, a7] t (0, 0))) : w.cell? ⟨g, 0, none⟩ = some a0 ∧ w.cell? ⟨g, 1, none⟩ = some a1 ∧ w.cell? ⟨g, 2, none⟩ = some a2 ∧ w.cell? ⟨g, 3, none⟩ = some a3 ∧ w.cell? ⟨g, 4, none⟩ = some a4 ∧ w.cell? ⟨g, 5, none⟩ = some a5 ∧ w.cell? ⟨g, 6, none⟩ = some a6 ∧ w.cell? ⟨g, 7, none⟩ = some a7 :=
  ⟨blk_cell h 0, blk_cell h 1, blk_cell h 2, blk_cell h 3, blk_cell h 4, blk_cell h 5, blk_cell h 6, blk_cell h 7⟩
theorem free8 {w : World} {g : Nat} {t : TypeId} {cs : Array Value} (h : w.heap[g]? = some (.cells cs t (0, 0))) : w.frozen? ⟨g, 0, none⟩ = false ∧ w.frozen? ⟨g, 1, none⟩ = false ∧ w.frozen? ⟨g, 2, none⟩ = false ∧ w.frozen? ⟨g, 3, none⟩ = false ∧ w.frozen? ⟨g, 4, none⟩ = false ∧ w.frozen? ⟨g, 5, none⟩ = false ∧ w.frozen? ⟨g, 6, none⟩ = false ∧ w.frozen? ⟨g, 7, none⟩ = false :=
  ⟨blk_frozen h 0, blk_frozen h 1, blk_frozen h 2, blk_frozen h 3, blk_frozen h 4, blk_frozen h 5, blk_frozen h 6, blk_frozen h 7⟩

/-! ### how large declarations are -/
mutual
/-- How many declarations. -/
def De.n : De → Nat | .mk _ _ _ _ _ _ i => 1 + nL i
def nL : List De → Nat | [] => 0 | d :: l => d.n + nL l
end
mutual
/-- The bytes of all NAMEs, and one each. -/
def De.b : De → Nat | .mk _ n _ _ _ _ i => n.size + 1 + bL i
def bL : List De → Nat | [] => 0 | d :: l => d.b + bL l
end
/-- No string and no slice is longer than what a reading may take. -/
def reach : Nat := 140737488351232
theorem reach_eq : reach = 140737488351232 := rfl
structure Fl.ok (x : Fl) : Prop where
  ty : x.ty.size ≤ 140737488351232
  name : x.name.size ≤ 140737488351232
structure Va.ok (x : Va) : Prop where
  name : x.name.size ≤ 140737488351232
structure Me.ok (x : Me) : Prop where
  name : x.name.size ≤ 140737488351232
  inp : x.inp.size ≤ 140737488351232
  out : x.out.size ≤ 140737488351232
structure De.own (x : De) : Prop where
  name : x.name.size ≤ 140737488351232
  nf : x.fs.length ≤ 140737488351232
  nv : x.vs.length ≤ 140737488351232
  nm : x.ms.length ≤ 140737488351232
  ni : x.inner.length ≤ 140737488351232
  f : ∀ y ∈ x.fs, y.ok
  v : ∀ y ∈ x.vs, y.ok
  m : ∀ y ∈ x.ms, y.ok
mutual
def De.ok : De → Prop | .mk k n p f v m i => (De.mk k n p f v m i).own ∧ okL i
def okL : List De → Prop | [] => True | d :: l => d.ok ∧ okL l
end
theorem De.ok.own {d : De} (h : d.ok) : d.own := by cases d; exact h.1
theorem De.ok.inner {d : De} (h : d.ok) : okL d.inner := by cases d; exact h.2
theorem okL_mem {l : List De} (h : okL l) {d : De} (hd : d ∈ l) : d.ok := by
  induction l with
  | nil => cases hd
  | cons x l ih =>
    rcases List.mem_cons.1 hd with rfl | hd
    · exact h.1
    · exact ih h.2 hd
theorem okL_get {l : List De} (h : okL l) {i : Nat} {d : De} (hd : l[i]? = some d) : d.ok := okL_mem h (List.mem_of_getElem? hd)
/-- What a declaration weighs, as Small counts. -/
def Fl.wt (x : Fl) : Nat := x.name.size / 100 + x.ty.size / 100
def Va.wt (x : Va) : Nat := x.name.size / 100
def Me.wt (x : Me) : Nat := x.name.size / 100 + x.inp.size / 100 + x.out.size / 100
theorem Fl.wt_eq (x : Fl) : x.wt = x.name.size / 100 + x.ty.size / 100 := rfl
theorem Va.wt_eq (x : Va) : x.wt = x.name.size / 100 := rfl
theorem Me.wt_eq (x : Me) : x.wt = x.name.size / 100 + x.inp.size / 100 + x.out.size / 100 := rfl
def sumBy {α : Type} (f : α → Nat) : List α → Nat | [] => 0 | x :: l => f x + sumBy f l
theorem sumBy_append {α : Type} (f : α → Nat) (l m : List α) : sumBy f (l ++ m) = sumBy f l + sumBy f m := by
  induction l with
  | nil => simp [sumBy]
  | cons x l ih => simp only [List.cons_append, sumBy, ih]; omega
theorem sumBy_step {α : Type} (f : α → Nat) {l : List α} {i : Nat} {x : α} (hx : l[i]? = some x) : sumBy f (l.take (i + 1)) = sumBy f (l.take i) + f x := by
  rw [List.take_add_one, hx, sumBy_append]; simp [sumBy]
def De.own_wt (d : De) : Nat := 1 + d.fs.length + d.vs.length + d.ms.length + d.name.size / 100 + sumBy Fl.wt d.fs + sumBy Va.wt d.vs + sumBy Me.wt d.ms
mutual
def De.wt : De → Nat | .mk k n p f v m i => (De.mk k n p f v m i).own_wt + wtL i
def wtL : List De → Nat | [] => 0 | d :: l => d.wt + wtL l
end
mutual
/-- How deep declarations lie in one another. -/
def De.dp : De → Nat | .mk _ _ _ _ _ _ i => 1 + dpL i
def dpL : List De → Nat | [] => 0 | d :: l => max d.dp (dpL l)
end
theorem wt_mk (d : De) : d.wt = d.own_wt + wtL d.inner := by cases d; rfl
theorem dp_mk (d : De) : d.dp = 1 + dpL d.inner := by cases d; rfl
theorem wtL_append (l m : List De) : wtL (l ++ m) = wtL l + wtL m := by
  induction l with
  | nil => simp [wtL]
  | cons d l ih => simp only [List.cons_append, wtL, ih]; omega
theorem dpL_append (l m : List De) : dpL (l ++ m) = max (dpL l) (dpL m) := by
  induction l with
  | nil => simp [dpL]
  | cons d l ih => simp only [List.cons_append, dpL, ih]; omega
theorem wt_pos (d : De) : 1 ≤ d.wt := by rw [wt_mk]; unfold De.own_wt; omega
theorem len_le_wtL (l : List De) : l.length ≤ wtL l := by
  induction l with
  | nil => simp
  | cons d l ih => have := wt_pos d; simp only [wtL, List.length_cons]; omega
theorem wtL_step {l : List De} {i : Nat} {x : De} (hx : l[i]? = some x) : wtL (l.take (i + 1)) = wtL (l.take i) + x.wt := by
  rw [List.take_add_one, hx, wtL_append]; simp [wtL]
theorem dpL_step {l : List De} {i : Nat} {x : De} (hx : l[i]? = some x) : dpL (l.take (i + 1)) = max (dpL (l.take i)) x.dp := by
  rw [List.take_add_one, hx, dpL_append]; simp [dpL]
theorem n_mk (d : De) : d.n = 1 + nL d.inner := by cases d; rfl
theorem b_mk (d : De) : d.b = d.name.size + 1 + bL d.inner := by cases d; rfl
theorem nL_cons (d : De) (l : List De) : nL (d :: l) = d.n + nL l := rfl
theorem bL_cons (d : De) (l : List De) : bL (d :: l) = d.b + bL l := rfl
theorem nL_append (l m : List De) : nL (l ++ m) = nL l + nL m := by
  induction l with
  | nil => simp [nL]
  | cons d l ih => rw [List.cons_append, nL_cons, nL_cons, ih]; omega
theorem bL_append (l m : List De) : bL (l ++ m) = bL l + bL m := by
  induction l with
  | nil => simp [bL]
  | cons d l ih => rw [List.cons_append, bL_cons, bL_cons, ih]; omega
theorem n_pos (d : De) : 1 ≤ d.n := by rw [n_mk]; omega
theorem len_le_nL (l : List De) : l.length ≤ nL l := by
  induction l with
  | nil => simp
  | cons d l ih => have := n_pos d; rw [nL_cons, List.length_cons]; omega
theorem nL_get {l : List De} {i : Nat} {x : De} (hx : l[i]? = some x) : nL (l.take i) + x.n ≤ nL l := by
  obtain ⟨hi, rfl⟩ := List.getElem?_eq_some_iff.1 hx
  conv => rhs; rw [← List.take_append_drop i l, List.drop_eq_getElem_cons hi, nL_append, nL_cons]
  omega
theorem bL_get {l : List De} {i : Nat} {x : De} (hx : l[i]? = some x) : bL (l.take i) + x.b ≤ bL l := by
  obtain ⟨hi, rfl⟩ := List.getElem?_eq_some_iff.1 hx
  conv => rhs; rw [← List.take_append_drop i l, List.drop_eq_getElem_cons hi, bL_append, bL_cons]
  omega
theorem take_step {α : Type} {l : List α} {i : Nat} {x : α} (hx : l[i]? = some x) : l.take (i + 1) = l.take i ++ [x] := by
  rw [List.take_add_one, hx]; rfl
theorem take_all {α : Type} {l : List α} {i : Nat} (h : l.length ≤ i) : l.take i = l := List.take_of_length_le h
theorem get_of_lt {α : Type} {l : List α} {i : Nat} (h : i < l.length) : ∃ x, l[i]? = some x := ⟨_, List.getElem?_eq_getElem h⟩

/-! ### symbols -/
structure Sy where
  name : ByteArray
  kind : Int
def kSy : Kd Sy := Kd.iso (Kd.pair Kd.string (Kd.int .i64)) (fun x : Sy => (x.name, x.kind))
theorem kSy_open {w : World} {x : Sy} {cs : List Value} (h : kSy.K w x cs) : cs = [.string x.name, .int .i64 x.kind] := by
  obtain ⟨_, _, rfl, rfl, rfl⟩ := h
  exact rfl
theorem kSy_mk (w : World) (x : Sy) : kSy.K w x [.string x.name, .int .i64 x.kind] := ⟨[.string x.name], [.int .i64 x.kind], rfl, rfl, rfl⟩
theorem kSy_mkM (w : World) (base : Nat) (ok : Nat → Prop) (x : Sy) : kSy.M w base ok x [.string x.name, .int .i64 x.kind] := ⟨[.string x.name], [.int .i64 x.kind], rfl, rfl, rfl⟩
theorem C_sy {w : World} {A : Option Addr} {n : Nat} {xs : List Sy} (h : kSy.C w A n xs) {i : Nat} {x : Sy} (hx : xs[i]? = some x) :
    ∃ ad, A = some ad ∧ w.cell? (ad.add (i * 2)) = some (.string x.name) ∧ w.cell? ⟨(ad.add (i * 2)).block, (ad.add (i * 2)).off + 1, none⟩ = some (.int .i64 x.kind) := by
  obtain ⟨ad, c, e, hl, hK, hc0⟩ := C_at h hx
  have hc : ∀ j u, c[j]? = some u → w.cell? (ad.add (i * 2 + j)) = some u := hc0
  obtain rfl := kSy_open hK
  exact ⟨ad, e, hc 0 _ rfl, by rw [← add_field _ _ 1 (by omega)]; exact hc 1 _ rfl⟩
def dot : ByteArray := ⟨#[46]⟩
mutual
def De.all (a : ByteArray) : De → List Sy | .mk k n _ _ _ _ i => ⟨a ++ n, k⟩ :: allL (a ++ n ++ dot) i
def allL (a : ByteArray) : List De → List Sy | [] => [] | d :: l => d.all a ++ allL a l
end
theorem all_mk (a : ByteArray) (d : De) : d.all a = ⟨a ++ d.name, d.kind⟩ :: allL (a ++ d.name ++ dot) d.inner := by cases d; rfl
theorem allL_cons (a : ByteArray) (d : De) (l : List De) : allL a (d :: l) = d.all a ++ allL a l := rfl
theorem allL_append (a : ByteArray) (l m : List De) : allL a (l ++ m) = allL a l ++ allL a m := by
  induction l with
  | nil => rfl
  | cons d l ih => rw [List.cons_append, allL_cons, allL_cons, ih, List.append_assoc]
theorem allL_one (a : ByteArray) (d : De) : allL a [d] = d.all a := by rw [allL_cons]; exact List.append_nil _
theorem allL_len : ∀ (k : Nat) (a : ByteArray) (l : List De), nL l ≤ k → (allL a l).length = nL l := by
  intro k
  induction k using Nat.strongRecOn with
  | _ k ih =>
    intro a l
    induction l generalizing a with
    | nil => intro _; rfl
    | cons d l ihl =>
      intro h
      rw [nL_cons] at h
      have hd := n_mk d
      have hp := n_pos d
      rw [allL_cons, List.length_append, nL_cons, ihl a (by omega), all_mk, List.length_cons, ih (nL d.inner) (by omega) _ d.inner (Nat.le_refl _)]
      omega
end Go.Proofs.YtfcpfbdlkanlpaaDoor
