/- The parser's service, by contract: a service in the making. -/
import Derived.Test.YtfcpfbdlkanlpaaDoorParEnum
namespace Go.Proofs.YtfcpfbdlkanlpaaDoor
open Go.RowKit Go.Proofs.YtfcpfbdlkanlpaaDoorW.PrintWords Go.Proofs.YtfcpfbdlkanlpaaDoorW.PrintLast
set_option linter.unusedVariables false
set_option linter.unusedSimpArgs false

abbrev zMet : Obj := .cells #[.string ⟨#[]⟩, .string ⟨#[]⟩, .string ⟨#[]⟩, .int .i64 0, .int .i64 0] 73
/-- A service so far. -/
structure Sn (base b : Nat) (en : Pos) (w : World) (r g : Nat) (x : ByteArray × Pos) (v6 : Value) (ms : List Me) (ws : List Wd) (wr : World) : Prop where
  db : Db base b en w r g 3 x nilS nilS v6 nilS ws wr
  row : kMe.R 73 wr w.heap.size (fun k => g < k) v6 ms
/-- And a method in the making, in block h. -/
structure Sv (base b : Nat) (en : Pos) (w : World) (r g : Nat) (x : ByteArray × Pos) (v6 : Value) (ms : List Me) (h : Nat) (y : Me) (ws : List Wd) (wr : World) : Prop where
  db : Db base b en w r g 3 x nilS nilS v6 nilS ws wr
  row : kMe.R 73 wr w.heap.size (fun k => g < k ∧ k < h) v6 ms
  bk : wr.heap[h]? = some (.cells #[.string y.name, .string y.inp, .string y.out, .int .i64 y.pos.line, .int .i64 y.pos.col] 73 (0, 0))
  gh : g < h
section
variable {base b : Nat} {en : Pos} {w : World} {r g : Nat} {x : ByteArray × Pos} {v6 : Value} {ms : List Me} {h0 : Nat} {y : Me} {ws ws1 : List Wd} {wr w1 : World}
theorem Sn.got_ (h : Sn base b en w r g x v6 ms ws wr) (q : Got base b en ws1 wr w1) : Sn base b en w r g x v6 ms ws1 w1 :=
  ⟨h.db.got_ q, Kd.R_grown h.row q.ch.g (fun k hk e => by have := h.db.bg; have := Option.some.inj e; omega)⟩
theorem Sn.new (h : Sn base b en w r g x v6 ms ws wr) : Sv base b en w r g x v6 ms wr.heap.size me0 ws (wr.alloc zMet) :=
  ⟨h.db.alloc _, Kd.R_mono (Kd.R_alloc (Kd.R_bound h.row) _) (fun k hk => ⟨hk.1, hk.2.2.1⟩), blk_new wr _, blk_lt h.db.blk⟩
theorem Sv.got_ (h : Sv base b en w r g x v6 ms h0 y ws wr) (q : Got base b en ws1 wr w1) : Sv base b en w r g x v6 ms h0 y ws1 w1 := by
  have h1 := h.db.bg
  have h2 := h.gh
  exact ⟨h.db.got_ q, Kd.R_grown h.row q.ch.g (fun k hk e => by have := Option.some.inj e; omega), q.ch.blk h.bk (by omega), h2⟩
theorem Sv.set (h : Sv base b en w r g x v6 ms h0 y ws wr) (j : Nat) (u : Value) (y' : Me) (hc : (#[.string y.name, .string y.inp, .string y.out, .int .i64 y.pos.line, .int .i64 y.pos.col] : Array Value).setIfInBounds j u = #[.string y'.name, .string y'.inp, .string y'.out, .int .i64 y'.pos.line, .int .i64 y'.pos.col]) : Sv base b en w r g x v6 ms h0 y' ws (wr.setCell ⟨h0, j, none⟩ u) :=
  ⟨h.db.far (p := ⟨h0, j, none⟩) h.gh u, Kd.R_far h.row (p := ⟨h0, j, none⟩) (fun k hk => by show k ≠ h0; omega) u, blk_put h.bk j u hc, h.gh⟩
theorem Sv.back (h : Sv base b en w r g x v6 ms h0 y ws wr) : Sn base b en w r g x v6 ms ws wr := ⟨h.db, Kd.R_mono h.row (fun k hk => hk.1)⟩
theorem Sv.free (h : Sv base b en w r g x v6 ms h0 y ws wr) : wr.frozen? ⟨h0, 0, none⟩ = false ∧ wr.frozen? ⟨h0, 1, none⟩ = false ∧ wr.frozen? ⟨h0, 2, none⟩ = false ∧ wr.frozen? ⟨h0, 3, none⟩ = false ∧ wr.frozen? ⟨h0, 4, none⟩ = false :=
  ⟨blk_frozen h.bk 0, blk_frozen h.bk 1, blk_frozen h.bk 2, blk_frozen h.bk 3, blk_frozen h.bk 4⟩
theorem Sv.cells (h : Sv base b en w r g x v6 ms h0 y ws wr) : wr.cell? ⟨h0, 0, none⟩ = some (.string y.name) ∧ wr.cell? ⟨h0, 1, none⟩ = some (.string y.inp) ∧ wr.cell? ⟨h0, 2, none⟩ = some (.string y.out) ∧ wr.cell? ⟨h0, 3, none⟩ = some (.int .i64 y.pos.line) ∧ wr.cell? ⟨h0, 4, none⟩ = some (.int .i64 y.pos.col) :=
  ⟨blk_cell h.bk 0, blk_cell h.bk 1, blk_cell h.bk 2, blk_cell h.bk 3, blk_cell h.bk 4⟩
theorem Sn.push (h : Sn base b en w r g x v6 ms ws wr) {v1 : Value} (ho : kMe.R 73 w1 w.heap.size (fun k => g < k) v1 (ms ++ [y])) (hg : wr.grownBy w1 v6.ownBlock) : Sn base b en w r g x v1 (ms ++ [y]) ws (w1.setCell ⟨g, 6, none⟩ v1) := by
  have h1 := h.db.own hg (fun k e => h.row.1 k e)
  exact ⟨h1.set 6 v1 rfl, Kd.R_set ho h1.blk (by decide) 6 v1⟩
end
/-- The answer: the declaration's cells in block r. -/
theorem Sn.done {base b : Nat} {en : Pos} {w : World} {r g : Nat} {x : ByteArray × Pos} {A : Option Addr} {n c : Nat} {ms : List Me} {ws : List Wd} {wr : World} (h : Sn base b en w r g x (.slice A n c) ms ws wr) (b0 b1 b2 b3 b4 b5 b6 b7 : Value) :
    kP.M ((((((((wr.setCell ⟨r, 0, none⟩ b0).setCell ⟨r, 1, none⟩ b1).setCell ⟨r, 2, none⟩ b2).setCell ⟨r, 3, none⟩ b3).setCell ⟨r, 4, none⟩ b4).setCell ⟨r, 5, none⟩ b5).setCell ⟨r, 6, none⟩ b6).setCell ⟨r, 7, none⟩ b7) w.heap.size (fun k => k ≠ b) (.mk 3 x.1 x.2 [] [] ms []) [.int .i64 3, .string x.1, .int .i64 x.2.line, .int .i64 x.2.col, .slice none 0 0, .slice none 0 0, .slice A n c, .slice none 0 0] := by
  have h1 := h.db.bg
  have h2 := h.db.hg
  exact kDe_mkM _ _ _ (.mk 3 x.1 x.2 [] [] ms []) (Kd.R_nil _ _ _ _ _) (Kd.R_nil _ _ _ _ _) (Kd.R_mono (R_far8 h.row (g := r) (fun k hk => (by omega : k ≠ r)) _ _ _ _ _ _ _ _) (fun k hk => (by omega : k ≠ b))) (Kd.R_nil _ _ _ _ _)
/-! ### several words wanted -/
theorem bind_two {α : Type} (en : Pos) (a c : ByteArray) (ws : List Wd) (f : List Wd → Rs α) : ((wantP en a.data.toList ws).bind fun _ w1 => (wantP en c.data.toList w1).bind fun _ w2 => f w2) = (wantsP en [a, c] ws).bind fun _ w2 => f w2 := by
  simp only [wantsP]
  cases wantP en a.data.toList ws with
  | bad _ _ => rfl
  | ok u w1 =>
    simp only [Rs.bind_ok]
    cases wantP en c.data.toList w1 <;> rfl
theorem bind_three {α : Type} (en : Pos) (a c d : ByteArray) (ws : List Wd) (f : List Wd → Rs α) : ((wantP en a.data.toList ws).bind fun _ w1 => (wantP en c.data.toList w1).bind fun _ w2 => (wantP en d.data.toList w2).bind fun _ w3 => f w3) = (wantsP en [a, c, d] ws).bind fun _ w3 => f w3 := by
  simp only [wantsP]
  cases wantP en a.data.toList ws with
  | bad _ _ => rfl
  | ok u w1 =>
    simp only [Rs.bind_ok]
    cases wantP en c.data.toList w1 with
    | bad _ _ => rfl
    | ok u w2 =>
      simp only [Rs.bind_ok]
      cases wantP en d.data.toList w2 <;> rfl
def tRap : ByteArray := ⟨#[41]⟩
def tRet : ByteArray := ⟨#[114, 101, 116, 117, 114, 110, 115]⟩
def tPar : ByteArray := ⟨#[40]⟩
def tSemi : ByteArray := ⟨#[59]⟩
theorem methodP_eq (en : Pos) (ws : List Wd) : methodP en ws = (wantP en wRpc ws).bind fun _ ws1 => (nameP en ws1).bind fun x ws2 => (wantP en kPar ws2).bind fun _ ws3 => (pathP en ws3).bind fun i ws4 => (wantsP en [tRap, tRet, tPar] ws4).bind fun _ ws7 => (pathP en ws7).bind fun o ws8 => .ok ⟨x.1, i, o, x.2⟩ ws8 := by
  simp only [← bind_three]; rfl
theorem servGo_eq (en : Pos) (n : Nat) (x : ByteArray × Pos) (l : List Me) (ws : List Wd) : servGo en (n + 1) x l ws = if haveB en kShut ws then .ok (.mk 3 x.1 x.2 [] [] l []) ws.tail else (methodP en ws).bind fun m ws1 => (wantsP en [tRap, tSemi] ws1).bind fun _ ws3 => servGo en n x (l ++ [m]) ws3 := by
  simp only [← bind_two]; rfl
theorem wantsP_len {en : Pos} : ∀ (l : List ByteArray) (ws ws1 : List Wd) (x : Unit), wantsP en l ws = .ok x ws1 → ws1.length ≤ ws.length
  | [], ws, ws1, x, h => by cases h; exact Nat.le_refl _
  | t :: l, ws, ws1, x, h => by
    simp only [wantsP] at h
    cases ht : wantP en t.data.toList ws with
    | bad e q => rw [ht] at h; cases h
    | ok u ws2 =>
      rw [ht, Rs.bind_ok] at h
      have h1 := wantP_len ht
      have h2 := wantsP_len l ws2 ws1 x h
      omega
theorem want_more {base b : Nat} {en : Pos} (ts : List ByteArray) {ws : List Wd} (n : Nat) (w : World) (hn : w.heap.size = n) (hts : ts.length ≤ 1000) (h : Got base b en ws w w) :
    Calls Tryd.prog 57 #[.pointer (some ⟨b, 0, none⟩), .slice (some ⟨n, 0, none⟩) ts.length ts.length] (w.alloc (.cells (ts.map Value.string).toArray 9)) fun e w' => Post base b en w unitV (wantsP en ts ws) e w' := by
  subst hn
  have hb := h.blt
  refine (want_calls ts (some ⟨w.heap.size, 0, none⟩) ts.length (w.alloc (.cells (ts.map Value.string).toArray 9)) (h.alloc _).here (C_lit w ts _ (by omega)) (fun ad e => by cases e; show w.heap.size ≠ b; omega)).mono ?_
  intro e w' hp
  cases hr : wantsP en ts ws with
  | bad er p => obtain ⟨he, hc⟩ := hp.bad hr; exact ⟨he, Ch.pre (below_alloc (Below.refl _ _) _) hc⟩
  | ok u ws1 => obtain ⟨v, he, hv, hg⟩ := hp.ok hr; exact ⟨v, he, hv, Got.pre (below_alloc (Below.refl _ _) _) hg⟩
theorem want_two {base b : Nat} {en : Pos} (t u : ByteArray) {ws : List Wd} (n : Nat) (w : World) (hn : w.heap.size = n) (h : Got base b en ws w w) :
    Calls Tryd.prog 57 #[.pointer (some ⟨b, 0, none⟩), .slice (some ⟨n, 0, none⟩) 2 2] (w.alloc (.cells #[.string t, .string u] 9)) fun e w' => Post base b en w unitV (wantsP en [t, u] ws) e w' := want_more [t, u] n w hn (by simp) h
theorem want_three {base b : Nat} {en : Pos} (t u v : ByteArray) {ws : List Wd} (n : Nat) (w : World) (hn : w.heap.size = n) (h : Got base b en ws w w) :
    Calls Tryd.prog 57 #[.pointer (some ⟨b, 0, none⟩), .slice (some ⟨n, 0, none⟩) 3 3] (w.alloc (.cells #[.string t, .string u, .string v] 9)) fun e w' => Post base b en w unitV (wantsP en [t, u, v] ws) e w' := want_more [t, u, v] n w hn (by simp) h
end Go.Proofs.YtfcpfbdlkanlpaaDoor
