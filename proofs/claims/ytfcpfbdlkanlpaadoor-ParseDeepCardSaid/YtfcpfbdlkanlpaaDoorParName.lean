/- The parser's name, deep, by contract. -/
import Derived.Test.YtfcpfbdlkanlpaaDoorParWant
import Derived.Test.YtfcpfbdlkanlpaaDoorIdent3
namespace Go.Proofs.YtfcpfbdlkanlpaaDoor
open Go.RowKit Go.Proofs.YtfcpfbdlkanlpaaDoorW.PrintWords Go.Proofs.YtfcpfbdlkanlpaaDoorW.PrintLast
set_option linter.unusedVariables false
set_option linter.unusedSimpArgs false

def nameV : ByteArray × Pos → Value → World → Prop := fun x u _ => u = .tuple #[.string x.1, .agg #[.int .i64 x.2.line, .int .i64 x.2.col]]
section
variable {base b : Nat} {en : Pos} {ws : List Wd} {w w1 w2 : World}
theorem Got.alloc (h : Got base b en ws w w1) (o : Obj) : Got base b en ws w (w1.alloc o) := h.below (below_alloc (Below.refl _ _) o)
theorem Got.drew (h : Got base b en ws w w1) : Got base b en ws w w1.drew := h.below (below_drew (Below.refl _ _))
theorem Got.far (h : Got base b en ws w w1) {p : Addr} (hp : w.heap.size ≤ p.block) (hb : b < w.heap.size) (u : Value) : Got base b en ws w (w1.setCell p u) := by
  obtain ⟨v, h1, c⟩ := h; exact ⟨v, h1.far (by omega) u, c.far hp u⟩
theorem Got.blt (h : Got base b en ws w w) : b < w.heap.size := h.lt
theorem Got.pre (h : Below w.heap.size w w1) (k : Got base b en ws w1 w2) : Got base b en ws w w2 := Got.then (Ch.of h _) k
end
set_option maxHeartbeats 1000000 in
set_option maxRecDepth 20000 in
theorem pname_got {base b : Nat} {en : Pos} {ws : List Wd} (w : World) (h : Got base b en ws w w) :
    Calls Tryd.prog 56 #[.pointer (some ⟨b, 0, none⟩)] w fun e w' => Post base b en w nameV (nameP en ws) e w' := by
  have hbl := h.blt
  have H := Aside0.mk ((h.alloc (.cells #[.int .i64 0, .int .i64 0] 41)).here)
  have H0 := Aside0.mk h
  clear h
  obtain ⟨ans, hans⟩ : ∃ a, a = nameP en ws := ⟨_, rfl⟩
  rw [← hans]
  unfold nameP at hans
  obtain ⟨x, hx⟩ : ∃ x, x = peekW en ws := ⟨_, rfl⟩
  rw [← hx] at hans
  have HX := Lib.hid hx
  clear hx
  by_cases hk : x.kind = 1
  · have hk1 : (x.kind != 1) = false := by rw [hk]; rfl
    cases hr : reservedB x.text.data.toList with
    | true =>
      rw [hr, if_neg (fun h => by cases h.2)] at hans
      have HA := Aside0.mk hans
      have HR := Lib.hid hr
      clear hans hr hk
      go_enter Tryd.func56, Tryd.ntmps56
      go_wp2_with (first
        | (go_at_call 28; refine (peek_got H.out).mono ?_; rintro e w1 ⟨rfl, hb⟩; rw [← HX.out]; have HB1 := Aside0.mk (below_then (below_alloc (Below.refl _ _) _) (by rw [World.size_alloc]; omega) hb); clear hb)
        | (go_at_call 76; refine (reserved_calls x.text _).mono ?_; rintro e w2 ⟨rfl, hb⟩; rw [HR.out]; have HB2 := Aside0.mk (below_then (below_alloc (Below.refl _ _) _) (by rw [World.size_alloc]; omega) hb); have bk := blk_below (blk_new w1 _) hb; obtain ⟨p0, p1, p2, p3⟩ := box4 bk; clear hb bk)
        | (go_at_call 33; refine (stop_calls _ 7 x.pos _).mono ?_; rintro e w3 ⟨rfl, hb⟩; have HB3 := Aside0.mk hb; clear hb; unfold flt))
      refine ⟨rfl, ?_⟩
      rw [HA.out]
      exact ⟨rfl, ((Ch.of HB1.out b).below HB2.out).below HB3.out⟩
    | false =>
      rw [hr, if_pos ⟨hk, rfl⟩] at hans
      have HA := Aside0.mk hans
      have HR := Lib.hid hr
      clear hans hr hk
      go_enter Tryd.func56, Tryd.ntmps56
      go_wp2_with (first
        | (go_at_call 28; refine (peek_got H.out).mono ?_; rintro e w1 ⟨rfl, hb⟩; rw [← HX.out]; have HB1 := Aside0.mk (below_then (below_alloc (Below.refl _ _) _) (by rw [World.size_alloc]; omega) hb); have bn := Aside0.mk (blk_below (blk_new w _) hb); clear hb)
        | (go_at_call 76; refine (reserved_calls x.text _).mono ?_; rintro e w2 ⟨rfl, hb⟩; rw [HR.out]; have HB2 := Aside0.mk (below_then (below_alloc (Below.refl _ _) _) (by rw [World.size_alloc]; omega) hb); have bk2 := Aside0.mk (blk_below (blk_new w1 _) hb); have bn2 := Aside0.mk (blk_below (blk_alloc bn.out _) hb); have HL2 := Aside0.mk ((H0.out.below (below_then HB1.out HB1.out.size HB2.out)).here); have hl1 := HB1.out.size; clear hb)
        | (go_at_call 54; refine (next_got HL2.out).mono ?_; rintro e w3 ⟨rfl, hg⟩; have HG3 := Aside0.mk (Got.pre (below_then HB1.out HB1.out.size HB2.out) hg); have bk3 := hg.ch.blk bk2.out (by omega); have bn3 := hg.ch.blk bn2.out (by omega); obtain ⟨p0, p1, p2, p3⟩ := box4 bk3; have n0 := blk_cell bn3 0; have n1 := blk_cell bn3 1; have q0 := blk_frozen bn3 0; have q1 := blk_frozen bn3 1; have BN := Aside0.mk bn3; clear hg bk3 bn3))
      go_region
      go_wp2_with fail
      refine bodyPost_ret (results_tc rfl _ _ w.heap.size _ _ _ _ rfl (put2 _ _ BN.out) Tryd.underlying41 rfl size_pos) rfl ?_
      rw [HA.out]
      exact ⟨_, rfl, rfl, ((HG3.out.far (p := ⟨w.heap.size, 0, none⟩) (Nat.le_refl _) hbl _).far (p := ⟨w.heap.size, 1, none⟩) (Nat.le_refl _) hbl _).drew⟩
  · have hk1 : (x.kind != 1) = true := by rw [bne_iff_ne]; exact hk
    rw [if_neg (fun h => hk h.1)] at hans
    have HA := Aside0.mk hans
    clear hans hk
    go_enter Tryd.func56, Tryd.ntmps56
    go_wp2_with (first
      | (go_at_call 28; refine (peek_got H.out).mono ?_; rintro e w1 ⟨rfl, hb⟩; rw [← HX.out]; have HB1 := Aside0.mk (below_then (below_alloc (Below.refl _ _) _) (by rw [World.size_alloc]; omega) hb); clear hb)
      | (go_at_call 33; refine (stop_calls _ 7 x.pos _).mono ?_; rintro e w3 ⟨rfl, hb⟩; have HB3 := Aside0.mk (below_then (below_alloc (Below.refl _ _) _) (by rw [World.size_alloc]; omega) hb); clear hb; unfold flt))
    refine ⟨rfl, ?_⟩
    rw [HA.out]
    exact ⟨rfl, (Ch.of HB1.out b).below HB3.out⟩
set_option maxHeartbeats 400000 in
theorem deep_bad (b : Nat) (depth : Nat) (p : Pos) (w : World) (hd : 8 < depth) :
    Calls Tryd.prog 55 #[.pointer (some ⟨b, 0, none⟩), .int .i64 depth, .agg #[.int .i64 p.line, .int .i64 p.col]] w fun e w' => e = flt 8 p ∧ Below w.heap.size w w' := by
  have hd1 : decide (8 < (depth : Int)) = true := decide_eq_true (by omega)
  clear hd
  go_enter Tryd.func55, Tryd.ntmps55
  go_wp2_with (go_at_call 33; refine (stop_calls _ 8 p _).mono ?_; rintro e w3 ⟨rfl, hb⟩; have HB3 := Aside0.mk (below_then (below_alloc (Below.refl _ _) _) (by rw [World.size_alloc]; omega) hb); clear hb; unfold flt)
  exact ⟨rfl, rfl, HB3.out⟩
set_option maxHeartbeats 400000 in
theorem deep_fine (b : Nat) (depth : Nat) (p : Pos) (w : World) (hd : depth ≤ 8) :
    Calls Tryd.prog 55 #[.pointer (some ⟨b, 0, none⟩), .int .i64 depth, .agg #[.int .i64 p.line, .int .i64 p.col]] w fun e w' => e = .returned (.tuple #[]) ∧ Below w.heap.size w w' := by
  have hd1 : decide (8 < (depth : Int)) = false := decide_eq_false (by omega)
  clear hd
  go_enter Tryd.func55, Tryd.ntmps55
  go_wp2_with fail
  go_end0
  exact ⟨rfl, below_alloc (Below.refl _ _) _⟩
end Go.Proofs.YtfcpfbdlkanlpaaDoor
