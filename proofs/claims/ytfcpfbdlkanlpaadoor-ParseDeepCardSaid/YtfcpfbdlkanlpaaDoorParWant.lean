/- The parser's want, by contract. -/
import Derived.Test.YtfcpfbdlkanlpaaDoorPar
namespace Go.Proofs.YtfcpfbdlkanlpaaDoor
open Go.RowKit Go.Proofs.YtfcpfbdlkanlpaaDoorW.PrintWords Go.Proofs.YtfcpfbdlkanlpaaDoorW.PrintLast
set_option linter.unusedVariables false
set_option linter.unusedSimpArgs false

/-- What a reader of words answers: a value and the words that are left, or a fault on its way up. -/
def Post {α : Type} (base b : Nat) (en : Pos) (w : World) (val : α → Value → World → Prop) : Rs α → Ending → World → Prop
  | .ok a ws, e, w' => ∃ u, e = .returned u ∧ val a u w' ∧ Got base b en ws w w'
  | .bad er p, e, w' => e = flt er p ∧ Ch b w w'
theorem Post.ok {α : Type} {base b : Nat} {en : Pos} {w w' : World} {val : α → Value → World → Prop} {r : Rs α} {e : Ending} (h : Post base b en w val r e w') {a : α} {ws : List Wd} (hr : r = .ok a ws) : ∃ u, e = .returned u ∧ val a u w' ∧ Got base b en ws w w' := by subst hr; exact h
theorem Post.bad {α : Type} {base b : Nat} {en : Pos} {w w' : World} {val : α → Value → World → Prop} {r : Rs α} {e : Ending} (h : Post base b en w val r e w') {er : Int} {p : Pos} (hr : r = .bad er p) : e = flt er p ∧ Ch b w w' := by subst hr; exact h
def unitV : Unit → Value → World → Prop := fun _ u _ => u = .tuple #[]
section
variable {base b : Nat} {en : Pos} {ws : List Wd} {w w1 w2 : World}
theorem Got.of {v : Value} (h : PrAt base b en v ws w) : Got base b en ws w w := ⟨v, h, Ch.refl _ _⟩
theorem Got.ch (h : Got base b en ws w w1) : Ch b w w1 := by obtain ⟨v, _, c⟩ := h; exact c
theorem Got.here (h : Got base b en ws w w1) : Got base b en ws w1 w1 := by obtain ⟨v, p, _⟩ := h; exact .of p
theorem Got.below (h : Got base b en ws w w1) (k : Below w1.heap.size w1 w2) : Got base b en ws w w2 := by obtain ⟨v, p, c⟩ := h; exact ⟨v, p.below k, c.below k⟩
theorem Got.then {ws2 : List Wd} (h : Ch b w w1) (k : Got base b en ws2 w1 w2) : Got base b en ws2 w w2 := by obtain ⟨v, p, c⟩ := k; exact ⟨v, p, h.trans c⟩
theorem Got.lt (h : Got base b en ws w w1) : b < w1.heap.size := by obtain ⟨v, p, _⟩ := h; exact p.lt
theorem Got.oks (h : Got base b en ws w w1) : ∀ x ∈ ws, x.ok := by obtain ⟨v, p, _⟩ := h; exact p.ok
theorem Ch.cell (h : Ch b w w1) {a : Addr} {v : Value} (hc : w.cell? a = some v) (hn : a.block ≠ b) : w1.cell? a = some v :=
  (World.cell?_of_block (h.g.block _ (World.block_lt_of_cell? _ _ hc) (fun e => hn (Option.some.inj e)))).trans hc
theorem Ch.blk (h : Ch b w w1) {g : Nat} {o : Obj} (hc : w.heap[g]? = some o) (hn : g ≠ b) : w1.heap[g]? = some o := blk_grown hc h.g (fun e => hn (Option.some.inj e))
theorem peek_got (h : Got base b en ws w w) : Calls Tryd.prog 28 #[.pointer (some ⟨b, 0, none⟩)] w fun e w' => e = .returned (.agg #[.int .i64 (peekW en ws).kind, .string (peekW en ws).text, .int .i64 (peekW en ws).pos.line, .int .i64 (peekW en ws).pos.col]) ∧ Below w.heap.size w w' := by
  obtain ⟨v, p, _⟩ := h; exact peek_calls w p
theorem next_got (h : Got base b en ws w w) : Calls Tryd.prog 54 #[.pointer (some ⟨b, 0, none⟩)] w fun e w' => e = .returned (.agg #[.int .i64 (peekW en ws).kind, .string (peekW en ws).text, .int .i64 (peekW en ws).pos.line, .int .i64 (peekW en ws).pos.col]) ∧ Got base b en ws.tail w w' := by
  obtain ⟨v, p, _⟩ := h; exact pnext_calls w p
theorem have_got (t : ByteArray) (l : Bytes) (ht : t.data.toList = l) (h : Got base b en ws w w) : Calls Tryd.prog 29 #[.pointer (some ⟨b, 0, none⟩), .string t] w fun e w' => e = .returned (.bool (haveB en l ws)) ∧ Got base b en (if haveB en l ws then ws.tail else ws) w w' := by
  obtain ⟨v, p, _⟩ := h; exact have_calls t l ht w p
end
def wantsP (en : Pos) : List ByteArray → List Wd → Rs Unit
  | [], ws => .ok () ws
  | t :: l, ws => (wantP en t.data.toList ws).bind fun _ ws1 => wantsP en l ws1
set_option maxHeartbeats 1000000 in
set_option maxRecDepth 20000 in
theorem want_calls {base b : Nat} {en : Pos} (ts : List ByteArray) (A : Option Addr) (c : Nat) {ws : List Wd} (w : World) (h : Got base b en ws w w) (hC : Kd.string.C w A ts.length ts) (hA : ∀ ad, A = some ad → ad.block ≠ b) :
    Calls Tryd.prog 57 #[.pointer (some ⟨b, 0, none⟩), .slice A ts.length c] w fun e w' => Post base b en w unitV (wantsP en ts ws) e w' := by
  have H := Aside0.mk h
  have HC := Lib.hid hC
  have HA := Lib.hid hA
  have hmx := Kd.C_max hC
  have hf2 := fld2
  clear h hC hA
  obtain ⟨ans, hans⟩ : ∃ a, a = wantsP en ts ws := ⟨_, rfl⟩
  rw [← hans]
  have HN := Lib.hid hans
  clear hans
  go_enter Tryd.func57, Tryd.ntmps57
  go_wp2_with fail
  go_loopw [8] (fun i wr => ∃ (j : Nat) (ws1 : List Wd), j ≤ ts.length ∧ i = .int .i64 j ∧ Aside0 (Got base b en ws1 w wr ∧ wantsP en (ts.drop j) ws1 = ans)) (fun i _ => ts.length - (intOf i).toNat)
  case atStart => exact ⟨0, ws, by omega, rfl, ⟨H.out, HN.out.symm⟩⟩
  case round =>
    obtain ⟨j, ws1, hj, rfl, hR⟩ := hrel
    have HG := Aside0.mk hR.out.1
    have HL := Aside0.mk hR.out.1.here
    have hw := hR.out.2
    clear hR
    by_cases hlt : j < ts.length
    · obtain ⟨t, ht⟩ := get_of_lt hlt
      obtain ⟨ad, rfl, d0⟩ := C_str HC.out ht
      have hab : (ad.add j).block ≠ b := by
        have h1 := HA.out ad rfl
        unfold Addr.add; split
        · exact h1
        · exact h1
      have d1 := HG.out.ch.cell d0 hab
      have hdr : ts.drop j = t :: ts.drop (j + 1) := by
        have h1 := List.drop_eq_getElem_cons hlt
        rw [h1]; congr 1
        rw [List.getElem?_eq_getElem hlt] at ht; exact Option.some.inj ht
      rw [hdr] at hw
      simp only [wantsP] at hw
      clear d0 hab hdr
      cases hh : haveB en t.data.toList ws1 with
      | true =>
        have hw2 : wantsP en (ts.drop (j + 1)) ws1.tail = ans := by unfold wantP at hw; rw [hh] at hw; exact hw
        have HW := Aside0.mk hw2
        have HH := Lib.hid hh
        clear hw hw2 hh ht
        go_wp2_with (go_at_call 29; refine (have_got t _ rfl HL.out).mono ?_; rintro e w1 ⟨rfl, hg⟩; rw [HH.out] at hg ⊢; have HG1 := Aside0.mk (Got.then HG.out.ch hg); clear hg)
        go_roundw
        case rel => exact ⟨j + 1, ws1.tail, by omega, by go_num, ⟨HG1.out, HW.out⟩⟩
        case measure => simp [intOf]; omega
      | false =>
        have hw2 : Rs.bad 7 (peekW en ws1).pos = ans := by unfold wantP at hw; rw [hh] at hw; exact hw
        have HW := Aside0.mk hw2
        have HH := Lib.hid hh
        clear hw hw2 hh ht
        go_wp2_with (first
          | (go_at_call 29; refine (have_got t _ rfl HL.out).mono ?_; rintro e w1 ⟨rfl, hg⟩; rw [HH.out] at hg ⊢; have HL1 := Aside0.mk hg.here; have HG1 := Aside0.mk (Got.then HG.out.ch hg); clear hg)
          | (go_at_call 28; refine (peek_got HL1.out).mono ?_; rintro e w2 ⟨rfl, hb⟩; have HB2 := Aside0.mk hb; clear hb)
          | (go_at_call 33; refine (stop_calls _ 7 (peekW en ws1).pos _).mono ?_; rintro e w3 ⟨rfl, hb⟩; have HB3 := Aside0.mk hb; clear hb; unfold flt))
        refine ⟨rfl, ?_⟩
        rw [← HW.out]
        exact ⟨rfl, (HG1.out.ch.below HB2.out).below HB3.out⟩
    · have HWW := Aside0.mk hw
      clear hw
      go_wp2_with fail
      go_end0
      rw [← HWW.out, List.drop_eq_nil_of_le (by omega)]
      exact ⟨_, rfl, rfl, HG.out⟩
end Go.Proofs.YtfcpfbdlkanlpaaDoor
