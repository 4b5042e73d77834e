/- strings.ContainsRune over the signs, by contract: which runes are signs. -/
import Derived.Test.YtfcpfbdlkanlpaaDoorLexAt
import Derived.Test.YtfcpfbdlkanlpaaDoorShelfB
import Derived.Test.YtfcpfbdlkanlpaaDoorIdent
import Derived.Deep.RegionWith
import Derived.WalkSpells
import Derived.Lib.RuneBytes
import Derived.Laws.RangeAny
import Derived.Lib.OthersKept
namespace Go.Proofs.YtfcpfbdlkanlpaaDoor
open Go.RowKit Go.Proofs.YtfcpfbdlkanlpaaDoorW.PrintWords Go.Proofs.YtfcpfbdlkanlpaaDoorW.PrintLast
set_option linter.unusedVariables false
set_option linter.unusedSimpArgs false

def signs : ByteArray := ⟨#[123, 125, 40, 41, 61, 59, 46]⟩
theorem sign_fin : ∀ r : Fin 128, decide (0 ≤ Lib.indexByte signs.data.toList r.val.toUInt8) = signB (r.val : Int) := by decide +kernel
theorem signB_big {r : Int} (h : 128 ≤ r ∨ r < 0) : signB r = false := decide_eq_false (by omega)
theorem then_ret {n : Act → World → Prop} {Q : Exit → Act → World → Prop} {a : Act} {w : World} : Exit.then n Q .ret a w = Q .ret a w := rfl
theorem inBlock_ret {id : Nat} {Q : Exit → Act → World → Prop} {a : Act} {w : World} : Exit.inBlock id Q .ret a w = Q .ret a w := rfl
theorem signs_dec : ∀ p : Fin 7, (Utf8.decode signs p.val).1 < 128 ∧ (Utf8.decode signs p.val).2 = 1 := by decide +kernel
theorem valid_calls (r : Int) (b : Bool) (hb : Lib.validRune r = b) (w : World) : Calls Tryd.prog 115 #[.int .i32 r] w fun e w' => e = .returned (.bool b) ∧ w = w' :=
  (Tryd.utf8_ValidRune r w).mono fun e w' ⟨he, hw⟩ => ⟨by rw [he, hb], hw.symm⟩
set_option maxHeartbeats 400000 in
set_option maxRecDepth 100000 in
theorem index_none (r : Int) (w : World) (h : r = -1 ∨ 55296 ≤ r ∧ r ≤ 57343) : Calls Tryd.prog 100 #[.string signs, .int .i32 r] w fun e w' => e = .returned (.int .i64 (-1)) ∧ ∃ n, w' = w.drewN n := by
  have hv : Lib.validRune r = false := by unfold Lib.validRune; simp; omega
  have HV := Lib.hid hv
  clear hv
  rcases h with rfl | ⟨h, h'⟩
  · go_enter Tryd.func100, Tryd.ntmps100
    go_wp2_with (go_at_call 115; refine (valid_calls _ _ HV.out _).mono ?_; rintro e w' ⟨rfl, rfl⟩)
    go_ret
    exact ⟨rfl, 0, rfl⟩
  · have h0 : decide (r < 128) = false := decide_eq_false (by omega)
    have h1 : (r == 65533) = false := beq_eq_false_iff_ne.2 (by omega)
    have h2 : decide (0 ≤ r) = true := decide_eq_true (by omega)
    go_enter Tryd.func100, Tryd.ntmps100
    go_wp2_with (go_at_call 115; refine (valid_calls _ _ HV.out _).mono ?_; rintro e w' ⟨rfl, rfl⟩)
    go_ret
    exact ⟨rfl, 0, rfl⟩
theorem enc_big (r : Int) (h : 128 ≤ r) (h2 : r < 55296 ∨ 57343 < r) (h3 : r ≤ 1114111) : ∃ c : UInt8, 128 ≤ c.toNat ∧ ((∃ a, Utf8.encode r = ⟨#[a, c]⟩) ∨ (∃ a b, Utf8.encode r = ⟨#[a, b, c]⟩) ∨ (∃ a b d, Utf8.encode r = ⟨#[a, b, d, c]⟩)) := by
  have hv : Utf8.valid r = true := by unfold Utf8.valid; simp; omega
  refine ⟨UInt8.ofNat (0x80 + r.toNat % 64), by simp; omega, ?_⟩
  unfold Utf8.encode
  simp only [hv, if_true]
  rw [if_neg (by omega)]
  by_cases h4 : r.toNat < 0x800
  · rw [if_pos h4]; exact .inl ⟨_, rfl⟩
  · rw [if_neg h4]
    by_cases h5 : r.toNat < 0x10000
    · rw [if_pos h5]; exact .inr (.inl ⟨_, _, rfl⟩)
    · rw [if_neg h5]; exact .inr (.inr ⟨_, _, _, rfl⟩)
theorem index_no (c : UInt8) (hc : 128 ≤ c.toNat) (l : Bytes) (hl : l.all (fun x => decide (x.toNat < 128)) = true) : Lib.indexByte l c = -1 := by
  induction l with
  | nil => rfl
  | cons x l ih =>
    rw [List.all_cons, Bool.and_eq_true] at hl
    have hx := of_decide_eq_true hl.1
    have hne : (x == c) = false := beq_eq_false_iff_ne.2 (fun e => by rw [e] at hx; omega)
    unfold Lib.indexByte
    rw [hne, ih hl.2]; rfl
theorem ib_calls (s : ByteArray) (c : UInt8) (hc : 128 ≤ c.toNat) (hl : s.data.toList.all (fun x => decide (x.toNat < 128)) = true) (w : World) : Calls Tryd.prog 114 #[.string s, .int .u8 (c.toNat : Int)] w fun e w' => e = .returned (.int .i64 (-1)) ∧ w' = w :=
  (Tryd.strings_IndexByte s c.toNat w).mono fun e w' ⟨he, hw⟩ => ⟨by rw [he, show ((c.toNat : Int).toNat.toUInt8) = c from by simp, index_no c hc _ hl], hw⟩
theorem sl2 (W : World) : (Instr.slice 9 (.string signs) (some (.int .i64 2)) none none).run Tryd.prog W = .ok (.string ⟨#[40, 41, 61, 59, 46]⟩) W := by kernel_rfl
theorem sl3 (W : World) : (Instr.slice 9 (.string signs) (some (.int .i64 3)) none none).run Tryd.prog W = .ok (.string ⟨#[41, 61, 59, 46]⟩) W := by kernel_rfl
theorem sl4 (W : World) : (Instr.slice 9 (.string signs) (some (.int .i64 4)) none none).run Tryd.prog W = .ok (.string ⟨#[61, 59, 46]⟩) W := by kernel_rfl
set_option maxHeartbeats 400000 in
set_option maxRecDepth 100000 in
theorem index_big (r : Int) (w : World) (h : 128 ≤ r) (h1 : r ≠ 65533) (h2 : r < 55296 ∨ 57343 < r) (h3 : r ≤ 1114111) : Calls Tryd.prog 100 #[.string signs, .int .i32 r] w fun e w' => e = .returned (.int .i64 (-1)) ∧ ∃ n, w' = w.drewN n := by
  have hv : Lib.validRune r = true := by unfold Lib.validRune; simp; omega
  have HV := Lib.hid hv
  have g0 : decide (r < 128) = false := decide_eq_false (by omega)
  have g1 : (r == 65533) = false := beq_eq_false_iff_ne.2 (by omega)
  have g2 : decide (0 ≤ r) = true := decide_eq_true (by omega)
  clear hv
  obtain ⟨c, hc, he⟩ := enc_big r h h2 h3
  have q1 : ((125 : Int) != (c.toNat : Int)) = true := by rw [bne_iff_ne]; omega
  have q2 : ((40 : Int) != (c.toNat : Int)) = true := by rw [bne_iff_ne]; omega
  have q3 : ((41 : Int) != (c.toNat : Int)) = true := by rw [bne_iff_ne]; omega
  have hsz : signs.size = 7 := rfl
  have s2 := sl2
  have s3 := sl3
  have s4 := sl4
  rcases he with ⟨a, he⟩ | ⟨a, b, he⟩ | ⟨a, b, d, he⟩
  all_goals
    first
      | have qz : (((signs[3]'(by decide)).toNat : Int) != ((((⟨#[a, b, d, c]⟩ : ByteArray)[3]'(by show 3 < 4; decide)).toNat : Nat) : Int)) = true := q3
      | have qz : (((signs[2]'(by decide)).toNat : Int) != ((((⟨#[a, b, c]⟩ : ByteArray)[2]'(by show 2 < 3; decide)).toNat : Nat) : Int)) = true := q2
      | have qz : (((signs[1]'(by decide)).toNat : Int) != ((((⟨#[a, c]⟩ : ByteArray)[1]'(by show 1 < 2; decide)).toNat : Nat) : Int)) = true := q1
    go_enter Tryd.func100, Tryd.ntmps100
    go_wp2_with (go_at_call 115; refine (valid_calls _ _ HV.out _).mono ?_; rintro e w' ⟨rfl, rfl⟩)
    go_step3
    go_wp2_with fail
    refine wp_loop_rounds 1 ?_
    rw [rounds_succ]
    go_wp2_with fail
    go_step3
    go_wp2_with fail
    go_quiet (fail)
    go_wp2_with fail
    generalize hwq : w.drewN nq = wq
    have HWQ := Lib.hid hwq
    clear hwq
    go_quiet ((go_at_call 114; exact Calls.quiet_of_same (ib_calls _ c hc (by decide) _)))
    go_wp2_with fail
    simp only [then_ret, inBlock_ret, Exit.noGoto_ret]
    go_ret
    exact ⟨rfl, by obtain ⟨m, hm⟩ : ∃ m, wq = w.drewN m := ⟨_, HWQ.out.symm⟩; subst hm; exact ⟨_, World.drewN_drewN _ _ _⟩⟩
set_option maxHeartbeats 400000 in
set_option maxRecDepth 100000 in
theorem index_err (w : World) : Calls Tryd.prog 100 #[.string signs, .int .i32 65533] w fun e w' => e = .returned (.int .i64 (-1)) ∧ Below w.heap.size w w' := by
  have hsz : signs.size = 7 := rfl
  go_enter Tryd.func100, Tryd.ntmps100
  go_wp2_with fail
  go_loopw [] (fun wr => ∃ pos : Nat, wr = w.iter signs pos) (fun wr => 7 - wr.iterPos w.heap.size)
  case atStart => exact ⟨0, rfl⟩
  case round =>
    obtain ⟨pos, rfl⟩ := hrel
    by_cases hp : pos < signs.size
    · have hnx : ∀ ty, (Instr.next (.pointer (some ⟨w.heap.size, 0, none⟩)) true ty).run Tryd.prog (w.iter signs pos) = _ := fun ty => run_next_any w signs pos ty hp
      have hd := signs_dec ⟨pos, by omega⟩
      have hne : (((Utf8.decode signs pos).1 : Int) == 65533) = false := beq_eq_false_iff_ne.2 (by have := hd.1; simp only at this; omega)
      have hw := hd.2
      simp only at hw
      clear hd
      go_wp2_with fail
      go_roundw
      case rel => exact ⟨_, rfl⟩
      case measure => rw [World.iterPos_iter, World.iterPos_iter]; omega
    · have hnx : ∀ ty, (Instr.next (.pointer (some ⟨w.heap.size, 0, none⟩)) true ty).run Tryd.prog (w.iter signs pos) = _ := fun ty => run_next_end w signs pos ty hp
      go_wp2_with fail
      go_ret
      exact ⟨rfl, below_iter _ _ _⟩
set_option maxHeartbeats 400000 in
theorem contains_calls (r : Int) (w : World) (h0 : -1 ≤ r) (h3 : r ≤ 1114111) : Calls Tryd.prog 87 #[.string signs, .int .i32 r] w fun e w' => e = .returned (.bool (signB r)) ∧ Below w.heap.size w w' := by
  by_cases ha : 0 ≤ r ∧ r < 128
  · refine (Tryd.strings_ContainsRune_ascii signs r w ha.1 ha.2).mono fun e w' ⟨he, hw⟩ => ⟨?_, by rw [hw]; exact Below.refl _ _⟩
    obtain ⟨k, rfl⟩ := Int.eq_ofNat_of_zero_le ha.1
    have := sign_fin ⟨k, by omega⟩
    rw [he]; exact ret_bool this
  · rw [signB_big (by omega)]
    have hI : Calls Tryd.prog 100 #[.string signs, .int .i32 r] w fun e w' => e = .returned (.int .i64 (-1)) ∧ Below w.heap.size w w' := by
      by_cases hb : r = -1 ∨ 55296 ≤ r ∧ r ≤ 57343
      · exact (index_none r w hb).mono fun e w' ⟨he, n, hw⟩ => ⟨he, by rw [hw]; exact pw_below_drewN (Below.refl _ _) _⟩
      · by_cases hc : r = 65533
        · subst hc; exact index_err w
        · exact (index_big r w (by omega) hc (by omega) h3).mono fun e w' ⟨he, n, hw⟩ => ⟨he, by rw [hw]; exact pw_below_drewN (Below.refl _ _) _⟩
    have HI := Lib.hid hI
    clear hI
    go_enter Tryd.func87, Tryd.ntmps87
    go_wp2_with (go_at_call 100; refine HI.out.mono ?_; rintro e w' ⟨rfl, hb⟩)
    go_ret
    exact ⟨rfl, hb⟩
end Go.Proofs.YtfcpfbdlkanlpaaDoor
