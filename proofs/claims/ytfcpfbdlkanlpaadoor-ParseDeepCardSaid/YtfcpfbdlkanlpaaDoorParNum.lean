/- The parser's number, by contract. -/
import Derived.Test.YtfcpfbdlkanlpaaDoorParName
import Derived.Test.YtfcpfbdlkanlpaaDoorShelfC
namespace Go.Proofs.YtfcpfbdlkanlpaaDoor
open Go.RowKit Go.Proofs.YtfcpfbdlkanlpaaDoorW.PrintWords Go.Proofs.YtfcpfbdlkanlpaaDoorW.PrintLast
set_option linter.unusedVariables false
set_option linter.unusedSimpArgs false

theorem parse10 (t : Bytes) : ∀ a : Nat, t.all digB = true → numFrom a t ≤ 2147483647 → Lib.parseUint10 a t = .ok (numFrom a t) := by
  induction t with
  | nil => intro a _ _; rw [numFrom_nil]; rfl
  | cons c t ih =>
    intro a hd hn
    rw [numFrom_cons] at hn ⊢
    rw [List.all_cons, Bool.and_eq_true] at hd
    have hc := of_decide_eq_true hd.1
    have hge := numFrom_ge t (a * 10 + digV c)
    have h1 := ih _ hd.2 hn
    unfold Lib.parseUint10
    rw [if_pos hc, if_neg (by omega), ← digV_eq, if_neg (by omega)]
    exact h1
theorem atoi_num {t : Bytes} (h : numB t = true) : Lib.atoiAll t = .ok (numVal t : Nat) := by
  unfold numB at h
  rw [Bool.and_eq_true, Bool.and_eq_true, Bool.and_eq_true] at h
  obtain ⟨⟨⟨h1, h2⟩, h3⟩, h4⟩ := h
  have h4' := of_decide_eq_true h4
  have hp := parse10 t 0 h1 h4'
  rcases t with _ | ⟨c, r⟩
  · exact absurd (of_decide_eq_true h2) (by simp)
  · rw [List.all_cons, Bool.and_eq_true] at h1
    have hc := of_decide_eq_true h1.1
    have e43 : ¬ c.toNat = 43 := by omega
    have e45 : ¬ c.toNat = 45 := by omega
    have hm : Lib.parseMag (c :: r) = .ok (numVal (c :: r)) := by unfold Lib.parseMag; rw [if_neg (by simp)]; exact hp
    unfold Lib.atoiAll
    simp only [e43, e45, or_self, not_false_eq_true, true_and, false_and, if_false]
    rw [hm]
    show (if 9223372036854775808 ≤ numVal (c :: r) then _ else _) = _
    rw [if_neg (by omega)]
def intV : Int → Value → World → Prop := fun k u _ => u = .int .i64 k
theorem peek_mem {en : Pos} {ws : List Wd} (h : (peekW en ws).kind ≠ 0) : peekW en ws ∈ ws := by
  rcases ws with _ | ⟨x, ws⟩
  · exact absurd rfl h
  · exact List.mem_cons_self ..
theorem atoi_ok (t : ByteArray) (hz : t.size ≤ 100000) (v : Int) (h : Lib.atoiAll t.data.toList = .ok v) (w : World) : Calls Tryd.prog 79 #[.string t] w fun e w' => e = .returned (.tuple #[.int .i64 v, .nilIface]) ∧ Below w.heap.size w w' :=
  (Tryd.strconv_Atoi_ok t (by omega) v h w).mono fun e w' ⟨he, hw⟩ => ⟨he, by rcases hw with rfl | ⟨s, rfl⟩; exact Below.refl _ _; exact below_bytes _ _ _⟩
set_option maxHeartbeats 1000000 in
set_option maxRecDepth 20000 in
theorem number_got {base b : Nat} {en : Pos} {ws : List Wd} (w : World) (h : Got base b en ws w w) :
    Calls Tryd.prog 59 #[.pointer (some ⟨b, 0, none⟩)] w fun e w' => Post base b en w intV (numberP en ws) e w' := by
  have H := Aside0.mk h
  obtain ⟨ans, hans⟩ : ∃ a, a = numberP en ws := ⟨_, rfl⟩
  rw [← hans]
  unfold numberP at hans
  have hoks := h.oks
  clear h
  by_cases hk : (peekW en ws).kind = 2
  · have hok := hoks _ (peek_mem (by rw [hk]; decide))
    have hnum := hok.n hk
    have hz := hok.z
    rw [if_pos hk] at hans
    obtain ⟨x, hx⟩ : ∃ x, x = peekW en ws := ⟨_, rfl⟩
    rw [← hx] at hans hnum hk hz
    have HX := Lib.hid hx
    have HA := Aside0.mk hans
    have hk2 : (x.kind != 2) = false := by rw [hk]; rfl
    have HV := Aside0.mk (atoi_num hnum)
    clear hans hoks hok hnum hk hx
    go_enter Tryd.func59, Tryd.ntmps59
    go_wp2_with (first
      | (go_at_call 28; refine (peek_got H.out).mono ?_; rintro e w1 ⟨rfl, hb⟩; rw [← HX.out]; have HB1 := Aside0.mk hb; have HL1 := Aside0.mk (((H.out.below hb).alloc (.cells #[.int .i64 x.kind, .string x.text, .int .i64 x.pos.line, .int .i64 x.pos.col] 86)).here); have bk := blk_new w1 (.cells #[.int .i64 x.kind, .string x.text, .int .i64 x.pos.line, .int .i64 x.pos.col] 86); have hlt := hb.size; have hbl := H.out.blt; clear hb)
      | (go_at_call 54; refine (next_got HL1.out).mono ?_; rintro e w3 ⟨rfl, hg⟩; have HG3 := Aside0.mk (Got.pre (below_alloc HB1.out _) hg); have bk3 := hg.ch.blk bk (by omega); obtain ⟨p0, p1, p2, p3⟩ := box4 bk3; clear hg bk3)
      | (go_at_call 79; refine (atoi_ok x.text hz _ HV.out _).mono ?_; rintro e w4 ⟨rfl, hb⟩; have HG4 := Aside0.mk (HG3.out.below hb); clear hb))
    go_ret
    rw [HA.out]
    exact ⟨_, rfl, rfl, HG4.out⟩
  · rw [if_neg hk] at hans
    obtain ⟨x, hx⟩ : ∃ x, x = peekW en ws := ⟨_, rfl⟩
    rw [← hx] at hans hk
    have HX := Lib.hid hx
    have HA := Aside0.mk hans
    have hk2 : (x.kind != 2) = true := by rw [bne_iff_ne]; exact hk
    clear hans hoks hk hx
    go_enter Tryd.func59, Tryd.ntmps59
    go_wp2_with (first
      | (go_at_call 28; refine (peek_got H.out).mono ?_; rintro e w1 ⟨rfl, hb⟩; rw [← HX.out]; have HB1 := Aside0.mk hb; clear hb)
      | (go_at_call 33; refine (stop_calls _ 7 x.pos _).mono ?_; rintro e w3 ⟨rfl, hb⟩; have HB3 := Aside0.mk (below_then (below_alloc (Below.refl _ _) _) (by rw [World.size_alloc]; omega) hb); clear hb; unfold flt))
    refine ⟨rfl, ?_⟩
    rw [HA.out]
    exact ⟨rfl, (Ch.of HB1.out b).below HB3.out⟩
end Go.Proofs.YtfcpfbdlkanlpaaDoor
