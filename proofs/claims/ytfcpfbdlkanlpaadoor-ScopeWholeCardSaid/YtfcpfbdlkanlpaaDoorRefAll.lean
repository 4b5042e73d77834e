/- The document's list of all whole names (courierref05.All), by contract. -/
import Derived.Test.YtfcpfbdlkanlpaaDoorBase
namespace Go.Proofs.YtfcpfbdlkanlpaaDoor
open Go.RowKit Go.Proofs.YtfcpfbdlkanlpaaDoorW.PrintWords Go.Proofs.YtfcpfbdlkanlpaaDoorW.PrintLast
set_option linter.unusedVariables false
set_option linter.unusedSimpArgs false

theorem info_sy : (Tryd.prog.info? 29).map (fun i => (i.zero, i.size, i.bytes)) = some (some (.agg #[(.string ⟨#[]⟩), (.int .i64 0)]), 2, 24) := by kernel_rfl

set_option maxHeartbeats 1000000 in
set_option maxRecDepth 100000 in
theorem refall_calls (k : Nat) : ∀ (l : List De) (A : Option Addr) (c : Nat) (a : ByteArray) (w : World), nL l ≤ k → nL l ≤ 100000 → a.size + bL l ≤ 1000000 →
    kR.C w A l.length l → l.length ≤ c →
    Calls Tryd.prog 20 #[.slice A l.length c, .string a] w fun e w' => ∃ v, e = .returned v ∧ kSy.R 29 w' w.heap.size (fun _ => True) v (allL a l) ∧ Below w.heap.size w w' := by
  induction k using Nat.strongRecOn with
  | _ k ih =>
  intro l A c a w hk hn hb hC hc
  have HC := Lib.hid hC
  clear hC
  go_enter Tryd.func20, Tryd.ntmps20
  go_wp2
  go_loopw [5, 10] (fun v i wr => ∃ j : Nat, j ≤ l.length ∧ i = .int .i64 j ∧ Aside0 (kSy.R 29 wr w.heap.size (fun _ => True) v (allL a (l.take j))) ∧ Aside0 (Below w.heap.size w wr)) (fun _ i _ => l.length - (intOf i).toNat)
  case atStart => exact ⟨0, by omega, rfl, ⟨Kd.R_nil _ _ _ _ _⟩, ⟨Below.refl _ _⟩⟩
  case round =>
    obtain ⟨j, hj, rfl, hR, hB⟩ := hrel
    by_cases hlt : j < l.length
    · obtain ⟨x, hx⟩ := get_of_lt hlt
      obtain ⟨ad, A4, c4, A5, c5, A6, c6, A7, c7, rfl, hat, hang⟩ := C_de HC.out hx
      have hll := len_le_nL l
      have hgn := nL_get hx
      have hgb := bL_get hx
      have hxn := n_mk x
      have hxb := b_mk x
      have hlen := allL_len _ a (l.take j) (Nat.le_refl _)
      have hlen2 := allL_len _ (a ++ x.name ++ dot) x.inner (Nat.le_refl _)
      have hc1 : a.size + x.name.size ≤ 9223372036854775807 := by omega
      have hc2 : (a ++ x.name).size + 1 ≤ 9223372036854775807 := by rw [ByteArray.size_append]; omega
      obtain ⟨h0, h1, _, _, _, _, _, h7⟩ := hat.below hB.out
      go_wp2_with (first
        | ((with_reducible refine gate_bi (b := .append) (xs := #[.tmp 20, .tmp 28]) rfl ?_); at_builtin; refine Kd.R_append kSy (w0 := w) w.heap.size rfl (.tmp 20) (.tmp 28) 26 29 (.agg #[(.string ⟨#[]⟩), (.int .i64 0)]) 24 rfl Tryd.underlying26 info_sy rfl (by decide) (by decide) _ _ (⟨a ++ x.name, x.kind⟩ : Sy) [.string (a ++ x.name), .int .i64 x.kind] (fun _ => True) (fun _ => False) rfl rfl (kSy_mkM _ _ _ ⟨a ++ x.name, x.kind⟩) (fun _ hk => hk.elim) (fun _ _ => trivial) hR.out hB.out hB.out.size ?aL ?_; (case aL => omega); intro v1 w1 ho hb hg hat1; have hO1 := Aside0.mk ho; have hB1 := Aside0.mk hb; clear ho hb hg hat1; obtain ⟨h0, h1, _, _, _, _, _, h7⟩ := hat.below hB1.out)
        | (go_at_call 20; refine (ih (nL x.inner) (by omega) x.inner A7 c7 _ _ (Nat.le_refl _) (by omega) (by rw [ByteArray.size_append, ByteArray.size_append]; show a.size + x.name.size + 1 + _ ≤ _; omega) (Kd.C_below hang.g7 hB1.out) hang.l7).mono ?_; rintro e w2 ⟨v2, rfl, hR2, hB2⟩; obtain ⟨A2, c2, rfl, hl2, hC2⟩ := Kd.R_reads hR2; have hO2 := Aside0.mk (Kd.R_below hO1.out hB2); have hB3 := Aside0.mk (below_then hB1.out hB1.out.size hB2); have HC2 := Aside0.mk hC2; clear hR2 hC2)
        | ((with_reducible refine gate_bi (b := .append) (xs := #[.tmp 30, .tmp 38]) rfl ?_); at_builtin; refine Kd.R_append_rows kSy (w0 := w) w.heap.size rfl (.tmp 30) (.tmp 38) 26 29 (.agg #[(.string ⟨#[]⟩), (.int .i64 0)]) 24 rfl Tryd.underlying26 info_sy rfl (by decide) (by decide) _ _ _ _ _ _ (fun _ => True) (fun _ => False) rfl rfl hO2.out HC2.out (fun x cs h => by rw [kSy_open h]; exact kSy_mkM _ _ _ x) (fun _ hk => hk.elim) (fun _ _ => trivial) hB3.out hB3.out.size ?aM ?_; (case aM => rw [List.length_append, List.length_singleton, hlen]; change (_ + (allL (a ++ x.name ++ dot) x.inner).length) * _ ≤ _; rw [hlen2]; omega); intro v3 w3 ho hb hg hat1; have hO3 := Aside0.mk ho; have hB4 := Aside0.mk hb; clear ho hb hg hat1))
      go_roundw
      case rel => exact ⟨j + 1, by omega, by go_num, ⟨by rw [take_step hx, allL_append, allL_one, all_mk]; have h := hO3.out; rw [List.append_assoc] at h; exact h⟩, hB4⟩
      case measure => simp [intOf]; omega
    · go_wp2
      go_ret
      exact ⟨_, rfl, by rw [take_all (by omega)] at hR; exact hR.out, hB.out⟩
end Go.Proofs.YtfcpfbdlkanlpaaDoor
