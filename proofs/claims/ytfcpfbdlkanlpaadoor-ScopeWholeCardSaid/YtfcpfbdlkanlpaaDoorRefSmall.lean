/- courierref05.Small: whether it answers yes or no, it returns; where it answers yes, the declarations weigh at most 800 and lie at most 20 deep. -/
import Derived.Test.YtfcpfbdlkanlpaaDoorBase
namespace Go.Proofs.YtfcpfbdlkanlpaaDoor
open Go.RowKit Go.Proofs.YtfcpfbdlkanlpaaDoorW.PrintWords Go.Proofs.YtfcpfbdlkanlpaaDoorW.PrintLast
set_option linter.unusedVariables false
set_option linter.unusedSimpArgs false

def SmallPost (l : List De) (depth left : Int) (w : World) (e : Ending) (w' : World) : Prop :=
  ∃ r : Int, e = .returned (.int .i64 r) ∧ r ≤ 800 ∧ -10000000000000000 ≤ r ∧ (0 ≤ r → r + wtL l = left ∧ depth + dpL l ≤ 20) ∧ Below w.heap.size w w'

set_option maxHeartbeats 4000000 in
set_option maxRecDepth 100000 in
theorem small_calls (k : Nat) : ∀ (l : List De) (A : Option Addr) (c : Nat) (depth left : Int) (w : World), nL l ≤ k → okL l → l.length ≤ 140737488351232 → 0 ≤ depth → depth ≤ 21 → -10000000000000000 ≤ left → left ≤ 800 →
    kR.C w A l.length l → l.length ≤ c →
    Calls Tryd.prog 18 #[.slice A l.length c, .int .i64 depth, .int .i64 left] w (SmallPost l depth left w) := by
  induction k using Nat.strongRecOn with
  | _ k ih =>
  intro l A c depth left w hk hok hll hd0 hd1 hl0 hl1 hC hc
  have HC := Lib.hid hC
  clear hC
  by_cases hdeep : 20 < depth
  · go_enter Tryd.func18, Tryd.ntmps18
    go_wp2
    go_ret
    exact ⟨-1, rfl, by omega, by omega, by omega, Below.refl _ _⟩
  go_enter Tryd.func18, Tryd.ntmps18
  go_wp2
  go_loopw [2, 16] (fun v2 v16 wr => ∃ (j : Nat) (z : Int), j ≤ l.length ∧ v16 = .int .i64 j ∧ v2 = .int .i64 z ∧ z ≤ 800 ∧ -10000000000000000 ≤ z ∧ Aside0 (z + wtL (l.take j) = left ∧ (0 < j → 0 ≤ z ∧ depth + dpL (l.take j) ≤ 20)) ∧ Aside0 (Below w.heap.size w wr)) (fun _ i _ => l.length - (intOf i).toNat)
  case atStart => exact ⟨0, left, by omega, rfl, rfl, by omega, by omega, ⟨by simp [wtL], by omega⟩, ⟨Below.refl _ _⟩⟩
  case round =>
    obtain ⟨j, z, hj, rfl, rfl, hz1, hz0, hZ, hB⟩ := hrel
    by_cases hlt : j < l.length
    · obtain ⟨x, hx⟩ := get_of_lt hlt
      obtain ⟨ad, A4, c4, A5, c5, A6, c6, A7, c7, rfl, hat, hang⟩ := C_de HC.out hx
      have hxo := okL_get hok hx
      have hown := hxo.own
      have q1 := hown.name
      have q2 := hown.nf
      have q3 := hown.nv
      have q4 := hown.nm
      have q5 := hown.ni
      obtain ⟨h0, h1, h2, h3, h4, h5, h6, h7⟩ := hat.below hB.out
      by_cases hneg : z - 1 - x.fs.length - x.vs.length - x.ms.length - (x.name.size / 100 : Nat) < 0
      · go_wp2
        go_ret
        exact ⟨-1, rfl, by omega, by omega, by omega, below_alloc hB.out _⟩
      · have hBx := Aside0.mk (below_alloc hB.out (.cells #[.int .i64 x.kind, .string x.name, .int .i64 x.pos.line, .int .i64 x.pos.col, .slice A4 x.fs.length c4, .slice A5 x.vs.length c5, .slice A6 x.ms.length c6, .slice A7 x.inner.length c7] 61))
        go_wp2
        go_loopw [2, 47] (fun v2 v47 wq => ∃ (i : Nat) (y : Int), i ≤ x.fs.length ∧ v47 = .int .i64 i ∧ v2 = .int .i64 y ∧ y ≤ 800 ∧ -3000000000000 * (i : Int) ≤ y ∧ Aside0 (y + sumBy Fl.wt (x.fs.take i) = z - 1 - x.fs.length - x.vs.length - x.ms.length - (x.name.size / 100 : Nat)) ∧ Aside0 (Drawn0 (wr.alloc (.cells #[.int .i64 x.kind, .string x.name, .int .i64 x.pos.line, .int .i64 x.pos.col, .slice A4 x.fs.length c4, .slice A5 x.vs.length c5, .slice A6 x.ms.length c6, .slice A7 x.inner.length c7] 61)) wq)) (fun _ i _ => x.fs.length - (intOf i).toNat)
        case atStart => exact ⟨0, _, by omega, rfl, rfl, by omega, by omega, ⟨by simp [sumBy]⟩, ⟨Drawn0.refl _⟩⟩
        case round =>
          obtain ⟨i, y, hi, rfl, rfl, hy1, hy0, hY, hD⟩ := hrel
          obtain ⟨nq, rfl⟩ := hD.out
          by_cases hlt2 : i < x.fs.length
          · obtain ⟨f, hf⟩ := get_of_lt hlt2
            obtain ⟨ad4, rfl, _, f1, f2, _, _, _⟩ := C_fl (Kd.C_below hang.g4 hBx.out) hf
            have hfo := hown.f f (List.mem_of_getElem? hf)
            have qf1 := hfo.ty
            have qf2 := hfo.name
            go_wp2
            go_quiet (fail)
            go_wp2
            go_roundw
            case rel => exact ⟨i + 1, _, by omega, by go_num, rfl, by omega, by omega, ⟨by have := hY.out; rw [sumBy_step _ hf]; rw [Fl.wt_eq]; omega⟩, ⟨⟨_, rfl⟩⟩⟩
            case measure => simp [intOf]; omega
          · go_wp2
            go_loopw [2, 73] (fun v2 v73 wq => ∃ (i2 : Nat) (y2 : Int), i2 ≤ x.vs.length ∧ v73 = .int .i64 i2 ∧ v2 = .int .i64 y2 ∧ y2 ≤ 800 ∧ -3000000000000000 - 3000000000000 * (i2 : Int) ≤ y2 ∧ Aside0 (y2 + sumBy Va.wt (x.vs.take i2) = y) ∧ Aside0 (Drawn0 (wr.alloc (.cells #[.int .i64 x.kind, .string x.name, .int .i64 x.pos.line, .int .i64 x.pos.col, .slice A4 x.fs.length c4, .slice A5 x.vs.length c5, .slice A6 x.ms.length c6, .slice A7 x.inner.length c7] 61)) wq)) (fun _ i _ => x.vs.length - (intOf i).toNat)
            case atStart => exact ⟨0, _, by omega, rfl, rfl, by omega, by omega, ⟨by simp [sumBy]⟩, hD⟩
            case round =>
              obtain ⟨i2, y2, hi2, rfl, rfl, hy21, hy20, hY2, hD2⟩ := hrel
              obtain ⟨nq2, rfl⟩ := hD2.out
              by_cases hlt3 : i2 < x.vs.length
              · obtain ⟨f, hf⟩ := get_of_lt hlt3
                obtain ⟨ad5, rfl, f1, _, _, _⟩ := C_va (Kd.C_below hang.g5 hBx.out) hf
                have hfo := hown.v f (List.mem_of_getElem? hf)
                have qf1 := hfo.name
                go_wp2
                go_roundw
                case rel => exact ⟨i2 + 1, _, by omega, by go_num, rfl, by omega, by omega, ⟨by have := hY2.out; rw [sumBy_step _ hf]; rw [Va.wt_eq]; omega⟩, hD2⟩
                case measure => simp [intOf]; omega
              · go_wp2
                go_loopw [2, 90] (fun v2 v90 wq => ∃ (i3 : Nat) (y3 : Int), i3 ≤ x.ms.length ∧ v90 = .int .i64 i3 ∧ v2 = .int .i64 y3 ∧ y3 ≤ 800 ∧ -6000000000000000 - 5000000000000 * (i3 : Int) ≤ y3 ∧ Aside0 (y3 + sumBy Me.wt (x.ms.take i3) = y2) ∧ Aside0 (Drawn0 (wr.alloc (.cells #[.int .i64 x.kind, .string x.name, .int .i64 x.pos.line, .int .i64 x.pos.col, .slice A4 x.fs.length c4, .slice A5 x.vs.length c5, .slice A6 x.ms.length c6, .slice A7 x.inner.length c7] 61)) wq)) (fun _ i _ => x.ms.length - (intOf i).toNat)
                case atStart => exact ⟨0, _, by omega, rfl, rfl, by omega, by omega, ⟨by simp [sumBy]⟩, hD2⟩
                case round =>
                  obtain ⟨i3, y3, hi3, rfl, rfl, hy31, hy30, hY3, hD3⟩ := hrel
                  obtain ⟨nq3, rfl⟩ := hD3.out
                  by_cases hlt4 : i3 < x.ms.length
                  · obtain ⟨f, hf⟩ := get_of_lt hlt4
                    obtain ⟨ad6, rfl, f0, f1, f2, _, _⟩ := C_me (Kd.C_below hang.g6 hBx.out) hf
                    have hfo := hown.m f (List.mem_of_getElem? hf)
                    have qf1 := hfo.name
                    have qf2 := hfo.inp
                    have qf3 := hfo.out
                    go_wp2
                    go_quiet (fail)
                    go_wp2
                    go_roundw
                    case rel => exact ⟨i3 + 1, _, by omega, by go_num, rfl, by omega, by omega, ⟨by have := hY3.out; rw [sumBy_step _ hf]; rw [Me.wt_eq]; omega⟩, ⟨⟨_, rfl⟩⟩⟩
                    case measure => simp [intOf]; omega
                  · have hgn := nL_get hx
                    have hxn := n_mk x
                    have hB3 := Aside0.mk (pw_below_drewN hBx.out nq3)
                    go_wp2_with (go_at_call 18; refine (ih (nL x.inner) (by omega) x.inner A7 c7 (depth + 1) y3 _ (Nat.le_refl _) hxo.inner q5 (by omega) (by omega) (by omega) (by omega) (Kd.C_below hang.g7 hB3.out) hang.l7).mono ?_; rintro e w2 ⟨r, rfl, hr1, hr0, hr, hB4⟩; have hr' := Aside0.mk hr; clear hr)
                    · go_ret
                      exact ⟨-1, rfl, by omega, by omega, by omega, below_then hB3.out hB3.out.size hB4⟩
                    · have hrn : 0 ≤ r := by assumption
                      go_roundw
                      case rel =>
                        have e1 := hY.out
                        have e2 := hY2.out
                        have e3 := hY3.out
                        rw [take_all (by omega)] at e1 e2 e3
                        have e4 := hr'.out (by omega)
                        have e5 := hZ.out
                        have e6 := wt_mk x
                        have e7 := dp_mk x
                        unfold De.own_wt at e6
                        have e8 : depth + dpL (l.take (j + 1)) ≤ 20 := by
                          rw [dpL_step hx]
                          by_cases hj0 : 0 < j
                          · have := e5.2 hj0
                            omega
                          · obtain rfl : j = 0 := by omega
                            have e9 : dpL (l.take 0) = 0 := rfl
                            omega
                        exact ⟨j + 1, r, by omega, by go_num, rfl, by omega, by omega, ⟨by rw [wtL_step hx]; omega, fun _ => ⟨by omega, e8⟩⟩, ⟨below_then hB3.out hB3.out.size hB4⟩⟩
                      case measure => simp [intOf]; omega
    · go_wp2
      go_ret
      refine ⟨z, rfl, hz1, hz0, fun h => ?_, hB.out⟩
      have e5 := hZ.out
      rw [take_all (by omega)] at e5
      refine ⟨e5.1, ?_⟩
      by_cases hj0 : 0 < j
      · exact (e5.2 hj0).2
      · obtain rfl : l = [] := List.eq_nil_of_length_eq_zero (by omega)
        simp [dpL]; omega
end Go.Proofs.YtfcpfbdlkanlpaaDoor
