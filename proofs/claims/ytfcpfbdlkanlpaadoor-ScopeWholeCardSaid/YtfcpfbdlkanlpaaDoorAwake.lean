/- courierlaw07.awake: it answers yes. -/
import Derived.Test.YtfcpfbdlkanlpaaDoorScopeFind2
namespace Go.Proofs.YtfcpfbdlkanlpaaDoor
open Go.RowKit Go.Maps Go.Proofs.YtfcpfbdlkanlpaaDoorW.PrintWords Go.Proofs.YtfcpfbdlkanlpaaDoorW.PrintLast
set_option linter.unusedVariables false
set_option linter.unusedSimpArgs false

/-- One declaration in a block of its own, as a row. -/
theorem C_one {w : World} {g : Nat} (x : De) {A7 : Option Addr} {c7 : Nat} (hf : x.fs = []) (hv : x.vs = []) (hm : x.ms = []) (h7 : kP.C w A7 x.inner.length x.inner) (hc : x.inner.length ≤ c7)
    (h : w.heap[g]? = some (.cells #[.int .i64 x.kind, .string x.name, .int .i64 x.pos.line, .int .i64 x.pos.col, .slice none 0 0, .slice none 0 0, .slice none 0 0, .slice A7 x.inner.length c7] 49 (0, 0))) :
    kP.C w (some ⟨g, 0, none⟩) 1 [x] := by
  refine ⟨rfl, by omega, fun _ => ⟨_, rfl, fun j p hj => ?_⟩⟩
  have hj0 : j = 0 := by
    have := (List.getElem?_eq_some_iff.1 hj).1
    simp at this; omega
  subst hj0
  have hp : p = x := by simpa using hj.symm
  subst hp
  have hK := kDe_mk (eD := 49) (eF := 67) (eV := 70) (eM := 73) w p (A4 := none) (c4 := 0) (by rw [hf]; exact Nat.le_refl _) (by rw [hf]; exact Kd.C_nil _ _) (A5 := none) (c5 := 0) (by rw [hv]; exact Nat.le_refl _) (by rw [hv]; exact Kd.C_nil _ _) (A6 := none) (c6 := 0) (by rw [hm]; exact Nat.le_refl _) (by rw [hm]; exact Kd.C_nil _ _) hc h7
  rw [hf, hv, hm] at hK
  refine ⟨_, rfl, hK, fun i u hu => ?_⟩
  rw [add_plain, blk_cell h]
  rw [show 0 * kP.sz + i = i from by omega, ← hu]
  exact (List.getElem?_toArray ..).symm ▸ rfl
def awB : De := .mk 1 ⟨#[66]⟩ pos0 [] [] [] []
def awA : De := .mk 1 ⟨#[65]⟩ pos0 [] [] [] [awB]
def awK : List Sy := [⟨⟨#[65]⟩, 1⟩, ⟨⟨#[65, 46, 66]⟩, 1⟩]
theorem aw_ns {ns : List ByteArray} (h : bytesL ns = pieces (⟨#[66]⟩ : ByteArray).data.toList) : ns = [⟨#[66]⟩] := by
  have h' : bytesL ns = [[66]] := h
  unfold bytesL at h'
  obtain ⟨s, rfl, hs⟩ := List.map_eq_singleton_iff.1 h'
  rw [str_eq hs]
theorem aw_all : awK = allL ⟨#[]⟩ [awA] := by
  show _ = De.all ⟨#[]⟩ awA ++ []
  rw [List.append_nil, all_mk]
  show _ = _ :: (De.all _ awB ++ [])
  rw [List.append_nil, all_mk]
  rfl

set_option maxHeartbeats 1000000 in
set_option maxRecDepth 100000 in
theorem findm_aw (b g : Nat) (ks : List Sy) (m : Int) (w : World) (hks : kindOf ks [65] = 1 ∧ kindOf ks [65, 46, 66] = 1) (hf : w.heap[g]? = some (.cells #[.map (some b)] 103 (0, 0))) (hm : Mp b ks w) (hml : w.cell? ⟨0, 0, none⟩ = some (.int .i64 m)) :
    Calls Tryd.prog 22 #[.pointer (some ⟨g, 0, none⟩), .string ⟨#[65]⟩, .string ⟨#[66]⟩] w fun e w' => e = .returned (.tuple #[.agg #[.string ⟨#[65, 46, 66]⟩, .int .i64 1], .bool true]) ∧ Below w.heap.size w w' := by
  have hml2 : ∀ o, (w.alloc o).cell? ⟨0, 0, none⟩ = some (.int .i64 m) := fun o => pw_cell_below (below_alloc (Below.refl _ _) o) hml
  have HF := Lib.hid hf
  have HM := Lib.hid hm
  have HL := Lib.hid hml2
  have HK := Lib.hid hks
  clear hf hm hml hml2 hks
  have HP : Hid (pathB (⟨#[66]⟩ : ByteArray).data.toList = true) := Lib.hid (by decide)
  go_enter Tryd.func22, Tryd.ntmps22
  go_wp2_with (first
    | (go_at_call 45; refine (path_calls ⟨#[66]⟩ m _ (by decide) (HL.out _)).mono ?_; rintro e w1 ⟨HB1, he⟩; rw [if_pos HP.out] at he; obtain ⟨A, c, ns, hns, rfl, hC, hc, hsz⟩ := he; obtain rfl := aw_ns hns; obtain ⟨ad, rfl, hn0⟩ := C_str hC (i := 0) rfl; rw [add_zero_] at hn0; have HB := Aside0.mk (below_then (below_alloc (Below.refl _ _) _) (by simp) HB1); have bk := blk_below (blk_new w _) HB1; have HFx := Aside0.mk (blk_below HF.out HB.out); have HMx := Aside0.mk (HM.out.below HB.out); have cf := cell_of_one HFx.out; have hl1 := HMx.out.look (s := ⟨#[65]⟩) (by decide); have hl2 := HMx.out.look (s := ⟨#[65, 46, 66]⟩) (by decide); rw [show kindOf ks (⟨#[65]⟩ : ByteArray).data.toList = 1 from HK.out.1] at hl1; rw [show kindOf ks (⟨#[65, 46, 66]⟩ : ByteArray).data.toList = 1 from HK.out.2] at hl2; have c0 := blk_cell bk 0; have c1 := blk_cell bk 1; have g0 := blk_frozen bk 0; have g1 := blk_frozen bk 1; have BK := Aside0.mk bk; clear HB1 bk hns hsz hC)
    | (go_at_call 46; refine (in_calls b g ks ⟨#[65]⟩ ⟨#[66]⟩ _ HFx.out HMx.out (by decide) (by decide)).mono ?_; rintro e w3 ⟨rfl, rfl⟩; rw [show joinA ⟨#[65]⟩ ⟨#[66]⟩ = ⟨#[65, 46, 66]⟩ from rfl, show kb (kindOf ks (⟨#[65, 46, 66]⟩ : ByteArray).data.toList) = true from by rw [show kindOf ks (⟨#[65, 46, 66]⟩ : ByteArray).data.toList = 1 from HK.out.2]; rfl]))
  refine wp_loop_rounds 1 ?_
  rw [rounds_succ]
  by_cases hc1 : c = 1
  case' pos => subst hc1
  all_goals (
    go_wp2
    refine wp_loop_rounds 1 ?_
    rw [rounds_succ]
    go_wp2
    refine bodyPost_ret (results_row_tmp rfl _ _ w.heap.size _ _ _ _ rfl (put2 _ _ BK.out) Tryd.underlying30 rfl size_sy) rfl ?_
    exact ⟨rfl, below_set (below_set HB.out (Nat.le_refl _)) (Nat.le_refl _)⟩)
end Go.Proofs.YtfcpfbdlkanlpaaDoor
