/- (*Finder).Find in no scope, by contract. -/
import Derived.Test.YtfcpfbdlkanlpaaDoorScopeIn
import Derived.Test.YtfcpfbdlkanlpaaDoorPath
import Derived.Laws.ResultCell
import Derived.Laws.Rows
namespace Go.Proofs.YtfcpfbdlkanlpaaDoor
open Go.RowKit Go.Maps Go.Proofs.YtfcpfbdlkanlpaaDoorW.PrintWords Go.Proofs.YtfcpfbdlkanlpaaDoorW.PrintLast
set_option linter.unusedVariables false
set_option linter.unusedSimpArgs false

theorem results_row_tmp {P : Program} {fn : Func} {p u : Tmp} {ty : TypeId} (h : fn.results = #[.cell p ty, .tmp u]) (tmps : Array Value) (w : World) (g : Nat) (t : TypeId) (cs : Array Value) (fr : Nat × Nat) (d : TypeDesc)
    (hp : tmps.getD p undef = .pointer (some ⟨g, 0, none⟩)) (hg : w.heap[g]? = some (.cells cs t fr))
    (hu : P.underlying ty = some d) (hd : (match d with | .struct _ | .array _ _ => true | _ => false) = true) (hi : (P.info? ty).map (·.size) = some cs.size) :
    (results fn tmps).run P w = .ok (.tuple #[.agg cs, tmps.getD u undef]) w := by
  rw [results_cell_tmp h]
  have hp' : tmps[p]?.getD undef = .pointer (some ⟨g, 0, none⟩) := by simpa using hp
  simp [asAddr, hp', run_loadVar_row w g t ty cs fr d hg hu hd hi, Result.andThen]
theorem put2 {w : World} {g : Nat} {t : TypeId} {a0 a1 : Value} (b0 b1 : Value) (h : w.heap[g]? = some (.cells #[a0, a1] t (0, 0))) : ((w.setCell ⟨g, 0, none⟩ b0).setCell ⟨g, 1, none⟩ b1).heap[g]? = some (.cells #[b0, b1] t (0, 0)) :=
  blk_put (blk_put (cs' := #[b0, a1]) h 0 b0 (by simp)) 1 b1 (by simp)
theorem size_sy : (Tryd.prog.info? 30).map (·.size) = some 2 := by kernel_rfl
theorem add_next (ad : Addr) (i : Nat) : ad.add (i + 1) = (⟨ad.block, ad.off + 1, none⟩ : Addr).add i := by
  unfold Addr.add
  by_cases h : i = 0
  · subst h; rfl
  · rw [if_neg (by omega), if_neg h]
    simp only [Addr.mk.injEq, true_and, and_true]
    omega
/-- What a path's NAMEs mean, one behind the other. -/
def goN (ks : List Sy) : ByteArray → Bool → List ByteArray → ByteArray × Bool
  | a, ok, [] => (a, ok)
  | a, ok, n :: l => if ok = true then goN ks (joinA a n) (kb (kindOf ks (joinA a n).data.toList)) l else goN ks a false l
theorem goN_snoc (ks : List Sy) (l : List ByteArray) (n : ByteArray) : ∀ (a : ByteArray) (ok : Bool), goN ks a ok (l ++ [n]) = if (goN ks a ok l).2 = true then (joinA (goN ks a ok l).1 n, kb (kindOf ks (joinA (goN ks a ok l).1 n).data.toList)) else ((goN ks a ok l).1, false) := by
  induction l with
  | nil =>
    intro a ok
    cases ok <;> simp [goN]
  | cons x l ih =>
    intro a ok
    simp only [List.cons_append, goN]
    split
    · exact ih _ _
    · exact ih _ _
/-- The whole road in no scope. -/
def goAll (ks : List Sy) : List ByteArray → ByteArray × Bool
  | [] => (⟨#[]⟩, false)
  | n :: l => goN ks n (kb (kindOf ks n.data.toList)) l
theorem goAll_eq {ks : List Sy} {ns : List ByteArray} {n0 : ByteArray} (h : ns[0]? = some n0) : goAll ks ns = goN ks n0 (kb (kindOf ks n0.data.toList)) (ns.drop 1) := by
  cases ns with
  | nil => simp at h
  | cons n l =>
    have e : n = n0 := by simpa using h
    subst e; rfl
theorem drop_get {α : Type} {l : List α} {i : Nat} {x : α} (h : l[i + 1]? = some x) : (l.drop 1)[i]? = some x := by rw [List.getElem?_drop, Nat.add_comm]; exact h
def FindSays (ks : List Sy) (path : ByteArray) (s : ByteArray) (k : Int) (b : Bool) : Prop :=
  (pathB path.data.toList = false ∧ s = ⟨#[]⟩ ∧ k = 0 ∧ b = false) ∨ ∃ ns, bytesL ns = pieces path.data.toList ∧ pathB path.data.toList = true ∧
    (((goAll ks ns).2 = false ∧ s = ⟨#[]⟩ ∧ k = 0 ∧ b = false) ∨ ((goAll ks ns).2 = true ∧ s = (goAll ks ns).1 ∧ k = kindOf ks (goAll ks ns).1.data.toList ∧ b = true))
def FindPost (ks : List Sy) (path : ByteArray) (w : World) (e : Ending) (w' : World) : Prop :=
  ∃ s k b, e = .returned (.tuple #[.agg #[.string s, .int .i64 k], .bool b]) ∧ FindSays ks path s k b ∧ Below w.heap.size w w'

set_option maxHeartbeats 4000000 in
set_option maxRecDepth 100000 in
theorem findm_calls (b g : Nat) (ks : List Sy) (path : ByteArray) (m : Int) (w : World) (hf : w.heap[g]? = some (.cells #[.map (some b)] 103 (0, 0))) (hm : Mp b ks w) (hs : path.size ≤ 1000000) (hml : w.cell? ⟨0, 0, none⟩ = some (.int .i64 m)) :
    Calls Tryd.prog 22 #[.pointer (some ⟨g, 0, none⟩), .string ⟨#[]⟩, .string path] w (FindPost ks path w) := by
  have hml2 : ∀ o, (w.alloc o).cell? ⟨0, 0, none⟩ = some (.int .i64 m) := fun o => pw_cell_below (below_alloc (Below.refl _ _) o) hml
  have HF := Lib.hid hf
  have HM := Lib.hid hm
  have HL := Lib.hid hml2
  clear hf hm hml hml2
  cases hp : pathB path.data.toList with
  | false =>
    have HP := Lib.hid hp
    clear hp
    go_enter Tryd.func22, Tryd.ntmps22
    go_wp2_with (go_at_call 45; refine (path_calls path m _ (by omega) (HL.out _)).mono ?_; rintro e w1 ⟨HB1, he⟩; rw [if_neg (by rw [HP.out]; simp)] at he; subst he; have HB := Aside0.mk (below_then (below_alloc (Below.refl _ _) _) (by simp) HB1); have bk := blk_below (blk_new w _) HB1; have c0 := blk_cell bk 0; have c1 := blk_cell bk 1; have g0 := blk_frozen bk 0; have g1 := blk_frozen bk 1; have BK := Aside0.mk bk; clear HB1 bk)
    refine bodyPost_ret (results_row_tmp rfl _ _ w.heap.size _ _ _ _ rfl (put2 _ _ BK.out) Tryd.underlying30 rfl size_sy) rfl ?_
    exact ⟨_, _, _, rfl, .inl ⟨HP.out, rfl, rfl, rfl⟩, below_set (below_set HB.out (Nat.le_refl _)) (Nat.le_refl _)⟩
  | true =>
    have HP := Lib.hid hp
    clear hp
    have hp8 : (pieces path.data.toList).length ≤ 8 := by have h := HP.out; unfold pathB at h; rw [Bool.and_eq_true] at h; exact of_decide_eq_true h.1
    have hp1 : 0 < (pieces path.data.toList).length := List.length_pos_iff.2 (pieces_ne _)
    go_enter Tryd.func22, Tryd.ntmps22
    go_wp2_with (first
      | (go_at_call 45; refine (path_calls path m _ (by omega) (HL.out _)).mono ?_; rintro e w1 ⟨HB1, he⟩; rw [if_pos HP.out] at he; obtain ⟨A, c, ns, hns, rfl, hC, hc, hsz⟩ := he; have hln : ns.length = (pieces path.data.toList).length := by {rw [← hns]; unfold bytesL; rw [List.length_map]}; obtain ⟨n0, ht0⟩ := get_of_lt (l := ns) (i := 0) (by omega); obtain ⟨ad, rfl, hn0⟩ := C_str hC ht0; rw [add_zero_] at hn0; have hz0 := hsz n0 (List.mem_of_getElem? ht0); have hln1 : 0 < ns.length := by {omega}; have hln8 : ns.length ≤ 8 := by {omega}; have HB := Aside0.mk (below_then (below_alloc (Below.refl _ _) _) (by simp) HB1); have bk := blk_below (blk_new w _) HB1; have HFx := Aside0.mk (blk_below HF.out HB.out); have HMx := Aside0.mk (HM.out.below HB.out); have c0 := blk_cell bk 0; have c1 := blk_cell bk 1; have g0 := blk_frozen bk 0; have g1 := blk_frozen bk 1; have BK := Aside0.mk bk; have HNS := Lib.hid hns; have HSZ := Lib.hid hsz; have HC := Lib.hid hC; have HT0 := Lib.hid ht0; clear HB1 bk hns hsz hC ht0 hln)
      | (go_at_call 46; refine (in_calls b g ks ⟨#[]⟩ n0 _ HFx.out HMx.out (by show 0 ≤ _; omega) (by omega)).mono ?_; rintro e w3 ⟨rfl, rfl⟩; rw [show joinA ⟨#[]⟩ n0 = n0 from rfl]; obtain ⟨ok0, hok0⟩ : ∃ b, b = kb (kindOf ks n0.data.toList) := ⟨_, rfl⟩; rw [← hok0]; have HOK := Lib.hid hok0; clear hok0))
    refine wp_loop_rounds 1 ?_
    rw [rounds_succ]
    obtain rfl | rfl : ok0 = true ∨ ok0 = false := by cases ok0 <;> simp
    all_goals (
      by_cases hc1 : c = 1
      case' pos => (have hl1 : ns.length ≤ 1 := by omega); subst hc1
      all_goals (
        go_wp2
        go_loop [9, 10, 66] (fun v9 v10 v66 => ∃ (i : Nat) (s : ByteArray) (ok : Bool), i + 1 ≤ ns.length ∧ v66 = .int .i64 i ∧ v9 = .bool ok ∧ v10 = .string s ∧ s.size ≤ 1000001 * (i + 1) ∧ Aside0 (goN ks n0 (kb (kindOf ks n0.data.toList)) ((ns.drop 1).take i) = (s, ok))) (fun _ _ v => ns.length - (intOf v).toNat)
        case atStart => exact ⟨0, _, _, by omega, rfl, rfl, rfl, by omega, ⟨by rw [← HOK.out]; rfl⟩⟩
        case round =>
          obtain ⟨i, s, ok, hi, rfl, rfl, rfl, hz, hG⟩ := hrel
          by_cases hlt : i + 1 < ns.length
          · first
            | (exfalso; omega)
            | (
              obtain ⟨x, hx⟩ := get_of_lt hlt
              obtain ⟨ad', e', hx0⟩ := C_str HC.out hx
              cases e'
              have hxz := HSZ.out x (List.mem_of_getElem? hx)
              have hx1 : w1.cell? ⟨ad.block, ad.off + 1 + i, none⟩ = some (.string x) := by
                rw [add_next, Addr.add_lit] at hx0
                exact hx0
              have HX := Lib.hid (drop_get hx)
              clear hx hx0
              have hjz := joinA_size s x
              cases ok with
              | true =>
                go_wp2_with (go_at_call 46; refine (in_calls b g ks s x _ HFx.out HMx.out (by omega) (by omega)).mono ?_; rintro e w3 ⟨rfl, rfl⟩)
                go_round
                case rel => exact ⟨i + 1, _, _, by omega, by go_num, rfl, rfl, by omega, ⟨by rw [take_step HX.out, goN_snoc, hG.out]; rfl⟩⟩
                case measure => simp [intOf]; omega
              | false =>
                go_wp2
                go_round
                case rel => exact ⟨i + 1, _, _, by omega, by go_num, rfl, rfl, by omega, ⟨by rw [take_step HX.out, goN_snoc, hG.out]; rfl⟩⟩
                case measure => simp [intOf]; omega)
          · have hall : goAll ks ns = (s, ok) := by
              rw [goAll_eq HT0.out]
              have h := hG.out
              rwa [take_all (by rw [List.length_drop]; omega)] at h
            have HA := Lib.hid hall
            clear hall
            cases ok with
            | false =>
              go_wp2
              refine bodyPost_ret (results_row_tmp rfl _ _ w.heap.size _ _ _ _ rfl (put2 _ _ BK.out) Tryd.underlying30 rfl size_sy) rfl ?_
              exact ⟨_, _, _, rfl, .inr ⟨ns, HNS.out, HP.out, .inl ⟨by rw [HA.out], rfl, rfl, rfl⟩⟩, below_set (below_set HB.out (Nat.le_refl _)) (Nat.le_refl _)⟩
            | true =>
              have hl := HMx.out.look (s := s) (by unfold maxLen; omega)
              have cf := cell_of_one HFx.out
              go_wp2
              refine bodyPost_ret (results_row_tmp rfl _ _ w.heap.size _ _ _ _ rfl (put2 _ _ BK.out) Tryd.underlying30 rfl size_sy) rfl ?_
              exact ⟨_, _, _, rfl, .inr ⟨ns, HNS.out, HP.out, .inr ⟨by rw [HA.out], by rw [HA.out], by rw [HA.out], rfl⟩⟩, below_set (below_set HB.out (Nat.le_refl _)) (Nat.le_refl _)⟩))
end Go.Proofs.YtfcpfbdlkanlpaaDoor
