/- courierref03: Pieces, Path. -/
import Derived.Test.YtfcpfbdlkanlpaaDoorRef03b
import Derived.Test.YtfcpfbdlkanlpaaDoorPath
import Derived.RegionTactic
import Derived.Laws.DeepStrings4
import Derived.BigRegion
namespace Go.Proofs.YtfcpfbdlkanlpaaDoor
open Go.RowKit Go.Proofs.YtfcpfbdlkanlpaaDoorW.PrintWords Go.Proofs.YtfcpfbdlkanlpaaDoorW.PrintLast
set_option linter.unusedVariables false
set_option linter.unusedSimpArgs false

theorem pieces_dot (l : Bytes) : pieces (l ++ [46]) = pieces l ++ [[]] := by
  induction l with
  | nil => rfl
  | cons b l ih =>
    rw [List.cons_append]
    simp only [pieces]
    rw [ih]
    split
    · rfl
    · cases h : pieces l with
      | nil => exact absurd h (pieces_ne l)
      | cons p ps => rfl
theorem pieces_byte (l : Bytes) (b : UInt8) (hb : b ≠ 46) {ys : List Bytes} {z : Bytes} (h : pieces l = ys ++ [z]) : pieces (l ++ [b]) = ys ++ [z ++ [b]] := by
  induction l generalizing ys z with
  | nil =>
    simp only [pieces] at h
    have h1 : ys = [] ∧ z = [] := by
      cases ys with
      | nil => simpa using h.symm
      | cons y ys => simp at h
    obtain ⟨rfl, rfl⟩ := h1
    simp [pieces, hb]
  | cons c l ih =>
    rw [List.cons_append]
    simp only [pieces] at h ⊢
    by_cases hc : c = 46
    · rw [if_pos hc] at h ⊢
      cases ys with
      | nil =>
        have h2 : pieces l = [] := by simpa using congrArg List.tail h
        exact absurd h2 (pieces_ne l)
      | cons y ys =>
        rw [List.cons_append] at h
        injection h with h1 h2
        rw [ih h2, ← h1]; rfl
    · rw [if_neg hc] at h ⊢
      cases hp : pieces l with
      | nil => exact absurd hp (pieces_ne l)
      | cons p ps =>
        rw [hp] at h
        simp only at h
        cases ys with
        | nil =>
          rw [List.nil_append] at h
          injection h with h1 h2
          subst h2
          rw [ih (ys := []) (z := p) (by rw [hp]; rfl)]
          simp [← h1]
        | cons y ys =>
          rw [List.cons_append] at h
          injection h with h1 h2
          rw [ih (ys := p :: ys) (z := z) (by rw [hp, h2]; rfl)]
          simp [← h1]
theorem info_str : (Tryd.prog.info? 9).map (fun i => (i.zero, i.size, i.bytes)) = some (some (.string ⟨#[]⟩), 1, 16) := by kernel_rfl
theorem snoc_of_ne {α : Type} {l : List α} (h : l ≠ []) : ∃ ys z, l = ys ++ [z] := ⟨l.dropLast, l.getLast h, (List.dropLast_concat_getLast h).symm⟩

set_option maxHeartbeats 2000000 in
set_option maxRecDepth 100000 in
theorem rpieces_calls (s : ByteArray) (w : World) (hs : s.size ≤ 1000000) : Calls Tryd.prog 23 #[.string s] w fun e w' => ∃ v xs, e = .returned v ∧ bytesL xs = pieces s.data.toList ∧ Kd.string.R 9 w' w.heap.size (fun _ => True) v xs ∧ (∀ x ∈ xs, x.size ≤ s.size) ∧ Below w.heap.size w w' := by
  have hsl : s.data.toList.length = s.size := Array.length_toList
  have HSL := Lib.hid hsl
  clear hsl
  go_enter Tryd.func23, Tryd.ntmps23
  go_wp2
  go_loopw [3, 4] (fun v3 v4 wr => ∃ (i : Nat) (xs : List ByteArray), i ≤ s.size ∧ v4 = .int .i64 i ∧ xs.length ≤ i + 1 ∧ Aside0 (bytesL xs = pieces (s.data.toList.take i)) ∧ Aside0 (Kd.string.R 9 wr w.heap.size (fun _ => True) v3 xs) ∧ Aside0 (Below w.heap.size w wr)) (fun _ v _ => s.size - (intOf v).toNat)
  case atStart =>
    refine ⟨0, [⟨#[]⟩], by omega, rfl, by simp, ⟨rfl⟩, ⟨?_⟩, ⟨below_alloc (Below.refl _ _) _⟩⟩
    exact ⟨fun _ _ => trivial, OwnRow.lit w _ (Kd.reps_scalar ([⟨#[]⟩] : List ByteArray)) (Nat.le_refl _) (by simp)⟩
  case round =>
    obtain ⟨i, xs, hi, rfl, hxl, hP, hR, hB⟩ := hrel
    by_cases hlt : i < s.size
    · have hne : xs ≠ [] := fun e => by have := hP.out; rw [e] at this; exact pieces_ne _ this.symm
      obtain ⟨ys, z, rfl⟩ := snoc_of_ne hne
      by_cases hdot : s[i] = 46
      · have hb : ((s[i].toNat : Int) == 46) = true := by rw [hdot]; rfl
        have htk : Hid (bytesL (ys ++ [z] ++ [⟨#[]⟩]) = pieces (s.data.toList.take (i + 1))) := Lib.hid (by
          have h1 : s.data.toList.take (i + 1) = s.data.toList.take i ++ [46] := by rw [take_step (x := 46) (by rw [Lib.data_getElem? s i hlt, hdot])]
          rw [h1, pieces_dot, ← hP.out]; simp [bytesL])
        clear hdot
        go_wp2_with ((with_reducible refine gate_bi (b := .append) (xs := #[.tmp 16, .tmp 17]) rfl ?_); at_builtin; refine Kd.R_append Kd.string (w0 := w) w.heap.size rfl (.tmp 16) (.tmp 17) 35 9 (.string ⟨#[]⟩) 16 rfl Tryd.underlying35 info_str rfl (by decide) (by decide) _ _ (⟨#[]⟩ : ByteArray) [.string ⟨#[]⟩] (fun _ => True) (fun _ => False) rfl rfl rfl (fun _ hk => hk.elim) (fun _ _ => trivial) hR.out hB.out hB.out.size (by omega) ?_; intro v1 w1 ho hb hg hat1; have hO1 := Aside0.mk ho; have hB1 := Aside0.mk hb; clear ho hb hg hat1)
        go_roundw
        case rel => exact ⟨i + 1, _, by omega, by go_num, by rw [List.length_append, List.length_singleton]; omega, ⟨htk.out⟩, hO1, hB1⟩
        case measure => simp [intOf]; omega
      · have hb : ((s[i].toNat : Int) == 46) = false := beq_eq_false_iff_ne.2 (fun e => hdot (UInt8.toNat_inj.1 (by have : (46 : UInt8).toNat = 46 := rfl; omega)))
        have htk : Hid (bytesL (ys ++ [z ++ s.extract i (i + 1)]) = pieces (s.data.toList.take (i + 1))) := Lib.hid (by
          have h1 : s.data.toList.take (i + 1) = s.data.toList.take i ++ [s[i]] := by rw [take_step (x := s[i]) (Lib.data_getElem? s i hlt)]
          rw [h1, pieces_byte _ _ hdot (ys := bytesL ys) (z := z.data.toList) (by rw [← hP.out]; simp [bytesL])]
          simp only [bytesL, List.map_append, List.map_cons, List.map_nil, ByteArray.data_append, Array.toList_append, Lib.extract_data]
          rw [List.drop_eq_getElem_cons (show i < s.data.toList.length by have := HSL.out; omega), show i + 1 - i = 1 by omega]
          rfl)
        have hzl : z.size ≤ s.size := by
          have h1 := pieces_len (s.data.toList.take i) z.data.toList (by rw [← hP.out]; simp [bytesL])
          rw [List.length_take] at h1
          have h2 := HSL.out
          have h3 : z.data.toList.length = z.size := Array.length_toList
          omega
        have hzc : z.size + 1 ≤ 9223372036854775807 := by omega
        obtain ⟨inner, hown⟩ := Kd.R_own hR.out
        obtain ⟨g, cap, rfl, hgb, hgl⟩ := hown.form (by simp)
        have hlen1 : (ys ++ [z]).length = ys.length + 1 := by simp
        have hR2 := hR.out
        rw [hlen1] at hR2
        obtain ⟨hcell, hfr⟩ := Kd.R_celln (⟨#[]⟩ : ByteArray) hR2 (ys.length : Int) (by omega) (by omega)
        have hrd : rdOf (⟨#[]⟩ : ByteArray) (ys ++ [z]) (ys.length : Int) = z := by unfold rdOf; simp
        rw [hrd, show ((ys.length : Int)).toNat = ys.length from rfl] at hcell
        rw [show ((ys.length : Int)).toNat = ys.length from rfl] at hfr
        have hR3 := Aside0.mk hR2
        have hcut : ∀ wx : World, (Instr.slice 9 (.string s) (some (.int .i64 i)) (some (.int .i64 ((i : Int) + 1))) none).run Tryd.prog wx = .ok (.string (s.extract i (i + 1))) wx := fun wx => by
          rw [run_slice_string_if _ _ _ _ _ _ _ Tryd.underlying9, if_pos (by omega), if_pos (by omega)]
          rfl
        clear hdot hown hrd hR2 hR
        rw [hlen1] at hxl ⊢
        have HL1 := Lib.hid hlen1
        clear hlen1
        have hyl : (ys.length : Int) ≤ 1000000 := by omega
        have hw1 : IntKind.i64.wrap (ys.length : Int) = (ys.length : Int) := IntWalk.i64_in _ (by omega)
        have hw2 : wrap64 (ys.length : Int) = (ys.length : Int) := IntWalk.wrap64_in _ (by omega)
        go_wp2_with fail
        go_region
        all_goals go_wp2_with fail
        go_roundw
        case rel =>
          refine ⟨i + 1, _, by omega, by go_num, ?_, ⟨htk.out⟩, ⟨Kd.R_drew ?_⟩, ⟨(below_set hB.out hgb).drew⟩⟩
          · rw [List.length_append, List.length_singleton]; omega
          · have h1 := Kd.R_putn hR3.out (ys.length : Int) (z ++ s.extract i (i + 1))
            rw [show ((ys.length : Int)).toNat = ys.length from rfl] at h1
            rwa [show (ys ++ [z]).set ys.length (z ++ s.extract i (i + 1)) = ys ++ [z ++ s.extract i (i + 1)] by simp] at h1
        case measure => simp [intOf]; omega
    · go_wp2
      go_ret
      have hP' := hP.out
      rw [List.take_of_length_le (by have := HSL.out; omega)] at hP'
      refine ⟨_, xs, rfl, hP', hR.out, fun x hx => ?_, hB.out⟩
      have h1 := pieces_len s.data.toList x.data.toList (by rw [← hP']; exact List.mem_map_of_mem hx)
      have h2 := HSL.out
      have h3 : x.data.toList.length = x.size := Array.length_toList
      omega
end Go.Proofs.YtfcpfbdlkanlpaaDoor
