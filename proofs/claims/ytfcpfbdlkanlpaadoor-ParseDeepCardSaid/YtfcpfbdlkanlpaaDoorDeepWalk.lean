/- Messages in one another, whatever letter. No program in sight. ParseDeep answers yes. -/
import Derived.Test.YtfcpfbdlkanlpaaDoorDeepA
import Derived.Test.YtfcpfbdlkanlpaaDoorDeepB
import Derived.Test.YtfcpfbdlkanlpaaDoorAwakeP
import Derived.IntWalk
namespace Go.Proofs.YtfcpfbdlkanlpaaDoor
theorem deep_all121 : deepAll 121 2 = true := by kernel_rfl
/-- Messages that lie in one another, up to twelve, are read as they should be. -/
theorem deep_ok (k c : Nat) (hk : k < 12) (hc : c < 26) : deepOk (k + 1) (97 + c) = true := by
  by_cases h1 : c < 4
  · exact deepAll_at deep_all97 h1 hk
  · by_cases h2 : c < 8
    · have := deepAll_at deep_all101 (show c - 4 < 4 by omega) hk
      rwa [show 101 + (c - 4) = 97 + c by omega] at this
    · by_cases h3 : c < 12
      · have := deepAll_at deep_all105 (show c - 8 < 4 by omega) hk
        rwa [show 105 + (c - 8) = 97 + c by omega] at this
      · by_cases h4 : c < 16
        · have := deepAll_at deep_all109 (show c - 12 < 4 by omega) hk
          rwa [show 109 + (c - 12) = 97 + c by omega] at this
        · by_cases h5 : c < 20
          · have := deepAll_at deep_all113 (show c - 16 < 4 by omega) hk
            rwa [show 113 + (c - 16) = 97 + c by omega] at this
          · by_cases h6 : c < 24
            · have := deepAll_at deep_all117 (show c - 20 < 4 by omega) hk
              rwa [show 117 + (c - 20) = 97 + c by omega] at this
            · have := deepAll_at deep_all121 (show c - 24 < 2 by omega) hk
              rwa [show 121 + (c - 24) = 97 + c by omega] at this
end Go.Proofs.YtfcpfbdlkanlpaaDoor

namespace Go.Proofs.YtfcpfbdlkanlpaaDoor
open Go.RowKit Go.Proofs.YtfcpfbdlkanlpaaDoorW.PrintWords Go.Proofs.YtfcpfbdlkanlpaaDoorW.PrintLast
set_option linter.unusedVariables false
set_option linter.unusedSimpArgs false

def openS (j : Nat) (c : UInt8) : ByteArray := ⟨((List.replicate j [109, 101, 115, 115, 97, 103, 101, 32, c, 32, 123, 32]).flatten).toArray⟩
def shutS (j : Nat) : ByteArray := ⟨(List.replicate j 125).toArray⟩
theorem bytes_ext {a b : ByteArray} (h : a.data.toList = b.data.toList) : a = b := ByteArray.ext (Array.toList_inj.1 h)
theorem data_append (a b : ByteArray) : (a ++ b).data.toList = a.data.toList ++ b.data.toList := by
  rw [ByteArray.data_append, Array.toList_append]
theorem openS_succ (j : Nat) (c : UInt8) : openS j c ++ ⟨#[109, 101, 115, 115, 97, 103, 101, 32]⟩ ++ ⟨#[c]⟩ ++ ⟨#[32, 123, 32]⟩ = openS (j + 1) c := by
  apply bytes_ext
  rw [data_append, data_append, data_append]
  simp [openS, List.replicate_succ', deepOpen]
theorem shutS_succ (j : Nat) : shutS j ++ ⟨#[125]⟩ = shutS (j + 1) := by
  apply bytes_ext
  rw [data_append]
  simp [shutS, List.replicate_succ']
theorem deep_text (k c : Nat) : openS k (UInt8.ofNat c) ++ shutS k = ⟨(deepB k c).toArray⟩ := by
  apply bytes_ext
  rw [data_append]
  simp [openS, shutS, deepB, deepOpen]
theorem openS_size (j : Nat) (c : UInt8) : (openS j c).size = 12 * j := by
  show ((List.replicate j [109, 101, 115, 115, 97, 103, 101, 32, c, 32, 123, 32]).flatten).toArray.size = _
  simp
  omega
theorem shutS_size (j : Nat) : (shutS j).size = j := by
  show (List.replicate j 125).toArray.size = _
  simp
def deepOkF (k : Nat) (f : Pf) : Bool := if k ≤ 8 then decide (f.e = 0) && decide (chainN 20 f.l = k) && decide (dpL f.l ≤ 20) else decide (f.e = 8) && decide (f.pos.line = 1) && decide (f.pos.col = 97) && f.l.isEmpty
theorem deepOkF_yes {k : Nat} {f : Pf} (h : deepOkF k f = true) (hk : k ≤ 8) : f.e = 0 ∧ chainN 20 f.l = k ∧ dpL f.l ≤ 20 := by
  unfold deepOkF at h
  rw [if_pos hk] at h
  simp only [Bool.and_eq_true, decide_eq_true_eq] at h
  exact ⟨h.1.1, h.1.2, h.2⟩
theorem deepOkF_no {k : Nat} {f : Pf} (h : deepOkF k f = true) (hk : ¬ k ≤ 8) : f.e = 8 ∧ f.pos.line = 1 ∧ f.pos.col = 97 ∧ f.l = [] := by
  unfold deepOkF at h
  rw [if_neg hk] at h
  simp only [Bool.and_eq_true, decide_eq_true_eq, List.isEmpty_iff] at h
  exact ⟨h.1.1.1, h.1.1.2, h.1.2, h.2⟩
theorem conv_one (w : World) (m : Nat) : (convert 39 9 (.slice (some ⟨w.heap.size, 0, none⟩) 1 1)).run Tryd.prog (w.alloc (.cells #[.int .u8 m] 5)) = .ok (.string ⟨#[UInt8.ofNat m]⟩) (w.alloc (.cells #[.int .u8 m] 5)) := by
  have hb := blk_cell (blk_new w (.cells #[.int .u8 m] 5)) 0
  have hl : (loadCells ⟨w.heap.size, 0, none⟩ 1).run Tryd.prog (w.alloc (.cells #[.int .u8 m] 5)) = .ok (([(m : Int)].map (Value.int .u8)).toArray) (w.alloc (.cells #[.int .u8 m] 5)) := by
    simp [loadCells, go_sem]
  rw [run_convert_bytes_string _ _ _ _ _ _ _ Tryd.underlying39 Tryd.underlying5 Tryd.underlying9, run_bytesToString _ _ 1 1 [(m : Int)] hl]
  rfl
set_option maxHeartbeats 2000000 in
set_option maxRecDepth 20000 in
theorem deep_calls (n c k c0 : Nat) (w : World) (hn : n < 256) (hc : c < 256) (hk : n % 12 = k) (hc0 : c % 26 = c0) (hE : Env w) :
    Calls Tryd.prog 4 #[.int .u8 n, .int .u8 c] w fun e w' => e = .returned (.bool true) ∧ Below w.heap.size w w' := by
  have h1 : (n : Int) % 12 = (k : Int) := by omega
  have h2 : (c : Int) % 26 = (c0 : Int) := by omega
  have b1 : (k : Int) < 12 := by omega
  have b2 : (c0 : Int) < 26 := by omega
  have b3 : (n : Int) ≤ 255 := by omega
  have b4 : (c : Int) ≤ 255 := by omega
  have b5 : (0 : Int) ≤ (n : Int) := by omega
  have b6 : (0 : Int) ≤ (c : Int) := by omega
  have HE := Aside0.mk hE
  obtain ⟨cb, hcb⟩ : ∃ cb : UInt8, cb = UInt8.ofNat (97 + c0) := ⟨_, rfl⟩
  have HCB := Lib.hid hcb
  clear hE hk hc0 hn hc hcb
  go_enter Tryd.func4, Tryd.ntmps4
  go_wp2_with (go_at_call 14; refine (awakeP_calls _ HE.out).mono ?_; rintro e w1 ⟨rfl, hb⟩; have HB := Aside0.mk hb; clear hb)
  go_loopw [6, 7, 19] (fun s6 s7 i wr => ∃ j : Nat, (j : Int) ≤ 1 + (k : Int) ∧ i = .int .i64 j ∧ s6 = .string (openS j cb) ∧ s7 = .string (shutS j) ∧ Aside0 (Below w.heap.size w wr)) (fun _ _ i _ => (1 + k) - (intOf i).toNat)
  case atStart => exact ⟨0, by omega, rfl, rfl, rfl, HB⟩
  case round =>
    obtain ⟨j, hj, rfl, rfl, rfl, HB1⟩ := hrel
    clear HB
    by_cases hlt : (j : Int) < 1 + (k : Int)
    · have hs1 := openS_size j cb
      have hs2 := shutS_size j
      have z1 : (openS j cb).size ≤ 1000 := by omega
      have z2 : (shutS j).size ≤ 1000 := by omega
      clear hs1 hs2
      have hcv := conv_one wr (97 + c0)
      rw [show ((97 + c0 : Nat) : Int) = 97 + (c0 : Int) by omega, ← HCB.out] at hcv
      go_wp2
      go_roundw
      case rel => exact ⟨j + 1, by omega, by go_num, by rw [openS_succ], by rw [shutS_succ], ⟨below_alloc HB1.out _⟩⟩
      case measure => simp [intOf]; omega
    · obtain rfl : j = 1 + k := by omega
      have hs1 := openS_size (1 + k) cb
      have hs2 := shutS_size (1 + k)
      have z1 : (openS (1 + k) cb).size ≤ 1000 := by omega
      have z2 : (shutS (1 + k)).size ≤ 1000 := by omega
      clear hs1 hs2
      have htx : openS (1 + k) cb ++ shutS (1 + k) = ⟨(deepB (k + 1) (97 + c0)).toArray⟩ := by rw [HCB.out, deep_text, Nat.add_comm]
      have hzz : (openS (1 + k) cb ++ shutS (1 + k)).size ≤ 140737488351232 := by rw [ByteArray.size_append]; omega
      have hF := Lib.hid (file_calls (openS (1 + k) cb ++ shutS (1 + k)) wr hzz (HE.out.below HB1.out))
      have hok := deep_ok k c0 (by omega) (by omega)
      obtain ⟨f, hf⟩ : ∃ f, f = fileW (openS (1 + k) cb ++ shutS (1 + k)) := ⟨_, rfl⟩
      have hok2 : deepOkF (k + 1) f = true := by rw [hf, htx]; exact hok
      have HFF := Lib.hid hf
      clear htx hzz hok hf
      by_cases hk8 : k + 1 ≤ 8
      · obtain ⟨q1, q2, q3⟩ := deepOkF_yes hok2 hk8
        have hk8' : 1 + (k : Int) ≤ 8 := by omega
        go_wp2_with (go_at_call 15; refine (hF.out).mono ?_; rintro e w2 ⟨v, rfl, hr, hb⟩; rw [← HFF.out] at hr ⊢; obtain ⟨A, cl, hv, hlc, hC⟩ := Kd.R_reads hr; subst hv; have HC := Aside0.mk hC; have HB2 := Aside0.mk (below_then HB1.out HB1.out.size hb); clear hr hb hC)
        have HC1 := Aside0.mk (Kd.C_alloc HC.out (.cells #[.int .i64 f.pos.line, .int .i64 f.pos.col] 41))
        have HQ := Aside0.mk (And.intro q2 q3)
        clear HC q2 q3 hok2
        go_loop [8, 11] (fun s8 s11 => ∃ (l : List De) (A1 : Option Addr) (c1 j m : Nat), s8 = .slice A1 l.length c1 ∧ s11 = .int .i64 j ∧ j ≤ 8 ∧ Aside0 (kP.C (w2.alloc (.cells #[.int .i64 f.pos.line, .int .i64 f.pos.col] 41)) A1 l.length l) ∧ Aside0 (j + chainN m l = k + 1 ∧ dpL l ≤ m)) (fun _ i => 20 - (intOf i).toNat)
        case atStart => exact ⟨f.l, A, cl, 0, 20, rfl, rfl, by omega, HC1, ⟨by rw [HQ.out.1]; omega, HQ.out.2⟩⟩
        case round =>
          clear HC1 HQ
          obtain ⟨l, A1, c1, j, m, rfl, rfl, hj8, HL, HM⟩ := hrel
          have hmx := Kd.C_max HL.out
          by_cases hl : l.length = 1
          · obtain ⟨d, rfl⟩ : ∃ d, l = [d] := List.length_eq_one_iff.1 hl
            obtain ⟨ad, A4, c4, A5, c5, A6, c6, A7, c7, rfl, hD, hH⟩ := C_de HL.out (i := 0) rfl
            rw [Nat.zero_mul, addr_add_zero] at hD
            have d7 := hD.h7
            have H7 := Aside0.mk hH.g7
            have hm := HM.out
            have hdp := dp_mk d
            have hd1 : dpL [d] = max d.dp 0 := rfl
            obtain ⟨m, rfl⟩ : ∃ m', m = m' + 1 := ⟨m - 1, by omega⟩
            have hch : chainN (m + 1) [d] = 1 + chainN m d.inner := rfl
            have HM2 : Aside0 (j + 1 + chainN m d.inner = k + 1 ∧ dpL d.inner ≤ m) := ⟨by omega, by omega⟩
            have hj9 : j + 1 ≤ 8 := by omega
            clear hD hH hm hdp hd1 hch HL HM hl
            go_wp2
            go_round
            case rel => exact ⟨d.inner, A7, c7, j + 1, m, rfl, by go_num, hj9, H7, HM2⟩
            case measure => simp [intOf]; omega
          · have hlb : ((l.length : Int) == 1) = false := beq_eq_false_iff_ne.2 (by omega)
            have hj : j = 1 + k := by
              have h0 : chainN m l = 0 := by
                unfold chainN
                split
                · exact absurd rfl hl
                · rfl
              have := HM.out.1
              omega
            have hjb : ((j : Int) == 1 + (k : Int)) = true := by rw [hj]; simp
            clear hj hl HM
            go_wp2
            go_ret
            exact ⟨rfl, below_alloc HB2.out _⟩
      · obtain ⟨q1, q2, q3, q4⟩ := deepOkF_no hok2 hk8
        have hk8' : ¬ 1 + (k : Int) ≤ 8 := by omega
        go_wp2_with (go_at_call 15; refine (hF.out).mono ?_; rintro e w2 ⟨v, rfl, hr, hb⟩; rw [← HFF.out, q4] at hr; rw [← HFF.out, q1, q2, q3]; obtain ⟨A, cl, hv, hlc, hC⟩ := Kd.R_reads hr; subst hv; have HB2 := Aside0.mk (below_then HB1.out HB1.out.size hb); clear hr hb hC)
        go_ret
        exact ⟨rfl, below_alloc HB2.out _⟩
end Go.Proofs.YtfcpfbdlkanlpaaDoor
