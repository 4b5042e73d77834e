/- courierlaw07.ScopeWhole: the walk. -/
import Derived.Test.YtfcpfbdlkanlpaaDoorWholeLaw
import Derived.Test.YtfcpfbdlkanlpaaDoorAwake2
import Derived.Test.YtfcpfbdlkanlpaaDoorFormed3
import Derived.Test.YtfcpfbdlkanlpaaDoorTheirs
namespace Go.Proofs.YtfcpfbdlkanlpaaDoor
open Go.RowKit Go.Maps Go.Proofs.YtfcpfbdlkanlpaaDoorW.PrintWords Go.Proofs.YtfcpfbdlkanlpaaDoorW.PrintLast
set_option linter.unusedVariables false
set_option linter.unusedSimpArgs false

theorem nL_wt : ∀ (k : Nat) (l : List De), nL l ≤ k → nL l ≤ wtL l ∧ bL l ≤ 100 * wtL l := by
  intro k
  induction k using Nat.strongRecOn with
  | _ k ih =>
    intro l
    induction l with
    | nil => intro _; exact ⟨Nat.le_refl _, Nat.le_refl _⟩
    | cons d l ihl =>
      intro h
      rw [nL_cons] at h
      have hd := n_mk d
      have hp := n_pos d
      have hb := b_mk d
      have hw := wt_mk d
      unfold De.own_wt at hw
      obtain ⟨h1, h2⟩ := ihl (by omega)
      obtain ⟨h3, h4⟩ := ih (nL d.inner) (by omega) d.inner (Nat.le_refl _)
      rw [nL_cons, bL_cons, show wtL (d :: l) = d.wt + wtL l from rfl]
      constructor <;> omega
theorem name_le : ∀ (k : Nat) (a : ByteArray) (l : List De), nL l ≤ k → ∀ x ∈ allL a l, x.name.size ≤ a.size + bL l := by
  intro k
  induction k using Nat.strongRecOn with
  | _ k ih =>
    intro a l
    induction l with
    | nil => intro _ x hx; cases hx
    | cons d l ihl =>
      intro h x hx
      rw [nL_cons] at h
      have hd := n_mk d
      have hp := n_pos d
      have hb := b_mk d
      rw [bL_cons]
      rw [allL_cons] at hx
      rcases List.mem_append.1 hx with hx | hx
      · rw [all_mk] at hx
        rcases List.mem_cons.1 hx with rfl | hx
        · show (a ++ d.name).size ≤ _
          rw [ByteArray.size_append]; omega
        · have := ih (nL d.inner) (by omega) _ d.inner (Nat.le_refl _) x hx
          rw [ByteArray.size_append, ByteArray.size_append, show dot.size = 1 from rfl] at this
          omega
      · have := ihl (by omega) x hx
        omega
theorem sy_in {l : List De} (hf : formL l = true) (hw : wtL l ≤ 800) : ∀ s ∈ allL ⟨#[]⟩ l, kindIn s.kind ∧ s.name.size ≤ 80000 := by
  intro s hs
  obtain ⟨n0, ns, hc⟩ := chains _ 1 _ l (Nat.le_refl _) hf s hs
  have h1 := name_le _ _ l (Nat.le_refl _) s hs
  have h2 := (nL_wt _ l (Nat.le_refl _)).2
  refine ⟨?_, by have : (⟨#[]⟩ : ByteArray).size = 0 := rfl; omega⟩
  unfold kindIn
  rcases hc.k with e | e | e <;> (rw [e]; decide)
theorem keepB {w : World} {gx g : Nat} {cs : Array Value} {ty : TypeId} {a b : Value} (h : w.heap[gx]? = some (.cells cs ty (0, 0))) (hne : gx ≠ g) : ((w.setCell ⟨g, 0, none⟩ a).setCell ⟨g, 1, none⟩ b).heap[gx]? = some (.cells cs ty (0, 0)) :=
  (Below.heap_setCell _ _ _ _ hne).trans ((Below.heap_setCell _ _ _ _ hne).trans h)
theorem ne_str {s t : ByteArray} (h : s ≠ t) : (s.toList == t.toList) = false := by
  rw [ByteArray.toList_eq, ByteArray.toList_eq]
  exact beq_eq_false_iff_ne.2 (fun e => h (ByteArray.ext (by rw [← Array.toList_inj]; exact e)))
theorem ne_data {s t : ByteArray} (h : s ≠ t) : s.data.toList ≠ t.data.toList := fun e => h (ByteArray.ext (by rw [← Array.toList_inj]; exact e))

set_option maxHeartbeats 4000000 in
set_option maxRecDepth 100000 in
theorem whole_calls (l : List De) (A : Option Addr) (c : Nat) (a : Nat) (m : Int) (w : World) (ha : a < 65536) (hok : okL l) (hll : l.length ≤ 140737488351232) (hC : kR.C w A l.length l) (hc : l.length ≤ c)
    (hT : Lib.Utf8Tabs 1 2 w) (hml : w.cell? ⟨0, 0, none⟩ = some (.int .i64 m)) :
    Calls Tryd.prog 3 #[.slice A l.length c, .int .u16 a] w fun e w' => e = .returned (.bool true) ∧ Below w.heap.size w w' := by
  have HC := Lib.hid hC
  have HT := Lib.hid hT
  have HL := Lib.hid hml
  have HO := Lib.hid hok
  clear hC hT hml hok
  have AW := Lib.hid (fun w1 (h : Below w.heap.size w w1) => awake_calls m w1 (pw_cell_below h HL.out))
  have SM := Lib.hid (fun w1 (h : Below w.heap.size w w1) => smallL_calls l A c w1 HO.out hll (Kd.C_below HC.out h) hc)
  have FO := Lib.hid (fun w1 (h : Below w.heap.size w w1) (hw : wtL l ≤ 100000) => formedL_calls l A c w1 hw (Kd.C_below HC.out h) (Utf8Tabs_below HT.out h))
  have AL := Lib.hid (fun w1 (h : Below w.heap.size w w1) h1 h2 => allL_calls l A c w1 h1 h2 (Kd.C_below HC.out h) hc)
  have TH := Lib.hid (fun w1 (h : Below w.heap.size w w1) (hw : wtL l ≤ 100000) => theirs_calls (nL l) l A c w1 (Nat.le_refl _) hw (Kd.C_below HC.out h) hc)
  cases hfl : formL l with
  | false =>
    have HF := Lib.hid hfl
    clear hfl
    go_enter Tryd.func3, Tryd.ntmps3
    go_wp2_with (first
      | (go_at_call 7; (with_reducible refine (AW.out _ (Below.refl _ _)).mono ?_); rintro e w1 ⟨rfl, hB⟩; have HB := Aside0.mk hB; clear hB)
      | (go_at_call 8; (with_reducible refine (SM.out _ HB.out).mono ?_); rintro e w2 ⟨b, rfl, hb, hB⟩; have HB2 := Aside0.mk (below_then HB.out HB.out.size hB); have HSM := Lib.hid hb; clear hB hb)
      | (go_at_call 9; (with_reducible refine (FO.out _ HB2.out (by have := (HSM.out (by first | assumption | simp_all)).1; omega)).mono ?_); rintro e w3 ⟨rfl, hB⟩; rw [HF.out]; have HB3 := Aside0.mk (below_then HB2.out HB2.out.size hB); clear hB)
      | (go_at_call 7; (with_reducible refine (AW.out _ HB3.out).mono ?_); rintro e w4 ⟨rfl, hB⟩; have HB4 := Aside0.mk (below_then HB3.out HB3.out.size hB); clear hB)
      | (go_at_call 7; (with_reducible refine (AW.out _ HB2.out).mono ?_); rintro e w4 ⟨rfl, hB⟩; have HB4 := Aside0.mk (below_then HB2.out HB2.out.size hB); clear hB))
    all_goals (go_ret; exact ⟨rfl, HB4.out⟩)
  | true =>
    have HF := Lib.hid hfl
    by_cases hw : wtL l ≤ 800
    case neg =>
      clear hfl
      have HW := Lib.hid hw
      clear hw
      go_enter Tryd.func3, Tryd.ntmps3
      go_wp2_with (first
      | (go_at_call 7; (with_reducible refine (AW.out _ (Below.refl _ _)).mono ?_); rintro e w1 ⟨rfl, hB⟩; have HB := Aside0.mk hB; clear hB)
      | (go_at_call 8; (with_reducible refine (SM.out _ HB.out).mono ?_); rintro e w2 ⟨b, rfl, hb, hB⟩; have HB2 := Aside0.mk (below_then HB.out HB.out.size hB); obtain rfl : b = false := (by cases b with | false => rfl | true => exact absurd (hb rfl).1 HW.out); clear hB hb)
      | (go_at_call 9; (with_reducible refine (FO.out _ HB2.out (by exact absurd rfl HW.out)).mono ?_); rintro e w3 ⟨rfl, hB⟩; rw [HF.out]; have HB3 := Aside0.mk (below_then HB2.out HB2.out.size hB); clear hB)
      | (go_at_call 7; (with_reducible refine (AW.out _ HB2.out).mono ?_); rintro e w4 ⟨rfl, hB⟩; have HBE := Aside0.mk (below_then HB2.out HB2.out.size hB); clear hB))
      go_ret
      exact ⟨rfl, HBE.out⟩
    obtain ⟨hnw, hbw⟩ := nL_wt _ l (Nat.le_refl _)
    have HIN := Lib.hid (sy_in hfl hw)
    have HWL := Lib.hid (fun hu => @whole_law l hfl hu)
    have AL2 : Hid (∀ w1, Below w.heap.size w w1 → Calls Tryd.prog 10 #[.slice A l.length c] w1 fun e w' => ∃ v, e = .returned v ∧ kSy.R 29 w' w1.heap.size (fun _ => True) v (allL ⟨#[]⟩ l) ∧ Below w1.heap.size w1 w') := Lib.hid (fun w1 h => AL.out w1 h (by omega) (by omega))
    have FO2 : Hid (∀ w1, Below w.heap.size w w1 → Calls Tryd.prog 9 #[.slice A l.length c] w1 fun e w' => e = .returned (.bool (formL l)) ∧ Below w1.heap.size w1 w') := Lib.hid (fun w1 h => FO.out w1 h (by omega))
    have TH2 : Hid (∀ w1, Below w.heap.size w w1 → Calls Tryd.prog 12 #[.slice A l.length c] w1 fun e w' => ∃ v, e = .returned v ∧ kP.R 49 w' w1.heap.size (fun _ => True) v l ∧ Below w1.heap.size w1 w') := Lib.hid (fun w1 h => TH.out w1 h (by omega))
    have hkl : (allL ⟨#[]⟩ l).length ≤ 800 := by rw [allL_len _ _ l (Nat.le_refl _)]; omega
    have FI : Hid (∀ (A' : Option Addr) (c' : Nat) (x : Sy) (w1 : World), x ∈ allL ⟨#[]⟩ l → Below w.heap.size w w1 → kP.C w1 A' l.length l → l.length ≤ c' → Calls Tryd.prog 11 #[.slice A' l.length c', .string ⟨#[]⟩, .string x.name] w1 (FindPost (allL ⟨#[]⟩ l) x.name w1)) :=
      Lib.hid (fun A' c' x w1 hx hB hC' hc' => find_calls l _ A' c' x.name m w1 rfl (by omega) (by omega) hC' hc' (fun s hs => ⟨(HIN.out s hs).1, by have := (HIN.out s hs).2; omega⟩) (by have := (HIN.out x hx).2; omega) (pw_cell_below hB HL.out))
    obtain ⟨ks, hks⟩ : ∃ ks, ks = allL ⟨#[]⟩ l := ⟨_, rfl⟩
    rw [← hks] at HIN HWL AL2 hkl FI
    clear hfl hw hnw hbw hks AL TH
    by_cases hz : ks.length ≤ 0
    · go_enter Tryd.func3, Tryd.ntmps3
      go_wp2_with (first
      | (go_at_call 7; (with_reducible refine (AW.out _ (Below.refl _ _)).mono ?_); rintro e w1 ⟨rfl, hB⟩; have HB := Aside0.mk hB; clear hB)
      | (go_at_call 8; (with_reducible refine (SM.out _ HB.out).mono ?_); rintro e w2 ⟨b, rfl, hb, hB⟩; have HB2 := Aside0.mk (below_then HB.out HB.out.size hB); clear hB hb)
      | (go_at_call 9; (with_reducible refine (FO2.out _ HB2.out).mono ?_); rintro e w3 ⟨rfl, hB⟩; rw [HF.out]; have HB3 := Aside0.mk (below_then HB2.out HB2.out.size hB); clear hB)
      | (go_at_call 7; (with_reducible refine (AW.out _ HB2.out).mono ?_); rintro e w4 ⟨rfl, hB⟩; have HBE := Aside0.mk (below_then HB2.out HB2.out.size hB); clear hB)
        | (go_at_call 10; (with_reducible refine (AL2.out _ HB3.out).mono ?_); rintro e w4 ⟨v, rfl, hR, hB⟩; obtain ⟨A2, c2, rfl, hl2, hC2⟩ := Kd.R_reads hR; have HBE := Aside0.mk (below_then HB3.out HB3.out.size hB); clear hB hR hC2))
      all_goals (go_ret; exact ⟨rfl, HBE.out⟩)
    obtain ⟨i, hi⟩ : ∃ i, i = a % ks.length := ⟨_, rfl⟩
    have hil : i < ks.length := by rw [hi]; exact Nat.mod_lt _ (by omega)
    have hmod : Int.tmod (a : Int) (ks.length : Int) = (i : Int) := by rw [hi]; exact (Int.ofNat_tmod a ks.length).symm
    obtain ⟨x, hx⟩ := get_of_lt hil
    have HX := Lib.hid hx
    clear hx hi
    go_enter Tryd.func3, Tryd.ntmps3
    go_wp2_with (first
      | (go_at_call 7; (with_reducible refine (AW.out _ (Below.refl _ _)).mono ?_); rintro e w1 ⟨rfl, hB⟩; have HB := Aside0.mk hB; clear hB)
      | (go_at_call 8; (with_reducible refine (SM.out _ HB.out).mono ?_); rintro e w2 ⟨b, rfl, hb, hB⟩; have HB2 := Aside0.mk (below_then HB.out HB.out.size hB); clear hB hb)
      | (go_at_call 9; (with_reducible refine (FO2.out _ HB2.out).mono ?_); rintro e w3 ⟨rfl, hB⟩; rw [HF.out]; have HB3 := Aside0.mk (below_then HB2.out HB2.out.size hB); clear hB)
      | (go_at_call 7; (with_reducible refine (AW.out _ HB2.out).mono ?_); rintro e w4 ⟨rfl, hB⟩; have HBE := Aside0.mk (below_then HB2.out HB2.out.size hB); clear hB)
      | (go_at_call 10; (with_reducible refine (AL2.out _ HB3.out).mono ?_); rintro e w4 ⟨v, rfl, hR, hB⟩; obtain ⟨A2, c2, rfl, hl2, hC2⟩ := Kd.R_reads hR; have HB4 := Aside0.mk (below_then HB3.out HB3.out.size hB); have HC2 := Lib.hid hC2; obtain ⟨ad, rfl, h0, h1⟩ := C_sy hC2 HX.out; clear hB hR hC2))
    all_goals try (go_ret; exact ⟨rfl, HBE.out⟩)
    obtain ⟨gx, hgx⟩ : ∃ gx, gx = w4.heap.size := ⟨_, rfl⟩
    have BKX := Aside0.mk (blk_new w4 (.cells #[.string x.name, .int .i64 x.kind] 29))
    have HBX := Aside0.mk (below_alloc HB4.out (.cells #[.string x.name, .int .i64 x.kind] 29))
    have HCX := Lib.hid (Kd.C_below HC2.out (below_alloc (Below.refl _ _) (.cells #[.string x.name, .int .i64 x.kind] 29)))
    rw [← hgx] at BKX ⊢
    generalize w4.alloc (.cells #[.string x.name, .int .i64 x.kind] 29) = wx at BKX HBX HCX ⊢
    clear h0 h1 HC2 hgx
    go_loopw [41] (fun v wr => ∃ j : Nat, j ≤ ks.length ∧ v = .int .i64 j ∧ Aside0 (∀ p q s t, ks[p]? = some s → ks[q]? = some t → p < q → q < j → s.name ≠ t.name) ∧ Aside0 (Below wx.heap.size wx wr)) (fun v _ => ks.length - (intOf v).toNat)
    case atStart => exact ⟨0, by omega, rfl, ⟨fun p q s t _ _ _ h => by omega⟩, ⟨Below.refl _ _⟩⟩
    case round =>
      obtain ⟨j, hj, rfl, hD, hB⟩ := hrel
      by_cases hlt : j < ks.length
      · obtain ⟨y, hy⟩ := get_of_lt hlt
        go_wp2
        go_loopw [45] (fun v wq => ∃ q : Nat, q ≤ j ∧ v = .int .i64 q ∧ Aside0 (∀ p s, ks[p]? = some s → p < q → s.name ≠ y.name) ∧ Aside0 (Below wx.heap.size wx wq)) (fun v _ => j - (intOf v).toNat)
        case atStart => exact ⟨0, by omega, rfl, ⟨fun p s _ h => by omega⟩, hB⟩
        case round =>
          obtain ⟨q, hq, rfl, hE, hB2⟩ := hrel
          by_cases hlt2 : q < j
          · obtain ⟨z, hz2⟩ := get_of_lt (l := ks) (i := q) (by omega)
            obtain ⟨ad1, e1, z0, z1⟩ := C_sy (Kd.C_below HCX.out hB2.out) hz2
            cases e1
            obtain ⟨ad2, e2, y0, y1⟩ := C_sy (Kd.C_below HCX.out hB2.out) hy
            cases e2
            have HZ := Lib.hid hz2
            have HY := Lib.hid hy
            by_cases he : z.name = y.name
            · rw [he] at z0
              clear he hz2 hy
              go_wp2
              go_quiet (fail)
              go_wp2
              go_ret
              exact ⟨rfl, pw_below_drewN (below_then HBX.out HBX.out.size hB2.out) _⟩
            · have hne := ne_str he
              have hne2 := ne_str (fun e => he e.symm)
              have HE := Lib.hid he
              clear he hz2 hy
              go_wp2
              go_quiet (fail)
              go_wp2
              go_roundw
              case rel => exact ⟨q + 1, by omega, by go_num, ⟨fun p s hs hp => by
                by_cases hpq : p < q
                · exact hE.out p s hs hpq
                · obtain rfl : p = q := by omega
                  rw [HZ.out] at hs
                  cases hs
                  exact HE.out⟩, ⟨pw_below_drewN hB2.out _⟩⟩
              case measure => simp [intOf]; omega
          · go_wp2
            go_roundw
            case rel => exact ⟨j + 1, by omega, by go_num, ⟨fun p q' s t hs ht hpq hq' => by
              by_cases hqj : q' < j
              · exact hD.out p q' s t hs ht hpq hqj
              · obtain rfl : q' = j := by omega
                rw [hy] at ht
                cases ht
                exact hE.out p s hs (by omega)⟩, hB2⟩
            case measure => simp [intOf]; omega
      · have HU : Hid (ks.Pairwise (fun s t => s.name.data.toList ≠ t.name.data.toList)) := Lib.hid (List.pairwise_iff_getElem.2 (fun p q hp hq hpq => ne_data (hD.out p q _ _ (List.getElem?_eq_getElem hp) (List.getElem?_eq_getElem hq) hpq (by omega))))
        have HBW := Aside0.mk (below_then HBX.out HBX.out.size hB.out)
        have BKW := Aside0.mk (blk_below BKX.out hB.out)
        have hxm := Lib.hid (List.mem_of_getElem? HX.out)
        have cx := blk_cell BKW.out 0
        clear hD hB
        go_wp2
        go_cut [9, 10] (fun s9 s10 wq => ∃ (s : ByteArray) (k : Int) (b : Bool) (g : Nat), s9 = .pointer (some ⟨g, 0, none⟩) ∧ s10 = .bool b ∧ Aside0 (FindSays ks x.name s k b ∧ wq.heap[g]? = some (.cells #[.string s, .int .i64 k] 30 (0, 0)) ∧ wq.heap[gx]? = some (.cells #[.string x.name, .int .i64 x.kind] 29 (0, 0)) ∧ Below w.heap.size w wq))
        case first =>
          go_region_held3 (fun w' => w'.cell? ⟨gx, 0, none⟩ = some (.string x.name))
            (first | (with_reducible exact hcx5) | (with_reducible exact hcx6) | (exact blk_cell (keepB BK6.out hng.out) 0) | (exact blk_cell (keepB (blk_alloc BK6.out _) (Nat.ne_of_lt (blk_lt BK6.out))) 0) | go_keep)
            (first
              | (go_at_call 12; (with_reducible refine (TH2.out wr.drew (HBW.out.drew)).mono ?_); rintro e w5 ⟨v7, rfl, hR7, hB5⟩; obtain ⟨A7, c7, rfl, hl7, hC7⟩ := Kd.R_reads hR7; have HC7 := Lib.hid hC7; have HB5 := Aside0.mk (below_then HBW.out.drew (HBW.out.drew).size hB5); have BK5 := Aside0.mk (blk_below (blk_drew BKW.out) hB5); have hcx5 := blk_cell BK5.out 0; clear hR7 hC7 hB5)
              | (go_at_call 12; (with_reducible refine (TH2.out (wr.alloc _).drew ((below_alloc HBW.out _).drew)).mono ?_); rintro e w5 ⟨v7, rfl, hR7, hB5⟩; obtain ⟨A7, c7, rfl, hl7, hC7⟩ := Kd.R_reads hR7; have HC7 := Lib.hid hC7; have HB5 := Aside0.mk (below_then (below_alloc HBW.out _).drew ((below_alloc HBW.out _).drew).size hB5); have BK5 := Aside0.mk (blk_below (blk_drew (blk_alloc BKW.out _)) hB5); have BZ5 := Aside0.mk (blk_below (blk_drew (blk_new wr _)) hB5); have hcx5 := blk_cell BK5.out 0; clear hR7 hC7 hB5)
              | (go_at_call 11; (with_reducible refine (FI.out A7 c7 x w5 hxm.out HB5.out HC7.out hl7).mono ?_); rintro e w6 ⟨s, k, b, rfl, hS, hB6⟩; have HS := Aside0.mk hS; have HB6 := Aside0.mk (below_then HB5.out HB5.out.size hB6); have BK6 := Aside0.mk (blk_below BK5.out hB6); have hcx6 := blk_cell BK6.out 0; have BZ6 := Aside0.mk (blk_below BZ5.out hB6); have hng := Aside0.mk (Nat.ne_of_lt (blk_lt BKW.out)); have z0 := blk_cell BZ6.out 0; have z1 := blk_cell BZ6.out 1; have y0 := blk_frozen BZ6.out 0; have y1 := blk_frozen BZ6.out 1; clear hS hB6)
              | (go_at_call 11; (with_reducible refine (FI.out A7 c7 x w5 hxm.out HB5.out HC7.out hl7).mono ?_); rintro e w6 ⟨s, k, b, rfl, hS, hB6⟩; have HS := Aside0.mk hS; have HB6 := Aside0.mk (below_then HB5.out HB5.out.size hB6); have BK6 := Aside0.mk (blk_below BK5.out hB6); have hcx6 := blk_cell BK6.out 0; clear hS hB6)
              | (go_at_call 11; (with_reducible refine (FI.out A7 c7 x (w5.alloc _) hxm.out (below_alloc HB5.out _) (Kd.C_below HC7.out (below_alloc (Below.refl _ _) _)) hl7).mono ?_); rintro e w6 ⟨s, k, b, rfl, hS, hB6⟩; have HS := Aside0.mk hS; have HB6 := Aside0.mk (below_then (below_alloc HB5.out _) (below_alloc HB5.out _).size hB6); have BK6 := Aside0.mk (blk_below (blk_alloc BK5.out _) hB6); have hcx6 := blk_cell BK6.out 0; have BZ6 := Aside0.mk (blk_below (blk_new w5 _) hB6); have hng := Aside0.mk (Nat.ne_of_lt (blk_lt BK5.out)); have z0 := blk_cell BZ6.out 0; have z1 := blk_cell BZ6.out 1; have y0 := blk_frozen BZ6.out 0; have y1 := blk_frozen BZ6.out 1; clear hS hB6))
          all_goals (
            go_wp2_with fail
            go_meet
            refine ⟨s, k, b, _, rfl, rfl, ⟨HS.out, ?_, ?_, ?_⟩⟩
            · first | exact blk_new w6 _ | exact put2 _ _ (blk_new w6 _) | exact put2 _ _ BZ6.out
            · first | exact blk_alloc BK6.out _ | exact keepB BK6.out hng.out | exact keepB (blk_alloc BK6.out _) (Nat.ne_of_lt (blk_lt BK6.out))
            · first | exact below_alloc HB6.out _ | exact below_set (below_set HB6.out HB5.out.size) HB5.out.size | exact below_set (below_set HB6.out HBW.out.size) HBW.out.size | exact below_set (below_set (below_alloc HB6.out _) HB6.out.size) HB6.out.size)
        case rest =>
          obtain ⟨s, k, b, g, rfl, rfl, hX⟩ := hcut
          obtain ⟨hS, hG, hGX, hBq⟩ := hX.out
          have HLAW := Lib.hid (HWL.out HU.out hxm.out hS)
          have HG := Aside0.mk hG
          have HGX := Aside0.mk hGX
          have HBQ := Aside0.mk hBq
          have x0 := blk_cell hGX 0
          have x1 := blk_cell hGX 1
          clear hS hG hGX hBq hX
          by_cases hk3 : x.kind = 3
          · have hb := HLAW.out.1 hk3
            have hk3b : (x.kind == 3) = true := beq_iff_eq.2 hk3
            subst hb
            clear hk3
            go_wp2
            go_ret
            exact ⟨rfl, HBQ.out⟩
          · obtain ⟨hb, hsk⟩ := HLAW.out.2 hk3
            have hk3b : (x.kind == 3) = false := beq_eq_false_iff_ne.2 hk3
            clear hk3
            cases b with
            | false =>
              have HP := Lib.hid hb.symm
              clear hb hsk
              go_wp2_with (go_at_call 13; refine (rpath_flag x.name _ (Utf8Tabs_below HT.out HBQ.out)).mono ?_; rintro e w7 ⟨v7, rfl, hB7⟩; rw [HP.out]; have HB7 := Aside0.mk (below_then HBQ.out HBQ.out.size hB7); clear hB7)
              go_ret
              exact ⟨rfl, HB7.out⟩
            | true =>
              have HP := Lib.hid hb.symm
              obtain ⟨rfl, rfl⟩ := hsk rfl
              clear hb hsk
              go_wp2_with (go_at_call 13; refine (rpath_flag x.name _ (Utf8Tabs_below HT.out HBQ.out)).mono ?_; rintro e w7 ⟨v7, rfl, hB7⟩; rw [HP.out]; have HB7 := Aside0.mk (below_then HBQ.out HBQ.out.size hB7); have bk1 := blk_below HG.out hB7; have bk2 := blk_below HGX.out hB7; have g0 := blk_cell bk1 0; have g1 := blk_cell bk1 1; have x0 := blk_cell bk2 0; have x1 := blk_cell bk2 1; clear hB7 bk1 bk2)
              go_ret
              exact ⟨rfl, HB7.out⟩
    all_goals sorry
end Go.Proofs.YtfcpfbdlkanlpaaDoor
