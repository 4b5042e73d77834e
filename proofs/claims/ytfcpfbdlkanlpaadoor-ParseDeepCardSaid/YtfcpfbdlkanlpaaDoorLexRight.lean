/- lex.right, by contract: is an open word one? -/
import Derived.Test.YtfcpfbdlkanlpaaDoorFmtU
import Derived.Test.YtfcpfbdlkanlpaaDoorLexAt
import Derived.Test.YtfcpfbdlkanlpaaDoorIdent
import Derived.Deep.RegionWith
import Derived.WalkSpells
namespace Go.Proofs.YtfcpfbdlkanlpaaDoor
open Go.RowKit Go.Proofs.YtfcpfbdlkanlpaaDoorW.PrintWords Go.Proofs.YtfcpfbdlkanlpaaDoorW.PrintLast
set_option linter.unusedVariables false
set_option linter.unusedSimpArgs false

theorem box4 {w : World} {g : Nat} {t : TypeId} {a0 a1 a2 a3 : Value} (h : w.heap[g]? = some (.cells #[a0, a1, a2, a3] t (0, 0))) : w.cell? ⟨g, 0, none⟩ = some a0 ∧ w.cell? ⟨g, 1, none⟩ = some a1 ∧ w.cell? ⟨g, 2, none⟩ = some a2 ∧ w.cell? ⟨g, 3, none⟩ = some a3 :=
  ⟨blk_cell h 0, blk_cell h 1, blk_cell h 2, blk_cell h 3⟩
theorem below_bytes (w : World) (e : TypeId) (s : ByteArray) : Below w.heap.size w (Lib.bytesWorld w e s) := bytes_below (Below.refl _ _) (Nat.le_refl _) e s
theorem parse_ok (t : ByteArray) (ht : t.size ≤ 100000) (u : Nat) (h : Lib.parseUintB 64 t.data.toList = .ok u) (w : World) :
    Calls Tryd.prog 88 #[.string t, .int .i64 10, .int .i64 64] w fun e w' => e = .returned (.tuple #[.int .u64 u, .nilIface]) ∧ Below w.heap.size w w' :=
  (Tryd.strconv_ParseUint_10_at64_ok t (by omega) u h w).mono fun e w' ⟨he, hw⟩ => ⟨he, by rcases hw with rfl | rfl; exact Below.refl _ _; exact below_bytes _ _ _⟩
theorem num_cases (l : Bytes) : (Lib.parseUintB 64 l = Lib.parseUintB 64 [] ∧ numB l = false) ∨ (Lib.parseUintB 64 l = .range ∧ numB l = false) ∨ (Lib.parseUintB 64 l = .ok (numVal l) ∧ numVal l < 18446744073709551616 ∧ (2147483647 < numVal l ∧ numB l = false ∨ numVal l ≤ 2147483647 ∧ numB l = decide (Lib.decDigits (numVal l) = l))) := by
  by_cases hne : l = []
  · subst hne; exact .inl ⟨by decide, numB_nil⟩
  · rcases parse_all l hne with ⟨h1, h2, h3⟩ | ⟨h1 | h1, h2⟩
    · refine .inr (.inr ⟨h1, by omega, ?_⟩)
      by_cases hv : numVal l ≤ 2147483647
      · exact .inr ⟨hv, numB_dec hne h2 hv⟩
      · exact .inl ⟨by omega, numB_big (by omega)⟩
    · exact .inr (.inl ⟨h1, h2⟩)
    · exact .inl ⟨h1, h2⟩
theorem beq_dec (a b : Bytes) : (a == b) = decide (a = b) := by
  by_cases h : a = b
  · rw [decide_eq_true h]; exact beq_iff_eq.2 h
  · rw [decide_eq_false h]; exact beq_eq_false_iff_ne.2 h
set_option maxHeartbeats 400000 in
set_option maxRecDepth 100000 in
theorem right_num (k : Int) (t : ByteArray) (p : Pos) (w : World) (ht : t.size ≤ 100000) (u : Nat) (hk1 : (k == 1) = false) (h1 : Lib.parseUintB 64 t.data.toList = .ok u) (h2 : u < 18446744073709551616) (h3 : u ≤ 2147483647)
    (HE : Aside0 (Env (w.alloc (.cells #[.int .i64 k, .string t, .int .i64 p.line, .int .i64 p.col] 86)))) (HW : Aside0 (w.heap.size ≤ (w.alloc (.cells #[.int .i64 k, .string t, .int .i64 p.line, .int .i64 p.col] 86)).heap.size)) :
    Calls Tryd.prog 74 #[.agg #[.int .i64 k, .string t, .int .i64 p.line, .int .i64 p.col]] w fun e w' => e = .returned (.bool (decide (Lib.decDigits u = t.data.toList))) ∧ Below w.heap.size w w' := by
  have HS := Lib.hid h1
  have HU := Lib.hid h2
  have hd : decide (((u : Nat) : Int) ≤ 2147483647) = true := decide_eq_true (by omega)
  clear h1 h2 h3
  go_enter Tryd.func74, Tryd.ntmps74
  go_wp2_with (go_at_call 88; refine (parse_ok t ht u HS.out _).mono ?_; rintro e w2 ⟨rfl, hb⟩; have HB := Aside0.mk hb; have bk := blk_below (blk_new w _) hb; obtain ⟨p0, p1, p2, p3⟩ := box4 bk; have HK := Aside0.mk bk; clear hb bk p0 p2 p3)
  have HT := Aside0.mk ((HE.out.below HB.out).below (below_drew (Below.refl _ _))).tab
  have P1 := Aside0.mk (show w2.drew.cell? ⟨w.heap.size, 1, none⟩ = some (.string t) from p1)
  go_region_held3 (fun w' => w'.cell? ⟨w.heap.size, 1, none⟩ = some (.string t)) (first | (with_reducible exact pw_cell_below hb3 P1.out) | go_keep) ((go_at_call 89; with_reducible refine (format_calls u HU.out w2.drew HT.out).mono ?_; rintro e w3 ⟨rfl, hb3⟩))
  all_goals go_wp2
  all_goals go_ret
  all_goals exact ⟨ret_bool (by rw [Lib.toList_data, beq_dec]), below_then (below_alloc (Below.refl _ _) _) HW.out (below_then (below_drew HB.out) HB.out.size hb3)⟩
set_option maxHeartbeats 1000000 in
set_option maxRecDepth 100000 in
theorem right_calls (k : Int) (t : ByteArray) (p : Pos) (w : World) (ht : t.size ≤ 100000) (hE : Env w) :
    Calls Tryd.prog 74 #[.agg #[.int .i64 k, .string t, .int .i64 p.line, .int .i64 p.col]] w fun e w' => e = .returned (.bool (rightB k t.data.toList)) ∧ Below w.heap.size w w' := by
  obtain ⟨X, hX⟩ : ∃ X, X = Obj.cells #[.int .i64 k, .string t, .int .i64 p.line, .int .i64 p.col] 86 := ⟨_, rfl⟩
  have HE := Aside0.mk (hE.below (below_alloc (Below.refl w.heap.size w) (Obj.cells #[.int .i64 k, .string t, .int .i64 p.line, .int .i64 p.col] 86)))
  have HW := Aside0.mk (show w.heap.size ≤ (w.alloc (.cells #[.int .i64 k, .string t, .int .i64 p.line, .int .i64 p.col] 86)).heap.size by rw [World.size_alloc]; omega)
  clear hE hX
  unfold rightB
  by_cases hk : k = 1
  · subst hk
    rw [if_pos rfl]
    go_enter Tryd.func74, Tryd.ntmps74
    go_wp2_with (go_at_call 83; refine (name_calls t _ (by omega)).mono ?_; rintro e w' ⟨rfl, hb⟩; have HB := Aside0.mk hb; clear hb)
    go_ret
    exact ⟨rfl, below_then (below_alloc (Below.refl _ _) _) HW.out HB.out⟩
  · rw [if_neg hk]
    have hk1 : (k == 1) = false := beq_eq_false_iff_ne.2 hk
    clear hk
    rcases num_cases t.data.toList with ⟨h1, h2⟩ | ⟨h1, h2⟩ | ⟨h1, h2, ⟨h3, h4⟩ | ⟨h3, h4⟩⟩
    · have HS := Lib.hid h1
      rw [h2]
      clear h1 h2
      obtain ⟨tp, q, hv⟩ := HE.out.es
      have HV := Aside0.mk hv
      clear hv
      go_enter Tryd.func74, Tryd.ntmps74
      go_wp2_with (go_at_call 88; refine (Tryd.strconv_ParseUint_10_at64_syntax_var t (by omega) HS.out tp q _ HV.out).mono ?_; rintro e w2 ⟨N, rfl, hN, _, hb⟩; have HB := Aside0.mk hb; clear hb hN)
      go_quiet (fail)
      go_wp2
      go_ret
      exact ⟨rfl, below_then (below_alloc (Below.refl _ _) _) HW.out (pw_below_drewN HB.out _)⟩
    · have HS := Lib.hid h1
      rw [h2]
      clear h1 h2
      obtain ⟨tp, q, hv⟩ := HE.out.er
      have HV := Aside0.mk hv
      clear hv
      go_enter Tryd.func74, Tryd.ntmps74
      go_wp2_with (go_at_call 88; refine (Tryd.strconv_ParseUint_10_at64_range_var t (by omega) HS.out tp q _ HV.out).mono ?_; rintro e w2 ⟨N, rfl, hN, _, hb⟩; have HB := Aside0.mk hb; clear hb hN)
      go_quiet (fail)
      go_wp2
      go_ret
      exact ⟨rfl, below_then (below_alloc (Below.refl _ _) _) HW.out (pw_below_drewN HB.out _)⟩
    · obtain ⟨u, hu⟩ : ∃ u, u = numVal t.data.toList := ⟨_, rfl⟩
      rw [← hu] at h1 h2 h3
      rw [h4]
      have HS := Lib.hid h1
      have hd : decide (((u : Nat) : Int) ≤ 2147483647) = false := decide_eq_false (by omega)
      clear h1 h4 hu
      go_enter Tryd.func74, Tryd.ntmps74
      go_wp2_with (go_at_call 88; refine (parse_ok t ht u HS.out _).mono ?_; rintro e w2 ⟨rfl, hb⟩; have HB := Aside0.mk hb; clear hb)
      go_quiet (fail)
      go_wp2
      go_ret
      exact ⟨rfl, below_then (below_alloc (Below.refl _ _) _) HW.out (pw_below_drewN HB.out _)⟩
    · obtain ⟨u, hu⟩ : ∃ u, u = numVal t.data.toList := ⟨_, rfl⟩
      rw [← hu] at h1 h2 h3 h4
      rw [h4]
      exact right_num k t p w ht u hk1 h1 h2 h3 HE HW
end Go.Proofs.YtfcpfbdlkanlpaaDoor
