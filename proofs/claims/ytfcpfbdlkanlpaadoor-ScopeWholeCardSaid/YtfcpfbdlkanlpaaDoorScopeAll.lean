/- scope.All and the closure in it, by contract: the same list of whole names. -/
import Derived.Test.YtfcpfbdlkanlpaaDoorRefAll
import Derived.Test.YtfcpfbdlkanlpaaDoorTheirsP
namespace Go.Proofs.YtfcpfbdlkanlpaaDoor
open Go.RowKit Go.Proofs.YtfcpfbdlkanlpaaDoorW.PrintWords Go.Proofs.YtfcpfbdlkanlpaaDoorW.PrintLast
set_option linter.unusedVariables false
set_option linter.unusedSimpArgs false

theorem info_psy : (Tryd.prog.info? 30).map (fun i => (i.zero, i.size, i.bytes)) = some (some (.agg #[(.string ⟨#[]⟩), (.int .i64 0)]), 2, 24) := by kernel_rfl

/-- The closure's two variables: the list so far, and the closure itself. -/
structure Wk (w0 : World) (Bo Bw : Nat) (xs : List Sy) (w : World) : Prop where
  hb : Below w0.heap.size w0 w
  bo : ∃ v, w.heap[Bo]? = some (.cells #[v] 104 (0, 0)) ∧ kSy.R 30 w w0.heap.size (fun _ => True) v xs
  bw : w.heap[Bw]? = some (.cells #[.func (.func 62) #[] #[.pointer (some ⟨Bo, 0, none⟩), .pointer (some ⟨Bw, 0, none⟩)]] 123 (0, 0))
  lo : w0.heap.size ≤ Bo
  lw : w0.heap.size ≤ Bw

theorem slice_of {w : World} {base : Nat} {ok : Nat → Prop} {v : Value} {e : Nat} {α : Type} {d : Kd α} {xs : List α} (h : d.R e w base ok v xs) : ∃ A c n, v = .slice A n c := by
  obtain ⟨A, c, h⟩ := Kd.R_slice h; exact ⟨A, c, _, h⟩
theorem Wk_put {w0 wr w1 : World} {Bo Bw : Nat} {xs ys : List Sy} {v v1 : Value} {o : Obj} (hK : Wk w0 Bo Bw xs wr) (hB : Below w0.heap.size w0 w1) (hO : kSy.R 30 w1 w0.heap.size (fun _ => True) v1 ys) (hG : (wr.alloc o).grownBy w1 v.ownBlock) (hne : some Bw ≠ v.ownBlock) (bk : w1.heap[Bo]? = some (.cells #[v] 104 (0, 0))) : Wk w0 Bo Bw ys (w1.setCell ⟨Bo, 0, none⟩ v1) := by
  have hbw := blk_grown (blk_alloc hK.bw o) hG hne
  refine ⟨below_set hB hK.lo, ⟨v1, one_setCell bk, Kd.R_set hO bk (by decide) 0 v1⟩, ?_, hK.lo, hK.lw⟩
  exact (Below.heap_setCell _ _ _ _ (fun e => by
    have e' : Bw = Bo := e
    rw [e'] at hbw; rw [bk] at hbw; simp at hbw)).trans hbw
set_option maxHeartbeats 2000000 in
set_option maxRecDepth 100000 in
theorem walk_calls (w0 : World) (Bo Bw : Nat) (k : Nat) : ∀ (l : List De) (A : Option Addr) (c : Nat) (a : ByteArray) (xs : List Sy) (w : World), nL l ≤ k → nL l + xs.length ≤ 100000 → a.size + bL l ≤ 1000000 →
    kP.C w0 A l.length l → l.length ≤ c → Wk w0 Bo Bw xs w →
    Calls Tryd.prog 62 #[.slice A l.length c, .string a, .pointer (some ⟨Bo, 0, none⟩), .pointer (some ⟨Bw, 0, none⟩)] w fun e w' => e = .returned (.tuple #[]) ∧ Wk w0 Bo Bw (xs ++ allL a l) w' := by
  induction k using Nat.strongRecOn with
  | _ k ih =>
  intro l A c a xs w hk hn hb hC hc hW
  have HC := Lib.hid hC
  have HW := Aside0.mk hW
  clear hC hW
  go_enter Tryd.func62, Tryd.ntmps62
  go_wp2
  go_loopw [10] (fun i wr => ∃ j : Nat, j ≤ l.length ∧ i = .int .i64 j ∧ Aside0 (Wk w0 Bo Bw (xs ++ allL a (l.take j)) wr)) (fun i _ => l.length - (intOf i).toNat)
  case atStart => exact ⟨0, by omega, rfl, ⟨by show Wk w0 Bo Bw (xs ++ []) w; rw [List.append_nil]; exact HW.out⟩⟩
  case round =>
    obtain ⟨j, hj, rfl, hK⟩ := hrel
    by_cases hlt : j < l.length
    · obtain ⟨x, hx⟩ := get_of_lt hlt
      obtain ⟨ad, A4, c4, A5, c5, A6, c6, A7, c7, rfl, hat, hang⟩ := C_de HC.out hx
      have hll := len_le_nL l
      have hgn := nL_get hx
      have hgb := bL_get hx
      have hxn := n_mk x
      have hxb := b_mk x
      have hlen := allL_len _ a (l.take j) (Nat.le_refl _)
      have hc1 : a.size + x.name.size ≤ 9223372036854775807 := by omega
      have hc2 : (a ++ x.name).size + 1 ≤ 9223372036854775807 := by rw [ByteArray.size_append]; omega
      obtain ⟨h0, h1, h2, h3, h4, h5, h6, h7⟩ := hat.below hK.out.hb
      obtain ⟨v, hv, hR⟩ := hK.out.bo
      have hv2 : ∀ o, (wr.alloc o).heap[Bo]? = some (.cells #[v] 104 (0, 0)) := fun o => blk_alloc hv o
      have co : ∀ o, (wr.alloc o).cell? ⟨Bo, 0, none⟩ = some v := fun o => cell_of_one (hv2 o)
      have HR := Aside0.mk hR
      have hnw := Aside0.mk (Kd.R_ne hR hK.out.bw (show (30 : Nat) ≠ 123 by decide))
      have HV := Aside0.mk hv
      have hno := Aside0.mk (Kd.R_ne hR hv (show (30 : Nat) ≠ 104 by decide))
      have hnd := Aside0.mk (show ∀ cs, some wr.heap.size ≠ v.ownBlock ∧ Bo ≠ wr.heap.size ∧ (wr.alloc (.cells cs 49)).heap[wr.heap.size]? = some (.cells cs 49 (0, 0)) from fun cs => ⟨Kd.R_ne (Kd.R_below hR (below_alloc (Below.refl _ _) _)) (blk_new wr (.cells cs 49)) (show (30 : Nat) ≠ 49 by decide), fun e => by have := blk_lt hv; omega, blk_new wr _⟩)
      have HRa := Aside0.mk (show ∀ o, kSy.R 30 (wr.alloc o) w0.heap.size (fun _ => True) v (xs ++ allL a (l.take j)) from fun o => Kd.R_below hR (below_alloc (Below.refl _ _) o))
      have HBa := Aside0.mk (show ∀ o, Below w0.heap.size w0 (wr.alloc o) from fun o => below_alloc hK.out.hb o)
      have HSa := Aside0.mk (show ∀ o, w0.heap.size ≤ (wr.alloc o).heap.size from fun o => (below_alloc hK.out.hb o).size)
      clear hR hv hv2
      have htl : (xs ++ allL a (l.take j)).length ≤ 100000 := by rw [List.length_append, hlen]; omega
      go_wp2_with (first
        | ((with_reducible refine gate_bi (b := .append) (xs := #[.tmp 14, .tmp 22]) rfl ?_); at_builtin; refine Kd.R_append kSy (w0 := w0) w0.heap.size rfl (.tmp 14) (.tmp 22) 104 30 (.agg #[(.string ⟨#[]⟩), (.int .i64 0)]) 24 rfl Tryd.underlying104 info_psy rfl (by decide) (by decide) _ _ (⟨a ++ x.name, x.kind⟩ : Sy) [.string (a ++ x.name), .int .i64 x.kind] (fun _ => True) (fun _ => False) rfl ?aX (kSy_mkM _ _ _ ⟨a ++ x.name, x.kind⟩) (fun _ hk => hk.elim) (fun _ _ => trivial) (HRa.out _) (HBa.out _) (HSa.out _) ?aL ?_; (case aX => (rw [World.size_alloc]; rfl)); (case aL => omega); intro v1 w1 ho hb1 hg hat1; have bk := Aside0.mk (blk_grown (blk_alloc HV.out _) hg hno.out); obtain ⟨D4, e4, n4, hv4⟩ := slice_of ho; subst hv4; have fo := free_of_one bk.out; have hO1 := Aside0.mk ho; have hB1 := Aside0.mk hb1; have hG1 := Aside0.mk hg; have HWk := Aside0.mk (Wk_put hK.out hB1.out hO1.out hG1.out hnw.out bk.out); have cw := cell_of_one HWk.out.bw; have co1 := cell_of_one bk.out; obtain ⟨p0, p1, p2, p3, p4, p5, p6, p7⟩ := box8 ((Below.heap_setCell w1 ⟨Bo, 0, none⟩ (.slice D4 n4 e4) _ (fun e => (hnd.out #[]).2.1 e.symm)).trans (blk_grown ((hnd.out _).2.2) hg (hnd.out #[]).1)); clear ho hb1 hg hat1)
        | (go_at_call 62; refine (ih (nL x.inner) (by omega) x.inner A7 c7 (a ++ x.name ++ dot) ((xs ++ allL a (l.take j)) ++ [⟨a ++ x.name, x.kind⟩]) _ (Nat.le_refl _) (by rw [List.length_append, List.length_singleton, List.length_append, hlen]; omega) (by rw [ByteArray.size_append, ByteArray.size_append]; show a.size + x.name.size + 1 + _ ≤ _; omega) hang.g7 hang.l7 HWk.out).mono ?_; rintro e w3 ⟨rfl, hW3⟩; have HW3 := Aside0.mk hW3; clear hW3))
      go_roundw
      case rel => exact ⟨j + 1, by omega, by go_num, ⟨by rw [take_step hx, allL_append, allL_one, all_mk]; have h := HW3.out; rw [List.append_assoc, List.append_assoc] at h; exact h⟩⟩
      case measure => simp [intOf]; omega
    · go_wp2
      go_end0
      exact ⟨rfl, by have h := hK.out; rwa [take_all (by omega)] at h⟩
end Go.Proofs.YtfcpfbdlkanlpaaDoor
