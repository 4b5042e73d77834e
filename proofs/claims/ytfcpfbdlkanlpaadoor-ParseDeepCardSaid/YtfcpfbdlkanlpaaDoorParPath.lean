/- The parser's path, by contract. -/
import Derived.Test.YtfcpfbdlkanlpaaDoorParNum
namespace Go.Proofs.YtfcpfbdlkanlpaaDoor
open Go.RowKit Go.Proofs.YtfcpfbdlkanlpaaDoorW.PrintWords Go.Proofs.YtfcpfbdlkanlpaaDoorW.PrintLast
set_option linter.unusedVariables false
set_option linter.unusedSimpArgs false

theorem info_string : (Tryd.prog.info? 9).map (fun i => (i.zero, i.size, i.bytes)) = some (some (.string ⟨#[]⟩), 1, 16) := by kernel_rfl
theorem Got.own {base b : Nat} {en : Pos} {ws : List Wd} {w W w1 : World} (h : Got base b en ws w W) {row : Option Nat} (hg : W.grownBy w1 row) (hr : ∀ k, row = some k → w.heap.size ≤ k) (hb : b < w.heap.size) : Got base b en ws w w1 := by
  obtain ⟨v, p, c⟩ := h
  have hs := c.size
  have hne : ∀ k, k < w.heap.size → some k ≠ row := fun k hk e => by have := hr k e.symm; omega
  refine ⟨v, ⟨blk_grown p.blk hg (hne b hb), Kd.Q_move p.row (fun k hk => hg.block k (by omega) (hne k (by omega))), p.ok⟩, ?_⟩
  exact ⟨hg.os.trans c.g.os, hg.tape.trans c.g.tape, hg.output.trans c.g.output, Nat.le_trans c.size hg.size, fun i hi hn => (hg.block i (by omega) (hne i hi)).trans (c.g.block i hi hn)⟩
/-- The names so far. -/
structure Ns (base b : Nat) (en p : Pos) (g : Nat) (w : World) (v : Value) (l : List ByteArray) (ws : List Wd) (wr : World) : Prop where
  got : Got base b en ws w wr
  row : Kd.string.R 9 wr w.heap.size (fun k => k ≠ b) v l
  pl : wr.heap[g]? = some (.cells #[.int .i64 p.line, .int .i64 p.col] 41 (0, 0))
  lo : w.heap.size ≤ g
  sz : ∀ x ∈ l, x.size ≤ 100000
section
variable {base b : Nat} {en p : Pos} {g : Nat} {w : World} {v : Value} {l : List ByteArray} {ws ws1 : List Wd} {wr w1 : World}
theorem Ns.got_ (h : Ns base b en p g w v l ws wr) (hb : b < w.heap.size) (k : Got base b en ws1 wr w1) : Ns base b en p g w v l ws1 w1 :=
  ⟨Got.then h.got.ch k, Kd.R_grown h.row k.ch.g (fun k hk e => hk (Option.some.inj e)), k.ch.blk h.pl (by have := h.lo; omega), h.lo, h.sz⟩
theorem Ns.alloc (h : Ns base b en p g w v l ws wr) (o : Obj) : Ns base b en p g w v l ws (wr.alloc o) :=
  ⟨h.got.alloc o, Kd.R_alloc h.row o, blk_alloc h.pl o, h.lo, h.sz⟩
theorem Ns.push (h : Ns base b en p g w v l ws wr) (hb : b < w.heap.size) {v1 : Value} {x : ByteArray} (ho : Kd.string.R 9 w1 w.heap.size (fun k => k ≠ b) v1 (l ++ [x])) (hg : wr.grownBy w1 v.ownBlock) (hx : x.size ≤ 100000) : Ns base b en p g w v1 (l ++ [x]) ws w1 :=
  ⟨h.got.own hg (fun k e => Kd.R_base h.row k e) hb, ho, blk_grown h.pl hg (Kd.R_ne h.row h.pl (by decide)), h.lo, fun y hy => by
    rcases List.mem_append.1 hy with hy | hy
    · exact h.sz y hy
    · rw [List.mem_singleton.1 hy]; exact hx⟩
end
def pathV : ByteArray → Value → World → Prop := fun s u _ => u = .string s
theorem join_size (l : List ByteArray) (h : ∀ x ∈ l, x.size ≤ 100000) (hl : l.length ≤ 1000) : (Lib.join (l.map (·.data.toList)) [46]).length ≤ 100000000 + 1000 := by
  rcases l with _ | ⟨a, l⟩
  · simp [Lib.join_nil]
  · have hlen : ∀ r : List ByteArray, (∀ x ∈ r, x.size ≤ 100000) → Lib.lens (r.map (·.data.toList)) ≤ r.length * 100000 := by
      intro r
      induction r with
      | nil => intro _; simp [Lib.lens]
      | cons y r ih =>
        intro hr
        have h1 := ih (fun x hx => hr x (List.mem_cons_of_mem _ hx))
        have h2 := hr y (List.mem_cons_self ..)
        have h3 : y.data.toList.length = y.size := by rw [Array.length_toList]; rfl
        have h4 : Lib.lens ((y :: r).map (·.data.toList)) = y.data.toList.length + Lib.lens (r.map (·.data.toList)) := by simp [Lib.lens]
        rw [h4, h3, List.length_cons]
        omega
    have h1 := hlen (a :: l) h
    rw [List.map_cons, Lib.join_length]
    rw [List.map_cons] at h1
    simp only [List.length_cons, List.length_nil, List.length_map] at h1 hl ⊢
    have h2 : (l.length + 1) * 100000 ≤ 1000 * 100000 := Nat.mul_le_mul_right _ hl
    omega
def lenV : Value → Nat
  | .slice _ n _ => n
  | _ => 0
theorem str_lit (W : World) (base : Nat) (ok : Nat → Prop) (x : ByteArray) (hb : base ≤ W.heap.size) (hok : ok W.heap.size) : Kd.string.R 9 (W.alloc (.cells #[.string x] 9)) base ok (.slice (some ⟨W.heap.size, 0, none⟩) 1 1) [x] :=
  ⟨fun k hk => by have h1 : W.heap.size = k := by simpa [Value.ownBlock] using hk
                  rw [← h1]; exact hok, OwnRow.lit W _ (Kd.reps_scalar ([x] : List ByteArray)) hb (by simp)⟩
theorem nameP_ok {en : Pos} {ws ws1 : List Wd} {x : ByteArray × Pos} (h : nameP en ws = .ok x ws1) (hk : ∀ y ∈ ws, y.ok) : x.1.size ≤ 100000 := by
  unfold nameP at h
  split at h
  · rename_i hc
    cases h
    exact (hk _ (peek_mem (by rw [hc.1]; decide))).z
  · cases h
theorem pathGo_step (en : Pos) (p : Pos) (l : List ByteArray) (ws : List Wd) (hl : l.length ≤ 9) : pathGo en (10 - l.length) p l ws = if haveB en kDot ws then (nameP en ws.tail).bind fun x ws1 => if 8 < (l ++ [x.1]).length then .bad 8 p else pathGo en (10 - (l ++ [x.1]).length) p (l ++ [x.1]) ws1 else .ok l ws := by
  have e : 10 - l.length = (9 - l.length) + 1 := by omega
  rw [e]
  simp only [pathGo]
  have e2 : ∀ x : ByteArray, 10 - (l ++ [x]).length = 9 - l.length := fun x => by rw [List.length_append, List.length_singleton]; omega
  simp only [e2]
set_option maxHeartbeats 2000000 in
set_option maxRecDepth 20000 in
theorem ppath_got {base b : Nat} {en : Pos} {ws : List Wd} (w : World) (h : Got base b en ws w w) :
    Calls Tryd.prog 60 #[.pointer (some ⟨b, 0, none⟩)] w fun e w' => Post base b en w pathV (pathP en ws) e w' := by
  have H := Aside0.mk h
  have hbl := h.blt
  have hoks := Lib.hid h.oks
  clear h
  obtain ⟨ans, hans⟩ : ∃ a, a = pathP en ws := ⟨_, rfl⟩
  rw [← hans]
  unfold pathP at hans
  cases hn : nameP en ws with
  | bad er p =>
    rw [hn] at hans
    have HA := Aside0.mk hans
    have HN := Lib.hid hn
    clear hans hn
    go_enter Tryd.func60, Tryd.ntmps60
    go_wp2_with (go_at_call 56; refine (pname_got _ H.out).mono ?_; rintro e w1 hp; obtain ⟨rfl, hc⟩ := hp.bad HN.out; have HC := Aside0.mk hc; clear hp hc; unfold flt)
    refine ⟨rfl, ?_⟩
    rw [HA.out]
    exact ⟨rfl, HC.out⟩
  | ok x ws1 =>
    have hx1 := nameP_ok hn hoks.out
    rw [hn] at hans
    obtain ⟨res, hres⟩ : ∃ r, r = pathGo en 9 x.2 [x.1] ws1 := ⟨_, rfl⟩
    rw [Rs.bind_ok, ← hres] at hans
    have HA := Aside0.mk hans
    have HN := Lib.hid hn
    have HR := Lib.hid hres
    clear hans hn hres
    go_enter Tryd.func60, Tryd.ntmps60
    go_wp2_with (go_at_call 56; refine (pname_got _ H.out).mono ?_; rintro e w1 hp; obtain ⟨u, rfl, hu, hg⟩ := hp.ok HN.out; (have hu' : u = .tuple #[.string x.1, .agg #[.int .i64 x.2.line, .int .i64 x.2.col]] := hu); subst hu'; have HG := Aside0.mk hg; clear hp hu hg)
    have hs1 := HG.out.ch.size
    have hsa : (w1.alloc (.cells #[.int .i64 x.2.line, .int .i64 x.2.col] 41)).heap.size = w1.heap.size + 1 := World.size_alloc _ _
    have HS := Aside0.mk (show Ns base b en x.2 w1.heap.size w (.slice (some ⟨w1.heap.size + 1, 0, none⟩) 1 1) [x.1] ws1 ((w1.alloc (.cells #[.int .i64 x.2.line, .int .i64 x.2.col] 41)).alloc (.cells #[.string x.1] 9)) from
      ⟨(HG.out.alloc _).alloc _, by have h := str_lit (w1.alloc (.cells #[.int .i64 x.2.line, .int .i64 x.2.col] 41)) w.heap.size (fun k => k ≠ b) x.1 (by omega) (by omega); rwa [hsa] at h, blk_alloc (blk_new w1 _) _, hs1, fun y hy => by rw [List.mem_singleton.1 hy]; exact hx1⟩)
    obtain ⟨g, hg⟩ : ∃ g, g = w1.heap.size := ⟨_, rfl⟩
    clear hsa
    go_loopw [5] (fun v wr => ∃ (l : List ByteArray) (ws2 : List Wd), 1 ≤ l.length ∧ l.length ≤ 8 ∧ lenV v = l.length ∧ Aside0 (Ns base b en x.2 w1.heap.size w v l ws2 wr ∧ pathGo en (10 - l.length) x.2 l ws2 = res)) (fun v _ => 9 - lenV v)
    case atStart => exact ⟨[x.1], ws1, by simp, by simp, rfl, ⟨HS.out, HR.out.symm⟩⟩
    case round =>
      obtain ⟨l, ws2, h1, h8, hlv, hR⟩ := hrel
      have HNs := Aside0.mk hR.out.1
      have HL := Aside0.mk hR.out.1.got.here
      have hw := hR.out.2
      rw [pathGo_step en x.2 l ws2 (by omega)] at hw
      clear hR
      obtain ⟨gk, cap, hv, hgb, hgl, _⟩ := Kd.R_form HNs.out.row (by omega)
      cases hh : haveB en kDot ws2 with
      | false =>
        rw [hh] at hw
        have HW := Aside0.mk (show Rs.ok l ws2 = res from hw)
        have HH := Lib.hid hh
        clear hw hh
        subst hv
        have hjs := join_size l HNs.out.sz (by omega)
        go_wp2_with (first
          | (go_at_call 29; refine (have_got ⟨#[46]⟩ kDot rfl HL.out).mono ?_; rintro e w2 ⟨rfl, hg2⟩; rw [HH.out] at hg2 ⊢; have HN2 := Aside0.mk (HNs.out.got_ hbl hg2); clear hg2)
          | (go_at_call 80; refine (Tryd.strings_Join gk 0 cap l ⟨#[46]⟩ _ ?hc1 ?hc2 ?hc3 ?hc4 ?hc5).mono ?_; (case hc1 => (intro j y hy; obtain ⟨ad, e1, e2⟩ := C_str (Kd.R_reads' HN2.out.row).2.2 hy; cases e1; rw [add_plain] at e2; rw [Nat.zero_add]; exact e2)); (case hc2 => exact Kd.R_lt HN2.out.row gk rfl); (case hc3 => omega); (case hc4 => exact (Kd.R_reads' HN2.out.row).2.1); (case hc5 => (refine Nat.le_trans hjs ?_; decide)); rintro e w3 ⟨rfl, hb3⟩; have HB3 := Aside0.mk hb3; clear hb3))
        go_ret
        rw [HA.out, ← HW.out]
        exact ⟨_, rfl, rfl, HN2.out.got.below HB3.out⟩
      | true =>
        rw [hh, if_pos rfl] at hw
        have HH := Lib.hid hh
        clear hh
        subst hv
        cases hn2 : nameP en ws2.tail with
        | bad er q =>
          rw [hn2] at hw
          have HW := Aside0.mk (show Rs.bad er q = res from hw)
          have HM := Lib.hid hn2
          clear hw hn2
          go_wp2_with (first
            | (go_at_call 29; refine (have_got ⟨#[46]⟩ kDot rfl HL.out).mono ?_; rintro e w2 ⟨rfl, hg2⟩; rw [HH.out] at hg2 ⊢; have HN2 := Aside0.mk (HNs.out.got_ hbl hg2); clear hg2)
            | (go_at_call 56; refine (pname_got _ HN2.out.got.here).mono ?_; rintro e w3 hp; obtain ⟨rfl, hc⟩ := hp.bad HM.out; have HC := Aside0.mk hc; clear hp hc; unfold flt))
          refine ⟨rfl, ?_⟩
          rw [HA.out, ← HW.out]
          exact ⟨rfl, HN2.out.got.ch.trans HC.out⟩
        | ok y ws3 =>
          have hy1 := nameP_ok hn2 (fun z hz => HNs.out.got.oks z (List.mem_of_mem_tail hz))
          rw [hn2, Rs.bind_ok] at hw
          have HM := Lib.hid hn2
          clear hn2
          by_cases hlen : 8 < (l ++ [y.1]).length
          · rw [if_pos hlen] at hw
            have HW := Aside0.mk hw
            have hgt : decide (8 < ((l.length : Int) + 1)) = true := decide_eq_true (by rw [List.length_append, List.length_singleton] at hlen; omega)
            have hl1 := Lib.hid (show (l ++ [y.1]).length = l.length + 1 by rw [List.length_append, List.length_singleton])
            clear hw hlen
            go_wp2_with (first
              | (go_at_call 29; refine (have_got ⟨#[46]⟩ kDot rfl HL.out).mono ?_; rintro e w2 ⟨rfl, hg2⟩; rw [HH.out] at hg2 ⊢; have HN2 := Aside0.mk (HNs.out.got_ hbl hg2); clear hg2)
              | (go_at_call 56; refine (pname_got _ HN2.out.got.here).mono ?_; rintro e w3 hp; obtain ⟨u, rfl, hu, hg3⟩ := hp.ok HM.out; (have hu' : u = .tuple #[.string y.1, .agg #[.int .i64 y.2.line, .int .i64 y.2.col]] := hu); subst hu'; have HN3 := Aside0.mk ((HN2.out.got_ hbl hg3).alloc (.cells #[.int .i64 y.2.line, .int .i64 y.2.col] 41)); clear hp hu hg3)
              | ((with_reducible refine gate_bi (b := .append) (xs := #[.tmp 22, .tmp 24]) rfl ?_); at_builtin; refine Kd.R_append Kd.string (w0 := w3.alloc (.cells #[.int .i64 y.2.line, .int .i64 y.2.col] 41)) (W := w3.alloc (.cells #[.int .i64 y.2.line, .int .i64 y.2.col] 41)) w.heap.size rfl (.tmp 22) (.tmp 24) 35 9 (.string ⟨#[]⟩) 16 rfl Tryd.underlying35 info_string rfl (by decide) (by decide) _ _ y.1 [.string y.1] (fun k => k ≠ b) (fun _ => False) rfl ?aX rfl (fun _ hk => hk.elim) ?aF HN3.out.row (Below.refl _ _) ?aS ?aL ?_; (case aX => (rw [World.size_alloc]; rfl)); (case aF => (intro k hk; have h2 := HN3.out.got.ch.size; omega)); (case aS => exact HN3.out.got.ch.size); (case aL => omega); intro v1 w4 ho hb hg hat; obtain ⟨D1, e1, hv1⟩ := Kd.R_slice ho; rw [hl1.out] at hv1; subst hv1; have HN4 := Aside0.mk (HN3.out.push hbl ho hg hy1); have bp := HN4.out.pl; have p0 := blk_cell bp 0; have p1 := blk_cell bp 1; clear ho hb hg hat bp)
              | (go_at_call 33; refine (stop_calls _ 8 x.2 _).mono ?_; rintro e w5 ⟨rfl, hb⟩; have HB5 := Aside0.mk hb; clear hb; unfold flt))
            refine ⟨rfl, ?_⟩
            rw [HA.out, ← HW.out]
            exact ⟨rfl, HN4.out.got.ch.below HB5.out⟩
          · rw [if_neg hlen] at hw
            have HW := Aside0.mk hw
            have hl8 : l.length + 1 ≤ 8 := by rw [List.length_append, List.length_singleton] at hlen; omega
            have hgt : decide (8 < ((l.length : Int) + 1)) = false := decide_eq_false (by omega)
            have hl1 := Lib.hid (show (l ++ [y.1]).length = l.length + 1 by rw [List.length_append, List.length_singleton])
            clear hw hlen
            go_wp2_with (first
              | (go_at_call 29; refine (have_got ⟨#[46]⟩ kDot rfl HL.out).mono ?_; rintro e w2 ⟨rfl, hg2⟩; rw [HH.out] at hg2 ⊢; have HN2 := Aside0.mk (HNs.out.got_ hbl hg2); clear hg2)
              | (go_at_call 56; refine (pname_got _ HN2.out.got.here).mono ?_; rintro e w3 hp; obtain ⟨u, rfl, hu, hg3⟩ := hp.ok HM.out; (have hu' : u = .tuple #[.string y.1, .agg #[.int .i64 y.2.line, .int .i64 y.2.col]] := hu); subst hu'; have HN3 := Aside0.mk ((HN2.out.got_ hbl hg3).alloc (.cells #[.int .i64 y.2.line, .int .i64 y.2.col] 41)); clear hp hu hg3)
              | ((with_reducible refine gate_bi (b := .append) (xs := #[.tmp 22, .tmp 24]) rfl ?_); at_builtin; refine Kd.R_append Kd.string (w0 := w3.alloc (.cells #[.int .i64 y.2.line, .int .i64 y.2.col] 41)) (W := w3.alloc (.cells #[.int .i64 y.2.line, .int .i64 y.2.col] 41)) w.heap.size rfl (.tmp 22) (.tmp 24) 35 9 (.string ⟨#[]⟩) 16 rfl Tryd.underlying35 info_string rfl (by decide) (by decide) _ _ y.1 [.string y.1] (fun k => k ≠ b) (fun _ => False) rfl ?aX rfl (fun _ hk => hk.elim) ?aF HN3.out.row (Below.refl _ _) ?aS ?aL ?_; (case aX => (rw [World.size_alloc]; rfl)); (case aF => (intro k hk; have h2 := HN3.out.got.ch.size; omega)); (case aS => exact HN3.out.got.ch.size); (case aL => omega); intro v1 w4 ho hb hg hat; obtain ⟨D1, e1, hv1⟩ := Kd.R_slice ho; rw [hl1.out] at hv1; subst hv1; have HN4 := Aside0.mk (HN3.out.push hbl ho hg hy1); clear ho hb hg hat))
            go_roundw
            case rel => exact ⟨l ++ [y.1], ws3, by rw [hl1.out]; omega, by rw [hl1.out]; exact hl8, by rw [hl1.out]; rfl, ⟨HN4.out, HW.out⟩⟩
            case measure => simp only [lenV]; omega
end Go.Proofs.YtfcpfbdlkanlpaaDoor
