/- The first argument, opened: declarations, however deep. -/
import Derived.Test.YtfcpfbdlkanlpaaDoorOpen
namespace Go.Proofs.YtfcpfbdlkanlpaaDoor
open Go.RowKit Go.Proofs.YtfcpfbdlkanlpaaDoorW.PrintWords Go.Proofs.YtfcpfbdlkanlpaaDoorW.PrintLast
set_option linter.unusedVariables false

theorem len2 {l : List Value} (h : l.length = 2) : ∃ a0 a1, l = [a0, a1] := by
  match l, h with
  | [a0, a1], _ => exact ⟨a0, a1, rfl⟩
theorem len4 {l : List Value} (h : l.length = 4) : ∃ a0 a1 a2 a3, l = [a0, a1, a2, a3] := by
  match l, h with
  | [a0, a1, a2, a3], _ => exact ⟨a0, a1, a2, a3, rfl⟩
theorem len5 {l : List Value} (h : l.length = 5) : ∃ a0 a1 a2 a3 a4, l = [a0, a1, a2, a3, a4] := by
  match l, h with
  | [a0, a1, a2, a3, a4], _ => exact ⟨a0, a1, a2, a3, a4, rfl⟩
theorem len6 {l : List Value} (h : l.length = 6) : ∃ a0 a1 a2 a3 a4 a5, l = [a0, a1, a2, a3, a4, a5] := by
  match l, h with
  | [a0, a1, a2, a3, a4, a5], _ => exact ⟨a0, a1, a2, a3, a4, a5, rfl⟩
theorem len8 {l : List Value} (h : l.length = 8) : ∃ a0 a1 a2 a3 a4 a5 a6 a7, l = [a0, a1, a2, a3, a4, a5, a6, a7] := by
  match l, h with
  | [a0, a1, a2, a3, a4, a5, a6, a7], _ => exact ⟨a0, a1, a2, a3, a4, a5, a6, a7, rfl⟩
section
variable {H : Type} {enc : TypeId × Value → H} {w : World} {base : Nat} {spare : Nat → Bool} {held : Bool}

theorem open_fields {t : TypeId} {fs : Array Field} (hu : Tryd.prog.underlying t = some (.struct fs)) {fuel : Nat} {cs : List Value} {x : DataW H × List MemPlace} (h : DataW.trod enc Tryd.prog w base spare held fuel t cs = some x) (hs : Szd t x.1) :
    ∃ n, fuel = n + 1 ∧ cs.length = Tryd.prog.cellsOf t ∧ ∀ (i : Nat) (f : Field), fs[i]? = some f → ∃ y, DataW.trod enc Tryd.prog w base spare held n f.type ((cs.drop f.offset).take (Tryd.prog.cellsOf f.type)) = some y ∧ Szd f.type y.1 := by
  obtain ⟨xs, n, rfl, rfl, hl, hxl, hf⟩ := DataW.trod_struct hu h
  refine ⟨n, rfl, hl, fun i f hi => ?_⟩
  have hlt : i < xs.length := by rw [hxl]; exact (Array.getElem?_eq_some_iff.1 hi).1
  refine ⟨xs[i], by rw [hf i f hi, List.getElem?_eq_getElem hlt], szd_struct hu hs hi ?_⟩
  rw [List.getElem?_map, List.getElem?_eq_getElem hlt]; rfl
theorem cells1 : Tryd.prog.cellsOf 3 = 1 ∧ Tryd.prog.cellsOf 9 = 1 ∧ Tryd.prog.cellsOf 4 = 1 ∧ Tryd.prog.cellsOf 41 = 2 ∧ Tryd.prog.cellsOf 68 = 6 ∧ Tryd.prog.cellsOf 71 = 4 ∧ Tryd.prog.cellsOf 74 = 5 ∧ Tryd.prog.cellsOf 61 = 8 := ⟨by kernel_rfl, by kernel_rfl, by kernel_rfl, by kernel_rfl, by kernel_rfl, by kernel_rfl, by kernel_rfl, by kernel_rfl⟩
theorem cellsS : Tryd.prog.cellsOf 57 = 1 ∧ Tryd.prog.cellsOf 58 = 1 ∧ Tryd.prog.cellsOf 59 = 1 ∧ Tryd.prog.cellsOf 22 = 1 := ⟨by kernel_rfl, by kernel_rfl, by kernel_rfl, by kernel_rfl⟩
theorem open_str {fuel : Nat} {cs : List Value} {x : DataW H × List MemPlace} (h : DataW.trod enc Tryd.prog w base spare held fuel 9 cs = some x) (hs : Szd 9 x.1) : ∃ s : ByteArray, cs = [.string s] ∧ s.size ≤ 140737488351232 := by
  obtain ⟨s, rfl, rfl, _⟩ := DataW.trod_string Tryd.underlying9 h
  have h1 := szd_str hs
  rw [Array.length_toList] at h1
  exact ⟨s, rfl, h1⟩
theorem open_num {fuel : Nat} {cs : List Value} {x : DataW H × List MemPlace} (h : DataW.trod enc Tryd.prog w base spare held fuel 3 cs = some x) : ∃ n : Int, cs = [.int .i64 n] := by
  obtain ⟨n, rfl, _⟩ := DataW.trod_int Tryd.underlying3 h
  exact ⟨n, rfl⟩
theorem fld {fs : Array Field} {n : Nat} {cs : List Value} (hf : ∀ (i : Nat) (f : Field), fs[i]? = some f → ∃ y, DataW.trod enc Tryd.prog w base spare held n f.type ((cs.drop f.offset).take (Tryd.prog.cellsOf f.type)) = some y ∧ Szd f.type y.1)
    {i ty off k : Nat} (hi : (fs[i]?).map (fun f => (f.type, f.offset)) = some (ty, off)) (hk : Tryd.prog.cellsOf ty = k) : ∃ y, DataW.trod enc Tryd.prog w base spare held n ty ((cs.drop off).take k) = some y ∧ Szd ty y.1 := by
  obtain ⟨f, hf1, hf2⟩ := Option.map_eq_some_iff.1 hi
  obtain ⟨rfl, rfl⟩ := Prod.mk.inj hf2
  subst hk
  exact hf i f hf1
theorem open_pos {fuel : Nat} {cs : List Value} {x : DataW H × List MemPlace} (h : DataW.trod enc Tryd.prog w base spare held fuel 41 cs = some x) (hs : Szd 41 x.1) : ∃ p : Pos, cs = [.int .i64 p.line, .int .i64 p.col] := by
  obtain ⟨n, _, hl, hf⟩ := open_fields Tryd.underlying41 h hs
  rw [cells1.2.2.2.1] at hl
  obtain ⟨a0, a1, rfl⟩ := len2 hl
  obtain ⟨y0, h0, s0⟩ := fld hf (i := 0) (ty := 3) (off := 0) rfl cells1.1
  obtain ⟨l, e0⟩ := open_num h0
  have e0' : [a0] = [.int .i64 l] := e0
  obtain ⟨y1, h1, s1⟩ := fld hf (i := 1) (ty := 3) (off := 1) rfl cells1.1
  obtain ⟨c, e1⟩ := open_num h1
  have e1' : [a1] = [.int .i64 c] := e1
  cases e0'; cases e1'
  exact ⟨⟨l, c⟩, rfl⟩
theorem open_fl {fuel : Nat} {cs : List Value} {x : DataW H × List MemPlace} (h : DataW.trod enc Tryd.prog w base spare held fuel 68 cs = some x) (hs : Szd 68 x.1) : ∃ p : Fl, kFl.K w p cs ∧ p.ok := by
  obtain ⟨n, _, hl, hf⟩ := open_fields Tryd.underlying68 h hs
  rw [cells1.2.2.2.2.1] at hl
  obtain ⟨a0, a1, a2, a3, a4, a5, rfl⟩ := len6 hl
  obtain ⟨y0, h0, s0⟩ := fld hf (i := 0) (ty := 4) (off := 0) rfl cells1.2.2.1
  obtain ⟨b, e0, _⟩ := DataW.trod_bool Tryd.underlying4 h0
  have e0' : [a0] = [.bool b] := e0
  obtain ⟨y1, h1, s1⟩ := fld hf (i := 1) (ty := 9) (off := 1) rfl cells1.2.1
  obtain ⟨ty, e1, z1⟩ := open_str h1 s1
  have e1' : [a1] = [.string ty] := e1
  obtain ⟨y2, h2, s2⟩ := fld hf (i := 2) (ty := 9) (off := 2) rfl cells1.2.1
  obtain ⟨nm, e2, z2⟩ := open_str h2 s2
  have e2' : [a2] = [.string nm] := e2
  obtain ⟨y3, h3, s3⟩ := fld hf (i := 3) (ty := 3) (off := 3) rfl cells1.1
  obtain ⟨k, e3⟩ := open_num h3
  have e3' : [a3] = [.int .i64 k] := e3
  obtain ⟨y4, h4, s4⟩ := fld hf (i := 4) (ty := 41) (off := 4) rfl cells1.2.2.2.1
  obtain ⟨p, e4⟩ := open_pos h4 s4
  have e4' : [a4, a5] = [.int .i64 p.line, .int .i64 p.col] := e4
  cases e0'; cases e1'; cases e2'; cases e3'; cases e4'
  exact ⟨⟨b, ty, nm, k, p⟩, kFl_mk w _, ⟨z1, z2⟩⟩
theorem open_va {fuel : Nat} {cs : List Value} {x : DataW H × List MemPlace} (h : DataW.trod enc Tryd.prog w base spare held fuel 71 cs = some x) (hs : Szd 71 x.1) : ∃ p : Va, kVa.K w p cs ∧ p.ok := by
  obtain ⟨n, _, hl, hf⟩ := open_fields Tryd.underlying71 h hs
  rw [cells1.2.2.2.2.2.1] at hl
  obtain ⟨a0, a1, a2, a3, rfl⟩ := len4 hl
  obtain ⟨y0, h0, s0⟩ := fld hf (i := 0) (ty := 9) (off := 0) rfl cells1.2.1
  obtain ⟨nm, e0, z0⟩ := open_str h0 s0
  have e0' : [a0] = [.string nm] := e0
  obtain ⟨y1, h1, s1⟩ := fld hf (i := 1) (ty := 3) (off := 1) rfl cells1.1
  obtain ⟨k, e1⟩ := open_num h1
  have e1' : [a1] = [.int .i64 k] := e1
  obtain ⟨y2, h2, s2⟩ := fld hf (i := 2) (ty := 41) (off := 2) rfl cells1.2.2.2.1
  obtain ⟨p, e2⟩ := open_pos h2 s2
  have e2' : [a2, a3] = [.int .i64 p.line, .int .i64 p.col] := e2
  cases e0'; cases e1'; cases e2'
  exact ⟨⟨nm, k, p⟩, kVa_mk w _, ⟨z0⟩⟩
theorem open_me {fuel : Nat} {cs : List Value} {x : DataW H × List MemPlace} (h : DataW.trod enc Tryd.prog w base spare held fuel 74 cs = some x) (hs : Szd 74 x.1) : ∃ p : Me, kMe.K w p cs ∧ p.ok := by
  obtain ⟨n, _, hl, hf⟩ := open_fields Tryd.underlying74 h hs
  rw [cells1.2.2.2.2.2.2.1] at hl
  obtain ⟨a0, a1, a2, a3, a4, rfl⟩ := len5 hl
  obtain ⟨y0, h0, s0⟩ := fld hf (i := 0) (ty := 9) (off := 0) rfl cells1.2.1
  obtain ⟨nm, e0, z0⟩ := open_str h0 s0
  have e0' : [a0] = [.string nm] := e0
  obtain ⟨y1, h1, s1⟩ := fld hf (i := 1) (ty := 9) (off := 1) rfl cells1.2.1
  obtain ⟨ip, e1, z1⟩ := open_str h1 s1
  have e1' : [a1] = [.string ip] := e1
  obtain ⟨y2, h2, s2⟩ := fld hf (i := 2) (ty := 9) (off := 2) rfl cells1.2.1
  obtain ⟨op, e2, z2⟩ := open_str h2 s2
  have e2' : [a2] = [.string op] := e2
  obtain ⟨y3, h3, s3⟩ := fld hf (i := 3) (ty := 41) (off := 3) rfl cells1.2.2.2.1
  obtain ⟨p, e3⟩ := open_pos h3 s3
  have e3' : [a3, a4] = [.int .i64 p.line, .int .i64 p.col] := e3
  cases e0'; cases e1'; cases e2'; cases e3'
  exact ⟨⟨nm, ip, op, p⟩, kMe_mk w _, ⟨z0, z1, z2⟩⟩
theorem bytes1 : 1 ≤ Tryd.prog.bytesOf 68 ∧ 1 ≤ Tryd.prog.bytesOf 71 ∧ 1 ≤ Tryd.prog.bytesOf 74 ∧ 1 ≤ Tryd.prog.bytesOf 61 := ⟨of_decide_eq_true (by kernel_rfl), of_decide_eq_true (by kernel_rfl), of_decide_eq_true (by kernel_rfl), of_decide_eq_true (by kernel_rfl)⟩
theorem okL_of {l : List De} (h : ∀ p ∈ l, p.ok) : okL l := by
  induction l with
  | nil => trivial
  | cons d l ih => exact ⟨h d List.mem_cons_self, ih (fun p hp => h p (List.mem_cons_of_mem _ hp))⟩
theorem de_ok {d : De} (h1 : d.own) (h2 : okL d.inner) : d.ok := by cases d; exact ⟨h1, h2⟩
theorem open_de : ∀ (fuel : Nat) (cs : List Value) (x : DataW H × List MemPlace), DataW.trod enc Tryd.prog w base spare held fuel 61 cs = some x → Szd 61 x.1 → ∃ p : De, kR.K w p cs ∧ p.ok := by
  intro fuel
  induction fuel using Nat.strongRecOn with
  | _ fuel ih =>
  intro cs x h hs
  obtain ⟨n, rfl, hl, hf⟩ := open_fields Tryd.underlying61 h hs
  rw [cells1.2.2.2.2.2.2.2] at hl
  obtain ⟨a0, a1, a2, a3, a4, a5, a6, a7, rfl⟩ := len8 hl
  obtain ⟨y0, h0, s0⟩ := fld hf (i := 0) (ty := 3) (off := 0) rfl cells1.1
  obtain ⟨y1, h1, s1⟩ := fld hf (i := 1) (ty := 9) (off := 1) rfl cells1.2.1
  obtain ⟨y2, h2, s2⟩ := fld hf (i := 2) (ty := 41) (off := 2) rfl cells1.2.2.2.1
  obtain ⟨y3, h3, s3⟩ := fld hf (i := 3) (ty := 57) (off := 4) rfl cellsS.1
  obtain ⟨y4, h4, s4⟩ := fld hf (i := 4) (ty := 58) (off := 5) rfl cellsS.2.1
  obtain ⟨y5, h5, s5⟩ := fld hf (i := 5) (ty := 59) (off := 6) rfl cellsS.2.2.1
  obtain ⟨y6, h6, s6⟩ := fld hf (i := 6) (ty := 22) (off := 7) rfl cellsS.2.2.2
  obtain ⟨k, e0⟩ := open_num h0
  obtain ⟨nm, e1, z1⟩ := open_str h1 s1
  obtain ⟨p, e2⟩ := open_pos h2 s2
  obtain ⟨A4, l4, c4, e4, q4, r4, g4, o4⟩ := open_kd kFl Tryd.underlying57 cells1.2.2.2.2.1 bytes1.1 Fl.ok (fun m _ cs x h hs => open_fl h hs) h3 s3
  obtain ⟨A5, l5, c5, e5, q5, r5, g5, o5⟩ := open_kd kVa Tryd.underlying58 cells1.2.2.2.2.2.1 bytes1.2.1 Va.ok (fun m _ cs x h hs => open_va h hs) h4 s4
  obtain ⟨A6, l6, c6, e6, q6, r6, g6, o6⟩ := open_kd kMe Tryd.underlying59 cells1.2.2.2.2.2.2.1 bytes1.2.2.1 Me.ok (fun m _ cs x h hs => open_me h hs) h5 s5
  obtain ⟨A7, l7, c7, e7, q7, r7, g7, o7⟩ := open_kd kR Tryd.underlying22 cells1.2.2.2.2.2.2.2 bytes1.2.2.2 De.ok (fun m hm cs x h hs => ih m (by omega) cs x h hs) h6 s6
  have e0' : [a0] = [.int .i64 k] := e0
  have e1' : [a1] = [.string nm] := e1
  have e2' : [a2, a3] = [.int .i64 p.line, .int .i64 p.col] := e2
  have e4' : [a4] = [.slice A4 l4.length c4] := e4
  have e5' : [a5] = [.slice A5 l5.length c5] := e5
  have e6' : [a6] = [.slice A6 l6.length c6] := e6
  have e7' : [a7] = [.slice A7 l7.length c7] := e7
  cases e0'; cases e1'; cases e2'; cases e4'; cases e5'; cases e6'; cases e7'
  exact ⟨.mk k nm p l4 l5 l6 l7, kDe_mk w (.mk k nm p l4 l5 l6 l7) q4 g4 q5 g5 q6 g6 q7 g7, de_ok ⟨z1, r4, r5, r6, r7, o4, o5, o6⟩ (okL_of o7)⟩
/-- The argument. -/
theorem open_list {fuel : Nat} {v : Value} {x : DataW H × List MemPlace} (h : DataW.trod enc Tryd.prog w base spare held fuel 22 [v] = some x) (hs : Szd 22 x.1) :
    ∃ (A : Option Addr) (l : List De) (c : Nat), v = .slice A l.length c ∧ l.length ≤ c ∧ l.length ≤ 140737488351232 ∧ kR.C w A l.length l ∧ okL l := by
  obtain ⟨A, l, c, e, q, r, g, o⟩ := open_kd kR Tryd.underlying22 cells1.2.2.2.2.2.2.2 bytes1.2.2.2 De.ok (fun m hm cs x h hs => open_de m cs x h hs) h hs
  exact ⟨A, l, c, by simpa using e, q, r, g, okL_of o⟩
end
end Go.Proofs.YtfcpfbdlkanlpaaDoor
