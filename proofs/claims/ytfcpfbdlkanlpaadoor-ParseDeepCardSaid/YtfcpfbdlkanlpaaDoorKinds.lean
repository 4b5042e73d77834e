/- The program's data as Lean data: places, fields, values, methods, declarations, words, symbols; and what their cells say in memory (over the printed words' 'Kd'). -/
import Derived.Test.YtfcpfbdlkanlpaaDoorWWords
import Derived.Test.YtfcpfbdlkanlpaaDoorWLast
namespace Go.Proofs.YtfcpfbdlkanlpaaDoor
open Go.RowKit Go.Proofs.YtfcpfbdlkanlpaaDoorW.PrintWords Go.Proofs.YtfcpfbdlkanlpaaDoorW.PrintLast
set_option linter.unusedVariables false

/-! ### places -/
structure Pos where
  line : Int
  col : Int

def pos0 : Pos := ⟨0, 0⟩
def kPos : Kd Pos := Kd.iso (Kd.pair (Kd.int .i64) (Kd.int .i64)) (fun x : Pos => (x.line, x.col))
theorem kPos_open {w : World} {x : Pos} {cs : List Value} (h : kPos.K w x cs) : cs = [.int .i64 x.line, .int .i64 x.col] := by
  obtain ⟨_, _, rfl, rfl, rfl⟩ := h
  exact rfl
theorem kPos_mk (w : World) (x : Pos) : kPos.K w x [.int .i64 x.line, .int .i64 x.col] := ⟨[.int .i64 x.line], [.int .i64 x.col], rfl, rfl, rfl⟩
theorem kPos_mkM (w : World) (base : Nat) (ok : Nat → Prop) (x : Pos) : kPos.M w base ok x [.int .i64 x.line, .int .i64 x.col] := ⟨[.int .i64 x.line], [.int .i64 x.col], rfl, rfl, rfl⟩

/-! ### fields -/
structure Fl where
  rep : Bool
  ty : ByteArray
  name : ByteArray
  num : Int
  pos : Pos

def fl0 : Fl := ⟨false, ⟨#[]⟩, ⟨#[]⟩, 0, pos0⟩
def kFl : Kd Fl := Kd.iso (Kd.pair Kd.bool (Kd.pair Kd.string (Kd.pair Kd.string (Kd.pair (Kd.int .i64) kPos)))) (fun x : Fl => (x.rep, x.ty, x.name, x.num, x.pos))
def Fl.cells (x : Fl) : List Value := [.bool x.rep, .string x.ty, .string x.name, .int .i64 x.num, .int .i64 x.pos.line, .int .i64 x.pos.col]
theorem kFl_open {w : World} {x : Fl} {cs : List Value} (h : kFl.K w x cs) : cs = [.bool x.rep, .string x.ty, .string x.name, .int .i64 x.num, .int .i64 x.pos.line, .int .i64 x.pos.col] := by
  obtain ⟨_, _, rfl, rfl, ⟨_, _, rfl, rfl, ⟨_, _, rfl, rfl, ⟨_, _, rfl, rfl, s4⟩⟩⟩⟩ := h
  obtain rfl := kPos_open s4
  exact rfl
theorem kFl_mk (w : World) (x : Fl) : kFl.K w x [.bool x.rep, .string x.ty, .string x.name, .int .i64 x.num, .int .i64 x.pos.line, .int .i64 x.pos.col] :=
  ⟨[.bool x.rep], [.string x.ty, .string x.name, .int .i64 x.num, .int .i64 x.pos.line, .int .i64 x.pos.col], rfl, rfl, [.string x.ty], [.string x.name, .int .i64 x.num, .int .i64 x.pos.line, .int .i64 x.pos.col], rfl, rfl, [.string x.name], [.int .i64 x.num, .int .i64 x.pos.line, .int .i64 x.pos.col], rfl, rfl, [.int .i64 x.num], [.int .i64 x.pos.line, .int .i64 x.pos.col], rfl, rfl, kPos_mk w x.pos⟩
theorem kFl_mkM (w : World) (base : Nat) (ok : Nat → Prop) (x : Fl) : kFl.M w base ok x [.bool x.rep, .string x.ty, .string x.name, .int .i64 x.num, .int .i64 x.pos.line, .int .i64 x.pos.col] :=
  ⟨[.bool x.rep], [.string x.ty, .string x.name, .int .i64 x.num, .int .i64 x.pos.line, .int .i64 x.pos.col], rfl, rfl, [.string x.ty], [.string x.name, .int .i64 x.num, .int .i64 x.pos.line, .int .i64 x.pos.col], rfl, rfl, [.string x.name], [.int .i64 x.num, .int .i64 x.pos.line, .int .i64 x.pos.col], rfl, rfl, [.int .i64 x.num], [.int .i64 x.pos.line, .int .i64 x.pos.col], rfl, rfl, kPos_mkM w base ok x.pos⟩

/-! ### values of enums -/
structure Va where
  name : ByteArray
  num : Int
  pos : Pos

def va0 : Va := ⟨⟨#[]⟩, 0, pos0⟩
def kVa : Kd Va := Kd.iso (Kd.pair Kd.string (Kd.pair (Kd.int .i64) kPos)) (fun x : Va => (x.name, x.num, x.pos))
theorem kVa_open {w : World} {x : Va} {cs : List Value} (h : kVa.K w x cs) : cs = [.string x.name, .int .i64 x.num, .int .i64 x.pos.line, .int .i64 x.pos.col] := by
  obtain ⟨_, _, rfl, rfl, ⟨_, _, rfl, rfl, s2⟩⟩ := h
  obtain rfl := kPos_open s2
  exact rfl
theorem kVa_mk (w : World) (x : Va) : kVa.K w x [.string x.name, .int .i64 x.num, .int .i64 x.pos.line, .int .i64 x.pos.col] :=
  ⟨[.string x.name], [.int .i64 x.num, .int .i64 x.pos.line, .int .i64 x.pos.col], rfl, rfl, [.int .i64 x.num], [.int .i64 x.pos.line, .int .i64 x.pos.col], rfl, rfl, kPos_mk w x.pos⟩
theorem kVa_mkM (w : World) (base : Nat) (ok : Nat → Prop) (x : Va) : kVa.M w base ok x [.string x.name, .int .i64 x.num, .int .i64 x.pos.line, .int .i64 x.pos.col] :=
  ⟨[.string x.name], [.int .i64 x.num, .int .i64 x.pos.line, .int .i64 x.pos.col], rfl, rfl, [.int .i64 x.num], [.int .i64 x.pos.line, .int .i64 x.pos.col], rfl, rfl, kPos_mkM w base ok x.pos⟩

/-! ### methods -/
structure Me where
  name : ByteArray
  inp : ByteArray
  out : ByteArray
  pos : Pos

def me0 : Me := ⟨⟨#[]⟩, ⟨#[]⟩, ⟨#[]⟩, pos0⟩
def kMe : Kd Me := Kd.iso (Kd.pair Kd.string (Kd.pair Kd.string (Kd.pair Kd.string kPos))) (fun x : Me => (x.name, x.inp, x.out, x.pos))
theorem kMe_open {w : World} {x : Me} {cs : List Value} (h : kMe.K w x cs) : cs = [.string x.name, .string x.inp, .string x.out, .int .i64 x.pos.line, .int .i64 x.pos.col] := by
  obtain ⟨_, _, rfl, rfl, ⟨_, _, rfl, rfl, ⟨_, _, rfl, rfl, s3⟩⟩⟩ := h
  obtain rfl := kPos_open s3
  exact rfl
theorem kMe_mk (w : World) (x : Me) : kMe.K w x [.string x.name, .string x.inp, .string x.out, .int .i64 x.pos.line, .int .i64 x.pos.col] :=
  ⟨[.string x.name], [.string x.inp, .string x.out, .int .i64 x.pos.line, .int .i64 x.pos.col], rfl, rfl, [.string x.inp], [.string x.out, .int .i64 x.pos.line, .int .i64 x.pos.col], rfl, rfl, [.string x.out], [.int .i64 x.pos.line, .int .i64 x.pos.col], rfl, rfl, kPos_mk w x.pos⟩
theorem kMe_mkM (w : World) (base : Nat) (ok : Nat → Prop) (x : Me) : kMe.M w base ok x [.string x.name, .string x.inp, .string x.out, .int .i64 x.pos.line, .int .i64 x.pos.col] :=
  ⟨[.string x.name], [.string x.inp, .string x.out, .int .i64 x.pos.line, .int .i64 x.pos.col], rfl, rfl, [.string x.inp], [.string x.out, .int .i64 x.pos.line, .int .i64 x.pos.col], rfl, rfl, [.string x.out], [.int .i64 x.pos.line, .int .i64 x.pos.col], rfl, rfl, kPos_mkM w base ok x.pos⟩

/-! ### declarations: the program's and the document's are one Lean type; the kinds part in the element types' numbers -/
inductive De where
  | mk (kind : Int) (name : ByteArray) (pos : Pos) (fs : List Fl) (vs : List Va) (ms : List Me) (inner : List De)
namespace De
def kind : De → Int | mk k _ _ _ _ _ _ => k
def name : De → ByteArray | mk _ n _ _ _ _ _ => n
def pos : De → Pos | mk _ _ p _ _ _ _ => p
def fs : De → List Fl | mk _ _ _ f _ _ _ => f
def vs : De → List Va | mk _ _ _ _ v _ _ => v
def ms : De → List Me | mk _ _ _ _ _ m _ => m
def inner : De → List De | mk _ _ _ _ _ _ i => i
end De
def de0 : De := .mk 0 ⟨#[]⟩ pos0 [] [] [] []
section
variable (eD eF eV eM : Nat)
def FDe (d : Kd De) : Kd De := Kd.iso (Kd.pair (Kd.int .i64) (Kd.pair Kd.string (Kd.pair kPos (Kd.pair (Kd.slice eF kFl) (Kd.pair (Kd.slice eV kVa) (Kd.pair (Kd.slice eM kMe) (Kd.slice eD d))))))) (fun x : De => (x.kind, x.name, x.pos, x.fs, x.vs, x.ms, x.inner))
theorem monoDe : Kd.Mono (FDe eD eF eV eM) := Kd.mono_iso _ (Kd.mono_pair (Kd.mono_const _) (Kd.mono_pair (Kd.mono_const _) (Kd.mono_pair (Kd.mono_const _) (Kd.mono_pair (Kd.mono_const _) (Kd.mono_pair (Kd.mono_const _) (Kd.mono_pair (Kd.mono_const _) (Kd.mono_slice eD Kd.mono_id)))))))
theorem E_int (k : IntKind) : (Kd.int k).E = [] := rfl
theorem E_str : Kd.string.E = [] := rfl
theorem E_pos : kPos.E = [] := rfl
theorem E_fl : kFl.E = [] := rfl
theorem E_va : kVa.E = [] := rfl
theorem E_me : kMe.E = [] := rfl
theorem subDe : Kd.Sub (FDe eD eF eV eM) [eD, eF, eV, eM] := Kd.sub_iso _ (Kd.sub_pair (Kd.sub_const _ (by simp [E_int])) (Kd.sub_pair (Kd.sub_const _ (by simp [E_str])) (Kd.sub_pair (Kd.sub_const _ (by simp [E_pos])) (Kd.sub_pair (Kd.sub_const _ (by simp [Kd.slice, E_fl])) (Kd.sub_pair (Kd.sub_const _ (by simp [Kd.slice, E_va])) (Kd.sub_pair (Kd.sub_const _ (by simp [Kd.slice, E_me])) (Kd.sub_slice eD (by simp) Kd.sub_id)))))))
theorem szDe : ∀ n, (Kd.upto (FDe eD eF eV eM) 8 [eD, eF, eV, eM] n).sz = 8 := Kd.upto_sz (fun _ => rfl)
def kDe : Kd De := Kd.fix (FDe eD eF eV eM) 8 [eD, eF, eV, eM] (szDe eD eF eV eM) (Kd.upto_E (subDe eD eF eV eM))
variable {eD eF eV eM}
theorem kDe_open {w : World} {x : De} {cs : List Value} (h : (kDe eD eF eV eM).K w x cs) : ∃ A4 c4 A5 c5 A6 c6 A7 c7, cs = [.int .i64 x.kind, .string x.name, .int .i64 x.pos.line, .int .i64 x.pos.col, .slice A4 x.fs.length c4, .slice A5 x.vs.length c5, .slice A6 x.ms.length c6, .slice A7 x.inner.length c7] ∧ x.fs.length ≤ c4 ∧ kFl.C w A4 x.fs.length x.fs ∧ x.vs.length ≤ c5 ∧ kVa.C w A5 x.vs.length x.vs ∧ x.ms.length ≤ c6 ∧ kMe.C w A6 x.ms.length x.ms ∧ x.inner.length ≤ c7 ∧ (kDe eD eF eV eM).C w A7 x.inner.length x.inner := by
  obtain ⟨n, h⟩ := h
  cases n with
  | zero => exact h.elim
  | succ n =>
    obtain ⟨_, _, rfl, rfl, ⟨_, _, rfl, rfl, ⟨_, _, rfl, s2, ⟨_, _, rfl, ⟨A4, c4, rfl, l4, g4⟩, ⟨_, _, rfl, ⟨A5, c5, rfl, l5, g5⟩, ⟨_, _, rfl, ⟨A6, c6, rfl, l6, g6⟩, ⟨A7, c7, rfl, l7, g7⟩⟩⟩⟩⟩⟩⟩ := h
    obtain rfl := kPos_open s2
    exact ⟨A4, c4, A5, c5, A6, c6, A7, c7, rfl, l4, g4, l5, g5, l6, g6, l7, Kd.fix_C g7⟩
theorem kDe_mk (w : World) (x : De) {A4 : Option Addr} {c4 : Nat} (l4 : x.fs.length ≤ c4) (g4 : kFl.C w A4 x.fs.length x.fs) {A5 : Option Addr} {c5 : Nat} (l5 : x.vs.length ≤ c5) (g5 : kVa.C w A5 x.vs.length x.vs) {A6 : Option Addr} {c6 : Nat} (l6 : x.ms.length ≤ c6) (g6 : kMe.C w A6 x.ms.length x.ms) {A7 : Option Addr} {c7 : Nat} (l7 : x.inner.length ≤ c7) (g7 : (kDe eD eF eV eM).C w A7 x.inner.length x.inner) : (kDe eD eF eV eM).K w x [.int .i64 x.kind, .string x.name, .int .i64 x.pos.line, .int .i64 x.pos.col, .slice A4 x.fs.length c4, .slice A5 x.vs.length c5, .slice A6 x.ms.length c6, .slice A7 x.inner.length c7] := by
  obtain ⟨n7, q7⟩ := Kd.fix_C_back (monoDe eD eF eV eM) g7
  exact ⟨n7 + 1, [.int .i64 x.kind], [.string x.name, .int .i64 x.pos.line, .int .i64 x.pos.col, .slice A4 x.fs.length c4, .slice A5 x.vs.length c5, .slice A6 x.ms.length c6, .slice A7 x.inner.length c7], rfl, rfl, [.string x.name], [.int .i64 x.pos.line, .int .i64 x.pos.col, .slice A4 x.fs.length c4, .slice A5 x.vs.length c5, .slice A6 x.ms.length c6, .slice A7 x.inner.length c7], rfl, rfl, [.int .i64 x.pos.line, .int .i64 x.pos.col], [.slice A4 x.fs.length c4, .slice A5 x.vs.length c5, .slice A6 x.ms.length c6, .slice A7 x.inner.length c7], rfl, kPos_mk w x.pos, [.slice A4 x.fs.length c4], [.slice A5 x.vs.length c5, .slice A6 x.ms.length c6, .slice A7 x.inner.length c7], rfl, ⟨A4, c4, rfl, l4, g4⟩, [.slice A5 x.vs.length c5], [.slice A6 x.ms.length c6, .slice A7 x.inner.length c7], rfl, ⟨A5, c5, rfl, l5, g5⟩, [.slice A6 x.ms.length c6], [.slice A7 x.inner.length c7], rfl, ⟨A6, c6, rfl, l6, g6⟩, A7, c7, rfl, l7, q7⟩
theorem kDe_openM {w : World} {base : Nat} {ok : Nat → Prop} {x : De} {cs : List Value} (h : (kDe eD eF eV eM).M w base ok x cs) : ∃ v4 v5 v6 v7, cs = [.int .i64 x.kind, .string x.name, .int .i64 x.pos.line, .int .i64 x.pos.col, v4, v5, v6, v7] ∧ kFl.R eF w base ok v4 x.fs ∧ kVa.R eV w base ok v5 x.vs ∧ kMe.R eM w base ok v6 x.ms ∧ (kDe eD eF eV eM).R eD w base ok v7 x.inner := by
  obtain ⟨n, h⟩ := h
  cases n with
  | zero => exact h.elim
  | succ n =>
    obtain ⟨_, _, rfl, rfl, ⟨_, _, rfl, rfl, ⟨_, _, rfl, s2, ⟨_, _, rfl, ⟨v4, rfl, g4⟩, ⟨_, _, rfl, ⟨v5, rfl, g5⟩, ⟨_, _, rfl, ⟨v6, rfl, g6⟩, ⟨v7, rfl, g7⟩⟩⟩⟩⟩⟩⟩ := h
    obtain rfl := kPos_open (Kd.K_of_M _ s2)
    exact ⟨v4, v5, v6, v7, rfl, g4, g5, g6, Kd.fix_R g7⟩
theorem kDe_mkM (w : World) (base : Nat) (ok : Nat → Prop) (x : De) {v4 : Value} (g4 : kFl.R eF w base ok v4 x.fs) {v5 : Value} (g5 : kVa.R eV w base ok v5 x.vs) {v6 : Value} (g6 : kMe.R eM w base ok v6 x.ms) {v7 : Value} (g7 : (kDe eD eF eV eM).R eD w base ok v7 x.inner) : (kDe eD eF eV eM).M w base ok x [.int .i64 x.kind, .string x.name, .int .i64 x.pos.line, .int .i64 x.pos.col, v4, v5, v6, v7] := by
  obtain ⟨n7, q7⟩ := Kd.fix_R_back (monoDe eD eF eV eM) g7
  exact ⟨n7 + 1, [.int .i64 x.kind], [.string x.name, .int .i64 x.pos.line, .int .i64 x.pos.col, v4, v5, v6, v7], rfl, rfl, [.string x.name], [.int .i64 x.pos.line, .int .i64 x.pos.col, v4, v5, v6, v7], rfl, rfl, [.int .i64 x.pos.line, .int .i64 x.pos.col], [v4, v5, v6, v7], rfl, kPos_mkM w base ok x.pos, [v4], [v5, v6, v7], rfl, ⟨v4, rfl, g4⟩, [v5], [v6, v7], rfl, ⟨v5, rfl, g5⟩, [v6], [v7], rfl, ⟨v6, rfl, g6⟩, v7, rfl, q7⟩
end
end Go.Proofs.YtfcpfbdlkanlpaaDoor
