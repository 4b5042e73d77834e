/- Declarations out of words, in plain Lean, as the package has them. No program in sight. -/
import Derived.Test.YtfcpfbdlkanlpaaDoorLexP
import Derived.Lib.Join
namespace Go.Proofs.YtfcpfbdlkanlpaaDoor
set_option linter.unusedVariables false

/-- What a reader of words comes to: a value and the words that are left, or an error at a place. -/
inductive Rs (α : Type) where
  | ok (a : α) (ws : List Wd)
  | bad (e : Int) (p : Pos)
def Rs.bind {α β : Type} (r : Rs α) (f : α → List Wd → Rs β) : Rs β := match r with | .ok a ws => f a ws | .bad e p => .bad e p
theorem Rs.bind_ok {α β : Type} (a : α) (ws : List Wd) (f : α → List Wd → Rs β) : (Rs.ok a ws).bind f = f a ws := rfl
theorem Rs.bind_bad {α β : Type} (e : Int) (p : Pos) (f : α → List Wd → Rs β) : (Rs.bad e p : Rs α).bind f = .bad e p := rfl
def kOpen : Bytes := [123]
def kShut : Bytes := [125]
def kPar : Bytes := [40]
def kRap : Bytes := [41]
def kEq : Bytes := [61]
def kSemi : Bytes := [59]
def kDot : Bytes := [46]
section
variable (en : Pos)
def peekW : List Wd → Wd
  | [] => ⟨0, ⟨#[]⟩, en⟩
  | w :: _ => w
def haveB (t : Bytes) (ws : List Wd) : Bool := decide ((peekW en ws).text.data.toList = t)
def wantP (t : Bytes) (ws : List Wd) : Rs Unit := if haveB en t ws then .ok () ws.tail else .bad 7 (peekW en ws).pos
def nameP (ws : List Wd) : Rs (ByteArray × Pos) :=
  if (peekW en ws).kind = 1 ∧ reservedB (peekW en ws).text.data.toList = false then .ok ((peekW en ws).text, (peekW en ws).pos) ws.tail else .bad 7 (peekW en ws).pos
def numberP (ws : List Wd) : Rs Int := if (peekW en ws).kind = 2 then .ok (numVal (peekW en ws).text.data.toList : Nat) ws.tail else .bad 7 (peekW en ws).pos
def pathGo : Nat → Pos → List ByteArray → List Wd → Rs (List ByteArray)
  | 0, p, l, ws => .ok l ws
  | n + 1, p, l, ws =>
    if haveB en kDot ws then (nameP en ws.tail).bind fun x ws1 => if 8 < (l ++ [x.1]).length then .bad 8 p else pathGo n p (l ++ [x.1]) ws1
    else .ok l ws
def joinDot (l : List ByteArray) : ByteArray := ⟨(Lib.join (l.map (·.data.toList)) [46]).toArray⟩
def pathP (ws : List Wd) : Rs ByteArray := (nameP en ws).bind fun x ws1 => (pathGo en 9 x.2 [x.1] ws1).bind fun l ws2 => .ok (joinDot l) ws2
def typeP (ws : List Wd) : Rs ByteArray := if 0 < scalarN (peekW en ws).text.data.toList then .ok (peekW en ws).text ws.tail else pathP en ws
def fieldP (ws : List Wd) : Rs Fl :=
  (typeP en (if haveB en wRepeated ws then ws.tail else ws)).bind fun ty ws1 => (nameP en ws1).bind fun x ws2 => (wantP en kEq ws2).bind fun _ ws3 => (numberP en ws3).bind fun k ws4 => (wantP en kSemi ws4).bind fun _ ws5 =>
    .ok ⟨haveB en wRepeated ws, ty, x.1, k, x.2⟩ ws5
def valueP (ws : List Wd) : Rs Va := (nameP en ws).bind fun x ws1 => (wantP en kEq ws1).bind fun _ ws2 => (numberP en ws2).bind fun k ws3 => .ok ⟨x.1, k, x.2⟩ ws3
def methodP (ws : List Wd) : Rs Me :=
  (wantP en wRpc ws).bind fun _ ws1 => (nameP en ws1).bind fun x ws2 => (wantP en kPar ws2).bind fun _ ws3 => (pathP en ws3).bind fun i ws4 => (wantP en kRap ws4).bind fun _ ws5 => (wantP en wReturns ws5).bind fun _ ws6 => (wantP en kPar ws6).bind fun _ ws7 => (pathP en ws7).bind fun o ws8 =>
    .ok ⟨x.1, i, o, x.2⟩ ws8
/-- The head of a declaration: its name, its place. -/
def headP (ws : List Wd) : Rs (ByteArray × Pos) := (nameP en ws).bind fun x ws1 => (wantP en kOpen ws1).bind fun _ ws2 => .ok x ws2
def deepP (depth : Nat) (p : Pos) (ws : List Wd) : Rs (ByteArray × Pos) := if 8 < depth then .bad 8 p else headP en ws
def enumGo : Nat → ByteArray × Pos → List Va → List Wd → Rs De
  | 0, x, l, ws => .bad 0 en
  | n + 1, x, l, ws =>
    if haveB en kShut ws then .ok (.mk 2 x.1 x.2 [] l [] []) ws.tail
    else (valueP en ws).bind fun v ws1 => (wantP en kSemi ws1).bind fun _ ws2 => enumGo n x (l ++ [v]) ws2
def enumP (n depth : Nat) (p : Pos) (ws : List Wd) : Rs De := (deepP en depth p ws).bind fun x ws1 => enumGo en n x [] ws1
def servGo : Nat → ByteArray × Pos → List Me → List Wd → Rs De
  | 0, x, l, ws => .bad 0 en
  | n + 1, x, l, ws =>
    if haveB en kShut ws then .ok (.mk 3 x.1 x.2 [] [] l []) ws.tail
    else (methodP en ws).bind fun m ws1 => (wantP en kRap ws1).bind fun _ ws2 => (wantP en kSemi ws2).bind fun _ ws3 => servGo n x (l ++ [m]) ws3
def servP (n : Nat) (ws : List Wd) : Rs De := (headP en ws).bind fun x ws1 => servGo en n x [] ws1
def msgGo : Nat → Nat → ByteArray × Pos → List Fl → List De → List Wd → Rs De
  | 0, depth, x, fs, ds, ws => .bad 0 en
  | n + 1, depth, x, fs, ds, ws =>
    if haveB en kShut ws then .ok (.mk 1 x.1 x.2 fs [] [] ds) ws.tail
    else if haveB en wMessage ws then ((deepP en (depth + 1) (peekW en ws).pos ws.tail).bind fun y ws1 => msgGo n (depth + 1) y [] [] ws1).bind fun d ws2 => msgGo n depth x fs (ds ++ [d]) ws2
    else if haveB en wEnum ws then (enumP en n (depth + 1) (peekW en ws).pos ws.tail).bind fun d ws2 => msgGo n depth x fs (ds ++ [d]) ws2
    else (fieldP en ws).bind fun f ws1 => msgGo n depth x (fs ++ [f]) ds ws1
def msgP (n depth : Nat) (p : Pos) (ws : List Wd) : Rs De := (deepP en depth p ws).bind fun x ws1 => msgGo en n depth x [] [] ws1
def fileGo : Nat → List De → List Wd → Rs (List De)
  | 0, l, ws => .bad 0 en
  | n + 1, l, ws =>
    if ws = [] then .ok l []
    else if haveB en wMessage ws then (msgP en n 1 (peekW en ws).pos ws.tail).bind fun d ws1 => fileGo n (l ++ [d]) ws1
    else if haveB en wEnum ws then (enumP en n 1 (peekW en ws).pos ws.tail).bind fun d ws1 => fileGo n (l ++ [d]) ws1
    else if haveB en wService ws then (servP en n ws.tail).bind fun d ws1 => fileGo n (l ++ [d]) ws1
    else .bad 7 (peekW en ws).pos
end
/-- What a text is read as: its declarations, or an error at a place. -/
structure Pf where
  l : List De
  pos : Pos
  e : Int
def fileEnd : Rs (List De) → Pf
  | .ok l _ => ⟨l, pos0, 0⟩
  | .bad e p => ⟨[], p, e⟩
def fileW (text : ByteArray) : Pf :=
  if (lexW text).e = 0 then fileEnd (fileGo (endW text) ((lexW text).ws.length + 1) [] (lexW text).ws) else ⟨[], (lexW text).pos, (lexW text).e⟩
end Go.Proofs.YtfcpfbdlkanlpaaDoor
