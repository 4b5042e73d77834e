/- The text that wakes the parser, and texts of messages that lie in one another: what they are read as. No program in sight. -/
import Derived.Test.YtfcpfbdlkanlpaaDoorParseP
import Derived.KernelRfl
namespace Go.Proofs.YtfcpfbdlkanlpaaDoor
set_option linter.unusedVariables false

def awText : ByteArray := ⟨#[109, 101, 115, 115, 97, 103, 101, 32, 65, 32, 123, 32, 105, 110, 116, 54, 52, 32, 120, 32, 61, 32, 49, 59, 32, 125]⟩
theorem aw_file : fileW awText = ⟨[.mk 1 ⟨#[65]⟩ ⟨1, 9⟩ [⟨false, ⟨#[105, 110, 116, 54, 52]⟩, ⟨#[120]⟩, 1, ⟨1, 19⟩⟩] [] [] []], pos0, 0⟩ := by kernel_rfl
def deepOpen (c : Nat) : Bytes := [109, 101, 115, 115, 97, 103, 101, 32, UInt8.ofNat c, 32, 123, 32]
def deepB (k c : Nat) : Bytes := (List.replicate k (deepOpen c)).flatten ++ List.replicate k 125
/-- How many messages lie in one another, one in each. -/
def chainN : Nat → List De → Nat
  | n + 1, [d] => 1 + chainN n d.inner
  | _, _ => 0
def deepOk (k c : Nat) : Bool :=
  let f := fileW ⟨(deepB k c).toArray⟩
  if k ≤ 8 then decide (f.e = 0) && decide (chainN 20 f.l = k) && decide (dpL f.l ≤ 20) else decide (f.e = 8) && decide (f.pos.line = 1) && decide (f.pos.col = 97) && f.l.isEmpty
def deepAll (a n : Nat) : Bool := (List.range n).all fun c => (List.range 12).all fun k => deepOk (k + 1) (a + c)
theorem deepAll_at {a n : Nat} (h : deepAll a n = true) {c k : Nat} (hc : c < n) (hk : k < 12) : deepOk (k + 1) (a + c) = true := by
  have h1 := List.all_eq_true.1 h c (List.mem_range.2 hc)
  exact List.all_eq_true.1 h1 k (List.mem_range.2 hk)
end Go.Proofs.YtfcpfbdlkanlpaaDoor
