/- What the readers of words leave is less. Plain Lean. -/
import Derived.Test.YtfcpfbdlkanlpaaDoorParServ
namespace Go.Proofs.YtfcpfbdlkanlpaaDoor
set_option linter.unusedVariables false

theorem bind_ok_inv {α β : Type} {r : Rs α} {f : α → List Wd → Rs β} {b : β} {ws : List Wd} (h : r.bind f = .ok b ws) : ∃ a ws1, r = .ok a ws1 ∧ f a ws1 = .ok b ws := by
  cases r with
  | ok a ws1 => exact ⟨a, ws1, rfl, h⟩
  | bad e p => cases h
theorem have_len {en : Pos} {t : Bytes} {ws : List Wd} (h : haveB en t ws = true) (ht : t ≠ []) : ws.tail.length < ws.length := by
  rcases ws with _ | ⟨x, ws⟩
  · exact absurd (of_decide_eq_true h).symm ht
  · simp
theorem tail_len (ws : List Wd) : ws.tail.length ≤ ws.length := by simp
theorem typeP_len {en : Pos} {ws ws1 : List Wd} {x : ByteArray} (h : typeP en ws = .ok x ws1) : ws1.length < ws.length := by
  unfold typeP at h
  split at h
  · rename_i hs
    cases h
    rcases ws with _ | ⟨y, ws⟩
    · exact absurd hs (show ¬ 0 < scalarN (⟨#[]⟩ : ByteArray).data.toList by decide)
    · simp
  · exact pathP_len h
theorem fieldP_len {en : Pos} {ws ws1 : List Wd} {f : Fl} (h : fieldP en ws = .ok f ws1) : ws1.length < ws.length := by
  unfold fieldP at h
  obtain ⟨a, w1, h1, h⟩ := bind_ok_inv h
  obtain ⟨c, w2, h2, h⟩ := bind_ok_inv h
  obtain ⟨d, w3, h3, h⟩ := bind_ok_inv h
  obtain ⟨e, w4, h4, h⟩ := bind_ok_inv h
  obtain ⟨g, w5, h5, h⟩ := bind_ok_inv h
  cases h
  have k1 := typeP_len h1
  have k2 := nameP_len h2
  have k3 := wantP_len h3
  have k4 := numberP_len h4
  have k5 := wantP_len h5
  have k0 : (if haveB en wRepeated ws then ws.tail else ws).length ≤ ws.length := by
    split
    · exact tail_len ws
    · exact Nat.le_refl _
  omega
theorem valueP_len {en : Pos} {ws ws1 : List Wd} {f : Va} (h : valueP en ws = .ok f ws1) : ws1.length < ws.length := by
  unfold valueP at h
  obtain ⟨c, w2, h2, h⟩ := bind_ok_inv h
  obtain ⟨d, w3, h3, h⟩ := bind_ok_inv h
  obtain ⟨e, w4, h4, h⟩ := bind_ok_inv h
  cases h
  have k2 := nameP_len h2
  have k3 := wantP_len h3
  have k4 := numberP_len h4
  omega
theorem headP_len {en : Pos} {ws ws1 : List Wd} {x : ByteArray × Pos} (h : headP en ws = .ok x ws1) : ws1.length < ws.length := by
  unfold headP at h
  obtain ⟨c, w2, h2, h⟩ := bind_ok_inv h
  obtain ⟨d, w3, h3, h⟩ := bind_ok_inv h
  cases h
  have k2 := nameP_len h2
  have k3 := wantP_len h3
  omega
theorem deepP_len {en : Pos} {n : Nat} {p : Pos} {ws ws1 : List Wd} {x : ByteArray × Pos} (h : deepP en n p ws = .ok x ws1) : ws1.length < ws.length := by
  unfold deepP at h
  split at h
  · cases h
  · exact headP_len h
theorem enumGo_len {en : Pos} : ∀ (n : Nat) (x : ByteArray × Pos) (l : List Va) (ws ws1 : List Wd) (d : De), enumGo en n x l ws = .ok d ws1 → ws1.length ≤ ws.length
  | 0, x, l, ws, ws1, d, h => by cases h
  | n + 1, x, l, ws, ws1, d, h => by
    simp only [enumGo] at h
    split at h
    · cases h; exact tail_len ws
    · obtain ⟨v, w2, h2, h⟩ := bind_ok_inv h
      obtain ⟨e, w3, h3, h⟩ := bind_ok_inv h
      have k2 := valueP_len h2
      have k3 := wantP_len h3
      have k4 := enumGo_len n _ _ _ _ _ h
      omega
theorem enumP_len {en : Pos} {n k : Nat} {p : Pos} {ws ws1 : List Wd} {d : De} (h : enumP en n k p ws = .ok d ws1) : ws1.length < ws.length := by
  unfold enumP at h
  obtain ⟨v, w2, h2, h⟩ := bind_ok_inv h
  have k2 := deepP_len h2
  have k3 := enumGo_len _ _ _ _ _ _ h
  omega
theorem methodP_len {en : Pos} {ws ws1 : List Wd} {f : Me} (h : methodP en ws = .ok f ws1) : ws1.length < ws.length := by
  rw [methodP_eq] at h
  obtain ⟨a, w1, h1, h⟩ := bind_ok_inv h
  obtain ⟨c, w2, h2, h⟩ := bind_ok_inv h
  obtain ⟨d, w3, h3, h⟩ := bind_ok_inv h
  obtain ⟨e, w4, h4, h⟩ := bind_ok_inv h
  obtain ⟨g, w5, h5, h⟩ := bind_ok_inv h
  obtain ⟨i, w6, h6, h⟩ := bind_ok_inv h
  cases h
  have k1 := wantP_len h1
  have k2 := nameP_len h2
  have k3 := wantP_len h3
  have k4 := pathP_len h4
  have k5 := wantsP_len _ _ _ _ h5
  have k6 := pathP_len h6
  omega
theorem servGo_len {en : Pos} : ∀ (n : Nat) (x : ByteArray × Pos) (l : List Me) (ws ws1 : List Wd) (d : De), servGo en n x l ws = .ok d ws1 → ws1.length ≤ ws.length
  | 0, x, l, ws, ws1, d, h => by cases h
  | n + 1, x, l, ws, ws1, d, h => by
    rw [servGo_eq] at h
    split at h
    · cases h; exact tail_len ws
    · obtain ⟨v, w2, h2, h⟩ := bind_ok_inv h
      obtain ⟨e, w3, h3, h⟩ := bind_ok_inv h
      have k2 := methodP_len h2
      have k3 := wantsP_len _ _ _ _ h3
      have k4 := servGo_len n _ _ _ _ _ h
      omega
theorem servP_len {en : Pos} {n : Nat} {ws ws1 : List Wd} {d : De} (h : servP en n ws = .ok d ws1) : ws1.length < ws.length := by
  unfold servP at h
  obtain ⟨v, w2, h2, h⟩ := bind_ok_inv h
  have k2 := headP_len h2
  have k3 := servGo_len _ _ _ _ _ _ h
  omega
theorem msgGo_len {en : Pos} : ∀ (n k : Nat) (x : ByteArray × Pos) (fs : List Fl) (ds : List De) (ws ws1 : List Wd) (d : De), msgGo en n k x fs ds ws = .ok d ws1 → ws1.length ≤ ws.length
  | 0, k, x, fs, ds, ws, ws1, d, h => by cases h
  | n + 1, k, x, fs, ds, ws, ws1, d, h => by
    simp only [msgGo] at h
    have kt := tail_len ws
    split at h
    · cases h; exact kt
    · split at h
      · obtain ⟨v, w2, h2, h⟩ := bind_ok_inv h
        obtain ⟨y, w3, h3, h2⟩ := bind_ok_inv h2
        have k2 := deepP_len h3
        have k3 := msgGo_len n _ _ _ _ _ _ _ h2
        have k4 := msgGo_len n _ _ _ _ _ _ _ h
        omega
      · split at h
        · obtain ⟨v, w2, h2, h⟩ := bind_ok_inv h
          have k2 := enumP_len h2
          have k4 := msgGo_len n _ _ _ _ _ _ _ h
          omega
        · obtain ⟨v, w2, h2, h⟩ := bind_ok_inv h
          have k2 := fieldP_len h2
          have k4 := msgGo_len n _ _ _ _ _ _ _ h
          omega
theorem msgP_len {en : Pos} {n k : Nat} {p : Pos} {ws ws1 : List Wd} {d : De} (h : msgP en n k p ws = .ok d ws1) : ws1.length < ws.length := by
  unfold msgP at h
  obtain ⟨v, w2, h2, h⟩ := bind_ok_inv h
  have k2 := deepP_len h2
  have k3 := msgGo_len _ _ _ _ _ _ _ _ h
  omega
end Go.Proofs.YtfcpfbdlkanlpaaDoor
