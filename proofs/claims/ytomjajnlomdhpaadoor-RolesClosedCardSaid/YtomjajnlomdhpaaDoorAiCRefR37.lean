/-
 The reference's search for a circle, in plain words.
-/
import Derived.Test.YtomjajnlomdhpaaDoorAiCircBfs
import Derived.Test.YtomjajnlomdhpaaDoorAiR4R5R6
set_option maxRecDepth 100000
set_option linter.unusedSimpArgs false
set_option linter.unusedVariables false
namespace Go.Ai.Z
abbrev Rl := List UInt8
abbrev RE := List (Rl × Rl × Bool)
abbrev PE := List Rl × Bool
abbrev LxR : List Rl → List Rl → Prop := Lx (fun a b : Rl => a < b)
def lstR (p : PE) : Rl := p.1.getLastD []
def sameP (y x : PE) : Bool := decide (y.2 = x.2) && decide (lstR y = lstR x)
def Snd (E : RE) (n : Nat) (c : Rl) (p : PE) : Prop := ∃ t, p.1 = c :: t ∧ t.length + 1 = n ∧ Wk E c t (lstR p) p.2
theorem Snd.len {E : RE} {n : Nat} {c : Rl} {p : PE} (h : Snd E n c p) : p.1.length = n := by obtain ⟨t, e, hl, _⟩ := h; rw [e]; simp [hl]
def Good (E : RE) (n : Nat) (c : Rl) (p : PE) : Prop := Snd E n c p ∧ ∀ q, Snd E n c q → sameP q p = true → ¬ LxR q.1 p.1
end Go.Ai.Z
namespace Go.Ai.Z
def bxA (x : Ax) : EV := .bx (cellsA x)
end Go.Ai.Z
