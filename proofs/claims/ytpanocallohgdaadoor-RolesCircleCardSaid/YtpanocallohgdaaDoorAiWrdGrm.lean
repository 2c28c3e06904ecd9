/-
 Words of roles: what the axioms derive, in plain words.
-/
import Derived.Test.YtpanocallohgdaaDoorAiR4R5R6
set_option maxRecDepth 100000
set_option linter.unusedSimpArgs false
set_option linter.unusedVariables false
namespace Go.Ai.Z
abbrev Tab := List UInt8 → Nat → Nat → Prop
def Cov (T : Tab) : List (List UInt8) → Nat → Nat → Prop
 | [], i, k => i = k
 | r :: rs, i, k => ∃ j, T r i j ∧ Cov T rs j k
theorem Cov.mono {T T' : Tab} (h : ∀ r i j, T r i j → T' r i j) : ∀ {rs : List (List UInt8)} {i k : Nat}, Cov T rs i k → Cov T' rs i k
 | [], _, _, hc => hc
 | _ :: _, _, _, ⟨j, h1, h2⟩ => ⟨j, h _ _ _ h1, h2.mono h⟩
structure ClosedT (l : List Ax) (w : List (List UInt8)) (T : Tab) : Prop where
 word : ∀ i r, w[i]? = some r → T r i (i + 1)
 refl : ∀ x ∈ l, x.kind = 7 → ∀ i, i ≤ w.length → T x.role i i
 sub : ∀ x ∈ l, x.kind = 5 → ∀ i j, Cov T x.roles i j → T x.role i j
 chain : ∀ x ∈ l, x.kind = 6 → ∀ i j, Cov T x.roles i j → T x.role i j
def Drv (l : List Ax) (w : List (List UInt8)) : Tab := fun r i j => ∀ T, ClosedT l w T → T r i j
theorem Cov.le {T : Tab} {n : Nat} (h : ∀ r i j, T r i j → i ≤ j ∧ j ≤ n) : ∀ {rs : List (List UInt8)} {i k : Nat}, i ≤ n → Cov T rs i k → i ≤ k ∧ k ≤ n
 | [], _, _, hi, rfl => ⟨Nat.le_refl _, hi⟩
 | _ :: rs, i, k, hi, ⟨j, h1, h2⟩ => by
  have := h _ _ _ h1
  have := Cov.le h this.2 h2
  omega
end Go.Ai.Z
namespace Go.Ai.Z
def NoDot (r : List UInt8) : Prop := (46 : UInt8) ∉ r
def jn (rs : List (List UInt8)) : List UInt8 := joinL [46] rs
structure Rul where
 first : List UInt8
 second : List UInt8
 role : List UInt8
deriving DecidableEq
def rulesA (x : Ax) : List Rul := (List.range (x.roles.length - 1)).map fun m => ⟨jn (x.roles.take (m + 1)), x.roles.getD (m + 1) [], if m + 1 = x.roles.length - 1 then x.role else jn (x.roles.take (m + 2))⟩
def rules (l : List Ax) : List Rul := l.flatMap fun x => if x.kind = 6 then rulesA x else []
def reflA (l : List Ax) : List (List UInt8) := l.filterMap fun x => if x.kind = 7 then some x.role else none
structure ClosedG (l : List Ax) (w : List (List UInt8)) (T : Tab) : Prop where
 word : ∀ i r, w[i]? = some r → T r i (i + 1)
 refl : ∀ r ∈ reflA l, ∀ i, i ≤ w.length → T r i i
 un : ∀ p ∈ edU l, ∀ i j, T p.1 i j → T p.2 i j
 bin : ∀ p ∈ rules l, ∀ i j k, T p.first i j → T p.second j k → T p.role i k
def DG (l : List Ax) (w : List (List UInt8)) : Tab := fun r i j => ∀ T, ClosedG l w T → T r i j
structure NamesOK (l : List Ax) : Prop where
 one : One5 l
 two : ∀ x ∈ l, x.kind = 6 → 2 ≤ x.roles.length
 role : ∀ x ∈ l, (x.kind = 5 ∨ x.kind = 6 ∨ x.kind = 7) → NoDot x.role
 roles : ∀ x ∈ l, (x.kind = 5 ∨ x.kind = 6) → ∀ r ∈ x.roles, NoDot r
end Go.Ai.Z
