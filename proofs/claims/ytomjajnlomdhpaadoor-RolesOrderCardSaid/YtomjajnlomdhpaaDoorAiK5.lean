/-
  Texts of concepts.
-/
import Derived.Test.YtomjajnlomdhpaaDoorAiK4
set_option maxRecDepth 100000
set_option linter.unusedSimpArgs false
set_option linter.unusedVariables false
namespace Go.Ai.Z
open Go.Lib (itoa decDigits)

theorem dec_small {u : Nat} (h : u < 10) : decDigits u = [UInt8.ofNat (48 + u)] := by rw [decDigits, dif_pos h]
theorem dec_big {u : Nat} (h : ¬ u < 10) : decDigits u = decDigits (u / 10) ++ [UInt8.ofNat (48 + u % 10)] := by rw [decDigits, dif_neg h]
theorem dec_len {u : Nat} (h : u < 18446744073709551616) : (decDigits u).length ≤ 20 := by rw [Go.Lib.decDigits_length]; exact Go.Lib.nDigits_le20 u h

def andB : List UInt8 := [32, 97, 110, 100, 32]
mutual
/-- The text of a concept. -/
def textS : C → List UInt8
  | .mk k n lo hi _ ps =>
    if k = 1 then [101, 118, 101, 114, 121, 116, 104, 105, 110, 103]
    else if k = 2 then [110, 111, 116, 104, 105, 110, 103]
    else if k = 3 then n
    else if k = 4 then 123 :: (n ++ [125])
    else if k = 7 then n ++ [32, 105, 110, 32] ++ itoa lo ++ [32, 116, 111, 32] ++ itoa hi
    else if k = 6 then [115, 111, 109, 101, 32] ++ n ++ [32] ++ (opsS ps).headD []
    else joinL andB (opsS ps)
def opsS : List C → List (List UInt8)
  | [] => []
  | .mk k n lo hi z ps :: r => (if k = 5 then 40 :: (textS (.mk k n lo hi z ps) ++ [41]) else textS (.mk k n lo hi z ps)) :: opsS r
end
def opS (c : C) : List UInt8 := if c.kind = 5 then 40 :: (textS c ++ [41]) else textS c
theorem opsS_eq : ∀ l : List C, opsS l = l.map opS
  | [] => by simp [opsS]
  | .mk k n lo hi z ps :: r => by simp [opsS, opS, opsS_eq r]; rfl
theorem textS_eq (c : C) : textS c = if c.kind = 1 then [101, 118, 101, 114, 121, 116, 104, 105, 110, 103]
    else if c.kind = 2 then [110, 111, 116, 104, 105, 110, 103]
    else if c.kind = 3 then c.name
    else if c.kind = 4 then 123 :: (c.name ++ [125])
    else if c.kind = 7 then c.name ++ [32, 105, 110, 32] ++ itoa c.lo ++ [32, 116, 111, 32] ++ itoa c.hi
    else if c.kind = 6 then [115, 111, 109, 101, 32] ++ c.name ++ [32] ++ (c.parts.map opS).headD []
    else joinL andB (c.parts.map opS) := by cases c; simp [textS, opsS_eq]

theorem walk_ok {c : C} (h : walkS c = 0) : shapeS c = true ∧ namedS c = true ∧ ∀ p ∈ c.parts, walkS p = 0 := by
  rw [walkS_eq] at h
  by_cases h1 : shapeS c = true
  · by_cases h2 : namedS c = true
    · simp [h1, h2] at h
      refine ⟨h1, h2, ?_⟩
      generalize c.parts = l at h
      induction l with
      | nil => intro p hp; cases hp
      | cons a r ih =>
        simp only [walkSL] at h
        intro p hp
        by_cases h0 : walkS a = 0
        · rw [if_pos h0] at h
          rcases List.mem_cons.1 hp with rfl | hp
          · exact h0
          · exact ih h p hp
        · rw [if_neg h0] at h; exact absurd h h0
    · simp [h1, h2] at h
  · simp [h1] at h
theorem shape_kind {c : C} (h : shapeS c = true) : c.kind = 1 ∨ c.kind = 2 ∨ c.kind = 3 ∨ c.kind = 4 ∨ c.kind = 7 ∧ -1099511627776 ≤ c.lo ∧ c.lo ≤ c.hi ∧ c.hi ≤ 1099511627776 ∨ c.kind = 6 ∧ c.parts.length = 1 ∨ c.kind = 5 ∧ 2 ≤ c.parts.length := by
  unfold shapeS at h
  by_cases k1 : c.kind = 1
  · exact .inl k1
  by_cases k2 : c.kind = 2
  · exact .inr (.inl k2)
  by_cases k3 : c.kind = 3
  · exact .inr (.inr (.inl k3))
  by_cases k4 : c.kind = 4
  · exact .inr (.inr (.inr (.inl k4)))
  by_cases k5 : c.kind = 5
  · simp [k5] at h; exact .inr (.inr (.inr (.inr (.inr (.inr ⟨k5, by omega⟩)))))
  by_cases k6 : c.kind = 6
  · simp [k6] at h; exact .inr (.inr (.inr (.inr (.inr (.inl ⟨k6, by omega⟩)))))
  by_cases k7 : c.kind = 7
  · simp [k7] at h; exact .inr (.inr (.inr (.inr (.inl ⟨k7, by omega, by omega, by omega⟩))))
  · simp [k1, k2, k3, k4, k5, k6, k7] at h

theorem join_len (l : List (List UInt8)) (sep : List UInt8) : (joinL sep l).length ≤ (l.map fun x => x.length + sep.length).sum := by
  cases l with
  | nil => simp [joinL]
  | cons x r =>
    simp only [joinL, List.length_append, List.length_flatMap, List.map_cons, List.sum_cons]
    have : (r.map fun y => sep.length + y.length) = r.map fun x => x.length + sep.length := by
      apply List.map_congr_left; intro y _; omega
    rw [this]; omega
theorem text_len : ∀ (c : C), walkS c = 0 → (textS c).length + 10 ≤ 110 * wC c := by
  refine C.ind' fun c ih hv => ?_
  obtain ⟨v1, v2, v3⟩ := walk_ok hv
  have hw := wC_eq c
  have hq : c.name.length ≤ 40 * (c.name.length / 40) + 39 := by omega
  have hop : ∀ p ∈ c.parts, (opS p).length + 8 ≤ 110 * wC p := by
    intro p hp
    have := ih p hp (v3 p hp)
    unfold opS
    split <;> simp <;> omega
  have hsum : ((c.parts.map opS).map fun x => x.length + andB.length).sum ≤ 110 * wL c.parts := by
    clear ih v3 hw
    generalize c.parts = l at hop
    induction l with
    | nil => simp [wL]
    | cons a r ih => 
      have h1 := hop a (by simp)
      have h2 := ih (fun p hp => hop p (by simp [hp]))
      simp [wL, andB] at h2 ⊢
      omega
  rw [textS_eq]
  rcases shape_kind v1 with k | k | k | k | ⟨k, k1, k2, k3⟩ | ⟨k, k1⟩ | ⟨k, k1⟩
  · simp [k]; omega
  · simp [k]; omega
  · simp [k]; omega
  · simp [k]; omega
  · have l1 := Go.Lib.itoa_length_le c.lo (by omega) (by omega)
    have l2 := Go.Lib.itoa_length_le c.hi (by omega) (by omega)
    simp [k]; omega
  · simp [k]
    rcases hps : c.parts with _ | ⟨a, r⟩
    · simp [hps] at k1
    · have := hop a (by simp [hps])
      rw [hps] at hw
      simp only [wL] at hw
      simp; omega
  · simp [k]
    have := join_len (c.parts.map opS) andB
    omega
end Go.Ai.Z
