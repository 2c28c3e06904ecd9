/-
  slices.Compare on strings, terms.CompareAxiom.
-/
import Derived.Test.YtomjajnlomdhpaaGreatDoorAiKL
set_option maxRecDepth 100000
set_option linter.unusedSimpArgs false
set_option linter.unusedVariables false
namespace Go.Ai.Z
open Go.Lib (compareBytes)

@[simp] theorem c_cmp_isNaN_string (a : List UInt8) (s : St) (cx : Ctx) : acallW P0 (.fn (.func F_cmp_isNaN_string) [] []) [.s a] s cx = .ret (.b false) s := by
  refine go_cmp_isNaN_string (by simp) ?_
  simp [callFnW, ir_cmp_isNaN_string]
theorem less_irr (a : List UInt8) : Op.bytesLess a a = false := by
  induction a with
  | nil => rfl
  | cons x r ih => simp [Op.bytesLess, ih]
def cmpS (a b : List UInt8) : Int := if Op.bytesLess a b = true then -1 else if a = b then 0 else 1
@[simp] theorem c_cmp_Compare_string (a b : List UInt8) (s : St) (cx : Ctx) : acallW P0 (.fn (.func F_cmp_Compare_string) [] []) [.s a, .s b] s cx = .ret (.i .i64 (cmpS a b)) s := by
  refine go_cmp_Compare_string (by simp) ?_
  unfold cmpS
  by_cases h1 : Op.bytesLess a b = true
  · simp [callFnW, ir_cmp_Compare_string, h1]
  · by_cases h2 : a = b
    · subst h2; simp [callFnW, ir_cmp_Compare_string, less_irr]
    · simp [callFnW, ir_cmp_Compare_string, h1, h2]
theorem cmpS_zero {a b : List UInt8} : cmpS a b = 0 ↔ a = b := by
  unfold cmpS
  by_cases h : a = b
  · subst h; simp [less_irr]
  · by_cases h1 : Op.bytesLess a b = true <;> simp [h, h1]

def strLoop : List (List UInt8) → List (List UInt8) → Option Int
  | [], _ => none
  | _ :: _, [] => some 1
  | a :: r, b :: q => if cmpS a b = 0 then strLoop r q else some (cmpS a b)
def cmpSL (x y : List (List UInt8)) : Int := (strLoop x y).getD (if x.length < y.length then -1 else 0)
theorem cmpSL_zero : ∀ {x y : List (List UInt8)}, cmpSL x y = 0 ↔ x = y
  | [], [] => by simp [cmpSL, strLoop]
  | [], _ :: _ => by simp [cmpSL, strLoop]
  | _ :: _, [] => by simp [cmpSL, strLoop]
  | a :: r, b :: q => by
    have ih := cmpSL_zero (x := r) (y := q)
    unfold cmpSL at ih ⊢
    by_cases h : cmpS a b = 0
    · have he := cmpS_zero.1 h
      subst he
      rw [strLoop, if_pos h]
      simp only [List.length_cons, Nat.add_lt_add_iff_right, List.cons.injEq, true_and]
      exact ih
    · have hne : ¬ a = b := fun e => h (cmpS_zero.2 e)
      simp [strLoop, h, hne]
theorem l_Compare (zx zy : Bool) (x y : List (List UInt8)) (hx : x.length ≤ 100000) (hy : y.length ≤ 100000) (s : St) (cx : Ctx) : ∀ (rest : List (List UInt8)) (i : Nat), x.drop i = rest →
    ∃ j : Int, loopW (acodeW P0.glob (acallW P0) cx false ir_slices_Compare_string_string_L0) [0, 1, 9, 10, 11]
      [(0, .v (slf zx (x.map .s))), (1, .v (slf zy (y.map .s))), (9, .v (slf zx (x.map .s))), (10, .v (.i .i64 x.length)), (11, .v (.i .i64 i))] s =
      match strLoop rest (y.drop i) with
      | none => .exit 0 [(0, .v (slf zx (x.map .s))), (1, .v (slf zy (y.map .s))), (9, .v (slf zx (x.map .s))), (10, .v (.i .i64 x.length)), (11, .v (.i .i64 j)), (12, .v (.b false))] s
      | some v => .ret [(4, .v (.i .i64 v))] s
  | [], i, h => by
    have h1 : ¬ i < x.length := Nat.not_lt.2 (drop_nil h)
    refine ⟨i, loop_step fun K hK => ?_⟩
    simp [ir_slices_Compare_string_string_L0, h1, strLoop]
  | p :: r, i, h => by
    obtain ⟨h1, h2, h3, h4⟩ := drop_cons h
    have h5 := h4 h3
    have hwi := wI (i := i) (by omega)
    cases hq : y.drop i with
    | nil =>
      have h6 : y.length ≤ i := drop_nil hq
      refine ⟨0, loop_step fun K hK => ?_⟩
      clear hK h4
      simp [ir_slices_Compare_string_string_L0, h3, h5, h6, strLoop]
    | cons q t =>
      obtain ⟨g1, g2, g3, g4⟩ := drop_cons hq
      have g5 := g4 g3
      have g6 : ¬ y.length ≤ i := by omega
      obtain ⟨j, ih2⟩ := l_Compare zx zy x y hx hy s cx r (i + 1) h2
      refine ⟨j, loop_step fun K hK => ?_⟩
      rw [← hK] at ih2
      clear hK h4 g4
      rw [g2] at ih2
      simp at ih2
      by_cases hz : cmpS p q = 0
      · simp [ir_slices_Compare_string_string_L0, h3, h5, hwi, g3, g5, g6, ih2, strLoop, hz]
      · simp [ir_slices_Compare_string_string_L0, h3, h5, hwi, g3, g5, g6, strLoop, hz]
theorem c_slices_Compare (zx zy : Bool) (x y : List (List UInt8)) (hx : x.length ≤ 100000) (hy : y.length ≤ 100000) (s : St) (cx : Ctx) :
    acallW P0 (.fn (.func F_slices_Compare_string_string) [] []) [slf zx (x.map .s), slf zy (y.map .s)] s cx = .ret (.i .i64 (cmpSL x y)) s := by
  refine go_slices_Compare_string_string (by simp) ?_
  obtain ⟨j, h⟩ := l_Compare zx zy x y hx hy s ⟨s.length, s.length⟩ x 0 rfl
  unfold cmpSL
  simp at h
  cases hc : strLoop x y with
  | none =>
    simp [hc] at h
    by_cases hl : x.length < y.length
    · simp [callFnW, ir_slices_Compare_string_string, h, hl]
    · simp [callFnW, ir_slices_Compare_string_string, h, hl]
  | some v =>
    simp [hc] at h
    simp [callFnW, ir_slices_Compare_string_string, h]

def headA (x y : Ax) : Int := orI [cmpI (weightS x : Int) (weightS y : Int), cmpI x.kind y.kind]
def tailA (x y : Ax) : Int := orI [cmpSL x.roles y.roles, compareBytes x.role y.role, compareBytes x.a y.a, compareBytes x.b y.b]
def cmpA (x y : Ax) : Int :=
  if headA x y = 0 then (if cmpT x.left y.left = 0 then (if cmpT x.right y.right = 0 then tailA x y else cmpT x.right y.right) else cmpT x.left y.left) else headA x y
theorem c_terms_CompareAxiom (x y : Ax) (hl : wC x.left ≤ 1000) (hr : wC x.right ≤ 1000) (hn : x.roles.length ≤ 1000) (hl' : wC y.left ≤ 1000) (hr' : wC y.right ≤ 1000) (hn' : y.roles.length ≤ 1000) (s : St) (cx : Ctx) :
    acallW P0 (.fn (.func F_terms_CompareAxiom) [] []) [encA x, encA y] s cx = .ret (.i .i64 (cmpA x y)) s := by
  refine go_terms_CompareAxiom (by simp) ?_
  have e1 := c_terms_weight x hl hr hn
  have e2 := c_terms_weight y hl' hr' hn'
  have e3 := c_terms_Compare x.left y.left hl hl'
  have e4 := c_terms_Compare x.right y.right hr hr'
  have e5 := c_slices_Compare x.z y.z x.roles y.roles (by omega) (by omega)
  have e6 := c_cmp_Or_int [cmpI (weightS x : Int) (weightS y : Int), cmpI x.kind y.kind] (by simp)
  have e7 := c_cmp_Or_int [cmpSL x.roles y.roles, compareBytes x.role y.role, compareBytes x.a y.a, compareBytes x.b y.b] (by simp)
  change ∀ (s : St) (cx : Ctx), _ = CO.ret (.i .i64 (headA x y)) s at e6
  change ∀ (s : St) (cx : Ctx), _ = CO.ret (.i .i64 (tailA x y)) s at e7
  simp at e6 e7
  unfold cmpA
  by_cases h1 : headA x y = 0
  · by_cases h2 : cmpT x.left y.left = 0
    · by_cases h3 : cmpT x.right y.right = 0
      · simp [callFnW, ir_terms_CompareAxiom, e1, e2, e3, e4, e5, e6, e7, h1, h2, h3, List.range_succ]
      · simp [callFnW, ir_terms_CompareAxiom, e1, e2, e3, e4, e6, h1, h2, h3, List.range_succ]
    · simp [callFnW, ir_terms_CompareAxiom, e1, e2, e3, e6, h1, h2, List.range_succ]
  · simp [callFnW, ir_terms_CompareAxiom, e1, e2, e6, h1, List.range_succ]
/-- Equal in the order of axioms. -/
theorem cmpA_zero {x y : Ax} : cmpA x y = 0 ↔ weightS x = weightS y ∧ x.kind = y.kind ∧ nz x.left = nz y.left ∧ nz x.right = nz y.right ∧ x.roles = y.roles ∧ x.role = y.role ∧ x.a = y.a ∧ x.b = y.b := by
  have h1 : headA x y = 0 ↔ weightS x = weightS y ∧ x.kind = y.kind := by unfold headA; rw [orI_zero]; simp [cmpI_zero]; intros; omega
  have h2 : tailA x y = 0 ↔ x.roles = y.roles ∧ x.role = y.role ∧ x.a = y.a ∧ x.b = y.b := by unfold tailA; rw [orI_zero]; simp [cmpSL_zero, compareBytes_zero]
  have h3 := cmpT_zero x.left y.left
  have h4 := cmpT_zero x.right y.right
  unfold cmpA
  by_cases a1 : headA x y = 0
  · by_cases a2 : cmpT x.left y.left = 0
    · by_cases a3 : cmpT x.right y.right = 0
      · rw [if_pos a1, if_pos a2, if_pos a3, h2]
        constructor
        · intro h; exact ⟨(h1.1 a1).1, (h1.1 a1).2, h3.1 a2, h4.1 a3, h⟩
        · intro h; exact h.2.2.2.2
      · rw [if_pos a1, if_pos a2, if_neg a3]
        exact ⟨fun h => absurd h a3, fun h => absurd (h4.2 h.2.2.2.1) a3⟩
    · rw [if_pos a1, if_neg a2]
      exact ⟨fun h => absurd h a2, fun h => absurd (h3.2 h.2.2.1) a2⟩
  · rw [if_neg a1]
    exact ⟨fun h => absurd h a1, fun h => absurd (h1.2 ⟨h.1, h.2.1⟩) a1⟩
end Go.Ai.Z
