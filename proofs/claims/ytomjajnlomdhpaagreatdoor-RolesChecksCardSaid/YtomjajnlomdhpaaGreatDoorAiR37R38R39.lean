/-
  Steps of axioms: which roles of a chain are exempt.
-/
import Derived.Test.YtomjajnlomdhpaaGreatDoorAiR4R5R6
import Derived.Test.YtomjajnlomdhpaaGreatDoorAiCRef
import Derived.Test.YtomjajnlomdhpaaGreatDoorAiR19R20R21R22R23R24R25R26R27R28R29R30R31R32R33R34R35R36
set_option maxRecDepth 100000
set_option linter.unusedSimpArgs false
set_option linter.unusedVariables false
namespace Go.Ai.Z
def bxA (x : Ax) : EV := .bx (cellsA x)
def cntR (role : List UInt8) : List (List UInt8) → Nat
  | [] => 0
  | r :: l => (if r = role then 1 else 0) + cntR role l
theorem cntR_le (role : List UInt8) : ∀ l, cntR role l ≤ l.length
  | [] => Nat.le_refl _
  | r :: l => by
    have := cntR_le role l
    simp only [cntR, List.length_cons]; split <;> omega
def exS (x : Ax) (i : Nat) : Bool := decide (x.roles.getD i [] = x.role) && ((decide (cntR x.role x.roles = 1) && (decide (i = 0) || decide (i + 1 = x.roles.length))) || (decide (cntR x.role x.roles = 2) && decide (x.roles.length = 2)))
theorem l_roles_exempt (x : Ax) (hx : x.roles.length ≤ 1000) (i : Int) (s : St) (cx : Ctx) :
    ∀ (rest : List (List UInt8)) (k m : Nat), x.roles.drop k = rest → m + rest.length ≤ 1000000 →
    ∃ j : Int, loopW (acodeW P0.glob (acallW P0) cx false ir_roles_exempt_L0) [1, 2, 5, 6, 21, 22, 23]
      [(1, .v (.i .i64 i)), (2, bxA x), (5, .v (.i .i64 x.roles.length)), (6, .v (.i .i64 m)), (21, .v (slf x.z (x.roles.map .s))), (22, .v (.i .i64 x.roles.length)), (23, .v (.i .i64 k))] s =
      .exit 0 [(1, .v (.i .i64 i)), (2, bxA x), (5, .v (.i .i64 x.roles.length)), (6, .v (.i .i64 (m + cntR x.role rest : Nat))), (21, .v (slf x.z (x.roles.map .s))), (22, .v (.i .i64 x.roles.length)), (23, .v (.i .i64 j)), (24, .v (.b false))] s
  | [], k, m, h, hm => by
    have h1 : ¬ k < x.roles.length := Nat.not_lt.2 (drop_nil h)
    refine ⟨k, loop_step fun K hK => ?_⟩
    simp [ir_roles_exempt_L0, h1, cntR, bxA, cellsA]
  | p :: rest, k, m, h, hm => by
    obtain ⟨g1, g2, g3, g4⟩ := drop_cons h
    have g5 := g4 g3
    have hwi := wI (i := k) (by omega)
    simp only [List.length_cons] at hm
    have hwm := wI (i := m) (by omega)
    have hc := cntR_le x.role rest
    by_cases hp : p = x.role
    · · obtain ⟨j, ih⟩ := l_roles_exempt x hx i s cx rest (k + 1) (m + 1) g2 (by omega)
        refine ⟨j, loop_step fun K hK => ?_⟩
        rw [← hK, show ((k + 1 : Nat) : Int) = (k : Int) + 1 from rfl, show ((m + 1 : Nat) : Int) = (m : Int) + 1 from rfl] at ih
        clear hK g4
        have hn : m + cntR x.role (p :: rest) = m + 1 + cntR x.role rest := by simp only [cntR, hp, if_true]; omega
        rw [hn]
        simp only [bxA, cellsA] at ih ⊢
        rw [← ih]
        simp [ir_roles_exempt_L0, g3, g5, hwi, hwm, hp]
    · obtain ⟨j, ih⟩ := l_roles_exempt x hx i s cx rest (k + 1) m g2 (by omega)
      refine ⟨j, loop_step fun K hK => ?_⟩
      rw [← hK, show ((k + 1 : Nat) : Int) = (k : Int) + 1 from rfl] at ih
      clear hK g4
      have hn : m + cntR x.role (p :: rest) = m + cntR x.role rest := by simp only [cntR, hp, if_false]; omega
      rw [hn]
      simp only [bxA, cellsA] at ih ⊢
      rw [← ih]
      simp [ir_roles_exempt_L0, g3, g5, hwi, hp]
theorem c_roles_exempt (x : Ax) (hx : x.roles.length ≤ 1000) (i : Nat) (hi : i < x.roles.length) (s : St) (cx : Ctx) : acallW P0 (.fn (.func F_roles_exempt) [] []) [encA x, .i .i64 i] s cx = .ret (.b (exS x i)) s := by
  obtain ⟨j, h⟩ := l_roles_exempt x hx i s ⟨s.length, s.length⟩ x.roles 0 0 rfl (by omega)
  refine go_roles_exempt (by simp) ?_
  have hg : x.roles.getD i [] = x.roles[i] := by simp [List.getD, List.getElem?_eq_getElem hi]
  have hw1 : IntKind.i64.wrap ((x.roles.length : Int) - 1) = (x.roles.length : Int) - 1 := w64 (by omega) (by omega)
  rw [Nat.zero_add] at h
  by_cases hr : x.roles[i] = x.role
  · simp only [bxA, cellsA, Int.ofNat_zero] at h
    try simp at h
    have e : exS x i = ((decide (cntR x.role x.roles = 1) && (decide (i = 0) || decide (i + 1 = x.roles.length))) || (decide (cntR x.role x.roles = 2) && decide (x.roles.length = 2))) := by
      simp only [exS, hg, hr, decide_true, Bool.true_and]
    rw [e]
    have hgi : x.roles[i]? = some x.role := by rw [List.getElem?_eq_getElem hi, hr]
    by_cases c1 : cntR x.role x.roles = 1
    · by_cases i0 : i = 0
      · subst i0
        simp only [Int.ofNat_zero] at h
        simp [callFnW, ir_roles_exempt, cellsA, hgi, h, c1, hw1]
      · have i0' : ¬ (i : Int) = 0 := by omega
        by_cases i1 : i + 1 = x.roles.length
        · have i1' : (x.roles.length : Int) = (i : Int) + 1 := by omega
          have hwi : IntKind.i64.wrap (i : Int) = i := w64 (by omega) (by omega)
          simp only [i1'] at h
          simp [callFnW, ir_roles_exempt, cellsA, hgi, h, c1, i0, i1, i0', i1', hwi]
        · have i1' : ¬ (i : Int) = (x.roles.length : Int) - 1 := by omega
          simp [callFnW, ir_roles_exempt, cellsA, hgi, h, c1, i0, i1, i0', i1', hw1]
    · have c1' : ¬ (cntR x.role x.roles : Int) = 1 := by omega
      by_cases c2 : cntR x.role x.roles = 2
      · by_cases n2 : x.roles.length = 2
        · have n2' : (x.roles.length : Int) = 2 := by omega
          simp only [n2'] at h
          simp [callFnW, ir_roles_exempt, cellsA, hgi, h, c2, n2, n2']
        · have n2' : ¬ (x.roles.length : Int) = 2 := by omega
          simp [callFnW, ir_roles_exempt, cellsA, hgi, h, c2, n2, n2']
      · have c2' : ¬ (cntR x.role x.roles : Int) = 2 := by omega
        simp [callFnW, ir_roles_exempt, cellsA, hgi, h, c1, c2, c1', c2']
  · have e : exS x i = false := by simp only [exS, hg, hr, decide_false, Bool.false_and]
    rw [e]
    have hgi : x.roles[i]? = some x.roles[i] := List.getElem?_eq_getElem hi
    simp [callFnW, ir_roles_exempt, cellsA, hgi, hr]
end Go.Ai.Z
namespace Go.Ai.Z
theorem l_ref06_exempt (x : Ax) (hx : x.roles.length ≤ 1000) (i : Int) (s : St) (cx : Ctx) :
    ∀ (rest : List (List UInt8)) (k m : Nat), x.roles.drop k = rest → m + rest.length ≤ 1000000 →
    ∃ j : Int, loopW (acodeW P0.glob (acallW P0) cx false ir_ref06_exempt_L0) [1, 2, 5, 6, 7]
      [(1, .v (.i .i64 i)), (2, bxA x), (5, .v (.i .i64 x.roles.length)), (6, .v (.i .i64 m)), (7, .v (.i .i64 k))] s =
      .exit 0 [(1, .v (.i .i64 i)), (2, bxA x), (5, .v (.i .i64 x.roles.length)), (6, .v (.i .i64 (m + cntR x.role rest : Nat))), (7, .v (.i .i64 j)), (13, .v (.b false))] s
  | [], k, m, h, hm => by
    have h1 : ¬ k < x.roles.length := Nat.not_lt.2 (drop_nil h)
    refine ⟨k, loop_step fun K hK => ?_⟩
    simp [ir_ref06_exempt_L0, h1, cntR, bxA, cellsA]
  | p :: rest, k, m, h, hm => by
    obtain ⟨g1, g2, g3, g4⟩ := drop_cons h
    have g5 := g4 g3
    have hwi := wI (i := k) (by omega)
    simp only [List.length_cons] at hm
    have hwm := wI (i := m) (by omega)
    by_cases hp : p = x.role
    · obtain ⟨j, ih⟩ := l_ref06_exempt x hx i s cx rest (k + 1) (m + 1) g2 (by omega)
      refine ⟨j, loop_step fun K hK => ?_⟩
      rw [← hK, show ((k + 1 : Nat) : Int) = (k : Int) + 1 from rfl, show ((m + 1 : Nat) : Int) = (m : Int) + 1 from rfl] at ih
      clear hK g4
      have hn : m + cntR x.role (p :: rest) = m + 1 + cntR x.role rest := by simp only [cntR, hp, if_true]; omega
      rw [hn]
      simp only [bxA, cellsA] at ih ⊢
      rw [← ih]
      simp [ir_ref06_exempt_L0, g3, g5, hwi, hwm, hp]
    · obtain ⟨j, ih⟩ := l_ref06_exempt x hx i s cx rest (k + 1) m g2 (by omega)
      refine ⟨j, loop_step fun K hK => ?_⟩
      rw [← hK, show ((k + 1 : Nat) : Int) = (k : Int) + 1 from rfl] at ih
      clear hK g4
      have hn : m + cntR x.role (p :: rest) = m + cntR x.role rest := by simp only [cntR, hp, if_false]; omega
      rw [hn]
      simp only [bxA, cellsA] at ih ⊢
      rw [← ih]
      simp [ir_ref06_exempt_L0, g3, g5, hwi, hp]
theorem c_ref06_exempt (x : Ax) (hx : x.roles.length ≤ 1000) (i : Nat) (hi : i < x.roles.length) (s : St) (cx : Ctx) : acallW P0 (.fn (.func F_ref06_exempt) [] []) [encA x, .i .i64 i] s cx = .ret (.b (exS x i)) s := by
  obtain ⟨j, h⟩ := l_ref06_exempt x hx i s ⟨s.length, s.length⟩ x.roles 0 0 rfl (by omega)
  refine go_ref06_exempt (by simp) ?_
  have hg : x.roles.getD i [] = x.roles[i] := by simp [List.getD, List.getElem?_eq_getElem hi]
  have hw1 : IntKind.i64.wrap ((x.roles.length : Int) - 1) = (x.roles.length : Int) - 1 := w64 (by omega) (by omega)
  rw [Nat.zero_add] at h
  simp only [bxA, cellsA, Int.ofNat_zero] at h
  by_cases hr : x.roles[i] = x.role
  · have e : exS x i = ((decide (cntR x.role x.roles = 1) && (decide (i = 0) || decide (i + 1 = x.roles.length))) || (decide (cntR x.role x.roles = 2) && decide (x.roles.length = 2))) := by
      simp only [exS, hg, hr, decide_true, Bool.true_and]
    rw [e]
    have hgi : x.roles[i]? = some x.role := by rw [List.getElem?_eq_getElem hi, hr]
    by_cases c2 : cntR x.role x.roles = 2 ∧ x.roles.length = 2
    · have n2' : (x.roles.length : Int) = 2 := by omega
      simp only [n2'] at h
      simp [callFnW, ir_ref06_exempt, cellsA, hgi, h, c2.1, c2.2, n2']
    · have c3 : (decide (cntR x.role x.roles = 2) && decide (x.roles.length = 2)) = false := by simpa using c2
      rw [c3, Bool.or_false]
      by_cases n2 : x.roles.length = 2
      · have c22 : ¬ cntR x.role x.roles = 2 := fun hh => c2 ⟨hh, n2⟩
        have c22' : ¬ (cntR x.role x.roles : Int) = 2 := by omega
        have n2' : (x.roles.length : Int) = 2 := by omega
        simp only [n2'] at h
        by_cases c1 : cntR x.role x.roles = 1
        · rw [n2] at hi
          have : i = 0 ∨ i = 1 := by omega
          rcases this with rfl | rfl
          · simp only [Int.ofNat_zero] at h
            simp [callFnW, ir_ref06_exempt, cellsA, hgi, h, hr, c1, n2, n2']
          · simp only [show ((1 : Nat) : Int) = 1 from rfl] at h
            have hw3 : IntKind.i64.wrap 1 = 1 := w64 (by omega) (by omega)
            simp [hw3, callFnW, ir_ref06_exempt, cellsA, hgi, h, hr, c1, n2, n2']
        · have c1' : ¬ (cntR x.role x.roles : Int) = 1 := by omega
          simp [callFnW, ir_ref06_exempt, cellsA, hgi, h, c1, c1', c22, c22', n2, n2']
      · have n2' : ¬ (x.roles.length : Int) = 2 := by omega
        by_cases c1 : cntR x.role x.roles = 1
        · by_cases i0 : i = 0
          · subst i0
            simp only [Int.ofNat_zero] at h
            simp [callFnW, ir_ref06_exempt, cellsA, hgi, h, c1, n2, n2', hw1]
          · have i0' : ¬ (i : Int) = 0 := by omega
            by_cases i1 : i + 1 = x.roles.length
            · have i1' : (x.roles.length : Int) = (i : Int) + 1 := by omega
              have hwi : IntKind.i64.wrap (i : Int) = i := w64 (by omega) (by omega)
              have n3 : ¬ (i : Int) + 1 = 2 := by omega
              have n4 : ¬ i + 1 = 2 := by omega
              simp only [i1'] at h
              simp [callFnW, ir_ref06_exempt, cellsA, hgi, h, c1, i0, i1, i0', i1', hwi, n3, n4]
            · have i1' : ¬ (i : Int) = (x.roles.length : Int) - 1 := by omega
              simp [callFnW, ir_ref06_exempt, cellsA, hgi, h, c1, i0, i1, i0', i1', hw1, n2, n2']
        · have c1' : ¬ (cntR x.role x.roles : Int) = 1 := by omega
          simp [callFnW, ir_ref06_exempt, cellsA, hgi, h, c1, c1', n2, n2']
  · have e : exS x i = false := by simp only [exS, hg, hr, decide_false, Bool.false_and]
    rw [e]
    have hgi : x.roles[i]? = some x.roles[i] := List.getElem?_eq_getElem hi
    simp [callFnW, ir_ref06_exempt, cellsA, hgi, hr, h]
def chE (x : Ax) : Nat → List Rl → RE
  | _, [] => []
  | k, r :: rs => (if exS x k = true then [] else [(r, x.role, true)]) ++ chE x (k + 1) rs
def subE (x : Ax) : RE := if x.kind = 5 ∧ x.roles.headD [] ≠ x.role then [(x.roles.headD [], x.role, false)] else []
def stA (x : Ax) : RE := subE x ++ (if x.kind = 6 then chE x 0 x.roles else [])
def stE (l : List Ax) : RE := l.flatMap stA
theorem chE_len (x : Ax) : ∀ (rs : List Rl) (k : Nat), (chE x k rs).length ≤ rs.length
  | [], _ => by simp [chE]
  | r :: rs, k => by
    have := chE_len x rs (k + 1)
    simp only [chE, List.length_append, List.length_cons]; split <;> simp <;> omega
theorem stA_len (x : Ax) : (stA x).length ≤ x.roles.length + 1 := by
  have h1 := chE_len x x.roles 0
  have h2 : (subE x).length ≤ 1 := by unfold subE; split <;> simp
  simp only [stA, List.length_append]
  split
  · omega
  · simp; omega
theorem stE_cons (x : Ax) (l : List Ax) : stE (x :: l) = stA x ++ stE l := rfl
theorem stE_len {n : Nat} : ∀ {l : List Ax}, (∀ x ∈ l, x.roles.length ≤ n) → (stE l).length ≤ l.length * (n + 1)
  | [], _ => by simp [stE]
  | x :: l, h => by
    have h1 := stA_len x
    have h2 := stE_len (l := l) fun y hy => h y (by simp [hy])
    have h3 := h x (by simp)
    rw [stE_cons, List.length_append, List.length_cons, Nat.add_mul]; omega
def encS (k : Rl × Rl × Bool) : AV := .ag [.s k.1, .s k.2.1, .b k.2.2]
@[simp] theorem plain_encS (k : Rl × Rl × Bool) : (encS k).plain = encS k := by simp [encS]
@[simp] theorem cells_encS (k : Rl × Rl × Bool) : (encS k).cells = [.s k.1, .s k.2.1, .b k.2.2] := rfl
@[simp] theorem fold_encS (a b : Rl) (c : Bool) : AV.ag [.s a, .s b, .b c] = encS (a, b, c) := rfl
theorem l_ref06_steps1 (z : Bool) (l : List Ax) (i0 : Int) (x : Ax) (hx : x.roles.length ≤ 1000) (h6 : x.kind = 6) (s : St) (cx : Ctx) :
    ∀ (rest : List Rl) (k : Nat) (E : RE), x.roles.drop k = rest → E.length + rest.length ≤ 1000000 →
    ∃ j : Int, loopW (acodeW P0.glob (acallW P0) cx false ir_ref06_steps_L1) [0, 3, 4, 5, 6]
      [(0, .v (slf z (l.map encA))), (3, .own false T_ref06_step_1 3 (E.map encS)), (4, .v (.i .i64 i0)), (5, bxA x), (6, .v (.i .i64 k))] s =
      .exit 2 [(0, .v (slf z (l.map encA))), (3, .own false T_ref06_step_1 3 ((E ++ chE x k rest).map encS)), (4, .v (.i .i64 i0)), (5, bxA x), (6, .v (.i .i64 j)), (48, .v (.b false))] s
  | [], k, E, h, hE => by
    have h1 : ¬ k < x.roles.length := Nat.not_lt.2 (drop_nil h)
    refine ⟨k, loop_step fun K hK => ?_⟩
    simp [ir_ref06_steps_L1, h1, chE, bxA, cellsA]
  | p :: rest, k, E, h, hE => by
    obtain ⟨g1, g2, g3, g4⟩ := drop_cons h
    have g5 := g4 g3
    have hwi := wI (i := k) (by omega)
    simp only [List.length_cons] at hE
    have e1 := c_ref06_exempt x hx k g3
    have hm : E.length + 1 ≤ maxSl := by unfold maxSl; omega
    have hkk : ∀ e t, loopW (acodeW P0.glob (acallW P0) cx false ir_ref06_steps_L1) [0, 3, 4, 5, 6] e t = loopW (acodeW P0.glob (acallW P0) cx false ir_ref06_steps_L1) [0, 3, 4, 5, 6] (keepE e [0, 3, 4, 5, 6]) t := fun e t => loopW_keep _ _ _ _
    cases hex : exS x k with
    | true =>
      obtain ⟨j, ih⟩ := l_ref06_steps1 z l i0 x hx h6 s cx rest (k + 1) E g2 (by omega)
      refine ⟨j, loop_step fun K hK => ?_⟩
      have hKk : ∀ e t, K e t = K (keepE e [0, 3, 4, 5, 6]) t := fun e t => by rw [hK]; exact hkk e t
      rw [← hK, show ((k + 1 : Nat) : Int) = (k : Int) + 1 from rfl] at ih
      clear hK g4 hkk
      rw [hex] at e1
      simp only [encA, cellsA, h6] at e1
      have hn : chE x k (p :: rest) = chE x (k + 1) rest := by simp only [chE, hex, if_true, List.nil_append]
      rw [hn]
      simp only [bxA, cellsA, h6] at ih ⊢
      rw [← ih]
      simp [ir_ref06_steps_L1, g3, g5, hwi, e1, h6]
    | false =>
      obtain ⟨j, ih⟩ := l_ref06_steps1 z l i0 x hx h6 s cx rest (k + 1) (E ++ [(p, x.role, true)]) g2 (by simp; omega)
      refine ⟨j, loop_step fun K hK => ?_⟩
      have hKk : ∀ e t, K e t = K (keepE e [0, 3, 4, 5, 6]) t := fun e t => by rw [hK]; exact hkk e t
      rw [← hK, show ((k + 1 : Nat) : Int) = (k : Int) + 1 from rfl] at ih
      clear hK g4 hkk
      rw [hex] at e1
      simp only [encA, cellsA, h6] at e1
      have hn : E ++ chE x k (p :: rest) = E ++ [(p, x.role, true)] ++ chE x (k + 1) rest := by simp only [chE, hex, Bool.false_eq_true, if_false, List.append_assoc]
      rw [hn]
      simp only [bxA, cellsA, h6] at ih ⊢
      rw [← ih]
      simp [fillC, ir_ref06_steps_L1, g3, g5, hwi, e1, h6, hm]
theorem l_ref06_steps1n (z : Bool) (l : List Ax) (i0 : Int) (x : Ax) (h6 : ¬ x.kind = 6) (s : St) (cx : Ctx) (E : RE) :
    loopW (acodeW P0.glob (acallW P0) cx false ir_ref06_steps_L1) [0, 3, 4, 5, 6]
      [(0, .v (slf z (l.map encA))), (3, .own false T_ref06_step_1 3 (E.map encS)), (4, .v (.i .i64 i0)), (5, bxA x), (6, .v (.i .i64 0))] s =
      .exit 2 [(0, .v (slf z (l.map encA))), (3, .own false T_ref06_step_1 3 (E.map encS)), (4, .v (.i .i64 i0)), (5, bxA x), (6, .v (.i .i64 0)), (48, .v (.b false))] s := by
  refine loop_step fun K hK => ?_
  clear hK
  by_cases h0 : 0 < x.roles.length
  · have h0' : (0 : Int) < x.roles.length := by omega
    simp [ir_ref06_steps_L1, bxA, cellsA, h6, h0, h0']
  · have h0' : ¬ (0 : Int) < x.roles.length := by omega
    simp [ir_ref06_steps_L1, bxA, cellsA, h6, h0, h0']
theorem l_ref06_steps0 (z : Bool) (l : List Ax) (hl : l.length ≤ 1000) (h5 : One5 l) (hrl : ∀ x ∈ l, x.roles.length ≤ 600) (s : St) (cx : Ctx) :
    ∀ (rest : List Ax) (i : Nat) (E : RE), l.drop i = rest → E.length + rest.length * 601 ≤ 1000000 →
    ∃ j : Int, loopW (acodeW P0.glob (acallW P0) cx false ir_ref06_steps_L0) [0, 3, 4]
      [(0, .v (slf z (l.map encA))), (3, .own false T_ref06_step_1 3 (E.map encS)), (4, .v (.i .i64 i))] s =
      .exit 0 [(0, .v (slf z (l.map encA))), (3, .own false T_ref06_step_1 3 ((E ++ stE rest).map encS)), (4, .v (.i .i64 j)), (10, .v (.b false))] s
  | [], i, E, h, hE => by
    have h1 : ¬ i < l.length := Nat.not_lt.2 (drop_nil h)
    refine ⟨i, loop_step fun K hK => ?_⟩
    simp [ir_ref06_steps_L0, h1, stE]
  | x :: rest, i, E, h, hE => by
    obtain ⟨g1, g2, g3, g4⟩ := drop_cons h
    have g5 := g4 g3
    have hwi := wI (i := i) (by omega)
    have hx : x ∈ l := by rw [← g5]; exact List.getElem_mem g3
    have hxr := hrl x hx
    simp only [List.length_cons, Nat.add_mul] at hE
    have hal := stA_len x
    have hm : E.length + 1 ≤ maxSl := by unfold maxSl; omega
    obtain ⟨j, ih⟩ := l_ref06_steps0 z l hl h5 hrl s cx rest (i + 1) (E ++ stA x) g2 (by rw [List.length_append]; omega)
    rw [stE_cons, ← List.append_assoc]
    refine ⟨j, loop_step fun K hK => ?_⟩
    have hKk : ∀ e t, K e t = K (keepE e [0, 3, 4]) t := fun e t => by rw [hK]; exact loopW_keep _ _ _ _
    rw [← hK, show ((i + 1 : Nat) : Int) = (i : Int) + 1 from rfl] at ih
    clear hK g4
    by_cases h6 : x.kind = 6
    · have hsub : subE x = [] := by simp [subE, h6]
      have hsa : stA x = chE x 0 x.roles := by rw [stA, hsub, if_pos h6]; rfl
      obtain ⟨j1, e1⟩ := l_ref06_steps1 z l i x (by omega) h6 s cx x.roles 0 E rfl (by omega)
      rw [hsa] at ih ⊢
      clear hrl h5
      simp only [bxA, cellsA, Int.ofNat_zero, h6] at e1
      rw [← ih]
      try simp at e1
      simp [ir_ref06_steps_L0, g3, g5, hwi, h6, e1]
    · by_cases h55 : x.kind = 5
      · obtain ⟨r0, hr0⟩ := h5 x hx h55
        by_cases hne : r0 = x.role
        · rw [hne] at hr0
          have hsa : stA x = [] := by simp [stA, subE, h55, hr0]
          have e1 := l_ref06_steps1n z l i x h6 s cx E
          rw [hsa, List.append_nil] at ih ⊢
          clear hrl h5
          simp only [bxA, cellsA, h55, hr0] at e1
          rw [← ih]
          try simp at e1
          simp [ir_ref06_steps_L0, g3, g5, hwi, h55, hr0, e1]
        · have hsa : stA x = [(r0, x.role, false)] := by simp [stA, subE, h55, hr0, hne]
          have e1 := l_ref06_steps1n z l i x h6 s cx (E ++ [(r0, x.role, false)])
          rw [hsa] at ih ⊢
          clear hrl h5
          simp only [bxA, cellsA, h55, hr0] at e1
          rw [← ih]
          try simp at e1
          simp [fillC, ir_ref06_steps_L0, g3, g5, hwi, h55, hr0, hne, hm, e1]
      · have hsa : stA x = [] := by simp [stA, subE, h55, h6]
        have e1 := l_ref06_steps1n z l i x h6 s cx E
        rw [hsa, List.append_nil] at ih ⊢
        clear hrl h5
        simp only [bxA, cellsA] at e1
        rw [← ih]
        try simp at e1
        simp [ir_ref06_steps_L0, g3, g5, hwi, h55, h6, e1]
theorem c_ref06_steps (z : Bool) (l : List Ax) (hl : l.length ≤ 1000) (h5 : One5 l) (hrl : ∀ x ∈ l, x.roles.length ≤ 600) (s : St) (cx : Ctx) : acallW P0 (.fn (.func F_ref06_steps) [] []) [slf z (l.map encA)] s cx = .ret (.sl ((stE l).map encS)) s := by
  obtain ⟨j, h⟩ := l_ref06_steps0 z l hl h5 hrl s ⟨s.length, s.length⟩ l 0 [] rfl (by simp; omega)
  refine go_ref06_steps (by simp) ?_
  clear hrl h5
  try simp at h
  simp [callFnW, ir_ref06_steps, h]
end Go.Ai.Z
namespace Go.Ai.Z
def mg (E : RE) (r t : Rl) : Option Bool := E.foldl (fun a k => if k.1 = r ∧ k.2.1 = t then some (a.getD false || k.2.2) else a) none
theorem mg_snoc (E : RE) (k : Rl × Rl × Bool) (r t : Rl) : mg (E ++ [k]) r t = if k.1 = r ∧ k.2.1 = t then some ((mg E r t).getD false || k.2.2) else mg E r t := by
  simp [mg, List.foldl_append]
structure StT (s : St) (M : Rl → Rl → Option Bool) (es : List (AV × AV)) (rest : St) : Prop where
  str : StrK es
  at_ : ∀ r, (find 1 (.s r) es = some none ∧ ∀ t, M r t = none) ∨ ∃ x is, find 1 (.s r) es = some (some (.mp (s.length + 2 + x))) ∧ rest[x]? = some (.map is) ∧ StrK is ∧ is ≠ [] ∧ ∀ t, find 1 (.s t) is = some ((M r t).map AV.b)
  inj : ∀ r1 r2 x, find 1 (.s r1) es = some (some (.mp (s.length + 2 + x))) → find 1 (.s r2) es = some (some (.mp (s.length + 2 + x))) → r1 = r2
def StM (s : St) (M : Rl → Rl → Option Bool) (H : St) : Prop := ∃ es rest, H = s ++ .map es :: .cells [.mp s.length] :: rest ∧ StT s M es rest
@[simp] theorem stm_1 {s r : St} {a b : HObj} : (s ++ a :: b :: r)[s.length + 1]? = some b := by simp
theorem st2_r {s r : St} {a b : HObj} {x : Nat} : (s ++ a :: b :: r)[s.length + 2 + x]? = r[x]? := by
  rw [show s.length + 2 + x = s.length + (x + 2) by omega, List.getElem?_append_right (by omega)]
  simp [show s.length + (x + 2) - s.length = x + 2 by omega]
theorem st2_rset {s r : St} {a b v : HObj} {x : Nat} : (s ++ a :: b :: r).set (s.length + 2 + x) v = s ++ a :: b :: r.set x v := by
  rw [show s.length + 2 + x = s.length + (x + 2) by omega, List.set_append, if_neg (by omega), show s.length + (x + 2) - s.length = x + 2 by omega]
  simp
@[simp] theorem stm_s0 {s r : St} {a b v : HObj} : (s ++ a :: b :: r).set s.length v = s ++ v :: b :: r := by simp
theorem c_steps1_old (s : St) (es : List (AV × AV)) (rest : St) (r t : Rl) (b ob : Bool) (x : Nat) (is is' : List (AV × AV)) (o : Option Bool) (hf : find 1 (.s r) es = some (some (.mp (s.length + 2 + x)))) (hx : rest[x]? = some (.map is)) (hi : find 1 (.s t) is = some (o.map AV.b)) (ho : ob = o.getD false)
    (hm : mput 1 (.s t) (.b (ob || b)) is = some is') (cx : Ctx) (hcx : cx.lim ≤ s.length ∧ cx.base ≤ s.length) :
    acallW P0 (.fn (.func F_roles_steps_1) [] [.pt (s.length + 1) 0]) [.s r, .s t, .b b] (s ++ .map es :: .cells [.mp s.length] :: rest) cx = .ret (.tu []) (s ++ .map es :: .cells [.mp s.length] :: rest.set x (.map is')) := by
  refine go_roles_steps_1 (by simp) ?_
  have h1 := st2_r (s := s) (r := rest) (a := .map es) (b := .cells [.mp s.length]) (x := x)
  have h2 := fun v => st2_rset (s := s) (r := rest) (a := .map es) (b := .cells [.mp s.length]) (x := x) (v := v)
  rw [hx] at h1
  have w1 : cx.lim ≤ s.length + 2 + x := by omega
  have w2 : cx.base ≤ s.length + 2 + x := by omega
  subst ho
  cases o with
  | none =>
    simp at hm
    simp [nilK, callFnW, ir_roles_steps_1, hf, h1, h2, hi, hm, w1, w2, keyK]
  | some ob =>
    cases ob with
    | true =>
      simp at hm
      simp [nilK, callFnW, ir_roles_steps_1, hf, h1, h2, hi, hm, w1, w2, keyK]
    | false =>
      simp at hm
      simp [nilK, callFnW, ir_roles_steps_1, hf, h1, h2, hi, hm, w1, w2, keyK]
theorem c_steps1_new (s : St) (es es' : List (AV × AV)) (rest : St) (r t : Rl) (b : Bool) (hf : find 1 (.s r) es = some none) (hm : mput 1 (.s r) (.mp (s.length + 2 + rest.length)) es = some es') (hf' : find 1 (.s r) es' = some (some (.mp (s.length + 2 + rest.length))))
    (cx : Ctx) (hcx : cx.lim ≤ s.length ∧ cx.base ≤ s.length) :
    acallW P0 (.fn (.func F_roles_steps_1) [] [.pt (s.length + 1) 0]) [.s r, .s t, .b b] (s ++ .map es :: .cells [.mp s.length] :: rest) cx = .ret (.tu []) (s ++ .map es' :: .cells [.mp s.length] :: (rest ++ [.map [(.s t, .b b)]])) := by
  refine go_roles_steps_1 (by simp) ?_
  have h1 := st2_r (s := s) (r := rest ++ [.map []]) (a := .map es') (b := .cells [.mp s.length]) (x := rest.length)
  have h2 := fun v => st2_rset (s := s) (r := rest ++ [.map []]) (a := .map es') (b := .cells [.mp s.length]) (x := rest.length) (v := v)
  have hset : ∀ v, (rest ++ [HObj.map []]).set rest.length v = rest ++ [v] := fun v => by simp
  rw [List.getElem?_concat_length] at h1
  simp only [hset] at h2
  have hlen : s.length + (rest.length + 1 + 1) = s.length + 2 + rest.length := by omega
  have w1 : cx.lim ≤ s.length + 2 + rest.length := by omega
  have w2 : cx.base ≤ s.length + 2 + rest.length := by omega
  simp [nilK, callFnW, ir_roles_steps_1, hf, hlen, hm, hf', h1, h2, hcx.1, hcx.2, w1, w2, keyK, find, mput]
theorem stM_add {s : St} {E : RE} {H : St} (h : StM s (mg E) H) (r t : Rl) (b : Bool) (cx : Ctx) (hcx : cx.lim ≤ s.length ∧ cx.base ≤ s.length) :
    ∃ H', acallW P0 (.fn (.func F_roles_steps_1) [] [.pt (s.length + 1) 0]) [.s r, .s t, .b b] H cx = .ret (.tu []) H' ∧ StM s (mg (E ++ [(r, t, b)])) H' := by
  obtain ⟨es, rest, rfl, hT⟩ := h
  have hoth : ∀ r', r' ≠ r → ∀ t', mg (E ++ [(r, t, b)]) r' t' = mg E r' t' := fun r' hr t' => by
    rw [mg_snoc, if_neg]; exact fun hh => hr hh.1.symm
  rcases hT.at_ r with ⟨h1, h2⟩ | ⟨x, is, h1, h2, h3, h4, h5⟩
  · obtain ⟨es', m1, m2, m3⟩ := mput_str (k := r) (v := .mp (s.length + 2 + rest.length)) hT.str
    refine ⟨_, c_steps1_new s es es' rest r t b h1 m1 (by rw [m3, if_pos rfl]) cx hcx, es', _, rfl, m2, fun r' => ?_, fun r1 r2 x k1 k2 => ?_⟩
    · by_cases hr : r' = r
      · subst hr
        refine .inr ⟨rest.length, [(.s t, .b b)], by rw [m3, if_pos rfl], by simp, strK_one _ _, by simp, fun t' => ?_⟩
        rw [mg_snoc]
        by_cases ht : t' = t
        · subst ht; simp [find, keyEq, h2]
        · have ht' : ¬ t = t' := fun h => ht h.symm
          simp [find, keyEq, ht, ht', h2]
      · rcases hT.at_ r' with ⟨g1, g2⟩ | ⟨x, is, g1, g2, g3, g4, g5⟩
        · exact .inl ⟨by rw [m3, if_neg hr, g1], fun t' => by rw [hoth r' hr, g2]⟩
        · exact .inr ⟨x, is, by rw [m3, if_neg hr, g1], by rw [List.getElem?_append_left (List.getElem?_eq_some_iff.1 g2).1, g2], g3, g4, fun t' => by rw [hoth r' hr, g5]⟩
    · rw [m3] at k1 k2
      have hold : ∀ r' y, find 1 (.s r') es = some (some (.mp (s.length + 2 + y))) → y < rest.length := fun r' y hy => by
        rcases hT.at_ r' with ⟨g1, _⟩ | ⟨z, is, g1, g2, _⟩
        · rw [g1] at hy; cases hy
        · rw [g1] at hy
          have : z = y := by simp at hy; omega
          have := (List.getElem?_eq_some_iff.1 g2).1
          omega
      by_cases e1 : r1 = r
      · by_cases e2 : r2 = r
        · rw [e1, e2]
        · rw [if_pos e1] at k1
          rw [if_neg e2] at k2
          have hx : x = rest.length := by simp at k1; omega
          have := hold r2 x k2
          omega
      · rw [if_neg e1] at k1
        by_cases e2 : r2 = r
        · rw [if_pos e2] at k2
          have hx : x = rest.length := by simp at k2; omega
          have := hold r1 x k1
          omega
        · rw [if_neg e2] at k2
          exact hT.inj r1 r2 x k1 k2
  · obtain ⟨is', m1, m2, m3⟩ := mput_str (k := t) (v := .b ((mg E r t).getD false || b)) h3
    have hne : is' ≠ [] := fun hh => by
      have := m3 t
      rw [hh, if_pos rfl] at this; simp [find] at this
    refine ⟨_, c_steps1_old s es rest r t b _ x is is' (mg E r t) h1 h2 (h5 t) rfl m1 cx hcx, es, _, rfl, hT.str, fun r' => ?_, hT.inj⟩
    by_cases hr : r' = r
    · subst hr
      refine .inr ⟨x, is', h1, by rw [List.getElem?_set_self (List.getElem?_eq_some_iff.1 h2).1], m2, hne, fun t' => ?_⟩
      rw [m3, mg_snoc]
      by_cases ht : t' = t
      · subst ht; simp
      · have ht' : ¬ t = t' := fun h => ht h.symm
        simp [ht, ht', h5]
    · rcases hT.at_ r' with ⟨g1, g2⟩ | ⟨y, is2, g1, g2, g3, g4, g5⟩
      · exact .inl ⟨g1, fun t' => by rw [hoth r' hr, g2]⟩
      · have hxy : x ≠ y := fun e => hr (hT.inj r' r y g1 (by rw [← e]; exact h1))
        exact .inr ⟨y, is2, g1, by rw [List.getElem?_set_ne hxy, g2], g3, g4, fun t' => by rw [hoth r' hr, g5]⟩
theorem stM_nil (s : St) : StM s (mg []) (s ++ .map [] :: .cells [.mp s.length] :: []) := ⟨[], [], rfl, strK_nil, fun r => .inl ⟨rfl, fun t => rfl⟩, fun r1 r2 x h => by simp [find] at h⟩
end Go.Ai.Z
