/-
 veilstonelaw06.has: the contract.
-/
import Derived.Test.YtpanocallohgdaaDoorAiRchR1
import Derived.Test.YtpanocallohgdaaDoorAiR58R64
set_option maxRecDepth 100000
set_option linter.unusedSimpArgs false
set_option linter.unusedVariables false
namespace Go.Ai.Z
theorem l_law06_has (z : Bool) (l : List (List UInt8)) (x : List UInt8) (hl : l.length ≤ 1000000) (s : St) (cx : Ctx) :
  ∀ (rest : List (List UInt8)) (i : Nat), l.drop i = rest →
  ∃ j : Int, loopW (acodeW P0.glob (acallW P0) cx false ir_law06_has_L0) [0, 1, 5] [(0, .v (slf z (l.map .s))), (1, .v (.s x)), (5, .v (.i .i64 i))] s =
   if x ∈ rest then .ret [(4, .v (.b true))] s else .exit 0 [(0, .v (slf z (l.map .s))), (1, .v (.s x)), (5, .v (.i .i64 j)), (9, .v (.b false))] s
 | [], i, h => by
  have h1 : ¬ i < l.length := Nat.not_lt.2 (drop_nil h)
  refine ⟨i, loop_step fun K hK => ?_⟩
  simp [ir_law06_has_L0, h1]
 | p :: r, i, h => by
  obtain ⟨h1, h2, h3, h4⟩ := drop_cons h
  have h5 := h4 h3
  have hw := wI (i := i) (by omega)
  by_cases hp : p = x
  ·refine ⟨0, loop_step fun K hK => ?_⟩
   clear h4
   simp [ir_law06_has_L0, h3, h5, hw, hp]
  ·obtain ⟨j, ih⟩ := l_law06_has z l x hl s cx r (i + 1) h2
   have hp' : ¬ x = p := fun h => hp h.symm
   refine ⟨j, loop_step fun K hK => ?_⟩
   rw [← hK, show ((i + 1 : Nat) : Int) = (i : Int) + 1 from rfl] at ih
   clear hK h4
   try simp at ih
   simp [ir_law06_has_L0, h3, h5, hw, hp, hp', ih]
theorem c_law06_has (l : List (List UInt8)) (x : List UInt8) (hl : l.length ≤ 1000000) (s : St) (cx : Ctx) : acallW P0 (.fn (.func F_law06_has) [] []) [.sl (l.map .s), .s x] s cx = .ret (.b (decide (x ∈ l))) s := by
 obtain ⟨j, h⟩ := l_law06_has false l x hl s ⟨s.length, s.length⟩ l 0 rfl
 refine go_law06_has (by simp) ?_
 simp at h
 by_cases hx : x ∈ l <;> simp [callFnW, ir_law06_has, h, hx]
end Go.Ai.Z
namespace Go.Ai.Z
theorem frz_bb (S : St) (n : Nat) (a b : Bool) : frz S n (.tu [.b a, .b b]) = some (.tu [.b a, .b b]) := by
 unfold frz
 rw [if_pos (by simp)]
theorem l_leads1 (A : AV) (r : Rl) (b1 b2 : Bool) (i : Int) (x : Ax) (hx : x.roles.length ≤ 1000) (s : St) (cx : Ctx) :
  ∀ (rest : List Rl) (k m : Nat), x.roles.drop k = rest → m + rest.length ≤ 1000000 →
  ∃ j : Int, loopW (acodeW P0.glob (acallW P0) cx false ir_law06_leads_L1) [0, 1, 2, 8, 9, 10, 11, 12, 13]
   [(0, .v A), (1, .v (.s r)), (2, .v (.s x.role)), (8, .v (.b b1)), (9, .v (.b b2)), (10, .v (.i .i64 i)), (11, bxA x), (12, .v (.i .i64 m)), (13, .v (.i .i64 k))] s =
   .exit 2 [(0, .v A), (1, .v (.s r)), (2, .v (.s x.role)), (8, .v (.b b1)), (9, .v (.b b2)), (10, .v (.i .i64 i)), (11, bxA x), (12, .v (.i .i64 (m + cntR x.role rest : Nat))), (13, .v (.i .i64 j)), (61, .v (.b false))] s
 | [], k, m, h, hm => by
  have h1 : ¬ k < x.roles.length := Nat.not_lt.2 (drop_nil h)
  refine ⟨k, loop_step fun K hK => ?_⟩
  simp [ir_law06_leads_L1, h1, cntR, bxA, cellsA]
 | p :: rest, k, m, h, hm => by
  obtain ⟨g1, g2, g3, g4⟩ := drop_cons h
  have g5 := g4 g3
  have hwi := wI (i := k) (by omega)
  simp only [List.length_cons] at hm
  have hwm := wI (i := m) (by omega)
  by_cases hp : p = x.role
  ·obtain ⟨j, ih⟩ := l_leads1 A r b1 b2 i x hx s cx rest (k + 1) (m + 1) g2 (by omega)
   refine ⟨j, loop_step fun K hK => ?_⟩
   rw [← hK, show ((k + 1 : Nat) : Int) = (k : Int) + 1 from rfl, show ((m + 1 : Nat) : Int) = (m : Int) + 1 from rfl] at ih
   clear hK g4
   have hn : m + cntR x.role (p :: rest) = m + 1 + cntR x.role rest := by simp only [cntR, hp, if_true]; omega
   rw [hn]
   simp only [bxA, cellsA] at ih ⊢
   rw [← ih]
   simp [ir_law06_leads_L1, g3, g5, hwi, hwm, hp]
  ·obtain ⟨j, ih⟩ := l_leads1 A r b1 b2 i x hx s cx rest (k + 1) m g2 (by omega)
   refine ⟨j, loop_step fun K hK => ?_⟩
   rw [← hK, show ((k + 1 : Nat) : Int) = (k : Int) + 1 from rfl] at ih
   clear hK g4
   have hn : m + cntR x.role (p :: rest) = m + cntR x.role rest := by simp only [cntR, hp, if_false]; omega
   rw [hn]
   simp only [bxA, cellsA] at ih ⊢
   rw [← ih]
   simp [ir_law06_leads_L1, g3, g5, hwi, hp]
theorem l_leads2 (A : AV) (r : Rl) (b1 : Bool) (i : Int) (x : Ax) (hx : x.roles.length ≤ 1000) (n : Nat) (hn : cntR x.role x.roles = n) (s : St) (cx : Ctx) :
  ∀ (rest : List Rl) (k : Nat) (b2 : Bool), x.roles.drop k = rest →
  ∃ j : Int, loopW (acodeW P0.glob (acallW P0) cx false ir_law06_leads_L2) [0, 1, 2, 8, 9, 10, 11, 12, 14]
   [(0, .v A), (1, .v (.s r)), (2, .v (.s x.role)), (8, .v (.b b1)), (9, .v (.b b2)), (10, .v (.i .i64 i)), (11, bxA x), (12, .v (.i .i64 n)), (14, .v (.i .i64 k))] s =
   .exit 4 [(0, .v A), (1, .v (.s r)), (2, .v (.s x.role)), (8, .v (.b b1)), (9, .v (.b (b2 || ldK x r k rest))), (10, .v (.i .i64 i)), (11, bxA x), (12, .v (.i .i64 n)), (14, .v (.i .i64 j)), (77, .v (.b false))] s
 | [], k, b2, h => by
  have h1 : ¬ k < x.roles.length := Nat.not_lt.2 (drop_nil h)
  refine ⟨k, loop_step fun K hK => ?_⟩
  simp [ir_law06_leads_L2, h1, ldK, bxA, cellsA]
 | p :: rest, k, b2, h => by
  obtain ⟨g1, g2, g3, g4⟩ := drop_cons h
  have g5 := g4 g3
  have hwi := wI (i := k) (by omega)
  have hw1 : IntKind.i64.wrap ((x.roles.length : Int) - 1) = (x.roles.length : Int) - 1 := w64 (by omega) (by omega)
  have hg : x.roles.getD k [] = p := by simp [List.getD, List.getElem?_eq_getElem g3, g5]
  have fin : ∀ b3, (b2 || (decide (p = r) && !exS x k)) = b3 → ∃ j : Int, ∀ K, K = loopW (acodeW P0.glob (acallW P0) cx false ir_law06_leads_L2) [0, 1, 2, 8, 9, 10, 11, 12, 14] →
    K [(0, .v A), (1, .v (.s r)), (2, .v (.s x.role)), (8, .v (.b b1)), (9, .v (.b b3)), (10, .v (.i .i64 i)), (11, .bx (cellsA x)), (12, .v (.i .i64 n)), (14, .v (.i .i64 ((k : Int) + 1)))] s =
    .exit 4 [(0, .v A), (1, .v (.s r)), (2, .v (.s x.role)), (8, .v (.b b1)), (9, .v (.b (b2 || ldK x r k (p :: rest)))), (10, .v (.i .i64 i)), (11, .bx (cellsA x)), (12, .v (.i .i64 n)), (14, .v (.i .i64 j)), (77, .v (.b false))] s := by
   intro b3 hb
   obtain ⟨j, ih⟩ := l_leads2 A r b1 i x hx n hn s cx rest (k + 1) b3 g2
   refine ⟨j, fun K hK => ?_⟩
   rw [← hK, show ((k + 1 : Nat) : Int) = (k : Int) + 1 from rfl] at ih
   simp only [bxA] at ih
   rw [ih, ← hb]
   simp only [ldK, Bool.or_assoc]
  by_cases hp : p = r
  ·by_cases hr : r = x.role
   ·have hex : exS x k = ((decide (n = 1) && (decide (k = 0) || decide (k + 1 = x.roles.length))) || (decide (n = 2) && decide (x.roles.length = 2))) := by
     simp only [exS, hg, hp, hr, hn, decide_true, Bool.true_and]
    by_cases n1 : n = 1
    ·have n1' : (n : Int) = 1 := by omega
     by_cases k0 : k = 0
     ·have e : exS x k = true := by rw [hex]; simp [n1, k0]
      subst k0
      obtain ⟨j, hj⟩ := fin b2 (by simp [e])
      refine ⟨j, loop_step fun K hK => ?_⟩
      simp only [bxA]
      rw [← hj K hK]
      clear hK g4 fin hj
      subst hp
      simp at hwi
      simp [ir_law06_leads_L2, cellsA, g3, g5, hwi, hr, n1']
     ·have k0' : ¬ (k : Int) = 0 := by omega
      by_cases kl : k + 1 = x.roles.length
      ·have e : exS x k = true := by rw [hex]; simp [n1, kl]
       have kl' : ((k : Int) = (x.roles.length : Int) - 1) = True := by simp; omega
       obtain ⟨j, hj⟩ := fin b2 (by simp [e])
       refine ⟨j, loop_step fun K hK => ?_⟩
       simp only [bxA]
       rw [← hj K hK]
       clear hK g4 fin hj
       subst hp
       simp [ir_law06_leads_L2, cellsA, g3, g5, hwi, hw1, hr, n1', k0, k0', kl']
      ·have e : exS x k = false := by rw [hex]; simp [n1, k0, kl]
       have kl' : ¬ (k : Int) = (x.roles.length : Int) - 1 := by omega
       obtain ⟨j, hj⟩ := fin true (by simp [e, hp])
       refine ⟨j, loop_step fun K hK => ?_⟩
       simp only [bxA]
       rw [← hj K hK]
       clear hK g4 fin hj
       subst hp
       simp [ir_law06_leads_L2, cellsA, g3, g5, hwi, hw1, hr, n1', k0, k0', kl']
    ·have n1' : ¬ (n : Int) = 1 := by omega
     by_cases n2 : n = 2
     ·have n2' : (n : Int) = 2 := by omega
      by_cases l2 : x.roles.length = 2
      ·have e : exS x k = true := by rw [hex]; simp [n2, l2]
       have l2' : ((x.roles.length : Int) = 2) = True := by simp; omega
       have g3' : k < 2 := by omega
       have gk : (k : Int) < 2 := by omega
       obtain ⟨j, hj⟩ := fin b2 (by simp [e])
       refine ⟨j, loop_step fun K hK => ?_⟩
       simp only [bxA]
       rw [← hj K hK]
       clear hK g4 fin hj
       subst hp
       simp [ir_law06_leads_L2, cellsA, g3, g5, hwi, hr, n1, n1', n2', l2, l2', g3', gk]
      ·have e : exS x k = false := by rw [hex]; simp [n2, l2]
       have l2' : ¬ (x.roles.length : Int) = 2 := by omega
       obtain ⟨j, hj⟩ := fin true (by simp [e, hp])
       refine ⟨j, loop_step fun K hK => ?_⟩
       simp only [bxA]
       rw [← hj K hK]
       clear hK g4 fin hj
       subst hp
       simp [ir_law06_leads_L2, cellsA, g3, g5, hwi, hr, n1, n1', n2', l2, l2']
     ·have n2' : ¬ (n : Int) = 2 := by omega
      have e : exS x k = false := by rw [hex]; simp [n1, n2]
      obtain ⟨j, hj⟩ := fin true (by simp [e, hp])
      refine ⟨j, loop_step fun K hK => ?_⟩
      simp only [bxA]
      rw [← hj K hK]
      clear hK g4 fin hj
      subst hp
      simp [ir_law06_leads_L2, cellsA, g3, g5, hwi, hr, n1, n1', n2, n2']
   ·have e : exS x k = false := by
     have : ¬ p = x.role := fun h => hr (hp ▸ h)
     simp only [exS, hg, this, decide_false, Bool.false_and]
    obtain ⟨j, hj⟩ := fin true (by simp [e, hp])
    refine ⟨j, loop_step fun K hK => ?_⟩
    simp only [bxA]
    rw [← hj K hK]
    clear hK g4 fin hj
    subst hp
    simp [ir_law06_leads_L2, cellsA, g3, g5, hwi, hr]
  ·have e : (decide (p = r) && !exS x k) = false := by simp [hp]
   obtain ⟨j, hj⟩ := fin b2 (by simp [e])
   refine ⟨j, loop_step fun K hK => ?_⟩
   simp only [bxA]
   rw [← hj K hK]
   clear hK g4 fin hj
   simp [ir_law06_leads_L2, cellsA, g3, g5, hwi, hp]
theorem l_leads0 (z : Bool) (l : List Ax) (hl : l.length ≤ 1000) (hrl : ∀ x ∈ l, x.roles.length ≤ 1000) (r t : Rl) (s : St) (cx : Ctx) :
  ∀ (rest : List Ax) (i : Nat) (b1 b2 : Bool), l.drop i = rest →
  ∃ j : Int, loopW (acodeW P0.glob (acallW P0) cx false ir_law06_leads_L0) [0, 1, 2, 8, 9, 10]
   [(0, .v (slf z (l.map encA))), (1, .v (.s r)), (2, .v (.s t)), (8, .v (.b b1)), (9, .v (.b b2)), (10, .v (.i .i64 i))] s =
   .exit 0 [(0, .v (slf z (l.map encA))), (1, .v (.s r)), (2, .v (.s t)), (8, .v (.b (b1 || rest.any (ldU r t)))), (9, .v (.b (b2 || rest.any (ldV r t)))), (10, .v (.i .i64 j)), (18, .v (.b false))] s
 | [], i, b1, b2, h => by
  have h1 : ¬ i < l.length := Nat.not_lt.2 (drop_nil h)
  refine ⟨i, loop_step fun K hK => ?_⟩
  simp [ir_law06_leads_L0, h1]
 | x :: rest, i, b1, b2, h => by
  obtain ⟨g1, g2, g3, g4⟩ := drop_cons h
  have g5 := g4 g3
  have hwi := wI (i := i) (by omega)
  have hxr := hrl x (by rw [← g5]; exact List.getElem_mem g3)
  have fin : ∀ b3 b4, (b1 || ldU r t x) = b3 → (b2 || ldV r t x) = b4 → ∃ j : Int, ∀ K, K = loopW (acodeW P0.glob (acallW P0) cx false ir_law06_leads_L0) [0, 1, 2, 8, 9, 10] →
    K [(0, .v (slf z (l.map encA))), (1, .v (.s r)), (2, .v (.s t)), (8, .v (.b b3)), (9, .v (.b b4)), (10, .v (.i .i64 ((i : Int) + 1)))] s =
    .exit 0 [(0, .v (slf z (l.map encA))), (1, .v (.s r)), (2, .v (.s t)), (8, .v (.b (b1 || (x :: rest).any (ldU r t)))), (9, .v (.b (b2 || (x :: rest).any (ldV r t)))), (10, .v (.i .i64 j)), (18, .v (.b false))] s := by
   intro b3 b4 h3 h4
   obtain ⟨j, ih⟩ := l_leads0 z l hl hrl r t s cx rest (i + 1) b3 b4 g2
   refine ⟨j, fun K hK => ?_⟩
   rw [← hK, show ((i + 1 : Nat) : Int) = (i : Int) + 1 from rfl] at ih
   rw [ih, ← h3, ← h4]
   simp only [List.any_cons, Bool.or_assoc]
  by_cases ht : x.role = t
  ·by_cases h5 : x.kind = 5
   ·have e2 : ldV r t x = false := by simp [ldV, h5]
    cases b1 with
    | true =>
     obtain ⟨j, hj⟩ := fin true b2 (by simp) (by simp [e2])
     refine ⟨j, loop_step fun K hK => ?_⟩
     rw [← hj K hK]
     clear hK g4 fin hj hrl
     simp [ir_law06_leads_L0, g3, g5, hwi, ht, h5]
    | false =>
     by_cases hne : r = t
     ·have e1 : ldU r t x = false := by simp [ldU, hne]
      obtain ⟨j, hj⟩ := fin false b2 (by simp [e1]) (by simp [e2])
      refine ⟨j, loop_step fun K hK => ?_⟩
      rw [← hj K hK]
      clear hK g4 fin hj hrl
      simp [ir_law06_leads_L0, g3, g5, hwi, ht, h5, hne]
     ·rcases hrs : x.roles with _ | ⟨a, _ | ⟨b, rs⟩⟩
      ·have e1 : ldU r t x = false := by simp [ldU, hrs]
       obtain ⟨j, hj⟩ := fin false b2 (by simp [e1]) (by simp [e2])
       refine ⟨j, loop_step fun K hK => ?_⟩
       rw [← hj K hK]
       clear hK g4 fin hj hrl
       cases hz : x.z <;> simp [ir_law06_leads_L0, g3, g5, hwi, ht, h5, hne, hrs, hz]
      ·by_cases ha : a = r
       ·have e1 : ldU r t x = true := by simp [ldU, hrs, ha, h5, ht, hne]
        obtain ⟨j, hj⟩ := fin true b2 (by simp [e1]) (by simp [e2])
        refine ⟨j, loop_step fun K hK => ?_⟩
        rw [← hj K hK]
        clear hK g4 fin hj hrl
        simp [ir_law06_leads_L0, g3, g5, hwi, ht, h5, hne, hrs, ha]
       ·have e1 : ldU r t x = false := by simp [ldU, hrs, ha]
        obtain ⟨j, hj⟩ := fin false b2 (by simp [e1]) (by simp [e2])
        refine ⟨j, loop_step fun K hK => ?_⟩
        rw [← hj K hK]
        clear hK g4 fin hj hrl
        simp [ir_law06_leads_L0, g3, g5, hwi, ht, h5, hne, hrs, ha]
      ·have e1 : ldU r t x = false := by simp [ldU, hrs]
       obtain ⟨j, hj⟩ := fin false b2 (by simp [e1]) (by simp [e2])
       refine ⟨j, loop_step fun K hK => ?_⟩
       rw [← hj K hK]
       clear hK g4 fin hj hrl
       have hl2 : ¬ ((rs.length : Int) + 1 + 1 = 1) := by omega
       simp [ir_law06_leads_L0, g3, g5, hwi, ht, h5, hne, hrs, hl2]
   ·by_cases h6 : x.kind = 6
    ·have e1 : ldU r t x = false := by simp [ldU, h5]
     have e2 : ldV r t x = ldK x r 0 x.roles := by simp [ldV, h6, ht]
     obtain ⟨j1, k1⟩ := l_leads1 (slf z (l.map encA)) r b1 b2 i x hxr s cx x.roles 0 0 rfl (by omega)
     obtain ⟨j2, k2⟩ := l_leads2 (slf z (l.map encA)) r b1 i x hxr _ rfl s cx x.roles 0 b2 rfl
     rw [Nat.zero_add] at k1
     simp only [bxA, cellsA, ht, h6, Int.ofNat_zero] at k1 k2
     obtain ⟨j, hj⟩ := fin b1 (b2 || ldK x r 0 x.roles) (by simp [e1]) (by rw [e2])
     refine ⟨j, loop_step fun K hK => ?_⟩
     rw [← hj K hK]
     clear hK g4 fin hj hrl
     cases b1 with
     | true => simp [ir_law06_leads_L0, g3, g5, hwi, ht, h6, k1, k2]
     | false => simp [ir_law06_leads_L0, g3, g5, hwi, ht, h6, k1, k2]
    ·have e1 : ldU r t x = false := by simp [ldU, h5]
     have e2 : ldV r t x = false := by simp [ldV, h6]
     obtain ⟨j, hj⟩ := fin b1 b2 (by simp [e1]) (by simp [e2])
     refine ⟨j, loop_step fun K hK => ?_⟩
     rw [← hj K hK]
     clear hK g4 fin hj hrl
     cases b1 with
     | true => simp [ir_law06_leads_L0, g3, g5, hwi, ht, h5, h6]
     | false => simp [ir_law06_leads_L0, g3, g5, hwi, ht, h5, h6]
  ·have e1 : ldU r t x = false := by simp [ldU, ht]
   have e2 : ldV r t x = false := by simp [ldV, ht]
   obtain ⟨j, hj⟩ := fin b1 b2 (by simp [e1]) (by simp [e2])
   refine ⟨j, loop_step fun K hK => ?_⟩
   rw [← hj K hK]
   clear hK g4 fin hj hrl
   simp [ir_law06_leads_L0, g3, g5, hwi, ht]
theorem c_law06_leads (z : Bool) (l : List Ax) (hl : l.length ≤ 1000) (hrl : ∀ x ∈ l, x.roles.length ≤ 1000) (r t : Rl) (s : St) (cx : Ctx) :
  acallW P0 (.fn (.func F_law06_leads) [] []) [slf z (l.map encA), .s r, .s t] s cx = .ret (.tu [.b (ldB l r t || ldT l r t), .b (ldT l r t)]) s := by
 obtain ⟨j, h⟩ := l_leads0 z l hl hrl r t s ⟨s.length, s.length⟩ l 0 false false rfl
 refine go_law06_leads (by simp) ?_
 rw [Bool.false_or, Bool.false_or] at h
 change _ = Out.exit 0 [_, _, _, (8, .v (.b (ldB l r t))), (9, .v (.b (ldT l r t))), _, _] s at h
 simp only [Int.ofNat_zero] at h
 generalize ldB l r t = x1 at *
 generalize ldT l r t = x2 at *
 cases x1 with
 | true => simp [callFnW, ir_law06_leads, h, frz_bb]
 | false => simp [callFnW, ir_law06_leads, h, frz_bb]
end Go.Ai.Z
namespace Go.Ai.Z
def stF (l : List Ax) (X : List Rl) : Nat → Nat → Bool
 | 0, _ => false
 | n + 1, i => ldT l (X.getD i []) (nxt X i) || stF l X n (i + 1)
theorem stF_of {l : List Ax} {X : List Rl} {k : Nat} (h : ldT l (X.getD k []) (nxt X k) = true) : ∀ {n i : Nat}, i ≤ k → k < i + n → stF l X n i = true
 | 0, i, h1, h2 => by omega
 | n + 1, i, h1, h2 => by
  simp only [stF, Bool.or_eq_true]
  by_cases hk : k = i
  ·subst hk; exact .inl h
  ·exact .inr (stF_of h (by omega) (by omega))
theorem nxt_at {X : List Rl} {i : Nat} (hX : 0 < X.length) : ∃ h : (i + 1) % X.length < X.length, X[(i + 1) % X.length] = nxt X i := by
 have h := Nat.mod_lt (i + 1) hX
 exact ⟨h, by simp [nxt, List.getD, List.getElem?_eq_getElem h]⟩
theorem strs_cells (w : List Rl) : (w.map AV.s).all (fun e => e.cells.length == 1) = true := by
 simp only [List.all_eq_true, List.mem_map, beq_iff_eq]
 rintro _ ⟨x, _, rfl⟩; rfl
theorem l_circ0 (z : Bool) (l : List Ax) (hl : l.length ≤ 1000) (hrl : ∀ x ∈ l, x.roles.length ≤ 1000) (h5 : One5 l) (X : List Rl) (hX : X.length ≤ 1000000) (hG : GoodC (stE l) X) (s : St) (cx : Ctx) :
  ∀ (n i : Nat) (b : Bool), i + n = X.length →
  ∃ j : Int, loopW (acodeW P0.glob (acallW P0) cx false ir_law06_RolesCircle_L0) [0, 3, 5, 6]
   [(0, .v (slf z (l.map encA))), (3, .v (.sl (X.map .s))), (5, .v (.b b)), (6, .v (.i .i64 i))] s =
   .exit 0 [(0, .v (slf z (l.map encA))), (3, .v (.sl (X.map .s))), (5, .v (.b (b || stF l X n i))), (6, .v (.i .i64 j)), (35, .v (.b false))] s
 | 0, i, b, hi => by
  have h1 : ¬ i < X.length := by omega
  refine ⟨i, loop_step fun K hK => ?_⟩
  simp [ir_law06_RolesCircle_L0, h1, stF]
 | n + 1, i, b, hi => by
  have hlt : i < X.length := by omega
  have hwi := wI (i := i) (by omega)
  obtain ⟨m, hm⟩ : ∃ m, m = (i + 1) % X.length := ⟨_, rfl⟩
  obtain ⟨m1, m2⟩ := nxt_at (X := X) (i := i) (by omega)
  have hrem : ((i : Int) + 1).tmod (X.length : Int) = (m : Int) := by
   rw [Int.tmod_eq_emod_of_nonneg (by omega), hm, show ((i : Int) + 1) = ((i + 1 : Nat) : Int) from rfl]
   first | exact (Int.natCast_emod _ _).symm | exact (Int.ofNat_emod _ _).symm | norm_cast
  simp only [← hm] at m1 m2
  have hne : ¬ X.length = 0 := by omega
  have hgd : X.getD i [] = X[i] := by simp [List.getD, List.getElem?_eq_getElem hlt]
  have hst := hG.step i hlt
  have e1 := c_law06_leads z l hl hrl X[i] (nxt X i)
  rw [(ld_or h5).2 hst] at e1
  have e2 := c_law06_has (X.take i) X[i] (by simp; omega)
  have hnot : X[i] ∉ X.take i := fun hm => by
   obtain ⟨k, hk, he⟩ := List.mem_iff_getElem.1 hm
   rw [List.getElem_take] at he
   have hk' : k < i := by simp at hk; omega
   exact List.pairwise_iff_getElem.1 hG.nodup k i (by omega) hlt hk' he
  simp only [hnot, decide_false, List.map_take] at e2
  have hle : i ≤ X.length := by omega
  have gx0 : X[0]? = some (X[0]'(by omega)) := List.getElem?_eq_getElem (by omega)
  obtain ⟨j, ih⟩ := l_circ0 z l hl hrl h5 X hX hG s cx n (i + 1) (b || ldT l X[i] (nxt X i)) (by omega)
  refine ⟨j, loop_step fun K hK => ?_⟩
  rw [← hK, show ((i + 1 : Nat) : Int) = (i : Int) + 1 from rfl] at ih
  have hfin : (b || stF l X (n + 1) i) = (b || ldT l X[i] (nxt X i) || stF l X n (i + 1)) := by
   simp only [stF, hgd, Bool.or_assoc]
  rw [hfin, ← ih]
  have hall := strs_cells X
  by_cases h0 : i = 0
  ·have hi0 : ¬ 0 < i := by omega
   clear hK hst hG hfin hrl hgd
   cases b with
   | true => simp [ir_law06_RolesCircle_L0, hlt, hwi, hrem, hne, m1, m2, e1, e2, hall, hle, gx0, hi0]
   | false => simp [ir_law06_RolesCircle_L0, hlt, hwi, hrem, hne, m1, m2, e1, e2, hall, hle, gx0, hi0]
  ·have hi0 : 0 < i := by omega
   have hi0' : (0 : Int) < i := by omega
   have hless := hG.least i hlt hi0
   have nb : Op.bytesLess X[i] X[0] = false := by
    rw [bytesLess_lt]
    exact decide_eq_false fun h => List.lt_irrefl _ (List.lt_trans h hless)
   have nx : ¬ X[i] = X[0] := fun h => by rw [h] at hless; exact List.lt_irrefl _ hless
   clear hK hst hG hfin hrl hgd
   cases b with
   | true => simp [ir_law06_RolesCircle_L0, hlt, hwi, hrem, hne, m1, m2, e1, e2, hall, hle, gx0, hi0, hi0', nb, nx]
   | false => simp [ir_law06_RolesCircle_L0, hlt, hwi, hrem, hne, m1, m2, e1, e2, hall, hle, gx0, hi0, hi0', nb, nx]
end Go.Ai.Z
