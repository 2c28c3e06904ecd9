/-
 roles.steps: the contract.
-/
import Derived.Test.YtpanocallohgdaaDoorAiCRefR37R38R39
import Derived.Test.YtpanocallohgdaaDoorAiR19R20R21R22R23R24R25R26R27R28R29R30R31R32R33R34R35R36
set_option maxRecDepth 100000
set_option linter.unusedSimpArgs false
set_option linter.unusedVariables false
namespace Go.Ai.Z
@[simp] theorem sxe_callp {glob : Nat → Option (List AV)} {call : AV → List AV → St → Ctx → CO} {cx : Ctx} {f : IX} {args : List IX} {env : Env} {s : St} : aop glob call cx env s (.callp f args) = aop glob call cx env s (.call f args) := rfl
def fnSt (s : St) : AV := .fn (.func F_roles_steps_1) [] [.pt (s.length + 1) 0]
theorem l_roles_steps1 (s : St) (cx : Ctx) (hcx : cx.lim ≤ s.length ∧ cx.base ≤ s.length) (z : Bool) (l : List Ax) (i0 : Int) (x : Ax) (hx : x.roles.length ≤ 1000) :
  ∀ (rest : List Rl) (k : Nat) (E : RE) (H : St), x.roles.drop k = rest → StM s (mg E) H →
  ∃ (H' : St) (j : Int), loopW (acodeW P0.glob (acallW P0) cx false ir_roles_steps_L1) [3, 4, 6, 11, 12, 13, 39, 40, 41]
   [(3, .v (.pt (s.length + 1) 0)), (4, .v (fnSt s)), (6, bxA x), (11, .v (slf z (l.map encA))), (12, .v (.i .i64 l.length)), (13, .v (.i .i64 i0)), (39, .v (slf x.z (x.roles.map .s))), (40, .v (.i .i64 x.roles.length)), (41, .v (.i .i64 k))] H =
   .exit 3 [(3, .v (.pt (s.length + 1) 0)), (4, .v (fnSt s)), (6, bxA x), (11, .v (slf z (l.map encA))), (12, .v (.i .i64 l.length)), (13, .v (.i .i64 i0)), (39, .v (slf x.z (x.roles.map .s))), (40, .v (.i .i64 x.roles.length)), (41, .v (.i .i64 j)), (42, .v (.b false))] H' ∧ StM s (mg (E ++ chE x k rest)) H'
 | [], k, E, H, h, hM => by
  have h1 : ¬ k < x.roles.length := Nat.not_lt.2 (drop_nil h)
  refine ⟨H, k, loop_step fun K hK => ?_, by simpa [chE] using hM⟩
  simp [ir_roles_steps_L1, h1, bxA, cellsA]
 | p :: rest, k, E, H, h, hM => by
  obtain ⟨g1, g2, g3, g4⟩ := drop_cons h
  have g5 := g4 g3
  have hwi := wI (i := k) (by omega)
  have e1 := c_roles_exempt x hx k g3
  have hkk : ∀ e t, loopW (acodeW P0.glob (acallW P0) cx false ir_roles_steps_L1) [3, 4, 6, 11, 12, 13, 39, 40, 41] e t = loopW (acodeW P0.glob (acallW P0) cx false ir_roles_steps_L1) [3, 4, 6, 11, 12, 13, 39, 40, 41] (keepE e [3, 4, 6, 11, 12, 13, 39, 40, 41]) t := fun e t => loopW_keep _ _ _ _
  cases hex : exS x k with
  | true =>
   obtain ⟨H', j, ih, r⟩ := l_roles_steps1 s cx hcx z l i0 x hx rest (k + 1) E H g2 hM
   have hn : chE x k (p :: rest) = chE x (k + 1) rest := by simp only [chE, hex, if_true, List.nil_append]
   refine ⟨H', j, loop_step fun K hK => ?_, by rw [hn]; exact r⟩
   have hKk : ∀ e t, K e t = K (keepE e [3, 4, 6, 11, 12, 13, 39, 40, 41]) t := fun e t => by rw [hK]; exact hkk e t
   rw [← hK, show ((k + 1 : Nat) : Int) = (k : Int) + 1 from rfl] at ih
   clear hK g4 hkk r hM
   rw [hex] at e1
   simp only [bxA, cellsA, fnSt] at ih ⊢
   rw [← ih]
   simp [ir_roles_steps_L1, g3, g5, hwi, e1]
  | false =>
   obtain ⟨H1, e2, m2⟩ := stM_add hM p x.role true cx hcx
   obtain ⟨H', j, ih, r⟩ := l_roles_steps1 s cx hcx z l i0 x hx rest (k + 1) (E ++ [(p, x.role, true)]) H1 g2 m2
   have hn : E ++ chE x k (p :: rest) = E ++ [(p, x.role, true)] ++ chE x (k + 1) rest := by simp only [chE, hex, Bool.false_eq_true, if_false, List.append_assoc]
   refine ⟨H', j, loop_step fun K hK => ?_, by rw [hn]; exact r⟩
   have hKk : ∀ e t, K e t = K (keepE e [3, 4, 6, 11, 12, 13, 39, 40, 41]) t := fun e t => by rw [hK]; exact hkk e t
   rw [← hK, show ((k + 1 : Nat) : Int) = (k : Int) + 1 from rfl] at ih
   clear hK g4 hkk r hM m2
   rw [hex] at e1
   simp only [bxA, cellsA, fnSt] at ih ⊢
   rw [← ih]
   simp [ir_roles_steps_L1, g3, g5, hwi, e1, e2]
theorem l_roles_steps0 (s : St) (cx : Ctx) (hcx : cx.lim ≤ s.length ∧ cx.base ≤ s.length) (z : Bool) (l : List Ax) (hl : l.length ≤ 1000) (h5 : One5 l) (hrl : ∀ x ∈ l, x.roles.length ≤ 600) :
  ∀ (rest : List Ax) (i : Nat) (E : RE) (H : St), l.drop i = rest → StM s (mg E) H →
  ∃ (H' : St) (j : Int), loopW (acodeW P0.glob (acallW P0) cx false ir_roles_steps_L0) [3, 4, 11, 12, 13]
   [(3, .v (.pt (s.length + 1) 0)), (4, .v (fnSt s)), (11, .v (slf z (l.map encA))), (12, .v (.i .i64 l.length)), (13, .v (.i .i64 i))] H =
   .exit 0 [(3, .v (.pt (s.length + 1) 0)), (4, .v (fnSt s)), (11, .v (slf z (l.map encA))), (12, .v (.i .i64 l.length)), (13, .v (.i .i64 j)), (14, .v (.b false))] H' ∧ StM s (mg (E ++ stE rest)) H'
 | [], i, E, H, h, hM => by
  have h1 : ¬ i < l.length := Nat.not_lt.2 (drop_nil h)
  refine ⟨H, i, loop_step fun K hK => ?_, by simpa [stE] using hM⟩
  simp [ir_roles_steps_L0, h1]
 | x :: rest, i, E, H, h, hM => by
  obtain ⟨g1, g2, g3, g4⟩ := drop_cons h
  have g5 := g4 g3
  have hwi := wI (i := i) (by omega)
  have hx : x ∈ l := by rw [← g5]; exact List.getElem_mem g3
  have hxr := hrl x hx
  rw [stE_cons, ← List.append_assoc]
  have hkk : ∀ e t, loopW (acodeW P0.glob (acallW P0) cx false ir_roles_steps_L0) [3, 4, 11, 12, 13] e t = loopW (acodeW P0.glob (acallW P0) cx false ir_roles_steps_L0) [3, 4, 11, 12, 13] (keepE e [3, 4, 11, 12, 13]) t := fun e t => loopW_keep _ _ _ _
  by_cases h6 : x.kind = 6
  ·have hsub : subE x = [] := by simp [subE, h6]
   have hsa : stA x = chE x 0 x.roles := by rw [stA, hsub, if_pos h6]; rfl
   obtain ⟨H1, j1, e1, m1⟩ := l_roles_steps1 s cx hcx z l i x (by omega) x.roles 0 E H rfl hM
   obtain ⟨H', j, ih, r⟩ := l_roles_steps0 s cx hcx z l hl h5 hrl rest (i + 1) (E ++ stA x) H1 g2 (by rw [hsa]; exact m1)
   refine ⟨H', j, loop_step fun K hK => ?_, r⟩
   have hKk : ∀ e t, K e t = K (keepE e [3, 4, 11, 12, 13]) t := fun e t => by rw [hK]; exact hkk e t
   rw [← hK, show ((i + 1 : Nat) : Int) = (i : Int) + 1 from rfl] at ih
   clear hK g4 hkk r hM m1 hrl h5
   simp only [bxA, cellsA, Int.ofNat_zero, h6, fnSt] at e1 ih ⊢
   rw [← ih]
   try simp at e1
   simp [ir_roles_steps_L0, g3, g5, hwi, h6, e1]
  ·by_cases h55 : x.kind = 5
   ·obtain ⟨r0, hr0⟩ := h5 x hx h55
    by_cases hne : r0 = x.role
    ·have hsa : stA x = [] := by simp [stA, subE, h55, hr0, hne]
     obtain ⟨H', j, ih, r⟩ := l_roles_steps0 s cx hcx z l hl h5 hrl rest (i + 1) E H g2 hM
     rw [hsa, List.append_nil]
     refine ⟨H', j, loop_step fun K hK => ?_, r⟩
     have hKk : ∀ e t, K e t = K (keepE e [3, 4, 11, 12, 13]) t := fun e t => by rw [hK]; exact hkk e t
     rw [← hK, show ((i + 1 : Nat) : Int) = (i : Int) + 1 from rfl] at ih
     clear hK g4 hkk r hM hrl h5
     rw [← ih]
     simp [ir_roles_steps_L0, g3, g5, hwi, h55, hr0, hne]
    ·have hsa : stA x = [(r0, x.role, false)] := by simp [stA, subE, h55, hr0, hne]
     obtain ⟨H1, e2, m2⟩ := stM_add hM r0 x.role false cx hcx
     obtain ⟨H', j, ih, r⟩ := l_roles_steps0 s cx hcx z l hl h5 hrl rest (i + 1) (E ++ stA x) H1 g2 (by rw [hsa]; exact m2)
     refine ⟨H', j, loop_step fun K hK => ?_, r⟩
     have hKk : ∀ e t, K e t = K (keepE e [3, 4, 11, 12, 13]) t := fun e t => by rw [hK]; exact hkk e t
     rw [← hK, show ((i + 1 : Nat) : Int) = (i : Int) + 1 from rfl] at ih
     clear hK g4 hkk r hM m2 hrl h5
     simp only [fnSt] at ih ⊢
     rw [← ih]
     simp [ir_roles_steps_L0, g3, g5, hwi, h55, hr0, hne, e2]
   ·have hsa : stA x = [] := by simp [stA, subE, h55, h6]
    obtain ⟨H', j, ih, r⟩ := l_roles_steps0 s cx hcx z l hl h5 hrl rest (i + 1) E H g2 hM
    rw [hsa, List.append_nil]
    refine ⟨H', j, loop_step fun K hK => ?_, r⟩
    have hKk : ∀ e t, K e t = K (keepE e [3, 4, 11, 12, 13]) t := fun e t => by rw [hK]; exact hkk e t
    rw [← hK, show ((i + 1 : Nat) : Int) = (i : Int) + 1 from rfl] at ih
    clear hK g4 hkk r hM hrl h5
    rw [← ih]
    simp [ir_roles_steps_L0, g3, g5, hwi, h55, h6]
def MapM (es : List (AV × AV)) (M : Rl → Rl → Option Bool) : Prop :=
 StrK es ∧ ∀ r, (find 1 (.s r) es = some none ∧ ∀ t, M r t = none) ∨ ∃ is, find 1 (.s r) es = some (some (.im is)) ∧ StrK is ∧ is ≠ [] ∧ ∀ t, find 1 (.s t) is = some ((M r t).map AV.b)
theorem ents_b {is : List (AV × AV)} (hk : StrK is) {f : Rl → Option Bool} (hf : ∀ t, find 1 (.s t) is = some ((f t).map AV.b)) : ∀ p ∈ is, ∃ k b, p = (AV.s k, AV.b b) := fun p hp => by
 obtain ⟨k, h1, h2⟩ := hk.entry hp
 rw [hf k] at h2
 cases hb : f k with
 | none => rw [hb] at h2; simp at h2
 | some b => rw [hb] at h2; simp at h2; exact ⟨k, b, Prod.ext h1 h2.symm⟩
theorem frz_sb {S : St} {n m : Nat} : ∀ {is : List (AV × AV)}, (∀ p ∈ is, ∃ k b, p = (AV.s k, AV.b b)) → is.mapM (frzP (frz1 S n (m + 1))) = some is
 | [], _ => rfl
 | p :: is, h => by
  obtain ⟨k, b, rfl⟩ := h p (by simp)
  have f1 : frz1 S n (m + 1) (.s k) = some (.s k) := by simp [frz1]
  have f2 : frz1 S n (m + 1) (.b b) = some (.b b) := by simp [frz1]
  simp only [List.mapM_cons, frzP, f1, f2, frz_sb fun q hq => h q (List.mem_cons_of_mem _ hq)]; rfl
theorem frz_ents2 {S : St} {n m : Nat} : ∀ {es : List (AV × AV)}, (∀ p ∈ es, ∃ k a is, p.1 = AV.s k ∧ p.2 = .mp a ∧ n ≤ a ∧ S[a]? = some (.map is) ∧ ∀ q ∈ is, ∃ k b, q = (AV.s k, AV.b b)) →
  ∃ es', es.mapM (frzP (frz1 S n (m + 2))) = some es' ∧ es'.map (·.1) = es.map (·.1) ∧ ∀ k, (find 1 (.s k) es = some none → find 1 (.s k) es' = some none) ∧ ∀ a, find 1 (.s k) es = some (some (.mp a)) → ∃ is, S[a]? = some (.map is) ∧ find 1 (.s k) es' = some (some (.im is))
 | [], _ => ⟨[], rfl, rfl, fun k => ⟨fun h => h, fun a h => by simp [find] at h⟩⟩
 | (x, y) :: es, h => by
  obtain ⟨k0, a0, is0, h1, h2, h3, h4, h5⟩ := h (x, y) (by simp)
  simp only at h1 h2
  subst h1; subst h2
  obtain ⟨es', e1, e0, e2⟩ := frz_ents2 (m := m) (S := S) (n := n) (es := es) fun p hp => h p (by simp [hp])
  have f1 : frz1 S n (m + 2) (.s k0) = some (.s k0) := by simp [frz1]
  have hu : (AV.mp a0).under n = false := by simp [AV.under]; omega
  have f2 : frz1 S n (m + 2) (.mp a0) = some (.im is0) := by
   rw [show m + 2 = m + 1 + 1 from rfl, frz1_mp hu h4, frz_sb h5]; rfl
  refine ⟨(.s k0, .im is0) :: es', by simp only [List.mapM_cons, frzP, f1, f2, e1]; rfl, by simp [e0], fun k => ?_⟩
  by_cases hk : k = k0
  ·subst hk
   refine ⟨fun hh => by simp [find, keyEq] at hh, fun a hh => ?_⟩
   simp [find, keyEq] at hh
   subst hh
   exact ⟨is0, h4, by simp [find, keyEq]⟩
  ·refine ⟨fun hh => ?_, fun a hh => ?_⟩
   ·simp [find, keyEq, hk] at hh
    simp [find, keyEq, hk, (e2 k).1 hh]
   ·simp [find, keyEq, hk] at hh
    obtain ⟨cs, q1, q2⟩ := (e2 k).2 a hh
    exact ⟨cs, q1, by simp [find, keyEq, hk, q2]⟩
theorem stM_frz {s : St} {M : Rl → Rl → Option Bool} {H : St} (h : StM s M H) : ∃ es', frz H s.length (.mp s.length) = some (.im es') ∧ MapM es' M ∧ H[s.length + 1]? = some (.cells [.mp s.length]) ∧ s.length < H.length ∧ H.take s.length = s := by
 obtain ⟨es, rest, rfl, hT⟩ := h
 have hu : (AV.mp s.length).under s.length = false := by simp [AV.under]
 obtain ⟨es', e1, e0, e2⟩ := frz_ents2 (S := s ++ .map es :: .cells [.mp s.length] :: rest) (n := s.length) (m := 3) (es := es) fun p hp => by
  obtain ⟨k, h1, h2⟩ := hT.str.entry hp
  rcases hT.at_ k with ⟨h3, _⟩ | ⟨x, is, h3, h4, h5, h6, h7⟩
  ·rw [h3] at h2; cases h2
  ·rw [h3] at h2
   simp only [Option.some.injEq] at h2
   exact ⟨k, s.length + 2 + x, is, h1, h2.symm, by omega, by rw [st2_r, h4], ents_b h5 h7⟩
 refine ⟨es', ?_, ⟨?_, fun r => ?_⟩, by simp, by simp, by simp⟩
 ·unfold frz
  rw [if_neg (by rw [hu]; exact Bool.false_ne_true), show (6 : Nat) = 5 + 1 from rfl, frz1_mp hu (es := es) (by simp), e1]; rfl
 ·obtain ⟨ks, k1, k2⟩ := hT.str
  exact ⟨ks, by rw [e0, k1], k2⟩
 ·rcases hT.at_ r with ⟨h3, h4⟩ | ⟨x, is, h3, h4, h5, h6, h7⟩
  ·exact .inl ⟨(e2 r).1 h3, h4⟩
  ·obtain ⟨is', q1, q2⟩ := (e2 r).2 _ h3
   rw [st2_r, h4] at q1
   cases q1
   exact .inr ⟨is, q2, h5, h6, h7⟩
theorem c_roles_steps (z : Bool) (l : List Ax) (hl : l.length ≤ 1000) (h5 : One5 l) (hrl : ∀ x ∈ l, x.roles.length ≤ 600) (s : St) (cx : Ctx) (hcx : cx.lim ≤ s.length) :
  ∃ es, acallW P0 (.fn (.func F_roles_steps) [] []) [slf z (l.map encA)] s cx = .ret (.im es) s ∧ MapM es (mg (stE l)) := by
 obtain ⟨H', j, h, hM⟩ := l_roles_steps0 s ⟨cx.lim, s.length⟩ ⟨hcx, Nat.le_refl _⟩ z l hl h5 hrl l 0 [] _ rfl (stM_nil s)
 rw [List.nil_append] at hM
 obtain ⟨es', f1, f2, f3, f4, f5⟩ := stM_frz hM
 refine ⟨es', ?_, f2⟩
 refine go_roles_steps (by simp) ?_
 have hne : ¬ H'.length = s.length := by omega
 clear hM f2 hrl h5
 simp [fnSt] at h
 simp [callFnW, ir_roles_steps, hcx, show cx.lim ≤ s.length + 1 by omega, h, f1, f3, f5, hne]
end Go.Ai.Z
namespace Go.Ai.Z
def posR : List Rl → Rl → Nat
 | [], _ => 0
 | a :: R, t => if a < t then posR R t + 1 else 0
theorem posR_le (t : Rl) : ∀ R, posR R t ≤ R.length
 | [] => Nat.le_refl _
 | a :: R => by
  have := posR_le t R
  simp only [posR, List.length_cons]; split <;> omega
theorem posR_lt {t : Rl} : ∀ {R : List Rl}, Srt R → ∀ (h : Nat) (hh : h < R.length), R[h] < t ↔ h < posR R t
 | [], _, h, hh => by simp at hh
 | a :: R, hs, h, hh => by
  obtain ⟨h1, h2⟩ := List.pairwise_cons.1 hs
  simp only [posR]
  by_cases ha : a < t
  ·rw [if_pos ha]
   cases h with
   | zero => simp [ha]
   | succ h =>
    have := posR_lt (t := t) h2 h (by simpa using hh)
    simp only [List.getElem_cons_succ]
    rw [this]; omega
  ·rw [if_neg ha]
   constructor
   ·intro hlt
    cases h with
    | zero => exact absurd hlt ha
    | succ h =>
     simp only [List.getElem_cons_succ] at hlt
     exact absurd (List.lt_trans (h1 _ (List.getElem_mem _)) hlt) ha
   ·intro h0; omega
theorem posR_mem {t : Rl} : ∀ {R : List Rl}, Srt R → t ∈ R → R[posR R t]? = some t
 | [], _, h => by cases h
 | a :: R, hs, h => by
  obtain ⟨h1, h2⟩ := List.pairwise_cons.1 hs
  simp only [posR]
  rcases List.mem_cons.1 h with rfl | h
  ·rw [if_neg (List.lt_irrefl _)]; rfl
  ·rw [if_pos (h1 t h)]
   simpa using posR_mem h2 h
theorem posR_mono {R : List Rl} (hs : Srt R) {a b : Rl} (ha : a ∈ R) (hb : b ∈ R) : posR R a < posR R b ↔ a < b := by
 have h1 := posR_mem hs ha
 obtain ⟨hl, he⟩ := List.getElem?_eq_some_iff.1 h1
 rw [← posR_lt (t := b) hs _ hl, he]
theorem c_isNaN1 (x : Rl) (s : St) (cx : Ctx) : acallW P0 (.fn (.func F_cmp_isNaN_string) [] []) [.s x] s cx = .ret (.b false) s := by
 refine go_cmp_isNaN_string (by simp) ?_
 simp [callFnW, ir_cmp_isNaN_string]
theorem c_isNaN2 (x : Rl) (s : St) (cx : Ctx) : acallW P0 (.fn (.func F_slices_isNaN_string) [] []) [.s x] s cx = .ret (.b false) s := by
 refine go_slices_isNaN_string (by simp) ?_
 simp [callFnW, ir_slices_isNaN_string]
theorem c_cmp_Less (x y : Rl) (s : St) (cx : Ctx) : acallW P0 (.fn (.func F_cmp_Less_string) [] []) [.s x, .s y] s cx = .ret (.b (decide (x < y))) s := by
 refine go_cmp_Less_string (by simp) ?_
 simp [callFnW, ir_cmp_Less_string, c_isNaN1, bytesLess_lt]
theorem l_bsearch (z : Bool) (R : List Rl) (hR : Srt R) (hl : R.length ≤ 1000000) (t : Rl) (s : St) (cx : Ctx) :
  ∀ (N i j : Nat), j ≤ i + N → i ≤ posR R t → posR R t ≤ j → j ≤ R.length →
  loopW (acodeW P0.glob (acallW P0) cx false ir_slices_BinarySearch_string_string_L0) [0, 1, 6, 7, 8]
   [(0, .v (slf z (R.map .s))), (1, .v (.s t)), (6, .v (.i .i64 R.length)), (7, .v (.i .i64 i)), (8, .v (.i .i64 j))] s =
   .exit 0 [(0, .v (slf z (R.map .s))), (1, .v (.s t)), (6, .v (.i .i64 R.length)), (7, .v (.i .i64 (posR R t))), (8, .v (.i .i64 (posR R t))), (15, .v (.b false))] s := by
 intro N
 induction N with
 | zero =>
  intro i j h1 h2 h3 h4
  have hi : i = posR R t := by omega
  have hj : j = posR R t := by omega
  subst hi; subst hj
  refine loop_step fun K hK => ?_
  simp [ir_slices_BinarySearch_string_string_L0]
 | succ N ih =>
  intro i j h1 h2 h3 h4
  by_cases hij : i < j
  ·have hf : ((i : Int) + j).fdiv (2 ^ min 1 IntKind.u64.bits) = (((i + j) / 2 : Nat) : Int) := by
    rw [show (2 : Int) ^ min 1 IntKind.u64.bits = 2 from rfl, Int.fdiv_eq_ediv_of_nonneg _ (by omega)]; omega
   have hm1 : i ≤ (i + j) / 2 := by omega
   have hm2 : (i + j) / 2 < j := by omega
   have hw1 : IntKind.i64.wrap ((i : Int) + j) = (i : Int) + j := w64 (by omega) (by omega)
   have hw2 : IntKind.u64.wrap ((i : Int) + j) = (i : Int) + j := IntWalk.u64_in _ ⟨by omega, by omega⟩
   generalize (i + j) / 2 = m at hf hm1 hm2
   have hh : m < R.length := by omega
   have hw3 : IntKind.i64.wrap (m : Int) = m := w64 (by omega) (by omega)
   have hw4 := wI (i := m) (by omega)
   have hg : R[m]? = some R[m] := List.getElem?_eq_getElem hh
   have e1 := c_cmp_Less R[m] t
   have hp := posR_lt (t := t) hR m hh
   by_cases hlt : R[m] < t
   ·have ih1 := ih (m + 1) j (by omega) (by have := hp.1 hlt; omega) h3 h4
    refine loop_step fun K hK => ?_
    rw [← hK, show ((m + 1 : Nat) : Int) = (m : Int) + 1 from rfl] at ih1
    clear hK hp hR ih
    simp only [hlt, decide_true] at e1
    rw [← ih1]
    simp [ir_slices_BinarySearch_string_string_L0, hij, hw1, hw2, hf, hw3, hw4, hg, e1]
   ·have ih1 := ih i m (by omega) h2 (by have : ¬ m < posR R t := fun h => hlt (hp.2 h); omega) (by omega)
    refine loop_step fun K hK => ?_
    rw [← hK] at ih1
    clear hK hp hR ih
    simp only [hlt, decide_false] at e1
    rw [← ih1]
    simp [ir_slices_BinarySearch_string_string_L0, hij, hw1, hw2, hf, hw3, hw4, hg, e1]
  ·have hi : i = posR R t := by omega
   have hj : j = posR R t := by omega
   subst hi; subst hj
   refine loop_step fun K hK => ?_
   simp [ir_slices_BinarySearch_string_string_L0]
theorem posR_notin {t : Rl} : ∀ {R : List Rl}, t ∉ R → R[posR R t]? ≠ some t := fun {R} h he => h (List.mem_of_getElem? he)
theorem c_bsearch (z : Bool) (R : List Rl) (hR : Srt R) (hl : R.length ≤ 1000000) (t : Rl) (s : St) (cx : Ctx) :
  acallW P0 (.fn (.func F_slices_BinarySearch_string_string) [] []) [slf z (R.map .s), .s t] s cx = .ret (.tu [.i .i64 (posR R t), .b (decide (t ∈ R))]) s := by
 have h := l_bsearch z R hR hl t s ⟨s.length, s.length⟩ R.length 0 R.length (by omega) (Nat.zero_le _) (posR_le t R) (Nat.le_refl _)
 simp only [Int.ofNat_zero] at h
 refine go_slices_BinarySearch_string_string (by simp) ?_
 by_cases ht : t ∈ R
 ·have hg := posR_mem hR ht
  obtain ⟨hlt, hge⟩ := List.getElem?_eq_some_iff.1 hg
  simp [callFnW, ir_slices_BinarySearch_string_string, h, hlt, hg, hge, ht]
 ·have hne := posR_notin ht
  by_cases hlt : posR R t < R.length
  ·have hg : R[posR R t]? = some R[posR R t] := List.getElem?_eq_getElem hlt
   have hne' : ¬ R[posR R t] = t := fun e => hne (by rw [hg, e])
   simp [callFnW, ir_slices_BinarySearch_string_string, h, hlt, hg, ht, hne', c_isNaN2]
  ·simp [callFnW, ir_slices_BinarySearch_string_string, h, hlt, ht]
end Go.Ai.Z
