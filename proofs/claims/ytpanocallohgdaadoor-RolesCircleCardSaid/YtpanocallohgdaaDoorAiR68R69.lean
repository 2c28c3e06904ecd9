/-
 veilstonelaw06.RolesCircle: the two tables.
-/
import Derived.Test.YtpanocallohgdaaDoorAiRHR66R67
import Derived.Test.YtpanocallohgdaaDoorAiR2R3
import Derived.Test.YtpanocallohgdaaDoorAiR61R62R63
import Derived.Test.YtpanocallohgdaaDoorAiR4R5R6
set_option maxRecDepth 100000
set_option linter.unusedSimpArgs false
set_option linter.unusedVariables false
namespace Go.Ai.Z
def tabC (A : Nat → Nat → Bool) : List AV := (List.range 144).map fun n => .b (A (n / 12) (n % 12))
theorem tabC_len (A : Nat → Nat → Bool) : (tabC A).length = 144 := by simp [tabC]
theorem tabC_at (A : Nat → Nat → Bool) {i k : Nat} (hi : i < 12) (hk : k < 12) : (tabC A)[i * 12 + k]? = some (.b (A i k)) := by
 have h1 : (i * 12 + k) / 12 = i := by omega
 have h2 : (i * 12 + k) % 12 = k := by omega
 simp only [tabC, List.getElem?_map]
 rw [List.getElem?_range (by omega)]
 simp [h1, h2]
theorem tabC_set (A : Nat → Nat → Bool) {i k : Nat} (hi : i < 12) (hk : k < 12) (b : Bool) : (tabC A).take (i * 12 + k) ++ .b b :: (tabC A).drop (i * 12 + k + 1) = tabC (upd2 A i k b) := by
 have hl := tabC_len A
 have : (tabC A).take (i * 12 + k) ++ .b b :: (tabC A).drop (i * 12 + k + 1) = (tabC A).set (i * 12 + k) (.b b) := by
  rw [List.set_eq_take_append_cons_drop, if_pos (by omega)]
 rw [this]
 apply List.ext_getElem?
 intro n
 rw [List.getElem?_set]
 by_cases hn : i * 12 + k = n
 ·subst hn
  rw [if_pos rfl, if_pos (by omega), tabC_at _ hi hk]
  simp [upd2]
 ·rw [if_neg hn]
  simp only [tabC, List.getElem?_map]
  by_cases h144 : n < 144
  ·rw [List.getElem?_range h144]
   have : ¬ (n / 12 = i ∧ n % 12 = k) := by omega
   simp [upd2, this]
  ·rw [List.getElem?_eq_none (by simp; omega)]
   rfl
theorem tabC_nil : List.replicate 144 (AV.b false) = tabC (fun _ _ => false) := by
 simp only [tabC]
 rw [List.map_const']; simp
def tbH (s : St) (A B : Nat → Nat → Bool) : St := s ++ [.cells (tabC A), .cells (tabC B)]
@[simp] theorem tbH_0 {s : St} {A B : Nat → Nat → Bool} : (tbH s A B)[s.length]? = some (.cells (tabC A)) := by simp [tbH]
@[simp] theorem tbH_1 {s : St} {A B : Nat → Nat → Bool} : (tbH s A B)[s.length + 1]? = some (.cells (tabC B)) := by simp [tbH]
@[simp] theorem tbH_set0 {s : St} {A B C : Nat → Nat → Bool} : (tbH s A B).set s.length (.cells (tabC C)) = tbH s C B := by simp [tbH]
@[simp] theorem tbH_set1 {s : St} {A B C : Nat → Nat → Bool} : (tbH s A B).set (s.length + 1) (.cells (tabC C)) = tbH s A C := by
 unfold tbH; rw [List.set_append, if_neg (by omega)]; simp
def tbE (z : Bool) (l : List Ax) (R : List Rl) (n : Nat) (X : Env) : Env := (0, .v (slf z (l.map encA))) :: (11, .v (slf true (R.map .s))) :: (12, .v (.pt n 0)) :: (13, .v (.pt (n + 1) 0)) :: X
theorem l_tab2 (z : Bool) (l : List Ax) (hl : l.length ≤ 1000) (hrl : ∀ x ∈ l, x.roles.length ≤ 1000) (h5 : One5 l) (R : List Rl) (hR : R.length ≤ 12) (s : St) (cx : Ctx) (hcx : cx.lim ≤ s.length) (i : Nat) (hi : i < R.length) :
  ∀ (n k : Nat) (A B : Nat → Nat → Bool), k + n = R.length → TabW (stE l) R A B →
  ∃ (j : Int) (A' B' : Nat → Nat → Bool), loopW (acodeW P0.glob (acallW P0) cx false ir_law06_RolesCircle_L2) [0, 11, 12, 13, 14, 15] (tbE z l R s.length [(14, .v (.i .i64 i)), (15, .v (.i .i64 k))]) (tbH s A B) =
   .exit 4 (tbE z l R s.length [(14, .v (.i .i64 i)), (15, .v (.i .i64 j)), (118, .v (.b false))]) (tbH s A' B') ∧ TabW (stE l) R A' B'
 | 0, k, A, B, hk, hT => by
  have h1 : ¬ k < R.length := by omega
  refine ⟨k, A, B, loop_step fun K hK => ?_, hT⟩
  simp [ir_law06_RolesCircle_L2, tbE, h1]
 | n + 1, k, A, B, hk, hT => by
  have hlt : k < R.length := by omega
  have hwk := wI (i := k) (by omega)
  have e1 := c_law06_leads z l hl hrl R[i] R[k]
  have hT' : TabW (stE l) R (upd2 A i k (ldB l R[i] R[k] || ldT l R[i] R[k])) (upd2 B i k (ldT l R[i] R[k])) := by
   have gi : R.getD i [] = R[i] := by simp [List.getD, List.getElem?_eq_getElem hi]
   have gk : R.getD k [] = R[k] := by simp [List.getD, List.getElem?_eq_getElem hlt]
   refine ⟨fun x y hx hy hh => ?_, fun x y hx hy hh => ?_⟩
   ·unfold upd2 at hh
    split at hh
    ·rename_i hc
     obtain ⟨rfl, rfl⟩ := hc
     obtain ⟨f, hf⟩ := (ld_or h5).1 hh
     rw [gi, gk]
     exact ⟨[R[y]], f, by simp, .one hf⟩
    ·exact hT.a _ _ hx hy hh
   ·unfold upd2 at hh
    split at hh
    ·rename_i hc
     obtain ⟨rfl, rfl⟩ := hc
     rw [gi, gk]
     exact ⟨[R[y]], by simp, .one (ldT_iff.1 hh)⟩
    ·exact hT.b _ _ hx hy hh
  obtain ⟨j, A', B', ih, q⟩ := l_tab2 z l hl hrl h5 R hR s cx hcx i hi n (k + 1) _ _ (by omega) hT'
  refine ⟨j, A', B', loop_step fun K hK => ?_, q⟩
  rw [← hK, show ((k + 1 : Nat) : Int) = (k : Int) + 1 from rfl] at ih
  rw [← ih]
  clear hK ih q hT hT' hrl
  have i12 : i < 12 := by omega
  have k12 : k < 12 := by omega
  have s1 := tabC_set A i12 k12 (ldB l R[i] R[k] || ldT l R[i] R[k])
  have s2 := tabC_set B i12 k12 (ldT l R[i] R[k])
  have b1 : i * 12 + k + 1 ≤ 144 := by omega
  have hcx' : cx.lim ≤ s.length + 1 := by omega
  generalize (ldB l R[i] R[k] || ldT l R[i] R[k]) = x1 at *
  generalize ldT l R[i] R[k] = x2 at *
  simp [ir_law06_RolesCircle_L2, tbE, hlt, hi, hwk, e1, i12, k12, s1, s2, b1, hcx, hcx', tabC_len]
theorem l_tab1 (z : Bool) (l : List Ax) (hl : l.length ≤ 1000) (hrl : ∀ x ∈ l, x.roles.length ≤ 1000) (h5 : One5 l) (R : List Rl) (hR : R.length ≤ 12) (s : St) (cx : Ctx) (hcx : cx.lim ≤ s.length) :
  ∀ (n i : Nat) (A B : Nat → Nat → Bool), i + n = R.length → TabW (stE l) R A B →
  ∃ (j : Int) (A' B' : Nat → Nat → Bool), loopW (acodeW P0.glob (acallW P0) cx false ir_law06_RolesCircle_L1) [0, 11, 12, 13, 14] (tbE z l R s.length [(14, .v (.i .i64 i))]) (tbH s A B) =
   .exit 2 (tbE z l R s.length [(14, .v (.i .i64 j)), (112, .v (.b false))]) (tbH s A' B') ∧ TabW (stE l) R A' B'
 | 0, i, A, B, hk, hT => by
  have h1 : ¬ i < R.length := by omega
  refine ⟨i, A, B, loop_step fun K hK => ?_, hT⟩
  simp [ir_law06_RolesCircle_L1, tbE, h1]
 | n + 1, i, A, B, hk, hT => by
  have hlt : i < R.length := by omega
  have hwi := wI (i := i) (by omega)
  obtain ⟨j2, A2, B2, e2, hT2⟩ := l_tab2 z l hl hrl h5 R hR s cx hcx i hlt R.length 0 A B (by omega) hT
  obtain ⟨j, A', B', ih, q⟩ := l_tab1 z l hl hrl h5 R hR s cx hcx n (i + 1) A2 B2 (by omega) hT2
  refine ⟨j, A', B', loop_step fun K hK => ?_, q⟩
  rw [← hK, show ((i + 1 : Nat) : Int) = (i : Int) + 1 from rfl] at ih
  rw [← ih]
  clear hK ih q hT hT2 hrl
  simp only [tbE, Int.ofNat_zero] at e2 ⊢
  simp [ir_law06_RolesCircle_L1, hlt, hwi, e2]
def _root_.Go.Ai.ACode.xa : ACode → ACode
 | .seq a _ => a
 | .block _ a => a
 | c => c
def _root_.Go.Ai.ACode.xd : ACode → ACode
 | .seq _ b => b
 | c => c
def c5A : ACode := ir_law06_RolesCircle_L5.xd.xa.xa.xa
def c5B : ACode := ir_law06_RolesCircle_L5.xd.xa.xa.xd
theorem c5_split : ir_law06_RolesCircle_L5 = .seq ir_law06_RolesCircle_L5.xa (.seq (.block 11 (.seq c5A c5B)) ir_law06_RolesCircle_L5.xd.xd) := rfl
def tbF (R : List Rl) (n : Nat) (X : Env) : Env := (11, .v (slf true (R.map .s))) :: (12, .v (.pt n 0)) :: (13, .v (.pt (n + 1) 0)) :: X
set_option maxHeartbeats 2000000 in
theorem c5A_run (R : List Rl) (s : St) (cx : Ctx) (hcx : cx.lim ≤ s.length) (A B : Nat → Nat → Bool) (m i k : Nat) (hm : m < 12) (hi : i < 12) (hk : k < 12) :
  acodeW P0.glob (acallW P0) cx false c5A (tbF R s.length [(16, .v (.i .i64 m)), (17, .v (.i .i64 i)), (18, .v (.i .i64 k)), (157, .v (.b true))]) (tbH s A B) =
   .norm (tbF R s.length [(16, .v (.i .i64 m)), (17, .v (.i .i64 i)), (18, .v (.i .i64 k))]) (tbH s A (upd2 B i k (B i k || (B i m && A m k) || (A i m && B m k)))) := by
 have g1 := tabC_at B hi hk
 have g2 := tabC_at B hi hm
 have g3 := tabC_at A hm hk
 have g4 := tabC_at A hi hm
 have g5 := tabC_at B hm hk
 have b1 : i * 12 + k + 1 ≤ 144 := by omega
 have hcx' : cx.lim ≤ s.length + 1 := by omega
 have sT := tabC_set B hi hk true
 have sF := tabC_set B hi hk false
 cases h1 : B i k with
 | true =>
  rw [h1] at g1
  simp only [Bool.true_or]
  simp [c5A, ACode.xa, ACode.xd, ir_law06_RolesCircle_L5, tbF, hi, hk, g1, sT, b1, hcx', tabC_len]
 | false =>
  rw [h1] at g1
  cases h2 : B i m with
  | true =>
   rw [h2] at g2
   cases h3 : A m k with
   | true =>
    rw [h3] at g3
    simp only [Bool.false_or, Bool.true_and, Bool.true_or]
    simp [c5A, ACode.xa, ACode.xd, ir_law06_RolesCircle_L5, tbF, hm, hi, hk, g1, g2, g3, sT, b1, hcx', tabC_len]
   | false =>
    rw [h3] at g3
    cases h4 : A i m with
    | true =>
     rw [h4] at g4
     cases h5 : B m k with
     | true =>
      rw [h5] at g5
      simp only [Bool.false_or, Bool.true_and]
      simp [c5A, ACode.xa, ACode.xd, ir_law06_RolesCircle_L5, tbF, hm, hi, hk, g1, g2, g3, g4, g5, sT, b1, hcx', tabC_len]
     | false =>
      rw [h5] at g5
      simp only [Bool.false_or, Bool.true_and]
      simp [c5A, ACode.xa, ACode.xd, ir_law06_RolesCircle_L5, tbF, hm, hi, hk, g1, g2, g3, g4, g5, sF, b1, hcx', tabC_len]
    | false =>
     rw [h4] at g4
     simp only [Bool.false_or, Bool.true_and, Bool.false_and]
     simp [c5A, ACode.xa, ACode.xd, ir_law06_RolesCircle_L5, tbF, hm, hi, hk, g1, g2, g3, g4, sF, b1, hcx', tabC_len]
  | false =>
   rw [h2] at g2
   cases h4 : A i m with
   | true =>
    rw [h4] at g4
    cases h5 : B m k with
    | true =>
     rw [h5] at g5
     simp only [Bool.false_or, Bool.true_and, Bool.false_and]
     simp [c5A, ACode.xa, ACode.xd, ir_law06_RolesCircle_L5, tbF, hm, hi, hk, g1, g2, g4, g5, sT, b1, hcx', tabC_len]
    | false =>
     rw [h5] at g5
     simp only [Bool.false_or, Bool.true_and, Bool.false_and]
     simp [c5A, ACode.xa, ACode.xd, ir_law06_RolesCircle_L5, tbF, hm, hi, hk, g1, g2, g4, g5, sF, b1, hcx', tabC_len]
   | false =>
    rw [h4] at g4
    simp only [Bool.false_or, Bool.false_and]
    simp [c5A, ACode.xa, ACode.xd, ir_law06_RolesCircle_L5, tbF, hm, hi, hk, g1, g2, g4, sF, b1, hcx', tabC_len]
set_option maxHeartbeats 2000000 in
theorem c5B_run (R : List Rl) (s : St) (cx : Ctx) (hcx : cx.lim ≤ s.length) (A B : Nat → Nat → Bool) (m i k : Nat) (hm : m < 12) (hi : i < 12) (hk : k < 12) :
  acodeW P0.glob (acallW P0) cx false c5B (tbF R s.length [(16, .v (.i .i64 m)), (17, .v (.i .i64 i)), (18, .v (.i .i64 k))]) (tbH s A B) =
   .norm (tbF R s.length [(16, .v (.i .i64 m)), (17, .v (.i .i64 i)), (18, .v (.i .i64 k))]) (tbH s (upd2 A i k (A i k || (A i m && A m k))) B) := by
 have g1 := tabC_at A hi hk
 have g2 := tabC_at A hi hm
 have g3 := tabC_at A hm hk
 have b1 : i * 12 + k + 1 ≤ 144 := by omega
 have sT := tabC_set A hi hk true
 have sF := tabC_set A hi hk false
 cases h1 : A i k with
 | true =>
  rw [h1] at g1
  simp only [Bool.true_or]
  simp [c5B, ACode.xa, ACode.xd, ir_law06_RolesCircle_L5, tbF, hi, hk, g1, sT, b1, hcx, tabC_len]
 | false =>
  rw [h1] at g1
  cases h2 : A i m with
  | true =>
   rw [h2] at g2
   cases h3 : A m k with
   | true =>
    rw [h3] at g3
    simp only [Bool.false_or, Bool.true_and]
    simp [c5B, ACode.xa, ACode.xd, ir_law06_RolesCircle_L5, tbF, hm, hi, hk, g1, g2, g3, sT, b1, hcx, tabC_len]
   | false =>
    rw [h3] at g3
    simp only [Bool.false_or, Bool.true_and]
    simp [c5B, ACode.xa, ACode.xd, ir_law06_RolesCircle_L5, tbF, hm, hi, hk, g1, g2, g3, sF, b1, hcx, tabC_len]
  | false =>
   rw [h2] at g2
   simp only [Bool.false_or, Bool.false_and]
   simp [c5B, ACode.xa, ACode.xd, ir_law06_RolesCircle_L5, tbF, hm, hi, hk, g1, g2, sF, b1, hcx, tabC_len]
end Go.Ai.Z
namespace Go.Ai.Z
theorem l_tab5 (E : RE) (R : List Rl) (hR : R.length ≤ 12) (s : St) (cx : Ctx) (hcx : cx.lim ≤ s.length) (m i : Nat) (hm : m < R.length) (hi : i < R.length) :
  ∀ (n k : Nat) (A B : Nat → Nat → Bool), k + n = R.length → TabW E R A B →
  ∃ (j : Int) (A' B' : Nat → Nat → Bool), loopW (acodeW P0.glob (acallW P0) cx false ir_law06_RolesCircle_L5) [11, 12, 13, 16, 17, 18] (tbF R s.length [(16, .v (.i .i64 m)), (17, .v (.i .i64 i)), (18, .v (.i .i64 k))]) (tbH s A B) =
   .exit 10 (tbF R s.length [(16, .v (.i .i64 m)), (17, .v (.i .i64 i)), (18, .v (.i .i64 j)), (157, .v (.b false))]) (tbH s A' B') ∧ TabW E R A' B'
 | 0, k, A, B, hk, hT => by
  have h1 : ¬ k < R.length := by omega
  refine ⟨k, A, B, loop_step fun K hK => ?_, hT⟩
  simp [ir_law06_RolesCircle_L5, tbF, h1]
 | n + 1, k, A, B, hk, hT => by
  have hlt : k < R.length := by omega
  have hwk := wI (i := k) (by omega)
  obtain ⟨j, A', B', ih, q⟩ := l_tab5 E R hR s cx hcx m i hm hi n (k + 1) _ _ (by omega) (hT.upd hm hi hlt)
  refine ⟨j, A', B', loop_step fun K hK => ?_, q⟩
  rw [← hK, show ((k + 1 : Nat) : Int) = (k : Int) + 1 from rfl] at ih
  rw [← ih]
  clear hK ih q hT
  have r1 := c5A_run R s cx hcx A B m i k (by omega) (by omega) (by omega)
  have r2 := c5B_run R s cx hcx A (upd2 B i k (B i k || (B i m && A m k) || (A i m && B m k))) m i k (by omega) (by omega) (by omega)
  simp only [tbF] at r1 r2 ⊢
  rw [c5_split]
  simp [ACode.xa, ACode.xd, ir_law06_RolesCircle_L5, hlt, hwk, r1, r2]
theorem l_tab4 (E : RE) (R : List Rl) (hR : R.length ≤ 12) (s : St) (cx : Ctx) (hcx : cx.lim ≤ s.length) (m : Nat) (hm : m < R.length) :
  ∀ (n i : Nat) (A B : Nat → Nat → Bool), i + n = R.length → TabW E R A B →
  ∃ (j : Int) (A' B' : Nat → Nat → Bool), loopW (acodeW P0.glob (acallW P0) cx false ir_law06_RolesCircle_L4) [11, 12, 13, 16, 17] (tbF R s.length [(16, .v (.i .i64 m)), (17, .v (.i .i64 i))]) (tbH s A B) =
   .exit 8 (tbF R s.length [(16, .v (.i .i64 m)), (17, .v (.i .i64 j)), (151, .v (.b false))]) (tbH s A' B') ∧ TabW E R A' B'
 | 0, i, A, B, hk, hT => by
  have h1 : ¬ i < R.length := by omega
  refine ⟨i, A, B, loop_step fun K hK => ?_, hT⟩
  simp [ir_law06_RolesCircle_L4, tbF, h1]
 | n + 1, i, A, B, hk, hT => by
  have hlt : i < R.length := by omega
  have hwi := wI (i := i) (by omega)
  obtain ⟨j2, A2, B2, e2, hT2⟩ := l_tab5 E R hR s cx hcx m i hm hlt R.length 0 A B (by omega) hT
  obtain ⟨j, A', B', ih, q⟩ := l_tab4 E R hR s cx hcx m hm n (i + 1) A2 B2 (by omega) hT2
  refine ⟨j, A', B', loop_step fun K hK => ?_, q⟩
  rw [← hK, show ((i + 1 : Nat) : Int) = (i : Int) + 1 from rfl] at ih
  rw [← ih]
  clear hK ih q hT hT2
  simp only [tbF, Int.ofNat_zero] at e2 ⊢
  simp [ir_law06_RolesCircle_L4, hlt, hwi, e2]
theorem l_tab3 (E : RE) (R : List Rl) (hR : R.length ≤ 12) (s : St) (cx : Ctx) (hcx : cx.lim ≤ s.length) :
  ∀ (n m : Nat) (A B : Nat → Nat → Bool), m + n = R.length → TabW E R A B →
  ∃ (j : Int) (A' B' : Nat → Nat → Bool), loopW (acodeW P0.glob (acallW P0) cx false ir_law06_RolesCircle_L3) [11, 12, 13, 16] (tbF R s.length [(16, .v (.i .i64 m))]) (tbH s A B) =
   .exit 6 (tbF R s.length [(16, .v (.i .i64 j)), (145, .v (.b false))]) (tbH s A' B') ∧ TabW E R A' B'
 | 0, m, A, B, hk, hT => by
  have h1 : ¬ m < R.length := by omega
  refine ⟨m, A, B, loop_step fun K hK => ?_, hT⟩
  simp [ir_law06_RolesCircle_L3, tbF, h1]
 | n + 1, m, A, B, hk, hT => by
  have hlt : m < R.length := by omega
  have hwi := wI (i := m) (by omega)
  obtain ⟨j2, A2, B2, e2, hT2⟩ := l_tab4 E R hR s cx hcx m hlt R.length 0 A B (by omega) hT
  obtain ⟨j, A', B', ih, q⟩ := l_tab3 E R hR s cx hcx n (m + 1) A2 B2 (by omega) hT2
  refine ⟨j, A', B', loop_step fun K hK => ?_, q⟩
  rw [← hK, show ((m + 1 : Nat) : Int) = (m : Int) + 1 from rfl] at ih
  rw [← ih]
  clear hK ih q hT hT2
  simp only [tbF, Int.ofNat_zero] at e2 ⊢
  simp [ir_law06_RolesCircle_L3, hlt, hwi, e2]
theorem l_tab6 (R : List Rl) (hR : R.length ≤ 12) (s : St) (cx : Ctx) (A B : Nat → Nat → Bool) (hB : ∀ i, i < R.length → B i i = false) :
  ∀ (n i : Nat), i + n = R.length →
  ∃ (j : Int), loopW (acodeW P0.glob (acallW P0) cx false ir_law06_RolesCircle_L6) [11, 13, 19] [(11, .v (slf true (R.map .s))), (13, .v (.pt (s.length + 1) 0)), (19, .v (.i .i64 i))] (tbH s A B) =
   .exit 12 [(11, .v (slf true (R.map .s))), (13, .v (.pt (s.length + 1) 0)), (19, .v (.i .i64 j)), (223, .v (.b false))] (tbH s A B)
 | 0, i, hk => by
  have h1 : ¬ i < R.length := by omega
  refine ⟨i, loop_step fun K hK => ?_⟩
  simp [ir_law06_RolesCircle_L6, h1]
 | n + 1, i, hk => by
  have hlt : i < R.length := by omega
  have hwi := wI (i := i) (by omega)
  obtain ⟨j, ih⟩ := l_tab6 R hR s cx A B hB n (i + 1) (by omega)
  refine ⟨j, loop_step fun K hK => ?_⟩
  rw [← hK, show ((i + 1 : Nat) : Int) = (i : Int) + 1 from rfl] at ih
  rw [← ih]
  clear hK ih
  have i12 : i < 12 := by omega
  have g1 := tabC_at B i12 i12
  rw [hB i hlt] at g1
  simp [ir_law06_RolesCircle_L6, hlt, hwi, i12, g1]
theorem c_circle_law (z : Bool) (l : List Ax) (hl : l.length ≤ 1125899906842624) (hx : ∀ x ∈ l, x.Ok) (hs : acallW P0 (.fn (.func F_law06_sane) [] []) [] [] ⟨0, 0⟩ = .ret (.b true) []) (cx : Ctx) :
  acallW P0 (.fn (.func F_law06_RolesCircle) [] []) [slf z (l.map encA)] [] cx = .ret (.b true) [] := by
 obtain ⟨b, e1, hb⟩ := c_law06_few z l hl hx
 refine go_law06_RolesCircle (by simp) ?_
 cases b with
 | false => simp [callFnW, ir_law06_RolesCircle, hs, e1]
 | true =>
  obtain ⟨h12, hf⟩ := hb rfl
  obtain ⟨X, e, e2, hC⟩ := c_roles_Check z l (by omega) hf [] ⟨0, 0⟩
  have hrl : ∀ x ∈ l, x.roles.length ≤ 1000 := fun x hx => by have := (hf x hx).roles; omega
  by_cases h60 : e = 60
  ·subst h60
   have h0 := hC.zero (.inr rfl)
   have hbest : Best (fun a b : Rl => a < b) (stE l) X := by
    rcases hC.2.2 h0 with ⟨a, _⟩ | ⟨_, _, a⟩
    ·exact a
    ·cases a
   have hG := good_of hbest
   obtain ⟨j, hL⟩ := l_circ0 z l (by omega) hrl (one5_all h0) X hC.1 hG [] ⟨0, 0⟩ X.length 0 false (by omega)
   have hany : stF l X X.length 0 = true := by
    obtain ⟨k, hk, hst⟩ := hG.strict
    refine stF_of (k := k) ?_ (Nat.zero_le _) (by omega)
    rw [show X.getD k [] = X[k] by simp [List.getD, List.getElem?_eq_getElem hk]]
    exact ldT_iff.2 hst
   rw [hany] at hL
   clear hC hbest hG hany hf hrl hx hb
   simp only [Int.ofNat_zero, Bool.or_true] at hL
   simp [callFnW, ir_law06_RolesCircle, hs, e1, e2, hL]
  ·by_cases h00 : e = 0
   ·subst h00
    have h0 := hC.zero (.inl rfl)
    obtain ⟨hnc, rfl⟩ : (∀ c, ¬ Circ (stE l) c) ∧ X = [] := by
     rcases hC.2.2 h0 with ⟨_, a⟩ | ⟨a, b, _⟩
     ·cases a
     ·exact ⟨a, b⟩
    obtain ⟨V1, R, V3, V4, hRl, hRx, hv⟩ := c_terms_Vocabulary z l (by omega) hf h0
    rw [slS_slf R] at hv
    have o1 := slS_one V1
    have o3 := slS_one V3
    have o4 := slS_one V4
    by_cases hR : 12 < R.length
    ·have hR' : (12 : Int) < R.length := by omega
     clear hC hf hrl hx hb hnc
     simp [callFnW, ir_law06_RolesCircle, hs, e1, e2, hv, o1, o3, o4, hR']
    ·have hR' : ¬ (12 : Int) < R.length := by omega
     obtain ⟨j1, A1, B1, k1, T1⟩ := l_tab1 z l (by omega) hrl (one5_all h0) R (by omega) [] ⟨0, 0⟩ (Nat.le_refl _) R.length 0 (fun _ _ => false) (fun _ _ => false) (by omega) ⟨(fun _ _ _ _ h => by cases h), (fun _ _ _ _ h => by cases h)⟩
     obtain ⟨j3, A3, B3, k3, T3⟩ := l_tab3 (stE l) R (by omega) [] ⟨0, 0⟩ (Nat.le_refl _) R.length 0 A1 B1 (by omega) T1
     obtain ⟨j6, k6⟩ := l_tab6 R (by omega) [] ⟨0, 0⟩ A3 B3 (fun i hi => T3.diag hnc hi) R.length 0 (by omega)
     clear hC hf hrl hx hb hnc T1 T3
     rw [show tbH [] (fun _ _ => false) (fun _ _ => false) = [.cells (List.replicate 144 (.b false)), .cells (List.replicate 144 (.b false))] by rw [tabC_nil]; rfl] at k1
     simp only [tbE, tbF, Int.ofNat_zero, List.length_nil, Nat.zero_add] at k1 k3 k6
     simp [-List.reduceReplicate, callFnW, ir_law06_RolesCircle, hs, e1, e2, hv, o1, o3, o4, hR', k1, k3, k6]
   ·have hX : X = [] := by
     by_cases h0 : chkL l = 0
     ·rcases hC.2.2 h0 with ⟨_, a⟩ | ⟨_, _, a⟩
      ·exact absurd a h60
      ·exact absurd a h00
     ·exact (hC.2.1 h0).1
    subst hX
    clear hC hf hrl hx hb
    simp [callFnW, ir_law06_RolesCircle, hs, e1, e2, h60, h00]
end Go.Ai.Z
