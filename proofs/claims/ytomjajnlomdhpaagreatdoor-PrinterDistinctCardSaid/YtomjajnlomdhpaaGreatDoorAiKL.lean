/-
  terms.weight, slices.Compare on strings, terms.CompareAxiom.
-/
import Derived.Test.YtomjajnlomdhpaaGreatDoorAiKJ
set_option maxRecDepth 100000
set_option linter.unusedSimpArgs false
set_option linter.unusedVariables false
namespace Go.Ai.Z
open Go.Lib (compareBytes)

/-! ### Weights -/

def szIf (c : C) : Nat := if c.kind = 0 then 0 else sizeC c
def sumIf : List C → Nat
  | [] => 0
  | c :: r => szIf c + sumIf r
def neIf : List (List UInt8) → Nat
  | [] => 0
  | a :: r => (if a = [] then 0 else 1) + neIf r
theorem l_weight0 (cs : List AV) (ps : List C) (hps : ps.length ≤ 2) (hw : ∀ p ∈ ps, wC p ≤ 1000) (s : St) (cx : Ctx) : ∀ (rest : List C) (i n : Nat), ps.drop i = rest → n + 1000 * rest.length ≤ 5000 →
    ∃ j : Int, loopW (acodeW P0.glob (acallW P0) cx false ir_terms_weight_L0) [1, 2, 11, 12, 13] [(1, .bx cs), (2, .v (.i .i64 (n : Int))), (11, .v (.sl (ps.map encC))), (12, .v (.i .i64 ps.length)), (13, .v (.i .i64 i))] s =
      .exit 0 [(1, .bx cs), (2, .v (.i .i64 ((n + sumIf rest : Nat) : Int))), (11, .v (.sl (ps.map encC))), (12, .v (.i .i64 ps.length)), (13, .v (.i .i64 j)), (14, .v (.b false))] s
  | [], i, n, h, hn => by
    have h1 : ¬ i < ps.length := Nat.not_lt.2 (drop_nil h)
    refine ⟨i, loop_step fun K hK => ?_⟩
    simp [ir_terms_weight_L0, h1, sumIf]
  | p :: r, i, n, h, hn => by
    obtain ⟨h1, h2, h3, h4⟩ := drop_cons h
    have h5 := h4 h3
    have hp : p ∈ ps := by rw [← h5]; exact List.getElem_mem h3
    have hwi := wI (i := i) (by omega)
    have e1 := c_terms_Size p (hw p hp)
    have hsz := sizeC_le p
    have hwp := hw p hp
    simp only [List.length_cons] at hn
    have hle : szIf p ≤ 1000 := by unfold szIf; split <;> omega
    obtain ⟨j, ih⟩ := l_weight0 cs ps hps hw s cx r (i + 1) (n + szIf p) h2 (by omega)
    refine ⟨j, loop_step fun K hK => ?_⟩
    rw [← hK] at ih
    clear hK h4
    have w1 : IntKind.i64.wrap ((n : Int) + (sizeC p : Int)) = (n : Int) + (sizeC p : Int) := w64 (by omega) (by omega)
    by_cases hk : p.kind = 0
    · simp [szIf, hk] at ih
      simp [ir_terms_weight_L0, h3, h5, hwi, e1, ih, sumIf, szIf, hk]
    · have hadd : ((n : Int) + (sizeC p : Int) + (sumIf r : Int)) = (n : Int) + ((sizeC p : Int) + (sumIf r : Int)) := by omega
      simp [szIf, hk] at ih
      simp [ir_terms_weight_L0, h3, h5, hwi, e1, w1, ih, sumIf, szIf, hk, hadd]
theorem l_weight1 (ps : List (List UInt8)) (hps : ps.length ≤ 3) (s : St) (cx : Ctx) : ∀ (rest : List (List UInt8)) (i n : Nat), ps.drop i = rest → n + rest.length ≤ 5000 →
    ∃ j : Int, loopW (acodeW P0.glob (acallW P0) cx false ir_terms_weight_L1) [2, 36, 37, 38] [(2, .v (.i .i64 (n : Int))), (36, .v (.sl (ps.map .s))), (37, .v (.i .i64 ps.length)), (38, .v (.i .i64 i))] s =
      .exit 2 [(2, .v (.i .i64 ((n + neIf rest : Nat) : Int))), (36, .v (.sl (ps.map .s))), (37, .v (.i .i64 ps.length)), (38, .v (.i .i64 j)), (39, .v (.b false))] s
  | [], i, n, h, hn => by
    have h1 : ¬ i < ps.length := Nat.not_lt.2 (drop_nil h)
    refine ⟨i, loop_step fun K hK => ?_⟩
    simp [ir_terms_weight_L1, h1, neIf]
  | p :: r, i, n, h, hn => by
    obtain ⟨h1, h2, h3, h4⟩ := drop_cons h
    have h5 := h4 h3
    have hwi := wI (i := i) (by omega)
    simp only [List.length_cons] at hn
    obtain ⟨j, ih⟩ := l_weight1 ps hps s cx r (i + 1) (n + if p = [] then 0 else 1) h2 (by split <;> omega)
    refine ⟨j, loop_step fun K hK => ?_⟩
    rw [← hK] at ih
    clear hK h4
    have w1 : IntKind.i64.wrap ((n : Int) + 1) = (n : Int) + 1 := w64 (by omega) (by omega)
    by_cases hk : p = []
    · subst hk
      simp at ih
      simp [ir_terms_weight_L1, h3, h5, hwi, ih, neIf]
    · have hadd : ((n : Int) + 1 + (neIf r : Int)) = (n : Int) + (1 + (neIf r : Int)) := by omega
      simp [hk] at ih
      simp [ir_terms_weight_L1, h3, h5, hwi, w1, ih, neIf, hk, hadd, cdT_go]
def weightS (x : Ax) : Nat := sumIf [x.left, x.right] + x.roles.length + neIf [x.role, x.a, x.b]
theorem c_terms_weight (x : Ax) (hl : wC x.left ≤ 1000) (hr : wC x.right ≤ 1000) (hn : x.roles.length ≤ 1000) (s : St) (cx : Ctx) : acallW P0 (.fn (.func F_terms_weight) [] []) [encA x] s cx = .ret (.i .i64 (weightS x : Int)) s := by
  refine go_terms_weight (by simp) ?_
  have hs1 : sumIf [x.left, x.right] ≤ 2000 := by
    have h1 := sizeC_le x.left; have h2 := sizeC_le x.right
    simp only [sumIf, szIf]; split <;> split <;> omega
  obtain ⟨j, e1⟩ := l_weight0 (encA x).cells [x.left, x.right] (by simp) (by simp; exact ⟨hl, hr⟩) s ⟨s.length, s.length⟩ [x.left, x.right] 0 0 rfl (by simp)
  obtain ⟨j', e2⟩ := l_weight1 [x.role, x.a, x.b] (by simp) s ⟨s.length, s.length⟩ [x.role, x.a, x.b] 0 (sumIf [x.left, x.right] + x.roles.length) rfl (by simp; omega)
  have w1 : IntKind.i64.wrap ((sumIf [x.left, x.right] : Int) + (x.roles.length : Int)) = (sumIf [x.left, x.right] : Int) + (x.roles.length : Int) := w64 (by omega) (by omega)
  simp at e1 e2
  simp [callFnW, ir_terms_weight, e1, e2, w1, weightS, List.range_succ]
end Go.Ai.Z
