/-
  Axioms: their texts, as both write them.
-/
import Derived.Test.YtomjajnlomdhpaaGreatDoorAiK13
set_option maxRecDepth 100000
set_option linter.unusedSimpArgs false
set_option linter.unusedVariables false
namespace Go.Ai.Z

theorem fl_len : ∀ l : List (List UInt8), (∀ r ∈ l, r.length ≤ 600) → (l.flatMap fun r => 32 :: r).length ≤ l.length * 601 := by
  intro l; induction l with
  | nil => simp
  | cons a t ih => intro h; have h1 := h a (by simp); have h2 := ih (fun r hr => h r (by simp [hr])); simp only [List.flatMap_cons, List.length_append, List.length_cons]; omega
theorem stat_len {x : Ax} (hx : x.Few) (hg : x.Good) : (statS x).length ≤ 45000 := by
  have hro := hx.role
  have ha := hx.a
  have hbb := hx.b
  have ll : walkS x.left = 0 → _ := fun h => text_lt hx.l h
  have lr : walkS x.right = 0 → _ := fun h => text_lt hx.r h
  unfold statS
  rcases hg.k with k | k | k | k | k | k | k | k | k
  · rw [if_pos k]; have ll := ll (hg.l (by omega)); have lr := lr (hg.r (by omega)); simp; omega
  · rw [if_neg (by omega), if_pos k]; have ll := ll (hg.l (by omega)); have lr := lr (hg.r (by omega)); simp; omega
  · rw [if_neg (by omega), if_neg (by omega), if_pos k]; have ll := ll (hg.l (by omega)); have lr := lr (hg.r (by omega)); simp; omega
  · rw [if_neg (by omega), if_neg (by omega), if_neg (by omega), if_pos k]; have lr := lr (hg.r (by omega)); simp; omega
  · rw [if_neg (by omega), if_neg (by omega), if_neg (by omega), if_neg (by omega), if_pos k]
    have hr := hg.r5 k
    rcases hps : x.roles with _ | ⟨a, _ | ⟨b, r⟩⟩
    · simp [hps] at hr
    · have hal := hx.rs a (by simp [hps])
      simp; omega
    · simp [hps] at hr
  · rw [if_neg (by omega), if_neg (by omega), if_neg (by omega), if_neg (by omega), if_neg (by omega), if_neg (by omega), if_neg (by omega), if_neg (by omega)]
    have h1 := fl_len x.roles hx.rs
    have h2 := hg.r6 k
    generalize (x.roles.flatMap fun r => 32 :: r) = fl at h1 ⊢
    simp; omega
  · rw [if_neg (by omega), if_neg (by omega), if_neg (by omega), if_neg (by omega), if_neg (by omega), if_pos k]; simp; omega
  · rw [if_neg (by omega), if_neg (by omega), if_neg (by omega), if_neg (by omega), if_neg (by omega), if_neg (by omega), if_pos k]; have lr := lr (hg.r (by omega)); simp; omega
  · rw [if_neg (by omega), if_neg (by omega), if_neg (by omega), if_neg (by omega), if_neg (by omega), if_neg (by omega), if_neg (by omega), if_pos k]; simp; omega
theorem ax_len {x : Ax} (hx : x.Few) (hg : x.Good) : (axS x).length ≤ 45010 := by
  have := stat_len hx hg
  unfold axS; split <;> split <;> simp <;> omega

theorem fold_op {x : Ax} {b : Bool} (h : x.op = b) : AV.ag [.i .i64 x.kind, .b b, .i .i64 x.left.kind, .s x.left.name, .i .i64 x.left.lo, .i .i64 x.left.hi, slf x.left.z (x.left.parts.map encC),
  .i .i64 x.right.kind, .s x.right.name, .i .i64 x.right.lo, .i .i64 x.right.hi, slf x.right.z (x.right.parts.map encC), slf x.z (x.roles.map .s), .s x.role, .s x.a, .s x.b] = encA x := by subst h; rfl
end Go.Ai.Z
