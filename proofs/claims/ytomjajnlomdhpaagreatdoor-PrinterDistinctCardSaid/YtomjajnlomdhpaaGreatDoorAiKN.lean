/-
  The law on distinct texts of axioms.
-/
import Derived.Test.YtomjajnlomdhpaaGreatDoorAiKM
import Derived.Test.YtomjajnlomdhpaaGreatDoorAiK12
import Derived.Test.YtomjajnlomdhpaaGreatDoorAiK15
import Derived.Test.YtomjajnlomdhpaaGreatDoorAiInj7Inj8Inj9
set_option maxRecDepth 100000
set_option linter.unusedSimpArgs false
set_option linter.unusedVariables false
namespace Go.Ai.Z

theorem kind_nz {c d : C} (h : nz c = nz d) : c.kind = d.kind := by rw [← nz_kind c, h, nz_kind]
theorem stat_of {x y : Ax} (hx : checkAS x = 0) (hy : checkAS y = 0) (h : Eqv x y) : statS x = statS y := by
  have gx := good hx
  have gy := good hy
  have hk := h.k
  unfold statS
  rw [← h.rs, ← h.ro, ← h.a, ← h.b, ← hk]
  have L : x.kind = 1 ∨ x.kind = 2 ∨ x.kind = 3 → textS x.left = textS y.left := fun e => (text_iff (gx.l (by omega)) (gy.l (by omega))).2 h.l
  have R : x.kind = 1 ∨ x.kind = 2 ∨ x.kind = 3 ∨ x.kind = 4 ∨ x.kind = 8 → textS x.right = textS y.right := fun e => (text_iff (gx.r (by omega)) (gy.r (by omega))).2 h.r
  rcases gx.k with k | k | k | k | k | k | k | k | k
  all_goals first | (rw [L (by omega), R (by omega)]; done) | (rw [R (by omega)]; simp [k]; done) | simp [k]
theorem ax_of {x y : Ax} (hx : checkAS x = 0) (hy : checkAS y = 0) (ho : x.op = y.op) (h : Eqv x y) : axS x = axS y := by
  unfold axS
  rw [stat_of hx hy h, ho, h.k]
theorem weight_of {x y : Ax} (h : Eqv x y) : weightS x = weightS y := by
  have hs : ∀ {c d : C}, nz c = nz d → szIf c = szIf d := fun {c d} h => by
    unfold szIf; rw [← size_nz c, h, size_nz, kind_nz h]
  unfold weightS
  simp only [sumIf, hs h.l, hs h.r, h.rs, h.ro, h.a, h.b]
theorem cmpA_iff {x y : Ax} : cmpA x y = 0 ↔ Eqv x y := by
  rw [cmpA_zero]
  exact ⟨fun ⟨_, a, b, c, d, e, f, g⟩ => ⟨a, b, c, d, e, f, g⟩, fun h => ⟨weight_of h, h.k, h.l, h.r, h.rs, h.ro, h.a, h.b⟩⟩

theorem c_law_dis (x y : Ax) (hx : x.Ok) (hy : y.Ok) (hs : acallW P0 (.fn (.func F_law04_sane) [] []) [] [] ⟨0, 0⟩ = .ret (.b true) []) (cx : Ctx) :
    acallW P0 (.fn (.func F_law04_PrinterDistinct) [] []) [encA x, encA y] [] cx = .ret (.b true) [] := by
  obtain ⟨b, e1, hb⟩ := c_ref02_FewAxiom x hx
  obtain ⟨b', e1', hb'⟩ := c_ref02_FewAxiom y hy
  refine go_law04_PrinterDistinct (by simp) ?_
  cases b with
  | false => simp [callFnW, ir_law04_PrinterDistinct, hs, e1]
  | true =>
    cases b' with
    | false => simp [callFnW, ir_law04_PrinterDistinct, hs, e1, e1']
    | true =>
      have hw := hb rfl
      have hw' := hb' rfl
      have e2 := c_printer_Axiom x hw
      have e3 := c_printer_Axiom y hw'
      have := hw.l; have := hw.r; have := hw.roles; have := hw'.l; have := hw'.r; have := hw'.roles
      have e4 := c_terms_CompareAxiom x y (by omega) (by omega) (by omega) (by omega) (by omega) (by omega)
      by_cases h0 : checkAS x = 0
      · by_cases h0' : checkAS y = 0
        · have hiff : axS x = axS y ↔ (x.op = y.op ∧ cmpA x y = 0) := ⟨fun h => ⟨(ax_inj h0 h0' h).1, cmpA_iff.2 (ax_inj h0 h0' h).2⟩, fun h => ax_of h0 h0' h.1 (cmpA_iff.1 h.2)⟩
          by_cases ht : axS x = axS y <;> by_cases hz : cmpA x y = 0 <;> rcases Bool.eq_false_or_eq_true x.op with o | o <;> rcases Bool.eq_false_or_eq_true y.op with o' | o'
          all_goals
            have f := fold_op o
            have f' := fold_op o'
            rw [o, o'] at hiff
            simp [ht, hz] at hiff
            try (simp [callFnW, ir_law04_PrinterDistinct, hs, e1, e1', e2, e3, e4, h0, h0', ht, hz, o, o', f, f']; done)
        · simp [callFnW, ir_law04_PrinterDistinct, hs, e1, e1', e2, e3, h0, h0']
      · by_cases h0' : checkAS y = 0
        · simp [callFnW, ir_law04_PrinterDistinct, hs, e1, e1', e2, e3, h0, h0']
        · simp [callFnW, ir_law04_PrinterDistinct, hs, e1, e1', e2, e3, h0, h0']
end Go.Ai.Z
