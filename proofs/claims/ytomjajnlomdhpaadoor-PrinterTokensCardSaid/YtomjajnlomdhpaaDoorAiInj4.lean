/-
  Texts do not depend on the flags of nil.
-/
import Derived.Test.YtomjajnlomdhpaaDoorAiInj3
set_option maxRecDepth 100000
set_option linter.unusedSimpArgs false
set_option linter.unusedVariables false
namespace Go.Ai.Z

theorem nz_kind (c : C) : (nz c).kind = c.kind := by rw [nz_eq]; rfl
theorem nz_name (c : C) : (nz c).name = c.name := by rw [nz_eq]; rfl
theorem nz_lo (c : C) : (nz c).lo = c.lo := by rw [nz_eq]; rfl
theorem nz_hi (c : C) : (nz c).hi = c.hi := by rw [nz_eq]; rfl
theorem nz_parts (c : C) : (nz c).parts = c.parts.map nz := by rw [nz_eq]; rfl
theorem text_nz : ∀ c : C, textS (nz c) = textS c := by
  refine C.ind' fun c ih => ?_
  have hop : (c.parts.map nz).map opS = c.parts.map opS := by
    rw [List.map_map]
    apply List.map_congr_left
    intro p hp
    simp only [Function.comp, opS, nz_kind, ih p hp]
  rw [textS_eq, textS_eq c, nz_kind, nz_name, nz_lo, nz_hi, nz_parts, hop]
theorem text_iff {c d : C} (hc : walkS c = 0) (hd : walkS d = 0) : textS c = textS d ↔ nz c = nz d :=
  ⟨text_inj hc hd, fun h => by rw [← text_nz c, h, text_nz]⟩
end Go.Ai.Z
