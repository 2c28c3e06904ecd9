/-
 The program's own facts: every function is a faithful copy, the library's functions answer as listed; what the row lists gives the variables.
-/
import Derived.Test.YtpanocallohgdaaDoorAiC3
import Derived.Test.YtpanocallohgdaaDoorAiC4
import Derived.Test.YtpanocallohgdaaDoorRows
set_option maxRecDepth 100000
set_option linter.unusedSimpArgs false
set_option linter.unusedVariables false
namespace Go.Ai.Z
open Go.Proofs Go.Proofs.YtpanocallohgdaaDoor
set_option maxRecDepth 100000
theorem lookup_mem {α : Type} : ∀ {l : List (Nat × α)} {k : Nat} {v : α}, l.lookup k = some v → (k, v) ∈ l
 | [], _, _, h => by simp at h
 | (a, b) :: r, k, v, h => by
  simp only [List.lookup] at h
  split at h
  ·rename_i he; cases h; simp at he; subst he; simp
  ·exact List.mem_cons_of_mem _ (lookup_mem h)
theorem progOK : ProgOK Tryd.prog P0 where
 mixed := mixed
 fns f fn h := all_ok (f, fn) (lookup_mem h)
 intr f h hh := by
  have := lookup_mem (l := intrList) hh
  simp only [intrList, List.mem_cons, List.not_mem_nil, or_false, Prod.mk.injEq] at this
  rcases this with ⟨rfl, rfl⟩ | ⟨rfl, rfl⟩ | ⟨rfl, rfl⟩ | ⟨rfl, rfl⟩ | ⟨rfl, rfl⟩
  ·exact (ok_join).lift
  ·exact (ok_index).lift
  ·exact ok_keys1
  ·exact ok_keys2
  ·exact ok_sorted1
theorem uses_named : Tryd.prog.globalNamed "veilstone/terms.uses" = some 0 := by kernel_rfl
theorem needs_named : Tryd.prog.globalNamed "veilstone/terms.needs" = some 1 := by kernel_rfl
theorem globRel {W : World} {laid : List (String × DataW Unit)} {ps : List MemPlace} (h : DataW.LaidVars Tryd.prog W laid ps)
  (h1 : ("veilstone/terms.needs", Rows.laid_veilstone_terms_needs) ∈ laid) (h2 : ("veilstone/terms.uses", Rows.laid_veilstone_terms_uses) ∈ laid) : GlobRel P0.glob (g0 W) := by
 intro k cs hk
 have := lookup_mem (l := globList) hk
 simp only [globList, List.mem_cons, List.not_mem_nil, or_false, Prod.mk.injEq] at this
 rcases this with ⟨rfl, rfl⟩ | ⟨rfl, rfl⟩
 ·obtain ⟨ty, fr, hw⟩ := laid_cells (n := 60) (t := (Tryd.prog.globals[1]?.map (·.type)).getD 0) (vs := (flatT Tryd.prog 60 ((Tryd.prog.globals[1]?.map (·.type)).getD 0) Rows.laid_veilstone_terms_needs).getD []) h h1 needs_named (by kernel_rfl) (by kernel_rfl)
  exact rep_laid hw (by kernel_rfl) (by kernel_rfl)
 ·obtain ⟨ty, fr, hw⟩ := laid_cells (n := 60) (t := (Tryd.prog.globals[0]?.map (·.type)).getD 0) (vs := (flatT Tryd.prog 60 ((Tryd.prog.globals[0]?.map (·.type)).getD 0) Rows.laid_veilstone_terms_uses).getD []) h h2 uses_named (by kernel_rfl) (by kernel_rfl)
  exact rep_laid hw (by kernel_rfl) (by kernel_rfl)
end Go.Ai.Z
