/-
 The program's own facts: every function is a faithful copy, the library's functions answer as listed; what the row lists gives the variables.
-/
import Derived.Test.YtpnlnnfcaeednaaGreatDoorAiC3
import Derived.Test.YtpnlnnfcaeednaaGreatDoorAiC4
import Derived.Test.YtpnlnnfcaeednaaGreatDoorRows
set_option maxRecDepth 100000
set_option linter.unusedSimpArgs false
set_option linter.unusedVariables false
set_option linter.unusedSectionVars false
namespace Go.Ai.Z
open Go.Proofs Go.Proofs.YtpnlnnfcaeednaaGreatDoor
set_option maxRecDepth 100000
theorem lookup_mem {α : Type} : ∀ {l : List (Nat × α)} {k : Nat} {v : α}, l.lookup k = some v → (k, v) ∈ l
 | [], _, _, h => by simp at h
 | (a, b) :: r, k, v, h => by
  simp only [List.lookup] at h
  split at h
  ·rename_i he; cases h; simp at he; subst he; simp
  ·exact List.mem_cons_of_mem _ (lookup_mem h)
theorem progOK : ProgOK False Tryz.prog P0 where
 mixed := mixed
 fns f fn h := all_ok (f, fn) (lookup_mem h)
 intr f h hh := by
  have := lookup_mem (l := intrList) hh
  simp only [intrList, List.mem_cons, List.not_mem_nil, or_false, Prod.mk.injEq] at this
  rcases this with ⟨rfl, rfl⟩ | ⟨rfl, rfl⟩ | ⟨rfl, rfl⟩
  ·exact (ok_index).lift
  ·exact (ok_compare).lift
  ·exact (ok_atoi).lift
 hi f k hh := by
  have := lookup_mem (l := hiList) hh
  simp only [hiList, List.mem_cons, List.not_mem_nil, or_false, Prod.mk.injEq] at this
  rcases this with ⟨rfl, rfl⟩ | ⟨rfl, rfl⟩
  ·exact ⟨rfl, ok_sort⟩
  ·exact ⟨rfl, ok_try⟩
 intrQ f h hh := by
  have := lookup_mem (l := intrQList) hh
  simp only [intrQList, List.mem_cons, List.not_mem_nil, or_false, Prod.mk.injEq] at this
  obtain ⟨rfl, rfl⟩ := this
  exact (ok_compare).lift
theorem uses_named : Tryz.prog.globalNamed "veilstone/terms.uses" = some 0 := by kernel_rfl
theorem needs_named : Tryz.prog.globalNamed "veilstone/terms.needs" = some 1 := by kernel_rfl
theorem globRel {W : World} {laid : List (String × DataW Unit)} {ps : List MemPlace} (h : DataW.LaidVars Tryz.prog W laid ps)
  (h1 : ("veilstone/terms.needs", Rows.laid_veilstone_terms_needs) ∈ laid) (h2 : ("veilstone/terms.uses", Rows.laid_veilstone_terms_uses) ∈ laid) : GlobRel P0.glob (g0 W) := by
 intro k cs hk
 have := lookup_mem (l := globList) hk
 simp only [globList, List.mem_cons, List.not_mem_nil, or_false, Prod.mk.injEq] at this
 rcases this with ⟨rfl, rfl⟩ | ⟨rfl, rfl⟩
 ·obtain ⟨ty, fr, hw⟩ := laid_cells (n := 60) (t := (Tryz.prog.globals[1]?.map (·.type)).getD 0) (vs := (flatT Tryz.prog 60 ((Tryz.prog.globals[1]?.map (·.type)).getD 0) Rows.laid_veilstone_terms_needs).getD []) h h1 needs_named (by kernel_rfl) (by kernel_rfl)
  exact rep_laid hw (by kernel_rfl) (by kernel_rfl)
 ·obtain ⟨ty, fr, hw⟩ := laid_cells (n := 60) (t := (Tryz.prog.globals[0]?.map (·.type)).getD 0) (vs := (flatT Tryz.prog 60 ((Tryz.prog.globals[0]?.map (·.type)).getD 0) Rows.laid_veilstone_terms_uses).getD []) h h2 uses_named (by kernel_rfl) (by kernel_rfl)
  exact rep_laid hw (by kernel_rfl) (by kernel_rfl)
end Go.Ai.Z
