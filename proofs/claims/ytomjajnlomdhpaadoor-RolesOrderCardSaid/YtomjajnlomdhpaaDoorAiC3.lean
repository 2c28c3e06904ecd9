/-
  Each function in the small language is a faithful copy: written by program.
-/
import Derived.Test.YtomjajnlomdhpaaDoorAiRn5
import Derived.Test.YtomjajnlomdhpaaDoorAiC2
import Derived.Test.YtomjajnlomdhpaaDoorChecked
set_option maxRecDepth 100000
set_option linter.unusedSimpArgs false
set_option linter.unusedVariables false
namespace Go.Ai.Z
open Go.Proofs
set_option maxRecDepth 100000
theorem ok_law06_RolesOrder : FunOK Tryd.prog F_law06_RolesOrder ir_law06_RolesOrder := ⟨Tryd.f4, Tryd.f4.body.getD .skip, Tryd.func4, by kernel_rfl, by kernel_rfl, by kernel_rfl, of_decide_eq_true (by kernel_rfl), by kernel_rfl⟩
theorem ok_law06_sane : FunOK Tryd.prog F_law06_sane ir_law06_sane := ⟨Tryd.f13, Tryd.f13.body.getD .skip, Tryd.func13, by kernel_rfl, by kernel_rfl, by kernel_rfl, of_decide_eq_true (by kernel_rfl), by kernel_rfl⟩
theorem ok_law06_chain : FunOK Tryd.prog F_law06_chain ir_law06_chain := ⟨Tryd.f39, Tryd.f39.body.getD .skip, Tryd.func39, by kernel_rfl, by kernel_rfl, by kernel_rfl, of_decide_eq_true (by kernel_rfl), by kernel_rfl⟩
theorem ok_law06_sub : FunOK Tryd.prog F_law06_sub ir_law06_sub := ⟨Tryd.f40, Tryd.f40.body.getD .skip, Tryd.func40, by kernel_rfl, by kernel_rfl, by kernel_rfl, of_decide_eq_true (by kernel_rfl), by kernel_rfl⟩
theorem ok_law06_circles : FunOK Tryd.prog F_law06_circles ir_law06_circles := ⟨Tryd.f38, Tryd.f38.body.getD .skip, Tryd.func38, by kernel_rfl, by kernel_rfl, by kernel_rfl, of_decide_eq_true (by kernel_rfl), by kernel_rfl⟩
theorem ok_roles_Check : FunOK Tryd.prog F_roles_Check ir_roles_Check := ⟨Tryd.f19, Tryd.f19.body.getD .skip, Tryd.func19, by kernel_rfl, by kernel_rfl, by kernel_rfl, of_decide_eq_true (by kernel_rfl), by kernel_rfl⟩
theorem ok_roles_check : FunOK Tryd.prog F_roles_check ir_roles_check := ⟨Tryd.f47, Tryd.f47.body.getD .skip, Tryd.func47, by kernel_rfl, by kernel_rfl, by kernel_rfl, of_decide_eq_true (by kernel_rfl), by kernel_rfl⟩
theorem ok_terms_CheckAxiom : FunOK Tryd.prog F_terms_CheckAxiom ir_terms_CheckAxiom := ⟨Tryd.f52, Tryd.f52.body.getD .skip, Tryd.func52, by kernel_rfl, by kernel_rfl, by kernel_rfl, of_decide_eq_true (by kernel_rfl), by kernel_rfl⟩
theorem ok_terms_isShaped : FunOK Tryd.prog F_terms_isShaped ir_terms_isShaped := ⟨Tryd.f87, Tryd.f87.body.getD .skip, Tryd.func87, by kernel_rfl, by kernel_rfl, by kernel_rfl, of_decide_eq_true (by kernel_rfl), by kernel_rfl⟩
theorem ok_terms_isEmpty : FunOK Tryd.prog F_terms_isEmpty ir_terms_isEmpty := ⟨Tryd.f104, Tryd.f104.body.getD .skip, Tryd.func104, by kernel_rfl, by kernel_rfl, by kernel_rfl, of_decide_eq_true (by kernel_rfl), by kernel_rfl⟩
theorem ok_terms_isNamed : FunOK Tryd.prog F_terms_isNamed ir_terms_isNamed := ⟨Tryd.f88, Tryd.f88.body.getD .skip, Tryd.func88, by kernel_rfl, by kernel_rfl, by kernel_rfl, of_decide_eq_true (by kernel_rfl), by kernel_rfl⟩
theorem ok_terms_isPlain : FunOK Tryd.prog F_terms_isPlain ir_terms_isPlain := ⟨Tryd.f93, Tryd.f93.body.getD .skip, Tryd.func93, by kernel_rfl, by kernel_rfl, by kernel_rfl, of_decide_eq_true (by kernel_rfl), by kernel_rfl⟩
theorem ok_strings_Cut : FunOK Tryd.prog F_strings_Cut ir_strings_Cut := ⟨Tryd.f106, Tryd.f106.body.getD .skip, Tryd.func106, by kernel_rfl, by kernel_rfl, by kernel_rfl, of_decide_eq_true (by kernel_rfl), by kernel_rfl⟩
theorem ok_internal_stringslite_Cut : FunOK Tryd.prog F_internal_stringslite_Cut ir_internal_stringslite_Cut := ⟨Tryd.f125, Tryd.f125.body.getD .skip, Tryd.func125, by kernel_rfl, by kernel_rfl, by kernel_rfl, of_decide_eq_true (by kernel_rfl), by kernel_rfl⟩
theorem ok_terms_isWord : FunOK Tryd.prog F_terms_isWord ir_terms_isWord := ⟨Tryd.f107, Tryd.f107.body.getD .skip, Tryd.func107, by kernel_rfl, by kernel_rfl, by kernel_rfl, of_decide_eq_true (by kernel_rfl), by kernel_rfl⟩
theorem ok_terms_isLetter : FunOK Tryd.prog F_terms_isLetter ir_terms_isLetter := ⟨Tryd.f126, Tryd.f126.body.getD .skip, Tryd.func126, by kernel_rfl, by kernel_rfl, by kernel_rfl, of_decide_eq_true (by kernel_rfl), by kernel_rfl⟩
theorem ok_terms_isTail : FunOK Tryd.prog F_terms_isTail ir_terms_isTail := ⟨Tryd.f108, Tryd.f108.body.getD .skip, Tryd.func108, by kernel_rfl, by kernel_rfl, by kernel_rfl, of_decide_eq_true (by kernel_rfl), by kernel_rfl⟩
theorem ok_lexis_Keyword : FunOK Tryd.prog F_lexis_Keyword ir_lexis_Keyword := ⟨Tryd.f127, Tryd.f127.body.getD .skip, Tryd.func127, by kernel_rfl, by kernel_rfl, by kernel_rfl, of_decide_eq_true (by kernel_rfl), by kernel_rfl⟩
theorem ok_terms_CheckName : FunOK Tryd.prog F_terms_CheckName ir_terms_CheckName := ⟨Tryd.f76, Tryd.f76.body.getD .skip, Tryd.func76, by kernel_rfl, by kernel_rfl, by kernel_rfl, of_decide_eq_true (by kernel_rfl), by kernel_rfl⟩
theorem ok_terms_isReserved : FunOK Tryd.prog F_terms_isReserved ir_terms_isReserved := ⟨Tryd.f94, Tryd.f94.body.getD .skip, Tryd.func94, by kernel_rfl, by kernel_rfl, by kernel_rfl, of_decide_eq_true (by kernel_rfl), by kernel_rfl⟩
theorem ok_terms_CheckConcept : FunOK Tryd.prog F_terms_CheckConcept ir_terms_CheckConcept := ⟨Tryd.f32, Tryd.f32.body.getD .skip, Tryd.func32, by kernel_rfl, by kernel_rfl, by kernel_rfl, of_decide_eq_true (by kernel_rfl), by kernel_rfl⟩
theorem ok_terms_fits : FunOK Tryd.prog F_terms_fits ir_terms_fits := ⟨Tryd.f55, Tryd.f55.body.getD .skip, Tryd.func55, by kernel_rfl, by kernel_rfl, by kernel_rfl, of_decide_eq_true (by kernel_rfl), by kernel_rfl⟩
theorem ok_terms_walk : FunOK Tryd.prog F_terms_walk ir_terms_walk := ⟨Tryd.f53, Tryd.f53.body.getD .skip, Tryd.func53, by kernel_rfl, by kernel_rfl, by kernel_rfl, of_decide_eq_true (by kernel_rfl), by kernel_rfl⟩
theorem ok_terms_walk_1 : FunOK Tryd.prog F_terms_walk_1 ir_terms_walk_1 := ⟨Tryd.f90, Tryd.f90.body.getD .skip, Tryd.func90, by kernel_rfl, by kernel_rfl, by kernel_rfl, of_decide_eq_true (by kernel_rfl), by kernel_rfl⟩
theorem ok_terms_visit : FunOK Tryd.prog F_terms_visit ir_terms_visit := ⟨Tryd.f91, Tryd.f91.body.getD .skip, Tryd.func91, by kernel_rfl, by kernel_rfl, by kernel_rfl, of_decide_eq_true (by kernel_rfl), by kernel_rfl⟩
theorem ok_terms_checkFields : FunOK Tryd.prog F_terms_checkFields ir_terms_checkFields := ⟨Tryd.f56, Tryd.f56.body.getD .skip, Tryd.func56, by kernel_rfl, by kernel_rfl, by kernel_rfl, of_decide_eq_true (by kernel_rfl), by kernel_rfl⟩
theorem ok_terms_isBare : FunOK Tryd.prog F_terms_isBare ir_terms_isBare := ⟨Tryd.f89, Tryd.f89.body.getD .skip, Tryd.func89, by kernel_rfl, by kernel_rfl, by kernel_rfl, of_decide_eq_true (by kernel_rfl), by kernel_rfl⟩
theorem ok_slices_ContainsFunc_api_Concept_api_Concept : FunOK Tryd.prog F_slices_ContainsFunc_api_Concept_api_Concept ir_slices_ContainsFunc_api_Concept_api_Concept := ⟨Tryd.f105, Tryd.f105.body.getD .skip, Tryd.func105, by kernel_rfl, by kernel_rfl, by kernel_rfl, of_decide_eq_true (by kernel_rfl), by kernel_rfl⟩
theorem ok_slices_IndexFunc_api_Concept_api_Concept : FunOK Tryd.prog F_slices_IndexFunc_api_Concept_api_Concept ir_slices_IndexFunc_api_Concept_api_Concept := ⟨Tryd.f124, Tryd.f124.body.getD .skip, Tryd.func124, by kernel_rfl, by kernel_rfl, by kernel_rfl, of_decide_eq_true (by kernel_rfl), by kernel_rfl⟩
theorem ok_roles_steps : FunOK Tryd.prog F_roles_steps ir_roles_steps := ⟨Tryd.f49, Tryd.f49.body.getD .skip, Tryd.func49, by kernel_rfl, by kernel_rfl, by kernel_rfl, of_decide_eq_true (by kernel_rfl), by kernel_rfl⟩
theorem ok_roles_steps_1 : FunOK Tryd.prog F_roles_steps_1 ir_roles_steps_1 := ⟨Tryd.f82, Tryd.f82.body.getD .skip, Tryd.func82, by kernel_rfl, by kernel_rfl, by kernel_rfl, of_decide_eq_true (by kernel_rfl), by kernel_rfl⟩
theorem ok_roles_exempt : FunOK Tryd.prog F_roles_exempt ir_roles_exempt := ⟨Tryd.f83, Tryd.f83.body.getD .skip, Tryd.func83, by kernel_rfl, by kernel_rfl, by kernel_rfl, of_decide_eq_true (by kernel_rfl), by kernel_rfl⟩
theorem ok_roles_newGraph : FunOK Tryd.prog F_roles_newGraph ir_roles_newGraph := ⟨Tryd.f48, Tryd.f48.body.getD .skip, Tryd.func48, by kernel_rfl, by kernel_rfl, by kernel_rfl, of_decide_eq_true (by kernel_rfl), by kernel_rfl⟩
theorem ok_slices_BinarySearch_string_string : FunOK Tryd.prog F_slices_BinarySearch_string_string ir_slices_BinarySearch_string_string := ⟨Tryd.f81, Tryd.f81.body.getD .skip, Tryd.func81, by kernel_rfl, by kernel_rfl, by kernel_rfl, of_decide_eq_true (by kernel_rfl), by kernel_rfl⟩
theorem ok_cmp_Less_string : FunOK Tryd.prog F_cmp_Less_string ir_cmp_Less_string := ⟨Tryd.f102, Tryd.f102.body.getD .skip, Tryd.func102, by kernel_rfl, by kernel_rfl, by kernel_rfl, of_decide_eq_true (by kernel_rfl), by kernel_rfl⟩
theorem ok_cmp_isNaN_string : FunOK Tryd.prog F_cmp_isNaN_string ir_cmp_isNaN_string := ⟨Tryd.f123, Tryd.f123.body.getD .skip, Tryd.func123, by kernel_rfl, by kernel_rfl, by kernel_rfl, of_decide_eq_true (by kernel_rfl), by kernel_rfl⟩
theorem ok_slices_isNaN_string : FunOK Tryd.prog F_slices_isNaN_string ir_slices_isNaN_string := ⟨Tryd.f103, Tryd.f103.body.getD .skip, Tryd.func103, by kernel_rfl, by kernel_rfl, by kernel_rfl, of_decide_eq_true (by kernel_rfl), by kernel_rfl⟩
theorem ok_roles_graph_circle : FunOK Tryd.prog F_roles_graph_circle ir_roles_graph_circle := ⟨Tryd.f50, Tryd.f50.body.getD .skip, Tryd.func50, by kernel_rfl, by kernel_rfl, by kernel_rfl, of_decide_eq_true (by kernel_rfl), by kernel_rfl⟩
theorem ok_slices_Reverse_int_int : FunOK Tryd.prog F_slices_Reverse_int_int ir_slices_Reverse_int_int := ⟨Tryd.f84, Tryd.f84.body.getD .skip, Tryd.func84, by kernel_rfl, by kernel_rfl, by kernel_rfl, of_decide_eq_true (by kernel_rfl), by kernel_rfl⟩
theorem ok_ref06_Same : FunOK Tryd.prog F_ref06_Same ir_ref06_Same := ⟨Tryd.f21, Tryd.f21.body.getD .skip, Tryd.func21, by kernel_rfl, by kernel_rfl, by kernel_rfl, of_decide_eq_true (by kernel_rfl), by kernel_rfl⟩
theorem ok_roles_Above : FunOK Tryd.prog F_roles_Above ir_roles_Above := ⟨Tryd.f15, Tryd.f15.body.getD .skip, Tryd.func15, by kernel_rfl, by kernel_rfl, by kernel_rfl, of_decide_eq_true (by kernel_rfl), by kernel_rfl⟩
theorem ok_roles_checkAll : FunOK Tryd.prog F_roles_checkAll ir_roles_checkAll := ⟨Tryd.f43, Tryd.f43.body.getD .skip, Tryd.func43, by kernel_rfl, by kernel_rfl, by kernel_rfl, of_decide_eq_true (by kernel_rfl), by kernel_rfl⟩
theorem ok_roles_closure : FunOK Tryd.prog F_roles_closure ir_roles_closure := ⟨Tryd.f46, Tryd.f46.body.getD .skip, Tryd.func46, by kernel_rfl, by kernel_rfl, by kernel_rfl, of_decide_eq_true (by kernel_rfl), by kernel_rfl⟩
theorem ok_roles_Simple : FunOK Tryd.prog F_roles_Simple ir_roles_Simple := ⟨Tryd.f17, Tryd.f17.body.getD .skip, Tryd.func17, by kernel_rfl, by kernel_rfl, by kernel_rfl, of_decide_eq_true (by kernel_rfl), by kernel_rfl⟩
theorem ok_roles_Word : FunOK Tryd.prog F_roles_Word ir_roles_Word := ⟨Tryd.f20, Tryd.f20.body.getD .skip, Tryd.func20, by kernel_rfl, by kernel_rfl, by kernel_rfl, of_decide_eq_true (by kernel_rfl), by kernel_rfl⟩
theorem ok_roles_recognize : FunOK Tryd.prog F_roles_recognize ir_roles_recognize := ⟨Tryd.f51, Tryd.f51.body.getD .skip, Tryd.func51, by kernel_rfl, by kernel_rfl, by kernel_rfl, of_decide_eq_true (by kernel_rfl), by kernel_rfl⟩
theorem ok_roles_newGrammar : FunOK Tryd.prog F_roles_newGrammar ir_roles_newGrammar := ⟨Tryd.f85, Tryd.f85.body.getD .skip, Tryd.func85, by kernel_rfl, by kernel_rfl, by kernel_rfl, of_decide_eq_true (by kernel_rfl), by kernel_rfl⟩
theorem ok_roles_recognize_1 : FunOK Tryd.prog F_roles_recognize_1 ir_roles_recognize_1 := ⟨Tryd.f86, Tryd.f86.body.getD .skip, Tryd.func86, by kernel_rfl, by kernel_rfl, by kernel_rfl, of_decide_eq_true (by kernel_rfl), by kernel_rfl⟩
theorem ok_roles_Compose : FunOK Tryd.prog F_roles_Compose ir_roles_Compose := ⟨Tryd.f41, Tryd.f41.body.getD .skip, Tryd.func41, by kernel_rfl, by kernel_rfl, by kernel_rfl, of_decide_eq_true (by kernel_rfl), by kernel_rfl⟩
theorem ok_law06_few : FunOK Tryd.prog F_law06_few ir_law06_few := ⟨Tryd.f14, Tryd.f14.body.getD .skip, Tryd.func14, by kernel_rfl, by kernel_rfl, by kernel_rfl, of_decide_eq_true (by kernel_rfl), by kernel_rfl⟩
theorem ok_ref02_FewAxioms : FunOK Tryd.prog F_ref02_FewAxioms ir_ref02_FewAxioms := ⟨Tryd.f42, Tryd.f42.body.getD .skip, Tryd.func42, by kernel_rfl, by kernel_rfl, by kernel_rfl, of_decide_eq_true (by kernel_rfl), by kernel_rfl⟩
theorem ok_ref02_FewAxiom : FunOK Tryd.prog F_ref02_FewAxiom ir_ref02_FewAxiom := ⟨Tryd.f75, Tryd.f75.body.getD .skip, Tryd.func75, by kernel_rfl, by kernel_rfl, by kernel_rfl, of_decide_eq_true (by kernel_rfl), by kernel_rfl⟩
theorem ok_ref02_Few : FunOK Tryd.prog F_ref02_Few ir_ref02_Few := ⟨Tryd.f10, Tryd.f10.body.getD .skip, Tryd.func10, by kernel_rfl, by kernel_rfl, by kernel_rfl, of_decide_eq_true (by kernel_rfl), by kernel_rfl⟩
theorem ok_ref02_count : FunOK Tryd.prog F_ref02_count ir_ref02_count := ⟨Tryd.f31, Tryd.f31.body.getD .skip, Tryd.func31, by kernel_rfl, by kernel_rfl, by kernel_rfl, of_decide_eq_true (by kernel_rfl), by kernel_rfl⟩
theorem ok_law06_has : FunOK Tryd.prog F_law06_has ir_law06_has := ⟨Tryd.f16, Tryd.f16.body.getD .skip, Tryd.func16, by kernel_rfl, by kernel_rfl, by kernel_rfl, of_decide_eq_true (by kernel_rfl), by kernel_rfl⟩
theorem all_ok : ∀ p ∈ fnList, FunOK Tryd.prog p.1 p.2 := by
  simp only [fnList, List.forall_mem_cons]
  exact ⟨ok_law06_RolesOrder, ok_law06_sane, ok_law06_chain, ok_law06_sub, ok_law06_circles, ok_roles_Check, ok_roles_check, ok_terms_CheckAxiom, ok_terms_isShaped, ok_terms_isEmpty, ok_terms_isNamed, ok_terms_isPlain, ok_strings_Cut, ok_internal_stringslite_Cut, ok_terms_isWord, ok_terms_isLetter, ok_terms_isTail, ok_lexis_Keyword, ok_terms_CheckName, ok_terms_isReserved, ok_terms_CheckConcept, ok_terms_fits, ok_terms_walk, ok_terms_walk_1, ok_terms_visit, ok_terms_checkFields, ok_terms_isBare, ok_slices_ContainsFunc_api_Concept_api_Concept, ok_slices_IndexFunc_api_Concept_api_Concept, ok_roles_steps, ok_roles_steps_1, ok_roles_exempt, ok_roles_newGraph, ok_slices_BinarySearch_string_string, ok_cmp_Less_string, ok_cmp_isNaN_string, ok_slices_isNaN_string, ok_roles_graph_circle, ok_slices_Reverse_int_int, ok_ref06_Same, ok_roles_Above, ok_roles_checkAll, ok_roles_closure, ok_roles_Simple, ok_roles_Word, ok_roles_recognize, ok_roles_newGrammar, ok_roles_recognize_1, ok_roles_Compose, ok_law06_few, ok_ref02_FewAxioms, ok_ref02_FewAxiom, ok_ref02_Few, ok_ref02_count, ok_law06_has, fun p hp => by cases hp⟩
theorem mixed : Tryd.prog.follows .mixedOrders = true := by kernel_rfl
end Go.Ai.Z
