/-
 Each function in the small language is a faithful copy: written by program.
-/
import Derived.Test.YtpanocallohgdaaDoorAiRn5
import Derived.Test.YtpanocallohgdaaDoorAiC2
import Derived.Test.YtpanocallohgdaaDoorChecked
set_option maxRecDepth 100000
set_option linter.unusedSimpArgs false
set_option linter.unusedVariables false
namespace Go.Ai.Z
open Go.Proofs
set_option maxRecDepth 100000
theorem ok_law06_RolesCircle : FunOK Tryd.prog F_law06_RolesCircle ir_law06_RolesCircle := ⟨Tryd.f3, Tryd.f3.body.getD .skip, Tryd.func3, by kernel_rfl, by kernel_rfl, by kernel_rfl, of_decide_eq_true (by kernel_rfl), by kernel_rfl⟩
theorem ok_law06_sane : FunOK Tryd.prog F_law06_sane ir_law06_sane := ⟨Tryd.f4, Tryd.f4.body.getD .skip, Tryd.func4, by kernel_rfl, by kernel_rfl, by kernel_rfl, of_decide_eq_true (by kernel_rfl), by kernel_rfl⟩
theorem ok_law06_chain : FunOK Tryd.prog F_law06_chain ir_law06_chain := ⟨Tryd.f11, Tryd.f11.body.getD .skip, Tryd.func11, by kernel_rfl, by kernel_rfl, by kernel_rfl, of_decide_eq_true (by kernel_rfl), by kernel_rfl⟩
theorem ok_law06_sub : FunOK Tryd.prog F_law06_sub ir_law06_sub := ⟨Tryd.f12, Tryd.f12.body.getD .skip, Tryd.func12, by kernel_rfl, by kernel_rfl, by kernel_rfl, of_decide_eq_true (by kernel_rfl), by kernel_rfl⟩
theorem ok_law06_circles : FunOK Tryd.prog F_law06_circles ir_law06_circles := ⟨Tryd.f10, Tryd.f10.body.getD .skip, Tryd.func10, by kernel_rfl, by kernel_rfl, by kernel_rfl, of_decide_eq_true (by kernel_rfl), by kernel_rfl⟩
theorem ok_roles_Check : FunOK Tryd.prog F_roles_Check ir_roles_Check := ⟨Tryd.f6, Tryd.f6.body.getD .skip, Tryd.func6, by kernel_rfl, by kernel_rfl, by kernel_rfl, of_decide_eq_true (by kernel_rfl), by kernel_rfl⟩
theorem ok_roles_check : FunOK Tryd.prog F_roles_check ir_roles_check := ⟨Tryd.f19, Tryd.f19.body.getD .skip, Tryd.func19, by kernel_rfl, by kernel_rfl, by kernel_rfl, of_decide_eq_true (by kernel_rfl), by kernel_rfl⟩
theorem ok_terms_CheckAxiom : FunOK Tryd.prog F_terms_CheckAxiom ir_terms_CheckAxiom := ⟨Tryd.f23, Tryd.f23.body.getD .skip, Tryd.func23, by kernel_rfl, by kernel_rfl, by kernel_rfl, of_decide_eq_true (by kernel_rfl), by kernel_rfl⟩
theorem ok_terms_isShaped : FunOK Tryd.prog F_terms_isShaped ir_terms_isShaped := ⟨Tryd.f36, Tryd.f36.body.getD .skip, Tryd.func36, by kernel_rfl, by kernel_rfl, by kernel_rfl, of_decide_eq_true (by kernel_rfl), by kernel_rfl⟩
theorem ok_terms_isEmpty : FunOK Tryd.prog F_terms_isEmpty ir_terms_isEmpty := ⟨Tryd.f52, Tryd.f52.body.getD .skip, Tryd.func52, by kernel_rfl, by kernel_rfl, by kernel_rfl, of_decide_eq_true (by kernel_rfl), by kernel_rfl⟩
theorem ok_terms_isNamed : FunOK Tryd.prog F_terms_isNamed ir_terms_isNamed := ⟨Tryd.f37, Tryd.f37.body.getD .skip, Tryd.func37, by kernel_rfl, by kernel_rfl, by kernel_rfl, of_decide_eq_true (by kernel_rfl), by kernel_rfl⟩
theorem ok_terms_isPlain : FunOK Tryd.prog F_terms_isPlain ir_terms_isPlain := ⟨Tryd.f53, Tryd.f53.body.getD .skip, Tryd.func53, by kernel_rfl, by kernel_rfl, by kernel_rfl, of_decide_eq_true (by kernel_rfl), by kernel_rfl⟩
theorem ok_strings_Cut : FunOK Tryd.prog F_strings_Cut ir_strings_Cut := ⟨Tryd.f64, Tryd.f64.body.getD .skip, Tryd.func64, by kernel_rfl, by kernel_rfl, by kernel_rfl, of_decide_eq_true (by kernel_rfl), by kernel_rfl⟩
theorem ok_internal_stringslite_Cut : FunOK Tryd.prog F_internal_stringslite_Cut ir_internal_stringslite_Cut := ⟨Tryd.f81, Tryd.f81.body.getD .skip, Tryd.func81, by kernel_rfl, by kernel_rfl, by kernel_rfl, of_decide_eq_true (by kernel_rfl), by kernel_rfl⟩
theorem ok_terms_isWord : FunOK Tryd.prog F_terms_isWord ir_terms_isWord := ⟨Tryd.f65, Tryd.f65.body.getD .skip, Tryd.func65, by kernel_rfl, by kernel_rfl, by kernel_rfl, of_decide_eq_true (by kernel_rfl), by kernel_rfl⟩
theorem ok_terms_isLetter : FunOK Tryd.prog F_terms_isLetter ir_terms_isLetter := ⟨Tryd.f82, Tryd.f82.body.getD .skip, Tryd.func82, by kernel_rfl, by kernel_rfl, by kernel_rfl, of_decide_eq_true (by kernel_rfl), by kernel_rfl⟩
theorem ok_terms_isTail : FunOK Tryd.prog F_terms_isTail ir_terms_isTail := ⟨Tryd.f77, Tryd.f77.body.getD .skip, Tryd.func77, by kernel_rfl, by kernel_rfl, by kernel_rfl, of_decide_eq_true (by kernel_rfl), by kernel_rfl⟩
theorem ok_lexis_Keyword : FunOK Tryd.prog F_lexis_Keyword ir_lexis_Keyword := ⟨Tryd.f83, Tryd.f83.body.getD .skip, Tryd.func83, by kernel_rfl, by kernel_rfl, by kernel_rfl, of_decide_eq_true (by kernel_rfl), by kernel_rfl⟩
theorem ok_terms_CheckName : FunOK Tryd.prog F_terms_CheckName ir_terms_CheckName := ⟨Tryd.f45, Tryd.f45.body.getD .skip, Tryd.func45, by kernel_rfl, by kernel_rfl, by kernel_rfl, of_decide_eq_true (by kernel_rfl), by kernel_rfl⟩
theorem ok_terms_isReserved : FunOK Tryd.prog F_terms_isReserved ir_terms_isReserved := ⟨Tryd.f60, Tryd.f60.body.getD .skip, Tryd.func60, by kernel_rfl, by kernel_rfl, by kernel_rfl, of_decide_eq_true (by kernel_rfl), by kernel_rfl⟩
theorem ok_terms_CheckConcept : FunOK Tryd.prog F_terms_CheckConcept ir_terms_CheckConcept := ⟨Tryd.f38, Tryd.f38.body.getD .skip, Tryd.func38, by kernel_rfl, by kernel_rfl, by kernel_rfl, of_decide_eq_true (by kernel_rfl), by kernel_rfl⟩
theorem ok_terms_fits : FunOK Tryd.prog F_terms_fits ir_terms_fits := ⟨Tryd.f54, Tryd.f54.body.getD .skip, Tryd.func54, by kernel_rfl, by kernel_rfl, by kernel_rfl, of_decide_eq_true (by kernel_rfl), by kernel_rfl⟩
theorem ok_terms_walk : FunOK Tryd.prog F_terms_walk ir_terms_walk := ⟨Tryd.f24, Tryd.f24.body.getD .skip, Tryd.func24, by kernel_rfl, by kernel_rfl, by kernel_rfl, of_decide_eq_true (by kernel_rfl), by kernel_rfl⟩
theorem ok_terms_walk_1 : FunOK Tryd.prog F_terms_walk_1 ir_terms_walk_1 := ⟨Tryd.f40, Tryd.f40.body.getD .skip, Tryd.func40, by kernel_rfl, by kernel_rfl, by kernel_rfl, of_decide_eq_true (by kernel_rfl), by kernel_rfl⟩
theorem ok_terms_visit : FunOK Tryd.prog F_terms_visit ir_terms_visit := ⟨Tryd.f41, Tryd.f41.body.getD .skip, Tryd.func41, by kernel_rfl, by kernel_rfl, by kernel_rfl, of_decide_eq_true (by kernel_rfl), by kernel_rfl⟩
theorem ok_terms_checkFields : FunOK Tryd.prog F_terms_checkFields ir_terms_checkFields := ⟨Tryd.f55, Tryd.f55.body.getD .skip, Tryd.func55, by kernel_rfl, by kernel_rfl, by kernel_rfl, of_decide_eq_true (by kernel_rfl), by kernel_rfl⟩
theorem ok_terms_isBare : FunOK Tryd.prog F_terms_isBare ir_terms_isBare := ⟨Tryd.f39, Tryd.f39.body.getD .skip, Tryd.func39, by kernel_rfl, by kernel_rfl, by kernel_rfl, of_decide_eq_true (by kernel_rfl), by kernel_rfl⟩
theorem ok_slices_ContainsFunc_api_Concept_api_Concept : FunOK Tryd.prog F_slices_ContainsFunc_api_Concept_api_Concept ir_slices_ContainsFunc_api_Concept_api_Concept := ⟨Tryd.f56, Tryd.f56.body.getD .skip, Tryd.func56, by kernel_rfl, by kernel_rfl, by kernel_rfl, of_decide_eq_true (by kernel_rfl), by kernel_rfl⟩
theorem ok_slices_IndexFunc_api_Concept_api_Concept : FunOK Tryd.prog F_slices_IndexFunc_api_Concept_api_Concept ir_slices_IndexFunc_api_Concept_api_Concept := ⟨Tryd.f66, Tryd.f66.body.getD .skip, Tryd.func66, by kernel_rfl, by kernel_rfl, by kernel_rfl, of_decide_eq_true (by kernel_rfl), by kernel_rfl⟩
theorem ok_roles_steps : FunOK Tryd.prog F_roles_steps ir_roles_steps := ⟨Tryd.f21, Tryd.f21.body.getD .skip, Tryd.func21, by kernel_rfl, by kernel_rfl, by kernel_rfl, of_decide_eq_true (by kernel_rfl), by kernel_rfl⟩
theorem ok_roles_steps_1 : FunOK Tryd.prog F_roles_steps_1 ir_roles_steps_1 := ⟨Tryd.f33, Tryd.f33.body.getD .skip, Tryd.func33, by kernel_rfl, by kernel_rfl, by kernel_rfl, of_decide_eq_true (by kernel_rfl), by kernel_rfl⟩
theorem ok_roles_exempt : FunOK Tryd.prog F_roles_exempt ir_roles_exempt := ⟨Tryd.f34, Tryd.f34.body.getD .skip, Tryd.func34, by kernel_rfl, by kernel_rfl, by kernel_rfl, of_decide_eq_true (by kernel_rfl), by kernel_rfl⟩
theorem ok_roles_newGraph : FunOK Tryd.prog F_roles_newGraph ir_roles_newGraph := ⟨Tryd.f20, Tryd.f20.body.getD .skip, Tryd.func20, by kernel_rfl, by kernel_rfl, by kernel_rfl, of_decide_eq_true (by kernel_rfl), by kernel_rfl⟩
theorem ok_slices_BinarySearch_string_string : FunOK Tryd.prog F_slices_BinarySearch_string_string ir_slices_BinarySearch_string_string := ⟨Tryd.f32, Tryd.f32.body.getD .skip, Tryd.func32, by kernel_rfl, by kernel_rfl, by kernel_rfl, of_decide_eq_true (by kernel_rfl), by kernel_rfl⟩
theorem ok_cmp_Less_string : FunOK Tryd.prog F_cmp_Less_string ir_cmp_Less_string := ⟨Tryd.f50, Tryd.f50.body.getD .skip, Tryd.func50, by kernel_rfl, by kernel_rfl, by kernel_rfl, of_decide_eq_true (by kernel_rfl), by kernel_rfl⟩
theorem ok_cmp_isNaN_string : FunOK Tryd.prog F_cmp_isNaN_string ir_cmp_isNaN_string := ⟨Tryd.f63, Tryd.f63.body.getD .skip, Tryd.func63, by kernel_rfl, by kernel_rfl, by kernel_rfl, of_decide_eq_true (by kernel_rfl), by kernel_rfl⟩
theorem ok_slices_isNaN_string : FunOK Tryd.prog F_slices_isNaN_string ir_slices_isNaN_string := ⟨Tryd.f51, Tryd.f51.body.getD .skip, Tryd.func51, by kernel_rfl, by kernel_rfl, by kernel_rfl, of_decide_eq_true (by kernel_rfl), by kernel_rfl⟩
theorem ok_roles_graph_circle : FunOK Tryd.prog F_roles_graph_circle ir_roles_graph_circle := ⟨Tryd.f22, Tryd.f22.body.getD .skip, Tryd.func22, by kernel_rfl, by kernel_rfl, by kernel_rfl, of_decide_eq_true (by kernel_rfl), by kernel_rfl⟩
theorem ok_slices_Reverse_int_int : FunOK Tryd.prog F_slices_Reverse_int_int ir_slices_Reverse_int_int := ⟨Tryd.f35, Tryd.f35.body.getD .skip, Tryd.func35, by kernel_rfl, by kernel_rfl, by kernel_rfl, of_decide_eq_true (by kernel_rfl), by kernel_rfl⟩
theorem ok_ref06_Same : FunOK Tryd.prog F_ref06_Same ir_ref06_Same := ⟨Tryd.f15, Tryd.f15.body.getD .skip, Tryd.func15, by kernel_rfl, by kernel_rfl, by kernel_rfl, of_decide_eq_true (by kernel_rfl), by kernel_rfl⟩
theorem ok_roles_Above : FunOK Tryd.prog F_roles_Above ir_roles_Above := ⟨Tryd.f13, Tryd.f13.body.getD .skip, Tryd.func13, by kernel_rfl, by kernel_rfl, by kernel_rfl, of_decide_eq_true (by kernel_rfl), by kernel_rfl⟩
theorem ok_roles_checkAll : FunOK Tryd.prog F_roles_checkAll ir_roles_checkAll := ⟨Tryd.f27, Tryd.f27.body.getD .skip, Tryd.func27, by kernel_rfl, by kernel_rfl, by kernel_rfl, of_decide_eq_true (by kernel_rfl), by kernel_rfl⟩
theorem ok_roles_closure : FunOK Tryd.prog F_roles_closure ir_roles_closure := ⟨Tryd.f28, Tryd.f28.body.getD .skip, Tryd.func28, by kernel_rfl, by kernel_rfl, by kernel_rfl, of_decide_eq_true (by kernel_rfl), by kernel_rfl⟩
theorem ok_roles_Simple : FunOK Tryd.prog F_roles_Simple ir_roles_Simple := ⟨Tryd.f14, Tryd.f14.body.getD .skip, Tryd.func14, by kernel_rfl, by kernel_rfl, by kernel_rfl, of_decide_eq_true (by kernel_rfl), by kernel_rfl⟩
theorem ok_roles_Word : FunOK Tryd.prog F_roles_Word ir_roles_Word := ⟨Tryd.f16, Tryd.f16.body.getD .skip, Tryd.func16, by kernel_rfl, by kernel_rfl, by kernel_rfl, of_decide_eq_true (by kernel_rfl), by kernel_rfl⟩
theorem ok_roles_recognize : FunOK Tryd.prog F_roles_recognize ir_roles_recognize := ⟨Tryd.f29, Tryd.f29.body.getD .skip, Tryd.func29, by kernel_rfl, by kernel_rfl, by kernel_rfl, of_decide_eq_true (by kernel_rfl), by kernel_rfl⟩
theorem ok_roles_newGrammar : FunOK Tryd.prog F_roles_newGrammar ir_roles_newGrammar := ⟨Tryd.f46, Tryd.f46.body.getD .skip, Tryd.func46, by kernel_rfl, by kernel_rfl, by kernel_rfl, of_decide_eq_true (by kernel_rfl), by kernel_rfl⟩
theorem ok_roles_recognize_1 : FunOK Tryd.prog F_roles_recognize_1 ir_roles_recognize_1 := ⟨Tryd.f47, Tryd.f47.body.getD .skip, Tryd.func47, by kernel_rfl, by kernel_rfl, by kernel_rfl, of_decide_eq_true (by kernel_rfl), by kernel_rfl⟩
theorem ok_roles_Compose : FunOK Tryd.prog F_roles_Compose ir_roles_Compose := ⟨Tryd.f17, Tryd.f17.body.getD .skip, Tryd.func17, by kernel_rfl, by kernel_rfl, by kernel_rfl, of_decide_eq_true (by kernel_rfl), by kernel_rfl⟩
theorem ok_law06_few : FunOK Tryd.prog F_law06_few ir_law06_few := ⟨Tryd.f5, Tryd.f5.body.getD .skip, Tryd.func5, by kernel_rfl, by kernel_rfl, by kernel_rfl, of_decide_eq_true (by kernel_rfl), by kernel_rfl⟩
theorem ok_ref02_FewAxioms : FunOK Tryd.prog F_ref02_FewAxioms ir_ref02_FewAxioms := ⟨Tryd.f18, Tryd.f18.body.getD .skip, Tryd.func18, by kernel_rfl, by kernel_rfl, by kernel_rfl, of_decide_eq_true (by kernel_rfl), by kernel_rfl⟩
theorem ok_ref02_FewAxiom : FunOK Tryd.prog F_ref02_FewAxiom ir_ref02_FewAxiom := ⟨Tryd.f30, Tryd.f30.body.getD .skip, Tryd.func30, by kernel_rfl, by kernel_rfl, by kernel_rfl, of_decide_eq_true (by kernel_rfl), by kernel_rfl⟩
theorem ok_ref02_Few : FunOK Tryd.prog F_ref02_Few ir_ref02_Few := ⟨Tryd.f48, Tryd.f48.body.getD .skip, Tryd.func48, by kernel_rfl, by kernel_rfl, by kernel_rfl, of_decide_eq_true (by kernel_rfl), by kernel_rfl⟩
theorem ok_ref02_count : FunOK Tryd.prog F_ref02_count ir_ref02_count := ⟨Tryd.f62, Tryd.f62.body.getD .skip, Tryd.func62, by kernel_rfl, by kernel_rfl, by kernel_rfl, of_decide_eq_true (by kernel_rfl), by kernel_rfl⟩
theorem ok_law06_leads : FunOK Tryd.prog F_law06_leads ir_law06_leads := ⟨Tryd.f7, Tryd.f7.body.getD .skip, Tryd.func7, by kernel_rfl, by kernel_rfl, by kernel_rfl, of_decide_eq_true (by kernel_rfl), by kernel_rfl⟩
theorem ok_law06_has : FunOK Tryd.prog F_law06_has ir_law06_has := ⟨Tryd.f8, Tryd.f8.body.getD .skip, Tryd.func8, by kernel_rfl, by kernel_rfl, by kernel_rfl, of_decide_eq_true (by kernel_rfl), by kernel_rfl⟩
theorem ok_terms_Vocabulary : FunOK Tryd.prog F_terms_Vocabulary ir_terms_Vocabulary := ⟨Tryd.f9, Tryd.f9.body.getD .skip, Tryd.func9, by kernel_rfl, by kernel_rfl, by kernel_rfl, of_decide_eq_true (by kernel_rfl), by kernel_rfl⟩
theorem all_ok : ∀ p ∈ fnList, FunOK Tryd.prog p.1 p.2 := by
 simp only [fnList, List.forall_mem_cons]
 exact ⟨ok_law06_RolesCircle, ok_law06_sane, ok_law06_chain, ok_law06_sub, ok_law06_circles, ok_roles_Check, ok_roles_check, ok_terms_CheckAxiom, ok_terms_isShaped, ok_terms_isEmpty, ok_terms_isNamed, ok_terms_isPlain, ok_strings_Cut, ok_internal_stringslite_Cut, ok_terms_isWord, ok_terms_isLetter, ok_terms_isTail, ok_lexis_Keyword, ok_terms_CheckName, ok_terms_isReserved, ok_terms_CheckConcept, ok_terms_fits, ok_terms_walk, ok_terms_walk_1, ok_terms_visit, ok_terms_checkFields, ok_terms_isBare, ok_slices_ContainsFunc_api_Concept_api_Concept, ok_slices_IndexFunc_api_Concept_api_Concept, ok_roles_steps, ok_roles_steps_1, ok_roles_exempt, ok_roles_newGraph, ok_slices_BinarySearch_string_string, ok_cmp_Less_string, ok_cmp_isNaN_string, ok_slices_isNaN_string, ok_roles_graph_circle, ok_slices_Reverse_int_int, ok_ref06_Same, ok_roles_Above, ok_roles_checkAll, ok_roles_closure, ok_roles_Simple, ok_roles_Word, ok_roles_recognize, ok_roles_newGrammar, ok_roles_recognize_1, ok_roles_Compose, ok_law06_few, ok_ref02_FewAxioms, ok_ref02_FewAxiom, ok_ref02_Few, ok_ref02_count, ok_law06_leads, ok_law06_has, ok_terms_Vocabulary, fun p hp => by cases hp⟩
theorem mixed : Tryd.prog.follows .mixedOrders = true := by kernel_rfl
end Go.Ai.Z
