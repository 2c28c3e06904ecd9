/-
 Each function in the small language is a faithful copy: written by program.
-/
import Derived.Test.YtpnlnnfcaeednaaGreatDoorAiRn5
import Derived.Test.YtpnlnnfcaeednaaGreatDoorAiC2
import Derived.Test.YtpnlnnfcaeednaaGreatDoorChecked
set_option maxRecDepth 100000
set_option linter.unusedSimpArgs false
set_option linter.unusedVariables false
set_option linter.unusedSectionVars false
namespace Go.Ai.Z
open Go.Proofs
set_option maxRecDepth 100000
def okB (P : Program) (rf : Func) (fn : AFun) : Bool := !(rf.name == "runtime.NumGoroutine") && (match rf.body with | some c => chkC P rf.ntmps c fn.code && decide (fn.np ≤ rf.ntmps) && chkRes P rf.results.toList fn.res | none => false)
theorem okF {P : Program} {f : FuncId} {rf : Func} {fn : AFun} (h : P.funcs[f]? = some rf) (h2 : okB P rf fn = true) : FunOK P f fn := by
 unfold okB at h2
 cases hb : rf.body with
 | none => rw [hb] at h2; simp at h2
 | some c =>
  rw [hb] at h2
  simp only [Bool.and_eq_true, Bool.not_eq_true', decide_eq_true_eq] at h2
  obtain ⟨h3, ⟨h4, h5⟩, h6⟩ := h2
  exact ⟨rf, c, h, h3, hb, h4, h5, h6⟩
theorem ok_law03_SyntaxConjunction : FunOK Tryz.prog F_law03_SyntaxConjunction ir_law03_SyntaxConjunction := okF Tryz.func7 (by kernel_rfl)
theorem ok_law03_sane : FunOK Tryz.prog F_law03_sane ir_law03_sane := okF Tryz.func29 (by kernel_rfl)
theorem ok_syntax_Document : FunOK Tryz.prog F_syntax_Document ir_syntax_Document := okF Tryz.func28 (by kernel_rfl)
theorem ok_lexis_Tokens : FunOK Tryz.prog F_lexis_Tokens ir_lexis_Tokens := okF Tryz.func31 (by kernel_rfl)
theorem ok_lexis_classes : FunOK Tryz.prog F_lexis_classes ir_lexis_classes := okF Tryz.func71 (by kernel_rfl)
theorem ok_lexis_Tokens_1 : FunOK Tryz.prog F_lexis_Tokens_1 ir_lexis_Tokens_1 := okF Tryz.func72 (by kernel_rfl)
theorem ok_lexis_scan : FunOK Tryz.prog F_lexis_scan ir_lexis_scan := okF Tryz.func73 (by kernel_rfl)
theorem ok_lexis_run : FunOK Tryz.prog F_lexis_run ir_lexis_run := okF Tryz.func120 (by kernel_rfl)
theorem ok_lexis_integer : FunOK Tryz.prog F_lexis_integer ir_lexis_integer := okF Tryz.func121 (by kernel_rfl)
theorem ok_slices_Clone_api_Problem_api_Problem : FunOK Tryz.prog F_slices_Clone_api_Problem_api_Problem ir_slices_Clone_api_Problem_api_Problem := okF Tryz.func65 (by kernel_rfl)
theorem ok_syntax_newParser : FunOK Tryz.prog F_syntax_newParser ir_syntax_newParser := okF Tryz.func66 (by kernel_rfl)
theorem ok_syntax_parser_domain : FunOK Tryz.prog F_syntax_parser_domain ir_syntax_parser_domain := okF Tryz.func111 (by kernel_rfl)
theorem ok_syntax_parser_name : FunOK Tryz.prog F_syntax_parser_name ir_syntax_parser_name := okF Tryz.func137 (by kernel_rfl)
theorem ok_syntax_parser_atName : FunOK Tryz.prog F_syntax_parser_atName ir_syntax_parser_atName := okF Tryz.func143 (by kernel_rfl)
theorem ok_syntax_parser_token : FunOK Tryz.prog F_syntax_parser_token ir_syntax_parser_token := okF Tryz.func67 (by kernel_rfl)
theorem ok_lexis_Keyword : FunOK Tryz.prog F_lexis_Keyword ir_lexis_Keyword := okF Tryz.func153 (by kernel_rfl)
theorem ok_syntax_parser_fail : FunOK Tryz.prog F_syntax_parser_fail ir_syntax_parser_fail := okF Tryz.func136 (by kernel_rfl)
theorem ok_terms_CheckName : FunOK Tryz.prog F_terms_CheckName ir_terms_CheckName := okF Tryz.func104 (by kernel_rfl)
theorem ok_terms_isPlain : FunOK Tryz.prog F_terms_isPlain ir_terms_isPlain := okF Tryz.func93 (by kernel_rfl)
theorem ok_strings_Cut : FunOK Tryz.prog F_strings_Cut ir_strings_Cut := okF Tryz.func129 (by kernel_rfl)
theorem ok_internal_stringslite_Cut : FunOK Tryz.prog F_internal_stringslite_Cut ir_internal_stringslite_Cut := okF Tryz.func151 (by kernel_rfl)
theorem ok_terms_isWord : FunOK Tryz.prog F_terms_isWord ir_terms_isWord := okF Tryz.func130 (by kernel_rfl)
theorem ok_terms_isLetter : FunOK Tryz.prog F_terms_isLetter ir_terms_isLetter := okF Tryz.func152 (by kernel_rfl)
theorem ok_terms_isTail : FunOK Tryz.prog F_terms_isTail ir_terms_isTail := okF Tryz.func131 (by kernel_rfl)
theorem ok_terms_isReserved : FunOK Tryz.prog F_terms_isReserved ir_terms_isReserved := okF Tryz.func94 (by kernel_rfl)
theorem ok_syntax_parser_concept : FunOK Tryz.prog F_syntax_parser_concept ir_syntax_parser_concept := okF Tryz.func49 (by kernel_rfl)
theorem ok_syntax_parser_single : FunOK Tryz.prog F_syntax_parser_single ir_syntax_parser_single := okF Tryz.func99 (by kernel_rfl)
theorem ok_syntax_parser_skip : FunOK Tryz.prog F_syntax_parser_skip ir_syntax_parser_skip := okF Tryz.func100 (by kernel_rfl)
theorem ok_syntax_parser_is : FunOK Tryz.prog F_syntax_parser_is ir_syntax_parser_is := okF Tryz.func139 (by kernel_rfl)
theorem ok_syntax_parser_want : FunOK Tryz.prog F_syntax_parser_want ir_syntax_parser_want := okF Tryz.func118 (by kernel_rfl)
theorem ok_syntax_parser_number : FunOK Tryz.prog F_syntax_parser_number ir_syntax_parser_number := okF Tryz.func138 (by kernel_rfl)
theorem ok_syntax_parser_role : FunOK Tryz.prog F_syntax_parser_role ir_syntax_parser_role := okF Tryz.func112 (by kernel_rfl)
theorem ok_syntax_parser_chain : FunOK Tryz.prog F_syntax_parser_chain ir_syntax_parser_chain := okF Tryz.func113 (by kernel_rfl)
theorem ok_syntax_parser_reflexive : FunOK Tryz.prog F_syntax_parser_reflexive ir_syntax_parser_reflexive := okF Tryz.func114 (by kernel_rfl)
theorem ok_syntax_parser_typing : FunOK Tryz.prog F_syntax_parser_typing ir_syntax_parser_typing := okF Tryz.func115 (by kernel_rfl)
theorem ok_syntax_parser_link : FunOK Tryz.prog F_syntax_parser_link ir_syntax_parser_link := okF Tryz.func116 (by kernel_rfl)
theorem ok_syntax_parser_item : FunOK Tryz.prog F_syntax_parser_item ir_syntax_parser_item := okF Tryz.func68 (by kernel_rfl)
theorem ok_syntax_parser_item_1 : FunOK Tryz.prog F_syntax_parser_item_1 ir_syntax_parser_item_1 := okF Tryz.func117 (by kernel_rfl)
theorem ok_syntax_parser_axiom : FunOK Tryz.prog F_syntax_parser_axiom ir_syntax_parser_axiom := okF Tryz.func58 (by kernel_rfl)
theorem ok_syntax_parser_inclusion : FunOK Tryz.prog F_syntax_parser_inclusion ir_syntax_parser_inclusion := okF Tryz.func106 (by kernel_rfl)
theorem ok_terms_TidyAxiom : FunOK Tryz.prog F_terms_TidyAxiom ir_terms_TidyAxiom := okF Tryz.func23 (by kernel_rfl)
theorem ok_terms_CheckAxiom : FunOK Tryz.prog F_terms_CheckAxiom ir_terms_CheckAxiom := okF Tryz.func22 (by kernel_rfl)
theorem ok_terms_isShaped : FunOK Tryz.prog F_terms_isShaped ir_terms_isShaped := okF Tryz.func54 (by kernel_rfl)
theorem ok_terms_isEmpty : FunOK Tryz.prog F_terms_isEmpty ir_terms_isEmpty := okF Tryz.func103 (by kernel_rfl)
theorem ok_terms_isNamed : FunOK Tryz.prog F_terms_isNamed ir_terms_isNamed := okF Tryz.func55 (by kernel_rfl)
theorem ok_terms_CheckConcept : FunOK Tryz.prog F_terms_CheckConcept ir_terms_CheckConcept := okF Tryz.func15 (by kernel_rfl)
theorem ok_terms_fits : FunOK Tryz.prog F_terms_fits ir_terms_fits := okF Tryz.func43 (by kernel_rfl)
theorem ok_terms_walk : FunOK Tryz.prog F_terms_walk ir_terms_walk := okF Tryz.func44 (by kernel_rfl)
theorem ok_terms_walk_1 : FunOK Tryz.prog F_terms_walk_1 ir_terms_walk_1 := okF Tryz.func91 (by kernel_rfl)
theorem ok_terms_visit : FunOK Tryz.prog F_terms_visit ir_terms_visit := okF Tryz.func92 (by kernel_rfl)
theorem ok_terms_checkFields : FunOK Tryz.prog F_terms_checkFields ir_terms_checkFields := okF Tryz.func45 (by kernel_rfl)
theorem ok_terms_isBare : FunOK Tryz.prog F_terms_isBare ir_terms_isBare := okF Tryz.func56 (by kernel_rfl)
theorem ok_slices_ContainsFunc_api_Concept_api_Concept : FunOK Tryz.prog F_slices_ContainsFunc_api_Concept_api_Concept ir_slices_ContainsFunc_api_Concept_api_Concept := okF Tryz.func105 (by kernel_rfl)
theorem ok_slices_IndexFunc_api_Concept_api_Concept : FunOK Tryz.prog F_slices_IndexFunc_api_Concept_api_Concept ir_slices_IndexFunc_api_Concept_api_Concept := okF Tryz.func140 (by kernel_rfl)
theorem ok_terms_tidy : FunOK Tryz.prog F_terms_tidy ir_terms_tidy := okF Tryz.func46 (by kernel_rfl)
theorem ok_terms_meet : FunOK Tryz.prog F_terms_meet ir_terms_meet := okF Tryz.func95 (by kernel_rfl)
theorem ok_terms_grow : FunOK Tryz.prog F_terms_grow ir_terms_grow := okF Tryz.func51 (by kernel_rfl)
theorem ok_terms_tree_compare : FunOK Tryz.prog F_terms_tree_compare ir_terms_tree_compare := okF Tryz.func52 (by kernel_rfl)
theorem ok_cmp_Compare_int : FunOK Tryz.prog F_cmp_Compare_int ir_cmp_Compare_int := okF Tryz.func61 (by kernel_rfl)
theorem ok_cmp_isNaN_int : FunOK Tryz.prog F_cmp_isNaN_int ir_cmp_isNaN_int := okF Tryz.func107 (by kernel_rfl)
theorem ok_cmp_Or_int : FunOK Tryz.prog F_cmp_Or_int ir_cmp_Or_int := okF Tryz.func60 (by kernel_rfl)
theorem ok_slices_CompareFunc_terms_tree_terms_tree_terms_tree_terms_tree : FunOK Tryz.prog F_slices_CompareFunc_terms_tree_terms_tree_terms_tree_terms_tree ir_slices_CompareFunc_terms_tree_terms_tree_terms_tree_terms_tree := okF Tryz.func101 (by kernel_rfl)
theorem ok_slices_CompactFunc_terms_tree_terms_tree : FunOK Tryz.prog F_slices_CompactFunc_terms_tree_terms_tree ir_slices_CompactFunc_terms_tree_terms_tree := okF Tryz.func133 (by kernel_rfl)
theorem ok_terms_meet_1 : FunOK Tryz.prog F_terms_meet_1 ir_terms_meet_1 := okF Tryz.func134 (by kernel_rfl)
theorem ok_terms_Compare : FunOK Tryz.prog F_terms_Compare ir_terms_Compare := okF Tryz.func18 (by kernel_rfl)
theorem ok_slices_SortStableFunc_api_Problem_api_Problem : FunOK Tryz.prog F_slices_SortStableFunc_api_Problem_api_Problem ir_slices_SortStableFunc_api_Problem_api_Problem := okF Tryz.func69 (by kernel_rfl)
theorem ok_slices_stableCmpFunc_api_Problem : FunOK Tryz.prog F_slices_stableCmpFunc_api_Problem ir_slices_stableCmpFunc_api_Problem := okF Tryz.func119 (by kernel_rfl)
theorem ok_slices_insertionSortCmpFunc_api_Problem : FunOK Tryz.prog F_slices_insertionSortCmpFunc_api_Problem ir_slices_insertionSortCmpFunc_api_Problem := okF Tryz.func144 (by kernel_rfl)
theorem ok_slices_symMergeCmpFunc_api_Problem : FunOK Tryz.prog F_slices_symMergeCmpFunc_api_Problem ir_slices_symMergeCmpFunc_api_Problem := okF Tryz.func145 (by kernel_rfl)
theorem ok_slices_rotateCmpFunc_api_Problem : FunOK Tryz.prog F_slices_rotateCmpFunc_api_Problem ir_slices_rotateCmpFunc_api_Problem := okF Tryz.func157 (by kernel_rfl)
theorem ok_slices_swapRangeCmpFunc_api_Problem : FunOK Tryz.prog F_slices_swapRangeCmpFunc_api_Problem ir_slices_swapRangeCmpFunc_api_Problem := okF Tryz.func174 (by kernel_rfl)
theorem ok_syntax_Document_1 : FunOK Tryz.prog F_syntax_Document_1 ir_syntax_Document_1 := okF Tryz.func70 (by kernel_rfl)
theorem ok_syntax_Concept : FunOK Tryz.prog F_syntax_Concept ir_syntax_Concept := okF Tryz.func17 (by kernel_rfl)
theorem ok_syntax_Concept_1 : FunOK Tryz.prog F_syntax_Concept_1 ir_syntax_Concept_1 := okF Tryz.func48 (by kernel_rfl)
theorem ok_syntax_Concept_2 : FunOK Tryz.prog F_syntax_Concept_2 ir_syntax_Concept_2 := okF Tryz.func50 (by kernel_rfl)
theorem ok_terms_Tidy : FunOK Tryz.prog F_terms_Tidy ir_terms_Tidy := okF Tryz.func16 (by kernel_rfl)
theorem ok_syntax_whole : FunOK Tryz.prog F_syntax_whole ir_syntax_whole := okF Tryz.func47 (by kernel_rfl)
theorem ok_syntax_whole_1 : FunOK Tryz.prog F_syntax_whole_1 ir_syntax_whole_1 := okF Tryz.func97 (by kernel_rfl)
theorem ok_syntax_parser_end : FunOK Tryz.prog F_syntax_parser_end ir_syntax_parser_end := okF Tryz.func98 (by kernel_rfl)
theorem ok_syntax_Axiom : FunOK Tryz.prog F_syntax_Axiom ir_syntax_Axiom := okF Tryz.func24 (by kernel_rfl)
theorem ok_syntax_Axiom_1 : FunOK Tryz.prog F_syntax_Axiom_1 ir_syntax_Axiom_1 := okF Tryz.func57 (by kernel_rfl)
theorem ok_syntax_Axiom_2 : FunOK Tryz.prog F_syntax_Axiom_2 ir_syntax_Axiom_2 := okF Tryz.func59 (by kernel_rfl)
theorem ok_law03_few : FunOK Tryz.prog F_law03_few ir_law03_few := okF Tryz.func30 (by kernel_rfl)
theorem all_ok : ∀ p ∈ fnList, FunOK Tryz.prog p.1 p.2 := by
 simp only [fnList, List.forall_mem_cons]
 exact ⟨ok_law03_SyntaxConjunction, ok_law03_sane, ok_syntax_Document, ok_lexis_Tokens, ok_lexis_classes, ok_lexis_Tokens_1, ok_lexis_scan, ok_lexis_run, ok_lexis_integer, ok_slices_Clone_api_Problem_api_Problem, ok_syntax_newParser, ok_syntax_parser_domain, ok_syntax_parser_name, ok_syntax_parser_atName, ok_syntax_parser_token, ok_lexis_Keyword, ok_syntax_parser_fail, ok_terms_CheckName, ok_terms_isPlain, ok_strings_Cut, ok_internal_stringslite_Cut, ok_terms_isWord, ok_terms_isLetter, ok_terms_isTail, ok_terms_isReserved, ok_syntax_parser_concept, ok_syntax_parser_single, ok_syntax_parser_skip, ok_syntax_parser_is, ok_syntax_parser_want, ok_syntax_parser_number, ok_syntax_parser_role, ok_syntax_parser_chain, ok_syntax_parser_reflexive, ok_syntax_parser_typing, ok_syntax_parser_link, ok_syntax_parser_item, ok_syntax_parser_item_1, ok_syntax_parser_axiom, ok_syntax_parser_inclusion, ok_terms_TidyAxiom, ok_terms_CheckAxiom, ok_terms_isShaped, ok_terms_isEmpty, ok_terms_isNamed, ok_terms_CheckConcept, ok_terms_fits, ok_terms_walk, ok_terms_walk_1, ok_terms_visit, ok_terms_checkFields, ok_terms_isBare, ok_slices_ContainsFunc_api_Concept_api_Concept, ok_slices_IndexFunc_api_Concept_api_Concept, ok_terms_tidy, ok_terms_meet, ok_terms_grow, ok_terms_tree_compare, ok_cmp_Compare_int, ok_cmp_isNaN_int, ok_cmp_Or_int, ok_slices_CompareFunc_terms_tree_terms_tree_terms_tree_terms_tree, ok_slices_CompactFunc_terms_tree_terms_tree, ok_terms_meet_1, ok_terms_Compare, ok_slices_SortStableFunc_api_Problem_api_Problem, ok_slices_stableCmpFunc_api_Problem, ok_slices_insertionSortCmpFunc_api_Problem, ok_slices_symMergeCmpFunc_api_Problem, ok_slices_rotateCmpFunc_api_Problem, ok_slices_swapRangeCmpFunc_api_Problem, ok_syntax_Document_1, ok_syntax_Concept, ok_syntax_Concept_1, ok_syntax_Concept_2, ok_terms_Tidy, ok_syntax_whole, ok_syntax_whole_1, ok_syntax_parser_end, ok_syntax_Axiom, ok_syntax_Axiom_1, ok_syntax_Axiom_2, ok_law03_few, fun p hp => by cases hp⟩
theorem mixed : Tryz.prog.follows .mixedOrders = true := by kernel_rfl
end Go.Ai.Z
