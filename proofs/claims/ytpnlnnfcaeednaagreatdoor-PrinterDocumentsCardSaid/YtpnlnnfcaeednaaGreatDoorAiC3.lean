/-
 Each function in the small language is a faithful copy: written by program.
-/
import Derived.Test.YtpnlnnfcaeednaaGreatDoorAiRn5
import Derived.Test.YtpnlnnfcaeednaaGreatDoorAiC2
import Derived.Test.YtpnlnnfcaeednaaGreatDoorChecked
set_option maxRecDepth 100000
set_option linter.unusedSimpArgs false
set_option linter.unusedVariables false
set_option linter.unusedSectionVars false
namespace Go.Ai.Z
open Go.Proofs
set_option maxRecDepth 100000
def okB (P : Program) (rf : Func) (fn : AFun) : Bool := !(rf.name == "runtime.NumGoroutine") && (match rf.body with | some c => chkC P rf.ntmps c fn.code && decide (fn.np ≤ rf.ntmps) && chkRes P rf.results.toList fn.res | none => false)
theorem okF {P : Program} {f : FuncId} {rf : Func} {fn : AFun} (h : P.funcs[f]? = some rf) (h2 : okB P rf fn = true) : FunOK P f fn := by
 unfold okB at h2
 cases hb : rf.body with
 | none => rw [hb] at h2; simp at h2
 | some c =>
  rw [hb] at h2
  simp only [Bool.and_eq_true, Bool.not_eq_true', decide_eq_true_eq] at h2
  obtain ⟨h3, ⟨h4, h5⟩, h6⟩ := h2
  exact ⟨rf, c, h, h3, hb, h4, h5, h6⟩
theorem ok_law04_PrinterDocuments : FunOK Tryz.prog F_law04_PrinterDocuments ir_law04_PrinterDocuments := okF Tryz.func5 (by kernel_rfl)
theorem ok_law04_sane : FunOK Tryz.prog F_law04_sane ir_law04_sane := okF Tryz.func11 (by kernel_rfl)
theorem ok_law04_named : FunOK Tryz.prog F_law04_named ir_law04_named := okF Tryz.func38 (by kernel_rfl)
theorem ok_law04_and : FunOK Tryz.prog F_law04_and ir_law04_and := okF Tryz.func37 (by kernel_rfl)
theorem ok_law04_some : FunOK Tryz.prog F_law04_some ir_law04_some := okF Tryz.func36 (by kernel_rfl)
theorem ok_law04_prints : FunOK Tryz.prog F_law04_prints ir_law04_prints := okF Tryz.func35 (by kernel_rfl)
theorem ok_printer_Concept : FunOK Tryz.prog F_printer_Concept ir_printer_Concept := okF Tryz.func14 (by kernel_rfl)
theorem ok_terms_CheckConcept : FunOK Tryz.prog F_terms_CheckConcept ir_terms_CheckConcept := okF Tryz.func15 (by kernel_rfl)
theorem ok_terms_fits : FunOK Tryz.prog F_terms_fits ir_terms_fits := okF Tryz.func43 (by kernel_rfl)
theorem ok_terms_walk : FunOK Tryz.prog F_terms_walk ir_terms_walk := okF Tryz.func44 (by kernel_rfl)
theorem ok_terms_walk_1 : FunOK Tryz.prog F_terms_walk_1 ir_terms_walk_1 := okF Tryz.func91 (by kernel_rfl)
theorem ok_terms_visit : FunOK Tryz.prog F_terms_visit ir_terms_visit := okF Tryz.func92 (by kernel_rfl)
theorem ok_terms_checkFields : FunOK Tryz.prog F_terms_checkFields ir_terms_checkFields := okF Tryz.func45 (by kernel_rfl)
theorem ok_terms_isPlain : FunOK Tryz.prog F_terms_isPlain ir_terms_isPlain := okF Tryz.func93 (by kernel_rfl)
theorem ok_strings_Cut : FunOK Tryz.prog F_strings_Cut ir_strings_Cut := okF Tryz.func129 (by kernel_rfl)
theorem ok_internal_stringslite_Cut : FunOK Tryz.prog F_internal_stringslite_Cut ir_internal_stringslite_Cut := okF Tryz.func151 (by kernel_rfl)
theorem ok_terms_isWord : FunOK Tryz.prog F_terms_isWord ir_terms_isWord := okF Tryz.func130 (by kernel_rfl)
theorem ok_terms_isLetter : FunOK Tryz.prog F_terms_isLetter ir_terms_isLetter := okF Tryz.func152 (by kernel_rfl)
theorem ok_terms_isTail : FunOK Tryz.prog F_terms_isTail ir_terms_isTail := okF Tryz.func131 (by kernel_rfl)
theorem ok_lexis_Keyword : FunOK Tryz.prog F_lexis_Keyword ir_lexis_Keyword := okF Tryz.func153 (by kernel_rfl)
theorem ok_terms_isReserved : FunOK Tryz.prog F_terms_isReserved ir_terms_isReserved := okF Tryz.func94 (by kernel_rfl)
theorem ok_printer_newPrinter : FunOK Tryz.prog F_printer_newPrinter ir_printer_newPrinter := okF Tryz.func41 (by kernel_rfl)
theorem ok_printer_printer_top : FunOK Tryz.prog F_printer_printer_top ir_printer_printer_top := okF Tryz.func75 (by kernel_rfl)
theorem ok_printer_printer_bottom : FunOK Tryz.prog F_printer_printer_bottom ir_printer_printer_bottom := okF Tryz.func76 (by kernel_rfl)
theorem ok_printer_printer_named : FunOK Tryz.prog F_printer_printer_named ir_printer_printer_named := okF Tryz.func77 (by kernel_rfl)
theorem ok_printer_printer_nominal : FunOK Tryz.prog F_printer_printer_nominal ir_printer_printer_nominal := okF Tryz.func78 (by kernel_rfl)
theorem ok_printer_printer_and : FunOK Tryz.prog F_printer_printer_and ir_printer_printer_and := okF Tryz.func79 (by kernel_rfl)
theorem ok_printer_printer_operand : FunOK Tryz.prog F_printer_printer_operand ir_printer_printer_operand := okF Tryz.func126 (by kernel_rfl)
theorem ok_printer_printer_text : FunOK Tryz.prog F_printer_printer_text ir_printer_printer_text := okF Tryz.func42 (by kernel_rfl)
theorem ok_printer_printer_some : FunOK Tryz.prog F_printer_printer_some ir_printer_printer_some := okF Tryz.func80 (by kernel_rfl)
theorem ok_printer_words : FunOK Tryz.prog F_printer_words ir_printer_words := okF Tryz.func102 (by kernel_rfl)
theorem ok_printer_printer_span : FunOK Tryz.prog F_printer_printer_span ir_printer_printer_span := okF Tryz.func81 (by kernel_rfl)
theorem ok_printer_printer_sub : FunOK Tryz.prog F_printer_printer_sub ir_printer_printer_sub := okF Tryz.func82 (by kernel_rfl)
theorem ok_printer_printer_same : FunOK Tryz.prog F_printer_printer_same ir_printer_printer_same := okF Tryz.func83 (by kernel_rfl)
theorem ok_printer_printer_disjoint : FunOK Tryz.prog F_printer_printer_disjoint ir_printer_printer_disjoint := okF Tryz.func84 (by kernel_rfl)
theorem ok_printer_printer_domain : FunOK Tryz.prog F_printer_printer_domain ir_printer_printer_domain := okF Tryz.func85 (by kernel_rfl)
theorem ok_printer_printer_role : FunOK Tryz.prog F_printer_printer_role ir_printer_printer_role := okF Tryz.func86 (by kernel_rfl)
theorem ok_printer_printer_chain : FunOK Tryz.prog F_printer_printer_chain ir_printer_printer_chain := okF Tryz.func87 (by kernel_rfl)
theorem ok_printer_printer_reflexive : FunOK Tryz.prog F_printer_printer_reflexive ir_printer_printer_reflexive := okF Tryz.func88 (by kernel_rfl)
theorem ok_printer_printer_typing : FunOK Tryz.prog F_printer_printer_typing ir_printer_printer_typing := okF Tryz.func89 (by kernel_rfl)
theorem ok_printer_printer_link : FunOK Tryz.prog F_printer_printer_link ir_printer_printer_link := okF Tryz.func90 (by kernel_rfl)
theorem ok_law04_states : FunOK Tryz.prog F_law04_states ir_law04_states := okF Tryz.func39 (by kernel_rfl)
theorem ok_printer_Axiom : FunOK Tryz.prog F_printer_Axiom ir_printer_Axiom := okF Tryz.func21 (by kernel_rfl)
theorem ok_terms_CheckAxiom : FunOK Tryz.prog F_terms_CheckAxiom ir_terms_CheckAxiom := okF Tryz.func22 (by kernel_rfl)
theorem ok_terms_isShaped : FunOK Tryz.prog F_terms_isShaped ir_terms_isShaped := okF Tryz.func54 (by kernel_rfl)
theorem ok_terms_isEmpty : FunOK Tryz.prog F_terms_isEmpty ir_terms_isEmpty := okF Tryz.func103 (by kernel_rfl)
theorem ok_terms_isNamed : FunOK Tryz.prog F_terms_isNamed ir_terms_isNamed := okF Tryz.func55 (by kernel_rfl)
theorem ok_terms_CheckName : FunOK Tryz.prog F_terms_CheckName ir_terms_CheckName := okF Tryz.func104 (by kernel_rfl)
theorem ok_terms_isBare : FunOK Tryz.prog F_terms_isBare ir_terms_isBare := okF Tryz.func56 (by kernel_rfl)
theorem ok_slices_ContainsFunc_api_Concept_api_Concept : FunOK Tryz.prog F_slices_ContainsFunc_api_Concept_api_Concept ir_slices_ContainsFunc_api_Concept_api_Concept := okF Tryz.func105 (by kernel_rfl)
theorem ok_slices_IndexFunc_api_Concept_api_Concept : FunOK Tryz.prog F_slices_IndexFunc_api_Concept_api_Concept ir_slices_IndexFunc_api_Concept_api_Concept := okF Tryz.func140 (by kernel_rfl)
theorem ok_printer_printer_axiom : FunOK Tryz.prog F_printer_printer_axiom ir_printer_printer_axiom := okF Tryz.func53 (by kernel_rfl)
theorem ok_printer_Document : FunOK Tryz.prog F_printer_Document ir_printer_Document := okF Tryz.func27 (by kernel_rfl)
theorem ok_ref02_FewAxioms : FunOK Tryz.prog F_ref02_FewAxioms ir_ref02_FewAxioms := okF Tryz.func26 (by kernel_rfl)
theorem ok_ref02_FewAxiom : FunOK Tryz.prog F_ref02_FewAxiom ir_ref02_FewAxiom := okF Tryz.func19 (by kernel_rfl)
theorem ok_ref02_Few : FunOK Tryz.prog F_ref02_Few ir_ref02_Few := okF Tryz.func12 (by kernel_rfl)
theorem ok_ref02_count : FunOK Tryz.prog F_ref02_count ir_ref02_count := okF Tryz.func40 (by kernel_rfl)
theorem ok_terms_TidyAxiom : FunOK Tryz.prog F_terms_TidyAxiom ir_terms_TidyAxiom := okF Tryz.func23 (by kernel_rfl)
theorem ok_terms_tidy : FunOK Tryz.prog F_terms_tidy ir_terms_tidy := okF Tryz.func46 (by kernel_rfl)
theorem ok_terms_meet : FunOK Tryz.prog F_terms_meet ir_terms_meet := okF Tryz.func95 (by kernel_rfl)
theorem ok_terms_grow : FunOK Tryz.prog F_terms_grow ir_terms_grow := okF Tryz.func51 (by kernel_rfl)
theorem ok_terms_tree_compare : FunOK Tryz.prog F_terms_tree_compare ir_terms_tree_compare := okF Tryz.func52 (by kernel_rfl)
theorem ok_cmp_Compare_int : FunOK Tryz.prog F_cmp_Compare_int ir_cmp_Compare_int := okF Tryz.func61 (by kernel_rfl)
theorem ok_cmp_isNaN_int : FunOK Tryz.prog F_cmp_isNaN_int ir_cmp_isNaN_int := okF Tryz.func107 (by kernel_rfl)
theorem ok_cmp_Or_int : FunOK Tryz.prog F_cmp_Or_int ir_cmp_Or_int := okF Tryz.func60 (by kernel_rfl)
theorem ok_slices_CompareFunc_terms_tree_terms_tree_terms_tree_terms_tree : FunOK Tryz.prog F_slices_CompareFunc_terms_tree_terms_tree_terms_tree_terms_tree ir_slices_CompareFunc_terms_tree_terms_tree_terms_tree_terms_tree := okF Tryz.func101 (by kernel_rfl)
theorem ok_slices_CompactFunc_terms_tree_terms_tree : FunOK Tryz.prog F_slices_CompactFunc_terms_tree_terms_tree ir_slices_CompactFunc_terms_tree_terms_tree := okF Tryz.func133 (by kernel_rfl)
theorem ok_terms_meet_1 : FunOK Tryz.prog F_terms_meet_1 ir_terms_meet_1 := okF Tryz.func134 (by kernel_rfl)
theorem ok_terms_Compare : FunOK Tryz.prog F_terms_Compare ir_terms_Compare := okF Tryz.func18 (by kernel_rfl)
theorem ok_law04_plainAxiom : FunOK Tryz.prog F_law04_plainAxiom ir_law04_plainAxiom := okF Tryz.func20 (by kernel_rfl)
theorem ok_law04_plain : FunOK Tryz.prog F_law04_plain ir_law04_plain := okF Tryz.func13 (by kernel_rfl)
theorem ok_syntax_Document : FunOK Tryz.prog F_syntax_Document ir_syntax_Document := okF Tryz.func28 (by kernel_rfl)
theorem ok_lexis_Tokens : FunOK Tryz.prog F_lexis_Tokens ir_lexis_Tokens := okF Tryz.func31 (by kernel_rfl)
theorem ok_lexis_classes : FunOK Tryz.prog F_lexis_classes ir_lexis_classes := okF Tryz.func71 (by kernel_rfl)
theorem ok_lexis_Tokens_1 : FunOK Tryz.prog F_lexis_Tokens_1 ir_lexis_Tokens_1 := okF Tryz.func72 (by kernel_rfl)
theorem ok_lexis_scan : FunOK Tryz.prog F_lexis_scan ir_lexis_scan := okF Tryz.func73 (by kernel_rfl)
theorem ok_lexis_run : FunOK Tryz.prog F_lexis_run ir_lexis_run := okF Tryz.func120 (by kernel_rfl)
theorem ok_lexis_integer : FunOK Tryz.prog F_lexis_integer ir_lexis_integer := okF Tryz.func121 (by kernel_rfl)
theorem ok_slices_Clone_api_Problem_api_Problem : FunOK Tryz.prog F_slices_Clone_api_Problem_api_Problem ir_slices_Clone_api_Problem_api_Problem := okF Tryz.func65 (by kernel_rfl)
theorem ok_syntax_newParser : FunOK Tryz.prog F_syntax_newParser ir_syntax_newParser := okF Tryz.func66 (by kernel_rfl)
theorem ok_syntax_parser_domain : FunOK Tryz.prog F_syntax_parser_domain ir_syntax_parser_domain := okF Tryz.func111 (by kernel_rfl)
theorem ok_syntax_parser_name : FunOK Tryz.prog F_syntax_parser_name ir_syntax_parser_name := okF Tryz.func137 (by kernel_rfl)
theorem ok_syntax_parser_atName : FunOK Tryz.prog F_syntax_parser_atName ir_syntax_parser_atName := okF Tryz.func143 (by kernel_rfl)
theorem ok_syntax_parser_token : FunOK Tryz.prog F_syntax_parser_token ir_syntax_parser_token := okF Tryz.func67 (by kernel_rfl)
theorem ok_syntax_parser_fail : FunOK Tryz.prog F_syntax_parser_fail ir_syntax_parser_fail := okF Tryz.func136 (by kernel_rfl)
theorem ok_syntax_parser_concept : FunOK Tryz.prog F_syntax_parser_concept ir_syntax_parser_concept := okF Tryz.func49 (by kernel_rfl)
theorem ok_syntax_parser_single : FunOK Tryz.prog F_syntax_parser_single ir_syntax_parser_single := okF Tryz.func99 (by kernel_rfl)
theorem ok_syntax_parser_skip : FunOK Tryz.prog F_syntax_parser_skip ir_syntax_parser_skip := okF Tryz.func100 (by kernel_rfl)
theorem ok_syntax_parser_is : FunOK Tryz.prog F_syntax_parser_is ir_syntax_parser_is := okF Tryz.func139 (by kernel_rfl)
theorem ok_syntax_parser_want : FunOK Tryz.prog F_syntax_parser_want ir_syntax_parser_want := okF Tryz.func118 (by kernel_rfl)
theorem ok_syntax_parser_number : FunOK Tryz.prog F_syntax_parser_number ir_syntax_parser_number := okF Tryz.func138 (by kernel_rfl)
theorem ok_syntax_parser_role : FunOK Tryz.prog F_syntax_parser_role ir_syntax_parser_role := okF Tryz.func112 (by kernel_rfl)
theorem ok_syntax_parser_chain : FunOK Tryz.prog F_syntax_parser_chain ir_syntax_parser_chain := okF Tryz.func113 (by kernel_rfl)
theorem ok_syntax_parser_reflexive : FunOK Tryz.prog F_syntax_parser_reflexive ir_syntax_parser_reflexive := okF Tryz.func114 (by kernel_rfl)
theorem ok_syntax_parser_typing : FunOK Tryz.prog F_syntax_parser_typing ir_syntax_parser_typing := okF Tryz.func115 (by kernel_rfl)
theorem ok_syntax_parser_link : FunOK Tryz.prog F_syntax_parser_link ir_syntax_parser_link := okF Tryz.func116 (by kernel_rfl)
theorem ok_syntax_parser_item : FunOK Tryz.prog F_syntax_parser_item ir_syntax_parser_item := okF Tryz.func68 (by kernel_rfl)
theorem ok_syntax_parser_item_1 : FunOK Tryz.prog F_syntax_parser_item_1 ir_syntax_parser_item_1 := okF Tryz.func117 (by kernel_rfl)
theorem ok_syntax_parser_axiom : FunOK Tryz.prog F_syntax_parser_axiom ir_syntax_parser_axiom := okF Tryz.func58 (by kernel_rfl)
theorem ok_syntax_parser_inclusion : FunOK Tryz.prog F_syntax_parser_inclusion ir_syntax_parser_inclusion := okF Tryz.func106 (by kernel_rfl)
theorem ok_slices_SortStableFunc_api_Problem_api_Problem : FunOK Tryz.prog F_slices_SortStableFunc_api_Problem_api_Problem ir_slices_SortStableFunc_api_Problem_api_Problem := okF Tryz.func69 (by kernel_rfl)
theorem ok_slices_stableCmpFunc_api_Problem : FunOK Tryz.prog F_slices_stableCmpFunc_api_Problem ir_slices_stableCmpFunc_api_Problem := okF Tryz.func119 (by kernel_rfl)
theorem ok_slices_insertionSortCmpFunc_api_Problem : FunOK Tryz.prog F_slices_insertionSortCmpFunc_api_Problem ir_slices_insertionSortCmpFunc_api_Problem := okF Tryz.func144 (by kernel_rfl)
theorem ok_syntax_Document_1 : FunOK Tryz.prog F_syntax_Document_1 ir_syntax_Document_1 := okF Tryz.func70 (by kernel_rfl)
theorem ok_terms_CompareAxiom : FunOK Tryz.prog F_terms_CompareAxiom ir_terms_CompareAxiom := okF Tryz.func25 (by kernel_rfl)
theorem ok_terms_weight : FunOK Tryz.prog F_terms_weight ir_terms_weight := okF Tryz.func62 (by kernel_rfl)
theorem ok_terms_Size : FunOK Tryz.prog F_terms_Size ir_terms_Size := okF Tryz.func108 (by kernel_rfl)
theorem ok_slices_Compare_string_string : FunOK Tryz.prog F_slices_Compare_string_string ir_slices_Compare_string_string := okF Tryz.func63 (by kernel_rfl)
theorem ok_cmp_Compare_string : FunOK Tryz.prog F_cmp_Compare_string ir_cmp_Compare_string := okF Tryz.func109 (by kernel_rfl)
theorem ok_cmp_isNaN_string : FunOK Tryz.prog F_cmp_isNaN_string ir_cmp_isNaN_string := okF Tryz.func141 (by kernel_rfl)
theorem all_ok : ∀ p ∈ fnList, FunOK Tryz.prog p.1 p.2 := by
 simp only [fnList, List.forall_mem_cons]
 exact ⟨ok_law04_PrinterDocuments, ok_law04_sane, ok_law04_named, ok_law04_and, ok_law04_some, ok_law04_prints, ok_printer_Concept, ok_terms_CheckConcept, ok_terms_fits, ok_terms_walk, ok_terms_walk_1, ok_terms_visit, ok_terms_checkFields, ok_terms_isPlain, ok_strings_Cut, ok_internal_stringslite_Cut, ok_terms_isWord, ok_terms_isLetter, ok_terms_isTail, ok_lexis_Keyword, ok_terms_isReserved, ok_printer_newPrinter, ok_printer_printer_top, ok_printer_printer_bottom, ok_printer_printer_named, ok_printer_printer_nominal, ok_printer_printer_and, ok_printer_printer_operand, ok_printer_printer_text, ok_printer_printer_some, ok_printer_words, ok_printer_printer_span, ok_printer_printer_sub, ok_printer_printer_same, ok_printer_printer_disjoint, ok_printer_printer_domain, ok_printer_printer_role, ok_printer_printer_chain, ok_printer_printer_reflexive, ok_printer_printer_typing, ok_printer_printer_link, ok_law04_states, ok_printer_Axiom, ok_terms_CheckAxiom, ok_terms_isShaped, ok_terms_isEmpty, ok_terms_isNamed, ok_terms_CheckName, ok_terms_isBare, ok_slices_ContainsFunc_api_Concept_api_Concept, ok_slices_IndexFunc_api_Concept_api_Concept, ok_printer_printer_axiom, ok_printer_Document, ok_ref02_FewAxioms, ok_ref02_FewAxiom, ok_ref02_Few, ok_ref02_count, ok_terms_TidyAxiom, ok_terms_tidy, ok_terms_meet, ok_terms_grow, ok_terms_tree_compare, ok_cmp_Compare_int, ok_cmp_isNaN_int, ok_cmp_Or_int, ok_slices_CompareFunc_terms_tree_terms_tree_terms_tree_terms_tree, ok_slices_CompactFunc_terms_tree_terms_tree, ok_terms_meet_1, ok_terms_Compare, ok_law04_plainAxiom, ok_law04_plain, ok_syntax_Document, ok_lexis_Tokens, ok_lexis_classes, ok_lexis_Tokens_1, ok_lexis_scan, ok_lexis_run, ok_lexis_integer, ok_slices_Clone_api_Problem_api_Problem, ok_syntax_newParser, ok_syntax_parser_domain, ok_syntax_parser_name, ok_syntax_parser_atName, ok_syntax_parser_token, ok_syntax_parser_fail, ok_syntax_parser_concept, ok_syntax_parser_single, ok_syntax_parser_skip, ok_syntax_parser_is, ok_syntax_parser_want, ok_syntax_parser_number, ok_syntax_parser_role, ok_syntax_parser_chain, ok_syntax_parser_reflexive, ok_syntax_parser_typing, ok_syntax_parser_link, ok_syntax_parser_item, ok_syntax_parser_item_1, ok_syntax_parser_axiom, ok_syntax_parser_inclusion, ok_slices_SortStableFunc_api_Problem_api_Problem, ok_slices_stableCmpFunc_api_Problem, ok_slices_insertionSortCmpFunc_api_Problem, ok_syntax_Document_1, ok_terms_CompareAxiom, ok_terms_weight, ok_terms_Size, ok_slices_Compare_string_string, ok_cmp_Compare_string, ok_cmp_isNaN_string, fun p hp => by cases hp⟩
theorem mixed : Tryz.prog.follows .mixedOrders = true := by kernel_rfl
end Go.Ai.Z
