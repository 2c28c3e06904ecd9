/-
 The program in the small language: written by program.
-/
import Derived.Test.YtpnlnnfcaeednaaGreatDoorAiDat
import Derived.Test.YtpnlnnfcaeednaaGreatDoorAiC1
set_option maxRecDepth 100000
set_option linter.unusedSimpArgs false
set_option linter.unusedVariables false
set_option linter.unusedSectionVars false
namespace Go.Ai.Z
def fnList : List (Nat × AFun) :=
 [(F_law04_PrinterDocuments, ir_law04_PrinterDocuments),
  (F_law04_sane, ir_law04_sane),
  (F_law04_named, ir_law04_named),
  (F_law04_and, ir_law04_and),
  (F_law04_some, ir_law04_some),
  (F_law04_prints, ir_law04_prints),
  (F_printer_Concept, ir_printer_Concept),
  (F_terms_CheckConcept, ir_terms_CheckConcept),
  (F_terms_fits, ir_terms_fits),
  (F_terms_walk, ir_terms_walk),
  (F_terms_walk_1, ir_terms_walk_1),
  (F_terms_visit, ir_terms_visit),
  (F_terms_checkFields, ir_terms_checkFields),
  (F_terms_isPlain, ir_terms_isPlain),
  (F_strings_Cut, ir_strings_Cut),
  (F_internal_stringslite_Cut, ir_internal_stringslite_Cut),
  (F_terms_isWord, ir_terms_isWord),
  (F_terms_isLetter, ir_terms_isLetter),
  (F_terms_isTail, ir_terms_isTail),
  (F_lexis_Keyword, ir_lexis_Keyword),
  (F_terms_isReserved, ir_terms_isReserved),
  (F_printer_newPrinter, ir_printer_newPrinter),
  (F_printer_printer_top, ir_printer_printer_top),
  (F_printer_printer_bottom, ir_printer_printer_bottom),
  (F_printer_printer_named, ir_printer_printer_named),
  (F_printer_printer_nominal, ir_printer_printer_nominal),
  (F_printer_printer_and, ir_printer_printer_and),
  (F_printer_printer_operand, ir_printer_printer_operand),
  (F_printer_printer_text, ir_printer_printer_text),
  (F_printer_printer_some, ir_printer_printer_some),
  (F_printer_words, ir_printer_words),
  (F_printer_printer_span, ir_printer_printer_span),
  (F_printer_printer_sub, ir_printer_printer_sub),
  (F_printer_printer_same, ir_printer_printer_same),
  (F_printer_printer_disjoint, ir_printer_printer_disjoint),
  (F_printer_printer_domain, ir_printer_printer_domain),
  (F_printer_printer_role, ir_printer_printer_role),
  (F_printer_printer_chain, ir_printer_printer_chain),
  (F_printer_printer_reflexive, ir_printer_printer_reflexive),
  (F_printer_printer_typing, ir_printer_printer_typing),
  (F_printer_printer_link, ir_printer_printer_link),
  (F_law04_states, ir_law04_states),
  (F_printer_Axiom, ir_printer_Axiom),
  (F_terms_CheckAxiom, ir_terms_CheckAxiom),
  (F_terms_isShaped, ir_terms_isShaped),
  (F_terms_isEmpty, ir_terms_isEmpty),
  (F_terms_isNamed, ir_terms_isNamed),
  (F_terms_CheckName, ir_terms_CheckName),
  (F_terms_isBare, ir_terms_isBare),
  (F_slices_ContainsFunc_api_Concept_api_Concept, ir_slices_ContainsFunc_api_Concept_api_Concept),
  (F_slices_IndexFunc_api_Concept_api_Concept, ir_slices_IndexFunc_api_Concept_api_Concept),
  (F_printer_printer_axiom, ir_printer_printer_axiom),
  (F_printer_Document, ir_printer_Document),
  (F_ref02_FewAxioms, ir_ref02_FewAxioms),
  (F_ref02_FewAxiom, ir_ref02_FewAxiom),
  (F_ref02_Few, ir_ref02_Few),
  (F_ref02_count, ir_ref02_count),
  (F_terms_TidyAxiom, ir_terms_TidyAxiom),
  (F_terms_tidy, ir_terms_tidy),
  (F_terms_meet, ir_terms_meet),
  (F_terms_grow, ir_terms_grow),
  (F_terms_tree_compare, ir_terms_tree_compare),
  (F_cmp_Compare_int, ir_cmp_Compare_int),
  (F_cmp_isNaN_int, ir_cmp_isNaN_int),
  (F_cmp_Or_int, ir_cmp_Or_int),
  (F_slices_CompareFunc_terms_tree_terms_tree_terms_tree_terms_tree, ir_slices_CompareFunc_terms_tree_terms_tree_terms_tree_terms_tree),
  (F_slices_CompactFunc_terms_tree_terms_tree, ir_slices_CompactFunc_terms_tree_terms_tree),
  (F_terms_meet_1, ir_terms_meet_1),
  (F_terms_Compare, ir_terms_Compare),
  (F_law04_plainAxiom, ir_law04_plainAxiom),
  (F_law04_plain, ir_law04_plain),
  (F_syntax_Document, ir_syntax_Document),
  (F_lexis_Tokens, ir_lexis_Tokens),
  (F_lexis_classes, ir_lexis_classes),
  (F_lexis_Tokens_1, ir_lexis_Tokens_1),
  (F_lexis_scan, ir_lexis_scan),
  (F_lexis_run, ir_lexis_run),
  (F_lexis_integer, ir_lexis_integer),
  (F_slices_Clone_api_Problem_api_Problem, ir_slices_Clone_api_Problem_api_Problem),
  (F_syntax_newParser, ir_syntax_newParser),
  (F_syntax_parser_domain, ir_syntax_parser_domain),
  (F_syntax_parser_name, ir_syntax_parser_name),
  (F_syntax_parser_atName, ir_syntax_parser_atName),
  (F_syntax_parser_token, ir_syntax_parser_token),
  (F_syntax_parser_fail, ir_syntax_parser_fail),
  (F_syntax_parser_concept, ir_syntax_parser_concept),
  (F_syntax_parser_single, ir_syntax_parser_single),
  (F_syntax_parser_skip, ir_syntax_parser_skip),
  (F_syntax_parser_is, ir_syntax_parser_is),
  (F_syntax_parser_want, ir_syntax_parser_want),
  (F_syntax_parser_number, ir_syntax_parser_number),
  (F_syntax_parser_role, ir_syntax_parser_role),
  (F_syntax_parser_chain, ir_syntax_parser_chain),
  (F_syntax_parser_reflexive, ir_syntax_parser_reflexive),
  (F_syntax_parser_typing, ir_syntax_parser_typing),
  (F_syntax_parser_link, ir_syntax_parser_link),
  (F_syntax_parser_item, ir_syntax_parser_item),
  (F_syntax_parser_item_1, ir_syntax_parser_item_1),
  (F_syntax_parser_axiom, ir_syntax_parser_axiom),
  (F_syntax_parser_inclusion, ir_syntax_parser_inclusion),
  (F_slices_SortStableFunc_api_Problem_api_Problem, ir_slices_SortStableFunc_api_Problem_api_Problem),
  (F_slices_stableCmpFunc_api_Problem, ir_slices_stableCmpFunc_api_Problem),
  (F_slices_insertionSortCmpFunc_api_Problem, ir_slices_insertionSortCmpFunc_api_Problem),
  (F_syntax_Document_1, ir_syntax_Document_1),
  (F_terms_CompareAxiom, ir_terms_CompareAxiom),
  (F_terms_weight, ir_terms_weight),
  (F_terms_Size, ir_terms_Size),
  (F_slices_Compare_string_string, ir_slices_Compare_string_string),
  (F_cmp_Compare_string, ir_cmp_Compare_string),
  (F_cmp_isNaN_string, ir_cmp_isNaN_string)]
def globList : List (Nat × List AV) :=
 [(G_terms_needs, [.i .i64 0, .i .i64 0, .i .i64 0, .b false, .i .i64 0, .i .i64 0, .i .i64 0, .b false, .i .i64 0, .i .i64 0, .i .i64 0, .b false, .i .i64 1, .i .i64 0, .i .i64 0, .b false, .i .i64 2, .i .i64 0, .i .i64 0, .b false, .i .i64 0, .i .i64 2, .i .i64 8, .b false, .i .i64 1, .i .i64 1, .i .i64 1, .b false, .i .i64 1, .i .i64 0, .i .i64 0, .b true]),
  (G_terms_uses, [.b false, .b false, .b false, .b false, .b false, .i .i64 0, .i .i64 0,
   .b true, .b true, .b false, .b false, .b false, .i .i64 0, .i .i64 0,
   .b true, .b true, .b false, .b false, .b false, .i .i64 0, .i .i64 0,
   .b true, .b true, .b false, .b false, .b false, .i .i64 0, .i .i64 0,
   .b false, .b true, .b true, .b false, .b false, .i .i64 0, .i .i64 0,
   .b false, .b false, .b true, .b false, .b false, .i .i64 1, .i .i64 1,
   .b false, .b false, .b true, .b false, .b false, .i .i64 2, .i .i64 4,
   .b false, .b false, .b true, .b false, .b false, .i .i64 0, .i .i64 0,
   .b false, .b true, .b false, .b true, .b false, .i .i64 0, .i .i64 0,
   .b false, .b false, .b true, .b true, .b true, .i .i64 0, .i .i64 0]),
  (G_internal_strconv_uint64pow10, [.i .u64 1, .i .u64 10, .i .u64 100, .i .u64 1000, .i .u64 10000, .i .u64 100000, .i .u64 1000000, .i .u64 10000000, .i .u64 100000000, .i .u64 1000000000, .i .u64 10000000000, .i .u64 100000000000, .i .u64 1000000000000, .i .u64 10000000000000, .i .u64 100000000000000, .i .u64 1000000000000000, .i .u64 10000000000000000, .i .u64 100000000000000000, .i .u64 1000000000000000000, .i .u64 10000000000000000000])]
def intrList : List (Nat × (List AV → St → Option AV)) :=
 [(F_strings_Join, pureI iJoin), (F_strconv_Itoa, pureI iItoa), (F_internal_stringslite_Index, pureI iIndex), (F_strings_Compare, pureI iCompare), (F_strconv_Atoi, pureI iAtoi)]
def hiList : List (Nat × HiK) :=
 [(F_slices_SortFunc_terms_tree_terms_tree, .sortK 7), (F_syntax_try, .tryK (.tu [.ag [.i .i64 0, .i .i64 0], .b false]))]
def intrQList : List (Nat × (List AV → St → Option AV)) :=
 [(F_strings_Compare, pureI iCompare)]
def P0 : AProg := ⟨fun f => fnList.lookup f, fun k => globList.lookup k, fun f => intrList.lookup f, fun f => hiList.lookup f, fun f => intrQList.lookup f⟩
def Pq : AProg := P0.quiet
theorem go {f : Nat} {fn : AFun} (hi : intrList.lookup f = none) (hh : hiList.lookup f = none) (hf : fnList.lookup f = some fn) {as cs args : List AV} {s : St} {cx : Ctx} {o : CO} (ho : o ≠ .fail)
  (h : callFnW P0.glob (acallW P0) fn (as ++ args ++ cs) s cx = o) : acallW P0 (.fn (.func f) as cs) args s cx = o := acallW_fn hi hh hf ho h
theorem goq {f : Nat} {fn : AFun} (hi : intrQList.lookup f = none) (hf : fnList.lookup f = some fn) {as cs args : List AV} {s : St} {cx : Ctx} {o : CO} (ho : o ≠ .fail)
  (h : callFnW Pq.glob (acallW Pq) fn (as ++ args ++ cs) s cx = o) : acallW Pq (.fn (.func f) as cs) args s cx = o := acallW_fn (A := Pq) hi rfl hf ho h
def Go1 (A : AProg) (f : Nat) (fn : AFun) : Prop := ∀ {as cs args : List AV} {s : St} {cx : Ctx} {o : CO}, o ≠ .fail → callFnW A.glob (acallW A) fn (as ++ args ++ cs) s cx = o → acallW A (.fn (.func f) as cs) args s cx = o
theorem go1 {f : Nat} {fn : AFun} (hi : intrList.lookup f = none) (hh : hiList.lookup f = none) (hf : fnList.lookup f = some fn) : Go1 P0 f fn := fun ho h => go hi hh hf ho h
theorem go_law04_PrinterDocuments : Go1 P0 F_law04_PrinterDocuments ir_law04_PrinterDocuments := go1 rfl rfl rfl
theorem go_terms_CheckConcept : Go1 P0 F_terms_CheckConcept ir_terms_CheckConcept := go1 rfl rfl rfl
theorem go_terms_fits : Go1 P0 F_terms_fits ir_terms_fits := go1 rfl rfl rfl
theorem go_terms_walk : Go1 P0 F_terms_walk ir_terms_walk := go1 rfl rfl rfl
theorem go_terms_walk_1 : Go1 P0 F_terms_walk_1 ir_terms_walk_1 := go1 rfl rfl rfl
theorem go_terms_visit : Go1 P0 F_terms_visit ir_terms_visit := go1 rfl rfl rfl
theorem go_terms_checkFields : Go1 P0 F_terms_checkFields ir_terms_checkFields := go1 rfl rfl rfl
theorem go_terms_isPlain : Go1 P0 F_terms_isPlain ir_terms_isPlain := go1 rfl rfl rfl
theorem go_strings_Cut : Go1 P0 F_strings_Cut ir_strings_Cut := go1 rfl rfl rfl
theorem go_internal_stringslite_Cut : Go1 P0 F_internal_stringslite_Cut ir_internal_stringslite_Cut := go1 rfl rfl rfl
theorem go_terms_isWord : Go1 P0 F_terms_isWord ir_terms_isWord := go1 rfl rfl rfl
theorem go_terms_isLetter : Go1 P0 F_terms_isLetter ir_terms_isLetter := go1 rfl rfl rfl
theorem go_terms_isTail : Go1 P0 F_terms_isTail ir_terms_isTail := go1 rfl rfl rfl
theorem go_lexis_Keyword : Go1 P0 F_lexis_Keyword ir_lexis_Keyword := go1 rfl rfl rfl
theorem go_terms_isReserved : Go1 P0 F_terms_isReserved ir_terms_isReserved := go1 rfl rfl rfl
theorem go_printer_newPrinter : Go1 P0 F_printer_newPrinter ir_printer_newPrinter := go1 rfl rfl rfl
theorem go_printer_printer_top : Go1 P0 F_printer_printer_top ir_printer_printer_top := go1 rfl rfl rfl
theorem go_printer_printer_bottom : Go1 P0 F_printer_printer_bottom ir_printer_printer_bottom := go1 rfl rfl rfl
theorem go_printer_printer_named : Go1 P0 F_printer_printer_named ir_printer_printer_named := go1 rfl rfl rfl
theorem go_printer_printer_nominal : Go1 P0 F_printer_printer_nominal ir_printer_printer_nominal := go1 rfl rfl rfl
theorem go_printer_printer_and : Go1 P0 F_printer_printer_and ir_printer_printer_and := go1 rfl rfl rfl
theorem go_printer_printer_operand : Go1 P0 F_printer_printer_operand ir_printer_printer_operand := go1 rfl rfl rfl
theorem go_printer_printer_text : Go1 P0 F_printer_printer_text ir_printer_printer_text := go1 rfl rfl rfl
theorem go_printer_printer_some : Go1 P0 F_printer_printer_some ir_printer_printer_some := go1 rfl rfl rfl
theorem go_printer_words : Go1 P0 F_printer_words ir_printer_words := go1 rfl rfl rfl
theorem go_printer_printer_span : Go1 P0 F_printer_printer_span ir_printer_printer_span := go1 rfl rfl rfl
theorem go_printer_printer_sub : Go1 P0 F_printer_printer_sub ir_printer_printer_sub := go1 rfl rfl rfl
theorem go_printer_printer_same : Go1 P0 F_printer_printer_same ir_printer_printer_same := go1 rfl rfl rfl
theorem go_printer_printer_disjoint : Go1 P0 F_printer_printer_disjoint ir_printer_printer_disjoint := go1 rfl rfl rfl
theorem go_printer_printer_domain : Go1 P0 F_printer_printer_domain ir_printer_printer_domain := go1 rfl rfl rfl
theorem go_printer_printer_role : Go1 P0 F_printer_printer_role ir_printer_printer_role := go1 rfl rfl rfl
theorem go_printer_printer_chain : Go1 P0 F_printer_printer_chain ir_printer_printer_chain := go1 rfl rfl rfl
theorem go_printer_printer_reflexive : Go1 P0 F_printer_printer_reflexive ir_printer_printer_reflexive := go1 rfl rfl rfl
theorem go_printer_printer_typing : Go1 P0 F_printer_printer_typing ir_printer_printer_typing := go1 rfl rfl rfl
theorem go_printer_printer_link : Go1 P0 F_printer_printer_link ir_printer_printer_link := go1 rfl rfl rfl
theorem go_terms_CheckAxiom : Go1 P0 F_terms_CheckAxiom ir_terms_CheckAxiom := go1 rfl rfl rfl
theorem go_terms_isShaped : Go1 P0 F_terms_isShaped ir_terms_isShaped := go1 rfl rfl rfl
theorem go_terms_isEmpty : Go1 P0 F_terms_isEmpty ir_terms_isEmpty := go1 rfl rfl rfl
theorem go_terms_isNamed : Go1 P0 F_terms_isNamed ir_terms_isNamed := go1 rfl rfl rfl
theorem go_terms_CheckName : Go1 P0 F_terms_CheckName ir_terms_CheckName := go1 rfl rfl rfl
theorem go_terms_isBare : Go1 P0 F_terms_isBare ir_terms_isBare := go1 rfl rfl rfl
theorem go_slices_ContainsFunc_api_Concept_api_Concept : Go1 P0 F_slices_ContainsFunc_api_Concept_api_Concept ir_slices_ContainsFunc_api_Concept_api_Concept := go1 rfl rfl rfl
theorem go_slices_IndexFunc_api_Concept_api_Concept : Go1 P0 F_slices_IndexFunc_api_Concept_api_Concept ir_slices_IndexFunc_api_Concept_api_Concept := go1 rfl rfl rfl
theorem go_printer_printer_axiom : Go1 P0 F_printer_printer_axiom ir_printer_printer_axiom := go1 rfl rfl rfl
theorem go_printer_Document : Go1 P0 F_printer_Document ir_printer_Document := go1 rfl rfl rfl
theorem go_ref02_FewAxioms : Go1 P0 F_ref02_FewAxioms ir_ref02_FewAxioms := go1 rfl rfl rfl
theorem go_ref02_FewAxiom : Go1 P0 F_ref02_FewAxiom ir_ref02_FewAxiom := go1 rfl rfl rfl
theorem go_ref02_Few : Go1 P0 F_ref02_Few ir_ref02_Few := go1 rfl rfl rfl
theorem go_ref02_count : Go1 P0 F_ref02_count ir_ref02_count := go1 rfl rfl rfl
theorem go_terms_TidyAxiom : Go1 P0 F_terms_TidyAxiom ir_terms_TidyAxiom := go1 rfl rfl rfl
theorem go_terms_tidy : Go1 P0 F_terms_tidy ir_terms_tidy := go1 rfl rfl rfl
theorem go_terms_meet : Go1 P0 F_terms_meet ir_terms_meet := go1 rfl rfl rfl
theorem go_terms_grow : Go1 P0 F_terms_grow ir_terms_grow := go1 rfl rfl rfl
theorem go_terms_tree_compare : Go1 P0 F_terms_tree_compare ir_terms_tree_compare := go1 rfl rfl rfl
theorem go_cmp_Compare_int : Go1 P0 F_cmp_Compare_int ir_cmp_Compare_int := go1 rfl rfl rfl
theorem go_cmp_isNaN_int : Go1 P0 F_cmp_isNaN_int ir_cmp_isNaN_int := go1 rfl rfl rfl
theorem go_cmp_Or_int : Go1 P0 F_cmp_Or_int ir_cmp_Or_int := go1 rfl rfl rfl
theorem go_slices_CompareFunc_terms_tree_terms_tree_terms_tree_terms_tree : Go1 P0 F_slices_CompareFunc_terms_tree_terms_tree_terms_tree_terms_tree ir_slices_CompareFunc_terms_tree_terms_tree_terms_tree_terms_tree := go1 rfl rfl rfl
theorem go_slices_CompactFunc_terms_tree_terms_tree : Go1 P0 F_slices_CompactFunc_terms_tree_terms_tree ir_slices_CompactFunc_terms_tree_terms_tree := go1 rfl rfl rfl
theorem go_terms_meet_1 : Go1 P0 F_terms_meet_1 ir_terms_meet_1 := go1 rfl rfl rfl
theorem go_terms_Compare : Go1 P0 F_terms_Compare ir_terms_Compare := go1 rfl rfl rfl
theorem go_law04_plainAxiom : Go1 P0 F_law04_plainAxiom ir_law04_plainAxiom := go1 rfl rfl rfl
theorem go_law04_plain : Go1 P0 F_law04_plain ir_law04_plain := go1 rfl rfl rfl
theorem go_syntax_Document : Go1 P0 F_syntax_Document ir_syntax_Document := go1 rfl rfl rfl
theorem go_lexis_Tokens : Go1 P0 F_lexis_Tokens ir_lexis_Tokens := go1 rfl rfl rfl
theorem go_lexis_classes : Go1 P0 F_lexis_classes ir_lexis_classes := go1 rfl rfl rfl
theorem go_lexis_scan : Go1 P0 F_lexis_scan ir_lexis_scan := go1 rfl rfl rfl
theorem go_lexis_run : Go1 P0 F_lexis_run ir_lexis_run := go1 rfl rfl rfl
theorem go_lexis_integer : Go1 P0 F_lexis_integer ir_lexis_integer := go1 rfl rfl rfl
theorem go_slices_Clone_api_Problem_api_Problem : Go1 P0 F_slices_Clone_api_Problem_api_Problem ir_slices_Clone_api_Problem_api_Problem := go1 rfl rfl rfl
theorem go_syntax_newParser : Go1 P0 F_syntax_newParser ir_syntax_newParser := go1 rfl rfl rfl
theorem go_syntax_parser_domain : Go1 P0 F_syntax_parser_domain ir_syntax_parser_domain := go1 rfl rfl rfl
theorem go_syntax_parser_name : Go1 P0 F_syntax_parser_name ir_syntax_parser_name := go1 rfl rfl rfl
theorem go_syntax_parser_atName : Go1 P0 F_syntax_parser_atName ir_syntax_parser_atName := go1 rfl rfl rfl
theorem go_syntax_parser_token : Go1 P0 F_syntax_parser_token ir_syntax_parser_token := go1 rfl rfl rfl
theorem go_syntax_parser_concept : Go1 P0 F_syntax_parser_concept ir_syntax_parser_concept := go1 rfl rfl rfl
theorem go_syntax_parser_single : Go1 P0 F_syntax_parser_single ir_syntax_parser_single := go1 rfl rfl rfl
theorem go_syntax_parser_skip : Go1 P0 F_syntax_parser_skip ir_syntax_parser_skip := go1 rfl rfl rfl
theorem go_syntax_parser_is : Go1 P0 F_syntax_parser_is ir_syntax_parser_is := go1 rfl rfl rfl
theorem go_syntax_parser_want : Go1 P0 F_syntax_parser_want ir_syntax_parser_want := go1 rfl rfl rfl
theorem go_syntax_parser_number : Go1 P0 F_syntax_parser_number ir_syntax_parser_number := go1 rfl rfl rfl
theorem go_syntax_parser_role : Go1 P0 F_syntax_parser_role ir_syntax_parser_role := go1 rfl rfl rfl
theorem go_syntax_parser_chain : Go1 P0 F_syntax_parser_chain ir_syntax_parser_chain := go1 rfl rfl rfl
theorem go_syntax_parser_reflexive : Go1 P0 F_syntax_parser_reflexive ir_syntax_parser_reflexive := go1 rfl rfl rfl
theorem go_syntax_parser_typing : Go1 P0 F_syntax_parser_typing ir_syntax_parser_typing := go1 rfl rfl rfl
theorem go_syntax_parser_link : Go1 P0 F_syntax_parser_link ir_syntax_parser_link := go1 rfl rfl rfl
theorem go_syntax_parser_item : Go1 P0 F_syntax_parser_item ir_syntax_parser_item := go1 rfl rfl rfl
theorem go_syntax_parser_item_1 : Go1 P0 F_syntax_parser_item_1 ir_syntax_parser_item_1 := go1 rfl rfl rfl
theorem go_syntax_parser_axiom : Go1 P0 F_syntax_parser_axiom ir_syntax_parser_axiom := go1 rfl rfl rfl
theorem go_syntax_parser_inclusion : Go1 P0 F_syntax_parser_inclusion ir_syntax_parser_inclusion := go1 rfl rfl rfl
theorem go_slices_SortStableFunc_api_Problem_api_Problem : Go1 P0 F_slices_SortStableFunc_api_Problem_api_Problem ir_slices_SortStableFunc_api_Problem_api_Problem := go1 rfl rfl rfl
theorem go_slices_stableCmpFunc_api_Problem : Go1 P0 F_slices_stableCmpFunc_api_Problem ir_slices_stableCmpFunc_api_Problem := go1 rfl rfl rfl
theorem go_slices_insertionSortCmpFunc_api_Problem : Go1 P0 F_slices_insertionSortCmpFunc_api_Problem ir_slices_insertionSortCmpFunc_api_Problem := go1 rfl rfl rfl
theorem go_terms_CompareAxiom : Go1 P0 F_terms_CompareAxiom ir_terms_CompareAxiom := go1 rfl rfl rfl
theorem go_terms_weight : Go1 P0 F_terms_weight ir_terms_weight := go1 rfl rfl rfl
theorem go_terms_Size : Go1 P0 F_terms_Size ir_terms_Size := go1 rfl rfl rfl
theorem go_slices_Compare_string_string : Go1 P0 F_slices_Compare_string_string ir_slices_Compare_string_string := go1 rfl rfl rfl
theorem go_cmp_Compare_string : Go1 P0 F_cmp_Compare_string ir_cmp_Compare_string := go1 rfl rfl rfl
theorem go_cmp_isNaN_string : Go1 P0 F_cmp_isNaN_string ir_cmp_isNaN_string := go1 rfl rfl rfl
theorem goq1 {f : Nat} {fn : AFun} (hi : intrQList.lookup f = none) (hf : fnList.lookup f = some fn) : Go1 Pq f fn := fun ho h => goq hi hf ho h
theorem goq_terms_tree_compare : Go1 Pq F_terms_tree_compare ir_terms_tree_compare := goq1 rfl rfl
theorem goq_cmp_Or_int : Go1 Pq F_cmp_Or_int ir_cmp_Or_int := goq1 rfl rfl
theorem goq_cmp_Compare_int : Go1 Pq F_cmp_Compare_int ir_cmp_Compare_int := goq1 rfl rfl
theorem goq_cmp_isNaN_int : Go1 Pq F_cmp_isNaN_int ir_cmp_isNaN_int := goq1 rfl rfl
theorem goq_slices_CompareFunc_terms_tree_terms_tree_terms_tree_terms_tree : Go1 Pq F_slices_CompareFunc_terms_tree_terms_tree_terms_tree_terms_tree ir_slices_CompareFunc_terms_tree_terms_tree_terms_tree_terms_tree := goq1 rfl rfl
end Go.Ai.Z
