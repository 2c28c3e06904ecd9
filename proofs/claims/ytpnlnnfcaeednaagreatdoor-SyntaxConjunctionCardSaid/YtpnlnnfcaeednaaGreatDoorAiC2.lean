/-
 The program in the small language: written by program.
-/
import Derived.Test.YtpnlnnfcaeednaaGreatDoorAiDat
import Derived.Test.YtpnlnnfcaeednaaGreatDoorAiC1
set_option maxRecDepth 100000
set_option linter.unusedSimpArgs false
set_option linter.unusedVariables false
set_option linter.unusedSectionVars false
namespace Go.Ai.Z
def fnList : List (Nat × AFun) :=
 [(F_law03_SyntaxConjunction, ir_law03_SyntaxConjunction),
  (F_law03_sane, ir_law03_sane),
  (F_syntax_Document, ir_syntax_Document),
  (F_lexis_Tokens, ir_lexis_Tokens),
  (F_lexis_classes, ir_lexis_classes),
  (F_lexis_Tokens_1, ir_lexis_Tokens_1),
  (F_lexis_scan, ir_lexis_scan),
  (F_lexis_run, ir_lexis_run),
  (F_lexis_integer, ir_lexis_integer),
  (F_slices_Clone_api_Problem_api_Problem, ir_slices_Clone_api_Problem_api_Problem),
  (F_syntax_newParser, ir_syntax_newParser),
  (F_syntax_parser_domain, ir_syntax_parser_domain),
  (F_syntax_parser_name, ir_syntax_parser_name),
  (F_syntax_parser_atName, ir_syntax_parser_atName),
  (F_syntax_parser_token, ir_syntax_parser_token),
  (F_lexis_Keyword, ir_lexis_Keyword),
  (F_syntax_parser_fail, ir_syntax_parser_fail),
  (F_terms_CheckName, ir_terms_CheckName),
  (F_terms_isPlain, ir_terms_isPlain),
  (F_strings_Cut, ir_strings_Cut),
  (F_internal_stringslite_Cut, ir_internal_stringslite_Cut),
  (F_terms_isWord, ir_terms_isWord),
  (F_terms_isLetter, ir_terms_isLetter),
  (F_terms_isTail, ir_terms_isTail),
  (F_terms_isReserved, ir_terms_isReserved),
  (F_syntax_parser_concept, ir_syntax_parser_concept),
  (F_syntax_parser_single, ir_syntax_parser_single),
  (F_syntax_parser_skip, ir_syntax_parser_skip),
  (F_syntax_parser_is, ir_syntax_parser_is),
  (F_syntax_parser_want, ir_syntax_parser_want),
  (F_syntax_parser_number, ir_syntax_parser_number),
  (F_syntax_parser_role, ir_syntax_parser_role),
  (F_syntax_parser_chain, ir_syntax_parser_chain),
  (F_syntax_parser_reflexive, ir_syntax_parser_reflexive),
  (F_syntax_parser_typing, ir_syntax_parser_typing),
  (F_syntax_parser_link, ir_syntax_parser_link),
  (F_syntax_parser_item, ir_syntax_parser_item),
  (F_syntax_parser_item_1, ir_syntax_parser_item_1),
  (F_syntax_parser_axiom, ir_syntax_parser_axiom),
  (F_syntax_parser_inclusion, ir_syntax_parser_inclusion),
  (F_terms_TidyAxiom, ir_terms_TidyAxiom),
  (F_terms_CheckAxiom, ir_terms_CheckAxiom),
  (F_terms_isShaped, ir_terms_isShaped),
  (F_terms_isEmpty, ir_terms_isEmpty),
  (F_terms_isNamed, ir_terms_isNamed),
  (F_terms_CheckConcept, ir_terms_CheckConcept),
  (F_terms_fits, ir_terms_fits),
  (F_terms_walk, ir_terms_walk),
  (F_terms_walk_1, ir_terms_walk_1),
  (F_terms_visit, ir_terms_visit),
  (F_terms_checkFields, ir_terms_checkFields),
  (F_terms_isBare, ir_terms_isBare),
  (F_slices_ContainsFunc_api_Concept_api_Concept, ir_slices_ContainsFunc_api_Concept_api_Concept),
  (F_slices_IndexFunc_api_Concept_api_Concept, ir_slices_IndexFunc_api_Concept_api_Concept),
  (F_terms_tidy, ir_terms_tidy),
  (F_terms_meet, ir_terms_meet),
  (F_terms_grow, ir_terms_grow),
  (F_terms_tree_compare, ir_terms_tree_compare),
  (F_cmp_Compare_int, ir_cmp_Compare_int),
  (F_cmp_isNaN_int, ir_cmp_isNaN_int),
  (F_cmp_Or_int, ir_cmp_Or_int),
  (F_slices_CompareFunc_terms_tree_terms_tree_terms_tree_terms_tree, ir_slices_CompareFunc_terms_tree_terms_tree_terms_tree_terms_tree),
  (F_slices_CompactFunc_terms_tree_terms_tree, ir_slices_CompactFunc_terms_tree_terms_tree),
  (F_terms_meet_1, ir_terms_meet_1),
  (F_terms_Compare, ir_terms_Compare),
  (F_slices_SortStableFunc_api_Problem_api_Problem, ir_slices_SortStableFunc_api_Problem_api_Problem),
  (F_slices_stableCmpFunc_api_Problem, ir_slices_stableCmpFunc_api_Problem),
  (F_slices_insertionSortCmpFunc_api_Problem, ir_slices_insertionSortCmpFunc_api_Problem),
  (F_slices_symMergeCmpFunc_api_Problem, ir_slices_symMergeCmpFunc_api_Problem),
  (F_slices_rotateCmpFunc_api_Problem, ir_slices_rotateCmpFunc_api_Problem),
  (F_slices_swapRangeCmpFunc_api_Problem, ir_slices_swapRangeCmpFunc_api_Problem),
  (F_syntax_Document_1, ir_syntax_Document_1),
  (F_syntax_Concept, ir_syntax_Concept),
  (F_syntax_Concept_1, ir_syntax_Concept_1),
  (F_syntax_Concept_2, ir_syntax_Concept_2),
  (F_terms_Tidy, ir_terms_Tidy),
  (F_syntax_whole, ir_syntax_whole),
  (F_syntax_whole_1, ir_syntax_whole_1),
  (F_syntax_parser_end, ir_syntax_parser_end),
  (F_syntax_Axiom, ir_syntax_Axiom),
  (F_syntax_Axiom_1, ir_syntax_Axiom_1),
  (F_syntax_Axiom_2, ir_syntax_Axiom_2),
  (F_law03_few, ir_law03_few)]
def globList : List (Nat × List AV) :=
 [(G_terms_needs, [.i .i64 0, .i .i64 0, .i .i64 0, .b false, .i .i64 0, .i .i64 0, .i .i64 0, .b false, .i .i64 0, .i .i64 0, .i .i64 0, .b false, .i .i64 1, .i .i64 0, .i .i64 0, .b false, .i .i64 2, .i .i64 0, .i .i64 0, .b false, .i .i64 0, .i .i64 2, .i .i64 8, .b false, .i .i64 1, .i .i64 1, .i .i64 1, .b false, .i .i64 1, .i .i64 0, .i .i64 0, .b true]),
  (G_terms_uses, [.b false, .b false, .b false, .b false, .b false, .i .i64 0, .i .i64 0,
   .b true, .b true, .b false, .b false, .b false, .i .i64 0, .i .i64 0,
   .b true, .b true, .b false, .b false, .b false, .i .i64 0, .i .i64 0,
   .b true, .b true, .b false, .b false, .b false, .i .i64 0, .i .i64 0,
   .b false, .b true, .b true, .b false, .b false, .i .i64 0, .i .i64 0,
   .b false, .b false, .b true, .b false, .b false, .i .i64 1, .i .i64 1,
   .b false, .b false, .b true, .b false, .b false, .i .i64 2, .i .i64 4,
   .b false, .b false, .b true, .b false, .b false, .i .i64 0, .i .i64 0,
   .b false, .b true, .b false, .b true, .b false, .i .i64 0, .i .i64 0,
   .b false, .b false, .b true, .b true, .b true, .i .i64 0, .i .i64 0])]
def intrList : List (Nat × (List AV → St → Option AV)) :=
 [(F_internal_stringslite_Index, pureI iIndex), (F_strings_Compare, pureI iCompare), (F_strconv_Atoi, pureI iAtoi)]
def hiList : List (Nat × HiK) :=
 [(F_slices_SortFunc_terms_tree_terms_tree, .sortK 7), (F_syntax_try, .tryK (.tu [.ag [.i .i64 0, .i .i64 0], .b false]) 112)]
def intrQList : List (Nat × (List AV → St → Option AV)) :=
 [(F_strings_Compare, pureI iCompare)]
def P0 : AProg := ⟨fun f => fnList.lookup f, fun k => globList.lookup k, fun f => intrList.lookup f, fun f => hiList.lookup f, fun f => intrQList.lookup f⟩
def Pq : AProg := P0.quiet
theorem go {f : Nat} {fn : AFun} (hi : intrList.lookup f = none) (hh : hiList.lookup f = none) (hf : fnList.lookup f = some fn) {as cs args : List AV} {s : St} {cx : Ctx} {o : CO} (ho : o ≠ .fail)
  (h : callFnW P0.glob (acallW P0) fn (as ++ args ++ cs) s cx = o) : acallW P0 (.fn (.func f) as cs) args s cx = o := acallW_fn hi hh hf ho h
theorem goq {f : Nat} {fn : AFun} (hi : intrQList.lookup f = none) (hf : fnList.lookup f = some fn) {as cs args : List AV} {s : St} {cx : Ctx} {o : CO} (ho : o ≠ .fail)
  (h : callFnW Pq.glob (acallW Pq) fn (as ++ args ++ cs) s cx = o) : acallW Pq (.fn (.func f) as cs) args s cx = o := acallW_fn (A := Pq) hi rfl hf ho h
def Go1 (A : AProg) (f : Nat) (fn : AFun) : Prop := ∀ {as cs args : List AV} {s : St} {cx : Ctx} {o : CO}, o ≠ .fail → callFnW A.glob (acallW A) fn (as ++ args ++ cs) s cx = o → acallW A (.fn (.func f) as cs) args s cx = o
theorem go1 {f : Nat} {fn : AFun} (hi : intrList.lookup f = none) (hh : hiList.lookup f = none) (hf : fnList.lookup f = some fn) : Go1 P0 f fn := fun ho h => go hi hh hf ho h
theorem go_law03_SyntaxConjunction : Go1 P0 F_law03_SyntaxConjunction ir_law03_SyntaxConjunction := go1 rfl rfl rfl
theorem go_lexis_Tokens : Go1 P0 F_lexis_Tokens ir_lexis_Tokens := go1 rfl rfl rfl
theorem go_lexis_classes : Go1 P0 F_lexis_classes ir_lexis_classes := go1 rfl rfl rfl
theorem go_lexis_Tokens_1 : Go1 P0 F_lexis_Tokens_1 ir_lexis_Tokens_1 := go1 rfl rfl rfl
theorem go_lexis_scan : Go1 P0 F_lexis_scan ir_lexis_scan := go1 rfl rfl rfl
theorem go_lexis_run : Go1 P0 F_lexis_run ir_lexis_run := go1 rfl rfl rfl
theorem go_lexis_integer : Go1 P0 F_lexis_integer ir_lexis_integer := go1 rfl rfl rfl
theorem go_syntax_newParser : Go1 P0 F_syntax_newParser ir_syntax_newParser := go1 rfl rfl rfl
theorem go_syntax_parser_name : Go1 P0 F_syntax_parser_name ir_syntax_parser_name := go1 rfl rfl rfl
theorem go_syntax_parser_atName : Go1 P0 F_syntax_parser_atName ir_syntax_parser_atName := go1 rfl rfl rfl
theorem go_syntax_parser_token : Go1 P0 F_syntax_parser_token ir_syntax_parser_token := go1 rfl rfl rfl
theorem go_lexis_Keyword : Go1 P0 F_lexis_Keyword ir_lexis_Keyword := go1 rfl rfl rfl
theorem go_syntax_parser_fail : Go1 P0 F_syntax_parser_fail ir_syntax_parser_fail := go1 rfl rfl rfl
theorem go_terms_CheckName : Go1 P0 F_terms_CheckName ir_terms_CheckName := go1 rfl rfl rfl
theorem go_terms_isPlain : Go1 P0 F_terms_isPlain ir_terms_isPlain := go1 rfl rfl rfl
theorem go_strings_Cut : Go1 P0 F_strings_Cut ir_strings_Cut := go1 rfl rfl rfl
theorem go_internal_stringslite_Cut : Go1 P0 F_internal_stringslite_Cut ir_internal_stringslite_Cut := go1 rfl rfl rfl
theorem go_terms_isWord : Go1 P0 F_terms_isWord ir_terms_isWord := go1 rfl rfl rfl
theorem go_terms_isLetter : Go1 P0 F_terms_isLetter ir_terms_isLetter := go1 rfl rfl rfl
theorem go_terms_isTail : Go1 P0 F_terms_isTail ir_terms_isTail := go1 rfl rfl rfl
theorem go_terms_isReserved : Go1 P0 F_terms_isReserved ir_terms_isReserved := go1 rfl rfl rfl
theorem go_syntax_parser_concept : Go1 P0 F_syntax_parser_concept ir_syntax_parser_concept := go1 rfl rfl rfl
theorem go_syntax_parser_single : Go1 P0 F_syntax_parser_single ir_syntax_parser_single := go1 rfl rfl rfl
theorem go_syntax_parser_skip : Go1 P0 F_syntax_parser_skip ir_syntax_parser_skip := go1 rfl rfl rfl
theorem go_syntax_parser_is : Go1 P0 F_syntax_parser_is ir_syntax_parser_is := go1 rfl rfl rfl
theorem go_syntax_parser_want : Go1 P0 F_syntax_parser_want ir_syntax_parser_want := go1 rfl rfl rfl
theorem go_syntax_parser_number : Go1 P0 F_syntax_parser_number ir_syntax_parser_number := go1 rfl rfl rfl
theorem go_terms_CheckConcept : Go1 P0 F_terms_CheckConcept ir_terms_CheckConcept := go1 rfl rfl rfl
theorem go_terms_fits : Go1 P0 F_terms_fits ir_terms_fits := go1 rfl rfl rfl
theorem go_terms_walk : Go1 P0 F_terms_walk ir_terms_walk := go1 rfl rfl rfl
theorem go_terms_walk_1 : Go1 P0 F_terms_walk_1 ir_terms_walk_1 := go1 rfl rfl rfl
theorem go_terms_visit : Go1 P0 F_terms_visit ir_terms_visit := go1 rfl rfl rfl
theorem go_terms_checkFields : Go1 P0 F_terms_checkFields ir_terms_checkFields := go1 rfl rfl rfl
theorem go_terms_tidy : Go1 P0 F_terms_tidy ir_terms_tidy := go1 rfl rfl rfl
theorem go_terms_meet : Go1 P0 F_terms_meet ir_terms_meet := go1 rfl rfl rfl
theorem go_terms_grow : Go1 P0 F_terms_grow ir_terms_grow := go1 rfl rfl rfl
theorem go_terms_tree_compare : Go1 P0 F_terms_tree_compare ir_terms_tree_compare := go1 rfl rfl rfl
theorem go_cmp_Compare_int : Go1 P0 F_cmp_Compare_int ir_cmp_Compare_int := go1 rfl rfl rfl
theorem go_cmp_isNaN_int : Go1 P0 F_cmp_isNaN_int ir_cmp_isNaN_int := go1 rfl rfl rfl
theorem go_cmp_Or_int : Go1 P0 F_cmp_Or_int ir_cmp_Or_int := go1 rfl rfl rfl
theorem go_slices_CompareFunc_terms_tree_terms_tree_terms_tree_terms_tree : Go1 P0 F_slices_CompareFunc_terms_tree_terms_tree_terms_tree_terms_tree ir_slices_CompareFunc_terms_tree_terms_tree_terms_tree_terms_tree := go1 rfl rfl rfl
theorem go_slices_CompactFunc_terms_tree_terms_tree : Go1 P0 F_slices_CompactFunc_terms_tree_terms_tree ir_slices_CompactFunc_terms_tree_terms_tree := go1 rfl rfl rfl
theorem go_terms_meet_1 : Go1 P0 F_terms_meet_1 ir_terms_meet_1 := go1 rfl rfl rfl
theorem go_terms_Compare : Go1 P0 F_terms_Compare ir_terms_Compare := go1 rfl rfl rfl
theorem go_syntax_Concept : Go1 P0 F_syntax_Concept ir_syntax_Concept := go1 rfl rfl rfl
theorem go_syntax_Concept_1 : Go1 P0 F_syntax_Concept_1 ir_syntax_Concept_1 := go1 rfl rfl rfl
theorem go_syntax_Concept_2 : Go1 P0 F_syntax_Concept_2 ir_syntax_Concept_2 := go1 rfl rfl rfl
theorem go_terms_Tidy : Go1 P0 F_terms_Tidy ir_terms_Tidy := go1 rfl rfl rfl
theorem go_syntax_whole : Go1 P0 F_syntax_whole ir_syntax_whole := go1 rfl rfl rfl
theorem go_syntax_whole_1 : Go1 P0 F_syntax_whole_1 ir_syntax_whole_1 := go1 rfl rfl rfl
theorem go_syntax_parser_end : Go1 P0 F_syntax_parser_end ir_syntax_parser_end := go1 rfl rfl rfl
theorem go_law03_few : Go1 P0 F_law03_few ir_law03_few := go1 rfl rfl rfl
theorem goq1 {f : Nat} {fn : AFun} (hi : intrQList.lookup f = none) (hf : fnList.lookup f = some fn) : Go1 Pq f fn := fun ho h => goq hi hf ho h
theorem goq_terms_tree_compare : Go1 Pq F_terms_tree_compare ir_terms_tree_compare := goq1 rfl rfl
theorem goq_cmp_Or_int : Go1 Pq F_cmp_Or_int ir_cmp_Or_int := goq1 rfl rfl
theorem goq_cmp_Compare_int : Go1 Pq F_cmp_Compare_int ir_cmp_Compare_int := goq1 rfl rfl
theorem goq_cmp_isNaN_int : Go1 Pq F_cmp_isNaN_int ir_cmp_isNaN_int := goq1 rfl rfl
theorem goq_slices_CompareFunc_terms_tree_terms_tree_terms_tree_terms_tree : Go1 Pq F_slices_CompareFunc_terms_tree_terms_tree_terms_tree_terms_tree ir_slices_CompareFunc_terms_tree_terms_tree_terms_tree_terms_tree := goq1 rfl rfl
end Go.Ai.Z
