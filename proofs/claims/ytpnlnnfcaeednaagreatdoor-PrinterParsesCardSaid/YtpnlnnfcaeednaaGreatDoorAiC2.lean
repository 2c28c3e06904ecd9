/-
  The program in the small language: written by program.
-/
import Derived.Test.YtpnlnnfcaeednaaGreatDoorAiDat
import Derived.Test.YtpnlnnfcaeednaaGreatDoorAiC1
set_option maxRecDepth 100000
set_option linter.unusedSimpArgs false
set_option linter.unusedVariables false
set_option linter.unusedSectionVars false
namespace Go.Ai.Z
def fnList : List (Nat × AFun) :=
  [(F_law04_PrinterParses, ir_law04_PrinterParses),
   (F_law04_sane, ir_law04_sane),
   (F_law04_named, ir_law04_named),
   (F_law04_and, ir_law04_and),
   (F_law04_some, ir_law04_some),
   (F_law04_prints, ir_law04_prints),
   (F_printer_Concept, ir_printer_Concept),
   (F_terms_CheckConcept, ir_terms_CheckConcept),
   (F_terms_fits, ir_terms_fits),
   (F_terms_walk, ir_terms_walk),
   (F_terms_walk_1, ir_terms_walk_1),
   (F_terms_visit, ir_terms_visit),
   (F_terms_checkFields, ir_terms_checkFields),
   (F_terms_isPlain, ir_terms_isPlain),
   (F_strings_Cut, ir_strings_Cut),
   (F_internal_stringslite_Cut, ir_internal_stringslite_Cut),
   (F_terms_isWord, ir_terms_isWord),
   (F_terms_isLetter, ir_terms_isLetter),
   (F_terms_isTail, ir_terms_isTail),
   (F_lexis_Keyword, ir_lexis_Keyword),
   (F_terms_isReserved, ir_terms_isReserved),
   (F_printer_newPrinter, ir_printer_newPrinter),
   (F_printer_printer_top, ir_printer_printer_top),
   (F_printer_printer_bottom, ir_printer_printer_bottom),
   (F_printer_printer_named, ir_printer_printer_named),
   (F_printer_printer_nominal, ir_printer_printer_nominal),
   (F_printer_printer_and, ir_printer_printer_and),
   (F_printer_printer_operand, ir_printer_printer_operand),
   (F_printer_printer_text, ir_printer_printer_text),
   (F_printer_printer_some, ir_printer_printer_some),
   (F_printer_words, ir_printer_words),
   (F_printer_printer_span, ir_printer_printer_span),
   (F_printer_printer_sub, ir_printer_printer_sub),
   (F_printer_printer_same, ir_printer_printer_same),
   (F_printer_printer_disjoint, ir_printer_printer_disjoint),
   (F_printer_printer_domain, ir_printer_printer_domain),
   (F_printer_printer_role, ir_printer_printer_role),
   (F_printer_printer_chain, ir_printer_printer_chain),
   (F_printer_printer_reflexive, ir_printer_printer_reflexive),
   (F_printer_printer_typing, ir_printer_printer_typing),
   (F_printer_printer_link, ir_printer_printer_link),
   (F_law04_states, ir_law04_states),
   (F_printer_Axiom, ir_printer_Axiom),
   (F_terms_CheckAxiom, ir_terms_CheckAxiom),
   (F_terms_isShaped, ir_terms_isShaped),
   (F_terms_isEmpty, ir_terms_isEmpty),
   (F_terms_isNamed, ir_terms_isNamed),
   (F_terms_CheckName, ir_terms_CheckName),
   (F_terms_isBare, ir_terms_isBare),
   (F_slices_ContainsFunc_api_Concept_api_Concept, ir_slices_ContainsFunc_api_Concept_api_Concept),
   (F_slices_IndexFunc_api_Concept_api_Concept, ir_slices_IndexFunc_api_Concept_api_Concept),
   (F_printer_printer_axiom, ir_printer_printer_axiom),
   (F_printer_Document, ir_printer_Document),
   (F_ref02_Few, ir_ref02_Few),
   (F_ref02_count, ir_ref02_count),
   (F_law04_plain, ir_law04_plain),
   (F_terms_Tidy, ir_terms_Tidy),
   (F_terms_tidy, ir_terms_tidy),
   (F_terms_meet, ir_terms_meet),
   (F_terms_grow, ir_terms_grow),
   (F_terms_tree_compare, ir_terms_tree_compare),
   (F_cmp_Compare_int, ir_cmp_Compare_int),
   (F_cmp_isNaN_int, ir_cmp_isNaN_int),
   (F_cmp_Or_int, ir_cmp_Or_int),
   (F_slices_CompareFunc_terms_tree_terms_tree_terms_tree_terms_tree, ir_slices_CompareFunc_terms_tree_terms_tree_terms_tree_terms_tree),
   (F_slices_CompactFunc_terms_tree_terms_tree, ir_slices_CompactFunc_terms_tree_terms_tree),
   (F_terms_meet_1, ir_terms_meet_1),
   (F_syntax_Concept, ir_syntax_Concept),
   (F_syntax_Concept_1, ir_syntax_Concept_1),
   (F_syntax_parser_concept, ir_syntax_parser_concept),
   (F_syntax_parser_single, ir_syntax_parser_single),
   (F_syntax_parser_skip, ir_syntax_parser_skip),
   (F_syntax_parser_is, ir_syntax_parser_is),
   (F_syntax_parser_token, ir_syntax_parser_token),
   (F_syntax_parser_name, ir_syntax_parser_name),
   (F_syntax_parser_atName, ir_syntax_parser_atName),
   (F_syntax_parser_fail, ir_syntax_parser_fail),
   (F_syntax_parser_want, ir_syntax_parser_want),
   (F_syntax_parser_number, ir_syntax_parser_number),
   (F_syntax_Concept_2, ir_syntax_Concept_2),
   (F_syntax_whole, ir_syntax_whole),
   (F_lexis_Tokens, ir_lexis_Tokens),
   (F_lexis_classes, ir_lexis_classes),
   (F_lexis_Tokens_1, ir_lexis_Tokens_1),
   (F_lexis_scan, ir_lexis_scan),
   (F_lexis_run, ir_lexis_run),
   (F_lexis_integer, ir_lexis_integer),
   (F_syntax_newParser, ir_syntax_newParser),
   (F_syntax_parser_domain, ir_syntax_parser_domain),
   (F_syntax_parser_role, ir_syntax_parser_role),
   (F_syntax_parser_chain, ir_syntax_parser_chain),
   (F_syntax_parser_reflexive, ir_syntax_parser_reflexive),
   (F_syntax_parser_typing, ir_syntax_parser_typing),
   (F_syntax_parser_link, ir_syntax_parser_link),
   (F_syntax_whole_1, ir_syntax_whole_1),
   (F_syntax_parser_end, ir_syntax_parser_end),
   (F_terms_Compare, ir_terms_Compare)]
def globList : List (Nat × List AV) :=
  [(G_terms_needs, [.i .i64 0, .i .i64 0, .i .i64 0, .b false, .i .i64 0, .i .i64 0, .i .i64 0, .b false, .i .i64 0, .i .i64 0, .i .i64 0, .b false, .i .i64 1, .i .i64 0, .i .i64 0, .b false, .i .i64 2, .i .i64 0, .i .i64 0, .b false, .i .i64 0, .i .i64 2, .i .i64 8, .b false, .i .i64 1, .i .i64 1, .i .i64 1, .b false, .i .i64 1, .i .i64 0, .i .i64 0, .b true]),
   (G_terms_uses, [.b false, .b false, .b false, .b false, .b false, .i .i64 0, .i .i64 0,
     .b true, .b true, .b false, .b false, .b false, .i .i64 0, .i .i64 0,
     .b true, .b true, .b false, .b false, .b false, .i .i64 0, .i .i64 0,
     .b true, .b true, .b false, .b false, .b false, .i .i64 0, .i .i64 0,
     .b false, .b true, .b true, .b false, .b false, .i .i64 0, .i .i64 0,
     .b false, .b false, .b true, .b false, .b false, .i .i64 1, .i .i64 1,
     .b false, .b false, .b true, .b false, .b false, .i .i64 2, .i .i64 4,
     .b false, .b false, .b true, .b false, .b false, .i .i64 0, .i .i64 0,
     .b false, .b true, .b false, .b true, .b false, .i .i64 0, .i .i64 0,
     .b false, .b false, .b true, .b true, .b true, .i .i64 0, .i .i64 0]),
   (G_internal_strconv_uint64pow10, [.i .u64 1, .i .u64 10, .i .u64 100, .i .u64 1000, .i .u64 10000, .i .u64 100000, .i .u64 1000000, .i .u64 10000000, .i .u64 100000000, .i .u64 1000000000, .i .u64 10000000000, .i .u64 100000000000, .i .u64 1000000000000, .i .u64 10000000000000, .i .u64 100000000000000, .i .u64 1000000000000000, .i .u64 10000000000000000, .i .u64 100000000000000000, .i .u64 1000000000000000000, .i .u64 10000000000000000000])]
def intrList : List (Nat × (List AV → St → Option AV)) :=
  [(F_strings_Join, pureI iJoin), (F_strconv_Itoa, pureI iItoa), (F_internal_stringslite_Index, pureI iIndex), (F_strings_Compare, pureI iCompare), (F_strconv_Atoi, pureI iAtoi)]
def hiList : List (Nat × HiK) :=
  [(F_slices_SortFunc_terms_tree_terms_tree, .sortK 7), (F_syntax_try, .tryK (.tu [.ag [.i .i64 0, .i .i64 0], .b false]))]
def intrQList : List (Nat × (List AV → St → Option AV)) :=
  [(F_strings_Compare, pureI iCompare)]
def P0 : AProg := ⟨fun f => fnList.lookup f, fun k => globList.lookup k, fun f => intrList.lookup f, fun f => hiList.lookup f, fun f => intrQList.lookup f⟩
def Pq : AProg := P0.quiet
theorem go {f : Nat} {fn : AFun} (hi : intrList.lookup f = none) (hh : hiList.lookup f = none) (hf : fnList.lookup f = some fn) {as cs args : List AV} {s : St} {cx : Ctx} {o : CO} (ho : o ≠ .fail)
    (h : callFnW P0.glob (acallW P0) fn (as ++ args ++ cs) s cx = o) : acallW P0 (.fn (.func f) as cs) args s cx = o := acallW_fn hi hh hf ho h
theorem goq {f : Nat} {fn : AFun} (hi : intrQList.lookup f = none) (hf : fnList.lookup f = some fn) {as cs args : List AV} {s : St} {cx : Ctx} {o : CO} (ho : o ≠ .fail)
    (h : callFnW Pq.glob (acallW Pq) fn (as ++ args ++ cs) s cx = o) : acallW Pq (.fn (.func f) as cs) args s cx = o := acallW_fn (A := Pq) hi rfl hf ho h
theorem go_law04_PrinterParses {as cs args : List AV} {s : St} {cx : Ctx} {o : CO} (ho : o ≠ .fail) (h : callFnW P0.glob (acallW P0) ir_law04_PrinterParses (as ++ args ++ cs) s cx = o) : acallW P0 (.fn (.func F_law04_PrinterParses) as cs) args s cx = o := go rfl rfl rfl ho h
theorem go_printer_Concept {as cs args : List AV} {s : St} {cx : Ctx} {o : CO} (ho : o ≠ .fail) (h : callFnW P0.glob (acallW P0) ir_printer_Concept (as ++ args ++ cs) s cx = o) : acallW P0 (.fn (.func F_printer_Concept) as cs) args s cx = o := go rfl rfl rfl ho h
theorem go_terms_CheckConcept {as cs args : List AV} {s : St} {cx : Ctx} {o : CO} (ho : o ≠ .fail) (h : callFnW P0.glob (acallW P0) ir_terms_CheckConcept (as ++ args ++ cs) s cx = o) : acallW P0 (.fn (.func F_terms_CheckConcept) as cs) args s cx = o := go rfl rfl rfl ho h
theorem go_terms_fits {as cs args : List AV} {s : St} {cx : Ctx} {o : CO} (ho : o ≠ .fail) (h : callFnW P0.glob (acallW P0) ir_terms_fits (as ++ args ++ cs) s cx = o) : acallW P0 (.fn (.func F_terms_fits) as cs) args s cx = o := go rfl rfl rfl ho h
theorem go_terms_walk {as cs args : List AV} {s : St} {cx : Ctx} {o : CO} (ho : o ≠ .fail) (h : callFnW P0.glob (acallW P0) ir_terms_walk (as ++ args ++ cs) s cx = o) : acallW P0 (.fn (.func F_terms_walk) as cs) args s cx = o := go rfl rfl rfl ho h
theorem go_terms_walk_1 {as cs args : List AV} {s : St} {cx : Ctx} {o : CO} (ho : o ≠ .fail) (h : callFnW P0.glob (acallW P0) ir_terms_walk_1 (as ++ args ++ cs) s cx = o) : acallW P0 (.fn (.func F_terms_walk_1) as cs) args s cx = o := go rfl rfl rfl ho h
theorem go_terms_visit {as cs args : List AV} {s : St} {cx : Ctx} {o : CO} (ho : o ≠ .fail) (h : callFnW P0.glob (acallW P0) ir_terms_visit (as ++ args ++ cs) s cx = o) : acallW P0 (.fn (.func F_terms_visit) as cs) args s cx = o := go rfl rfl rfl ho h
theorem go_terms_checkFields {as cs args : List AV} {s : St} {cx : Ctx} {o : CO} (ho : o ≠ .fail) (h : callFnW P0.glob (acallW P0) ir_terms_checkFields (as ++ args ++ cs) s cx = o) : acallW P0 (.fn (.func F_terms_checkFields) as cs) args s cx = o := go rfl rfl rfl ho h
theorem go_terms_isPlain {as cs args : List AV} {s : St} {cx : Ctx} {o : CO} (ho : o ≠ .fail) (h : callFnW P0.glob (acallW P0) ir_terms_isPlain (as ++ args ++ cs) s cx = o) : acallW P0 (.fn (.func F_terms_isPlain) as cs) args s cx = o := go rfl rfl rfl ho h
theorem go_strings_Cut {as cs args : List AV} {s : St} {cx : Ctx} {o : CO} (ho : o ≠ .fail) (h : callFnW P0.glob (acallW P0) ir_strings_Cut (as ++ args ++ cs) s cx = o) : acallW P0 (.fn (.func F_strings_Cut) as cs) args s cx = o := go rfl rfl rfl ho h
theorem go_internal_stringslite_Cut {as cs args : List AV} {s : St} {cx : Ctx} {o : CO} (ho : o ≠ .fail) (h : callFnW P0.glob (acallW P0) ir_internal_stringslite_Cut (as ++ args ++ cs) s cx = o) : acallW P0 (.fn (.func F_internal_stringslite_Cut) as cs) args s cx = o := go rfl rfl rfl ho h
theorem go_terms_isWord {as cs args : List AV} {s : St} {cx : Ctx} {o : CO} (ho : o ≠ .fail) (h : callFnW P0.glob (acallW P0) ir_terms_isWord (as ++ args ++ cs) s cx = o) : acallW P0 (.fn (.func F_terms_isWord) as cs) args s cx = o := go rfl rfl rfl ho h
theorem go_terms_isLetter {as cs args : List AV} {s : St} {cx : Ctx} {o : CO} (ho : o ≠ .fail) (h : callFnW P0.glob (acallW P0) ir_terms_isLetter (as ++ args ++ cs) s cx = o) : acallW P0 (.fn (.func F_terms_isLetter) as cs) args s cx = o := go rfl rfl rfl ho h
theorem go_terms_isTail {as cs args : List AV} {s : St} {cx : Ctx} {o : CO} (ho : o ≠ .fail) (h : callFnW P0.glob (acallW P0) ir_terms_isTail (as ++ args ++ cs) s cx = o) : acallW P0 (.fn (.func F_terms_isTail) as cs) args s cx = o := go rfl rfl rfl ho h
theorem go_lexis_Keyword {as cs args : List AV} {s : St} {cx : Ctx} {o : CO} (ho : o ≠ .fail) (h : callFnW P0.glob (acallW P0) ir_lexis_Keyword (as ++ args ++ cs) s cx = o) : acallW P0 (.fn (.func F_lexis_Keyword) as cs) args s cx = o := go rfl rfl rfl ho h
theorem go_terms_isReserved {as cs args : List AV} {s : St} {cx : Ctx} {o : CO} (ho : o ≠ .fail) (h : callFnW P0.glob (acallW P0) ir_terms_isReserved (as ++ args ++ cs) s cx = o) : acallW P0 (.fn (.func F_terms_isReserved) as cs) args s cx = o := go rfl rfl rfl ho h
theorem go_printer_newPrinter {as cs args : List AV} {s : St} {cx : Ctx} {o : CO} (ho : o ≠ .fail) (h : callFnW P0.glob (acallW P0) ir_printer_newPrinter (as ++ args ++ cs) s cx = o) : acallW P0 (.fn (.func F_printer_newPrinter) as cs) args s cx = o := go rfl rfl rfl ho h
theorem go_printer_printer_top {as cs args : List AV} {s : St} {cx : Ctx} {o : CO} (ho : o ≠ .fail) (h : callFnW P0.glob (acallW P0) ir_printer_printer_top (as ++ args ++ cs) s cx = o) : acallW P0 (.fn (.func F_printer_printer_top) as cs) args s cx = o := go rfl rfl rfl ho h
theorem go_printer_printer_bottom {as cs args : List AV} {s : St} {cx : Ctx} {o : CO} (ho : o ≠ .fail) (h : callFnW P0.glob (acallW P0) ir_printer_printer_bottom (as ++ args ++ cs) s cx = o) : acallW P0 (.fn (.func F_printer_printer_bottom) as cs) args s cx = o := go rfl rfl rfl ho h
theorem go_printer_printer_named {as cs args : List AV} {s : St} {cx : Ctx} {o : CO} (ho : o ≠ .fail) (h : callFnW P0.glob (acallW P0) ir_printer_printer_named (as ++ args ++ cs) s cx = o) : acallW P0 (.fn (.func F_printer_printer_named) as cs) args s cx = o := go rfl rfl rfl ho h
theorem go_printer_printer_nominal {as cs args : List AV} {s : St} {cx : Ctx} {o : CO} (ho : o ≠ .fail) (h : callFnW P0.glob (acallW P0) ir_printer_printer_nominal (as ++ args ++ cs) s cx = o) : acallW P0 (.fn (.func F_printer_printer_nominal) as cs) args s cx = o := go rfl rfl rfl ho h
theorem go_printer_printer_and {as cs args : List AV} {s : St} {cx : Ctx} {o : CO} (ho : o ≠ .fail) (h : callFnW P0.glob (acallW P0) ir_printer_printer_and (as ++ args ++ cs) s cx = o) : acallW P0 (.fn (.func F_printer_printer_and) as cs) args s cx = o := go rfl rfl rfl ho h
theorem go_printer_printer_operand {as cs args : List AV} {s : St} {cx : Ctx} {o : CO} (ho : o ≠ .fail) (h : callFnW P0.glob (acallW P0) ir_printer_printer_operand (as ++ args ++ cs) s cx = o) : acallW P0 (.fn (.func F_printer_printer_operand) as cs) args s cx = o := go rfl rfl rfl ho h
theorem go_printer_printer_text {as cs args : List AV} {s : St} {cx : Ctx} {o : CO} (ho : o ≠ .fail) (h : callFnW P0.glob (acallW P0) ir_printer_printer_text (as ++ args ++ cs) s cx = o) : acallW P0 (.fn (.func F_printer_printer_text) as cs) args s cx = o := go rfl rfl rfl ho h
theorem go_printer_printer_some {as cs args : List AV} {s : St} {cx : Ctx} {o : CO} (ho : o ≠ .fail) (h : callFnW P0.glob (acallW P0) ir_printer_printer_some (as ++ args ++ cs) s cx = o) : acallW P0 (.fn (.func F_printer_printer_some) as cs) args s cx = o := go rfl rfl rfl ho h
theorem go_printer_words {as cs args : List AV} {s : St} {cx : Ctx} {o : CO} (ho : o ≠ .fail) (h : callFnW P0.glob (acallW P0) ir_printer_words (as ++ args ++ cs) s cx = o) : acallW P0 (.fn (.func F_printer_words) as cs) args s cx = o := go rfl rfl rfl ho h
theorem go_printer_printer_span {as cs args : List AV} {s : St} {cx : Ctx} {o : CO} (ho : o ≠ .fail) (h : callFnW P0.glob (acallW P0) ir_printer_printer_span (as ++ args ++ cs) s cx = o) : acallW P0 (.fn (.func F_printer_printer_span) as cs) args s cx = o := go rfl rfl rfl ho h
theorem go_terms_CheckName {as cs args : List AV} {s : St} {cx : Ctx} {o : CO} (ho : o ≠ .fail) (h : callFnW P0.glob (acallW P0) ir_terms_CheckName (as ++ args ++ cs) s cx = o) : acallW P0 (.fn (.func F_terms_CheckName) as cs) args s cx = o := go rfl rfl rfl ho h
theorem go_ref02_Few {as cs args : List AV} {s : St} {cx : Ctx} {o : CO} (ho : o ≠ .fail) (h : callFnW P0.glob (acallW P0) ir_ref02_Few (as ++ args ++ cs) s cx = o) : acallW P0 (.fn (.func F_ref02_Few) as cs) args s cx = o := go rfl rfl rfl ho h
theorem go_ref02_count {as cs args : List AV} {s : St} {cx : Ctx} {o : CO} (ho : o ≠ .fail) (h : callFnW P0.glob (acallW P0) ir_ref02_count (as ++ args ++ cs) s cx = o) : acallW P0 (.fn (.func F_ref02_count) as cs) args s cx = o := go rfl rfl rfl ho h
theorem go_law04_plain {as cs args : List AV} {s : St} {cx : Ctx} {o : CO} (ho : o ≠ .fail) (h : callFnW P0.glob (acallW P0) ir_law04_plain (as ++ args ++ cs) s cx = o) : acallW P0 (.fn (.func F_law04_plain) as cs) args s cx = o := go rfl rfl rfl ho h
theorem go_terms_Tidy {as cs args : List AV} {s : St} {cx : Ctx} {o : CO} (ho : o ≠ .fail) (h : callFnW P0.glob (acallW P0) ir_terms_Tidy (as ++ args ++ cs) s cx = o) : acallW P0 (.fn (.func F_terms_Tidy) as cs) args s cx = o := go rfl rfl rfl ho h
theorem go_terms_tidy {as cs args : List AV} {s : St} {cx : Ctx} {o : CO} (ho : o ≠ .fail) (h : callFnW P0.glob (acallW P0) ir_terms_tidy (as ++ args ++ cs) s cx = o) : acallW P0 (.fn (.func F_terms_tidy) as cs) args s cx = o := go rfl rfl rfl ho h
theorem go_terms_meet {as cs args : List AV} {s : St} {cx : Ctx} {o : CO} (ho : o ≠ .fail) (h : callFnW P0.glob (acallW P0) ir_terms_meet (as ++ args ++ cs) s cx = o) : acallW P0 (.fn (.func F_terms_meet) as cs) args s cx = o := go rfl rfl rfl ho h
theorem go_terms_grow {as cs args : List AV} {s : St} {cx : Ctx} {o : CO} (ho : o ≠ .fail) (h : callFnW P0.glob (acallW P0) ir_terms_grow (as ++ args ++ cs) s cx = o) : acallW P0 (.fn (.func F_terms_grow) as cs) args s cx = o := go rfl rfl rfl ho h
theorem go_terms_tree_compare {as cs args : List AV} {s : St} {cx : Ctx} {o : CO} (ho : o ≠ .fail) (h : callFnW P0.glob (acallW P0) ir_terms_tree_compare (as ++ args ++ cs) s cx = o) : acallW P0 (.fn (.func F_terms_tree_compare) as cs) args s cx = o := go rfl rfl rfl ho h
theorem go_cmp_Compare_int {as cs args : List AV} {s : St} {cx : Ctx} {o : CO} (ho : o ≠ .fail) (h : callFnW P0.glob (acallW P0) ir_cmp_Compare_int (as ++ args ++ cs) s cx = o) : acallW P0 (.fn (.func F_cmp_Compare_int) as cs) args s cx = o := go rfl rfl rfl ho h
theorem go_cmp_isNaN_int {as cs args : List AV} {s : St} {cx : Ctx} {o : CO} (ho : o ≠ .fail) (h : callFnW P0.glob (acallW P0) ir_cmp_isNaN_int (as ++ args ++ cs) s cx = o) : acallW P0 (.fn (.func F_cmp_isNaN_int) as cs) args s cx = o := go rfl rfl rfl ho h
theorem go_cmp_Or_int {as cs args : List AV} {s : St} {cx : Ctx} {o : CO} (ho : o ≠ .fail) (h : callFnW P0.glob (acallW P0) ir_cmp_Or_int (as ++ args ++ cs) s cx = o) : acallW P0 (.fn (.func F_cmp_Or_int) as cs) args s cx = o := go rfl rfl rfl ho h
theorem go_slices_CompareFunc_terms_tree_terms_tree_terms_tree_terms_tree {as cs args : List AV} {s : St} {cx : Ctx} {o : CO} (ho : o ≠ .fail) (h : callFnW P0.glob (acallW P0) ir_slices_CompareFunc_terms_tree_terms_tree_terms_tree_terms_tree (as ++ args ++ cs) s cx = o) : acallW P0 (.fn (.func F_slices_CompareFunc_terms_tree_terms_tree_terms_tree_terms_tree) as cs) args s cx = o := go rfl rfl rfl ho h
theorem go_slices_CompactFunc_terms_tree_terms_tree {as cs args : List AV} {s : St} {cx : Ctx} {o : CO} (ho : o ≠ .fail) (h : callFnW P0.glob (acallW P0) ir_slices_CompactFunc_terms_tree_terms_tree (as ++ args ++ cs) s cx = o) : acallW P0 (.fn (.func F_slices_CompactFunc_terms_tree_terms_tree) as cs) args s cx = o := go rfl rfl rfl ho h
theorem go_terms_meet_1 {as cs args : List AV} {s : St} {cx : Ctx} {o : CO} (ho : o ≠ .fail) (h : callFnW P0.glob (acallW P0) ir_terms_meet_1 (as ++ args ++ cs) s cx = o) : acallW P0 (.fn (.func F_terms_meet_1) as cs) args s cx = o := go rfl rfl rfl ho h
theorem go_syntax_Concept {as cs args : List AV} {s : St} {cx : Ctx} {o : CO} (ho : o ≠ .fail) (h : callFnW P0.glob (acallW P0) ir_syntax_Concept (as ++ args ++ cs) s cx = o) : acallW P0 (.fn (.func F_syntax_Concept) as cs) args s cx = o := go rfl rfl rfl ho h
theorem go_syntax_Concept_1 {as cs args : List AV} {s : St} {cx : Ctx} {o : CO} (ho : o ≠ .fail) (h : callFnW P0.glob (acallW P0) ir_syntax_Concept_1 (as ++ args ++ cs) s cx = o) : acallW P0 (.fn (.func F_syntax_Concept_1) as cs) args s cx = o := go rfl rfl rfl ho h
theorem go_syntax_parser_concept {as cs args : List AV} {s : St} {cx : Ctx} {o : CO} (ho : o ≠ .fail) (h : callFnW P0.glob (acallW P0) ir_syntax_parser_concept (as ++ args ++ cs) s cx = o) : acallW P0 (.fn (.func F_syntax_parser_concept) as cs) args s cx = o := go rfl rfl rfl ho h
theorem go_syntax_parser_single {as cs args : List AV} {s : St} {cx : Ctx} {o : CO} (ho : o ≠ .fail) (h : callFnW P0.glob (acallW P0) ir_syntax_parser_single (as ++ args ++ cs) s cx = o) : acallW P0 (.fn (.func F_syntax_parser_single) as cs) args s cx = o := go rfl rfl rfl ho h
theorem go_syntax_parser_skip {as cs args : List AV} {s : St} {cx : Ctx} {o : CO} (ho : o ≠ .fail) (h : callFnW P0.glob (acallW P0) ir_syntax_parser_skip (as ++ args ++ cs) s cx = o) : acallW P0 (.fn (.func F_syntax_parser_skip) as cs) args s cx = o := go rfl rfl rfl ho h
theorem go_syntax_parser_is {as cs args : List AV} {s : St} {cx : Ctx} {o : CO} (ho : o ≠ .fail) (h : callFnW P0.glob (acallW P0) ir_syntax_parser_is (as ++ args ++ cs) s cx = o) : acallW P0 (.fn (.func F_syntax_parser_is) as cs) args s cx = o := go rfl rfl rfl ho h
theorem go_syntax_parser_token {as cs args : List AV} {s : St} {cx : Ctx} {o : CO} (ho : o ≠ .fail) (h : callFnW P0.glob (acallW P0) ir_syntax_parser_token (as ++ args ++ cs) s cx = o) : acallW P0 (.fn (.func F_syntax_parser_token) as cs) args s cx = o := go rfl rfl rfl ho h
theorem go_syntax_parser_name {as cs args : List AV} {s : St} {cx : Ctx} {o : CO} (ho : o ≠ .fail) (h : callFnW P0.glob (acallW P0) ir_syntax_parser_name (as ++ args ++ cs) s cx = o) : acallW P0 (.fn (.func F_syntax_parser_name) as cs) args s cx = o := go rfl rfl rfl ho h
theorem go_syntax_parser_atName {as cs args : List AV} {s : St} {cx : Ctx} {o : CO} (ho : o ≠ .fail) (h : callFnW P0.glob (acallW P0) ir_syntax_parser_atName (as ++ args ++ cs) s cx = o) : acallW P0 (.fn (.func F_syntax_parser_atName) as cs) args s cx = o := go rfl rfl rfl ho h
theorem go_syntax_parser_want {as cs args : List AV} {s : St} {cx : Ctx} {o : CO} (ho : o ≠ .fail) (h : callFnW P0.glob (acallW P0) ir_syntax_parser_want (as ++ args ++ cs) s cx = o) : acallW P0 (.fn (.func F_syntax_parser_want) as cs) args s cx = o := go rfl rfl rfl ho h
theorem go_syntax_parser_number {as cs args : List AV} {s : St} {cx : Ctx} {o : CO} (ho : o ≠ .fail) (h : callFnW P0.glob (acallW P0) ir_syntax_parser_number (as ++ args ++ cs) s cx = o) : acallW P0 (.fn (.func F_syntax_parser_number) as cs) args s cx = o := go rfl rfl rfl ho h
theorem go_syntax_Concept_2 {as cs args : List AV} {s : St} {cx : Ctx} {o : CO} (ho : o ≠ .fail) (h : callFnW P0.glob (acallW P0) ir_syntax_Concept_2 (as ++ args ++ cs) s cx = o) : acallW P0 (.fn (.func F_syntax_Concept_2) as cs) args s cx = o := go rfl rfl rfl ho h
theorem go_syntax_whole {as cs args : List AV} {s : St} {cx : Ctx} {o : CO} (ho : o ≠ .fail) (h : callFnW P0.glob (acallW P0) ir_syntax_whole (as ++ args ++ cs) s cx = o) : acallW P0 (.fn (.func F_syntax_whole) as cs) args s cx = o := go rfl rfl rfl ho h
theorem go_lexis_Tokens {as cs args : List AV} {s : St} {cx : Ctx} {o : CO} (ho : o ≠ .fail) (h : callFnW P0.glob (acallW P0) ir_lexis_Tokens (as ++ args ++ cs) s cx = o) : acallW P0 (.fn (.func F_lexis_Tokens) as cs) args s cx = o := go rfl rfl rfl ho h
theorem go_lexis_classes {as cs args : List AV} {s : St} {cx : Ctx} {o : CO} (ho : o ≠ .fail) (h : callFnW P0.glob (acallW P0) ir_lexis_classes (as ++ args ++ cs) s cx = o) : acallW P0 (.fn (.func F_lexis_classes) as cs) args s cx = o := go rfl rfl rfl ho h
theorem go_lexis_scan {as cs args : List AV} {s : St} {cx : Ctx} {o : CO} (ho : o ≠ .fail) (h : callFnW P0.glob (acallW P0) ir_lexis_scan (as ++ args ++ cs) s cx = o) : acallW P0 (.fn (.func F_lexis_scan) as cs) args s cx = o := go rfl rfl rfl ho h
theorem go_lexis_run {as cs args : List AV} {s : St} {cx : Ctx} {o : CO} (ho : o ≠ .fail) (h : callFnW P0.glob (acallW P0) ir_lexis_run (as ++ args ++ cs) s cx = o) : acallW P0 (.fn (.func F_lexis_run) as cs) args s cx = o := go rfl rfl rfl ho h
theorem go_lexis_integer {as cs args : List AV} {s : St} {cx : Ctx} {o : CO} (ho : o ≠ .fail) (h : callFnW P0.glob (acallW P0) ir_lexis_integer (as ++ args ++ cs) s cx = o) : acallW P0 (.fn (.func F_lexis_integer) as cs) args s cx = o := go rfl rfl rfl ho h
theorem go_syntax_newParser {as cs args : List AV} {s : St} {cx : Ctx} {o : CO} (ho : o ≠ .fail) (h : callFnW P0.glob (acallW P0) ir_syntax_newParser (as ++ args ++ cs) s cx = o) : acallW P0 (.fn (.func F_syntax_newParser) as cs) args s cx = o := go rfl rfl rfl ho h
theorem go_syntax_whole_1 {as cs args : List AV} {s : St} {cx : Ctx} {o : CO} (ho : o ≠ .fail) (h : callFnW P0.glob (acallW P0) ir_syntax_whole_1 (as ++ args ++ cs) s cx = o) : acallW P0 (.fn (.func F_syntax_whole_1) as cs) args s cx = o := go rfl rfl rfl ho h
theorem go_syntax_parser_end {as cs args : List AV} {s : St} {cx : Ctx} {o : CO} (ho : o ≠ .fail) (h : callFnW P0.glob (acallW P0) ir_syntax_parser_end (as ++ args ++ cs) s cx = o) : acallW P0 (.fn (.func F_syntax_parser_end) as cs) args s cx = o := go rfl rfl rfl ho h
theorem go_terms_Compare {as cs args : List AV} {s : St} {cx : Ctx} {o : CO} (ho : o ≠ .fail) (h : callFnW P0.glob (acallW P0) ir_terms_Compare (as ++ args ++ cs) s cx = o) : acallW P0 (.fn (.func F_terms_Compare) as cs) args s cx = o := go rfl rfl rfl ho h
theorem goq_terms_tree_compare {as cs args : List AV} {s : St} {cx : Ctx} {o : CO} (ho : o ≠ .fail) (h : callFnW Pq.glob (acallW Pq) ir_terms_tree_compare (as ++ args ++ cs) s cx = o) : acallW Pq (.fn (.func F_terms_tree_compare) as cs) args s cx = o := goq rfl rfl ho h
theorem goq_cmp_Or_int {as cs args : List AV} {s : St} {cx : Ctx} {o : CO} (ho : o ≠ .fail) (h : callFnW Pq.glob (acallW Pq) ir_cmp_Or_int (as ++ args ++ cs) s cx = o) : acallW Pq (.fn (.func F_cmp_Or_int) as cs) args s cx = o := goq rfl rfl ho h
theorem goq_cmp_Compare_int {as cs args : List AV} {s : St} {cx : Ctx} {o : CO} (ho : o ≠ .fail) (h : callFnW Pq.glob (acallW Pq) ir_cmp_Compare_int (as ++ args ++ cs) s cx = o) : acallW Pq (.fn (.func F_cmp_Compare_int) as cs) args s cx = o := goq rfl rfl ho h
theorem goq_cmp_isNaN_int {as cs args : List AV} {s : St} {cx : Ctx} {o : CO} (ho : o ≠ .fail) (h : callFnW Pq.glob (acallW Pq) ir_cmp_isNaN_int (as ++ args ++ cs) s cx = o) : acallW Pq (.fn (.func F_cmp_isNaN_int) as cs) args s cx = o := goq rfl rfl ho h
theorem goq_slices_CompareFunc_terms_tree_terms_tree_terms_tree_terms_tree {as cs args : List AV} {s : St} {cx : Ctx} {o : CO} (ho : o ≠ .fail) (h : callFnW Pq.glob (acallW Pq) ir_slices_CompareFunc_terms_tree_terms_tree_terms_tree_terms_tree (as ++ args ++ cs) s cx = o) : acallW Pq (.fn (.func F_slices_CompareFunc_terms_tree_terms_tree_terms_tree_terms_tree) as cs) args s cx = o := goq rfl rfl ho h
end Go.Ai.Z
