/-
  The program in the small language: written by program.
-/
import Derived.Test.YtomjajnlomdhpaaDoorAiDat
import Derived.Test.YtomjajnlomdhpaaDoorAiC1
set_option maxRecDepth 100000
set_option linter.unusedSimpArgs false
set_option linter.unusedVariables false
namespace Go.Ai.Z
def fnList : List (Nat × AFun) :=
  [(F_law06_RolesOrder, ir_law06_RolesOrder),
   (F_law06_sane, ir_law06_sane),
   (F_law06_chain, ir_law06_chain),
   (F_law06_sub, ir_law06_sub),
   (F_law06_circles, ir_law06_circles),
   (F_roles_Check, ir_roles_Check),
   (F_roles_check, ir_roles_check),
   (F_terms_CheckAxiom, ir_terms_CheckAxiom),
   (F_terms_isShaped, ir_terms_isShaped),
   (F_terms_isEmpty, ir_terms_isEmpty),
   (F_terms_isNamed, ir_terms_isNamed),
   (F_terms_isPlain, ir_terms_isPlain),
   (F_strings_Cut, ir_strings_Cut),
   (F_internal_stringslite_Cut, ir_internal_stringslite_Cut),
   (F_terms_isWord, ir_terms_isWord),
   (F_terms_isLetter, ir_terms_isLetter),
   (F_terms_isTail, ir_terms_isTail),
   (F_lexis_Keyword, ir_lexis_Keyword),
   (F_terms_CheckName, ir_terms_CheckName),
   (F_terms_isReserved, ir_terms_isReserved),
   (F_terms_CheckConcept, ir_terms_CheckConcept),
   (F_terms_fits, ir_terms_fits),
   (F_terms_walk, ir_terms_walk),
   (F_terms_walk_1, ir_terms_walk_1),
   (F_terms_visit, ir_terms_visit),
   (F_terms_checkFields, ir_terms_checkFields),
   (F_terms_isBare, ir_terms_isBare),
   (F_slices_ContainsFunc_api_Concept_api_Concept, ir_slices_ContainsFunc_api_Concept_api_Concept),
   (F_slices_IndexFunc_api_Concept_api_Concept, ir_slices_IndexFunc_api_Concept_api_Concept),
   (F_roles_steps, ir_roles_steps),
   (F_roles_steps_1, ir_roles_steps_1),
   (F_roles_exempt, ir_roles_exempt),
   (F_roles_newGraph, ir_roles_newGraph),
   (F_slices_BinarySearch_string_string, ir_slices_BinarySearch_string_string),
   (F_cmp_Less_string, ir_cmp_Less_string),
   (F_cmp_isNaN_string, ir_cmp_isNaN_string),
   (F_slices_isNaN_string, ir_slices_isNaN_string),
   (F_roles_graph_circle, ir_roles_graph_circle),
   (F_slices_Reverse_int_int, ir_slices_Reverse_int_int),
   (F_ref06_Same, ir_ref06_Same),
   (F_roles_Above, ir_roles_Above),
   (F_roles_checkAll, ir_roles_checkAll),
   (F_roles_closure, ir_roles_closure),
   (F_roles_Simple, ir_roles_Simple),
   (F_roles_Word, ir_roles_Word),
   (F_roles_recognize, ir_roles_recognize),
   (F_roles_newGrammar, ir_roles_newGrammar),
   (F_roles_recognize_1, ir_roles_recognize_1),
   (F_roles_Compose, ir_roles_Compose),
   (F_law06_few, ir_law06_few),
   (F_ref02_FewAxioms, ir_ref02_FewAxioms),
   (F_ref02_FewAxiom, ir_ref02_FewAxiom),
   (F_ref02_Few, ir_ref02_Few),
   (F_ref02_count, ir_ref02_count),
   (F_law06_has, ir_law06_has)]
def globList : List (Nat × List AV) :=
  [(G_terms_needs, [.i .i64 0, .i .i64 0, .i .i64 0, .b false, .i .i64 0, .i .i64 0, .i .i64 0, .b false, .i .i64 0, .i .i64 0, .i .i64 0, .b false, .i .i64 1, .i .i64 0, .i .i64 0, .b false, .i .i64 2, .i .i64 0, .i .i64 0, .b false, .i .i64 0, .i .i64 2, .i .i64 8, .b false, .i .i64 1, .i .i64 1, .i .i64 1, .b false, .i .i64 1, .i .i64 0, .i .i64 0, .b true]),
   (G_terms_uses, [.b false, .b false, .b false, .b false, .b false, .i .i64 0, .i .i64 0,
     .b true, .b true, .b false, .b false, .b false, .i .i64 0, .i .i64 0,
     .b true, .b true, .b false, .b false, .b false, .i .i64 0, .i .i64 0,
     .b true, .b true, .b false, .b false, .b false, .i .i64 0, .i .i64 0,
     .b false, .b true, .b true, .b false, .b false, .i .i64 0, .i .i64 0,
     .b false, .b false, .b true, .b false, .b false, .i .i64 1, .i .i64 1,
     .b false, .b false, .b true, .b false, .b false, .i .i64 2, .i .i64 4,
     .b false, .b false, .b true, .b false, .b false, .i .i64 0, .i .i64 0,
     .b false, .b true, .b false, .b true, .b false, .i .i64 0, .i .i64 0,
     .b false, .b false, .b true, .b true, .b true, .i .i64 0, .i .i64 0])]
def intrList : List (Nat × (List AV → St → Option AV)) :=
  [(F_strings_Join, pureI iJoin), (F_internal_stringslite_Index, pureI iIndex), (F_maps_Keys_map_string_bool_string_bool, iKeys 79), (F_maps_Keys_map_string_map_string_bool_string_map_string_bool, iKeys 101), (F_slices_Sorted_string, iSorted [79, 101])]
def P0 : AProg := ⟨fun f => fnList.lookup f, fun k => globList.lookup k, fun f => intrList.lookup f⟩
theorem go {f : Nat} {fn : AFun} (hi : intrList.lookup f = none) (hf : fnList.lookup f = some fn) {as cs args : List AV} {s : St} {cx : Ctx} {o : CO} (ho : o ≠ .fail)
    (h : callFnW P0.glob (acallW P0) fn (as ++ args ++ cs) s cx = o) : acallW P0 (.fn (.func f) as cs) args s cx = o := acallW_fn hi hf ho h
theorem go_law06_RolesOrder {as cs args : List AV} {s : St} {cx : Ctx} {o : CO} (ho : o ≠ .fail) (h : callFnW P0.glob (acallW P0) ir_law06_RolesOrder (as ++ args ++ cs) s cx = o) : acallW P0 (.fn (.func F_law06_RolesOrder) as cs) args s cx = o := go rfl rfl ho h
theorem go_law06_sane {as cs args : List AV} {s : St} {cx : Ctx} {o : CO} (ho : o ≠ .fail) (h : callFnW P0.glob (acallW P0) ir_law06_sane (as ++ args ++ cs) s cx = o) : acallW P0 (.fn (.func F_law06_sane) as cs) args s cx = o := go rfl rfl ho h
theorem go_law06_chain {as cs args : List AV} {s : St} {cx : Ctx} {o : CO} (ho : o ≠ .fail) (h : callFnW P0.glob (acallW P0) ir_law06_chain (as ++ args ++ cs) s cx = o) : acallW P0 (.fn (.func F_law06_chain) as cs) args s cx = o := go rfl rfl ho h
theorem go_law06_sub {as cs args : List AV} {s : St} {cx : Ctx} {o : CO} (ho : o ≠ .fail) (h : callFnW P0.glob (acallW P0) ir_law06_sub (as ++ args ++ cs) s cx = o) : acallW P0 (.fn (.func F_law06_sub) as cs) args s cx = o := go rfl rfl ho h
theorem go_law06_circles {as cs args : List AV} {s : St} {cx : Ctx} {o : CO} (ho : o ≠ .fail) (h : callFnW P0.glob (acallW P0) ir_law06_circles (as ++ args ++ cs) s cx = o) : acallW P0 (.fn (.func F_law06_circles) as cs) args s cx = o := go rfl rfl ho h
theorem go_roles_Check {as cs args : List AV} {s : St} {cx : Ctx} {o : CO} (ho : o ≠ .fail) (h : callFnW P0.glob (acallW P0) ir_roles_Check (as ++ args ++ cs) s cx = o) : acallW P0 (.fn (.func F_roles_Check) as cs) args s cx = o := go rfl rfl ho h
theorem go_roles_check {as cs args : List AV} {s : St} {cx : Ctx} {o : CO} (ho : o ≠ .fail) (h : callFnW P0.glob (acallW P0) ir_roles_check (as ++ args ++ cs) s cx = o) : acallW P0 (.fn (.func F_roles_check) as cs) args s cx = o := go rfl rfl ho h
theorem go_terms_CheckAxiom {as cs args : List AV} {s : St} {cx : Ctx} {o : CO} (ho : o ≠ .fail) (h : callFnW P0.glob (acallW P0) ir_terms_CheckAxiom (as ++ args ++ cs) s cx = o) : acallW P0 (.fn (.func F_terms_CheckAxiom) as cs) args s cx = o := go rfl rfl ho h
theorem go_terms_isShaped {as cs args : List AV} {s : St} {cx : Ctx} {o : CO} (ho : o ≠ .fail) (h : callFnW P0.glob (acallW P0) ir_terms_isShaped (as ++ args ++ cs) s cx = o) : acallW P0 (.fn (.func F_terms_isShaped) as cs) args s cx = o := go rfl rfl ho h
theorem go_terms_isEmpty {as cs args : List AV} {s : St} {cx : Ctx} {o : CO} (ho : o ≠ .fail) (h : callFnW P0.glob (acallW P0) ir_terms_isEmpty (as ++ args ++ cs) s cx = o) : acallW P0 (.fn (.func F_terms_isEmpty) as cs) args s cx = o := go rfl rfl ho h
theorem go_terms_isNamed {as cs args : List AV} {s : St} {cx : Ctx} {o : CO} (ho : o ≠ .fail) (h : callFnW P0.glob (acallW P0) ir_terms_isNamed (as ++ args ++ cs) s cx = o) : acallW P0 (.fn (.func F_terms_isNamed) as cs) args s cx = o := go rfl rfl ho h
theorem go_terms_isPlain {as cs args : List AV} {s : St} {cx : Ctx} {o : CO} (ho : o ≠ .fail) (h : callFnW P0.glob (acallW P0) ir_terms_isPlain (as ++ args ++ cs) s cx = o) : acallW P0 (.fn (.func F_terms_isPlain) as cs) args s cx = o := go rfl rfl ho h
theorem go_strings_Cut {as cs args : List AV} {s : St} {cx : Ctx} {o : CO} (ho : o ≠ .fail) (h : callFnW P0.glob (acallW P0) ir_strings_Cut (as ++ args ++ cs) s cx = o) : acallW P0 (.fn (.func F_strings_Cut) as cs) args s cx = o := go rfl rfl ho h
theorem go_internal_stringslite_Cut {as cs args : List AV} {s : St} {cx : Ctx} {o : CO} (ho : o ≠ .fail) (h : callFnW P0.glob (acallW P0) ir_internal_stringslite_Cut (as ++ args ++ cs) s cx = o) : acallW P0 (.fn (.func F_internal_stringslite_Cut) as cs) args s cx = o := go rfl rfl ho h
theorem go_terms_isWord {as cs args : List AV} {s : St} {cx : Ctx} {o : CO} (ho : o ≠ .fail) (h : callFnW P0.glob (acallW P0) ir_terms_isWord (as ++ args ++ cs) s cx = o) : acallW P0 (.fn (.func F_terms_isWord) as cs) args s cx = o := go rfl rfl ho h
theorem go_terms_isLetter {as cs args : List AV} {s : St} {cx : Ctx} {o : CO} (ho : o ≠ .fail) (h : callFnW P0.glob (acallW P0) ir_terms_isLetter (as ++ args ++ cs) s cx = o) : acallW P0 (.fn (.func F_terms_isLetter) as cs) args s cx = o := go rfl rfl ho h
theorem go_terms_isTail {as cs args : List AV} {s : St} {cx : Ctx} {o : CO} (ho : o ≠ .fail) (h : callFnW P0.glob (acallW P0) ir_terms_isTail (as ++ args ++ cs) s cx = o) : acallW P0 (.fn (.func F_terms_isTail) as cs) args s cx = o := go rfl rfl ho h
theorem go_lexis_Keyword {as cs args : List AV} {s : St} {cx : Ctx} {o : CO} (ho : o ≠ .fail) (h : callFnW P0.glob (acallW P0) ir_lexis_Keyword (as ++ args ++ cs) s cx = o) : acallW P0 (.fn (.func F_lexis_Keyword) as cs) args s cx = o := go rfl rfl ho h
theorem go_terms_CheckName {as cs args : List AV} {s : St} {cx : Ctx} {o : CO} (ho : o ≠ .fail) (h : callFnW P0.glob (acallW P0) ir_terms_CheckName (as ++ args ++ cs) s cx = o) : acallW P0 (.fn (.func F_terms_CheckName) as cs) args s cx = o := go rfl rfl ho h
theorem go_terms_isReserved {as cs args : List AV} {s : St} {cx : Ctx} {o : CO} (ho : o ≠ .fail) (h : callFnW P0.glob (acallW P0) ir_terms_isReserved (as ++ args ++ cs) s cx = o) : acallW P0 (.fn (.func F_terms_isReserved) as cs) args s cx = o := go rfl rfl ho h
theorem go_terms_CheckConcept {as cs args : List AV} {s : St} {cx : Ctx} {o : CO} (ho : o ≠ .fail) (h : callFnW P0.glob (acallW P0) ir_terms_CheckConcept (as ++ args ++ cs) s cx = o) : acallW P0 (.fn (.func F_terms_CheckConcept) as cs) args s cx = o := go rfl rfl ho h
theorem go_terms_fits {as cs args : List AV} {s : St} {cx : Ctx} {o : CO} (ho : o ≠ .fail) (h : callFnW P0.glob (acallW P0) ir_terms_fits (as ++ args ++ cs) s cx = o) : acallW P0 (.fn (.func F_terms_fits) as cs) args s cx = o := go rfl rfl ho h
theorem go_terms_walk {as cs args : List AV} {s : St} {cx : Ctx} {o : CO} (ho : o ≠ .fail) (h : callFnW P0.glob (acallW P0) ir_terms_walk (as ++ args ++ cs) s cx = o) : acallW P0 (.fn (.func F_terms_walk) as cs) args s cx = o := go rfl rfl ho h
theorem go_terms_walk_1 {as cs args : List AV} {s : St} {cx : Ctx} {o : CO} (ho : o ≠ .fail) (h : callFnW P0.glob (acallW P0) ir_terms_walk_1 (as ++ args ++ cs) s cx = o) : acallW P0 (.fn (.func F_terms_walk_1) as cs) args s cx = o := go rfl rfl ho h
theorem go_terms_visit {as cs args : List AV} {s : St} {cx : Ctx} {o : CO} (ho : o ≠ .fail) (h : callFnW P0.glob (acallW P0) ir_terms_visit (as ++ args ++ cs) s cx = o) : acallW P0 (.fn (.func F_terms_visit) as cs) args s cx = o := go rfl rfl ho h
theorem go_terms_checkFields {as cs args : List AV} {s : St} {cx : Ctx} {o : CO} (ho : o ≠ .fail) (h : callFnW P0.glob (acallW P0) ir_terms_checkFields (as ++ args ++ cs) s cx = o) : acallW P0 (.fn (.func F_terms_checkFields) as cs) args s cx = o := go rfl rfl ho h
theorem go_terms_isBare {as cs args : List AV} {s : St} {cx : Ctx} {o : CO} (ho : o ≠ .fail) (h : callFnW P0.glob (acallW P0) ir_terms_isBare (as ++ args ++ cs) s cx = o) : acallW P0 (.fn (.func F_terms_isBare) as cs) args s cx = o := go rfl rfl ho h
theorem go_slices_ContainsFunc_api_Concept_api_Concept {as cs args : List AV} {s : St} {cx : Ctx} {o : CO} (ho : o ≠ .fail) (h : callFnW P0.glob (acallW P0) ir_slices_ContainsFunc_api_Concept_api_Concept (as ++ args ++ cs) s cx = o) : acallW P0 (.fn (.func F_slices_ContainsFunc_api_Concept_api_Concept) as cs) args s cx = o := go rfl rfl ho h
theorem go_slices_IndexFunc_api_Concept_api_Concept {as cs args : List AV} {s : St} {cx : Ctx} {o : CO} (ho : o ≠ .fail) (h : callFnW P0.glob (acallW P0) ir_slices_IndexFunc_api_Concept_api_Concept (as ++ args ++ cs) s cx = o) : acallW P0 (.fn (.func F_slices_IndexFunc_api_Concept_api_Concept) as cs) args s cx = o := go rfl rfl ho h
theorem go_roles_steps {as cs args : List AV} {s : St} {cx : Ctx} {o : CO} (ho : o ≠ .fail) (h : callFnW P0.glob (acallW P0) ir_roles_steps (as ++ args ++ cs) s cx = o) : acallW P0 (.fn (.func F_roles_steps) as cs) args s cx = o := go rfl rfl ho h
theorem go_roles_steps_1 {as cs args : List AV} {s : St} {cx : Ctx} {o : CO} (ho : o ≠ .fail) (h : callFnW P0.glob (acallW P0) ir_roles_steps_1 (as ++ args ++ cs) s cx = o) : acallW P0 (.fn (.func F_roles_steps_1) as cs) args s cx = o := go rfl rfl ho h
theorem go_roles_exempt {as cs args : List AV} {s : St} {cx : Ctx} {o : CO} (ho : o ≠ .fail) (h : callFnW P0.glob (acallW P0) ir_roles_exempt (as ++ args ++ cs) s cx = o) : acallW P0 (.fn (.func F_roles_exempt) as cs) args s cx = o := go rfl rfl ho h
theorem go_roles_newGraph {as cs args : List AV} {s : St} {cx : Ctx} {o : CO} (ho : o ≠ .fail) (h : callFnW P0.glob (acallW P0) ir_roles_newGraph (as ++ args ++ cs) s cx = o) : acallW P0 (.fn (.func F_roles_newGraph) as cs) args s cx = o := go rfl rfl ho h
theorem go_slices_BinarySearch_string_string {as cs args : List AV} {s : St} {cx : Ctx} {o : CO} (ho : o ≠ .fail) (h : callFnW P0.glob (acallW P0) ir_slices_BinarySearch_string_string (as ++ args ++ cs) s cx = o) : acallW P0 (.fn (.func F_slices_BinarySearch_string_string) as cs) args s cx = o := go rfl rfl ho h
theorem go_cmp_Less_string {as cs args : List AV} {s : St} {cx : Ctx} {o : CO} (ho : o ≠ .fail) (h : callFnW P0.glob (acallW P0) ir_cmp_Less_string (as ++ args ++ cs) s cx = o) : acallW P0 (.fn (.func F_cmp_Less_string) as cs) args s cx = o := go rfl rfl ho h
theorem go_cmp_isNaN_string {as cs args : List AV} {s : St} {cx : Ctx} {o : CO} (ho : o ≠ .fail) (h : callFnW P0.glob (acallW P0) ir_cmp_isNaN_string (as ++ args ++ cs) s cx = o) : acallW P0 (.fn (.func F_cmp_isNaN_string) as cs) args s cx = o := go rfl rfl ho h
theorem go_slices_isNaN_string {as cs args : List AV} {s : St} {cx : Ctx} {o : CO} (ho : o ≠ .fail) (h : callFnW P0.glob (acallW P0) ir_slices_isNaN_string (as ++ args ++ cs) s cx = o) : acallW P0 (.fn (.func F_slices_isNaN_string) as cs) args s cx = o := go rfl rfl ho h
theorem go_roles_graph_circle {as cs args : List AV} {s : St} {cx : Ctx} {o : CO} (ho : o ≠ .fail) (h : callFnW P0.glob (acallW P0) ir_roles_graph_circle (as ++ args ++ cs) s cx = o) : acallW P0 (.fn (.func F_roles_graph_circle) as cs) args s cx = o := go rfl rfl ho h
theorem go_slices_Reverse_int_int {as cs args : List AV} {s : St} {cx : Ctx} {o : CO} (ho : o ≠ .fail) (h : callFnW P0.glob (acallW P0) ir_slices_Reverse_int_int (as ++ args ++ cs) s cx = o) : acallW P0 (.fn (.func F_slices_Reverse_int_int) as cs) args s cx = o := go rfl rfl ho h
theorem go_ref06_Same {as cs args : List AV} {s : St} {cx : Ctx} {o : CO} (ho : o ≠ .fail) (h : callFnW P0.glob (acallW P0) ir_ref06_Same (as ++ args ++ cs) s cx = o) : acallW P0 (.fn (.func F_ref06_Same) as cs) args s cx = o := go rfl rfl ho h
theorem go_roles_Above {as cs args : List AV} {s : St} {cx : Ctx} {o : CO} (ho : o ≠ .fail) (h : callFnW P0.glob (acallW P0) ir_roles_Above (as ++ args ++ cs) s cx = o) : acallW P0 (.fn (.func F_roles_Above) as cs) args s cx = o := go rfl rfl ho h
theorem go_roles_checkAll {as cs args : List AV} {s : St} {cx : Ctx} {o : CO} (ho : o ≠ .fail) (h : callFnW P0.glob (acallW P0) ir_roles_checkAll (as ++ args ++ cs) s cx = o) : acallW P0 (.fn (.func F_roles_checkAll) as cs) args s cx = o := go rfl rfl ho h
theorem go_roles_closure {as cs args : List AV} {s : St} {cx : Ctx} {o : CO} (ho : o ≠ .fail) (h : callFnW P0.glob (acallW P0) ir_roles_closure (as ++ args ++ cs) s cx = o) : acallW P0 (.fn (.func F_roles_closure) as cs) args s cx = o := go rfl rfl ho h
theorem go_roles_Simple {as cs args : List AV} {s : St} {cx : Ctx} {o : CO} (ho : o ≠ .fail) (h : callFnW P0.glob (acallW P0) ir_roles_Simple (as ++ args ++ cs) s cx = o) : acallW P0 (.fn (.func F_roles_Simple) as cs) args s cx = o := go rfl rfl ho h
theorem go_roles_Word {as cs args : List AV} {s : St} {cx : Ctx} {o : CO} (ho : o ≠ .fail) (h : callFnW P0.glob (acallW P0) ir_roles_Word (as ++ args ++ cs) s cx = o) : acallW P0 (.fn (.func F_roles_Word) as cs) args s cx = o := go rfl rfl ho h
theorem go_roles_recognize {as cs args : List AV} {s : St} {cx : Ctx} {o : CO} (ho : o ≠ .fail) (h : callFnW P0.glob (acallW P0) ir_roles_recognize (as ++ args ++ cs) s cx = o) : acallW P0 (.fn (.func F_roles_recognize) as cs) args s cx = o := go rfl rfl ho h
theorem go_roles_newGrammar {as cs args : List AV} {s : St} {cx : Ctx} {o : CO} (ho : o ≠ .fail) (h : callFnW P0.glob (acallW P0) ir_roles_newGrammar (as ++ args ++ cs) s cx = o) : acallW P0 (.fn (.func F_roles_newGrammar) as cs) args s cx = o := go rfl rfl ho h
theorem go_roles_recognize_1 {as cs args : List AV} {s : St} {cx : Ctx} {o : CO} (ho : o ≠ .fail) (h : callFnW P0.glob (acallW P0) ir_roles_recognize_1 (as ++ args ++ cs) s cx = o) : acallW P0 (.fn (.func F_roles_recognize_1) as cs) args s cx = o := go rfl rfl ho h
theorem go_roles_Compose {as cs args : List AV} {s : St} {cx : Ctx} {o : CO} (ho : o ≠ .fail) (h : callFnW P0.glob (acallW P0) ir_roles_Compose (as ++ args ++ cs) s cx = o) : acallW P0 (.fn (.func F_roles_Compose) as cs) args s cx = o := go rfl rfl ho h
theorem go_law06_few {as cs args : List AV} {s : St} {cx : Ctx} {o : CO} (ho : o ≠ .fail) (h : callFnW P0.glob (acallW P0) ir_law06_few (as ++ args ++ cs) s cx = o) : acallW P0 (.fn (.func F_law06_few) as cs) args s cx = o := go rfl rfl ho h
theorem go_ref02_FewAxioms {as cs args : List AV} {s : St} {cx : Ctx} {o : CO} (ho : o ≠ .fail) (h : callFnW P0.glob (acallW P0) ir_ref02_FewAxioms (as ++ args ++ cs) s cx = o) : acallW P0 (.fn (.func F_ref02_FewAxioms) as cs) args s cx = o := go rfl rfl ho h
theorem go_ref02_FewAxiom {as cs args : List AV} {s : St} {cx : Ctx} {o : CO} (ho : o ≠ .fail) (h : callFnW P0.glob (acallW P0) ir_ref02_FewAxiom (as ++ args ++ cs) s cx = o) : acallW P0 (.fn (.func F_ref02_FewAxiom) as cs) args s cx = o := go rfl rfl ho h
theorem go_ref02_Few {as cs args : List AV} {s : St} {cx : Ctx} {o : CO} (ho : o ≠ .fail) (h : callFnW P0.glob (acallW P0) ir_ref02_Few (as ++ args ++ cs) s cx = o) : acallW P0 (.fn (.func F_ref02_Few) as cs) args s cx = o := go rfl rfl ho h
theorem go_ref02_count {as cs args : List AV} {s : St} {cx : Ctx} {o : CO} (ho : o ≠ .fail) (h : callFnW P0.glob (acallW P0) ir_ref02_count (as ++ args ++ cs) s cx = o) : acallW P0 (.fn (.func F_ref02_count) as cs) args s cx = o := go rfl rfl ho h
theorem go_law06_has {as cs args : List AV} {s : St} {cx : Ctx} {o : CO} (ho : o ≠ .fail) (h : callFnW P0.glob (acallW P0) ir_law06_has (as ++ args ++ cs) s cx = o) : acallW P0 (.fn (.func F_law06_has) as cs) args s cx = o := go rfl rfl ho h
end Go.Ai.Z
