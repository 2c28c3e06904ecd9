/-
  The program in the small language: written by program.
-/
import Derived.Test.YtomjajnlomdhpaaGreatDoorAiDat
import Derived.Test.YtomjajnlomdhpaaGreatDoorAiC1
set_option maxRecDepth 100000
set_option linter.unusedSimpArgs false
set_option linter.unusedVariables false
namespace Go.Ai.Z
def fnList : List (Nat × AFun) :=
  [(F_law06_RolesChecks, ir_law06_RolesChecks),
   (F_law06_sane, ir_law06_sane),
   (F_law06_chain, ir_law06_chain),
   (F_law06_sub, ir_law06_sub),
   (F_law06_circles, ir_law06_circles),
   (F_roles_Check, ir_roles_Check),
   (F_roles_check, ir_roles_check),
   (F_terms_CheckAxiom, ir_terms_CheckAxiom),
   (F_terms_isShaped, ir_terms_isShaped),
   (F_terms_isEmpty, ir_terms_isEmpty),
   (F_terms_isNamed, ir_terms_isNamed),
   (F_terms_isPlain, ir_terms_isPlain),
   (F_strings_Cut, ir_strings_Cut),
   (F_internal_stringslite_Cut, ir_internal_stringslite_Cut),
   (F_terms_isWord, ir_terms_isWord),
   (F_terms_isLetter, ir_terms_isLetter),
   (F_terms_isTail, ir_terms_isTail),
   (F_lexis_Keyword, ir_lexis_Keyword),
   (F_terms_CheckName, ir_terms_CheckName),
   (F_terms_isReserved, ir_terms_isReserved),
   (F_terms_CheckConcept, ir_terms_CheckConcept),
   (F_terms_fits, ir_terms_fits),
   (F_terms_walk, ir_terms_walk),
   (F_terms_walk_1, ir_terms_walk_1),
   (F_terms_visit, ir_terms_visit),
   (F_terms_checkFields, ir_terms_checkFields),
   (F_terms_isBare, ir_terms_isBare),
   (F_slices_ContainsFunc_api_Concept_api_Concept, ir_slices_ContainsFunc_api_Concept_api_Concept),
   (F_slices_IndexFunc_api_Concept_api_Concept, ir_slices_IndexFunc_api_Concept_api_Concept),
   (F_roles_steps, ir_roles_steps),
   (F_roles_steps_1, ir_roles_steps_1),
   (F_roles_exempt, ir_roles_exempt),
   (F_roles_newGraph, ir_roles_newGraph),
   (F_slices_BinarySearch_string_string, ir_slices_BinarySearch_string_string),
   (F_cmp_Less_string, ir_cmp_Less_string),
   (F_cmp_isNaN_string, ir_cmp_isNaN_string),
   (F_slices_isNaN_string, ir_slices_isNaN_string),
   (F_roles_graph_circle, ir_roles_graph_circle),
   (F_slices_Reverse_int_int, ir_slices_Reverse_int_int),
   (F_ref06_Same, ir_ref06_Same),
   (F_roles_Above, ir_roles_Above),
   (F_roles_checkAll, ir_roles_checkAll),
   (F_roles_closure, ir_roles_closure),
   (F_roles_Simple, ir_roles_Simple),
   (F_roles_Word, ir_roles_Word),
   (F_roles_recognize, ir_roles_recognize),
   (F_roles_newGrammar, ir_roles_newGrammar),
   (F_roles_recognize_1, ir_roles_recognize_1),
   (F_roles_Compose, ir_roles_Compose),
   (F_law06_few, ir_law06_few),
   (F_ref02_FewAxioms, ir_ref02_FewAxioms),
   (F_ref02_FewAxiom, ir_ref02_FewAxiom),
   (F_ref02_Few, ir_ref02_Few),
   (F_ref02_count, ir_ref02_count),
   (F_ref06_Check, ir_ref06_Check),
   (F_ref06_checked, ir_ref06_checked),
   (F_ref02_CheckAxiom, ir_ref02_CheckAxiom),
   (F_ref02_fields, ir_ref02_fields),
   (F_ref02_Empty, ir_ref02_Empty),
   (F_ref02_Plain, ir_ref02_Plain),
   (F_ref02_Word, ir_ref02_Word),
   (F_ref02_letter, ir_ref02_letter),
   (F_ref02_keyword, ir_ref02_keyword),
   (F_ref02_inner, ir_ref02_inner),
   (F_ref02_Person, ir_ref02_Person),
   (F_ref02_Reserved, ir_ref02_Reserved),
   (F_ref02_CheckConcept, ir_ref02_CheckConcept),
   (F_ref02_Depth, ir_ref02_Depth),
   (F_ref02_Size, ir_ref02_Size),
   (F_ref02_walk, ir_ref02_walk),
   (F_ref02_shape, ir_ref02_shape),
   (F_ref02_named, ir_ref02_named),
   (F_ref02_bare, ir_ref02_bare),
   (F_ref06_steps, ir_ref06_steps),
   (F_ref06_exempt, ir_ref06_exempt),
   (F_ref06_All, ir_ref06_All),
   (F_ref06_With, ir_ref06_With),
   (F_ref06_Has, ir_ref06_Has),
   (F_ref06_closes, ir_ref06_closes),
   (F_ref06_less, ir_ref06_less),
   (F_ref06_longer, ir_ref06_longer),
   (F_law06_RolesAbove, ir_law06_RolesAbove),
   (F_ref06_Above, ir_ref06_Above),
   (F_ref02_CheckName, ir_ref02_CheckName),
   (F_ref06_Up, ir_ref06_Up),
   (F_ref06_Simple, ir_ref06_Simple),
   (F_law06_RolesWords, ir_law06_RolesWords),
   (F_law06_short, ir_law06_short),
   (F_ref06_Word, ir_ref06_Word),
   (F_ref06_Words, ir_ref06_Words),
   (F_ref06_covers, ir_ref06_covers),
   (F_ref06_Compose, ir_ref06_Compose)]
def globList : List (Nat × List AV) :=
  [(G_terms_needs, [.i .i64 0, .i .i64 0, .i .i64 0, .b false, .i .i64 0, .i .i64 0, .i .i64 0, .b false, .i .i64 0, .i .i64 0, .i .i64 0, .b false, .i .i64 1, .i .i64 0, .i .i64 0, .b false, .i .i64 2, .i .i64 0, .i .i64 0, .b false, .i .i64 0, .i .i64 2, .i .i64 8, .b false, .i .i64 1, .i .i64 1, .i .i64 1, .b false, .i .i64 1, .i .i64 0, .i .i64 0, .b true]),
   (G_terms_uses, [.b false, .b false, .b false, .b false, .b false, .i .i64 0, .i .i64 0,
     .b true, .b true, .b false, .b false, .b false, .i .i64 0, .i .i64 0,
     .b true, .b true, .b false, .b false, .b false, .i .i64 0, .i .i64 0,
     .b true, .b true, .b false, .b false, .b false, .i .i64 0, .i .i64 0,
     .b false, .b true, .b true, .b false, .b false, .i .i64 0, .i .i64 0,
     .b false, .b false, .b true, .b false, .b false, .i .i64 1, .i .i64 1,
     .b false, .b false, .b true, .b false, .b false, .i .i64 2, .i .i64 4,
     .b false, .b false, .b true, .b false, .b false, .i .i64 0, .i .i64 0,
     .b false, .b true, .b false, .b true, .b false, .i .i64 0, .i .i64 0,
     .b false, .b false, .b true, .b true, .b true, .i .i64 0, .i .i64 0])]
def intrList : List (Nat × (List AV → St → Option AV)) :=
  [(F_strings_Join, pureI iJoin), (F_internal_stringslite_Index, pureI iIndex), (F_maps_Keys_map_string_bool_string_bool, iKeys 104), (F_maps_Keys_map_string_map_string_bool_string_map_string_bool, iKeys 122), (F_slices_Sorted_string, iSorted [104, 122])]
def P0 : AProg := ⟨fun f => fnList.lookup f, fun k => globList.lookup k, fun f => intrList.lookup f⟩
theorem go {f : Nat} {fn : AFun} (hi : intrList.lookup f = none) (hf : fnList.lookup f = some fn) {as cs args : List AV} {s : St} {cx : Ctx} {o : CO} (ho : o ≠ .fail)
    (h : callFnW P0.glob (acallW P0) fn (as ++ args ++ cs) s cx = o) : acallW P0 (.fn (.func f) as cs) args s cx = o := acallW_fn hi hf ho h
theorem go_law06_RolesChecks {as cs args : List AV} {s : St} {cx : Ctx} {o : CO} (ho : o ≠ .fail) (h : callFnW P0.glob (acallW P0) ir_law06_RolesChecks (as ++ args ++ cs) s cx = o) : acallW P0 (.fn (.func F_law06_RolesChecks) as cs) args s cx = o := go rfl rfl ho h
theorem go_law06_sane {as cs args : List AV} {s : St} {cx : Ctx} {o : CO} (ho : o ≠ .fail) (h : callFnW P0.glob (acallW P0) ir_law06_sane (as ++ args ++ cs) s cx = o) : acallW P0 (.fn (.func F_law06_sane) as cs) args s cx = o := go rfl rfl ho h
theorem go_law06_chain {as cs args : List AV} {s : St} {cx : Ctx} {o : CO} (ho : o ≠ .fail) (h : callFnW P0.glob (acallW P0) ir_law06_chain (as ++ args ++ cs) s cx = o) : acallW P0 (.fn (.func F_law06_chain) as cs) args s cx = o := go rfl rfl ho h
theorem go_law06_sub {as cs args : List AV} {s : St} {cx : Ctx} {o : CO} (ho : o ≠ .fail) (h : callFnW P0.glob (acallW P0) ir_law06_sub (as ++ args ++ cs) s cx = o) : acallW P0 (.fn (.func F_law06_sub) as cs) args s cx = o := go rfl rfl ho h
theorem go_law06_circles {as cs args : List AV} {s : St} {cx : Ctx} {o : CO} (ho : o ≠ .fail) (h : callFnW P0.glob (acallW P0) ir_law06_circles (as ++ args ++ cs) s cx = o) : acallW P0 (.fn (.func F_law06_circles) as cs) args s cx = o := go rfl rfl ho h
theorem go_roles_Check {as cs args : List AV} {s : St} {cx : Ctx} {o : CO} (ho : o ≠ .fail) (h : callFnW P0.glob (acallW P0) ir_roles_Check (as ++ args ++ cs) s cx = o) : acallW P0 (.fn (.func F_roles_Check) as cs) args s cx = o := go rfl rfl ho h
theorem go_roles_check {as cs args : List AV} {s : St} {cx : Ctx} {o : CO} (ho : o ≠ .fail) (h : callFnW P0.glob (acallW P0) ir_roles_check (as ++ args ++ cs) s cx = o) : acallW P0 (.fn (.func F_roles_check) as cs) args s cx = o := go rfl rfl ho h
theorem go_terms_CheckAxiom {as cs args : List AV} {s : St} {cx : Ctx} {o : CO} (ho : o ≠ .fail) (h : callFnW P0.glob (acallW P0) ir_terms_CheckAxiom (as ++ args ++ cs) s cx = o) : acallW P0 (.fn (.func F_terms_CheckAxiom) as cs) args s cx = o := go rfl rfl ho h
theorem go_terms_isShaped {as cs args : List AV} {s : St} {cx : Ctx} {o : CO} (ho : o ≠ .fail) (h : callFnW P0.glob (acallW P0) ir_terms_isShaped (as ++ args ++ cs) s cx = o) : acallW P0 (.fn (.func F_terms_isShaped) as cs) args s cx = o := go rfl rfl ho h
theorem go_terms_isEmpty {as cs args : List AV} {s : St} {cx : Ctx} {o : CO} (ho : o ≠ .fail) (h : callFnW P0.glob (acallW P0) ir_terms_isEmpty (as ++ args ++ cs) s cx = o) : acallW P0 (.fn (.func F_terms_isEmpty) as cs) args s cx = o := go rfl rfl ho h
theorem go_terms_isNamed {as cs args : List AV} {s : St} {cx : Ctx} {o : CO} (ho : o ≠ .fail) (h : callFnW P0.glob (acallW P0) ir_terms_isNamed (as ++ args ++ cs) s cx = o) : acallW P0 (.fn (.func F_terms_isNamed) as cs) args s cx = o := go rfl rfl ho h
theorem go_terms_isPlain {as cs args : List AV} {s : St} {cx : Ctx} {o : CO} (ho : o ≠ .fail) (h : callFnW P0.glob (acallW P0) ir_terms_isPlain (as ++ args ++ cs) s cx = o) : acallW P0 (.fn (.func F_terms_isPlain) as cs) args s cx = o := go rfl rfl ho h
theorem go_strings_Cut {as cs args : List AV} {s : St} {cx : Ctx} {o : CO} (ho : o ≠ .fail) (h : callFnW P0.glob (acallW P0) ir_strings_Cut (as ++ args ++ cs) s cx = o) : acallW P0 (.fn (.func F_strings_Cut) as cs) args s cx = o := go rfl rfl ho h
theorem go_internal_stringslite_Cut {as cs args : List AV} {s : St} {cx : Ctx} {o : CO} (ho : o ≠ .fail) (h : callFnW P0.glob (acallW P0) ir_internal_stringslite_Cut (as ++ args ++ cs) s cx = o) : acallW P0 (.fn (.func F_internal_stringslite_Cut) as cs) args s cx = o := go rfl rfl ho h
theorem go_terms_isWord {as cs args : List AV} {s : St} {cx : Ctx} {o : CO} (ho : o ≠ .fail) (h : callFnW P0.glob (acallW P0) ir_terms_isWord (as ++ args ++ cs) s cx = o) : acallW P0 (.fn (.func F_terms_isWord) as cs) args s cx = o := go rfl rfl ho h
theorem go_terms_isLetter {as cs args : List AV} {s : St} {cx : Ctx} {o : CO} (ho : o ≠ .fail) (h : callFnW P0.glob (acallW P0) ir_terms_isLetter (as ++ args ++ cs) s cx = o) : acallW P0 (.fn (.func F_terms_isLetter) as cs) args s cx = o := go rfl rfl ho h
theorem go_terms_isTail {as cs args : List AV} {s : St} {cx : Ctx} {o : CO} (ho : o ≠ .fail) (h : callFnW P0.glob (acallW P0) ir_terms_isTail (as ++ args ++ cs) s cx = o) : acallW P0 (.fn (.func F_terms_isTail) as cs) args s cx = o := go rfl rfl ho h
theorem go_lexis_Keyword {as cs args : List AV} {s : St} {cx : Ctx} {o : CO} (ho : o ≠ .fail) (h : callFnW P0.glob (acallW P0) ir_lexis_Keyword (as ++ args ++ cs) s cx = o) : acallW P0 (.fn (.func F_lexis_Keyword) as cs) args s cx = o := go rfl rfl ho h
theorem go_terms_CheckName {as cs args : List AV} {s : St} {cx : Ctx} {o : CO} (ho : o ≠ .fail) (h : callFnW P0.glob (acallW P0) ir_terms_CheckName (as ++ args ++ cs) s cx = o) : acallW P0 (.fn (.func F_terms_CheckName) as cs) args s cx = o := go rfl rfl ho h
theorem go_terms_isReserved {as cs args : List AV} {s : St} {cx : Ctx} {o : CO} (ho : o ≠ .fail) (h : callFnW P0.glob (acallW P0) ir_terms_isReserved (as ++ args ++ cs) s cx = o) : acallW P0 (.fn (.func F_terms_isReserved) as cs) args s cx = o := go rfl rfl ho h
theorem go_terms_CheckConcept {as cs args : List AV} {s : St} {cx : Ctx} {o : CO} (ho : o ≠ .fail) (h : callFnW P0.glob (acallW P0) ir_terms_CheckConcept (as ++ args ++ cs) s cx = o) : acallW P0 (.fn (.func F_terms_CheckConcept) as cs) args s cx = o := go rfl rfl ho h
theorem go_terms_fits {as cs args : List AV} {s : St} {cx : Ctx} {o : CO} (ho : o ≠ .fail) (h : callFnW P0.glob (acallW P0) ir_terms_fits (as ++ args ++ cs) s cx = o) : acallW P0 (.fn (.func F_terms_fits) as cs) args s cx = o := go rfl rfl ho h
theorem go_terms_walk {as cs args : List AV} {s : St} {cx : Ctx} {o : CO} (ho : o ≠ .fail) (h : callFnW P0.glob (acallW P0) ir_terms_walk (as ++ args ++ cs) s cx = o) : acallW P0 (.fn (.func F_terms_walk) as cs) args s cx = o := go rfl rfl ho h
theorem go_terms_walk_1 {as cs args : List AV} {s : St} {cx : Ctx} {o : CO} (ho : o ≠ .fail) (h : callFnW P0.glob (acallW P0) ir_terms_walk_1 (as ++ args ++ cs) s cx = o) : acallW P0 (.fn (.func F_terms_walk_1) as cs) args s cx = o := go rfl rfl ho h
theorem go_terms_visit {as cs args : List AV} {s : St} {cx : Ctx} {o : CO} (ho : o ≠ .fail) (h : callFnW P0.glob (acallW P0) ir_terms_visit (as ++ args ++ cs) s cx = o) : acallW P0 (.fn (.func F_terms_visit) as cs) args s cx = o := go rfl rfl ho h
theorem go_terms_checkFields {as cs args : List AV} {s : St} {cx : Ctx} {o : CO} (ho : o ≠ .fail) (h : callFnW P0.glob (acallW P0) ir_terms_checkFields (as ++ args ++ cs) s cx = o) : acallW P0 (.fn (.func F_terms_checkFields) as cs) args s cx = o := go rfl rfl ho h
theorem go_terms_isBare {as cs args : List AV} {s : St} {cx : Ctx} {o : CO} (ho : o ≠ .fail) (h : callFnW P0.glob (acallW P0) ir_terms_isBare (as ++ args ++ cs) s cx = o) : acallW P0 (.fn (.func F_terms_isBare) as cs) args s cx = o := go rfl rfl ho h
theorem go_slices_ContainsFunc_api_Concept_api_Concept {as cs args : List AV} {s : St} {cx : Ctx} {o : CO} (ho : o ≠ .fail) (h : callFnW P0.glob (acallW P0) ir_slices_ContainsFunc_api_Concept_api_Concept (as ++ args ++ cs) s cx = o) : acallW P0 (.fn (.func F_slices_ContainsFunc_api_Concept_api_Concept) as cs) args s cx = o := go rfl rfl ho h
theorem go_slices_IndexFunc_api_Concept_api_Concept {as cs args : List AV} {s : St} {cx : Ctx} {o : CO} (ho : o ≠ .fail) (h : callFnW P0.glob (acallW P0) ir_slices_IndexFunc_api_Concept_api_Concept (as ++ args ++ cs) s cx = o) : acallW P0 (.fn (.func F_slices_IndexFunc_api_Concept_api_Concept) as cs) args s cx = o := go rfl rfl ho h
theorem go_roles_steps {as cs args : List AV} {s : St} {cx : Ctx} {o : CO} (ho : o ≠ .fail) (h : callFnW P0.glob (acallW P0) ir_roles_steps (as ++ args ++ cs) s cx = o) : acallW P0 (.fn (.func F_roles_steps) as cs) args s cx = o := go rfl rfl ho h
theorem go_roles_steps_1 {as cs args : List AV} {s : St} {cx : Ctx} {o : CO} (ho : o ≠ .fail) (h : callFnW P0.glob (acallW P0) ir_roles_steps_1 (as ++ args ++ cs) s cx = o) : acallW P0 (.fn (.func F_roles_steps_1) as cs) args s cx = o := go rfl rfl ho h
theorem go_roles_exempt {as cs args : List AV} {s : St} {cx : Ctx} {o : CO} (ho : o ≠ .fail) (h : callFnW P0.glob (acallW P0) ir_roles_exempt (as ++ args ++ cs) s cx = o) : acallW P0 (.fn (.func F_roles_exempt) as cs) args s cx = o := go rfl rfl ho h
theorem go_roles_newGraph {as cs args : List AV} {s : St} {cx : Ctx} {o : CO} (ho : o ≠ .fail) (h : callFnW P0.glob (acallW P0) ir_roles_newGraph (as ++ args ++ cs) s cx = o) : acallW P0 (.fn (.func F_roles_newGraph) as cs) args s cx = o := go rfl rfl ho h
theorem go_slices_BinarySearch_string_string {as cs args : List AV} {s : St} {cx : Ctx} {o : CO} (ho : o ≠ .fail) (h : callFnW P0.glob (acallW P0) ir_slices_BinarySearch_string_string (as ++ args ++ cs) s cx = o) : acallW P0 (.fn (.func F_slices_BinarySearch_string_string) as cs) args s cx = o := go rfl rfl ho h
theorem go_cmp_Less_string {as cs args : List AV} {s : St} {cx : Ctx} {o : CO} (ho : o ≠ .fail) (h : callFnW P0.glob (acallW P0) ir_cmp_Less_string (as ++ args ++ cs) s cx = o) : acallW P0 (.fn (.func F_cmp_Less_string) as cs) args s cx = o := go rfl rfl ho h
theorem go_cmp_isNaN_string {as cs args : List AV} {s : St} {cx : Ctx} {o : CO} (ho : o ≠ .fail) (h : callFnW P0.glob (acallW P0) ir_cmp_isNaN_string (as ++ args ++ cs) s cx = o) : acallW P0 (.fn (.func F_cmp_isNaN_string) as cs) args s cx = o := go rfl rfl ho h
theorem go_slices_isNaN_string {as cs args : List AV} {s : St} {cx : Ctx} {o : CO} (ho : o ≠ .fail) (h : callFnW P0.glob (acallW P0) ir_slices_isNaN_string (as ++ args ++ cs) s cx = o) : acallW P0 (.fn (.func F_slices_isNaN_string) as cs) args s cx = o := go rfl rfl ho h
theorem go_roles_graph_circle {as cs args : List AV} {s : St} {cx : Ctx} {o : CO} (ho : o ≠ .fail) (h : callFnW P0.glob (acallW P0) ir_roles_graph_circle (as ++ args ++ cs) s cx = o) : acallW P0 (.fn (.func F_roles_graph_circle) as cs) args s cx = o := go rfl rfl ho h
theorem go_slices_Reverse_int_int {as cs args : List AV} {s : St} {cx : Ctx} {o : CO} (ho : o ≠ .fail) (h : callFnW P0.glob (acallW P0) ir_slices_Reverse_int_int (as ++ args ++ cs) s cx = o) : acallW P0 (.fn (.func F_slices_Reverse_int_int) as cs) args s cx = o := go rfl rfl ho h
theorem go_ref06_Same {as cs args : List AV} {s : St} {cx : Ctx} {o : CO} (ho : o ≠ .fail) (h : callFnW P0.glob (acallW P0) ir_ref06_Same (as ++ args ++ cs) s cx = o) : acallW P0 (.fn (.func F_ref06_Same) as cs) args s cx = o := go rfl rfl ho h
theorem go_roles_Above {as cs args : List AV} {s : St} {cx : Ctx} {o : CO} (ho : o ≠ .fail) (h : callFnW P0.glob (acallW P0) ir_roles_Above (as ++ args ++ cs) s cx = o) : acallW P0 (.fn (.func F_roles_Above) as cs) args s cx = o := go rfl rfl ho h
theorem go_roles_checkAll {as cs args : List AV} {s : St} {cx : Ctx} {o : CO} (ho : o ≠ .fail) (h : callFnW P0.glob (acallW P0) ir_roles_checkAll (as ++ args ++ cs) s cx = o) : acallW P0 (.fn (.func F_roles_checkAll) as cs) args s cx = o := go rfl rfl ho h
theorem go_roles_closure {as cs args : List AV} {s : St} {cx : Ctx} {o : CO} (ho : o ≠ .fail) (h : callFnW P0.glob (acallW P0) ir_roles_closure (as ++ args ++ cs) s cx = o) : acallW P0 (.fn (.func F_roles_closure) as cs) args s cx = o := go rfl rfl ho h
theorem go_roles_Simple {as cs args : List AV} {s : St} {cx : Ctx} {o : CO} (ho : o ≠ .fail) (h : callFnW P0.glob (acallW P0) ir_roles_Simple (as ++ args ++ cs) s cx = o) : acallW P0 (.fn (.func F_roles_Simple) as cs) args s cx = o := go rfl rfl ho h
theorem go_roles_Word {as cs args : List AV} {s : St} {cx : Ctx} {o : CO} (ho : o ≠ .fail) (h : callFnW P0.glob (acallW P0) ir_roles_Word (as ++ args ++ cs) s cx = o) : acallW P0 (.fn (.func F_roles_Word) as cs) args s cx = o := go rfl rfl ho h
theorem go_roles_recognize {as cs args : List AV} {s : St} {cx : Ctx} {o : CO} (ho : o ≠ .fail) (h : callFnW P0.glob (acallW P0) ir_roles_recognize (as ++ args ++ cs) s cx = o) : acallW P0 (.fn (.func F_roles_recognize) as cs) args s cx = o := go rfl rfl ho h
theorem go_roles_newGrammar {as cs args : List AV} {s : St} {cx : Ctx} {o : CO} (ho : o ≠ .fail) (h : callFnW P0.glob (acallW P0) ir_roles_newGrammar (as ++ args ++ cs) s cx = o) : acallW P0 (.fn (.func F_roles_newGrammar) as cs) args s cx = o := go rfl rfl ho h
theorem go_roles_recognize_1 {as cs args : List AV} {s : St} {cx : Ctx} {o : CO} (ho : o ≠ .fail) (h : callFnW P0.glob (acallW P0) ir_roles_recognize_1 (as ++ args ++ cs) s cx = o) : acallW P0 (.fn (.func F_roles_recognize_1) as cs) args s cx = o := go rfl rfl ho h
theorem go_roles_Compose {as cs args : List AV} {s : St} {cx : Ctx} {o : CO} (ho : o ≠ .fail) (h : callFnW P0.glob (acallW P0) ir_roles_Compose (as ++ args ++ cs) s cx = o) : acallW P0 (.fn (.func F_roles_Compose) as cs) args s cx = o := go rfl rfl ho h
theorem go_law06_few {as cs args : List AV} {s : St} {cx : Ctx} {o : CO} (ho : o ≠ .fail) (h : callFnW P0.glob (acallW P0) ir_law06_few (as ++ args ++ cs) s cx = o) : acallW P0 (.fn (.func F_law06_few) as cs) args s cx = o := go rfl rfl ho h
theorem go_ref02_FewAxioms {as cs args : List AV} {s : St} {cx : Ctx} {o : CO} (ho : o ≠ .fail) (h : callFnW P0.glob (acallW P0) ir_ref02_FewAxioms (as ++ args ++ cs) s cx = o) : acallW P0 (.fn (.func F_ref02_FewAxioms) as cs) args s cx = o := go rfl rfl ho h
theorem go_ref02_FewAxiom {as cs args : List AV} {s : St} {cx : Ctx} {o : CO} (ho : o ≠ .fail) (h : callFnW P0.glob (acallW P0) ir_ref02_FewAxiom (as ++ args ++ cs) s cx = o) : acallW P0 (.fn (.func F_ref02_FewAxiom) as cs) args s cx = o := go rfl rfl ho h
theorem go_ref02_Few {as cs args : List AV} {s : St} {cx : Ctx} {o : CO} (ho : o ≠ .fail) (h : callFnW P0.glob (acallW P0) ir_ref02_Few (as ++ args ++ cs) s cx = o) : acallW P0 (.fn (.func F_ref02_Few) as cs) args s cx = o := go rfl rfl ho h
theorem go_ref02_count {as cs args : List AV} {s : St} {cx : Ctx} {o : CO} (ho : o ≠ .fail) (h : callFnW P0.glob (acallW P0) ir_ref02_count (as ++ args ++ cs) s cx = o) : acallW P0 (.fn (.func F_ref02_count) as cs) args s cx = o := go rfl rfl ho h
theorem go_ref06_Check {as cs args : List AV} {s : St} {cx : Ctx} {o : CO} (ho : o ≠ .fail) (h : callFnW P0.glob (acallW P0) ir_ref06_Check (as ++ args ++ cs) s cx = o) : acallW P0 (.fn (.func F_ref06_Check) as cs) args s cx = o := go rfl rfl ho h
theorem go_ref06_checked {as cs args : List AV} {s : St} {cx : Ctx} {o : CO} (ho : o ≠ .fail) (h : callFnW P0.glob (acallW P0) ir_ref06_checked (as ++ args ++ cs) s cx = o) : acallW P0 (.fn (.func F_ref06_checked) as cs) args s cx = o := go rfl rfl ho h
theorem go_ref02_CheckAxiom {as cs args : List AV} {s : St} {cx : Ctx} {o : CO} (ho : o ≠ .fail) (h : callFnW P0.glob (acallW P0) ir_ref02_CheckAxiom (as ++ args ++ cs) s cx = o) : acallW P0 (.fn (.func F_ref02_CheckAxiom) as cs) args s cx = o := go rfl rfl ho h
theorem go_ref02_fields {as cs args : List AV} {s : St} {cx : Ctx} {o : CO} (ho : o ≠ .fail) (h : callFnW P0.glob (acallW P0) ir_ref02_fields (as ++ args ++ cs) s cx = o) : acallW P0 (.fn (.func F_ref02_fields) as cs) args s cx = o := go rfl rfl ho h
theorem go_ref02_Empty {as cs args : List AV} {s : St} {cx : Ctx} {o : CO} (ho : o ≠ .fail) (h : callFnW P0.glob (acallW P0) ir_ref02_Empty (as ++ args ++ cs) s cx = o) : acallW P0 (.fn (.func F_ref02_Empty) as cs) args s cx = o := go rfl rfl ho h
theorem go_ref02_Plain {as cs args : List AV} {s : St} {cx : Ctx} {o : CO} (ho : o ≠ .fail) (h : callFnW P0.glob (acallW P0) ir_ref02_Plain (as ++ args ++ cs) s cx = o) : acallW P0 (.fn (.func F_ref02_Plain) as cs) args s cx = o := go rfl rfl ho h
theorem go_ref02_Word {as cs args : List AV} {s : St} {cx : Ctx} {o : CO} (ho : o ≠ .fail) (h : callFnW P0.glob (acallW P0) ir_ref02_Word (as ++ args ++ cs) s cx = o) : acallW P0 (.fn (.func F_ref02_Word) as cs) args s cx = o := go rfl rfl ho h
theorem go_ref02_letter {as cs args : List AV} {s : St} {cx : Ctx} {o : CO} (ho : o ≠ .fail) (h : callFnW P0.glob (acallW P0) ir_ref02_letter (as ++ args ++ cs) s cx = o) : acallW P0 (.fn (.func F_ref02_letter) as cs) args s cx = o := go rfl rfl ho h
theorem go_ref02_keyword {as cs args : List AV} {s : St} {cx : Ctx} {o : CO} (ho : o ≠ .fail) (h : callFnW P0.glob (acallW P0) ir_ref02_keyword (as ++ args ++ cs) s cx = o) : acallW P0 (.fn (.func F_ref02_keyword) as cs) args s cx = o := go rfl rfl ho h
theorem go_ref02_inner {as cs args : List AV} {s : St} {cx : Ctx} {o : CO} (ho : o ≠ .fail) (h : callFnW P0.glob (acallW P0) ir_ref02_inner (as ++ args ++ cs) s cx = o) : acallW P0 (.fn (.func F_ref02_inner) as cs) args s cx = o := go rfl rfl ho h
theorem go_ref02_Person {as cs args : List AV} {s : St} {cx : Ctx} {o : CO} (ho : o ≠ .fail) (h : callFnW P0.glob (acallW P0) ir_ref02_Person (as ++ args ++ cs) s cx = o) : acallW P0 (.fn (.func F_ref02_Person) as cs) args s cx = o := go rfl rfl ho h
theorem go_ref02_Reserved {as cs args : List AV} {s : St} {cx : Ctx} {o : CO} (ho : o ≠ .fail) (h : callFnW P0.glob (acallW P0) ir_ref02_Reserved (as ++ args ++ cs) s cx = o) : acallW P0 (.fn (.func F_ref02_Reserved) as cs) args s cx = o := go rfl rfl ho h
theorem go_ref02_CheckConcept {as cs args : List AV} {s : St} {cx : Ctx} {o : CO} (ho : o ≠ .fail) (h : callFnW P0.glob (acallW P0) ir_ref02_CheckConcept (as ++ args ++ cs) s cx = o) : acallW P0 (.fn (.func F_ref02_CheckConcept) as cs) args s cx = o := go rfl rfl ho h
theorem go_ref02_Depth {as cs args : List AV} {s : St} {cx : Ctx} {o : CO} (ho : o ≠ .fail) (h : callFnW P0.glob (acallW P0) ir_ref02_Depth (as ++ args ++ cs) s cx = o) : acallW P0 (.fn (.func F_ref02_Depth) as cs) args s cx = o := go rfl rfl ho h
theorem go_ref02_Size {as cs args : List AV} {s : St} {cx : Ctx} {o : CO} (ho : o ≠ .fail) (h : callFnW P0.glob (acallW P0) ir_ref02_Size (as ++ args ++ cs) s cx = o) : acallW P0 (.fn (.func F_ref02_Size) as cs) args s cx = o := go rfl rfl ho h
theorem go_ref02_walk {as cs args : List AV} {s : St} {cx : Ctx} {o : CO} (ho : o ≠ .fail) (h : callFnW P0.glob (acallW P0) ir_ref02_walk (as ++ args ++ cs) s cx = o) : acallW P0 (.fn (.func F_ref02_walk) as cs) args s cx = o := go rfl rfl ho h
theorem go_ref02_shape {as cs args : List AV} {s : St} {cx : Ctx} {o : CO} (ho : o ≠ .fail) (h : callFnW P0.glob (acallW P0) ir_ref02_shape (as ++ args ++ cs) s cx = o) : acallW P0 (.fn (.func F_ref02_shape) as cs) args s cx = o := go rfl rfl ho h
theorem go_ref02_named {as cs args : List AV} {s : St} {cx : Ctx} {o : CO} (ho : o ≠ .fail) (h : callFnW P0.glob (acallW P0) ir_ref02_named (as ++ args ++ cs) s cx = o) : acallW P0 (.fn (.func F_ref02_named) as cs) args s cx = o := go rfl rfl ho h
theorem go_ref02_bare {as cs args : List AV} {s : St} {cx : Ctx} {o : CO} (ho : o ≠ .fail) (h : callFnW P0.glob (acallW P0) ir_ref02_bare (as ++ args ++ cs) s cx = o) : acallW P0 (.fn (.func F_ref02_bare) as cs) args s cx = o := go rfl rfl ho h
theorem go_ref06_steps {as cs args : List AV} {s : St} {cx : Ctx} {o : CO} (ho : o ≠ .fail) (h : callFnW P0.glob (acallW P0) ir_ref06_steps (as ++ args ++ cs) s cx = o) : acallW P0 (.fn (.func F_ref06_steps) as cs) args s cx = o := go rfl rfl ho h
theorem go_ref06_exempt {as cs args : List AV} {s : St} {cx : Ctx} {o : CO} (ho : o ≠ .fail) (h : callFnW P0.glob (acallW P0) ir_ref06_exempt (as ++ args ++ cs) s cx = o) : acallW P0 (.fn (.func F_ref06_exempt) as cs) args s cx = o := go rfl rfl ho h
theorem go_ref06_All {as cs args : List AV} {s : St} {cx : Ctx} {o : CO} (ho : o ≠ .fail) (h : callFnW P0.glob (acallW P0) ir_ref06_All (as ++ args ++ cs) s cx = o) : acallW P0 (.fn (.func F_ref06_All) as cs) args s cx = o := go rfl rfl ho h
theorem go_ref06_With {as cs args : List AV} {s : St} {cx : Ctx} {o : CO} (ho : o ≠ .fail) (h : callFnW P0.glob (acallW P0) ir_ref06_With (as ++ args ++ cs) s cx = o) : acallW P0 (.fn (.func F_ref06_With) as cs) args s cx = o := go rfl rfl ho h
theorem go_ref06_Has {as cs args : List AV} {s : St} {cx : Ctx} {o : CO} (ho : o ≠ .fail) (h : callFnW P0.glob (acallW P0) ir_ref06_Has (as ++ args ++ cs) s cx = o) : acallW P0 (.fn (.func F_ref06_Has) as cs) args s cx = o := go rfl rfl ho h
theorem go_ref06_closes {as cs args : List AV} {s : St} {cx : Ctx} {o : CO} (ho : o ≠ .fail) (h : callFnW P0.glob (acallW P0) ir_ref06_closes (as ++ args ++ cs) s cx = o) : acallW P0 (.fn (.func F_ref06_closes) as cs) args s cx = o := go rfl rfl ho h
theorem go_ref06_less {as cs args : List AV} {s : St} {cx : Ctx} {o : CO} (ho : o ≠ .fail) (h : callFnW P0.glob (acallW P0) ir_ref06_less (as ++ args ++ cs) s cx = o) : acallW P0 (.fn (.func F_ref06_less) as cs) args s cx = o := go rfl rfl ho h
theorem go_ref06_longer {as cs args : List AV} {s : St} {cx : Ctx} {o : CO} (ho : o ≠ .fail) (h : callFnW P0.glob (acallW P0) ir_ref06_longer (as ++ args ++ cs) s cx = o) : acallW P0 (.fn (.func F_ref06_longer) as cs) args s cx = o := go rfl rfl ho h
theorem go_law06_RolesAbove {as cs args : List AV} {s : St} {cx : Ctx} {o : CO} (ho : o ≠ .fail) (h : callFnW P0.glob (acallW P0) ir_law06_RolesAbove (as ++ args ++ cs) s cx = o) : acallW P0 (.fn (.func F_law06_RolesAbove) as cs) args s cx = o := go rfl rfl ho h
theorem go_ref06_Above {as cs args : List AV} {s : St} {cx : Ctx} {o : CO} (ho : o ≠ .fail) (h : callFnW P0.glob (acallW P0) ir_ref06_Above (as ++ args ++ cs) s cx = o) : acallW P0 (.fn (.func F_ref06_Above) as cs) args s cx = o := go rfl rfl ho h
theorem go_ref02_CheckName {as cs args : List AV} {s : St} {cx : Ctx} {o : CO} (ho : o ≠ .fail) (h : callFnW P0.glob (acallW P0) ir_ref02_CheckName (as ++ args ++ cs) s cx = o) : acallW P0 (.fn (.func F_ref02_CheckName) as cs) args s cx = o := go rfl rfl ho h
theorem go_ref06_Up {as cs args : List AV} {s : St} {cx : Ctx} {o : CO} (ho : o ≠ .fail) (h : callFnW P0.glob (acallW P0) ir_ref06_Up (as ++ args ++ cs) s cx = o) : acallW P0 (.fn (.func F_ref06_Up) as cs) args s cx = o := go rfl rfl ho h
theorem go_ref06_Simple {as cs args : List AV} {s : St} {cx : Ctx} {o : CO} (ho : o ≠ .fail) (h : callFnW P0.glob (acallW P0) ir_ref06_Simple (as ++ args ++ cs) s cx = o) : acallW P0 (.fn (.func F_ref06_Simple) as cs) args s cx = o := go rfl rfl ho h
theorem go_law06_RolesWords {as cs args : List AV} {s : St} {cx : Ctx} {o : CO} (ho : o ≠ .fail) (h : callFnW P0.glob (acallW P0) ir_law06_RolesWords (as ++ args ++ cs) s cx = o) : acallW P0 (.fn (.func F_law06_RolesWords) as cs) args s cx = o := go rfl rfl ho h
theorem go_law06_short {as cs args : List AV} {s : St} {cx : Ctx} {o : CO} (ho : o ≠ .fail) (h : callFnW P0.glob (acallW P0) ir_law06_short (as ++ args ++ cs) s cx = o) : acallW P0 (.fn (.func F_law06_short) as cs) args s cx = o := go rfl rfl ho h
theorem go_ref06_Word {as cs args : List AV} {s : St} {cx : Ctx} {o : CO} (ho : o ≠ .fail) (h : callFnW P0.glob (acallW P0) ir_ref06_Word (as ++ args ++ cs) s cx = o) : acallW P0 (.fn (.func F_ref06_Word) as cs) args s cx = o := go rfl rfl ho h
theorem go_ref06_Words {as cs args : List AV} {s : St} {cx : Ctx} {o : CO} (ho : o ≠ .fail) (h : callFnW P0.glob (acallW P0) ir_ref06_Words (as ++ args ++ cs) s cx = o) : acallW P0 (.fn (.func F_ref06_Words) as cs) args s cx = o := go rfl rfl ho h
theorem go_ref06_covers {as cs args : List AV} {s : St} {cx : Ctx} {o : CO} (ho : o ≠ .fail) (h : callFnW P0.glob (acallW P0) ir_ref06_covers (as ++ args ++ cs) s cx = o) : acallW P0 (.fn (.func F_ref06_covers) as cs) args s cx = o := go rfl rfl ho h
theorem go_ref06_Compose {as cs args : List AV} {s : St} {cx : Ctx} {o : CO} (ho : o ≠ .fail) (h : callFnW P0.glob (acallW P0) ir_ref06_Compose (as ++ args ++ cs) s cx = o) : acallW P0 (.fn (.func F_ref06_Compose) as cs) args s cx = o := go rfl rfl ho h
end Go.Ai.Z
