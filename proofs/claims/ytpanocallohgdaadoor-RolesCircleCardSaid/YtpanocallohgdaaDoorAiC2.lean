/-
 The program in the small language: written by program.
-/
import Derived.Test.YtpanocallohgdaaDoorAiDat
import Derived.Test.YtpanocallohgdaaDoorAiC1
set_option maxRecDepth 100000
set_option linter.unusedSimpArgs false
set_option linter.unusedVariables false
namespace Go.Ai.Z
def fnList : List (Nat × AFun) :=
 [(F_law06_RolesCircle, ir_law06_RolesCircle),
  (F_law06_sane, ir_law06_sane),
  (F_law06_chain, ir_law06_chain),
  (F_law06_sub, ir_law06_sub),
  (F_law06_circles, ir_law06_circles),
  (F_roles_Check, ir_roles_Check),
  (F_roles_check, ir_roles_check),
  (F_terms_CheckAxiom, ir_terms_CheckAxiom),
  (F_terms_isShaped, ir_terms_isShaped),
  (F_terms_isEmpty, ir_terms_isEmpty),
  (F_terms_isNamed, ir_terms_isNamed),
  (F_terms_isPlain, ir_terms_isPlain),
  (F_strings_Cut, ir_strings_Cut),
  (F_internal_stringslite_Cut, ir_internal_stringslite_Cut),
  (F_terms_isWord, ir_terms_isWord),
  (F_terms_isLetter, ir_terms_isLetter),
  (F_terms_isTail, ir_terms_isTail),
  (F_lexis_Keyword, ir_lexis_Keyword),
  (F_terms_CheckName, ir_terms_CheckName),
  (F_terms_isReserved, ir_terms_isReserved),
  (F_terms_CheckConcept, ir_terms_CheckConcept),
  (F_terms_fits, ir_terms_fits),
  (F_terms_walk, ir_terms_walk),
  (F_terms_walk_1, ir_terms_walk_1),
  (F_terms_visit, ir_terms_visit),
  (F_terms_checkFields, ir_terms_checkFields),
  (F_terms_isBare, ir_terms_isBare),
  (F_slices_ContainsFunc_api_Concept_api_Concept, ir_slices_ContainsFunc_api_Concept_api_Concept),
  (F_slices_IndexFunc_api_Concept_api_Concept, ir_slices_IndexFunc_api_Concept_api_Concept),
  (F_roles_steps, ir_roles_steps),
  (F_roles_steps_1, ir_roles_steps_1),
  (F_roles_exempt, ir_roles_exempt),
  (F_roles_newGraph, ir_roles_newGraph),
  (F_slices_BinarySearch_string_string, ir_slices_BinarySearch_string_string),
  (F_cmp_Less_string, ir_cmp_Less_string),
  (F_cmp_isNaN_string, ir_cmp_isNaN_string),
  (F_slices_isNaN_string, ir_slices_isNaN_string),
  (F_roles_graph_circle, ir_roles_graph_circle),
  (F_slices_Reverse_int_int, ir_slices_Reverse_int_int),
  (F_ref06_Same, ir_ref06_Same),
  (F_roles_Above, ir_roles_Above),
  (F_roles_checkAll, ir_roles_checkAll),
  (F_roles_closure, ir_roles_closure),
  (F_roles_Simple, ir_roles_Simple),
  (F_roles_Word, ir_roles_Word),
  (F_roles_recognize, ir_roles_recognize),
  (F_roles_newGrammar, ir_roles_newGrammar),
  (F_roles_recognize_1, ir_roles_recognize_1),
  (F_roles_Compose, ir_roles_Compose),
  (F_law06_few, ir_law06_few),
  (F_ref02_FewAxioms, ir_ref02_FewAxioms),
  (F_ref02_FewAxiom, ir_ref02_FewAxiom),
  (F_ref02_Few, ir_ref02_Few),
  (F_ref02_count, ir_ref02_count),
  (F_law06_leads, ir_law06_leads),
  (F_law06_has, ir_law06_has),
  (F_terms_Vocabulary, ir_terms_Vocabulary)]
def globList : List (Nat × List AV) :=
 [(G_terms_needs, [.i .i64 0, .i .i64 0, .i .i64 0, .b false, .i .i64 0, .i .i64 0, .i .i64 0, .b false, .i .i64 0, .i .i64 0, .i .i64 0, .b false, .i .i64 1, .i .i64 0, .i .i64 0, .b false, .i .i64 2, .i .i64 0, .i .i64 0, .b false, .i .i64 0, .i .i64 2, .i .i64 8, .b false, .i .i64 1, .i .i64 1, .i .i64 1, .b false, .i .i64 1, .i .i64 0, .i .i64 0, .b true]),
  (G_terms_uses, [.b false, .b false, .b false, .b false, .b false, .i .i64 0, .i .i64 0,
   .b true, .b true, .b false, .b false, .b false, .i .i64 0, .i .i64 0,
   .b true, .b true, .b false, .b false, .b false, .i .i64 0, .i .i64 0,
   .b true, .b true, .b false, .b false, .b false, .i .i64 0, .i .i64 0,
   .b false, .b true, .b true, .b false, .b false, .i .i64 0, .i .i64 0,
   .b false, .b false, .b true, .b false, .b false, .i .i64 1, .i .i64 1,
   .b false, .b false, .b true, .b false, .b false, .i .i64 2, .i .i64 4,
   .b false, .b false, .b true, .b false, .b false, .i .i64 0, .i .i64 0,
   .b false, .b true, .b false, .b true, .b false, .i .i64 0, .i .i64 0,
   .b false, .b false, .b true, .b true, .b true, .i .i64 0, .i .i64 0])]
def intrList : List (Nat × (List AV → St → Option AV)) :=
 [(F_strings_Join, pureI iJoin), (F_internal_stringslite_Index, pureI iIndex), (F_maps_Keys_map_string_bool_string_bool, iKeys 44), (F_maps_Keys_map_string_map_string_bool_string_map_string_bool, iKeys 49), (F_slices_Sorted_string, iSorted [44, 49])]
def P0 : AProg := ⟨fun f => fnList.lookup f, fun k => globList.lookup k, fun f => intrList.lookup f⟩
theorem go {f : Nat} {fn : AFun} (hi : intrList.lookup f = none) (hf : fnList.lookup f = some fn) {as cs args : List AV} {s : St} {cx : Ctx} {o : CO} (ho : o ≠ .fail)
  (h : callFnW P0.glob (acallW P0) fn (as ++ args ++ cs) s cx = o) : acallW P0 (.fn (.func f) as cs) args s cx = o := acallW_fn hi hf ho h
def Go1 (f : Nat) (fn : AFun) : Prop := ∀ {as cs args : List AV} {s : St} {cx : Ctx} {o : CO}, o ≠ .fail → callFnW P0.glob (acallW P0) fn (as ++ args ++ cs) s cx = o → acallW P0 (.fn (.func f) as cs) args s cx = o
theorem go1 {f : Nat} {fn : AFun} (hi : intrList.lookup f = none) (hf : fnList.lookup f = some fn) : Go1 f fn := fun ho h => go hi hf ho h
theorem go_law06_RolesCircle : Go1 F_law06_RolesCircle ir_law06_RolesCircle := go1 rfl rfl
theorem go_roles_Check : Go1 F_roles_Check ir_roles_Check := go1 rfl rfl
theorem go_roles_check : Go1 F_roles_check ir_roles_check := go1 rfl rfl
theorem go_terms_CheckAxiom : Go1 F_terms_CheckAxiom ir_terms_CheckAxiom := go1 rfl rfl
theorem go_terms_isShaped : Go1 F_terms_isShaped ir_terms_isShaped := go1 rfl rfl
theorem go_terms_isEmpty : Go1 F_terms_isEmpty ir_terms_isEmpty := go1 rfl rfl
theorem go_terms_isNamed : Go1 F_terms_isNamed ir_terms_isNamed := go1 rfl rfl
theorem go_terms_isPlain : Go1 F_terms_isPlain ir_terms_isPlain := go1 rfl rfl
theorem go_strings_Cut : Go1 F_strings_Cut ir_strings_Cut := go1 rfl rfl
theorem go_internal_stringslite_Cut : Go1 F_internal_stringslite_Cut ir_internal_stringslite_Cut := go1 rfl rfl
theorem go_terms_isWord : Go1 F_terms_isWord ir_terms_isWord := go1 rfl rfl
theorem go_terms_isLetter : Go1 F_terms_isLetter ir_terms_isLetter := go1 rfl rfl
theorem go_terms_isTail : Go1 F_terms_isTail ir_terms_isTail := go1 rfl rfl
theorem go_lexis_Keyword : Go1 F_lexis_Keyword ir_lexis_Keyword := go1 rfl rfl
theorem go_terms_CheckName : Go1 F_terms_CheckName ir_terms_CheckName := go1 rfl rfl
theorem go_terms_isReserved : Go1 F_terms_isReserved ir_terms_isReserved := go1 rfl rfl
theorem go_terms_CheckConcept : Go1 F_terms_CheckConcept ir_terms_CheckConcept := go1 rfl rfl
theorem go_terms_fits : Go1 F_terms_fits ir_terms_fits := go1 rfl rfl
theorem go_terms_walk : Go1 F_terms_walk ir_terms_walk := go1 rfl rfl
theorem go_terms_walk_1 : Go1 F_terms_walk_1 ir_terms_walk_1 := go1 rfl rfl
theorem go_terms_visit : Go1 F_terms_visit ir_terms_visit := go1 rfl rfl
theorem go_terms_checkFields : Go1 F_terms_checkFields ir_terms_checkFields := go1 rfl rfl
theorem go_terms_isBare : Go1 F_terms_isBare ir_terms_isBare := go1 rfl rfl
theorem go_slices_ContainsFunc_api_Concept_api_Concept : Go1 F_slices_ContainsFunc_api_Concept_api_Concept ir_slices_ContainsFunc_api_Concept_api_Concept := go1 rfl rfl
theorem go_slices_IndexFunc_api_Concept_api_Concept : Go1 F_slices_IndexFunc_api_Concept_api_Concept ir_slices_IndexFunc_api_Concept_api_Concept := go1 rfl rfl
theorem go_roles_steps : Go1 F_roles_steps ir_roles_steps := go1 rfl rfl
theorem go_roles_steps_1 : Go1 F_roles_steps_1 ir_roles_steps_1 := go1 rfl rfl
theorem go_roles_exempt : Go1 F_roles_exempt ir_roles_exempt := go1 rfl rfl
theorem go_roles_newGraph : Go1 F_roles_newGraph ir_roles_newGraph := go1 rfl rfl
theorem go_slices_BinarySearch_string_string : Go1 F_slices_BinarySearch_string_string ir_slices_BinarySearch_string_string := go1 rfl rfl
theorem go_cmp_Less_string : Go1 F_cmp_Less_string ir_cmp_Less_string := go1 rfl rfl
theorem go_cmp_isNaN_string : Go1 F_cmp_isNaN_string ir_cmp_isNaN_string := go1 rfl rfl
theorem go_slices_isNaN_string : Go1 F_slices_isNaN_string ir_slices_isNaN_string := go1 rfl rfl
theorem go_roles_graph_circle : Go1 F_roles_graph_circle ir_roles_graph_circle := go1 rfl rfl
theorem go_slices_Reverse_int_int : Go1 F_slices_Reverse_int_int ir_slices_Reverse_int_int := go1 rfl rfl
theorem go_law06_few : Go1 F_law06_few ir_law06_few := go1 rfl rfl
theorem go_ref02_FewAxioms : Go1 F_ref02_FewAxioms ir_ref02_FewAxioms := go1 rfl rfl
theorem go_ref02_FewAxiom : Go1 F_ref02_FewAxiom ir_ref02_FewAxiom := go1 rfl rfl
theorem go_ref02_Few : Go1 F_ref02_Few ir_ref02_Few := go1 rfl rfl
theorem go_ref02_count : Go1 F_ref02_count ir_ref02_count := go1 rfl rfl
theorem go_law06_leads : Go1 F_law06_leads ir_law06_leads := go1 rfl rfl
theorem go_law06_has : Go1 F_law06_has ir_law06_has := go1 rfl rfl
theorem go_terms_Vocabulary : Go1 F_terms_Vocabulary ir_terms_Vocabulary := go1 rfl rfl
end Go.Ai.Z
