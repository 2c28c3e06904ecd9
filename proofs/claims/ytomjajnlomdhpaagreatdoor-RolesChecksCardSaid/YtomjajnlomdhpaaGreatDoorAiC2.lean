/-
  The program in the small language: written by program.
-/
import Derived.Test.YtomjajnlomdhpaaGreatDoorAiDat
import Derived.Test.YtomjajnlomdhpaaGreatDoorAiC1
set_option maxRecDepth 100000
set_option linter.unusedSimpArgs false
set_option linter.unusedVariables false
namespace Go.Ai.Z
def fnList : List (Nat × AFun) :=
  [(F_law06_RolesChecks, ir_law06_RolesChecks),
   (F_law06_sane, ir_law06_sane),
   (F_law06_chain, ir_law06_chain),
   (F_law06_sub, ir_law06_sub),
   (F_law06_circles, ir_law06_circles),
   (F_roles_Check, ir_roles_Check),
   (F_roles_check, ir_roles_check),
   (F_terms_CheckAxiom, ir_terms_CheckAxiom),
   (F_terms_isShaped, ir_terms_isShaped),
   (F_terms_isEmpty, ir_terms_isEmpty),
   (F_terms_isNamed, ir_terms_isNamed),
   (F_terms_isPlain, ir_terms_isPlain),
   (F_strings_Cut, ir_strings_Cut),
   (F_internal_stringslite_Cut, ir_internal_stringslite_Cut),
   (F_terms_isWord, ir_terms_isWord),
   (F_terms_isLetter, ir_terms_isLetter),
   (F_terms_isTail, ir_terms_isTail),
   (F_lexis_Keyword, ir_lexis_Keyword),
   (F_terms_CheckName, ir_terms_CheckName),
   (F_terms_isReserved, ir_terms_isReserved),
   (F_terms_CheckConcept, ir_terms_CheckConcept),
   (F_terms_fits, ir_terms_fits),
   (F_terms_walk, ir_terms_walk),
   (F_terms_walk_1, ir_terms_walk_1),
   (F_terms_visit, ir_terms_visit),
   (F_terms_checkFields, ir_terms_checkFields),
   (F_terms_isBare, ir_terms_isBare),
   (F_slices_ContainsFunc_api_Concept_api_Concept, ir_slices_ContainsFunc_api_Concept_api_Concept),
   (F_slices_IndexFunc_api_Concept_api_Concept, ir_slices_IndexFunc_api_Concept_api_Concept),
   (F_roles_steps, ir_roles_steps),
   (F_roles_steps_1, ir_roles_steps_1),
   (F_roles_exempt, ir_roles_exempt),
   (F_roles_newGraph, ir_roles_newGraph),
   (F_slices_BinarySearch_string_string, ir_slices_BinarySearch_string_string),
   (F_cmp_Less_string, ir_cmp_Less_string),
   (F_cmp_isNaN_string, ir_cmp_isNaN_string),
   (F_slices_isNaN_string, ir_slices_isNaN_string),
   (F_roles_graph_circle, ir_roles_graph_circle),
   (F_slices_Reverse_int_int, ir_slices_Reverse_int_int),
   (F_ref06_Same, ir_ref06_Same),
   (F_roles_Above, ir_roles_Above),
   (F_roles_checkAll, ir_roles_checkAll),
   (F_roles_closure, ir_roles_closure),
   (F_roles_Simple, ir_roles_Simple),
   (F_roles_Word, ir_roles_Word),
   (F_roles_recognize, ir_roles_recognize),
   (F_roles_newGrammar, ir_roles_newGrammar),
   (F_roles_recognize_1, ir_roles_recognize_1),
   (F_roles_Compose, ir_roles_Compose),
   (F_law06_few, ir_law06_few),
   (F_ref02_FewAxioms, ir_ref02_FewAxioms),
   (F_ref02_FewAxiom, ir_ref02_FewAxiom),
   (F_ref02_Few, ir_ref02_Few),
   (F_ref02_count, ir_ref02_count),
   (F_ref06_Check, ir_ref06_Check),
   (F_ref06_checked, ir_ref06_checked),
   (F_ref02_CheckAxiom, ir_ref02_CheckAxiom),
   (F_ref02_fields, ir_ref02_fields),
   (F_ref02_Empty, ir_ref02_Empty),
   (F_ref02_Plain, ir_ref02_Plain),
   (F_ref02_Word, ir_ref02_Word),
   (F_ref02_letter, ir_ref02_letter),
   (F_ref02_keyword, ir_ref02_keyword),
   (F_ref02_inner, ir_ref02_inner),
   (F_ref02_Person, ir_ref02_Person),
   (F_ref02_Reserved, ir_ref02_Reserved),
   (F_ref02_CheckConcept, ir_ref02_CheckConcept),
   (F_ref02_Depth, ir_ref02_Depth),
   (F_ref02_Size, ir_ref02_Size),
   (F_ref02_walk, ir_ref02_walk),
   (F_ref02_shape, ir_ref02_shape),
   (F_ref02_named, ir_ref02_named),
   (F_ref02_bare, ir_ref02_bare),
   (F_ref06_steps, ir_ref06_steps),
   (F_ref06_exempt, ir_ref06_exempt),
   (F_ref06_All, ir_ref06_All),
   (F_ref06_With, ir_ref06_With),
   (F_ref06_Has, ir_ref06_Has),
   (F_ref06_closes, ir_ref06_closes),
   (F_ref06_less, ir_ref06_less),
   (F_ref06_longer, ir_ref06_longer),
   (F_law06_RolesAbove, ir_law06_RolesAbove),
   (F_ref06_Above, ir_ref06_Above),
   (F_ref02_CheckName, ir_ref02_CheckName),
   (F_ref06_Up, ir_ref06_Up),
   (F_ref06_Simple, ir_ref06_Simple),
   (F_law06_RolesWords, ir_law06_RolesWords),
   (F_law06_short, ir_law06_short),
   (F_ref06_Word, ir_ref06_Word),
   (F_ref06_Words, ir_ref06_Words),
   (F_ref06_covers, ir_ref06_covers),
   (F_ref06_Compose, ir_ref06_Compose)]
def globList : List (Nat × List AV) :=
  [(G_terms_needs, [.i .i64 0, .i .i64 0, .i .i64 0, .b false, .i .i64 0, .i .i64 0, .i .i64 0, .b false, .i .i64 0, .i .i64 0, .i .i64 0, .b false, .i .i64 1, .i .i64 0, .i .i64 0, .b false, .i .i64 2, .i .i64 0, .i .i64 0, .b false, .i .i64 0, .i .i64 2, .i .i64 8, .b false, .i .i64 1, .i .i64 1, .i .i64 1, .b false, .i .i64 1, .i .i64 0, .i .i64 0, .b true]),
   (G_terms_uses, [.b false, .b false, .b false, .b false, .b false, .i .i64 0, .i .i64 0,
     .b true, .b true, .b false, .b false, .b false, .i .i64 0, .i .i64 0,
     .b true, .b true, .b false, .b false, .b false, .i .i64 0, .i .i64 0,
     .b true, .b true, .b false, .b false, .b false, .i .i64 0, .i .i64 0,
     .b false, .b true, .b true, .b false, .b false, .i .i64 0, .i .i64 0,
     .b false, .b false, .b true, .b false, .b false, .i .i64 1, .i .i64 1,
     .b false, .b false, .b true, .b false, .b false, .i .i64 2, .i .i64 4,
     .b false, .b false, .b true, .b false, .b false, .i .i64 0, .i .i64 0,
     .b false, .b true, .b false, .b true, .b false, .i .i64 0, .i .i64 0,
     .b false, .b false, .b true, .b true, .b true, .i .i64 0, .i .i64 0])]
def intrList : List (Nat × (List AV → St → Option AV)) :=
  [(F_strings_Join, pureI iJoin), (F_internal_stringslite_Index, pureI iIndex), (F_maps_Keys_map_string_bool_string_bool, iKeys 104), (F_maps_Keys_map_string_map_string_bool_string_map_string_bool, iKeys 122), (F_slices_Sorted_string, iSorted [104, 122])]
def P0 : AProg := ⟨fun f => fnList.lookup f, fun k => globList.lookup k, fun f => intrList.lookup f⟩
theorem go {f : Nat} {fn : AFun} (hi : intrList.lookup f = none) (hf : fnList.lookup f = some fn) {as cs args : List AV} {s : St} {cx : Ctx} {o : CO} (ho : o ≠ .fail)
    (h : callFnW P0.glob (acallW P0) fn (as ++ args ++ cs) s cx = o) : acallW P0 (.fn (.func f) as cs) args s cx = o := acallW_fn hi hf ho h
def Go1 (f : Nat) (fn : AFun) : Prop := ∀ {as cs args : List AV} {s : St} {cx : Ctx} {o : CO}, o ≠ .fail → callFnW P0.glob (acallW P0) fn (as ++ args ++ cs) s cx = o → acallW P0 (.fn (.func f) as cs) args s cx = o
theorem go1 {f : Nat} {fn : AFun} (hi : intrList.lookup f = none) (hf : fnList.lookup f = some fn) : Go1 f fn := fun ho h => go hi hf ho h
theorem go_law06_RolesChecks : Go1 F_law06_RolesChecks ir_law06_RolesChecks := go1 rfl rfl
theorem go_roles_Check : Go1 F_roles_Check ir_roles_Check := go1 rfl rfl
theorem go_roles_check : Go1 F_roles_check ir_roles_check := go1 rfl rfl
theorem go_terms_CheckAxiom : Go1 F_terms_CheckAxiom ir_terms_CheckAxiom := go1 rfl rfl
theorem go_terms_isShaped : Go1 F_terms_isShaped ir_terms_isShaped := go1 rfl rfl
theorem go_terms_isEmpty : Go1 F_terms_isEmpty ir_terms_isEmpty := go1 rfl rfl
theorem go_terms_isNamed : Go1 F_terms_isNamed ir_terms_isNamed := go1 rfl rfl
theorem go_terms_isPlain : Go1 F_terms_isPlain ir_terms_isPlain := go1 rfl rfl
theorem go_strings_Cut : Go1 F_strings_Cut ir_strings_Cut := go1 rfl rfl
theorem go_internal_stringslite_Cut : Go1 F_internal_stringslite_Cut ir_internal_stringslite_Cut := go1 rfl rfl
theorem go_terms_isWord : Go1 F_terms_isWord ir_terms_isWord := go1 rfl rfl
theorem go_terms_isLetter : Go1 F_terms_isLetter ir_terms_isLetter := go1 rfl rfl
theorem go_terms_isTail : Go1 F_terms_isTail ir_terms_isTail := go1 rfl rfl
theorem go_lexis_Keyword : Go1 F_lexis_Keyword ir_lexis_Keyword := go1 rfl rfl
theorem go_terms_CheckName : Go1 F_terms_CheckName ir_terms_CheckName := go1 rfl rfl
theorem go_terms_isReserved : Go1 F_terms_isReserved ir_terms_isReserved := go1 rfl rfl
theorem go_terms_CheckConcept : Go1 F_terms_CheckConcept ir_terms_CheckConcept := go1 rfl rfl
theorem go_terms_fits : Go1 F_terms_fits ir_terms_fits := go1 rfl rfl
theorem go_terms_walk : Go1 F_terms_walk ir_terms_walk := go1 rfl rfl
theorem go_terms_walk_1 : Go1 F_terms_walk_1 ir_terms_walk_1 := go1 rfl rfl
theorem go_terms_visit : Go1 F_terms_visit ir_terms_visit := go1 rfl rfl
theorem go_terms_checkFields : Go1 F_terms_checkFields ir_terms_checkFields := go1 rfl rfl
theorem go_terms_isBare : Go1 F_terms_isBare ir_terms_isBare := go1 rfl rfl
theorem go_slices_ContainsFunc_api_Concept_api_Concept : Go1 F_slices_ContainsFunc_api_Concept_api_Concept ir_slices_ContainsFunc_api_Concept_api_Concept := go1 rfl rfl
theorem go_slices_IndexFunc_api_Concept_api_Concept : Go1 F_slices_IndexFunc_api_Concept_api_Concept ir_slices_IndexFunc_api_Concept_api_Concept := go1 rfl rfl
theorem go_roles_steps : Go1 F_roles_steps ir_roles_steps := go1 rfl rfl
theorem go_roles_steps_1 : Go1 F_roles_steps_1 ir_roles_steps_1 := go1 rfl rfl
theorem go_roles_exempt : Go1 F_roles_exempt ir_roles_exempt := go1 rfl rfl
theorem go_roles_newGraph : Go1 F_roles_newGraph ir_roles_newGraph := go1 rfl rfl
theorem go_slices_BinarySearch_string_string : Go1 F_slices_BinarySearch_string_string ir_slices_BinarySearch_string_string := go1 rfl rfl
theorem go_cmp_Less_string : Go1 F_cmp_Less_string ir_cmp_Less_string := go1 rfl rfl
theorem go_cmp_isNaN_string : Go1 F_cmp_isNaN_string ir_cmp_isNaN_string := go1 rfl rfl
theorem go_slices_isNaN_string : Go1 F_slices_isNaN_string ir_slices_isNaN_string := go1 rfl rfl
theorem go_roles_graph_circle : Go1 F_roles_graph_circle ir_roles_graph_circle := go1 rfl rfl
theorem go_slices_Reverse_int_int : Go1 F_slices_Reverse_int_int ir_slices_Reverse_int_int := go1 rfl rfl
theorem go_ref06_Same : Go1 F_ref06_Same ir_ref06_Same := go1 rfl rfl
theorem go_law06_few : Go1 F_law06_few ir_law06_few := go1 rfl rfl
theorem go_ref02_FewAxioms : Go1 F_ref02_FewAxioms ir_ref02_FewAxioms := go1 rfl rfl
theorem go_ref02_FewAxiom : Go1 F_ref02_FewAxiom ir_ref02_FewAxiom := go1 rfl rfl
theorem go_ref02_Few : Go1 F_ref02_Few ir_ref02_Few := go1 rfl rfl
theorem go_ref02_count : Go1 F_ref02_count ir_ref02_count := go1 rfl rfl
theorem go_ref06_Check : Go1 F_ref06_Check ir_ref06_Check := go1 rfl rfl
theorem go_ref06_checked : Go1 F_ref06_checked ir_ref06_checked := go1 rfl rfl
theorem go_ref02_CheckAxiom : Go1 F_ref02_CheckAxiom ir_ref02_CheckAxiom := go1 rfl rfl
theorem go_ref02_fields : Go1 F_ref02_fields ir_ref02_fields := go1 rfl rfl
theorem go_ref02_Empty : Go1 F_ref02_Empty ir_ref02_Empty := go1 rfl rfl
theorem go_ref02_Plain : Go1 F_ref02_Plain ir_ref02_Plain := go1 rfl rfl
theorem go_ref02_Word : Go1 F_ref02_Word ir_ref02_Word := go1 rfl rfl
theorem go_ref02_letter : Go1 F_ref02_letter ir_ref02_letter := go1 rfl rfl
theorem go_ref02_keyword : Go1 F_ref02_keyword ir_ref02_keyword := go1 rfl rfl
theorem go_ref02_inner : Go1 F_ref02_inner ir_ref02_inner := go1 rfl rfl
theorem go_ref02_Person : Go1 F_ref02_Person ir_ref02_Person := go1 rfl rfl
theorem go_ref02_Reserved : Go1 F_ref02_Reserved ir_ref02_Reserved := go1 rfl rfl
theorem go_ref02_CheckConcept : Go1 F_ref02_CheckConcept ir_ref02_CheckConcept := go1 rfl rfl
theorem go_ref02_Depth : Go1 F_ref02_Depth ir_ref02_Depth := go1 rfl rfl
theorem go_ref02_Size : Go1 F_ref02_Size ir_ref02_Size := go1 rfl rfl
theorem go_ref02_walk : Go1 F_ref02_walk ir_ref02_walk := go1 rfl rfl
theorem go_ref02_shape : Go1 F_ref02_shape ir_ref02_shape := go1 rfl rfl
theorem go_ref02_named : Go1 F_ref02_named ir_ref02_named := go1 rfl rfl
theorem go_ref02_bare : Go1 F_ref02_bare ir_ref02_bare := go1 rfl rfl
theorem go_ref06_steps : Go1 F_ref06_steps ir_ref06_steps := go1 rfl rfl
theorem go_ref06_exempt : Go1 F_ref06_exempt ir_ref06_exempt := go1 rfl rfl
theorem go_ref06_All : Go1 F_ref06_All ir_ref06_All := go1 rfl rfl
theorem go_ref06_With : Go1 F_ref06_With ir_ref06_With := go1 rfl rfl
theorem go_ref06_Has : Go1 F_ref06_Has ir_ref06_Has := go1 rfl rfl
theorem go_ref06_closes : Go1 F_ref06_closes ir_ref06_closes := go1 rfl rfl
theorem go_ref06_less : Go1 F_ref06_less ir_ref06_less := go1 rfl rfl
theorem go_ref06_longer : Go1 F_ref06_longer ir_ref06_longer := go1 rfl rfl
end Go.Ai.Z
