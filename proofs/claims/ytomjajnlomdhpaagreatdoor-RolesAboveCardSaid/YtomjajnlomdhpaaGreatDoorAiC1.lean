/-
  Functions whose answer is known.
-/
import Derived.Test.YtomjajnlomdhpaaGreatDoorAiA1
import Derived.Lib.ItoaLen
import Derived.Lib.Bytealg
set_option maxRecDepth 100000
set_option linter.unusedSimpArgs false
set_option linter.unusedVariables false
namespace Go.Ai

/-- strings.Join. -/
def joinL (sep : List UInt8) : List (List UInt8) → List UInt8
  | [] => []
  | x :: r => x ++ r.flatMap fun y => sep ++ y
def strOf : AV → Option (List UInt8)
  | .s l => some l
  | _ => none
def iJoin : List AV → Option AV
  | [.sl es, .s sep] => (es.mapM strOf).bind fun l => if (joinL sep l).length ≤ 1048576 ∧ l.length ≤ 1048576 then some (.s (joinL sep l)) else none
  | _ => none

/-- strconv.Itoa. -/
def iItoa : List AV → Option AV
  | [.i .i64 n] => if -9223372036854775808 ≤ n ∧ n ≤ 9223372036854775807 then some (.s (Lib.itoa n)) else none
  | _ => none

/-- Where a byte stands first: what is before it, and what is behind. -/
def cutB (b : UInt8) : List UInt8 → Option (List UInt8 × List UInt8)
  | [] => none
  | x :: r => if x = b then some ([], r) else (cutB b r).map fun p => (x :: p.1, p.2)
/-- strings.Index of one byte. -/
def iIndex : List AV → Option AV
  | [.s l, .s [b]] => some (.i .i64 (Lib.indexByte l b))
  | _ => none

/-- strings.Compare. -/
def iCompare : List AV → Option AV
  | [.s a, .s b] => some (.i .i64 (Lib.compareBytes a b))
  | _ => none

/-! ### maps.Keys and slices.Sorted -/

/-- A string among strings in order. -/
def insS (x : List UInt8) : List (List UInt8) → List (List UInt8)
  | [] => [x]
  | y :: r => if y < x then y :: insS x r else x :: y :: r
def isort : List (List UInt8) → List (List UInt8)
  | [] => []
  | x :: r => insS x (isort r)
def strictS : List (List UInt8) → Bool
  | a :: b :: r => decide (a < b) && strictS (b :: r)
  | _ => true
theorem insS_perm (x : List UInt8) : ∀ l, (insS x l).Perm (x :: l)
  | [] => .refl _
  | y :: r => by
    simp only [insS]
    split
    · exact (List.Perm.cons y (insS_perm x r)).trans (List.Perm.swap x y r)
    · exact .refl _
theorem isort_perm : ∀ l, (isort l).Perm l
  | [] => .refl _
  | x :: r => (insS_perm x _).trans (List.Perm.cons x (isort_perm r))
theorem insS_sorted (x : List UInt8) : ∀ l : List (List UInt8), l.Pairwise (fun a b => a ≤ b) → (insS x l).Pairwise (fun a b => a ≤ b)
  | [], _ => by simp [insS]
  | y :: r, h => by
    obtain ⟨h1, h2⟩ := List.pairwise_cons.1 h
    simp only [insS]
    split
    · rename_i hlt
      refine List.pairwise_cons.2 ⟨fun z hz => ?_, insS_sorted x r h2⟩
      rcases List.mem_cons.1 ((insS_perm x r).mem_iff.1 hz) with rfl | hz
      · exact List.le_of_lt hlt
      · exact h1 z hz
    · rename_i hnlt
      have hxy : x ≤ y := List.not_lt.1 hnlt
      refine List.pairwise_cons.2 ⟨fun z hz => ?_, h⟩
      rcases List.mem_cons.1 hz with rfl | hz
      · exact hxy
      · exact List.le_trans hxy (h1 z hz)
theorem isort_sorted : ∀ l : List (List UInt8), (isort l).Pairwise (fun a b => a ≤ b)
  | [] => .nil
  | x :: r => insS_sorted x _ (isort_sorted r)
theorem strictS_nodup : ∀ l : List (List UInt8), strictS l = true → l.Pairwise (fun a b => a < b)
  | [], _ => .nil
  | [a], _ => by simp
  | a :: b :: r, h => by
    simp only [strictS, Bool.and_eq_true, decide_eq_true_eq] at h
    have ih := strictS_nodup (b :: r) h.2
    refine List.pairwise_cons.2 ⟨fun z hz => ?_, ih⟩
    rcases List.mem_cons.1 hz with rfl | hz
    · exact h.1
    · exact List.lt_trans h.1 ((List.pairwise_cons.1 ih).1 z hz)

/-- A map's keys, strings. -/
def keysM (s : St) : AV → Option (List (List UInt8))
  | .im es => es.mapM fun p => strOf p.1
  | .mp l => match s[l]? with
    | some (.map es) => es.mapM fun p => strOf p.1
    | some (.umap es) => some (es.map (·.1))
    | _ => none
  | .nm => some []
  | _ => none
/-- A map. -/
def isMapV : AV → Bool
  | .im _ | .mp _ | .nm => true
  | _ => false
/-- maps.Keys: the iterator over a map. -/
def iKeys (f : Nat) : List AV → St → Option AV
  | [m], _ => if isMapV m then some (.fn (.func f) [] [.kb m]) else none
  | _, _ => none
/-- Strings as a slice: nil if there is none. -/
def slS (l : List (List UInt8)) : AV := match l with | [] => .ns | l => .sl (l.map .s)
/-- slices.Sorted of a map's keys. -/
def iSorted (ks : List Nat) : List AV → St → Option AV
  | [.fn (.func f) [] [.kb m]], s => if ks.contains f then (keysM s m).bind fun l => if strictS (isort l) ∧ l.length ≤ 1048576 ∧ (∀ x ∈ l, x.length ≤ 1048576) then some (slS (isort l)) else none else none
  | _, _ => none

end Go.Ai

/-
  Numbers of functions, types and variables: written by program.
-/
namespace Go.Ai.Z
abbrev F_law06_RolesChecks : Nat := 4
abbrev F_law06_sane : Nat := 11
abbrev F_law06_few : Nat := 12
abbrev F_roles_Check : Nat := 13
abbrev F_ref06_Check : Nat := 14
abbrev F_ref06_Same : Nat := 15
abbrev F_law06_chain : Nat := 42
abbrev F_law06_sub : Nat := 43
abbrev F_law06_circles : Nat := 41
abbrev F_roles_Above : Nat := 16
abbrev F_roles_Simple : Nat := 18
abbrev F_roles_Word : Nat := 21
abbrev F_roles_Compose : Nat := 23
abbrev F_roles_check : Nat := 45
abbrev F_roles_steps : Nat := 47
abbrev F_roles_newGraph : Nat := 46
abbrev F_roles_graph_circle : Nat := 48
abbrev F_terms_CheckAxiom : Nat := 32
abbrev F_terms_isShaped : Nat := 66
abbrev F_terms_isNamed : Nat := 67
abbrev F_terms_CheckConcept : Nat := 68
abbrev F_terms_isBare : Nat := 69
abbrev F_terms_isEmpty : Nat := 110
abbrev F_terms_isPlain : Nat := 111
abbrev F_terms_CheckName : Nat := 101
abbrev F_strings_Cut : Nat := 135
abbrev F_terms_isWord : Nat := 136
abbrev F_internal_stringslite_Cut : Nat := 160
abbrev F_internal_stringslite_Index : Nat := 175
abbrev F_terms_isLetter : Nat := 161
abbrev F_terms_isTail : Nat := 148
abbrev F_lexis_Keyword : Nat := 162
abbrev F_terms_isReserved : Nat := 130
abbrev F_terms_fits : Nat := 112
abbrev F_terms_walk : Nat := 113
abbrev F_terms_checkFields : Nat := 114
abbrev F_terms_walk_1 : Nat := 137
abbrev F_terms_visit : Nat := 138
abbrev F_slices_ContainsFunc_api_Concept_api_Concept : Nat := 115
abbrev F_slices_IndexFunc_api_Concept_api_Concept : Nat := 139
abbrev F_roles_steps_1 : Nat := 95
abbrev F_roles_exempt : Nat := 96
abbrev F_maps_Keys_map_string_map_string_bool_string_map_string_bool : Nat := 93
abbrev F_slices_Sorted_string : Nat := 56
abbrev F_maps_Keys_map_string_bool_string_bool : Nat := 57
abbrev F_slices_BinarySearch_string_string : Nat := 94
abbrev F_cmp_Less_string : Nat := 123
abbrev F_slices_isNaN_string : Nat := 124
abbrev F_cmp_isNaN_string : Nat := 120
abbrev F_slices_Reverse_int_int : Nat := 97
abbrev F_roles_checkAll : Nat := 55
abbrev F_roles_closure : Nat := 58
abbrev F_roles_recognize : Nat := 62
abbrev F_roles_newGrammar : Nat := 106
abbrev F_roles_recognize_1 : Nat := 107
abbrev F_strings_Join : Nat := 117
abbrev F_ref02_FewAxioms : Nat := 44
abbrev F_ref02_FewAxiom : Nat := 8
abbrev F_ref02_Few : Nat := 31
abbrev F_ref02_count : Nat := 65
abbrev F_ref06_checked : Nat := 49
abbrev F_ref06_steps : Nat := 50
abbrev F_ref06_All : Nat := 51
abbrev F_ref06_closes : Nat := 52
abbrev F_ref06_less : Nat := 53
abbrev F_ref06_longer : Nat := 54
abbrev F_ref02_CheckAxiom : Nat := 98
abbrev F_ref02_fields : Nat := 125
abbrev F_ref02_Empty : Nat := 126
abbrev F_ref02_Plain : Nat := 127
abbrev F_ref02_Person : Nat := 105
abbrev F_ref02_CheckConcept : Nat := 128
abbrev F_ref02_bare : Nat := 129
abbrev F_ref02_Word : Nat := 144
abbrev F_ref02_letter : Nat := 166
abbrev F_ref02_keyword : Nat := 167
abbrev F_ref02_inner : Nat := 159
abbrev F_ref02_Reserved : Nat := 134
abbrev F_ref02_Depth : Nat := 145
abbrev F_ref02_Size : Nat := 146
abbrev F_ref02_walk : Nat := 147
abbrev F_ref02_shape : Nat := 168
abbrev F_ref02_named : Nat := 169
abbrev F_ref06_exempt : Nat := 99
abbrev F_ref06_With : Nat := 100
abbrev F_ref06_Has : Nat := 61
abbrev F_law06_RolesAbove : Nat := 5
abbrev F_ref06_Above : Nat := 17
abbrev F_ref06_Simple : Nat := 19
abbrev F_ref02_CheckName : Nat := 59
abbrev F_ref06_Up : Nat := 60
abbrev F_law06_RolesWords : Nat := 6
abbrev F_law06_short : Nat := 20
abbrev F_ref06_Word : Nat := 22
abbrev F_ref06_Compose : Nat := 24
abbrev F_ref06_Words : Nat := 63
abbrev F_ref06_covers : Nat := 108
abbrev T_string_0 : Nat := 9
abbrev T_api_Axiom_0 : Nat := 27
abbrev T_roles_step_2 : Nat := 133
abbrev T_roles_step_1 : Nat := 129
abbrev T_int_0 : Nat := 3
abbrev T_roles_way_0 : Nat := 137
abbrev T_2_bool_1 : Nat := 140
abbrev T_roles_rule_1 : Nat := 159
abbrev T_roles_item_1 : Nat := 155
abbrev T_ref06_path_2 : Nat := 89
abbrev T_ref06_path_1 : Nat := 88
abbrev T_ref06_step_1 : Nat := 143
abbrev T_string_2 : Nat := 107
abbrev T_string_1 : Nat := 25
abbrev G_terms_uses : Nat := 0
abbrev G_terms_needs : Nat := 2
end Go.Ai.Z

/-
  The program's functions in the small language: written by program.
-/
namespace Go.Ai.Z
/-- veilstone/veilstonelaw06.RolesChecks -/
def ir_law06_RolesChecks : AFun := ⟨1, [.tmp 2], true, false,
 (.seq (.region [⟨(some 2), none, .asg (.c (.b false))⟩] none [0])
 (.seq (.seq (.region [⟨(some 7), none, .call (.c (.fn (.func F_law06_sane) [] [])) []⟩,
   ⟨(some 8), none, .un .not (.t 7)⟩] none [0, 8])
 (.cond (.t 8)
  (.seq (.region [⟨(some 2), none, .asg (.c (.b false))⟩] none [2])
  .ret)
  .skip))
 (.seq (.seq (.region [⟨(some 9), none, .mov (.t 0)⟩,
   ⟨(some 10), none, .call (.c (.fn (.func F_law06_few) [] [])) [(.t 9)]⟩,
   ⟨(some 11), none, .un .not (.t 10)⟩] none [0, 11])
 (.cond (.t 11)
  (.seq (.region [⟨(some 2), none, .asg (.c (.b true))⟩] none [2])
  .ret)
  .skip))
 (.seq (.region [⟨(some 13), none, .mov (.t 0)⟩,
   ⟨(some 14), none, .call (.c (.fn (.func F_roles_Check) [] [])) [(.t 13)]⟩,
   ⟨(some 12), none, .mov (.t 14)⟩,
   ⟨(some 15), none, .ext (.t 12) 0⟩,
   ⟨(some 16), none, .ext (.t 12) 1⟩,
   ⟨(some 3), none, .asg (.t 15)⟩,
   ⟨(some 4), none, .asg (.t 16)⟩] none [0, 3, 4])
 (.seq (.region [⟨(some 18), none, .mov (.t 0)⟩,
   ⟨(some 19), none, .call (.c (.fn (.func F_ref06_Check) [] [])) [(.t 18)]⟩,
   ⟨(some 17), none, .mov (.t 19)⟩,
   ⟨(some 20), none, .ext (.t 17) 0⟩,
   ⟨(some 21), none, .ext (.t 17) 1⟩,
   ⟨(some 5), none, .asg (.t 20)⟩,
   ⟨(some 6), none, .asg (.t 21)⟩] none [3, 4, 5, 6])
 (.seq (.region [⟨(some 22), none, .mov (.t 3)⟩,
   ⟨(some 23), none, .mov (.t 5)⟩,
   ⟨(some 24), none, .call (.c (.fn (.func F_ref06_Same) [] [])) [(.t 22), (.t 23)]⟩,
   ⟨(some 25), none, .mov (.t 24)⟩,
   ⟨(some 26), some (25, true), .mov (.t 4)⟩,
   ⟨(some 27), some (25, true), .mov (.t 6)⟩,
   ⟨(some 28), some (25, true), .bin .eql (.t 26) (.t 27)⟩,
   ⟨(some 29), none, .pick (.t 25) (.t 28) (.c (.b false))⟩,
   ⟨(some 2), none, .asg (.t 29)⟩] none [2])
 .ret))))))⟩

/-- veilstone/veilstonelaw06.sane -/
def ir_law06_sane : AFun := ⟨0, [.tmp 0], true, false,
 (.seq (.region [⟨(some 0), none, .asg (.c (.b false))⟩] none [])
 (.seq (.seq (.region [⟨(some 20), none, .bsl false T_string_0 1 2 [(.s [])] [(0, (.c (.s [114]))), (1, (.c (.s [115])))]⟩,
   ⟨(some 21), none, .call (.c (.fn (.func F_law06_chain) [] [])) [(.t 20), (.c (.s [116]))]⟩,
   ⟨(some 22), none, .call (.c (.fn (.func F_law06_sub) [] [])) [(.c (.s [116])), (.c (.s [115]))]⟩,
   ⟨(some 23), none, .bsl false T_api_Axiom_0 16 2 [(.i .i64 0), (.b false), (.i .i64 0), (.s []), (.i .i64 0), (.i .i64 0), .ns, (.i .i64 0), (.s []), (.i .i64 0), (.i .i64 0), .ns, .ns, (.s []), (.s []), (.s [])] [(0, (.t 21)), (1, (.t 22))]⟩,
   ⟨(some 24), none, .bsl false T_string_0 1 2 [(.s [])] [(0, (.c (.s [115]))), (1, (.c (.s [116])))]⟩,
   ⟨(some 25), none, .call (.c (.fn (.func F_law06_circles) [] [])) [(.t 23), (.t 24)]⟩,
   ⟨(some 26), none, .un .not (.t 25)⟩,
   ⟨(some 27), none, .mov (.t 26)⟩,
   ⟨(some 28), some (27, false), .bsl false T_string_0 1 3 [(.s [])] [(0, (.c (.s [114]))), (1, (.c (.s [116]))), (2, (.c (.s [114])))]⟩,
   ⟨(some 29), some (27, false), .call (.c (.fn (.func F_law06_chain) [] [])) [(.t 28), (.c (.s [116]))]⟩,
   ⟨(some 30), some (27, false), .bsl false T_api_Axiom_0 16 1 [(.i .i64 0), (.b false), (.i .i64 0), (.s []), (.i .i64 0), (.i .i64 0), .ns, (.i .i64 0), (.s []), (.i .i64 0), (.i .i64 0), .ns, .ns, (.s []), (.s []), (.s [])] [(0, (.t 29))]⟩,
   ⟨(some 31), some (27, false), .bsl false T_string_0 1 1 [(.s [])] [(0, (.c (.s [116])))]⟩,
   ⟨(some 32), some (27, false), .call (.c (.fn (.func F_law06_circles) [] [])) [(.t 30), (.t 31)]⟩,
   ⟨(some 33), some (27, false), .un .not (.t 32)⟩,
   ⟨(some 34), none, .pick (.t 27) (.c (.b true)) (.t 33)⟩,
   ⟨(some 35), none, .mov (.t 34)⟩,
   ⟨(some 36), some (35, false), .bsl false T_string_0 1 3 [(.s [])] [(0, (.c (.s [115]))), (1, (.c (.s [114]))), (2, (.c (.s [115])))]⟩,
   ⟨(some 37), some (35, false), .call (.c (.fn (.func F_law06_chain) [] [])) [(.t 36), (.c (.s [114]))]⟩,
   ⟨(some 38), some (35, false), .bsl false T_api_Axiom_0 16 1 [(.i .i64 0), (.b false), (.i .i64 0), (.s []), (.i .i64 0), (.i .i64 0), .ns, (.i .i64 0), (.s []), (.i .i64 0), (.i .i64 0), .ns, .ns, (.s []), (.s []), (.s [])] [(0, (.t 37))]⟩,
   ⟨(some 39), some (35, false), .bsl false T_string_0 1 1 [(.s [])] [(0, (.c (.s [114])))]⟩,
   ⟨(some 40), some (35, false), .call (.c (.fn (.func F_law06_circles) [] [])) [(.t 38), (.t 39)]⟩,
   ⟨(some 41), some (35, false), .un .not (.t 40)⟩,
   ⟨(some 42), none, .pick (.t 35) (.c (.b true)) (.t 41)⟩,
   ⟨(some 43), none, .mov (.t 42)⟩,
   ⟨(some 44), some (43, false), .bsl false T_string_0 1 2 [(.s [])] [(0, (.c (.s [114]))), (1, (.c (.s [115])))]⟩,
   ⟨(some 45), some (43, false), .call (.c (.fn (.func F_law06_chain) [] [])) [(.t 44), (.c (.s [116]))]⟩,
   ⟨(some 46), some (43, false), .bsl false T_string_0 1 2 [(.s [])] [(0, (.c (.s [116]))), (1, (.c (.s [113])))]⟩,
   ⟨(some 47), some (43, false), .call (.c (.fn (.func F_law06_chain) [] [])) [(.t 46), (.c (.s [115]))]⟩,
   ⟨(some 48), some (43, false), .bsl false T_api_Axiom_0 16 2 [(.i .i64 0), (.b false), (.i .i64 0), (.s []), (.i .i64 0), (.i .i64 0), .ns, (.i .i64 0), (.s []), (.i .i64 0), (.i .i64 0), .ns, .ns, (.s []), (.s []), (.s [])] [(0, (.t 45)), (1, (.t 47))]⟩,
   ⟨(some 49), some (43, false), .bsl false T_string_0 1 2 [(.s [])] [(0, (.c (.s [115]))), (1, (.c (.s [116])))]⟩,
   ⟨(some 50), some (43, false), .call (.c (.fn (.func F_law06_circles) [] [])) [(.t 48), (.t 49)]⟩,
   ⟨(some 51), some (43, false), .un .not (.t 50)⟩,
   ⟨(some 52), none, .pick (.t 43) (.c (.b true)) (.t 51)⟩] none [52])
 (.cond (.t 52)
  (.seq (.region [⟨(some 0), none, .asg (.c (.b false))⟩] none [0])
  .ret)
  .skip))
 (.seq (.region [⟨(some 54), none, .bsl false T_string_0 1 2 [(.s [])] [(0, (.c (.s [116]))), (1, (.c (.s [116])))]⟩,
   ⟨(some 55), none, .call (.c (.fn (.func F_law06_chain) [] [])) [(.t 54), (.c (.s [116]))]⟩,
   ⟨(some 56), none, .bsl false T_string_0 1 2 [(.s [])] [(0, (.c (.s [116]))), (1, (.c (.s [114])))]⟩,
   ⟨(some 57), none, .call (.c (.fn (.func F_law06_chain) [] [])) [(.t 56), (.c (.s [116]))]⟩,
   ⟨(some 58), none, .bsl false T_string_0 1 2 [(.s [])] [(0, (.c (.s [114]))), (1, (.c (.s [115])))]⟩,
   ⟨(some 59), none, .call (.c (.fn (.func F_law06_chain) [] [])) [(.t 58), (.c (.s [114]))]⟩,
   ⟨(some 60), none, .call (.c (.fn (.func F_law06_sub) [] [])) [(.c (.s [112])), (.c (.s [113]))]⟩,
   ⟨(some 61), none, .call (.c (.fn (.func F_law06_sub) [] [])) [(.c (.s [113])), (.c (.s [112]))]⟩,
   ⟨(some 62), none, .bsl false T_api_Axiom_0 16 5 [(.i .i64 0), (.b false), (.i .i64 0), (.s []), (.i .i64 0), (.i .i64 0), .ns, (.i .i64 0), (.s []), (.i .i64 0), (.i .i64 0), .ns, .ns, (.s []), (.s []), (.s [])] [(0, (.t 55)), (1, (.t 57)), (2, (.t 59)), (3, (.t 60)), (4, (.t 61))]⟩,
   ⟨(some 63), none, .call (.c (.fn (.func F_roles_Check) [] [])) [(.t 62)]⟩,
   ⟨(some 53), none, .mov (.t 63)⟩,
   ⟨(some 64), none, .ext (.t 53) 0⟩,
   ⟨(some 65), none, .ext (.t 53) 1⟩,
   ⟨(some 1), none, .asg (.t 64)⟩,
   ⟨(some 2), none, .asg (.t 65)⟩] none [2])
 (.seq (.region [⟨(some 67), none, .call (.c (.fn (.func F_law06_sub) [] [])) [(.c (.s [114])), (.c (.s [115]))]⟩,
   ⟨(some 68), none, .bsl false T_api_Axiom_0 16 1 [(.i .i64 0), (.b false), (.i .i64 0), (.s []), (.i .i64 0), (.i .i64 0), .ns, (.i .i64 0), (.s []), (.i .i64 0), (.i .i64 0), .ns, .ns, (.s []), (.s []), (.s [])] [(0, (.t 67))]⟩,
   ⟨(some 69), none, .call (.c (.fn (.func F_roles_Above) [] [])) [(.t 68), (.c (.s [114]))]⟩,
   ⟨(some 66), none, .mov (.t 69)⟩,
   ⟨(some 70), none, .ext (.t 66) 0⟩,
   ⟨(some 71), none, .ext (.t 66) 1⟩,
   ⟨(some 3), none, .asg (.t 70)⟩,
   ⟨(some 4), none, .asg (.t 71)⟩] none [2, 3, 4])
 (.seq (.region [⟨(some 72), none, .bsl false T_string_0 1 2 [(.s [])] [(0, (.c (.s [114]))), (1, (.c (.s [114])))]⟩,
   ⟨(some 73), none, .call (.c (.fn (.func F_law06_chain) [] [])) [(.t 72), (.c (.s [114]))]⟩,
   ⟨(some 74), none, .call (.c (.fn (.func F_law06_sub) [] [])) [(.c (.s [114])), (.c (.s [115]))]⟩,
   ⟨(some 75), none, .bsl false T_api_Axiom_0 16 2 [(.i .i64 0), (.b false), (.i .i64 0), (.s []), (.i .i64 0), (.i .i64 0), .ns, (.i .i64 0), (.s []), (.i .i64 0), (.i .i64 0), .ns, .ns, (.s []), (.s []), (.s [])] [(0, (.t 73)), (1, (.t 74))]⟩,
   ⟨(some 5), none, .asg (.t 75)⟩] none [2, 3, 4, 5])
 (.seq (.region [⟨(some 77), none, .mov (.t 5)⟩,
   ⟨(some 78), none, .call (.c (.fn (.func F_roles_Simple) [] [])) [(.t 77), (.c (.s [115]))]⟩,
   ⟨(some 76), none, .mov (.t 78)⟩,
   ⟨(some 79), none, .ext (.t 76) 0⟩,
   ⟨(some 80), none, .ext (.t 76) 1⟩,
   ⟨(some 6), none, .asg (.t 79)⟩,
   ⟨(some 7), none, .asg (.t 80)⟩] none [2, 3, 4, 5, 6, 7])
 (.seq (.region [⟨(some 82), none, .mov (.t 5)⟩,
   ⟨(some 83), none, .call (.c (.fn (.func F_roles_Simple) [] [])) [(.t 82), (.c (.s [113]))]⟩,
   ⟨(some 81), none, .mov (.t 83)⟩,
   ⟨(some 84), none, .ext (.t 81) 0⟩,
   ⟨(some 85), none, .ext (.t 81) 1⟩,
   ⟨(some 8), none, .asg (.t 84)⟩,
   ⟨(some 9), none, .asg (.t 85)⟩] none [2, 3, 4, 6, 7, 8, 9])
 (.seq (.seq (.region [⟨(some 86), none, .mov (.t 2)⟩,
   ⟨(some 87), none, .bin .neq (.t 86) (.c (.i .i64 0))⟩,
   ⟨(some 88), none, .mov (.t 87)⟩,
   ⟨(some 89), some (88, false), .mov (.t 3)⟩,
   ⟨(some 90), some (88, false), .bsl false T_string_0 1 2 [(.s [])] [(0, (.c (.s [114]))), (1, (.c (.s [115])))]⟩,
   ⟨(some 91), some (88, false), .call (.c (.fn (.func F_ref06_Same) [] [])) [(.t 89), (.t 90)]⟩,
   ⟨(some 92), some (88, false), .un .not (.t 91)⟩,
   ⟨(some 93), none, .pick (.t 88) (.c (.b true)) (.t 92)⟩,
   ⟨(some 94), none, .mov (.t 93)⟩,
   ⟨(some 95), some (94, false), .mov (.t 4)⟩,
   ⟨(some 96), some (94, false), .bin .neq (.t 95) (.c (.i .i64 0))⟩,
   ⟨(some 97), none, .pick (.t 94) (.c (.b true)) (.t 96)⟩,
   ⟨(some 98), none, .mov (.t 97)⟩,
   ⟨(some 99), some (98, false), .mov (.t 6)⟩,
   ⟨(some 100), none, .pick (.t 98) (.c (.b true)) (.t 99)⟩,
   ⟨(some 101), none, .mov (.t 100)⟩,
   ⟨(some 102), some (101, false), .mov (.t 7)⟩,
   ⟨(some 103), some (101, false), .bin .neq (.t 102) (.c (.i .i64 0))⟩,
   ⟨(some 104), none, .pick (.t 101) (.c (.b true)) (.t 103)⟩,
   ⟨(some 105), none, .mov (.t 104)⟩,
   ⟨(some 106), some (105, false), .mov (.t 8)⟩,
   ⟨(some 107), some (105, false), .un .not (.t 106)⟩,
   ⟨(some 108), none, .pick (.t 105) (.c (.b true)) (.t 107)⟩,
   ⟨(some 109), none, .mov (.t 108)⟩,
   ⟨(some 110), some (109, false), .mov (.t 9)⟩,
   ⟨(some 111), some (109, false), .bin .neq (.t 110) (.c (.i .i64 0))⟩,
   ⟨(some 112), none, .pick (.t 109) (.c (.b true)) (.t 111)⟩] none [112])
 (.cond (.t 112)
  (.seq (.region [⟨(some 0), none, .asg (.c (.b false))⟩] none [0])
  .ret)
  .skip))
 (.seq (.region [⟨(some 113), none, .bsl false T_string_0 1 2 [(.s [])] [(0, (.c (.s [114]))), (1, (.c (.s [115])))]⟩,
   ⟨(some 114), none, .call (.c (.fn (.func F_law06_chain) [] [])) [(.t 113), (.c (.s [116]))]⟩,
   ⟨(some 115), none, .call (.c (.fn (.func F_law06_sub) [] [])) [(.c (.s [116])), (.c (.s [117]))]⟩,
   ⟨(some 116), none, .bsl false T_api_Axiom_0 16 2 [(.i .i64 0), (.b false), (.i .i64 0), (.s []), (.i .i64 0), (.i .i64 0), .ns, (.i .i64 0), (.s []), (.i .i64 0), (.i .i64 0), .ns, .ns, (.s []), (.s []), (.s [])] [(0, (.t 114)), (1, (.t 115))]⟩,
   ⟨(some 10), none, .asg (.t 116)⟩] none [10])
 (.seq (.region [⟨(some 118), none, .mov (.t 10)⟩,
   ⟨(some 119), none, .bsl false T_string_0 1 2 [(.s [])] [(0, (.c (.s [114]))), (1, (.c (.s [115])))]⟩,
   ⟨(some 120), none, .call (.c (.fn (.func F_roles_Word) [] [])) [(.t 118), (.t 119), (.c (.s [117]))]⟩,
   ⟨(some 117), none, .mov (.t 120)⟩,
   ⟨(some 121), none, .ext (.t 117) 0⟩,
   ⟨(some 122), none, .ext (.t 117) 1⟩,
   ⟨(some 11), none, .asg (.t 121)⟩,
   ⟨(some 12), none, .asg (.t 122)⟩] none [10, 11, 12])
 (.seq (.region [⟨(some 124), none, .mov (.t 10)⟩,
   ⟨(some 125), none, .call (.c (.fn (.func F_roles_Compose) [] [])) [(.t 124), (.c (.s [114])), (.c (.s [115]))]⟩,
   ⟨(some 123), none, .mov (.t 125)⟩,
   ⟨(some 126), none, .ext (.t 123) 0⟩,
   ⟨(some 127), none, .ext (.t 123) 1⟩,
   ⟨(some 13), none, .asg (.t 126)⟩,
   ⟨(some 14), none, .asg (.t 127)⟩] none [11, 12, 13, 14])
 (.seq (.region [⟨(some 128), none, .build [(.i .i64 0), (.b false), (.i .i64 0), (.s []), (.i .i64 0), (.i .i64 0), .ns, (.i .i64 0), (.s []), (.i .i64 0), (.i .i64 0), .ns, .ns, (.s []), (.s []), (.s [])] [(0, 1, (.c (.i .i64 7))), (1, 1, (.c (.b true))), (13, 1, (.c (.s [113])))]⟩,
   ⟨(some 129), none, .bsl false T_string_0 1 2 [(.s [])] [(0, (.c (.s [113]))), (1, (.c (.s [114])))]⟩,
   ⟨(some 130), none, .call (.c (.fn (.func F_law06_chain) [] [])) [(.t 129), (.c (.s [116]))]⟩,
   ⟨(some 131), none, .bsl false T_api_Axiom_0 16 2 [(.i .i64 0), (.b false), (.i .i64 0), (.s []), (.i .i64 0), (.i .i64 0), .ns, (.i .i64 0), (.s []), (.i .i64 0), (.i .i64 0), .ns, .ns, (.s []), (.s []), (.s [])] [(0, (.t 128)), (1, (.t 130))]⟩,
   ⟨(some 15), none, .asg (.t 131)⟩] none [11, 12, 13, 14, 15])
 (.seq (.region [⟨(some 133), none, .mov (.t 15)⟩,
   ⟨(some 134), none, .call (.c (.fn (.func F_roles_Word) [] [])) [(.t 133), (.c .ns), (.c (.s [113]))]⟩,
   ⟨(some 132), none, .mov (.t 134)⟩,
   ⟨(some 135), none, .ext (.t 132) 0⟩,
   ⟨(some 136), none, .ext (.t 132) 1⟩,
   ⟨(some 16), none, .asg (.t 135)⟩,
   ⟨(some 17), none, .asg (.t 136)⟩] none [11, 12, 13, 14, 15, 16, 17])
 (.seq (.region [⟨(some 138), none, .mov (.t 15)⟩,
   ⟨(some 139), none, .bsl false T_string_0 1 1 [(.s [])] [(0, (.c (.s [114])))]⟩,
   ⟨(some 140), none, .call (.c (.fn (.func F_roles_Word) [] [])) [(.t 138), (.t 139), (.c (.s [116]))]⟩,
   ⟨(some 137), none, .mov (.t 140)⟩,
   ⟨(some 141), none, .ext (.t 137) 0⟩,
   ⟨(some 142), none, .ext (.t 137) 1⟩,
   ⟨(some 18), none, .asg (.t 141)⟩,
   ⟨(some 19), none, .asg (.t 142)⟩] none [11, 12, 13, 14, 16, 17, 18, 19])
 (.seq (.region [⟨(some 143), none, .mov (.t 11)⟩,
   ⟨(some 144), none, .mov (.t 143)⟩,
   ⟨(some 145), some (144, true), .mov (.t 12)⟩,
   ⟨(some 146), some (144, true), .bin .eql (.t 145) (.c (.i .i64 0))⟩,
   ⟨(some 147), none, .pick (.t 144) (.t 146) (.c (.b false))⟩,
   ⟨(some 148), none, .mov (.t 147)⟩,
   ⟨(some 149), some (148, true), .mov (.t 13)⟩,
   ⟨(some 150), some (148, true), .bsl false T_string_0 1 2 [(.s [])] [(0, (.c (.s [116]))), (1, (.c (.s [117])))]⟩,
   ⟨(some 151), some (148, true), .call (.c (.fn (.func F_ref06_Same) [] [])) [(.t 149), (.t 150)]⟩,
   ⟨(some 152), none, .pick (.t 148) (.t 151) (.c (.b false))⟩,
   ⟨(some 153), none, .mov (.t 152)⟩,
   ⟨(some 154), some (153, true), .mov (.t 14)⟩,
   ⟨(some 155), some (153, true), .bin .eql (.t 154) (.c (.i .i64 0))⟩,
   ⟨(some 156), none, .pick (.t 153) (.t 155) (.c (.b false))⟩,
   ⟨(some 157), none, .mov (.t 156)⟩,
   ⟨(some 158), some (157, true), .mov (.t 16)⟩,
   ⟨(some 159), none, .pick (.t 157) (.t 158) (.c (.b false))⟩,
   ⟨(some 160), none, .mov (.t 159)⟩,
   ⟨(some 161), some (160, true), .mov (.t 17)⟩,
   ⟨(some 162), some (160, true), .bin .eql (.t 161) (.c (.i .i64 0))⟩,
   ⟨(some 163), none, .pick (.t 160) (.t 162) (.c (.b false))⟩,
   ⟨(some 164), none, .mov (.t 163)⟩,
   ⟨(some 165), some (164, true), .mov (.t 18)⟩,
   ⟨(some 166), none, .pick (.t 164) (.t 165) (.c (.b false))⟩,
   ⟨(some 167), none, .mov (.t 166)⟩,
   ⟨(some 168), some (167, true), .mov (.t 19)⟩,
   ⟨(some 169), some (167, true), .bin .eql (.t 168) (.c (.i .i64 0))⟩,
   ⟨(some 170), none, .pick (.t 167) (.t 169) (.c (.b false))⟩,
   ⟨(some 0), none, .asg (.t 170)⟩] none [0])
 .ret)))))))))))))))⟩

/-- veilstone/veilstonelaw06.chain -/
def ir_law06_chain : AFun := ⟨2, [.cell 4 (some 16)], true, false,
 (.seq (.region [⟨(some 4), none, .lalloc [(.i .i64 0), (.b false), (.i .i64 0), (.s []), (.i .i64 0), (.i .i64 0), .ns, (.i .i64 0), (.s []), (.i .i64 0), (.i .i64 0), .ns, .ns, (.s []), (.s []), (.s [])]⟩] none [0, 1, 4])
 (.seq (.region [⟨(some 5), none, .mov (.t 0)⟩,
   ⟨(some 6), none, .mov (.t 1)⟩,
   ⟨(some 7), none, .build [(.i .i64 0), (.b false), (.i .i64 0), (.s []), (.i .i64 0), (.i .i64 0), .ns, (.i .i64 0), (.s []), (.i .i64 0), (.i .i64 0), .ns, .ns, (.s []), (.s []), (.s [])] [(0, 1, (.c (.i .i64 6))), (1, 1, (.c (.b true))), (12, 1, (.t 5)), (13, 1, (.t 6))]⟩,
   ⟨none, none, .store 16 (.t 4) (.t 7)⟩] none [4])
 .ret))⟩

/-- veilstone/veilstonelaw06.sub -/
def ir_law06_sub : AFun := ⟨2, [.cell 4 (some 16)], true, false,
 (.seq (.region [⟨(some 4), none, .lalloc [(.i .i64 0), (.b false), (.i .i64 0), (.s []), (.i .i64 0), (.i .i64 0), .ns, (.i .i64 0), (.s []), (.i .i64 0), (.i .i64 0), .ns, .ns, (.s []), (.s []), (.s [])]⟩] none [0, 1, 4])
 (.seq (.region [⟨(some 5), none, .mov (.t 0)⟩,
   ⟨(some 6), none, .bsl false T_string_0 1 1 [(.s [])] [(0, (.t 5))]⟩,
   ⟨(some 7), none, .mov (.t 1)⟩,
   ⟨(some 8), none, .build [(.i .i64 0), (.b false), (.i .i64 0), (.s []), (.i .i64 0), (.i .i64 0), .ns, (.i .i64 0), (.s []), (.i .i64 0), (.i .i64 0), .ns, .ns, (.s []), (.s []), (.s [])] [(0, 1, (.c (.i .i64 5))), (1, 1, (.c (.b true))), (12, 1, (.t 6)), (13, 1, (.t 7))]⟩,
   ⟨none, none, .store 16 (.t 4) (.t 8)⟩] none [4])
 .ret))⟩

/-- veilstone/veilstonelaw06.circles -/
def ir_law06_circles : AFun := ⟨2, [.tmp 4], true, false,
 (.seq (.region [⟨(some 4), none, .asg (.c (.b false))⟩] none [0, 1])
 (.seq (.region [⟨(some 8), none, .mov (.t 0)⟩,
   ⟨(some 9), none, .call (.c (.fn (.func F_roles_Check) [] [])) [(.t 8)]⟩,
   ⟨(some 7), none, .mov (.t 9)⟩,
   ⟨(some 10), none, .ext (.t 7) 0⟩,
   ⟨(some 11), none, .ext (.t 7) 1⟩,
   ⟨(some 5), none, .asg (.t 10)⟩,
   ⟨(some 6), none, .asg (.t 11)⟩] none [1, 5, 6])
 (.seq (.region [⟨(some 12), none, .mov (.t 5)⟩,
   ⟨(some 13), none, .mov (.t 1)⟩,
   ⟨(some 14), none, .call (.c (.fn (.func F_ref06_Same) [] [])) [(.t 12), (.t 13)]⟩,
   ⟨(some 15), none, .mov (.t 14)⟩,
   ⟨(some 16), some (15, true), .mov (.t 6)⟩,
   ⟨(some 17), some (15, true), .bin .eql (.t 16) (.c (.i .i64 60))⟩,
   ⟨(some 18), none, .pick (.t 15) (.t 17) (.c (.b false))⟩,
   ⟨(some 4), none, .asg (.t 18)⟩] none [4])
 .ret)))⟩

def ir_roles_Check_L0 : ACode :=
 (.seq (.region [⟨(some 28), none, .bin .lss (.t 27) (.t 26)⟩] none [2, 5, 6, 7, 26, 27, 28])
 (.seq (.cond (.t 28)
  .skip
  (.exit 0))
 (.seq (.block 1
  (.seq (.region [⟨(some 29), none, .mov (.t 27)⟩,
    ⟨(some 8), none, .asg (.t 29)⟩] none [2, 5, 6, 7, 8, 26, 27])
  (.seq (.region [⟨(some 30), none, .load (some 2) (.t 5)⟩,
    ⟨(some 31), none, .mov (.t 8)⟩,
    ⟨(some 32), none, .mov (.t 6)⟩,
    ⟨(some 33), none, .call (.c (.fn (.func F_roles_graph_circle) [] [])) [(.t 30), (.t 31), (.t 32)]⟩,
    ⟨(some 9), none, .asg (.t 33)⟩] none [2, 5, 6, 7, 9, 26, 27])
  (.seq (.region [⟨(some 34), none, .mov (.t 9)⟩,
    ⟨(some 35), none, .nileq true 0 (.t 34)⟩] none [2, 5, 6, 7, 9, 26, 27, 35])
  (.cond (.t 35)
   (.region [⟨(some 36), none, .mov (.t 9)⟩,
     ⟨(some 37), none, .mov (.t 9)⟩,
     ⟨(some 38), none, .len 0 (.t 37)⟩,
     ⟨(some 7), none, .asg (.t 36)⟩,
     ⟨(some 6), none, .asg (.t 38)⟩] none [2, 5, 6, 7, 26, 27])
   .skip)))))
 (.region [⟨(some 39), none, .bin .add (.t 27) (.c (.i .i64 1))⟩,
   ⟨(some 27), none, .mov (.t 39)⟩] none [2, 5, 6, 7, 26, 27]))))
def ir_roles_Check_L1 : ACode :=
 (.seq (.region [⟨(some 45), none, .bin .lss (.t 44) (.t 43)⟩] none [2, 5, 42, 43, 44, 45])
 (.seq (.cond (.t 45)
  .skip
  (.exit 2))
 (.seq (.block 3
  (.seq (.region [⟨(some 46), none, .idx 1 (.t 42) (.t 44)⟩,
    ⟨(some 47), none, .load none (.t 46)⟩,
    ⟨(some 11), none, .asg (.t 47)⟩] none [2, 5, 11, 42, 43, 44])
  (.region [⟨(some 48), none, .mov (.t 2)⟩,
    ⟨(some 49), none, .fld 0 (.t 5)⟩,
    ⟨(some 50), none, .load none (.t 49)⟩,
    ⟨(some 51), none, .mov (.t 11)⟩,
    ⟨(some 52), none, .idx 1 (.t 50) (.t 51)⟩,
    ⟨(some 53), none, .load none (.t 52)⟩,
    ⟨(some 54), none, .bsl false T_string_0 1 1 [(.s [])] [(0, (.t 53))]⟩,
    ⟨(some 55), none, .app T_string_0 1 (.t 48) (.t 54)⟩,
    ⟨(some 2), none, .asg (.t 55)⟩] none [2, 5, 42, 43, 44])))
 (.region [⟨(some 56), none, .bin .add (.t 44) (.c (.i .i64 1))⟩,
   ⟨(some 44), none, .mov (.t 56)⟩] none [2, 5, 42, 43, 44]))))
/-- veilstone/roles.Check -/
def ir_roles_Check : AFun := ⟨1, [.tmp 2, .tmp 3], true, false,
 (.seq (.region [⟨(some 2), none, .nbuf T_string_0 1⟩,
   ⟨(some 3), none, .asg (.c (.i .i64 0))⟩] none [0, 2])
 (.seq (.seq (.region [⟨(some 12), none, .mov (.t 0)⟩,
   ⟨(some 13), none, .call (.c (.fn (.func F_roles_check) [] [])) [(.t 12)]⟩,
   ⟨(some 4), none, .asg (.t 13)⟩] none [0, 2, 4])
 (.seq (.region [⟨(some 14), none, .mov (.t 4)⟩,
   ⟨(some 15), none, .bin .neq (.t 14) (.c (.i .i64 0))⟩] none [0, 2, 4, 15])
 (.cond (.t 15)
  (.seq (.region [⟨(some 16), none, .mov (.t 4)⟩,
    ⟨(some 2), none, .nbuf T_string_0 1⟩,
    ⟨(some 3), none, .asg (.t 16)⟩] none [2, 3])
  .ret)
  .skip)))
 (.seq (.region [⟨(some 17), none, .mov (.t 0)⟩,
   ⟨(some 18), none, .call (.c (.fn (.func F_roles_steps) [] [])) [(.t 17)]⟩,
   ⟨(some 19), none, .call (.c (.fn (.func F_roles_newGraph) [] [])) [(.t 18)]⟩,
   ⟨(some 5), none, .lalloc [.ns, .ns]⟩,
   ⟨none, none, .store 2 (.t 5) (.t 19)⟩] none [2, 5])
 (.seq (.region [⟨(some 20), none, .fld 0 (.t 5)⟩,
   ⟨(some 21), none, .load none (.t 20)⟩,
   ⟨(some 22), none, .len 0 (.t 21)⟩,
   ⟨(some 23), none, .bin .add (.t 22) (.c (.i .i64 1))⟩,
   ⟨(some 6), none, .asg (.t 23)⟩] none [2, 5, 6])
 (.seq (.region [⟨(some 7), none, .asg (.c .ns)⟩] none [2, 5, 6, 7])
 (.seq (.seq (.region [⟨(some 24), none, .fld 0 (.t 5)⟩,
   ⟨(some 25), none, .load none (.t 24)⟩,
   ⟨(some 26), none, .len 0 (.t 25)⟩,
   ⟨(some 27), none, .mov (.c (.i .i64 0))⟩] none [2, 5, 6, 7, 26, 27])
 (.block 0
  (.loop [2, 5, 6, 7, 26, 27] ir_roles_Check_L0)))
 (.seq (.seq (.region [⟨(some 40), none, .mov (.t 7)⟩,
   ⟨(some 41), none, .nileq false 0 (.t 40)⟩] none [2, 5, 7, 41])
 (.cond (.t 41)
  (.seq (.region [⟨(some 2), none, .nbuf T_string_0 1⟩,
    ⟨(some 3), none, .asg (.c (.i .i64 0))⟩] none [2, 3])
  .ret)
  .skip))
 (.seq (.seq (.region [⟨(some 42), none, .mov (.t 7)⟩,
   ⟨(some 43), none, .len 0 (.t 42)⟩,
   ⟨(some 44), none, .mov (.c (.i .i64 0))⟩] none [2, 5, 42, 43, 44])
 (.block 2
  (.loop [2, 5, 42, 43, 44] ir_roles_Check_L1)))
 (.seq (.region [⟨(some 57), none, .mov (.t 2)⟩,
   ⟨(some 2), none, .asg (.t 57)⟩,
   ⟨(some 3), none, .asg (.c (.i .i64 60))⟩] none [2, 3])
 .ret)))))))))⟩

def ir_roles_check_L0 : ACode :=
 (.seq (.region [⟨(some 9), none, .bin .lss (.t 8) (.t 7)⟩] none [6, 7, 8, 9])
 (.seq (.cond (.t 9)
  .skip
  (.exit 0))
 (.seq (.block 1
  (.seq (.region [⟨(some 10), none, .idx 16 (.t 6) (.t 8)⟩,
    ⟨(some 11), none, .load (some 16) (.t 10)⟩,
    ⟨(some 4), none, .lalloc [(.i .i64 0), (.b false), (.i .i64 0), (.s []), (.i .i64 0), (.i .i64 0), .ns, (.i .i64 0), (.s []), (.i .i64 0), (.i .i64 0), .ns, .ns, (.s []), (.s []), (.s [])]⟩,
    ⟨none, none, .store 16 (.t 4) (.t 11)⟩] none [4, 6, 7, 8])
  (.seq (.region [⟨(some 12), none, .load (some 16) (.t 4)⟩,
    ⟨(some 13), none, .call (.c (.fn (.func F_terms_CheckAxiom) [] [])) [(.t 12)]⟩,
    ⟨(some 5), none, .asg (.t 13)⟩] none [5, 6, 7, 8])
  (.seq (.region [⟨(some 14), none, .mov (.t 5)⟩,
    ⟨(some 15), none, .bin .neq (.t 14) (.c (.i .i64 0))⟩] none [5, 6, 7, 8, 15])
  (.cond (.t 15)
   (.seq (.region [⟨(some 16), none, .mov (.t 5)⟩,
     ⟨(some 2), none, .asg (.t 16)⟩] none [2])
   .ret)
   .skip)))))
 (.region [⟨(some 17), none, .bin .add (.t 8) (.c (.i .i64 1))⟩,
   ⟨(some 8), none, .mov (.t 17)⟩] none [6, 7, 8]))))
/-- veilstone/roles.check -/
def ir_roles_check : AFun := ⟨1, [.tmp 2], true, false,
 (.seq (.region [⟨(some 2), none, .asg (.c (.i .i64 0))⟩] none [0])
 (.seq (.seq (.region [⟨(some 6), none, .mov (.t 0)⟩,
   ⟨(some 7), none, .len 0 (.t 6)⟩,
   ⟨(some 8), none, .mov (.c (.i .i64 0))⟩] none [6, 7, 8])
 (.block 0
  (.loop [6, 7, 8] ir_roles_check_L0)))
 (.seq (.region [⟨(some 2), none, .asg (.c (.i .i64 0))⟩] none [2])
 .ret)))⟩

/-- veilstone/terms.CheckAxiom -/
def ir_terms_CheckAxiom : AFun := ⟨1, [.tmp 2], true, false,
 (.seq (.region [⟨(some 1), none, .lbox (.t 0)⟩,
   ⟨(some 2), none, .asg (.c (.i .i64 0))⟩] none [1])
 (.seq (.seq (.region [⟨(some 6), none, .load (some 16) (.t 1)⟩,
   ⟨(some 7), none, .call (.c (.fn (.func F_terms_isShaped) [] [])) [(.t 6)]⟩,
   ⟨(some 8), none, .un .not (.t 7)⟩] none [1, 8])
 (.cond (.t 8)
  (.seq (.region [⟨(some 2), none, .asg (.c (.i .i64 22))⟩] none [2])
  .ret)
  .skip))
 (.seq (.region [⟨(some 9), none, .fld 0 (.t 1)⟩,
   ⟨(some 10), none, .load none (.t 9)⟩,
   ⟨(some 11), none, .idxa 10 7 (.g G_terms_uses) (.t 10)⟩,
   ⟨(some 12), none, .load (some 7) (.t 11)⟩,
   ⟨(some 3), none, .lalloc [(.b false), (.b false), (.b false), (.b false), (.b false), (.i .i64 0), (.i .i64 0)]⟩,
   ⟨none, none, .store 7 (.t 3) (.t 12)⟩] none [1, 3])
 (.seq (.seq (.region [⟨(some 13), none, .load (some 16) (.t 1)⟩,
   ⟨(some 14), none, .load (some 7) (.t 3)⟩,
   ⟨(some 15), none, .call (.c (.fn (.func F_terms_isNamed) [] [])) [(.t 13), (.t 14)]⟩,
   ⟨(some 16), none, .un .not (.t 15)⟩] none [1, 3, 16])
 (.cond (.t 16)
  (.seq (.region [⟨(some 2), none, .asg (.c (.i .i64 20))⟩] none [2])
  .ret)
  .skip))
 (.seq (.seq (.region [⟨(some 17), none, .fld 0 (.t 3)⟩,
   ⟨(some 18), none, .load none (.t 17)⟩] none [1, 3, 18])
 (.cond (.t 18)
  (.seq (.region [⟨(some 19), none, .fld 2 (.t 1)⟩,
    ⟨(some 20), none, .load (some 5) (.t 19)⟩,
    ⟨(some 21), none, .call (.c (.fn (.func F_terms_CheckConcept) [] [])) [(.t 20)]⟩,
    ⟨(some 4), none, .asg (.t 21)⟩] none [1, 3, 4])
  (.seq (.region [⟨(some 22), none, .mov (.t 4)⟩,
    ⟨(some 23), none, .bin .neq (.t 22) (.c (.i .i64 0))⟩] none [1, 3, 4, 23])
  (.cond (.t 23)
   (.seq (.region [⟨(some 24), none, .mov (.t 4)⟩,
     ⟨(some 2), none, .asg (.t 24)⟩] none [2])
   .ret)
   .skip)))
  .skip))
 (.seq (.seq (.region [⟨(some 25), none, .fld 1 (.t 3)⟩,
   ⟨(some 26), none, .load none (.t 25)⟩] none [1, 26])
 (.cond (.t 26)
  (.seq (.region [⟨(some 27), none, .fld 7 (.t 1)⟩,
    ⟨(some 28), none, .load (some 5) (.t 27)⟩,
    ⟨(some 29), none, .call (.c (.fn (.func F_terms_CheckConcept) [] [])) [(.t 28)]⟩,
    ⟨(some 5), none, .asg (.t 29)⟩] none [1, 5])
  (.seq (.region [⟨(some 30), none, .mov (.t 5)⟩,
    ⟨(some 31), none, .bin .neq (.t 30) (.c (.i .i64 0))⟩] none [1, 5, 31])
  (.cond (.t 31)
   (.seq (.region [⟨(some 32), none, .mov (.t 5)⟩,
     ⟨(some 2), none, .asg (.t 32)⟩] none [2])
   .ret)
   .skip)))
  .skip))
 (.seq (.seq (.region [⟨(some 33), none, .fld 0 (.t 1)⟩,
   ⟨(some 34), none, .load none (.t 33)⟩] none [1, 34])
 (.block 0
  (.seq (.region [⟨(some 36), none, .bin .eql (.t 34) (.c (.i .i64 2))⟩,
    ⟨(some 35), none, .asg (.t 36)⟩] none [1, 34, 35])
  (.cond (.t 35)
   (.seq (.region [⟨(some 37), none, .fld 2 (.t 1)⟩,
     ⟨(some 38), none, .load (some 5) (.t 37)⟩,
     ⟨(some 39), none, .call (.c (.fn (.func F_terms_isBare) [] [])) [(.t 38)]⟩,
     ⟨(some 40), none, .mov (.t 39)⟩,
     ⟨(some 41), some (40, false), .fld 7 (.t 1)⟩,
     ⟨(some 42), some (40, false), .load (some 5) (.t 41)⟩,
     ⟨(some 43), some (40, false), .call (.c (.fn (.func F_terms_isBare) [] [])) [(.t 42)]⟩,
     ⟨(some 44), none, .pick (.t 40) (.c (.b true)) (.t 43)⟩] none [44])
   (.cond (.t 44)
    (.seq (.region [⟨(some 2), none, .asg (.c (.i .i64 22))⟩] none [2])
    .ret)
    .skip))
   (.seq (.seq (.region [⟨(some 46), none, .bin .eql (.t 34) (.c (.i .i64 1))⟩,
     ⟨(some 45), none, .asg (.t 46)⟩] none [1, 34, 45])
   (.cond (.t 45)
    .skip
    (.seq (.region [⟨(some 47), none, .bin .eql (.t 34) (.c (.i .i64 4))⟩,
      ⟨(some 45), none, .asg (.t 47)⟩] none [1, 34, 45])
    (.cond (.t 45)
     .skip
     (.region [⟨(some 48), none, .bin .eql (.t 34) (.c (.i .i64 8))⟩,
       ⟨(some 45), none, .asg (.t 48)⟩] none [1, 45])))))
   (.cond (.t 45)
    (.seq (.region [⟨(some 49), none, .fld 7 (.t 1)⟩,
      ⟨(some 50), none, .load (some 5) (.t 49)⟩,
      ⟨(some 51), none, .call (.c (.fn (.func F_terms_isBare) [] [])) [(.t 50)]⟩] none [51])
    (.cond (.t 51)
     (.seq (.region [⟨(some 2), none, .asg (.c (.i .i64 22))⟩] none [2])
     .ret)
     .skip))
    .skip))))))
 (.seq (.region [⟨(some 2), none, .asg (.c (.i .i64 0))⟩] none [2])
 .ret))))))))⟩

/-- veilstone/terms.isShaped -/
def ir_terms_isShaped : AFun := ⟨1, [.tmp 2], true, false,
 (.seq (.region [⟨(some 1), none, .lbox (.t 0)⟩,
   ⟨(some 2), none, .asg (.c (.b false))⟩] none [1])
 (.seq (.seq (.region [⟨(some 4), none, .fld 0 (.t 1)⟩,
   ⟨(some 5), none, .load none (.t 4)⟩,
   ⟨(some 6), none, .bin .lss (.t 5) (.c (.i .i64 1))⟩,
   ⟨(some 7), none, .mov (.t 6)⟩,
   ⟨(some 8), some (7, false), .fld 0 (.t 1)⟩,
   ⟨(some 9), some (7, false), .load none (.t 8)⟩,
   ⟨(some 10), some (7, false), .bin .gtr (.t 9) (.c (.i .i64 9))⟩,
   ⟨(some 11), none, .pick (.t 7) (.c (.b true)) (.t 10)⟩] none [1, 11])
 (.cond (.t 11)
  (.seq (.region [⟨(some 2), none, .asg (.c (.b false))⟩] none [2])
  .ret)
  .skip))
 (.seq (.region [⟨(some 12), none, .fld 0 (.t 1)⟩,
   ⟨(some 13), none, .load none (.t 12)⟩,
   ⟨(some 14), none, .idxa 10 7 (.g G_terms_uses) (.t 13)⟩,
   ⟨(some 15), none, .load (some 7) (.t 14)⟩,
   ⟨(some 3), none, .lalloc [(.b false), (.b false), (.b false), (.b false), (.b false), (.i .i64 0), (.i .i64 0)]⟩,
   ⟨none, none, .store 7 (.t 3) (.t 15)⟩] none [1, 3])
 (.seq (.region [⟨(some 16), none, .fld 0 (.t 3)⟩,
   ⟨(some 17), none, .load none (.t 16)⟩,
   ⟨(some 18), none, .mov (.t 17)⟩,
   ⟨(some 19), some (18, false), .fld 2 (.t 1)⟩,
   ⟨(some 20), some (18, false), .load (some 5) (.t 19)⟩,
   ⟨(some 21), some (18, false), .call (.c (.fn (.func F_terms_isEmpty) [] [])) [(.t 20)]⟩,
   ⟨(some 22), none, .pick (.t 18) (.c (.b true)) (.t 21)⟩,
   ⟨(some 23), none, .mov (.t 22)⟩,
   ⟨(some 24), some (23, true), .fld 1 (.t 3)⟩,
   ⟨(some 25), some (23, true), .load none (.t 24)⟩,
   ⟨(some 26), some (23, true), .mov (.t 25)⟩,
   ⟨(some 27), some (26, false), .fld 7 (.t 1)⟩,
   ⟨(some 28), some (26, false), .load (some 5) (.t 27)⟩,
   ⟨(some 29), some (26, false), .call (.c (.fn (.func F_terms_isEmpty) [] [])) [(.t 28)]⟩,
   ⟨(some 30), some (23, true), .pick (.t 26) (.c (.b true)) (.t 29)⟩,
   ⟨(some 31), none, .pick (.t 23) (.t 30) (.c (.b false))⟩,
   ⟨(some 32), none, .mov (.t 31)⟩,
   ⟨(some 33), some (32, true), .fld 2 (.t 3)⟩,
   ⟨(some 34), some (32, true), .load none (.t 33)⟩,
   ⟨(some 35), some (32, true), .mov (.t 34)⟩,
   ⟨(some 36), some (35, false), .fld 13 (.t 1)⟩,
   ⟨(some 37), some (35, false), .load none (.t 36)⟩,
   ⟨(some 38), some (35, false), .bin .eql (.t 37) (.c (.s []))⟩,
   ⟨(some 39), some (32, true), .pick (.t 35) (.c (.b true)) (.t 38)⟩,
   ⟨(some 40), none, .pick (.t 32) (.t 39) (.c (.b false))⟩,
   ⟨(some 41), none, .mov (.t 40)⟩,
   ⟨(some 42), some (41, true), .fld 3 (.t 3)⟩,
   ⟨(some 43), some (41, true), .load none (.t 42)⟩,
   ⟨(some 44), some (41, true), .mov (.t 43)⟩,
   ⟨(some 45), some (44, false), .fld 14 (.t 1)⟩,
   ⟨(some 46), some (44, false), .load none (.t 45)⟩,
   ⟨(some 47), some (44, false), .bin .eql (.t 46) (.c (.s []))⟩,
   ⟨(some 48), some (41, true), .pick (.t 44) (.c (.b true)) (.t 47)⟩,
   ⟨(some 49), none, .pick (.t 41) (.t 48) (.c (.b false))⟩,
   ⟨(some 50), none, .mov (.t 49)⟩,
   ⟨(some 51), some (50, true), .fld 4 (.t 3)⟩,
   ⟨(some 52), some (50, true), .load none (.t 51)⟩,
   ⟨(some 53), some (50, true), .mov (.t 52)⟩,
   ⟨(some 54), some (53, false), .fld 15 (.t 1)⟩,
   ⟨(some 55), some (53, false), .load none (.t 54)⟩,
   ⟨(some 56), some (53, false), .bin .eql (.t 55) (.c (.s []))⟩,
   ⟨(some 57), some (50, true), .pick (.t 53) (.c (.b true)) (.t 56)⟩,
   ⟨(some 58), none, .pick (.t 50) (.t 57) (.c (.b false))⟩,
   ⟨(some 59), none, .mov (.t 58)⟩,
   ⟨(some 60), some (59, true), .fld 12 (.t 1)⟩,
   ⟨(some 61), some (59, true), .load none (.t 60)⟩,
   ⟨(some 62), some (59, true), .len 0 (.t 61)⟩,
   ⟨(some 63), some (59, true), .fld 5 (.t 3)⟩,
   ⟨(some 64), some (59, true), .load none (.t 63)⟩,
   ⟨(some 65), some (59, true), .bin .geq (.t 62) (.t 64)⟩,
   ⟨(some 66), none, .pick (.t 59) (.t 65) (.c (.b false))⟩,
   ⟨(some 67), none, .mov (.t 66)⟩,
   ⟨(some 68), some (67, true), .fld 12 (.t 1)⟩,
   ⟨(some 69), some (67, true), .load none (.t 68)⟩,
   ⟨(some 70), some (67, true), .len 0 (.t 69)⟩,
   ⟨(some 71), some (67, true), .fld 6 (.t 3)⟩,
   ⟨(some 72), some (67, true), .load none (.t 71)⟩,
   ⟨(some 73), some (67, true), .bin .leq (.t 70) (.t 72)⟩,
   ⟨(some 74), none, .pick (.t 67) (.t 73) (.c (.b false))⟩,
   ⟨(some 2), none, .asg (.t 74)⟩] none [2])
 .ret))))⟩

/-- veilstone/terms.isEmpty -/
def ir_terms_isEmpty : AFun := ⟨1, [.tmp 2], true, false,
 (.seq (.region [⟨(some 1), none, .lbox (.t 0)⟩,
   ⟨(some 2), none, .asg (.c (.b false))⟩] none [1])
 (.seq (.region [⟨(some 3), none, .fld 0 (.t 1)⟩,
   ⟨(some 4), none, .load none (.t 3)⟩,
   ⟨(some 5), none, .bin .eql (.t 4) (.c (.i .i64 0))⟩,
   ⟨(some 6), none, .mov (.t 5)⟩,
   ⟨(some 7), some (6, true), .fld 1 (.t 1)⟩,
   ⟨(some 8), some (6, true), .load none (.t 7)⟩,
   ⟨(some 9), some (6, true), .bin .eql (.t 8) (.c (.s []))⟩,
   ⟨(some 10), none, .pick (.t 6) (.t 9) (.c (.b false))⟩,
   ⟨(some 11), none, .mov (.t 10)⟩,
   ⟨(some 12), some (11, true), .fld 2 (.t 1)⟩,
   ⟨(some 13), some (11, true), .load none (.t 12)⟩,
   ⟨(some 14), some (11, true), .bin .eql (.t 13) (.c (.i .i64 0))⟩,
   ⟨(some 15), none, .pick (.t 11) (.t 14) (.c (.b false))⟩,
   ⟨(some 16), none, .mov (.t 15)⟩,
   ⟨(some 17), some (16, true), .fld 3 (.t 1)⟩,
   ⟨(some 18), some (16, true), .load none (.t 17)⟩,
   ⟨(some 19), some (16, true), .bin .eql (.t 18) (.c (.i .i64 0))⟩,
   ⟨(some 20), none, .pick (.t 16) (.t 19) (.c (.b false))⟩,
   ⟨(some 21), none, .mov (.t 20)⟩,
   ⟨(some 22), some (21, true), .fld 4 (.t 1)⟩,
   ⟨(some 23), some (21, true), .load none (.t 22)⟩,
   ⟨(some 24), some (21, true), .len 0 (.t 23)⟩,
   ⟨(some 25), some (21, true), .bin .eql (.t 24) (.c (.i .i64 0))⟩,
   ⟨(some 26), none, .pick (.t 21) (.t 25) (.c (.b false))⟩,
   ⟨(some 2), none, .asg (.t 26)⟩] none [2])
 .ret))⟩

def ir_terms_isNamed_L0 : ACode :=
 (.seq (.region [⟨(some 39), none, .bin .lss (.t 38) (.t 37)⟩] none [36, 37, 38, 39])
 (.seq (.cond (.t 39)
  .skip
  (.exit 0))
 (.seq (.block 1
  (.seq (.region [⟨(some 40), none, .idx 1 (.t 36) (.t 38)⟩,
    ⟨(some 41), none, .load none (.t 40)⟩,
    ⟨(some 6), none, .asg (.t 41)⟩] none [6, 36, 37, 38])
  (.seq (.region [⟨(some 42), none, .mov (.t 6)⟩,
    ⟨(some 43), none, .call (.c (.fn (.func F_terms_isPlain) [] [])) [(.t 42)]⟩,
    ⟨(some 44), none, .un .not (.t 43)⟩] none [36, 37, 38, 44])
  (.cond (.t 44)
   (.seq (.region [⟨(some 4), none, .asg (.c (.b false))⟩] none [4])
   .ret)
   .skip))))
 (.region [⟨(some 45), none, .bin .add (.t 38) (.c (.i .i64 1))⟩,
   ⟨(some 38), none, .mov (.t 45)⟩] none [36, 37, 38]))))
/-- veilstone/terms.isNamed -/
def ir_terms_isNamed : AFun := ⟨2, [.tmp 4], true, false,
 (.seq (.region [⟨(some 2), none, .lbox (.t 0)⟩,
   ⟨(some 3), none, .lbox (.t 1)⟩,
   ⟨(some 4), none, .asg (.c (.b false))⟩] none [2, 3])
 (.seq (.seq (.region [⟨(some 7), none, .fld 2 (.t 3)⟩,
   ⟨(some 8), none, .load none (.t 7)⟩,
   ⟨(some 9), none, .mov (.t 8)⟩,
   ⟨(some 10), some (9, true), .fld 13 (.t 2)⟩,
   ⟨(some 11), some (9, true), .load none (.t 10)⟩,
   ⟨(some 12), some (9, true), .call (.c (.fn (.func F_terms_isPlain) [] [])) [(.t 11)]⟩,
   ⟨(some 13), some (9, true), .un .not (.t 12)⟩,
   ⟨(some 14), none, .pick (.t 9) (.t 13) (.c (.b false))⟩,
   ⟨(some 15), none, .mov (.t 14)⟩,
   ⟨(some 16), some (15, false), .fld 3 (.t 3)⟩,
   ⟨(some 17), some (15, false), .load none (.t 16)⟩,
   ⟨(some 18), some (15, false), .mov (.t 17)⟩,
   ⟨(some 19), some (18, true), .fld 14 (.t 2)⟩,
   ⟨(some 20), some (18, true), .load none (.t 19)⟩,
   ⟨(some 21), some (18, true), .call (.c (.fn (.func F_terms_CheckName) [] [])) [(.t 20)]⟩,
   ⟨(some 22), some (18, true), .bin .neq (.t 21) (.c (.i .i64 0))⟩,
   ⟨(some 23), some (15, false), .pick (.t 18) (.t 22) (.c (.b false))⟩,
   ⟨(some 24), none, .pick (.t 15) (.c (.b true)) (.t 23)⟩,
   ⟨(some 25), none, .mov (.t 24)⟩,
   ⟨(some 26), some (25, false), .fld 4 (.t 3)⟩,
   ⟨(some 27), some (25, false), .load none (.t 26)⟩,
   ⟨(some 28), some (25, false), .mov (.t 27)⟩,
   ⟨(some 29), some (28, true), .fld 15 (.t 2)⟩,
   ⟨(some 30), some (28, true), .load none (.t 29)⟩,
   ⟨(some 31), some (28, true), .call (.c (.fn (.func F_terms_CheckName) [] [])) [(.t 30)]⟩,
   ⟨(some 32), some (28, true), .bin .neq (.t 31) (.c (.i .i64 0))⟩,
   ⟨(some 33), some (25, false), .pick (.t 28) (.t 32) (.c (.b false))⟩,
   ⟨(some 34), none, .pick (.t 25) (.c (.b true)) (.t 33)⟩] none [2, 34])
 (.cond (.t 34)
  (.seq (.region [⟨(some 4), none, .asg (.c (.b false))⟩] none [4])
  .ret)
  .skip))
 (.seq (.seq (.region [⟨(some 35), none, .fld 12 (.t 2)⟩,
   ⟨(some 36), none, .load none (.t 35)⟩,
   ⟨(some 37), none, .len 0 (.t 36)⟩,
   ⟨(some 38), none, .mov (.c (.i .i64 0))⟩] none [36, 37, 38])
 (.block 0
  (.loop [36, 37, 38] ir_terms_isNamed_L0)))
 (.seq (.region [⟨(some 4), none, .asg (.c (.b true))⟩] none [4])
 .ret))))⟩

/-- veilstone/terms.isPlain -/
def ir_terms_isPlain : AFun := ⟨1, [.tmp 2], true, false,
 (.seq (.region [⟨(some 2), none, .asg (.c (.b false))⟩] none [0])
 (.seq (.seq (.region [⟨(some 6), none, .mov (.t 0)⟩,
   ⟨(some 7), none, .len 1 (.t 6)⟩,
   ⟨(some 8), none, .bin .gtr (.t 7) (.c (.i .i64 24))⟩] none [0, 8])
 (.cond (.t 8)
  (.seq (.region [⟨(some 2), none, .asg (.c (.b false))⟩] none [2])
  .ret)
  .skip))
 (.seq (.region [⟨(some 10), none, .mov (.t 0)⟩,
   ⟨(some 11), none, .call (.c (.fn (.func F_strings_Cut) [] [])) [(.t 10), (.c (.s [58]))]⟩,
   ⟨(some 9), none, .mov (.t 11)⟩,
   ⟨(some 12), none, .ext (.t 9) 0⟩,
   ⟨(some 13), none, .ext (.t 9) 1⟩,
   ⟨(some 14), none, .ext (.t 9) 2⟩,
   ⟨(some 3), none, .asg (.t 12)⟩,
   ⟨(some 4), none, .asg (.t 13)⟩,
   ⟨(some 5), none, .asg (.t 14)⟩] none [3, 4, 5])
 (.seq (.region [⟨(some 15), none, .mov (.t 3)⟩,
   ⟨(some 16), none, .call (.c (.fn (.func F_terms_isWord) [] [])) [(.t 15)]⟩,
   ⟨(some 17), none, .mov (.t 16)⟩,
   ⟨(some 18), some (17, true), .mov (.t 5)⟩,
   ⟨(some 19), some (17, true), .un .not (.t 18)⟩,
   ⟨(some 20), some (17, true), .mov (.t 19)⟩,
   ⟨(some 21), some (20, false), .mov (.t 4)⟩,
   ⟨(some 22), some (20, false), .call (.c (.fn (.func F_terms_isWord) [] [])) [(.t 21)]⟩,
   ⟨(some 23), some (17, true), .pick (.t 20) (.c (.b true)) (.t 22)⟩,
   ⟨(some 24), none, .pick (.t 17) (.t 23) (.c (.b false))⟩,
   ⟨(some 2), none, .asg (.t 24)⟩] none [2])
 .ret))))⟩

/-- strings.Cut -/
def ir_strings_Cut : AFun := ⟨2, [.tmp 4, .tmp 5, .tmp 6], true, false,
 (.seq (.region [⟨(some 4), none, .asg (.c (.s []))⟩,
   ⟨(some 5), none, .asg (.c (.s []))⟩,
   ⟨(some 6), none, .asg (.c (.b false))⟩] none [0, 1])
 (.seq (.region [⟨(some 7), none, .mov (.t 0)⟩,
   ⟨(some 8), none, .mov (.t 1)⟩,
   ⟨(some 9), none, .call (.c (.fn (.func F_internal_stringslite_Cut) [] [])) [(.t 7), (.t 8)]⟩,
   ⟨(some 10), none, .ext (.t 9) 0⟩,
   ⟨(some 11), none, .ext (.t 9) 1⟩,
   ⟨(some 12), none, .ext (.t 9) 2⟩,
   ⟨(some 4), none, .asg (.t 10)⟩,
   ⟨(some 5), none, .asg (.t 11)⟩,
   ⟨(some 6), none, .asg (.t 12)⟩] none [4, 5, 6])
 .ret))⟩

/-- internal/stringslite.Cut -/
def ir_internal_stringslite_Cut : AFun := ⟨2, [.tmp 4, .tmp 5, .tmp 6], true, false,
 (.seq (.region [⟨(some 4), none, .asg (.c (.s []))⟩,
   ⟨(some 5), none, .asg (.c (.s []))⟩,
   ⟨(some 6), none, .asg (.c (.b false))⟩] none [0, 1])
 (.seq (.seq (.region [⟨(some 8), none, .mov (.t 0)⟩,
   ⟨(some 9), none, .mov (.t 1)⟩,
   ⟨(some 10), none, .call (.c (.fn (.func F_internal_stringslite_Index) [] [])) [(.t 8), (.t 9)]⟩,
   ⟨(some 7), none, .asg (.t 10)⟩] none [0, 1, 7])
 (.seq (.region [⟨(some 11), none, .mov (.t 7)⟩,
   ⟨(some 12), none, .bin .geq (.t 11) (.c (.i .i64 0))⟩] none [0, 1, 7, 12])
 (.cond (.t 12)
  (.seq (.region [⟨(some 13), none, .mov (.t 0)⟩,
    ⟨(some 14), none, .mov (.t 7)⟩,
    ⟨(some 15), none, .slcs (.t 13) none (some (.t 14))⟩,
    ⟨(some 16), none, .mov (.t 0)⟩,
    ⟨(some 17), none, .mov (.t 7)⟩,
    ⟨(some 18), none, .mov (.t 1)⟩,
    ⟨(some 19), none, .len 1 (.t 18)⟩,
    ⟨(some 20), none, .bin .add (.t 17) (.t 19)⟩,
    ⟨(some 21), none, .slcs (.t 16) (some (.t 20)) none⟩,
    ⟨(some 4), none, .cpy (.t 15)⟩,
    ⟨(some 5), none, .cpy (.t 21)⟩,
    ⟨(some 6), none, .cpy (.c (.b true))⟩] (some ([0, 1, 2, 3, 4, 5, 6, 7, 8, 9, 10, 11], [])) [4, 5, 6])
  .ret)
  .skip)))
 (.seq (.region [⟨(some 22), none, .mov (.t 0)⟩,
   ⟨(some 4), none, .asg (.t 22)⟩,
   ⟨(some 5), none, .asg (.c (.s []))⟩,
   ⟨(some 6), none, .asg (.c (.b false))⟩] none [4, 5, 6])
 .ret)))⟩

/-- veilstone/terms.isWord -/
def ir_terms_isWord : AFun := ⟨1, [.tmp 2], true, false,
 (.seq (.region [⟨(some 2), none, .asg (.c (.b false))⟩] none [0])
 (.seq (.region [⟨(some 3), none, .mov (.t 0)⟩,
   ⟨(some 4), none, .bin .neq (.t 3) (.c (.s []))⟩,
   ⟨(some 5), none, .mov (.t 4)⟩,
   ⟨(some 6), some (5, true), .mov (.t 0)⟩,
   ⟨(some 7), some (5, true), .idxs (.t 6) (.c (.i .i64 0))⟩,
   ⟨(some 8), some (5, true), .call (.c (.fn (.func F_terms_isLetter) [] [])) [(.t 7)]⟩,
   ⟨(some 9), none, .pick (.t 5) (.t 8) (.c (.b false))⟩,
   ⟨(some 10), none, .mov (.t 9)⟩,
   ⟨(some 11), some (10, true), .mov (.t 0)⟩,
   ⟨(some 12), some (10, true), .call (.c (.fn (.func F_terms_isTail) [] [])) [(.t 11)]⟩,
   ⟨(some 13), none, .pick (.t 10) (.t 12) (.c (.b false))⟩,
   ⟨(some 14), none, .mov (.t 13)⟩,
   ⟨(some 15), some (14, true), .mov (.t 0)⟩,
   ⟨(some 16), some (14, true), .call (.c (.fn (.func F_lexis_Keyword) [] [])) [(.t 15)]⟩,
   ⟨(some 17), some (14, true), .un .not (.t 16)⟩,
   ⟨(some 18), none, .pick (.t 14) (.t 17) (.c (.b false))⟩,
   ⟨(some 2), none, .asg (.t 18)⟩] none [2])
 .ret))⟩

/-- veilstone/terms.isLetter -/
def ir_terms_isLetter : AFun := ⟨1, [.tmp 2], true, false,
 (.seq (.region [⟨(some 2), none, .asg (.c (.b false))⟩] none [0])
 (.seq (.region [⟨(some 3), none, .mov (.t 0)⟩,
   ⟨(some 4), none, .bin .leq (.c (.i .u8 97)) (.t 3)⟩,
   ⟨(some 5), none, .mov (.t 4)⟩,
   ⟨(some 6), some (5, true), .mov (.t 0)⟩,
   ⟨(some 7), some (5, true), .bin .leq (.t 6) (.c (.i .u8 122))⟩,
   ⟨(some 8), none, .pick (.t 5) (.t 7) (.c (.b false))⟩,
   ⟨(some 9), none, .mov (.t 8)⟩,
   ⟨(some 10), some (9, false), .mov (.t 0)⟩,
   ⟨(some 11), some (9, false), .bin .leq (.c (.i .u8 65)) (.t 10)⟩,
   ⟨(some 12), some (9, false), .mov (.t 11)⟩,
   ⟨(some 13), some (12, true), .mov (.t 0)⟩,
   ⟨(some 14), some (12, true), .bin .leq (.t 13) (.c (.i .u8 90))⟩,
   ⟨(some 15), some (9, false), .pick (.t 12) (.t 14) (.c (.b false))⟩,
   ⟨(some 16), none, .pick (.t 9) (.c (.b true)) (.t 15)⟩,
   ⟨(some 2), none, .asg (.t 16)⟩] none [2])
 .ret))⟩

def ir_terms_isTail_L0 : ACode :=
 (.seq (.region [⟨(some 9), none, .bin .lss (.t 8) (.t 7)⟩] none [6, 7, 8, 9])
 (.seq (.cond (.t 9)
  .skip
  (.exit 0))
 (.seq (.block 1
  (.seq (.region [⟨(some 10), none, .idx 1 (.t 6) (.t 8)⟩,
    ⟨(some 11), none, .load none (.t 10)⟩,
    ⟨(some 4), none, .asg (.t 11)⟩] none [4, 6, 7, 8])
  (.seq (.region [⟨(some 12), none, .mov (.t 4)⟩,
    ⟨(some 13), none, .call (.c (.fn (.func F_terms_isLetter) [] [])) [(.t 12)]⟩,
    ⟨(some 14), none, .un .not (.t 13)⟩,
    ⟨(some 15), none, .mov (.t 14)⟩,
    ⟨(some 16), some (15, true), .mov (.t 4)⟩,
    ⟨(some 17), some (15, true), .bin .neq (.t 16) (.c (.i .u8 95))⟩,
    ⟨(some 18), none, .pick (.t 15) (.t 17) (.c (.b false))⟩,
    ⟨(some 19), none, .mov (.t 18)⟩,
    ⟨(some 20), some (19, true), .mov (.t 4)⟩,
    ⟨(some 21), some (19, true), .bin .lss (.t 20) (.c (.i .u8 48))⟩,
    ⟨(some 22), some (19, true), .mov (.t 21)⟩,
    ⟨(some 23), some (22, false), .mov (.t 4)⟩,
    ⟨(some 24), some (22, false), .bin .gtr (.t 23) (.c (.i .u8 57))⟩,
    ⟨(some 25), some (19, true), .pick (.t 22) (.c (.b true)) (.t 24)⟩,
    ⟨(some 26), none, .pick (.t 19) (.t 25) (.c (.b false))⟩] none [6, 7, 8, 26])
  (.cond (.t 26)
   (.seq (.region [⟨(some 2), none, .asg (.c (.b false))⟩] none [2])
   .ret)
   .skip))))
 (.region [⟨(some 27), none, .bin .add (.t 8) (.c (.i .i64 1))⟩,
   ⟨(some 8), none, .mov (.t 27)⟩] none [6, 7, 8]))))
/-- veilstone/terms.isTail -/
def ir_terms_isTail : AFun := ⟨1, [.tmp 2], true, false,
 (.seq (.region [⟨(some 2), none, .asg (.c (.b false))⟩] none [0])
 (.seq (.seq (.region [⟨(some 5), none, .mov (.t 0)⟩,
   ⟨(some 6), none, .s2b (.t 5)⟩,
   ⟨(some 7), none, .len 0 (.t 6)⟩,
   ⟨(some 8), none, .mov (.c (.i .i64 0))⟩] none [6, 7, 8])
 (.block 0
  (.loop [6, 7, 8] ir_terms_isTail_L0)))
 (.seq (.region [⟨(some 2), none, .asg (.c (.b true))⟩] none [2])
 .ret)))⟩

/-- veilstone/lexis.Keyword -/
def ir_lexis_Keyword : AFun := ⟨1, [.tmp 2], true, false,
 (.seq (.region [⟨(some 2), none, .asg (.c (.b false))⟩] none [0])
 (.seq (.seq (.region [⟨(some 3), none, .mov (.t 0)⟩] none [3])
 (.block 0
  (.seq (.seq (.region [⟨(some 5), none, .bin .eql (.t 3) (.c (.s [97, 110, 100]))⟩,
    ⟨(some 4), none, .asg (.t 5)⟩] none [3, 4])
  (.cond (.t 4)
   .skip
   (.seq (.region [⟨(some 6), none, .bin .eql (.t 3) (.c (.s [115, 111, 109, 101]))⟩,
     ⟨(some 4), none, .asg (.t 6)⟩] none [3, 4])
   (.cond (.t 4)
    .skip
    (.seq (.region [⟨(some 7), none, .bin .eql (.t 3) (.c (.s [105, 110]))⟩,
      ⟨(some 4), none, .asg (.t 7)⟩] none [3, 4])
    (.cond (.t 4)
     .skip
     (.seq (.region [⟨(some 8), none, .bin .eql (.t 3) (.c (.s [116, 111]))⟩,
       ⟨(some 4), none, .asg (.t 8)⟩] none [3, 4])
     (.cond (.t 4)
      .skip
      (.seq (.region [⟨(some 9), none, .bin .eql (.t 3) (.c (.s [110, 111, 116, 104, 105, 110, 103]))⟩,
        ⟨(some 4), none, .asg (.t 9)⟩] none [3, 4])
      (.cond (.t 4)
       .skip
       (.seq (.region [⟨(some 10), none, .bin .eql (.t 3) (.c (.s [101, 118, 101, 114, 121, 116, 104, 105, 110, 103]))⟩,
         ⟨(some 4), none, .asg (.t 10)⟩] none [3, 4])
       (.cond (.t 4)
        .skip
        (.seq (.region [⟨(some 11), none, .bin .eql (.t 3) (.c (.s [111, 110, 101]))⟩,
          ⟨(some 4), none, .asg (.t 11)⟩] none [3, 4])
        (.cond (.t 4)
         .skip
         (.seq (.region [⟨(some 12), none, .bin .eql (.t 3) (.c (.s [111, 102]))⟩,
           ⟨(some 4), none, .asg (.t 12)⟩] none [3, 4])
         (.cond (.t 4)
          .skip
          (.seq (.region [⟨(some 13), none, .bin .eql (.t 3) (.c (.s [111, 112, 101, 110]))⟩,
            ⟨(some 4), none, .asg (.t 13)⟩] none [3, 4])
          (.cond (.t 4)
           .skip
           (.seq (.region [⟨(some 14), none, .bin .eql (.t 3) (.c (.s [112, 114, 105, 118, 97, 116, 101]))⟩,
             ⟨(some 4), none, .asg (.t 14)⟩] none [3, 4])
           (.cond (.t 4)
            .skip
            (.seq (.region [⟨(some 15), none, .bin .eql (.t 3) (.c (.s [115, 117, 98]))⟩,
              ⟨(some 4), none, .asg (.t 15)⟩] none [3, 4])
            (.cond (.t 4)
             .skip
             (.seq (.region [⟨(some 16), none, .bin .eql (.t 3) (.c (.s [115, 97, 109, 101]))⟩,
               ⟨(some 4), none, .asg (.t 16)⟩] none [3, 4])
             (.cond (.t 4)
              .skip
              (.seq (.region [⟨(some 17), none, .bin .eql (.t 3) (.c (.s [100, 105, 115, 106, 111, 105, 110, 116]))⟩,
                ⟨(some 4), none, .asg (.t 17)⟩] none [3, 4])
              (.cond (.t 4)
               .skip
               (.seq (.region [⟨(some 18), none, .bin .eql (.t 3) (.c (.s [100, 111, 109, 97, 105, 110]))⟩,
                 ⟨(some 4), none, .asg (.t 18)⟩] none [3, 4])
               (.cond (.t 4)
                .skip
                (.seq (.region [⟨(some 19), none, .bin .eql (.t 3) (.c (.s [114, 111, 108, 101]))⟩,
                  ⟨(some 4), none, .asg (.t 19)⟩] none [3, 4])
                (.cond (.t 4)
                 .skip
                 (.seq (.region [⟨(some 20), none, .bin .eql (.t 3) (.c (.s [99, 104, 97, 105, 110]))⟩,
                   ⟨(some 4), none, .asg (.t 20)⟩] none [3, 4])
                 (.cond (.t 4)
                  .skip
                  (.seq (.region [⟨(some 21), none, .bin .eql (.t 3) (.c (.s [114, 101, 102, 108, 101, 120, 105, 118, 101]))⟩,
                    ⟨(some 4), none, .asg (.t 21)⟩] none [3, 4])
                  (.cond (.t 4)
                   .skip
                   (.seq (.region [⟨(some 22), none, .bin .eql (.t 3) (.c (.s [116, 121, 112, 101]))⟩,
                     ⟨(some 4), none, .asg (.t 22)⟩] none [3, 4])
                   (.cond (.t 4)
                    .skip
                    (.seq (.region [⟨(some 23), none, .bin .eql (.t 3) (.c (.s [108, 105, 110, 107]))⟩,
                      ⟨(some 4), none, .asg (.t 23)⟩] none [3, 4])
                    (.cond (.t 4)
                     .skip
                     (.seq (.region [⟨(some 24), none, .bin .eql (.t 3) (.c (.s [115, 101, 108, 101, 99, 116]))⟩,
                       ⟨(some 4), none, .asg (.t 24)⟩] none [3, 4])
                     (.cond (.t 4)
                      .skip
                      (.seq (.region [⟨(some 25), none, .bin .eql (.t 3) (.c (.s [119, 104, 101, 114, 101]))⟩,
                        ⟨(some 4), none, .asg (.t 25)⟩] none [3, 4])
                      (.cond (.t 4)
                       .skip
                       (.region [⟨(some 26), none, .bin .eql (.t 3) (.c (.s [111, 114]))⟩,
                         ⟨(some 4), none, .asg (.t 26)⟩] none [4])))))))))))))))))))))))))))))))))))))))))))
  (.cond (.t 4)
   (.seq (.region [⟨(some 2), none, .asg (.c (.b true))⟩] none [2])
   .ret)
   .skip))))
 (.seq (.region [⟨(some 2), none, .asg (.c (.b false))⟩] none [2])
 .ret)))⟩

/-- veilstone/terms.CheckName -/
def ir_terms_CheckName : AFun := ⟨1, [.tmp 2], true, false,
 (.seq (.region [⟨(some 2), none, .asg (.c (.i .i64 0))⟩] none [0])
 (.seq (.seq (.region [⟨(some 3), none, .mov (.t 0)⟩,
   ⟨(some 4), none, .call (.c (.fn (.func F_terms_isPlain) [] [])) [(.t 3)]⟩,
   ⟨(some 5), none, .mov (.t 4)⟩,
   ⟨(some 6), some (5, false), .mov (.t 0)⟩,
   ⟨(some 7), some (5, false), .call (.c (.fn (.func F_terms_isReserved) [] [])) [(.t 6)]⟩,
   ⟨(some 8), none, .pick (.t 5) (.c (.b true)) (.t 7)⟩] none [8])
 (.cond (.t 8)
  (.seq (.region [⟨(some 2), none, .asg (.c (.i .i64 0))⟩] none [2])
  .ret)
  .skip))
 (.seq (.region [⟨(some 2), none, .asg (.c (.i .i64 20))⟩] none [2])
 .ret)))⟩

/-- veilstone/terms.isReserved -/
def ir_terms_isReserved : AFun := ⟨1, [.tmp 2], true, false,
 (.seq (.region [⟨(some 2), none, .asg (.c (.b false))⟩] none [0])
 (.seq (.region [⟨(some 3), none, .mov (.t 0)⟩,
   ⟨(some 4), none, .len 1 (.t 3)⟩,
   ⟨(some 5), none, .bin .geq (.t 4) (.c (.i .i64 2))⟩,
   ⟨(some 6), none, .mov (.t 5)⟩,
   ⟨(some 7), some (6, true), .mov (.t 0)⟩,
   ⟨(some 8), some (6, true), .len 1 (.t 7)⟩,
   ⟨(some 9), some (6, true), .bin .leq (.t 8) (.c (.i .i64 24))⟩,
   ⟨(some 10), none, .pick (.t 6) (.t 9) (.c (.b false))⟩,
   ⟨(some 11), none, .mov (.t 10)⟩,
   ⟨(some 12), some (11, true), .mov (.t 0)⟩,
   ⟨(some 13), some (11, true), .idxs (.t 12) (.c (.i .i64 0))⟩,
   ⟨(some 14), some (11, true), .bin .eql (.t 13) (.c (.i .u8 95))⟩,
   ⟨(some 15), none, .pick (.t 11) (.t 14) (.c (.b false))⟩,
   ⟨(some 16), none, .mov (.t 15)⟩,
   ⟨(some 17), some (16, true), .mov (.t 0)⟩,
   ⟨(some 18), some (16, true), .call (.c (.fn (.func F_terms_isTail) [] [])) [(.t 17)]⟩,
   ⟨(some 19), none, .pick (.t 16) (.t 18) (.c (.b false))⟩,
   ⟨(some 2), none, .asg (.t 19)⟩] none [2])
 .ret))⟩

def ir_terms_CheckConcept_R0 : ACode :=
 (.block 1
  (.seq (.region [⟨(some 12), none, .load (some 5) (.t 4)⟩,
    ⟨(some 13), none, .call (.c (.fn (.func F_terms_checkFields) [] [])) [(.t 12)]⟩,
    ⟨(some 5), none, .asg (.t 13)⟩] none [2, 5])
  (.seq (.region [⟨(some 14), none, .mov (.t 5)⟩,
    ⟨(some 15), none, .bin .neq (.t 14) (.c (.i .i64 0))⟩] none [2, 5, 15])
  (.cond (.t 15)
   (.seq (.region [⟨(some 16), none, .mov (.t 5)⟩,
     ⟨none, none, .store 1 (.t 2) (.t 16)⟩] none [])
   .ret)
   .skip))))
def ir_terms_CheckConcept_A0 : ACode :=
 (.region [⟨(some 4), none, .halloc [(.i .i64 0), (.s []), (.i .i64 0), (.i .i64 0), .ns]⟩,
   ⟨none, none, .store 5 (.t 4) (.t 11)⟩] none [2, 4])
/-- veilstone/terms.CheckConcept -/
def ir_terms_CheckConcept : AFun := ⟨1, [.cell 2 none], true, false,
 (.seq (.region [⟨(some 1), none, .lbox (.t 0)⟩,
   ⟨(some 2), none, .halloc [(.i .i64 0)]⟩] none [1, 2])
 (.seq (.region [⟨(some 3), none, .halloc [(.i .i64 0)]⟩,
   ⟨none, none, .store 1 (.t 3) (.c (.i .i64 0))⟩] none [1, 2, 3])
 (.seq (.seq (.region [⟨(some 6), none, .load (some 5) (.t 1)⟩,
   ⟨(some 7), none, .call (.c (.fn (.func F_terms_fits) [] [])) [(.t 6), (.c (.i .i64 0)), (.t 3)]⟩,
   ⟨(some 8), none, .un .not (.t 7)⟩] none [1, 2, 8])
 (.cond (.t 8)
  (.seq (.region [⟨none, none, .store 1 (.t 2) (.c (.i .i64 21))⟩] none [2])
  .ret)
  .skip))
 (.seq (.seq (.region [⟨(some 9), none, .load (some 5) (.t 1)⟩,
   ⟨(some 10), none, .call (.c (.fn (.func F_terms_walk) [] [])) [(.t 9)]⟩] none [2, 10])
 (.block 0
  (.range (.t 10) [11] ir_terms_CheckConcept_A0 ir_terms_CheckConcept_R0)))
 (.seq (.region [⟨none, none, .store 1 (.t 2) (.c (.i .i64 0))⟩] none [2])
 .ret)))))⟩

def ir_terms_fits_L0 : ACode :=
 (.seq (.region [⟨(some 26), none, .bin .lss (.t 25) (.t 24)⟩] none [1, 2, 23, 24, 25, 26])
 (.seq (.cond (.t 26)
  .skip
  (.exit 0))
 (.seq (.block 1
  (.seq (.region [⟨(some 27), none, .idx 5 (.t 23) (.t 25)⟩,
    ⟨(some 28), none, .load (some 5) (.t 27)⟩,
    ⟨(some 8), none, .lalloc [(.i .i64 0), (.s []), (.i .i64 0), (.i .i64 0), .ns]⟩,
    ⟨none, none, .store 5 (.t 8) (.t 28)⟩] none [1, 2, 8, 23, 24, 25])
  (.seq (.region [⟨(some 29), none, .load (some 5) (.t 8)⟩,
    ⟨(some 30), none, .mov (.t 1)⟩,
    ⟨(some 31), none, .bin .add (.t 30) (.c (.i .i64 1))⟩,
    ⟨(some 32), none, .mov (.t 2)⟩,
    ⟨(some 33), none, .call (.c (.fn (.func F_terms_fits) [] [])) [(.t 29), (.t 31), (.t 32)]⟩,
    ⟨(some 34), none, .un .not (.t 33)⟩] none [1, 2, 23, 24, 25, 34])
  (.cond (.t 34)
   (.seq (.region [⟨(some 6), none, .asg (.c (.b false))⟩] none [6])
   .ret)
   .skip))))
 (.region [⟨(some 35), none, .bin .add (.t 25) (.c (.i .i64 1))⟩,
   ⟨(some 25), none, .mov (.t 35)⟩] none [1, 2, 23, 24, 25]))))
/-- veilstone/terms.fits -/
def ir_terms_fits : AFun := ⟨3, [.tmp 6], false, false,
 (.seq (.region [⟨(some 3), none, .lbox (.t 0)⟩,
   ⟨(some 6), none, .asg (.c (.b false))⟩] none [1, 2, 3])
 (.seq (.region [⟨(some 9), none, .mov (.t 2)⟩,
   ⟨(some 10), none, .nilchk (.t 9)⟩,
   ⟨(some 11), none, .load none (.t 10)⟩,
   ⟨(some 12), none, .bin .add (.t 11) (.c (.i .i64 1))⟩,
   ⟨(some 13), none, .nilchk (.t 9)⟩,
   ⟨none, none, .store 1 (.t 13) (.t 12)⟩] none [1, 2, 3])
 (.seq (.seq (.region [⟨(some 14), none, .mov (.t 1)⟩,
   ⟨(some 15), none, .bin .gtr (.t 14) (.c (.i .i64 8))⟩,
   ⟨(some 16), none, .mov (.t 15)⟩,
   ⟨(some 17), some (16, false), .mov (.t 2)⟩,
   ⟨(some 18), some (16, false), .nilchk (.t 17)⟩,
   ⟨(some 19), some (16, false), .load none (.t 18)⟩,
   ⟨(some 20), some (16, false), .bin .gtr (.t 19) (.c (.i .i64 64))⟩,
   ⟨(some 21), none, .pick (.t 16) (.c (.b true)) (.t 20)⟩] none [1, 2, 3, 21])
 (.cond (.t 21)
  (.seq (.region [⟨(some 6), none, .asg (.c (.b false))⟩] none [6])
  .ret)
  .skip))
 (.seq (.seq (.region [⟨(some 22), none, .fld 4 (.t 3)⟩,
   ⟨(some 23), none, .load none (.t 22)⟩,
   ⟨(some 24), none, .len 0 (.t 23)⟩,
   ⟨(some 25), none, .mov (.c (.i .i64 0))⟩] none [1, 2, 23, 24, 25])
 (.block 0
  (.loop [1, 2, 23, 24, 25] ir_terms_fits_L0)))
 (.seq (.region [⟨(some 6), none, .asg (.c (.b true))⟩] none [6])
 .ret)))))⟩

/-- veilstone/terms.walk -/
def ir_terms_walk : AFun := ⟨1, [.tmp 2], true, false,
 (.seq (.region [⟨(some 1), none, .hbox (.t 0)⟩,
   ⟨(some 2), none, .asg (.c .nf)⟩] none [1])
 (.seq (.region [⟨(some 3), none, .mkfn (.func F_terms_walk_1) [] [(.t 1)]⟩,
   ⟨(some 2), none, .asg (.t 3)⟩] none [2])
 .ret))⟩

/-- veilstone/terms.walk$1 -/
def ir_terms_walk_1 : AFun := ⟨2, [], false, false,
 (.region [⟨(some 3), none, .load (some 5) (.t 1)⟩,
   ⟨(some 4), none, .mov (.t 0)⟩,
   ⟨(some 5), none, .call (.c (.fn (.func F_terms_visit) [] [])) [(.t 3), (.t 4)]⟩] none [])⟩

def ir_terms_visit_L0 : ACode :=
 (.seq (.region [⟨(some 15), none, .bin .lss (.t 14) (.t 13)⟩] none [1, 12, 13, 14, 15])
 (.seq (.cond (.t 15)
  .skip
  (.exit 0))
 (.seq (.block 1
  (.seq (.region [⟨(some 16), none, .idx 5 (.t 12) (.t 14)⟩,
    ⟨(some 17), none, .load (some 5) (.t 16)⟩,
    ⟨(some 6), none, .lalloc [(.i .i64 0), (.s []), (.i .i64 0), (.i .i64 0), .ns]⟩,
    ⟨none, none, .store 5 (.t 6) (.t 17)⟩] none [1, 6, 12, 13, 14])
  (.seq (.region [⟨(some 18), none, .load (some 5) (.t 6)⟩,
    ⟨(some 19), none, .mov (.t 1)⟩,
    ⟨(some 20), none, .call (.c (.fn (.func F_terms_visit) [] [])) [(.t 18), (.t 19)]⟩,
    ⟨(some 21), none, .un .not (.t 20)⟩] none [1, 12, 13, 14, 21])
  (.cond (.t 21)
   (.seq (.region [⟨(some 4), none, .asg (.c (.b false))⟩] none [4])
   .ret)
   .skip))))
 (.region [⟨(some 22), none, .bin .add (.t 14) (.c (.i .i64 1))⟩,
   ⟨(some 14), none, .mov (.t 22)⟩] none [1, 12, 13, 14]))))
/-- veilstone/terms.visit -/
def ir_terms_visit : AFun := ⟨2, [.tmp 4], false, false,
 (.seq (.region [⟨(some 2), none, .lbox (.t 0)⟩,
   ⟨(some 4), none, .asg (.c (.b false))⟩] none [1, 2])
 (.seq (.seq (.region [⟨(some 7), none, .mov (.t 1)⟩,
   ⟨(some 8), none, .load (some 5) (.t 2)⟩,
   ⟨(some 9), none, .call (.t 7) [(.t 8)]⟩,
   ⟨(some 10), none, .un .not (.t 9)⟩] none [1, 2, 10])
 (.cond (.t 10)
  (.seq (.region [⟨(some 4), none, .asg (.c (.b false))⟩] none [4])
  .ret)
  .skip))
 (.seq (.seq (.region [⟨(some 11), none, .fld 4 (.t 2)⟩,
   ⟨(some 12), none, .load none (.t 11)⟩,
   ⟨(some 13), none, .len 0 (.t 12)⟩,
   ⟨(some 14), none, .mov (.c (.i .i64 0))⟩] none [1, 12, 13, 14])
 (.block 0
  (.loop [1, 12, 13, 14] ir_terms_visit_L0)))
 (.seq (.region [⟨(some 4), none, .asg (.c (.b true))⟩] none [4])
 .ret))))⟩

/-- veilstone/terms.checkFields -/
def ir_terms_checkFields : AFun := ⟨1, [.tmp 2], true, false,
 (.seq (.region [⟨(some 1), none, .lbox (.t 0)⟩,
   ⟨(some 2), none, .asg (.c (.i .i64 0))⟩] none [1])
 (.seq (.seq (.region [⟨(some 4), none, .fld 0 (.t 1)⟩,
   ⟨(some 5), none, .load none (.t 4)⟩,
   ⟨(some 6), none, .bin .lss (.t 5) (.c (.i .i64 1))⟩,
   ⟨(some 7), none, .mov (.t 6)⟩,
   ⟨(some 8), some (7, false), .fld 0 (.t 1)⟩,
   ⟨(some 9), some (7, false), .load none (.t 8)⟩,
   ⟨(some 10), some (7, false), .bin .gtr (.t 9) (.c (.i .i64 7))⟩,
   ⟨(some 11), none, .pick (.t 7) (.c (.b true)) (.t 10)⟩] none [1, 11])
 (.cond (.t 11)
  (.seq (.region [⟨(some 2), none, .asg (.c (.i .i64 21))⟩] none [2])
  .ret)
  .skip))
 (.seq (.region [⟨(some 12), none, .fld 0 (.t 1)⟩,
   ⟨(some 13), none, .load none (.t 12)⟩,
   ⟨(some 14), none, .idxa 8 4 (.g G_terms_needs) (.t 13)⟩,
   ⟨(some 15), none, .load (some 4) (.t 14)⟩,
   ⟨(some 3), none, .lalloc [(.i .i64 0), (.i .i64 0), (.i .i64 0), (.b false)]⟩,
   ⟨none, none, .store 4 (.t 3) (.t 15)⟩] none [1, 3])
 (.seq (.seq (.region [⟨(some 16), none, .fld 4 (.t 1)⟩,
   ⟨(some 17), none, .load none (.t 16)⟩,
   ⟨(some 18), none, .len 0 (.t 17)⟩,
   ⟨(some 19), none, .fld 1 (.t 3)⟩,
   ⟨(some 20), none, .load none (.t 19)⟩,
   ⟨(some 21), none, .bin .lss (.t 18) (.t 20)⟩,
   ⟨(some 22), none, .mov (.t 21)⟩,
   ⟨(some 23), some (22, false), .fld 4 (.t 1)⟩,
   ⟨(some 24), some (22, false), .load none (.t 23)⟩,
   ⟨(some 25), some (22, false), .len 0 (.t 24)⟩,
   ⟨(some 26), some (22, false), .fld 2 (.t 3)⟩,
   ⟨(some 27), some (22, false), .load none (.t 26)⟩,
   ⟨(some 28), some (22, false), .bin .gtr (.t 25) (.t 27)⟩,
   ⟨(some 29), none, .pick (.t 22) (.c (.b true)) (.t 28)⟩,
   ⟨(some 30), none, .mov (.t 29)⟩,
   ⟨(some 31), some (30, false), .fld 0 (.t 3)⟩,
   ⟨(some 32), some (30, false), .load none (.t 31)⟩,
   ⟨(some 33), some (30, false), .bin .eql (.t 32) (.c (.i .i64 0))⟩,
   ⟨(some 34), some (30, false), .mov (.t 33)⟩,
   ⟨(some 35), some (34, true), .fld 1 (.t 1)⟩,
   ⟨(some 36), some (34, true), .load none (.t 35)⟩,
   ⟨(some 37), some (34, true), .bin .neq (.t 36) (.c (.s []))⟩,
   ⟨(some 38), some (30, false), .pick (.t 34) (.t 37) (.c (.b false))⟩,
   ⟨(some 39), none, .pick (.t 30) (.c (.b true)) (.t 38)⟩] none [1, 3, 39])
 (.cond (.t 39)
  (.seq (.region [⟨(some 2), none, .asg (.c (.i .i64 21))⟩] none [2])
  .ret)
  .skip))
 (.seq (.seq (.region [⟨(some 40), none, .fld 3 (.t 3)⟩,
   ⟨(some 41), none, .load none (.t 40)⟩] none [1, 3, 41])
 (.cond (.t 41)
  (.seq (.region [⟨(some 42), none, .fld 2 (.t 1)⟩,
    ⟨(some 43), none, .load none (.t 42)⟩,
    ⟨(some 44), none, .bin .lss (.t 43) (.c (.i .i64 (-1099511627776)))⟩,
    ⟨(some 45), none, .mov (.t 44)⟩,
    ⟨(some 46), some (45, false), .fld 2 (.t 1)⟩,
    ⟨(some 47), some (45, false), .load none (.t 46)⟩,
    ⟨(some 48), some (45, false), .fld 3 (.t 1)⟩,
    ⟨(some 49), some (45, false), .load none (.t 48)⟩,
    ⟨(some 50), some (45, false), .bin .gtr (.t 47) (.t 49)⟩,
    ⟨(some 51), none, .pick (.t 45) (.c (.b true)) (.t 50)⟩,
    ⟨(some 52), none, .mov (.t 51)⟩,
    ⟨(some 53), some (52, false), .fld 3 (.t 1)⟩,
    ⟨(some 54), some (52, false), .load none (.t 53)⟩,
    ⟨(some 55), some (52, false), .bin .gtr (.t 54) (.c (.i .i64 1099511627776))⟩,
    ⟨(some 56), none, .pick (.t 52) (.c (.b true)) (.t 55)⟩] none [1, 3, 56])
  (.cond (.t 56)
   (.seq (.region [⟨(some 2), none, .asg (.c (.i .i64 21))⟩] none [2])
   .ret)
   .skip))
  (.seq (.region [⟨(some 57), none, .fld 2 (.t 1)⟩,
    ⟨(some 58), none, .load none (.t 57)⟩,
    ⟨(some 59), none, .bin .neq (.t 58) (.c (.i .i64 0))⟩,
    ⟨(some 60), none, .mov (.t 59)⟩,
    ⟨(some 61), some (60, false), .fld 3 (.t 1)⟩,
    ⟨(some 62), some (60, false), .load none (.t 61)⟩,
    ⟨(some 63), some (60, false), .bin .neq (.t 62) (.c (.i .i64 0))⟩,
    ⟨(some 64), none, .pick (.t 60) (.c (.b true)) (.t 63)⟩] none [1, 3, 64])
  (.cond (.t 64)
   (.seq (.region [⟨(some 2), none, .asg (.c (.i .i64 21))⟩] none [2])
   .ret)
   .skip))))
 (.seq (.seq (.region [⟨(some 65), none, .fld 0 (.t 3)⟩,
   ⟨(some 66), none, .load none (.t 65)⟩,
   ⟨(some 67), none, .bin .eql (.t 66) (.c (.i .i64 0))⟩,
   ⟨(some 68), none, .mov (.t 67)⟩,
   ⟨(some 69), some (68, false), .fld 1 (.t 1)⟩,
   ⟨(some 70), some (68, false), .load none (.t 69)⟩,
   ⟨(some 71), some (68, false), .call (.c (.fn (.func F_terms_isPlain) [] [])) [(.t 70)]⟩,
   ⟨(some 72), none, .pick (.t 68) (.c (.b true)) (.t 71)⟩,
   ⟨(some 73), none, .mov (.t 72)⟩,
   ⟨(some 74), some (73, false), .fld 0 (.t 3)⟩,
   ⟨(some 75), some (73, false), .load none (.t 74)⟩,
   ⟨(some 76), some (73, false), .bin .eql (.t 75) (.c (.i .i64 2))⟩,
   ⟨(some 77), some (73, false), .mov (.t 76)⟩,
   ⟨(some 78), some (77, true), .fld 1 (.t 1)⟩,
   ⟨(some 79), some (77, true), .load none (.t 78)⟩,
   ⟨(some 80), some (77, true), .call (.c (.fn (.func F_terms_isReserved) [] [])) [(.t 79)]⟩,
   ⟨(some 81), some (73, false), .pick (.t 77) (.t 80) (.c (.b false))⟩,
   ⟨(some 82), none, .pick (.t 73) (.c (.b true)) (.t 81)⟩] none [82])
 (.cond (.t 82)
  (.seq (.region [⟨(some 2), none, .asg (.c (.i .i64 0))⟩] none [2])
  .ret)
  .skip))
 (.seq (.region [⟨(some 2), none, .asg (.c (.i .i64 20))⟩] none [2])
 .ret)))))))⟩

/-- veilstone/terms.isBare -/
def ir_terms_isBare : AFun := ⟨1, [.tmp 2], true, false,
 (.seq (.region [⟨(some 1), none, .lbox (.t 0)⟩,
   ⟨(some 2), none, .asg (.c (.b false))⟩] none [1])
 (.seq (.seq (.region [⟨(some 3), none, .fld 0 (.t 1)⟩,
   ⟨(some 4), none, .load none (.t 3)⟩] none [1, 4])
 (.block 0
  (.seq (.region [⟨(some 6), none, .bin .eql (.t 4) (.c (.i .i64 4))⟩,
    ⟨(some 5), none, .asg (.t 6)⟩] none [1, 4, 5])
  (.cond (.t 5)
   (.seq (.region [⟨(some 2), none, .asg (.c (.b true))⟩] none [2])
   .ret)
   (.seq (.region [⟨(some 8), none, .bin .eql (.t 4) (.c (.i .i64 5))⟩,
     ⟨(some 7), none, .asg (.t 8)⟩] none [1, 7])
   (.cond (.t 7)
    (.seq (.region [⟨(some 9), none, .fld 4 (.t 1)⟩,
      ⟨(some 10), none, .load none (.t 9)⟩,
      ⟨(some 11), none, .call (.c (.fn (.func F_slices_ContainsFunc_api_Concept_api_Concept) [] [])) [(.t 10), (.c (.fn (.func F_terms_isBare) [] []))]⟩,
      ⟨(some 2), none, .asg (.t 11)⟩] none [2])
    .ret)
    .skip))))))
 (.seq (.region [⟨(some 2), none, .asg (.c (.b false))⟩] none [2])
 .ret)))⟩

/-- slices.ContainsFunc[[]veilstone/api.Concept,veilstone/api.Concept] -/
def ir_slices_ContainsFunc_api_Concept_api_Concept : AFun := ⟨2, [.tmp 4], false, false,
 (.seq (.region [⟨(some 4), none, .asg (.c (.b false))⟩] none [0, 1])
 (.seq (.region [⟨(some 5), none, .mov (.t 0)⟩,
   ⟨(some 6), none, .mov (.t 1)⟩,
   ⟨(some 7), none, .call (.c (.fn (.func F_slices_IndexFunc_api_Concept_api_Concept) [] [])) [(.t 5), (.t 6)]⟩,
   ⟨(some 8), none, .bin .geq (.t 7) (.c (.i .i64 0))⟩,
   ⟨(some 4), none, .asg (.t 8)⟩] none [4])
 .ret))⟩

def ir_slices_IndexFunc_api_Concept_api_Concept_L0 : ACode :=
 (.seq (.region [⟨(some 9), none, .bin .lss (.t 8) (.t 7)⟩] none [0, 1, 7, 8, 9])
 (.seq (.cond (.t 9)
  .skip
  (.exit 0))
 (.seq (.block 1
  (.seq (.region [⟨(some 10), none, .mov (.t 8)⟩,
    ⟨(some 5), none, .asg (.t 10)⟩] none [0, 1, 5, 7, 8])
  (.seq (.region [⟨(some 11), none, .mov (.t 1)⟩,
    ⟨(some 12), none, .mov (.t 0)⟩,
    ⟨(some 13), none, .mov (.t 5)⟩,
    ⟨(some 14), none, .idx 5 (.t 12) (.t 13)⟩,
    ⟨(some 15), none, .load (some 5) (.t 14)⟩,
    ⟨(some 16), none, .call (.t 11) [(.t 15)]⟩] none [0, 1, 5, 7, 8, 16])
  (.cond (.t 16)
   (.seq (.region [⟨(some 17), none, .mov (.t 5)⟩,
     ⟨(some 4), none, .asg (.t 17)⟩] none [4])
   .ret)
   .skip))))
 (.region [⟨(some 18), none, .bin .add (.t 8) (.c (.i .i64 1))⟩,
   ⟨(some 8), none, .mov (.t 18)⟩] none [0, 1, 7, 8]))))
/-- slices.IndexFunc[[]veilstone/api.Concept,veilstone/api.Concept] -/
def ir_slices_IndexFunc_api_Concept_api_Concept : AFun := ⟨2, [.tmp 4], false, false,
 (.seq (.region [⟨(some 4), none, .asg (.c (.i .i64 0))⟩] none [0, 1])
 (.seq (.seq (.region [⟨(some 6), none, .mov (.t 0)⟩,
   ⟨(some 7), none, .len 0 (.t 6)⟩,
   ⟨(some 8), none, .mov (.c (.i .i64 0))⟩] none [0, 1, 7, 8])
 (.block 0
  (.loop [0, 1, 7, 8] ir_slices_IndexFunc_api_Concept_api_Concept_L0)))
 (.seq (.region [⟨(some 4), none, .asg (.c (.i .i64 (-1)))⟩] none [4])
 .ret)))⟩

def ir_roles_steps_L1 : ACode :=
 (.seq (.region [⟨(some 42), none, .bin .lss (.t 41) (.t 40)⟩] none [3, 4, 6, 11, 12, 13, 39, 40, 41, 42])
 (.seq (.cond (.t 42)
  .skip
  (.exit 3))
 (.seq (.block 4
  (.seq (.region [⟨(some 43), none, .mov (.t 41)⟩,
    ⟨(some 44), none, .idx 1 (.t 39) (.t 41)⟩,
    ⟨(some 45), none, .load none (.t 44)⟩,
    ⟨(some 7), none, .asg (.t 43)⟩,
    ⟨(some 8), none, .asg (.t 45)⟩] none [3, 4, 6, 7, 8, 11, 12, 13, 39, 40, 41])
  (.seq (.region [⟨(some 46), none, .load (some 16) (.t 6)⟩,
    ⟨(some 47), none, .mov (.t 7)⟩,
    ⟨(some 48), none, .call (.c (.fn (.func F_roles_exempt) [] [])) [(.t 46), (.t 47)]⟩,
    ⟨(some 49), none, .un .not (.t 48)⟩] none [3, 4, 6, 8, 11, 12, 13, 39, 40, 41, 49])
  (.cond (.t 49)
   (.region [⟨(some 50), none, .mov (.t 4)⟩,
     ⟨(some 51), none, .mov (.t 8)⟩,
     ⟨(some 52), none, .fld 13 (.t 6)⟩,
     ⟨(some 53), none, .load none (.t 52)⟩,
     ⟨(some 54), none, .call (.t 50) [(.t 51), (.t 53), (.c (.b true))]⟩] none [3, 4, 6, 11, 12, 13, 39, 40, 41])
   .skip))))
 (.region [⟨(some 55), none, .bin .add (.t 41) (.c (.i .i64 1))⟩,
   ⟨(some 41), none, .mov (.t 55)⟩] none [3, 4, 6, 11, 12, 13, 39, 40, 41]))))
def ir_roles_steps_L0 : ACode :=
 (.seq (.region [⟨(some 14), none, .bin .lss (.t 13) (.t 12)⟩] none [3, 4, 11, 12, 13, 14])
 (.seq (.cond (.t 14)
  .skip
  (.exit 0))
 (.seq (.block 1
  (.seq (.region [⟨(some 15), none, .idx 16 (.t 11) (.t 13)⟩,
    ⟨(some 16), none, .load (some 16) (.t 15)⟩,
    ⟨(some 6), none, .lalloc [(.i .i64 0), (.b false), (.i .i64 0), (.s []), (.i .i64 0), (.i .i64 0), .ns, (.i .i64 0), (.s []), (.i .i64 0), (.i .i64 0), .ns, .ns, (.s []), (.s []), (.s [])]⟩,
    ⟨none, none, .store 16 (.t 6) (.t 16)⟩] none [3, 4, 6, 11, 12, 13])
  (.seq (.region [⟨(some 17), none, .fld 0 (.t 6)⟩,
    ⟨(some 18), none, .load none (.t 17)⟩] none [3, 4, 6, 11, 12, 13, 18])
  (.block 2
   (.seq (.region [⟨(some 20), none, .bin .eql (.t 18) (.c (.i .i64 5))⟩,
     ⟨(some 19), none, .asg (.t 20)⟩] none [3, 4, 6, 11, 12, 13, 18, 19])
   (.cond (.t 19)
    (.seq (.region [⟨(some 21), none, .fld 12 (.t 6)⟩,
      ⟨(some 22), none, .load none (.t 21)⟩,
      ⟨(some 23), none, .idx 1 (.t 22) (.c (.i .i64 0))⟩,
      ⟨(some 24), none, .load none (.t 23)⟩,
      ⟨(some 25), none, .fld 13 (.t 6)⟩,
      ⟨(some 26), none, .load none (.t 25)⟩,
      ⟨(some 27), none, .bin .neq (.t 24) (.t 26)⟩] (some ([0, 1, 2, 3, 4, 5, 6], [])) [3, 4, 6, 11, 12, 13, 27])
    (.cond (.t 27)
     (.region [⟨(some 28), none, .mov (.t 4)⟩,
       ⟨(some 29), none, .fld 12 (.t 6)⟩,
       ⟨(some 30), none, .load none (.t 29)⟩,
       ⟨(some 31), none, .idx 1 (.t 30) (.c (.i .i64 0))⟩,
       ⟨(some 32), none, .load none (.t 31)⟩,
       ⟨(some 33), none, .fld 13 (.t 6)⟩,
       ⟨(some 34), none, .load none (.t 33)⟩,
       ⟨(some 35), none, .callp (.t 28) [(.t 32), (.t 34), (.c (.b false))]⟩] (some ([0, 1, 2, 3, 4, 5, 6, 7], [])) [3, 4, 11, 12, 13])
     .skip))
    (.seq (.region [⟨(some 37), none, .bin .eql (.t 18) (.c (.i .i64 6))⟩,
      ⟨(some 36), none, .asg (.t 37)⟩] none [3, 4, 6, 11, 12, 13, 36])
    (.cond (.t 36)
     (.seq (.region [⟨(some 38), none, .fld 12 (.t 6)⟩,
       ⟨(some 39), none, .load none (.t 38)⟩,
       ⟨(some 40), none, .len 0 (.t 39)⟩,
       ⟨(some 41), none, .mov (.c (.i .i64 0))⟩] none [3, 4, 6, 11, 12, 13, 39, 40, 41])
     (.block 3
      (.loop [3, 4, 6, 11, 12, 13, 39, 40, 41] ir_roles_steps_L1)))
     .skip))))))))
 (.region [⟨(some 56), none, .bin .add (.t 13) (.c (.i .i64 1))⟩,
   ⟨(some 13), none, .mov (.t 56)⟩] none [3, 4, 11, 12, 13]))))
/-- veilstone/roles.steps -/
def ir_roles_steps : AFun := ⟨1, [.tmp 2], false, false,
 (.seq (.region [⟨(some 2), none, .asg (.c .nm)⟩] none [0])
 (.seq (.region [⟨(some 9), none, .hmap⟩,
   ⟨(some 3), none, .halloc [.nm]⟩,
   ⟨none, none, .store 1 (.t 3) (.t 9)⟩] none [0, 3])
 (.seq (.region [⟨(some 10), none, .mkfn (.func F_roles_steps_1) [] [(.t 3)]⟩,
   ⟨(some 4), none, .asg (.t 10)⟩] none [0, 3, 4])
 (.seq (.seq (.region [⟨(some 11), none, .mov (.t 0)⟩,
   ⟨(some 12), none, .len 0 (.t 11)⟩,
   ⟨(some 13), none, .mov (.c (.i .i64 0))⟩] none [3, 4, 11, 12, 13])
 (.block 0
  (.loop [3, 4, 11, 12, 13] ir_roles_steps_L0)))
 (.seq (.region [⟨(some 57), none, .load none (.t 3)⟩,
   ⟨(some 2), none, .asg (.t 57)⟩] none [2])
 .ret)))))⟩

/-- veilstone/roles.steps$1 -/
def ir_roles_steps_1 : AFun := ⟨4, [], false, true,
 (.seq (.seq (.region [⟨(some 7), none, .load none (.t 3)⟩,
   ⟨(some 8), none, .mov (.t 0)⟩,
   ⟨(some 9), none, .look 1 .nm false (.t 7) (.t 8)⟩,
   ⟨(some 10), none, .nileq false 1 (.t 9)⟩] none [0, 1, 2, 3, 10])
 (.cond (.t 10)
  (.region [⟨(some 11), none, .load none (.t 3)⟩,
    ⟨(some 12), none, .mov (.t 0)⟩,
    ⟨(some 13), none, .hmap⟩,
    ⟨none, none, .hins 1 (.t 11) (.t 12) (.t 13)⟩] none [0, 1, 2, 3])
  .skip))
 (.region [⟨(some 14), none, .load none (.t 3)⟩,
   ⟨(some 15), none, .mov (.t 0)⟩,
   ⟨(some 16), none, .look 1 .nm false (.t 14) (.t 15)⟩,
   ⟨(some 17), none, .mov (.t 1)⟩,
   ⟨(some 18), none, .load none (.t 3)⟩,
   ⟨(some 19), none, .mov (.t 0)⟩,
   ⟨(some 20), none, .look 1 .nm false (.t 18) (.t 19)⟩,
   ⟨(some 21), none, .mov (.t 1)⟩,
   ⟨(some 22), none, .look 1 (.b false) false (.t 20) (.t 21)⟩,
   ⟨(some 23), none, .mov (.t 22)⟩,
   ⟨(some 24), some (23, false), .mov (.t 2)⟩,
   ⟨(some 25), none, .pick (.t 23) (.c (.b true)) (.t 24)⟩,
   ⟨none, none, .hins 1 (.t 16) (.t 17) (.t 25)⟩] none []))⟩

def ir_roles_exempt_L0 : ACode :=
 (.seq (.region [⟨(some 24), none, .bin .lss (.t 23) (.t 22)⟩] none [1, 2, 5, 6, 21, 22, 23, 24])
 (.seq (.cond (.t 24)
  .skip
  (.exit 0))
 (.seq (.block 1
  (.seq (.region [⟨(some 25), none, .idx 1 (.t 21) (.t 23)⟩,
    ⟨(some 26), none, .load none (.t 25)⟩,
    ⟨(some 8), none, .asg (.t 26)⟩] none [1, 2, 5, 6, 8, 21, 22, 23])
  (.seq (.region [⟨(some 27), none, .mov (.t 8)⟩,
    ⟨(some 28), none, .fld 13 (.t 2)⟩,
    ⟨(some 29), none, .load none (.t 28)⟩,
    ⟨(some 30), none, .bin .eql (.t 27) (.t 29)⟩] none [1, 2, 5, 6, 21, 22, 23, 30])
  (.cond (.t 30)
   (.region [⟨(some 31), none, .mov (.t 6)⟩,
     ⟨(some 32), none, .bin .add (.t 31) (.c (.i .i64 1))⟩,
     ⟨(some 6), none, .asg (.t 32)⟩] none [1, 2, 5, 6, 21, 22, 23])
   .skip))))
 (.region [⟨(some 33), none, .bin .add (.t 23) (.c (.i .i64 1))⟩,
   ⟨(some 23), none, .mov (.t 33)⟩] none [1, 2, 5, 6, 21, 22, 23]))))
/-- veilstone/roles.exempt -/
def ir_roles_exempt : AFun := ⟨2, [.tmp 4], true, false,
 (.seq (.region [⟨(some 2), none, .lbox (.t 0)⟩,
   ⟨(some 4), none, .asg (.c (.b false))⟩] none [1, 2])
 (.seq (.seq (.region [⟨(some 9), none, .fld 12 (.t 2)⟩,
   ⟨(some 10), none, .load none (.t 9)⟩,
   ⟨(some 11), none, .mov (.t 1)⟩,
   ⟨(some 12), none, .idx 1 (.t 10) (.t 11)⟩,
   ⟨(some 13), none, .load none (.t 12)⟩,
   ⟨(some 14), none, .fld 13 (.t 2)⟩,
   ⟨(some 15), none, .load none (.t 14)⟩,
   ⟨(some 16), none, .bin .neq (.t 13) (.t 15)⟩] (some ([0, 1, 2, 3, 4, 5, 6, 7], [])) [1, 2, 16])
 (.cond (.t 16)
  (.seq (.region [⟨(some 4), none, .asg (.c (.b false))⟩] none [4])
  .ret)
  .skip))
 (.seq (.region [⟨(some 17), none, .fld 12 (.t 2)⟩,
   ⟨(some 18), none, .load none (.t 17)⟩,
   ⟨(some 19), none, .len 0 (.t 18)⟩,
   ⟨(some 5), none, .asg (.t 19)⟩] none [1, 2, 5])
 (.seq (.region [⟨(some 6), none, .asg (.c (.i .i64 0))⟩] none [1, 2, 5, 6])
 (.seq (.seq (.region [⟨(some 20), none, .fld 12 (.t 2)⟩,
   ⟨(some 21), none, .load none (.t 20)⟩,
   ⟨(some 22), none, .len 0 (.t 21)⟩,
   ⟨(some 23), none, .mov (.c (.i .i64 0))⟩] none [1, 2, 5, 6, 21, 22, 23])
 (.block 0
  (.loop [1, 2, 5, 6, 21, 22, 23] ir_roles_exempt_L0)))
 (.seq (.region [⟨(some 34), none, .mov (.t 6)⟩,
   ⟨(some 35), none, .bin .eql (.t 34) (.c (.i .i64 1))⟩,
   ⟨(some 36), none, .mov (.t 35)⟩,
   ⟨(some 37), some (36, true), .mov (.t 1)⟩,
   ⟨(some 38), some (36, true), .bin .eql (.t 37) (.c (.i .i64 0))⟩,
   ⟨(some 39), some (36, true), .mov (.t 38)⟩,
   ⟨(some 40), some (39, false), .mov (.t 1)⟩,
   ⟨(some 41), some (39, false), .mov (.t 5)⟩,
   ⟨(some 42), some (39, false), .bin .sub (.t 41) (.c (.i .i64 1))⟩,
   ⟨(some 43), some (39, false), .bin .eql (.t 40) (.t 42)⟩,
   ⟨(some 44), some (36, true), .pick (.t 39) (.c (.b true)) (.t 43)⟩,
   ⟨(some 45), none, .pick (.t 36) (.t 44) (.c (.b false))⟩,
   ⟨(some 46), none, .mov (.t 45)⟩,
   ⟨(some 47), some (46, false), .mov (.t 6)⟩,
   ⟨(some 48), some (46, false), .bin .eql (.t 47) (.c (.i .i64 2))⟩,
   ⟨(some 49), some (46, false), .mov (.t 48)⟩,
   ⟨(some 50), some (49, true), .mov (.t 5)⟩,
   ⟨(some 51), some (49, true), .bin .eql (.t 50) (.c (.i .i64 2))⟩,
   ⟨(some 52), some (46, false), .pick (.t 49) (.t 51) (.c (.b false))⟩,
   ⟨(some 53), none, .pick (.t 46) (.c (.b true)) (.t 52)⟩,
   ⟨(some 4), none, .asg (.t 53)⟩] none [4])
 .ret))))))⟩

def ir_roles_newGraph_L1 : ACode :=
 (.seq (.region [⟨(some 28), none, .bin .lss (.t 27) (.t 26)⟩] none [0, 2, 4, 5, 15, 16, 17, 25, 26, 27, 28])
 (.seq (.cond (.t 28)
  .skip
  (.exit 2))
 (.seq (.block 3
  (.seq (.region [⟨(some 29), none, .idx 1 (.t 25) (.t 27)⟩,
    ⟨(some 30), none, .load none (.t 29)⟩,
    ⟨(some 7), none, .asg (.t 30)⟩] none [0, 2, 4, 5, 7, 15, 16, 17, 25, 26, 27])
  (.seq (.region [⟨(some 32), none, .fld 0 (.t 2)⟩,
    ⟨(some 33), none, .load none (.t 32)⟩,
    ⟨(some 34), none, .mov (.t 7)⟩,
    ⟨(some 35), none, .call (.c (.fn (.func F_slices_BinarySearch_string_string) [] [])) [(.t 33), (.t 34)]⟩,
    ⟨(some 31), none, .mov (.t 35)⟩,
    ⟨(some 36), none, .ext (.t 31) 0⟩,
    ⟨(some 37), none, .ext (.t 31) 1⟩,
    ⟨(some 8), none, .asg (.t 36)⟩,
    ⟨(some 9), none, .asg (.t 37)⟩] none [0, 2, 4, 5, 7, 8, 9, 15, 16, 17, 25, 26, 27])
  (.seq (.region [⟨(some 38), none, .mov (.t 9)⟩] none [0, 2, 4, 5, 7, 8, 15, 16, 17, 25, 26, 27, 38])
  (.cond (.t 38)
   (.region [⟨(some 39), none, .mov (.t 5)⟩,
     ⟨(some 40), none, .mov (.t 8)⟩,
     ⟨(some 41), none, .mov (.t 0)⟩,
     ⟨(some 42), none, .mov (.t 4)⟩,
     ⟨(some 43), none, .look 1 .nm false (.t 41) (.t 42)⟩,
     ⟨(some 44), none, .mov (.t 7)⟩,
     ⟨(some 45), none, .look 1 (.b false) false (.t 43) (.t 44)⟩,
     ⟨(some 46), none, .build [(.i .i64 0), (.b false)] [(0, 1, (.t 40)), (1, 1, (.t 45))]⟩,
     ⟨(some 47), none, .bsl false T_roles_step_2 2 1 [(.i .i64 0), (.b false)] [(0, (.t 46))]⟩,
     ⟨(some 48), none, .app T_roles_step_2 2 (.t 39) (.t 47)⟩,
     ⟨(some 5), none, .asg (.t 48)⟩] none [0, 2, 4, 5, 15, 16, 17, 25, 26, 27])
   .skip)))))
 (.region [⟨(some 49), none, .bin .add (.t 27) (.c (.i .i64 1))⟩,
   ⟨(some 27), none, .mov (.t 49)⟩] none [0, 2, 4, 5, 15, 16, 17, 25, 26, 27]))))
def ir_roles_newGraph_L0 : ACode :=
 (.seq (.region [⟨(some 18), none, .bin .lss (.t 17) (.t 16)⟩] none [0, 2, 15, 16, 17, 18])
 (.seq (.cond (.t 18)
  .skip
  (.exit 0))
 (.seq (.block 1
  (.seq (.region [⟨(some 19), none, .idx 1 (.t 15) (.t 17)⟩,
    ⟨(some 20), none, .load none (.t 19)⟩,
    ⟨(some 4), none, .asg (.t 20)⟩] none [0, 2, 4, 15, 16, 17])
  (.seq (.region [⟨(some 5), none, .nbuf T_roles_step_2 2⟩] none [0, 2, 4, 5, 15, 16, 17])
  (.seq (.seq (.region [⟨(some 21), none, .mov (.t 0)⟩,
    ⟨(some 22), none, .mov (.t 4)⟩,
    ⟨(some 23), none, .look 1 .nm false (.t 21) (.t 22)⟩,
    ⟨(some 24), none, .call (.c (.fn (.func F_maps_Keys_map_string_bool_string_bool) [] [])) [(.t 23)]⟩,
    ⟨(some 25), none, .call (.c (.fn (.func F_slices_Sorted_string) [] [])) [(.t 24)]⟩,
    ⟨(some 26), none, .len 0 (.t 25)⟩,
    ⟨(some 27), none, .mov (.c (.i .i64 0))⟩] none [0, 2, 4, 5, 15, 16, 17, 25, 26, 27])
  (.block 2
   (.loop [0, 2, 4, 5, 15, 16, 17, 25, 26, 27] ir_roles_newGraph_L1)))
  (.region [⟨(some 50), none, .fld 1 (.t 2)⟩,
    ⟨(some 51), none, .load none (.t 50)⟩,
    ⟨(some 52), none, .mov (.t 5)⟩,
    ⟨(some 53), none, .bsl false T_roles_step_1 1 1 [.ns] [(0, (.t 52))]⟩,
    ⟨(some 54), none, .appr T_roles_step_1 1 (.t 51) (.t 53)⟩,
    ⟨(some 55), none, .fld 1 (.t 2)⟩,
    ⟨none, none, .store 1 (.t 55) (.t 54)⟩] none [0, 2, 15, 16, 17])))))
 (.region [⟨(some 56), none, .bin .add (.t 17) (.c (.i .i64 1))⟩,
   ⟨(some 17), none, .mov (.t 56)⟩] none [0, 2, 15, 16, 17]))))
/-- veilstone/roles.newGraph -/
def ir_roles_newGraph : AFun := ⟨1, [.cell 2 (some 2)], true, false,
 (.seq (.region [⟨(some 2), none, .lalloc [.ns, .ns]⟩] none [0, 2])
 (.seq (.region [⟨(some 10), none, .mov (.t 0)⟩,
   ⟨(some 11), none, .call (.c (.fn (.func F_maps_Keys_map_string_map_string_bool_string_map_string_bool) [] [])) [(.t 10)]⟩,
   ⟨(some 12), none, .call (.c (.fn (.func F_slices_Sorted_string) [] [])) [(.t 11)]⟩,
   ⟨(some 13), none, .fld 0 (.t 2)⟩,
   ⟨none, none, .store 1 (.t 13) (.t 12)⟩] none [0, 2])
 (.seq (.seq (.region [⟨(some 14), none, .fld 0 (.t 2)⟩,
   ⟨(some 15), none, .load none (.t 14)⟩,
   ⟨(some 16), none, .len 0 (.t 15)⟩,
   ⟨(some 17), none, .mov (.c (.i .i64 0))⟩] none [0, 2, 15, 16, 17])
 (.block 0
  (.loop [0, 2, 15, 16, 17] ir_roles_newGraph_L0)))
 (.seq (.region [⟨(some 57), none, .load (some 2) (.t 2)⟩,
   ⟨none, none, .store 2 (.t 2) (.t 57)⟩] none [2])
 .ret))))⟩

def ir_slices_BinarySearch_string_string_L0 : ACode :=
 (.seq (.seq (.region [⟨(some 13), none, .mov (.t 7)⟩,
   ⟨(some 14), none, .mov (.t 8)⟩,
   ⟨(some 15), none, .bin .lss (.t 13) (.t 14)⟩] none [0, 1, 6, 7, 8, 15])
 (.cond (.t 15)
  .skip
  (.exit 0)))
 (.block 1
  (.seq (.region [⟨(some 16), none, .mov (.t 7)⟩,
    ⟨(some 17), none, .mov (.t 8)⟩,
    ⟨(some 18), none, .bin .add (.t 16) (.t 17)⟩,
    ⟨(some 19), none, .toInt .u64 (.t 18)⟩,
    ⟨(some 20), none, .bin .shr (.t 19) (.c (.i .u64 1))⟩,
    ⟨(some 21), none, .toInt .i64 (.t 20)⟩,
    ⟨(some 9), none, .asg (.t 21)⟩] none [0, 1, 6, 7, 8, 9])
  (.seq (.region [⟨(some 22), none, .mov (.t 0)⟩,
    ⟨(some 23), none, .mov (.t 9)⟩,
    ⟨(some 24), none, .idx 1 (.t 22) (.t 23)⟩,
    ⟨(some 25), none, .load none (.t 24)⟩,
    ⟨(some 26), none, .mov (.t 1)⟩,
    ⟨(some 27), none, .call (.c (.fn (.func F_cmp_Less_string) [] [])) [(.t 25), (.t 26)]⟩] none [0, 1, 6, 7, 8, 9, 27])
  (.cond (.t 27)
   (.region [⟨(some 28), none, .mov (.t 9)⟩,
     ⟨(some 29), none, .bin .add (.t 28) (.c (.i .i64 1))⟩,
     ⟨(some 7), none, .asg (.t 29)⟩] none [0, 1, 6, 7, 8])
   (.region [⟨(some 30), none, .mov (.t 9)⟩,
     ⟨(some 8), none, .asg (.t 30)⟩] none [0, 1, 6, 7, 8]))))))
/-- slices.BinarySearch[[]string,string] -/
def ir_slices_BinarySearch_string_string : AFun := ⟨2, [.tmp 4, .tmp 5], true, false,
 (.seq (.region [⟨(some 4), none, .asg (.c (.i .i64 0))⟩,
   ⟨(some 5), none, .asg (.c (.b false))⟩] none [0, 1])
 (.seq (.region [⟨(some 10), none, .mov (.t 0)⟩,
   ⟨(some 11), none, .len 0 (.t 10)⟩,
   ⟨(some 6), none, .asg (.t 11)⟩] none [0, 1, 6])
 (.seq (.region [⟨(some 12), none, .mov (.t 6)⟩,
   ⟨(some 7), none, .asg (.c (.i .i64 0))⟩,
   ⟨(some 8), none, .asg (.t 12)⟩] none [0, 1, 6, 7, 8])
 (.seq (.block 0
  (.loop [0, 1, 6, 7, 8] ir_slices_BinarySearch_string_string_L0))
 (.seq (.region [⟨(some 31), none, .mov (.t 7)⟩,
   ⟨(some 32), none, .mov (.t 7)⟩,
   ⟨(some 33), none, .mov (.t 6)⟩,
   ⟨(some 34), none, .bin .lss (.t 32) (.t 33)⟩,
   ⟨(some 35), none, .mov (.t 34)⟩,
   ⟨(some 36), some (35, true), .mov (.t 0)⟩,
   ⟨(some 37), some (35, true), .mov (.t 7)⟩,
   ⟨(some 38), some (35, true), .idx 1 (.t 36) (.t 37)⟩,
   ⟨(some 39), some (35, true), .load none (.t 38)⟩,
   ⟨(some 40), some (35, true), .mov (.t 1)⟩,
   ⟨(some 41), some (35, true), .bin .eql (.t 39) (.t 40)⟩,
   ⟨(some 42), some (35, true), .mov (.t 41)⟩,
   ⟨(some 43), some (42, false), .mov (.t 0)⟩,
   ⟨(some 44), some (42, false), .mov (.t 7)⟩,
   ⟨(some 45), some (42, false), .idx 1 (.t 43) (.t 44)⟩,
   ⟨(some 46), some (42, false), .load none (.t 45)⟩,
   ⟨(some 47), some (42, false), .call (.c (.fn (.func F_slices_isNaN_string) [] [])) [(.t 46)]⟩,
   ⟨(some 48), some (42, false), .mov (.t 47)⟩,
   ⟨(some 49), some (48, true), .mov (.t 1)⟩,
   ⟨(some 50), some (48, true), .call (.c (.fn (.func F_slices_isNaN_string) [] [])) [(.t 49)]⟩,
   ⟨(some 51), some (42, false), .pick (.t 48) (.t 50) (.c (.b false))⟩,
   ⟨(some 52), some (35, true), .pick (.t 42) (.c (.b true)) (.t 51)⟩,
   ⟨(some 53), none, .pick (.t 35) (.t 52) (.c (.b false))⟩,
   ⟨(some 4), none, .asg (.t 31)⟩,
   ⟨(some 5), none, .asg (.t 53)⟩] none [4, 5])
 .ret)))))⟩

/-- cmp.Less[string] -/
def ir_cmp_Less_string : AFun := ⟨2, [.tmp 4], true, false,
 (.seq (.region [⟨(some 4), none, .asg (.c (.b false))⟩] none [0, 1])
 (.seq (.region [⟨(some 5), none, .mov (.t 0)⟩,
   ⟨(some 6), none, .call (.c (.fn (.func F_cmp_isNaN_string) [] [])) [(.t 5)]⟩,
   ⟨(some 7), none, .mov (.t 6)⟩,
   ⟨(some 8), some (7, true), .mov (.t 1)⟩,
   ⟨(some 9), some (7, true), .call (.c (.fn (.func F_cmp_isNaN_string) [] [])) [(.t 8)]⟩,
   ⟨(some 10), some (7, true), .un .not (.t 9)⟩,
   ⟨(some 11), none, .pick (.t 7) (.t 10) (.c (.b false))⟩,
   ⟨(some 12), none, .mov (.t 11)⟩,
   ⟨(some 13), some (12, false), .mov (.t 0)⟩,
   ⟨(some 14), some (12, false), .mov (.t 1)⟩,
   ⟨(some 15), some (12, false), .bin .lss (.t 13) (.t 14)⟩,
   ⟨(some 16), none, .pick (.t 12) (.c (.b true)) (.t 15)⟩,
   ⟨(some 4), none, .asg (.t 16)⟩] none [4])
 .ret))⟩

/-- cmp.isNaN[string] -/
def ir_cmp_isNaN_string : AFun := ⟨1, [.tmp 2], true, false,
 (.seq (.region [⟨(some 2), none, .asg (.c (.b false))⟩] none [0])
 (.seq (.region [⟨(some 3), none, .mov (.t 0)⟩,
   ⟨(some 4), none, .mov (.t 0)⟩,
   ⟨(some 5), none, .bin .neq (.t 3) (.t 4)⟩,
   ⟨(some 2), none, .asg (.t 5)⟩] none [2])
 .ret))⟩

/-- slices.isNaN[string] -/
def ir_slices_isNaN_string : AFun := ⟨1, [.tmp 2], true, false,
 (.seq (.region [⟨(some 2), none, .asg (.c (.b false))⟩] none [0])
 (.seq (.region [⟨(some 3), none, .mov (.t 0)⟩,
   ⟨(some 4), none, .mov (.t 0)⟩,
   ⟨(some 5), none, .bin .neq (.t 3) (.t 4)⟩,
   ⟨(some 2), none, .asg (.t 5)⟩] none [2])
 .ret))⟩

def ir_roles_graph_circle_L3 : ACode :=
 (.seq (.seq (.region [⟨(some 65), none, .mov (.t 9)⟩,
   ⟨(some 66), none, .bin .gtr (.t 65) (.c (.i .i64 0))⟩] none [1, 6, 7, 9, 66])
 (.cond (.t 66)
  .skip
  (.exit 4)))
 (.seq (.block 5
  (.region [⟨(some 72), none, .mov (.t 6)⟩,
    ⟨(some 73), none, .mov (.t 7)⟩,
    ⟨(some 74), none, .mov (.t 9)⟩,
    ⟨(some 75), none, .idx 4 (.t 73) (.t 74)⟩,
    ⟨(some 76), none, .fld 0 (.t 75)⟩,
    ⟨(some 77), none, .load none (.t 76)⟩,
    ⟨(some 78), none, .bsl false T_int_0 1 1 [(.i .i64 0)] [(0, (.t 77))]⟩,
    ⟨(some 79), none, .appk T_int_0 1 (.t 72) (.t 78)⟩,
    ⟨(some 6), none, .asg (.t 79)⟩] none [1, 6, 7, 9]))
 (.region [⟨(some 67), none, .mov (.t 7)⟩,
   ⟨(some 68), none, .mov (.t 9)⟩,
   ⟨(some 69), none, .idx 4 (.t 67) (.t 68)⟩,
   ⟨(some 70), none, .fld 2 (.t 69)⟩,
   ⟨(some 71), none, .load none (.t 70)⟩,
   ⟨(some 9), none, .asg (.t 71)⟩] none [1, 6, 7, 9])))
def ir_roles_graph_circle_L2 : ACode :=
 (.seq (.region [⟨(some 49), none, .bin .lss (.t 48) (.t 47)⟩] none [1, 2, 3, 6, 7, 8, 9, 10, 46, 47, 48, 49])
 (.seq (.cond (.t 49)
  .skip
  (.exit 2))
 (.seq (.block 3
  (.seq (.region [⟨(some 50), none, .idx 2 (.t 46) (.t 48)⟩,
    ⟨(some 51), none, .load (some 2) (.t 50)⟩,
    ⟨(some 12), none, .lalloc [(.i .i64 0), (.b false)]⟩,
    ⟨none, none, .store 2 (.t 12) (.t 51)⟩] none [1, 2, 3, 6, 7, 8, 9, 10, 12, 46, 47, 48])
  (.seq (.region [⟨(some 52), none, .fld 1 (.t 10)⟩,
    ⟨(some 53), none, .load none (.t 52)⟩,
    ⟨(some 54), none, .mov (.t 53)⟩,
    ⟨(some 55), some (54, false), .fld 1 (.t 12)⟩,
    ⟨(some 56), some (54, false), .load none (.t 55)⟩,
    ⟨(some 57), none, .pick (.t 54) (.c (.b true)) (.t 56)⟩,
    ⟨(some 13), none, .asg (.t 57)⟩] none [1, 2, 3, 6, 7, 8, 9, 10, 12, 13, 46, 47, 48])
  (.seq (.seq (.region [⟨(some 58), none, .fld 0 (.t 12)⟩,
    ⟨(some 59), none, .load none (.t 58)⟩,
    ⟨(some 60), none, .mov (.t 1)⟩,
    ⟨(some 61), none, .bin .eql (.t 59) (.t 60)⟩,
    ⟨(some 62), none, .mov (.t 61)⟩,
    ⟨(some 63), some (62, true), .mov (.t 13)⟩,
    ⟨(some 64), none, .pick (.t 62) (.t 63) (.c (.b false))⟩] none [1, 2, 3, 6, 7, 8, 9, 10, 12, 13, 46, 47, 48, 64])
  (.cond (.t 64)
   (.seq (.block 4
    (.loop [1, 6, 7, 9] ir_roles_graph_circle_L3))
   (.seq (.region [⟨(some 80), none, .mov (.t 6)⟩,
     ⟨(some 81), none, .mov (.t 1)⟩,
     ⟨(some 82), none, .bsl false T_int_0 1 1 [(.i .i64 0)] [(0, (.t 81))]⟩,
     ⟨(some 83), none, .appk T_int_0 1 (.t 80) (.t 82)⟩,
     ⟨(some 6), none, .asg (.t 83)⟩] none [6])
   (.seq (.region [⟨(some 84), none, .mov (.t 6)⟩,
     ⟨(some 85), none, .call (.c (.fn (.func F_slices_Reverse_int_int) [] [])) [(.t 84)]⟩] none [6])
   (.exit 0))))
   .skip))
  (.seq (.region [⟨(some 14), none, .asg (.c (.i .i64 0))⟩] none [1, 2, 3, 6, 7, 8, 9, 10, 12, 13, 14, 46, 47, 48])
  (.seq (.seq (.region [⟨(some 86), none, .mov (.t 13)⟩] none [1, 2, 3, 6, 7, 8, 9, 10, 12, 13, 14, 46, 47, 48, 86])
  (.cond (.t 86)
   (.region [⟨(some 14), none, .asg (.c (.i .i64 1))⟩] none [1, 2, 3, 6, 7, 8, 9, 10, 12, 13, 14, 46, 47, 48])
   .skip))
  (.seq (.seq (.region [⟨(some 87), none, .mov (.t 8)⟩,
    ⟨(some 88), none, .fld 0 (.t 12)⟩,
    ⟨(some 89), none, .load none (.t 88)⟩,
    ⟨(some 90), none, .mov (.t 14)⟩,
    ⟨(some 91), none, .idx 2 (.t 87) (.t 89)⟩,
    ⟨(some 92), none, .idxa 2 1 (.t 91) (.t 90)⟩,
    ⟨(some 93), none, .load none (.t 92)⟩] none [1, 2, 3, 6, 7, 8, 9, 10, 12, 13, 14, 46, 47, 48, 93])
  (.cond (.t 93)
   (.exit 3)
   .skip))
  (.seq (.region [⟨(some 94), none, .mov (.t 8)⟩,
    ⟨(some 95), none, .fld 0 (.t 12)⟩,
    ⟨(some 96), none, .load none (.t 95)⟩,
    ⟨(some 97), none, .mov (.t 14)⟩,
    ⟨(some 98), none, .idx 2 (.t 94) (.t 96)⟩,
    ⟨(some 99), none, .idxa 2 1 (.t 98) (.t 97)⟩,
    ⟨none, none, .store 1 (.t 99) (.c (.b true))⟩] none [1, 2, 3, 6, 7, 8, 9, 10, 12, 13, 46, 47, 48])
  (.region [⟨(some 100), none, .mov (.t 7)⟩,
    ⟨(some 101), none, .fld 0 (.t 12)⟩,
    ⟨(some 102), none, .load none (.t 101)⟩,
    ⟨(some 103), none, .mov (.t 13)⟩,
    ⟨(some 104), none, .mov (.t 9)⟩,
    ⟨(some 105), none, .fld 3 (.t 10)⟩,
    ⟨(some 106), none, .load none (.t 105)⟩,
    ⟨(some 107), none, .bin .add (.t 106) (.c (.i .i64 1))⟩,
    ⟨(some 108), none, .build [(.i .i64 0), (.b false), (.i .i64 0), (.i .i64 0)] [(0, 1, (.t 102)), (1, 1, (.t 103)), (2, 1, (.t 104)), (3, 1, (.t 107))]⟩,
    ⟨(some 109), none, .bsl false T_roles_way_0 4 1 [(.i .i64 0), (.b false), (.i .i64 0), (.i .i64 0)] [(0, (.t 108))]⟩,
    ⟨(some 110), none, .appk T_roles_way_0 4 (.t 100) (.t 109)⟩,
    ⟨(some 7), none, .asg (.t 110)⟩] none [1, 2, 3, 6, 7, 8, 9, 10, 46, 47, 48])))))))))
 (.region [⟨(some 111), none, .bin .add (.t 48) (.c (.i .i64 1))⟩,
   ⟨(some 48), none, .mov (.t 111)⟩] none [1, 2, 3, 6, 7, 8, 9, 10, 46, 47, 48]))))
def ir_roles_graph_circle_L1 : ACode :=
 (.seq (.seq (.region [⟨(some 26), none, .mov (.t 9)⟩,
   ⟨(some 27), none, .mov (.t 7)⟩,
   ⟨(some 28), none, .len 0 (.t 27)⟩,
   ⟨(some 29), none, .bin .lss (.t 26) (.t 28)⟩] none [1, 2, 3, 6, 7, 8, 9, 29])
 (.cond (.t 29)
  .skip
  (.exit 0)))
 (.seq (.block 1
  (.seq (.region [⟨(some 32), none, .mov (.t 7)⟩,
    ⟨(some 33), none, .mov (.t 9)⟩,
    ⟨(some 34), none, .idx 4 (.t 32) (.t 33)⟩,
    ⟨(some 35), none, .load (some 4) (.t 34)⟩,
    ⟨(some 10), none, .lalloc [(.i .i64 0), (.b false), (.i .i64 0), (.i .i64 0)]⟩,
    ⟨none, none, .store 4 (.t 10) (.t 35)⟩] none [1, 2, 3, 6, 7, 8, 9, 10])
  (.seq (.seq (.region [⟨(some 36), none, .fld 3 (.t 10)⟩,
    ⟨(some 37), none, .load none (.t 36)⟩,
    ⟨(some 38), none, .bin .add (.t 37) (.c (.i .i64 1))⟩,
    ⟨(some 39), none, .mov (.t 2)⟩,
    ⟨(some 40), none, .bin .geq (.t 38) (.t 39)⟩] none [1, 2, 3, 6, 7, 8, 9, 10, 40])
  (.cond (.t 40)
   (.exit 0)
   .skip))
  (.seq (.region [⟨(some 41), none, .fld 1 (.t 3)⟩,
    ⟨(some 42), none, .load none (.t 41)⟩,
    ⟨(some 43), none, .fld 0 (.t 10)⟩,
    ⟨(some 44), none, .load none (.t 43)⟩,
    ⟨(some 45), none, .idx 1 (.t 42) (.t 44)⟩,
    ⟨(some 46), none, .load none (.t 45)⟩,
    ⟨(some 47), none, .len 0 (.t 46)⟩,
    ⟨(some 48), none, .mov (.c (.i .i64 0))⟩] none [1, 2, 3, 6, 7, 8, 9, 10, 46, 47, 48])
  (.block 2
   (.loop [1, 2, 3, 6, 7, 8, 9, 10, 46, 47, 48] ir_roles_graph_circle_L2))))))
 (.region [⟨(some 30), none, .mov (.t 9)⟩,
   ⟨(some 31), none, .bin .add (.t 30) (.c (.i .i64 1))⟩,
   ⟨(some 9), none, .asg (.t 31)⟩] none [1, 2, 3, 6, 7, 8, 9])))
def ir_roles_graph_circle_L0 : ACode :=
 (.seq .skip
 (.seq (.seq (.region [⟨(some 9), none, .asg (.c (.i .i64 0))⟩] none [1, 2, 3, 6, 7, 8, 9])
 (.block 0
  (.loop [1, 2, 3, 6, 7, 8, 9] ir_roles_graph_circle_L1)))
 (.seq (.region [⟨(some 112), none, .mov (.t 6)⟩,
   ⟨(some 6), none, .asg (.t 112)⟩] none [6])
 .ret)))
def ir_roles_graph_circle_L6 : ACode :=
 (.seq (.seq (.region [⟨(some 65), none, .mov (.t 9)⟩,
   ⟨(some 66), none, .bin .gtr (.t 65) (.c (.i .i64 0))⟩] none [1, 6, 7, 9, 66])
 (.cond (.t 66)
  .skip
  (.exit 4)))
 (.seq (.block 5
  (.region [⟨(some 72), none, .mov (.t 6)⟩,
    ⟨(some 73), none, .mov (.t 7)⟩,
    ⟨(some 74), none, .mov (.t 9)⟩,
    ⟨(some 75), none, .idx 4 (.t 73) (.t 74)⟩,
    ⟨(some 76), none, .fld 0 (.t 75)⟩,
    ⟨(some 77), none, .load none (.t 76)⟩,
    ⟨(some 78), none, .bsl false T_int_0 1 1 [(.i .i64 0)] [(0, (.t 77))]⟩,
    ⟨(some 79), none, .appk T_int_0 1 (.t 72) (.t 78)⟩,
    ⟨(some 6), none, .asg (.t 79)⟩] none [1, 6, 7, 9]))
 (.region [⟨(some 67), none, .mov (.t 7)⟩,
   ⟨(some 68), none, .mov (.t 9)⟩,
   ⟨(some 69), none, .idx 4 (.t 67) (.t 68)⟩,
   ⟨(some 70), none, .fld 2 (.t 69)⟩,
   ⟨(some 71), none, .load none (.t 70)⟩,
   ⟨(some 9), none, .asg (.t 71)⟩] none [1, 6, 7, 9])))
def ir_roles_graph_circle_L5 : ACode :=
 (.seq (.region [⟨(some 49), none, .bin .lss (.t 48) (.t 47)⟩] none [1, 2, 3, 6, 7, 8, 9, 10, 46, 47, 48, 49])
 (.seq (.cond (.t 49)
  .skip
  (.exit 2))
 (.seq (.block 3
  (.seq (.region [⟨(some 50), none, .idx 2 (.t 46) (.t 48)⟩,
    ⟨(some 51), none, .load (some 2) (.t 50)⟩,
    ⟨(some 12), none, .lalloc [(.i .i64 0), (.b false)]⟩,
    ⟨none, none, .store 2 (.t 12) (.t 51)⟩] none [1, 2, 3, 6, 7, 8, 9, 10, 12, 46, 47, 48])
  (.seq (.region [⟨(some 52), none, .fld 1 (.t 10)⟩,
    ⟨(some 53), none, .load none (.t 52)⟩,
    ⟨(some 54), none, .mov (.t 53)⟩,
    ⟨(some 55), some (54, false), .fld 1 (.t 12)⟩,
    ⟨(some 56), some (54, false), .load none (.t 55)⟩,
    ⟨(some 57), none, .pick (.t 54) (.c (.b true)) (.t 56)⟩,
    ⟨(some 13), none, .asg (.t 57)⟩] none [1, 2, 3, 6, 7, 8, 9, 10, 12, 13, 46, 47, 48])
  (.seq (.seq (.region [⟨(some 58), none, .fld 0 (.t 12)⟩,
    ⟨(some 59), none, .load none (.t 58)⟩,
    ⟨(some 60), none, .mov (.t 1)⟩,
    ⟨(some 61), none, .bin .eql (.t 59) (.t 60)⟩,
    ⟨(some 62), none, .mov (.t 61)⟩,
    ⟨(some 63), some (62, true), .mov (.t 13)⟩,
    ⟨(some 64), none, .pick (.t 62) (.t 63) (.c (.b false))⟩] none [1, 2, 3, 6, 7, 8, 9, 10, 12, 13, 46, 47, 48, 64])
  (.cond (.t 64)
   (.seq (.block 4
    (.loop [1, 6, 7, 9] ir_roles_graph_circle_L6))
   (.seq (.region [⟨(some 80), none, .mov (.t 6)⟩,
     ⟨(some 81), none, .mov (.t 1)⟩,
     ⟨(some 82), none, .bsl false T_int_0 1 1 [(.i .i64 0)] [(0, (.t 81))]⟩,
     ⟨(some 83), none, .appk T_int_0 1 (.t 80) (.t 82)⟩,
     ⟨(some 6), none, .asg (.t 83)⟩] none [6])
   (.seq (.region [⟨(some 84), none, .mov (.t 6)⟩,
     ⟨(some 85), none, .call (.c (.fn (.func F_slices_Reverse_int_int) [] [])) [(.t 84)]⟩] none [6])
   (.exit 0))))
   .skip))
  (.seq (.region [⟨(some 14), none, .asg (.c (.i .i64 0))⟩] none [1, 2, 3, 6, 7, 8, 9, 10, 12, 13, 14, 46, 47, 48])
  (.seq (.seq (.region [⟨(some 86), none, .mov (.t 13)⟩] none [1, 2, 3, 6, 7, 8, 9, 10, 12, 13, 14, 46, 47, 48, 86])
  (.cond (.t 86)
   (.region [⟨(some 14), none, .asg (.c (.i .i64 1))⟩] none [1, 2, 3, 6, 7, 8, 9, 10, 12, 13, 14, 46, 47, 48])
   .skip))
  (.seq (.seq (.region [⟨(some 87), none, .mov (.t 8)⟩,
    ⟨(some 88), none, .fld 0 (.t 12)⟩,
    ⟨(some 89), none, .load none (.t 88)⟩,
    ⟨(some 90), none, .mov (.t 14)⟩,
    ⟨(some 91), none, .idx 2 (.t 87) (.t 89)⟩,
    ⟨(some 92), none, .idxa 2 1 (.t 91) (.t 90)⟩,
    ⟨(some 93), none, .load none (.t 92)⟩] none [1, 2, 3, 6, 7, 8, 9, 10, 12, 13, 14, 46, 47, 48, 93])
  (.cond (.t 93)
   (.exit 3)
   .skip))
  (.seq (.region [⟨(some 94), none, .mov (.t 8)⟩,
    ⟨(some 95), none, .fld 0 (.t 12)⟩,
    ⟨(some 96), none, .load none (.t 95)⟩,
    ⟨(some 97), none, .mov (.t 14)⟩,
    ⟨(some 98), none, .idx 2 (.t 94) (.t 96)⟩,
    ⟨(some 99), none, .idxa 2 1 (.t 98) (.t 97)⟩,
    ⟨none, none, .store 1 (.t 99) (.c (.b true))⟩] none [1, 2, 3, 6, 7, 8, 9, 10, 12, 13, 46, 47, 48])
  (.region [⟨(some 100), none, .mov (.t 7)⟩,
    ⟨(some 101), none, .fld 0 (.t 12)⟩,
    ⟨(some 102), none, .load none (.t 101)⟩,
    ⟨(some 103), none, .mov (.t 13)⟩,
    ⟨(some 104), none, .mov (.t 9)⟩,
    ⟨(some 105), none, .fld 3 (.t 10)⟩,
    ⟨(some 106), none, .load none (.t 105)⟩,
    ⟨(some 107), none, .bin .add (.t 106) (.c (.i .i64 1))⟩,
    ⟨(some 108), none, .build [(.i .i64 0), (.b false), (.i .i64 0), (.i .i64 0)] [(0, 1, (.t 102)), (1, 1, (.t 103)), (2, 1, (.t 104)), (3, 1, (.t 107))]⟩,
    ⟨(some 109), none, .bsl false T_roles_way_0 4 1 [(.i .i64 0), (.b false), (.i .i64 0), (.i .i64 0)] [(0, (.t 108))]⟩,
    ⟨(some 110), none, .appk T_roles_way_0 4 (.t 100) (.t 109)⟩,
    ⟨(some 7), none, .asg (.t 110)⟩] none [1, 2, 3, 6, 7, 8, 9, 10, 46, 47, 48])))))))))
 (.region [⟨(some 111), none, .bin .add (.t 48) (.c (.i .i64 1))⟩,
   ⟨(some 48), none, .mov (.t 111)⟩] none [1, 2, 3, 6, 7, 8, 9, 10, 46, 47, 48]))))
def ir_roles_graph_circle_L4 : ACode :=
 (.seq (.seq (.region [⟨(some 26), none, .mov (.t 9)⟩,
   ⟨(some 27), none, .mov (.t 7)⟩,
   ⟨(some 28), none, .len 0 (.t 27)⟩,
   ⟨(some 29), none, .bin .lss (.t 26) (.t 28)⟩] none [1, 2, 3, 6, 7, 8, 9, 29])
 (.cond (.t 29)
  .skip
  (.exit 0)))
 (.seq (.block 1
  (.seq (.region [⟨(some 32), none, .mov (.t 7)⟩,
    ⟨(some 33), none, .mov (.t 9)⟩,
    ⟨(some 34), none, .idx 4 (.t 32) (.t 33)⟩,
    ⟨(some 35), none, .load (some 4) (.t 34)⟩,
    ⟨(some 10), none, .lalloc [(.i .i64 0), (.b false), (.i .i64 0), (.i .i64 0)]⟩,
    ⟨none, none, .store 4 (.t 10) (.t 35)⟩] none [1, 2, 3, 6, 7, 8, 9, 10])
  (.seq (.seq (.region [⟨(some 36), none, .fld 3 (.t 10)⟩,
    ⟨(some 37), none, .load none (.t 36)⟩,
    ⟨(some 38), none, .bin .add (.t 37) (.c (.i .i64 1))⟩,
    ⟨(some 39), none, .mov (.t 2)⟩,
    ⟨(some 40), none, .bin .geq (.t 38) (.t 39)⟩] none [1, 2, 3, 6, 7, 8, 9, 10, 40])
  (.cond (.t 40)
   (.exit 0)
   .skip))
  (.seq (.region [⟨(some 41), none, .fld 1 (.t 3)⟩,
    ⟨(some 42), none, .load none (.t 41)⟩,
    ⟨(some 43), none, .fld 0 (.t 10)⟩,
    ⟨(some 44), none, .load none (.t 43)⟩,
    ⟨(some 45), none, .idx 1 (.t 42) (.t 44)⟩,
    ⟨(some 46), none, .load none (.t 45)⟩,
    ⟨(some 47), none, .len 0 (.t 46)⟩,
    ⟨(some 48), none, .mov (.c (.i .i64 0))⟩] none [1, 2, 3, 6, 7, 8, 9, 10, 46, 47, 48])
  (.block 2
   (.loop [1, 2, 3, 6, 7, 8, 9, 10, 46, 47, 48] ir_roles_graph_circle_L5))))))
 (.region [⟨(some 30), none, .mov (.t 9)⟩,
   ⟨(some 31), none, .bin .add (.t 30) (.c (.i .i64 1))⟩,
   ⟨(some 9), none, .asg (.t 31)⟩] none [1, 2, 3, 6, 7, 8, 9])))
/-- (veilstone/roles.graph).circle -/
def ir_roles_graph_circle : AFun := ⟨3, [.tmp 6], true, false,
 (.seq (.region [⟨(some 3), none, .lbox (.t 0)⟩,
   ⟨(some 6), none, .asg (.c .ns)⟩] none [1, 2, 3, 6])
 (.scope 0 [1, 2, 3, 6, 7, 8]
  (.seq (.region [⟨(some 15), none, .mov (.t 1)⟩,
    ⟨(some 16), none, .build [(.i .i64 0), (.b false), (.i .i64 0), (.i .i64 0)] [(0, 1, (.t 15))]⟩,
    ⟨(some 17), none, .bsl true T_roles_way_0 4 1 [(.i .i64 0), (.b false), (.i .i64 0), (.i .i64 0)] [(0, (.t 16))]⟩,
    ⟨(some 7), none, .asgk T_roles_way_0 4 (.t 17)⟩] none [1, 2, 3, 6, 7])
  (.seq (.region [⟨(some 18), none, .fld 0 (.t 3)⟩,
    ⟨(some 19), none, .load none (.t 18)⟩,
    ⟨(some 20), none, .len 0 (.t 19)⟩,
    ⟨(some 21), none, .mks T_2_bool_1 2 [(.b false), (.b false)] (.t 20)⟩,
    ⟨(some 8), none, .asg (.t 21)⟩] none [1, 2, 3, 6, 7, 8])
  (.seq (.region [⟨(some 22), none, .mov (.t 8)⟩,
    ⟨(some 23), none, .mov (.t 1)⟩,
    ⟨(some 24), none, .idx 2 (.t 22) (.t 23)⟩,
    ⟨(some 25), none, .idxa 2 1 (.t 24) (.c (.i .i64 0))⟩,
    ⟨none, none, .store 1 (.t 25) (.c (.b true))⟩] none [1, 2, 3, 6, 7, 8])
  (.seq (.label 0)
  (.seq (.seq (.region [⟨(some 9), none, .asg (.c (.i .i64 0))⟩] none [1, 2, 3, 6, 7, 8, 9])
  (.block 0
   (.loop [1, 2, 3, 6, 7, 8, 9] ir_roles_graph_circle_L4)))
  (.seq (.region [⟨(some 112), none, .mov (.t 6)⟩,
    ⟨(some 6), none, .asg (.t 112)⟩] none [6])
  .ret))))))
  ir_roles_graph_circle_L0))⟩

def ir_slices_Reverse_int_int_L0 : ACode :=
 (.seq (.seq (.region [⟨(some 7), none, .mov (.t 2)⟩,
   ⟨(some 8), none, .mov (.t 3)⟩,
   ⟨(some 9), none, .bin .lss (.t 7) (.t 8)⟩] none [0, 2, 3, 9])
 (.cond (.t 9)
  .skip
  (.exit 0)))
 (.seq (.block 1
  (.region [⟨(some 14), none, .mov (.t 0)⟩,
    ⟨(some 15), none, .mov (.t 2)⟩,
    ⟨(some 16), none, .mov (.t 0)⟩,
    ⟨(some 17), none, .mov (.t 3)⟩,
    ⟨(some 18), none, .mov (.t 0)⟩,
    ⟨(some 19), none, .mov (.t 3)⟩,
    ⟨(some 20), none, .idx 1 (.t 18) (.t 19)⟩,
    ⟨(some 21), none, .load none (.t 20)⟩,
    ⟨(some 22), none, .mov (.t 0)⟩,
    ⟨(some 23), none, .mov (.t 2)⟩,
    ⟨(some 24), none, .idx 1 (.t 22) (.t 23)⟩,
    ⟨(some 25), none, .load none (.t 24)⟩,
    ⟨(some 26), none, .idx 1 (.t 14) (.t 15)⟩,
    ⟨none, none, .storep 1 (.t 26) (.t 21)⟩,
    ⟨(some 27), none, .idx 1 (.t 16) (.t 17)⟩,
    ⟨none, none, .storep 1 (.t 27) (.t 25)⟩] (some ([0, 1, 4, 5, 6, 7, 8, 9, 10, 11, 12, 13, 2, 3, 14, 15], [])) [0, 2, 3]))
 (.region [⟨(some 10), none, .mov (.t 2)⟩,
   ⟨(some 11), none, .bin .add (.t 10) (.c (.i .i64 1))⟩,
   ⟨(some 12), none, .mov (.t 3)⟩,
   ⟨(some 13), none, .bin .sub (.t 12) (.c (.i .i64 1))⟩,
   ⟨(some 2), none, .asg (.t 11)⟩,
   ⟨(some 3), none, .asg (.t 13)⟩] none [0, 2, 3])))
/-- slices.Reverse[[]int,int] -/
def ir_slices_Reverse_int_int : AFun := ⟨1, [], false, false,
 (.seq (.region [⟨(some 4), none, .mov (.t 0)⟩,
   ⟨(some 5), none, .len 0 (.t 4)⟩,
   ⟨(some 6), none, .bin .sub (.t 5) (.c (.i .i64 1))⟩,
   ⟨(some 2), none, .asg (.c (.i .i64 0))⟩,
   ⟨(some 3), none, .asg (.t 6)⟩] none [0, 2, 3])
 (.block 0
  (.loop [0, 2, 3] ir_slices_Reverse_int_int_L0)))⟩

def ir_ref06_Same_L0 : ACode :=
 (.seq (.seq (.region [⟨(some 11), none, .mov (.t 5)⟩,
   ⟨(some 12), none, .mov (.t 0)⟩,
   ⟨(some 13), none, .len 0 (.t 12)⟩,
   ⟨(some 14), none, .bin .lss (.t 11) (.t 13)⟩] none [0, 1, 5, 14])
 (.cond (.t 14)
  .skip
  (.exit 0)))
 (.seq (.block 1
  (.seq (.region [⟨(some 17), none, .mov (.t 0)⟩,
    ⟨(some 18), none, .mov (.t 5)⟩,
    ⟨(some 19), none, .idx 1 (.t 17) (.t 18)⟩,
    ⟨(some 20), none, .load none (.t 19)⟩,
    ⟨(some 21), none, .mov (.t 1)⟩,
    ⟨(some 22), none, .mov (.t 5)⟩,
    ⟨(some 23), none, .idx 1 (.t 21) (.t 22)⟩,
    ⟨(some 24), none, .load none (.t 23)⟩,
    ⟨(some 25), none, .bin .neq (.t 20) (.t 24)⟩] (some ([0, 1, 2, 3, 4, 5, 6, 7, 8], [])) [0, 1, 5, 25])
  (.cond (.t 25)
   (.seq (.region [⟨(some 4), none, .asg (.c (.b false))⟩] none [4])
   .ret)
   .skip)))
 (.region [⟨(some 15), none, .mov (.t 5)⟩,
   ⟨(some 16), none, .bin .add (.t 15) (.c (.i .i64 1))⟩,
   ⟨(some 5), none, .asg (.t 16)⟩] none [0, 1, 5])))
/-- veilstone/veilstoneref06.Same -/
def ir_ref06_Same : AFun := ⟨2, [.tmp 4], true, false,
 (.seq (.region [⟨(some 4), none, .asg (.c (.b false))⟩] none [0, 1])
 (.seq (.seq (.region [⟨(some 6), none, .mov (.t 0)⟩,
   ⟨(some 7), none, .len 0 (.t 6)⟩,
   ⟨(some 8), none, .mov (.t 1)⟩,
   ⟨(some 9), none, .len 0 (.t 8)⟩,
   ⟨(some 10), none, .bin .neq (.t 7) (.t 9)⟩] none [0, 1, 10])
 (.cond (.t 10)
  (.seq (.region [⟨(some 4), none, .asg (.c (.b false))⟩] none [4])
  .ret)
  .skip))
 (.seq (.seq (.region [⟨(some 5), none, .asg (.c (.i .i64 0))⟩] none [0, 1, 5])
 (.block 0
  (.loop [0, 1, 5] ir_ref06_Same_L0)))
 (.seq (.region [⟨(some 4), none, .asg (.c (.b true))⟩] none [4])
 .ret))))⟩

def ir_roles_Above_L0 : ACode :=
 (.seq (.region [⟨(some 21), none, .bin .lss (.t 20) (.t 19)⟩] none [1, 7, 18, 19, 20, 21])
 (.seq (.cond (.t 21)
  .skip
  (.exit 0))
 (.seq (.block 1
  (.seq (.region [⟨(some 22), none, .idx 16 (.t 18) (.t 20)⟩,
    ⟨(some 23), none, .load (some 16) (.t 22)⟩,
    ⟨(some 9), none, .lalloc [(.i .i64 0), (.b false), (.i .i64 0), (.s []), (.i .i64 0), (.i .i64 0), .ns, (.i .i64 0), (.s []), (.i .i64 0), (.i .i64 0), .ns, .ns, (.s []), (.s []), (.s [])]⟩,
    ⟨none, none, .store 16 (.t 9) (.t 23)⟩] none [1, 7, 9, 18, 19, 20])
  (.seq (.region [⟨(some 24), none, .fld 0 (.t 9)⟩,
    ⟨(some 25), none, .load none (.t 24)⟩,
    ⟨(some 26), none, .bin .eql (.t 25) (.c (.i .i64 5))⟩] none [1, 7, 9, 18, 19, 20, 26])
  (.cond (.t 26)
   (.region [⟨(some 27), none, .mov (.t 7)⟩,
     ⟨(some 28), none, .fld 12 (.t 9)⟩,
     ⟨(some 29), none, .load none (.t 28)⟩,
     ⟨(some 30), none, .idx 1 (.t 29) (.c (.i .i64 0))⟩,
     ⟨(some 31), none, .load none (.t 30)⟩,
     ⟨(some 32), none, .mov (.t 7)⟩,
     ⟨(some 33), none, .fld 12 (.t 9)⟩,
     ⟨(some 34), none, .load none (.t 33)⟩,
     ⟨(some 35), none, .idx 1 (.t 34) (.c (.i .i64 0))⟩,
     ⟨(some 36), none, .load none (.t 35)⟩,
     ⟨(some 37), none, .look 1 .ns false (.t 32) (.t 36)⟩,
     ⟨(some 38), none, .fld 13 (.t 9)⟩,
     ⟨(some 39), none, .load none (.t 38)⟩,
     ⟨(some 40), none, .bsl false T_string_0 1 1 [(.s [])] [(0, (.t 39))]⟩,
     ⟨(some 41), none, .apprp 41 T_string_0 1 (.t 37) (.t 40)⟩,
     ⟨none, none, .hins 1 (.t 27) (.t 31) (.t 41)⟩] (some ([5, 6, 7, 8, 9, 10, 11, 12, 13, 14, 0, 1, 2, 3, 4, 15], [])) [1, 7, 18, 19, 20])
   .skip))))
 (.region [⟨(some 42), none, .bin .add (.t 20) (.c (.i .i64 1))⟩,
   ⟨(some 20), none, .mov (.t 42)⟩] none [1, 7, 18, 19, 20]))))
/-- veilstone/roles.Above -/
def ir_roles_Above : AFun := ⟨2, [.tmp 4, .tmp 5], true, false,
 (.seq (.region [⟨(some 4), none, .asg (.c .ns)⟩,
   ⟨(some 5), none, .asg (.c (.i .i64 0))⟩] none [0, 1])
 (.seq (.seq (.region [⟨(some 10), none, .mov (.t 0)⟩,
   ⟨(some 11), none, .mov (.t 1)⟩,
   ⟨(some 12), none, .bsl false T_string_0 1 1 [(.s [])] [(0, (.t 11))]⟩,
   ⟨(some 13), none, .call (.c (.fn (.func F_roles_checkAll) [] [])) [(.t 10), (.t 12)]⟩,
   ⟨(some 6), none, .asg (.t 13)⟩] none [0, 1, 6])
 (.seq (.region [⟨(some 14), none, .mov (.t 6)⟩,
   ⟨(some 15), none, .bin .neq (.t 14) (.c (.i .i64 0))⟩] none [0, 1, 6, 15])
 (.cond (.t 15)
  (.seq (.region [⟨(some 16), none, .mov (.t 6)⟩,
    ⟨(some 4), none, .asg (.c .ns)⟩,
    ⟨(some 5), none, .asg (.t 16)⟩] none [4, 5])
  .ret)
  .skip)))
 (.seq (.region [⟨(some 17), none, .hmap⟩,
   ⟨(some 7), none, .asg (.t 17)⟩] none [0, 1, 7])
 (.seq (.seq (.region [⟨(some 18), none, .mov (.t 0)⟩,
   ⟨(some 19), none, .len 0 (.t 18)⟩,
   ⟨(some 20), none, .mov (.c (.i .i64 0))⟩] none [1, 7, 18, 19, 20])
 (.block 0
  (.loop [1, 7, 18, 19, 20] ir_roles_Above_L0)))
 (.seq (.region [⟨(some 43), none, .mov (.t 1)⟩,
   ⟨(some 44), none, .mov (.t 7)⟩,
   ⟨(some 45), none, .call (.c (.fn (.func F_roles_closure) [] [])) [(.t 43), (.t 44)]⟩,
   ⟨(some 46), none, .call (.c (.fn (.func F_maps_Keys_map_string_bool_string_bool) [] [])) [(.t 45)]⟩,
   ⟨(some 47), none, .call (.c (.fn (.func F_slices_Sorted_string) [] [])) [(.t 46)]⟩,
   ⟨(some 4), none, .asg (.t 47)⟩,
   ⟨(some 5), none, .asg (.c (.i .i64 0))⟩] none [4, 5])
 .ret)))))⟩

def ir_roles_checkAll_L0 : ACode :=
 (.seq (.region [⟨(some 17), none, .bin .lss (.t 16) (.t 15)⟩] none [14, 15, 16, 17])
 (.seq (.cond (.t 17)
  .skip
  (.exit 0))
 (.seq (.block 1
  (.seq (.region [⟨(some 18), none, .idx 1 (.t 14) (.t 16)⟩,
    ⟨(some 19), none, .load none (.t 18)⟩,
    ⟨(some 7), none, .asg (.t 19)⟩] none [7, 14, 15, 16])
  (.seq (.region [⟨(some 20), none, .mov (.t 7)⟩,
    ⟨(some 21), none, .call (.c (.fn (.func F_terms_CheckName) [] [])) [(.t 20)]⟩,
    ⟨(some 8), none, .asg (.t 21)⟩] none [8, 14, 15, 16])
  (.seq (.region [⟨(some 22), none, .mov (.t 8)⟩,
    ⟨(some 23), none, .bin .neq (.t 22) (.c (.i .i64 0))⟩] none [14, 15, 16, 23])
  (.cond (.t 23)
   (.seq (.region [⟨(some 4), none, .asg (.c (.i .i64 20))⟩] none [4])
   .ret)
   .skip)))))
 (.region [⟨(some 24), none, .bin .add (.t 16) (.c (.i .i64 1))⟩,
   ⟨(some 16), none, .mov (.t 24)⟩] none [14, 15, 16]))))
/-- veilstone/roles.checkAll -/
def ir_roles_checkAll : AFun := ⟨2, [.tmp 4], true, false,
 (.seq (.region [⟨(some 4), none, .asg (.c (.i .i64 0))⟩] none [0, 1])
 (.seq (.seq (.region [⟨(some 9), none, .mov (.t 0)⟩,
   ⟨(some 10), none, .call (.c (.fn (.func F_roles_check) [] [])) [(.t 9)]⟩,
   ⟨(some 5), none, .asg (.t 10)⟩] none [1, 5])
 (.seq (.region [⟨(some 11), none, .mov (.t 5)⟩,
   ⟨(some 12), none, .bin .neq (.t 11) (.c (.i .i64 0))⟩] none [1, 5, 12])
 (.cond (.t 12)
  (.seq (.region [⟨(some 13), none, .mov (.t 5)⟩,
    ⟨(some 4), none, .asg (.t 13)⟩] none [4])
  .ret)
  .skip)))
 (.seq (.seq (.region [⟨(some 14), none, .mov (.t 1)⟩,
   ⟨(some 15), none, .len 0 (.t 14)⟩,
   ⟨(some 16), none, .mov (.c (.i .i64 0))⟩] none [14, 15, 16])
 (.block 0
  (.loop [14, 15, 16] ir_roles_checkAll_L0)))
 (.seq (.region [⟨(some 4), none, .asg (.c (.i .i64 0))⟩] none [4])
 .ret))))⟩

def ir_roles_closure_L1 : ACode :=
 (.seq (.region [⟨(some 28), none, .bin .lss (.t 27) (.t 26)⟩] none [1, 5, 6, 25, 26, 27, 28])
 (.seq (.cond (.t 28)
  .skip
  (.exit 2))
 (.seq (.block 3
  (.seq (.region [⟨(some 29), none, .idx 1 (.t 25) (.t 27)⟩,
    ⟨(some 30), none, .load none (.t 29)⟩,
    ⟨(some 9), none, .asg (.t 30)⟩] none [1, 5, 6, 9, 25, 26, 27])
  (.seq (.region [⟨(some 31), none, .mov (.t 5)⟩,
    ⟨(some 32), none, .mov (.t 9)⟩,
    ⟨(some 33), none, .look 1 (.b false) false (.t 31) (.t 32)⟩,
    ⟨(some 34), none, .un .not (.t 33)⟩] none [1, 5, 6, 9, 25, 26, 27, 34])
  (.cond (.t 34)
   (.seq (.region [⟨(some 35), none, .mov (.t 5)⟩,
     ⟨(some 36), none, .mov (.t 9)⟩,
     ⟨none, none, .hins 1 (.t 35) (.t 36) (.c (.b true))⟩] none [1, 5, 6, 9, 25, 26, 27])
   (.region [⟨(some 37), none, .mov (.t 6)⟩,
     ⟨(some 38), none, .mov (.t 9)⟩,
     ⟨(some 39), none, .bsl false T_string_0 1 1 [(.s [])] [(0, (.t 38))]⟩,
     ⟨(some 40), none, .appk T_string_0 1 (.t 37) (.t 39)⟩,
     ⟨(some 6), none, .asg (.t 40)⟩] none [1, 5, 6, 25, 26, 27]))
   .skip))))
 (.region [⟨(some 41), none, .bin .add (.t 27) (.c (.i .i64 1))⟩,
   ⟨(some 27), none, .mov (.t 41)⟩] none [1, 5, 6, 25, 26, 27]))))
def ir_roles_closure_L0 : ACode :=
 (.seq (.seq (.region [⟨(some 15), none, .mov (.t 6)⟩,
   ⟨(some 16), none, .len 0 (.t 15)⟩,
   ⟨(some 17), none, .bin .gtr (.t 16) (.c (.i .i64 0))⟩] none [1, 5, 6, 17])
 (.cond (.t 17)
  .skip
  (.exit 0)))
 (.block 1
  (.seq (.region [⟨(some 18), none, .mov (.t 6)⟩,
    ⟨(some 19), none, .idx 1 (.t 18) (.c (.i .i64 0))⟩,
    ⟨(some 20), none, .load none (.t 19)⟩,
    ⟨(some 7), none, .asg (.t 20)⟩] none [1, 5, 6, 7])
  (.seq (.region [⟨(some 21), none, .mov (.t 6)⟩,
    ⟨(some 22), none, .slc 1 (.t 21) (some (.c (.i .i64 1))) none⟩,
    ⟨(some 6), none, .asg (.t 22)⟩] none [1, 5, 6, 7])
  (.seq (.region [⟨(some 23), none, .mov (.t 1)⟩,
    ⟨(some 24), none, .mov (.t 7)⟩,
    ⟨(some 25), none, .look 1 .ns false (.t 23) (.t 24)⟩,
    ⟨(some 26), none, .len 0 (.t 25)⟩,
    ⟨(some 27), none, .mov (.c (.i .i64 0))⟩] none [1, 5, 6, 25, 26, 27])
  (.block 2
   (.loop [1, 5, 6, 25, 26, 27] ir_roles_closure_L1)))))))
/-- veilstone/roles.closure -/
def ir_roles_closure : AFun := ⟨2, [.tmp 4], true, false,
 (.seq (.region [⟨(some 4), none, .asg (.c .nm)⟩] none [0, 1])
 (.seq (.region [⟨(some 10), none, .hmap⟩,
   ⟨(some 11), none, .mov (.t 0)⟩,
   ⟨none, none, .hins 1 (.t 10) (.t 11) (.c (.b true))⟩,
   ⟨(some 12), none, .mov (.t 10)⟩,
   ⟨(some 5), none, .asg (.t 12)⟩] none [0, 1, 5])
 (.seq (.seq (.region [⟨(some 13), none, .mov (.t 0)⟩,
   ⟨(some 14), none, .bsl true T_string_0 1 1 [(.s [])] [(0, (.t 13))]⟩,
   ⟨(some 6), none, .asgk T_string_0 1 (.t 14)⟩] none [1, 5, 6])
 (.block 0
  (.loop [1, 5, 6] ir_roles_closure_L0)))
 (.seq (.region [⟨(some 42), none, .mov (.t 5)⟩,
   ⟨(some 4), none, .asg (.t 42)⟩] none [4])
 .ret))))⟩

def ir_roles_Simple_L0 : ACode :=
 (.seq (.region [⟨(some 24), none, .bin .lss (.t 23) (.t 22)⟩] none [0, 1, 7, 21, 22, 23, 24])
 (.seq (.cond (.t 24)
  .skip
  (.exit 0))
 (.seq (.block 1
  (.seq (.region [⟨(some 25), none, .idx 16 (.t 21) (.t 23)⟩,
    ⟨(some 26), none, .load (some 16) (.t 25)⟩,
    ⟨(some 9), none, .lalloc [(.i .i64 0), (.b false), (.i .i64 0), (.s []), (.i .i64 0), (.i .i64 0), .ns, (.i .i64 0), (.s []), (.i .i64 0), (.i .i64 0), .ns, .ns, (.s []), (.s []), (.s [])]⟩,
    ⟨none, none, .store 16 (.t 9) (.t 26)⟩] none [0, 1, 7, 9, 21, 22, 23])
  (.seq (.region [⟨(some 27), none, .fld 0 (.t 9)⟩,
    ⟨(some 28), none, .load none (.t 27)⟩,
    ⟨(some 29), none, .bin .eql (.t 28) (.c (.i .i64 5))⟩] none [0, 1, 7, 9, 21, 22, 23, 29])
  (.cond (.t 29)
   (.region [⟨(some 30), none, .mov (.t 7)⟩,
     ⟨(some 31), none, .fld 13 (.t 9)⟩,
     ⟨(some 32), none, .load none (.t 31)⟩,
     ⟨(some 33), none, .mov (.t 7)⟩,
     ⟨(some 34), none, .fld 13 (.t 9)⟩,
     ⟨(some 35), none, .load none (.t 34)⟩,
     ⟨(some 36), none, .look 1 .ns false (.t 33) (.t 35)⟩,
     ⟨(some 37), none, .fld 12 (.t 9)⟩,
     ⟨(some 38), none, .load none (.t 37)⟩,
     ⟨(some 39), none, .idx 1 (.t 38) (.c (.i .i64 0))⟩,
     ⟨(some 40), none, .load none (.t 39)⟩,
     ⟨(some 41), none, .bsl false T_string_0 1 1 [(.s [])] [(0, (.t 40))]⟩,
     ⟨(some 42), none, .apprp 42 T_string_0 1 (.t 36) (.t 41)⟩,
     ⟨none, none, .hins 1 (.t 30) (.t 32) (.t 42)⟩] (some ([3, 4, 5, 6, 7, 8, 9, 10, 11, 12, 0, 1, 2, 13], [])) [0, 1, 7, 21, 22, 23])
   .skip))))
 (.region [⟨(some 43), none, .bin .add (.t 23) (.c (.i .i64 1))⟩,
   ⟨(some 23), none, .mov (.t 43)⟩] none [0, 1, 7, 21, 22, 23]))))
def ir_roles_Simple_L1 : ACode :=
 (.seq (.region [⟨(some 50), none, .bin .lss (.t 49) (.t 48)⟩] none [10, 47, 48, 49, 50])
 (.seq (.cond (.t 50)
  .skip
  (.exit 2))
 (.seq (.block 3
  (.seq (.region [⟨(some 51), none, .idx 16 (.t 47) (.t 49)⟩,
    ⟨(some 52), none, .load (some 16) (.t 51)⟩,
    ⟨(some 12), none, .lalloc [(.i .i64 0), (.b false), (.i .i64 0), (.s []), (.i .i64 0), (.i .i64 0), .ns, (.i .i64 0), (.s []), (.i .i64 0), (.i .i64 0), .ns, .ns, (.s []), (.s []), (.s [])]⟩,
    ⟨none, none, .store 16 (.t 12) (.t 52)⟩] none [10, 12, 47, 48, 49])
  (.seq (.region [⟨(some 53), none, .fld 0 (.t 12)⟩,
    ⟨(some 54), none, .load none (.t 53)⟩,
    ⟨(some 55), none, .bin .eql (.t 54) (.c (.i .i64 7))⟩,
    ⟨(some 56), none, .mov (.t 55)⟩,
    ⟨(some 57), some (56, false), .fld 0 (.t 12)⟩,
    ⟨(some 58), some (56, false), .load none (.t 57)⟩,
    ⟨(some 59), some (56, false), .bin .eql (.t 58) (.c (.i .i64 6))⟩,
    ⟨(some 60), none, .pick (.t 56) (.c (.b true)) (.t 59)⟩,
    ⟨(some 61), none, .mov (.t 60)⟩,
    ⟨(some 62), some (61, true), .mov (.t 10)⟩,
    ⟨(some 63), some (61, true), .fld 13 (.t 12)⟩,
    ⟨(some 64), some (61, true), .load none (.t 63)⟩,
    ⟨(some 65), some (61, true), .look 1 (.b false) false (.t 62) (.t 64)⟩,
    ⟨(some 66), none, .pick (.t 61) (.t 65) (.c (.b false))⟩] none [10, 47, 48, 49, 66])
  (.cond (.t 66)
   (.seq (.region [⟨(some 4), none, .asg (.c (.b false))⟩,
     ⟨(some 5), none, .asg (.c (.i .i64 0))⟩] none [4, 5])
   .ret)
   .skip))))
 (.region [⟨(some 67), none, .bin .add (.t 49) (.c (.i .i64 1))⟩,
   ⟨(some 49), none, .mov (.t 67)⟩] none [10, 47, 48, 49]))))
/-- veilstone/roles.Simple -/
def ir_roles_Simple : AFun := ⟨2, [.tmp 4, .tmp 5], true, false,
 (.seq (.region [⟨(some 4), none, .asg (.c (.b false))⟩,
   ⟨(some 5), none, .asg (.c (.i .i64 0))⟩] none [0, 1])
 (.seq (.seq (.region [⟨(some 13), none, .mov (.t 0)⟩,
   ⟨(some 14), none, .mov (.t 1)⟩,
   ⟨(some 15), none, .bsl false T_string_0 1 1 [(.s [])] [(0, (.t 14))]⟩,
   ⟨(some 16), none, .call (.c (.fn (.func F_roles_checkAll) [] [])) [(.t 13), (.t 15)]⟩,
   ⟨(some 6), none, .asg (.t 16)⟩] none [0, 1, 6])
 (.seq (.region [⟨(some 17), none, .mov (.t 6)⟩,
   ⟨(some 18), none, .bin .neq (.t 17) (.c (.i .i64 0))⟩] none [0, 1, 6, 18])
 (.cond (.t 18)
  (.seq (.region [⟨(some 19), none, .mov (.t 6)⟩,
    ⟨(some 4), none, .asg (.c (.b false))⟩,
    ⟨(some 5), none, .asg (.t 19)⟩] none [4, 5])
  .ret)
  .skip)))
 (.seq (.region [⟨(some 20), none, .hmap⟩,
   ⟨(some 7), none, .asg (.t 20)⟩] none [0, 1, 7])
 (.seq (.seq (.region [⟨(some 21), none, .mov (.t 0)⟩,
   ⟨(some 22), none, .len 0 (.t 21)⟩,
   ⟨(some 23), none, .mov (.c (.i .i64 0))⟩] none [0, 1, 7, 21, 22, 23])
 (.block 0
  (.loop [0, 1, 7, 21, 22, 23] ir_roles_Simple_L0)))
 (.seq (.region [⟨(some 44), none, .mov (.t 1)⟩,
   ⟨(some 45), none, .mov (.t 7)⟩,
   ⟨(some 46), none, .call (.c (.fn (.func F_roles_closure) [] [])) [(.t 44), (.t 45)]⟩,
   ⟨(some 10), none, .asg (.t 46)⟩] none [0, 10])
 (.seq (.seq (.region [⟨(some 47), none, .mov (.t 0)⟩,
   ⟨(some 48), none, .len 0 (.t 47)⟩,
   ⟨(some 49), none, .mov (.c (.i .i64 0))⟩] none [10, 47, 48, 49])
 (.block 2
  (.loop [10, 47, 48, 49] ir_roles_Simple_L1)))
 (.seq (.region [⟨(some 4), none, .asg (.c (.b true))⟩,
   ⟨(some 5), none, .asg (.c (.i .i64 0))⟩] none [4, 5])
 .ret)))))))⟩

/-- veilstone/roles.Word -/
def ir_roles_Word : AFun := ⟨3, [.tmp 6, .tmp 7], true, false,
 (.seq (.region [⟨(some 6), none, .asg (.c (.b false))⟩,
   ⟨(some 7), none, .asg (.c (.i .i64 0))⟩] none [0, 1, 2])
 (.seq (.seq (.region [⟨(some 10), none, .mov (.t 0)⟩,
   ⟨(some 11), none, .mov (.t 2)⟩,
   ⟨(some 12), none, .bsl true T_string_0 1 1 [(.s [])] [(0, (.t 11))]⟩,
   ⟨(some 13), none, .mov (.t 1)⟩,
   ⟨(some 14), none, .app T_string_0 1 (.t 12) (.t 13)⟩,
   ⟨(some 15), none, .call (.c (.fn (.func F_roles_checkAll) [] [])) [(.t 10), (.t 14)]⟩,
   ⟨(some 8), none, .asg (.t 15)⟩] none [0, 1, 2, 8])
 (.seq (.region [⟨(some 16), none, .mov (.t 8)⟩,
   ⟨(some 17), none, .bin .neq (.t 16) (.c (.i .i64 0))⟩] none [0, 1, 2, 8, 17])
 (.cond (.t 17)
  (.seq (.region [⟨(some 18), none, .mov (.t 8)⟩,
    ⟨(some 6), none, .asg (.c (.b false))⟩,
    ⟨(some 7), none, .asg (.t 18)⟩] none [6, 7])
  .ret)
  .skip)))
 (.seq (.seq (.region [⟨(some 19), none, .mov (.t 1)⟩,
   ⟨(some 20), none, .len 0 (.t 19)⟩,
   ⟨(some 21), none, .bin .gtr (.t 20) (.c (.i .i64 64))⟩] none [0, 1, 2, 21])
 (.cond (.t 21)
  (.seq (.region [⟨(some 6), none, .asg (.c (.b false))⟩,
    ⟨(some 7), none, .asg (.c (.i .i64 2))⟩] none [6, 7])
  .ret)
  .skip))
 (.seq (.region [⟨(some 22), none, .mov (.t 0)⟩,
   ⟨(some 23), none, .mov (.t 1)⟩,
   ⟨(some 24), none, .call (.c (.fn (.func F_roles_recognize) [] [])) [(.t 22), (.t 23)]⟩,
   ⟨(some 25), none, .mov (.t 2)⟩,
   ⟨(some 26), none, .look 1 .np false (.t 24) (.t 25)⟩,
   ⟨(some 9), none, .asg (.t 26)⟩] none [1, 9])
 (.seq (.region [⟨(some 27), none, .mov (.t 9)⟩,
   ⟨(some 28), none, .nileq true 3 (.t 27)⟩,
   ⟨(some 29), none, .mov (.t 28)⟩,
   ⟨(some 30), some (29, true), .mov (.t 9)⟩,
   ⟨(some 31), some (29, true), .mov (.t 1)⟩,
   ⟨(some 32), some (29, true), .len 0 (.t 31)⟩,
   ⟨(some 33), some (29, true), .nilchk (.t 30)⟩,
   ⟨(some 34), some (29, true), .idxa 65 65 (.t 33) (.c (.i .i64 0))⟩,
   ⟨(some 35), some (29, true), .idxa 65 1 (.t 34) (.t 32)⟩,
   ⟨(some 36), some (29, true), .load none (.t 35)⟩,
   ⟨(some 37), none, .pick (.t 29) (.t 36) (.c (.b false))⟩,
   ⟨(some 6), none, .asg (.t 37)⟩,
   ⟨(some 7), none, .asg (.c (.i .i64 0))⟩] none [6, 7])
 .ret)))))⟩

def ir_roles_recognize_L0 : ACode :=
 (.seq (.region [⟨(some 35), none, .bin .lss (.t 34) (.t 33)⟩] none [5, 6, 7, 8, 9, 32, 33, 34, 35])
 (.seq (.cond (.t 35)
  .skip
  (.exit 0))
 (.seq (.block 1
  (.seq (.region [⟨(some 36), none, .mov (.t 34)⟩,
    ⟨(some 37), none, .idx 1 (.t 32) (.t 34)⟩,
    ⟨(some 38), none, .load none (.t 37)⟩,
    ⟨(some 10), none, .asg (.t 36)⟩,
    ⟨(some 11), none, .asg (.t 38)⟩] none [5, 6, 7, 8, 9, 10, 11, 32, 33, 34])
  (.region [⟨(some 39), none, .mov (.t 8)⟩,
    ⟨(some 40), none, .mov (.t 11)⟩,
    ⟨(some 41), none, .mov (.t 10)⟩,
    ⟨(some 42), none, .mov (.t 10)⟩,
    ⟨(some 43), none, .bin .add (.t 42) (.c (.i .i64 1))⟩,
    ⟨(some 44), none, .call (.t 39) [(.t 40), (.t 41), (.t 43)]⟩] none [5, 6, 7, 8, 9, 32, 33, 34])))
 (.region [⟨(some 45), none, .bin .add (.t 34) (.c (.i .i64 1))⟩,
   ⟨(some 34), none, .mov (.t 45)⟩] none [5, 6, 7, 8, 9, 32, 33, 34]))))
def ir_roles_recognize_L2 : ACode :=
 (.seq (.seq (.region [⟨(some 53), none, .mov (.t 14)⟩,
   ⟨(some 54), none, .mov (.t 9)⟩,
   ⟨(some 55), none, .bin .leq (.t 53) (.t 54)⟩] none [5, 6, 7, 8, 9, 13, 14, 47, 48, 49, 55])
 (.cond (.t 55)
  .skip
  (.exit 4)))
 (.seq (.block 5
  (.region [⟨(some 58), none, .mov (.t 8)⟩,
    ⟨(some 59), none, .mov (.t 13)⟩,
    ⟨(some 60), none, .mov (.t 14)⟩,
    ⟨(some 61), none, .mov (.t 14)⟩,
    ⟨(some 62), none, .call (.t 58) [(.t 59), (.t 60), (.t 61)]⟩] none [5, 6, 7, 8, 9, 13, 14, 47, 48, 49]))
 (.region [⟨(some 56), none, .mov (.t 14)⟩,
   ⟨(some 57), none, .bin .add (.t 56) (.c (.i .i64 1))⟩,
   ⟨(some 14), none, .asg (.t 57)⟩] none [5, 6, 7, 8, 9, 13, 14, 47, 48, 49])))
def ir_roles_recognize_L1 : ACode :=
 (.seq (.region [⟨(some 50), none, .bin .lss (.t 49) (.t 48)⟩] none [5, 6, 7, 8, 9, 47, 48, 49, 50])
 (.seq (.cond (.t 50)
  .skip
  (.exit 2))
 (.seq (.block 3
  (.seq (.region [⟨(some 51), none, .idx 1 (.t 47) (.t 49)⟩,
    ⟨(some 52), none, .load none (.t 51)⟩,
    ⟨(some 13), none, .asg (.t 52)⟩] none [5, 6, 7, 8, 9, 13, 47, 48, 49])
  (.seq (.region [⟨(some 14), none, .asg (.c (.i .i64 0))⟩] none [5, 6, 7, 8, 9, 13, 14, 47, 48, 49])
  (.block 4
   (.loop [5, 6, 7, 8, 9, 13, 14, 47, 48, 49] ir_roles_recognize_L2)))))
 (.region [⟨(some 63), none, .bin .add (.t 49) (.c (.i .i64 1))⟩,
   ⟨(some 49), none, .mov (.t 63)⟩] none [5, 6, 7, 8, 9, 47, 48, 49]))))
def ir_roles_recognize_L4 : ACode :=
 (.seq (.region [⟨(some 85), none, .bin .lss (.t 84) (.t 83)⟩] none [5, 6, 7, 8, 9, 15, 82, 83, 84, 85])
 (.seq (.cond (.t 85)
  .skip
  (.exit 8))
 (.seq (.block 9
  (.seq (.region [⟨(some 86), none, .idx 1 (.t 82) (.t 84)⟩,
    ⟨(some 87), none, .load none (.t 86)⟩,
    ⟨(some 17), none, .asg (.t 87)⟩] none [5, 6, 7, 8, 9, 15, 17, 82, 83, 84])
  (.region [⟨(some 88), none, .mov (.t 8)⟩,
    ⟨(some 89), none, .mov (.t 17)⟩,
    ⟨(some 90), none, .fld 1 (.t 15)⟩,
    ⟨(some 91), none, .load none (.t 90)⟩,
    ⟨(some 92), none, .fld 2 (.t 15)⟩,
    ⟨(some 93), none, .load none (.t 92)⟩,
    ⟨(some 94), none, .call (.t 88) [(.t 89), (.t 91), (.t 93)]⟩] none [5, 6, 7, 8, 9, 15, 82, 83, 84])))
 (.region [⟨(some 95), none, .bin .add (.t 84) (.c (.i .i64 1))⟩,
   ⟨(some 84), none, .mov (.t 95)⟩] none [5, 6, 7, 8, 9, 15, 82, 83, 84]))))
def ir_roles_recognize_L6 : ACode :=
 (.seq (.seq (.region [⟨(some 114), none, .mov (.t 21)⟩,
   ⟨(some 115), none, .mov (.t 9)⟩,
   ⟨(some 116), none, .bin .leq (.t 114) (.t 115)⟩] none [5, 6, 7, 8, 9, 15, 19, 20, 21, 100, 101, 102, 116])
 (.cond (.t 116)
  .skip
  (.exit 12)))
 (.seq (.block 13
  (.seq (.region [⟨(some 119), none, .mov (.t 20)⟩,
    ⟨(some 120), none, .fld 2 (.t 15)⟩,
    ⟨(some 121), none, .load none (.t 120)⟩,
    ⟨(some 122), none, .mov (.t 21)⟩,
    ⟨(some 123), none, .nilchk (.t 119)⟩,
    ⟨(some 124), none, .idxa 65 65 (.t 123) (.t 121)⟩,
    ⟨(some 125), none, .idxa 65 1 (.t 124) (.t 122)⟩,
    ⟨(some 126), none, .load none (.t 125)⟩] (some ([0, 1, 2, 3, 4, 5, 6, 7], [])) [5, 6, 7, 8, 9, 15, 19, 20, 21, 100, 101, 102, 126])
  (.cond (.t 126)
   (.region [⟨(some 127), none, .mov (.t 8)⟩,
     ⟨(some 128), none, .fld 2 (.t 19)⟩,
     ⟨(some 129), none, .load none (.t 128)⟩,
     ⟨(some 130), none, .fld 1 (.t 15)⟩,
     ⟨(some 131), none, .load none (.t 130)⟩,
     ⟨(some 132), none, .mov (.t 21)⟩,
     ⟨(some 133), none, .call (.t 127) [(.t 129), (.t 131), (.t 132)]⟩] none [5, 6, 7, 8, 9, 15, 19, 20, 21, 100, 101, 102])
   .skip)))
 (.region [⟨(some 117), none, .mov (.t 21)⟩,
   ⟨(some 118), none, .bin .add (.t 117) (.c (.i .i64 1))⟩,
   ⟨(some 21), none, .asg (.t 118)⟩] none [5, 6, 7, 8, 9, 15, 19, 20, 21, 100, 101, 102])))
def ir_roles_recognize_L5 : ACode :=
 (.seq (.region [⟨(some 103), none, .bin .lss (.t 102) (.t 101)⟩] none [5, 6, 7, 8, 9, 15, 100, 101, 102, 103])
 (.seq (.cond (.t 103)
  .skip
  (.exit 10))
 (.seq (.block 11
  (.seq (.region [⟨(some 104), none, .idx 3 (.t 100) (.t 102)⟩,
    ⟨(some 105), none, .load (some 3) (.t 104)⟩,
    ⟨(some 19), none, .lalloc [(.s []), (.s []), (.s [])]⟩,
    ⟨none, none, .store 3 (.t 19) (.t 105)⟩] none [5, 6, 7, 8, 9, 15, 19, 100, 101, 102])
  (.seq (.region [⟨(some 106), none, .load none (.t 6)⟩,
    ⟨(some 107), none, .fld 1 (.t 19)⟩,
    ⟨(some 108), none, .load none (.t 107)⟩,
    ⟨(some 109), none, .look 1 .np false (.t 106) (.t 108)⟩,
    ⟨(some 20), none, .asg (.t 109)⟩] none [5, 6, 7, 8, 9, 15, 19, 20, 100, 101, 102])
  (.seq (.region [⟨(some 110), none, .mov (.t 20)⟩,
    ⟨(some 111), none, .nileq true 3 (.t 110)⟩] none [5, 6, 7, 8, 9, 15, 19, 20, 100, 101, 102, 111])
  (.cond (.t 111)
   (.seq (.region [⟨(some 112), none, .fld 2 (.t 15)⟩,
     ⟨(some 113), none, .load none (.t 112)⟩,
     ⟨(some 21), none, .asg (.t 113)⟩] none [5, 6, 7, 8, 9, 15, 19, 20, 21, 100, 101, 102])
   (.block 12
    (.loop [5, 6, 7, 8, 9, 15, 19, 20, 21, 100, 101, 102] ir_roles_recognize_L6)))
   .skip)))))
 (.region [⟨(some 134), none, .bin .add (.t 102) (.c (.i .i64 1))⟩,
   ⟨(some 102), none, .mov (.t 134)⟩] none [5, 6, 7, 8, 9, 15, 100, 101, 102]))))
def ir_roles_recognize_L8 : ACode :=
 (.seq (.seq (.region [⟨(some 151), none, .mov (.t 25)⟩,
   ⟨(some 152), none, .fld 1 (.t 15)⟩,
   ⟨(some 153), none, .load none (.t 152)⟩,
   ⟨(some 154), none, .bin .leq (.t 151) (.t 153)⟩] none [5, 6, 7, 8, 9, 15, 23, 24, 25, 139, 140, 141, 154])
 (.cond (.t 154)
  .skip
  (.exit 16)))
 (.seq (.block 17
  (.seq (.region [⟨(some 157), none, .mov (.t 24)⟩,
    ⟨(some 158), none, .mov (.t 25)⟩,
    ⟨(some 159), none, .fld 1 (.t 15)⟩,
    ⟨(some 160), none, .load none (.t 159)⟩,
    ⟨(some 161), none, .nilchk (.t 157)⟩,
    ⟨(some 162), none, .idxa 65 65 (.t 161) (.t 158)⟩,
    ⟨(some 163), none, .idxa 65 1 (.t 162) (.t 160)⟩,
    ⟨(some 164), none, .load none (.t 163)⟩] (some ([0, 1, 2, 3, 4, 5, 6, 7], [])) [5, 6, 7, 8, 9, 15, 23, 24, 25, 139, 140, 141, 164])
  (.cond (.t 164)
   (.region [⟨(some 165), none, .mov (.t 8)⟩,
     ⟨(some 166), none, .fld 2 (.t 23)⟩,
     ⟨(some 167), none, .load none (.t 166)⟩,
     ⟨(some 168), none, .mov (.t 25)⟩,
     ⟨(some 169), none, .fld 2 (.t 15)⟩,
     ⟨(some 170), none, .load none (.t 169)⟩,
     ⟨(some 171), none, .call (.t 165) [(.t 167), (.t 168), (.t 170)]⟩] none [5, 6, 7, 8, 9, 15, 23, 24, 25, 139, 140, 141])
   .skip)))
 (.region [⟨(some 155), none, .mov (.t 25)⟩,
   ⟨(some 156), none, .bin .add (.t 155) (.c (.i .i64 1))⟩,
   ⟨(some 25), none, .asg (.t 156)⟩] none [5, 6, 7, 8, 9, 15, 23, 24, 25, 139, 140, 141])))
def ir_roles_recognize_L7 : ACode :=
 (.seq (.region [⟨(some 142), none, .bin .lss (.t 141) (.t 140)⟩] none [5, 6, 7, 8, 9, 15, 139, 140, 141, 142])
 (.seq (.cond (.t 142)
  .skip
  (.exit 14))
 (.seq (.block 15
  (.seq (.region [⟨(some 143), none, .idx 3 (.t 139) (.t 141)⟩,
    ⟨(some 144), none, .load (some 3) (.t 143)⟩,
    ⟨(some 23), none, .lalloc [(.s []), (.s []), (.s [])]⟩,
    ⟨none, none, .store 3 (.t 23) (.t 144)⟩] none [5, 6, 7, 8, 9, 15, 23, 139, 140, 141])
  (.seq (.region [⟨(some 145), none, .load none (.t 6)⟩,
    ⟨(some 146), none, .fld 0 (.t 23)⟩,
    ⟨(some 147), none, .load none (.t 146)⟩,
    ⟨(some 148), none, .look 1 .np false (.t 145) (.t 147)⟩,
    ⟨(some 24), none, .asg (.t 148)⟩] none [5, 6, 7, 8, 9, 15, 23, 24, 139, 140, 141])
  (.seq (.region [⟨(some 149), none, .mov (.t 24)⟩,
    ⟨(some 150), none, .nileq true 3 (.t 149)⟩] none [5, 6, 7, 8, 9, 15, 23, 24, 139, 140, 141, 150])
  (.cond (.t 150)
   (.seq (.region [⟨(some 25), none, .asg (.c (.i .i64 0))⟩] none [5, 6, 7, 8, 9, 15, 23, 24, 25, 139, 140, 141])
   (.block 16
    (.loop [5, 6, 7, 8, 9, 15, 23, 24, 25, 139, 140, 141] ir_roles_recognize_L8)))
   .skip)))))
 (.region [⟨(some 172), none, .bin .add (.t 141) (.c (.i .i64 1))⟩,
   ⟨(some 141), none, .mov (.t 172)⟩] none [5, 6, 7, 8, 9, 15, 139, 140, 141]))))
def ir_roles_recognize_L3 : ACode :=
 (.seq (.seq (.region [⟨(some 64), none, .load none (.t 7)⟩,
   ⟨(some 65), none, .len 0 (.t 64)⟩,
   ⟨(some 66), none, .bin .gtr (.t 65) (.c (.i .i64 0))⟩] none [5, 6, 7, 8, 9, 66])
 (.cond (.t 66)
  .skip
  (.exit 6)))
 (.block 7
  (.seq (.region [⟨(some 67), none, .load none (.t 7)⟩,
    ⟨(some 68), none, .load none (.t 7)⟩,
    ⟨(some 69), none, .len 0 (.t 68)⟩,
    ⟨(some 70), none, .bin .sub (.t 69) (.c (.i .i64 1))⟩,
    ⟨(some 71), none, .idx 3 (.t 67) (.t 70)⟩,
    ⟨(some 72), none, .load (some 3) (.t 71)⟩,
    ⟨(some 15), none, .lalloc [(.s []), (.i .i64 0), (.i .i64 0)]⟩,
    ⟨none, none, .store 3 (.t 15) (.t 72)⟩] none [5, 6, 7, 8, 9, 15])
  (.seq (.region [⟨(some 73), none, .load none (.t 7)⟩,
    ⟨(some 74), none, .load none (.t 7)⟩,
    ⟨(some 75), none, .len 0 (.t 74)⟩,
    ⟨(some 76), none, .bin .sub (.t 75) (.c (.i .i64 1))⟩,
    ⟨(some 77), none, .slc 3 (.t 73) none (some (.t 76))⟩,
    ⟨none, none, .store 1 (.t 7) (.t 77)⟩] none [5, 6, 7, 8, 9, 15])
  (.seq (.seq (.region [⟨(some 78), none, .fld 0 (.t 5)⟩,
    ⟨(some 79), none, .load none (.t 78)⟩,
    ⟨(some 80), none, .fld 0 (.t 15)⟩,
    ⟨(some 81), none, .load none (.t 80)⟩,
    ⟨(some 82), none, .look 1 .ns false (.t 79) (.t 81)⟩,
    ⟨(some 83), none, .len 0 (.t 82)⟩,
    ⟨(some 84), none, .mov (.c (.i .i64 0))⟩] none [5, 6, 7, 8, 9, 15, 82, 83, 84])
  (.block 8
   (.loop [5, 6, 7, 8, 9, 15, 82, 83, 84] ir_roles_recognize_L4)))
  (.seq (.seq (.region [⟨(some 96), none, .fld 1 (.t 5)⟩,
    ⟨(some 97), none, .load none (.t 96)⟩,
    ⟨(some 98), none, .fld 0 (.t 15)⟩,
    ⟨(some 99), none, .load none (.t 98)⟩,
    ⟨(some 100), none, .look 1 .ns false (.t 97) (.t 99)⟩,
    ⟨(some 101), none, .len 0 (.t 100)⟩,
    ⟨(some 102), none, .mov (.c (.i .i64 0))⟩] none [5, 6, 7, 8, 9, 15, 100, 101, 102])
  (.block 10
   (.loop [5, 6, 7, 8, 9, 15, 100, 101, 102] ir_roles_recognize_L5)))
  (.seq (.region [⟨(some 135), none, .fld 2 (.t 5)⟩,
    ⟨(some 136), none, .load none (.t 135)⟩,
    ⟨(some 137), none, .fld 0 (.t 15)⟩,
    ⟨(some 138), none, .load none (.t 137)⟩,
    ⟨(some 139), none, .look 1 .ns false (.t 136) (.t 138)⟩,
    ⟨(some 140), none, .len 0 (.t 139)⟩,
    ⟨(some 141), none, .mov (.c (.i .i64 0))⟩] none [5, 6, 7, 8, 9, 15, 139, 140, 141])
  (.block 14
   (.loop [5, 6, 7, 8, 9, 15, 139, 140, 141] ir_roles_recognize_L7)))))))))
/-- veilstone/roles.recognize -/
def ir_roles_recognize : AFun := ⟨2, [.tmp 4], false, false,
 (.seq (.region [⟨(some 4), none, .asg (.c .nm)⟩] none [0, 1])
 (.seq (.region [⟨(some 26), none, .mov (.t 0)⟩,
   ⟨(some 27), none, .call (.c (.fn (.func F_roles_newGrammar) [] [])) [(.t 26)]⟩,
   ⟨(some 5), none, .lalloc [.nm, .nm, .nm, .ns]⟩,
   ⟨none, none, .store 4 (.t 5) (.t 27)⟩] none [1, 5])
 (.seq (.region [⟨(some 28), none, .hmap⟩,
   ⟨(some 6), none, .halloc [.nm]⟩,
   ⟨none, none, .store 1 (.t 6) (.t 28)⟩] none [1, 5, 6])
 (.seq (.region [⟨(some 7), none, .halloc [.ns]⟩] none [1, 5, 6, 7])
 (.seq (.region [⟨(some 29), none, .mkfn (.func F_roles_recognize_1) [] [(.t 6), (.t 7)]⟩,
   ⟨(some 8), none, .asg (.t 29)⟩] none [1, 5, 6, 7, 8])
 (.seq (.region [⟨(some 30), none, .mov (.t 1)⟩,
   ⟨(some 31), none, .len 0 (.t 30)⟩,
   ⟨(some 9), none, .asg (.t 31)⟩] none [1, 5, 6, 7, 8, 9])
 (.seq (.seq (.region [⟨(some 32), none, .mov (.t 1)⟩,
   ⟨(some 33), none, .len 0 (.t 32)⟩,
   ⟨(some 34), none, .mov (.c (.i .i64 0))⟩] none [5, 6, 7, 8, 9, 32, 33, 34])
 (.block 0
  (.loop [5, 6, 7, 8, 9, 32, 33, 34] ir_roles_recognize_L0)))
 (.seq (.seq (.region [⟨(some 46), none, .fld 3 (.t 5)⟩,
   ⟨(some 47), none, .load none (.t 46)⟩,
   ⟨(some 48), none, .len 0 (.t 47)⟩,
   ⟨(some 49), none, .mov (.c (.i .i64 0))⟩] none [5, 6, 7, 8, 9, 47, 48, 49])
 (.block 2
  (.loop [5, 6, 7, 8, 9, 47, 48, 49] ir_roles_recognize_L1)))
 (.seq (.block 6
  (.loop [5, 6, 7, 8, 9] ir_roles_recognize_L3))
 (.seq (.region [⟨(some 173), none, .load none (.t 6)⟩,
   ⟨(some 4), none, .asg (.t 173)⟩] none [4])
 .ret))))))))))⟩

def ir_roles_newGrammar_L1 : ACode :=
 (.seq (.seq (.region [⟨(some 52), none, .mov (.t 7)⟩,
   ⟨(some 53), none, .fld 12 (.t 6)⟩,
   ⟨(some 54), none, .load none (.t 53)⟩,
   ⟨(some 55), none, .len 0 (.t 54)⟩,
   ⟨(some 56), none, .bin .lss (.t 52) (.t 55)⟩] none [2, 3, 4, 6, 7, 14, 15, 16, 56])
 (.cond (.t 56)
  .skip
  (.exit 3)))
 (.seq (.block 4
  (.seq (.region [⟨(some 59), none, .fld 12 (.t 6)⟩,
    ⟨(some 60), none, .load none (.t 59)⟩,
    ⟨(some 61), none, .mov (.t 7)⟩,
    ⟨(some 62), none, .slc 1 (.t 60) none (some (.t 61))⟩,
    ⟨(some 63), none, .call (.c (.fn (.func F_strings_Join) [] [])) [(.t 62), (.c (.s [46]))]⟩,
    ⟨(some 64), none, .fld 12 (.t 6)⟩,
    ⟨(some 65), none, .load none (.t 64)⟩,
    ⟨(some 66), none, .mov (.t 7)⟩,
    ⟨(some 67), none, .idx 1 (.t 65) (.t 66)⟩,
    ⟨(some 68), none, .load none (.t 67)⟩,
    ⟨(some 69), none, .fld 12 (.t 6)⟩,
    ⟨(some 70), none, .load none (.t 69)⟩,
    ⟨(some 71), none, .mov (.t 7)⟩,
    ⟨(some 72), none, .bin .add (.t 71) (.c (.i .i64 1))⟩,
    ⟨(some 73), none, .slc 1 (.t 70) none (some (.t 72))⟩,
    ⟨(some 74), none, .call (.c (.fn (.func F_strings_Join) [] [])) [(.t 73), (.c (.s [46]))]⟩,
    ⟨(some 75), none, .build [(.s []), (.s []), (.s [])] [(0, 1, (.t 63)), (1, 1, (.t 68)), (2, 1, (.t 74))]⟩,
    ⟨(some 8), none, .lallocp 8 [(.s []), (.s []), (.s [])]⟩,
    ⟨none, none, .store 3 (.t 8) (.t 75)⟩] (some ([0, 1, 2, 3, 4, 5, 6, 7, 8, 9, 10, 11, 12, 13, 14, 15, 16, 17, 18], [])) [2, 3, 4, 6, 7, 8, 14, 15, 16])
  (.seq (.seq (.region [⟨(some 76), none, .mov (.t 7)⟩,
    ⟨(some 77), none, .fld 12 (.t 6)⟩,
    ⟨(some 78), none, .load none (.t 77)⟩,
    ⟨(some 79), none, .len 0 (.t 78)⟩,
    ⟨(some 80), none, .bin .sub (.t 79) (.c (.i .i64 1))⟩,
    ⟨(some 81), none, .bin .eql (.t 76) (.t 80)⟩] none [2, 3, 4, 6, 7, 8, 14, 15, 16, 81])
  (.cond (.t 81)
   (.region [⟨(some 82), none, .fld 13 (.t 6)⟩,
     ⟨(some 83), none, .load none (.t 82)⟩,
     ⟨(some 84), none, .fld 2 (.t 8)⟩,
     ⟨none, none, .store 1 (.t 84) (.t 83)⟩] none [2, 3, 4, 6, 7, 8, 14, 15, 16])
   .skip))
  (.seq (.region [⟨(some 85), none, .mov (.t 4)⟩,
    ⟨(some 86), none, .load (some 3) (.t 8)⟩,
    ⟨(some 87), none, .look 6 (.b false) false (.t 85) (.t 86)⟩,
    ⟨(some 88), none, .un .not (.t 87)⟩] none [2, 3, 4, 6, 7, 8, 14, 15, 16, 88])
  (.cond (.t 88)
   (.seq (.region [⟨(some 89), none, .mov (.t 4)⟩,
     ⟨(some 90), none, .load (some 3) (.t 8)⟩,
     ⟨none, none, .hins 6 (.t 89) (.t 90) (.c (.b true))⟩] none [2, 3, 4, 6, 7, 8, 14, 15, 16])
   (.seq (.region [⟨(some 91), none, .fld 1 (.t 3)⟩,
     ⟨(some 92), none, .load none (.t 91)⟩,
     ⟨(some 93), none, .fld 0 (.t 8)⟩,
     ⟨(some 94), none, .load none (.t 93)⟩,
     ⟨(some 95), none, .fld 1 (.t 3)⟩,
     ⟨(some 96), none, .load none (.t 95)⟩,
     ⟨(some 97), none, .fld 0 (.t 8)⟩,
     ⟨(some 98), none, .load none (.t 97)⟩,
     ⟨(some 99), none, .look 1 .ns false (.t 96) (.t 98)⟩,
     ⟨(some 100), none, .load (some 3) (.t 8)⟩,
     ⟨(some 101), none, .bsl false T_roles_rule_1 3 1 [(.s []), (.s []), (.s [])] [(0, (.t 100))]⟩,
     ⟨(some 102), none, .apprp 102 T_roles_rule_1 3 (.t 99) (.t 101)⟩,
     ⟨none, none, .hins 1 (.t 92) (.t 94) (.t 102)⟩] (some ([4, 5, 6, 7, 8, 9, 10, 11, 0, 1, 2, 3, 12], [])) [2, 3, 4, 6, 7, 8, 14, 15, 16])
   (.region [⟨(some 103), none, .fld 2 (.t 3)⟩,
     ⟨(some 104), none, .load none (.t 103)⟩,
     ⟨(some 105), none, .fld 1 (.t 8)⟩,
     ⟨(some 106), none, .load none (.t 105)⟩,
     ⟨(some 107), none, .fld 2 (.t 3)⟩,
     ⟨(some 108), none, .load none (.t 107)⟩,
     ⟨(some 109), none, .fld 1 (.t 8)⟩,
     ⟨(some 110), none, .load none (.t 109)⟩,
     ⟨(some 111), none, .look 1 .ns false (.t 108) (.t 110)⟩,
     ⟨(some 112), none, .load (some 3) (.t 8)⟩,
     ⟨(some 113), none, .bsl false T_roles_rule_1 3 1 [(.s []), (.s []), (.s [])] [(0, (.t 112))]⟩,
     ⟨(some 114), none, .apprp 114 T_roles_rule_1 3 (.t 111) (.t 113)⟩,
     ⟨none, none, .hins 1 (.t 104) (.t 106) (.t 114)⟩] (some ([4, 5, 6, 7, 8, 9, 10, 11, 0, 1, 2, 3, 12], [])) [2, 3, 4, 6, 7, 14, 15, 16])))
   .skip)))))
 (.region [⟨(some 57), none, .mov (.t 7)⟩,
   ⟨(some 58), none, .bin .add (.t 57) (.c (.i .i64 1))⟩,
   ⟨(some 7), none, .asg (.t 58)⟩] none [2, 3, 4, 6, 7, 14, 15, 16])))
def ir_roles_newGrammar_L0 : ACode :=
 (.seq (.region [⟨(some 17), none, .bin .lss (.t 16) (.t 15)⟩] none [2, 3, 4, 14, 15, 16, 17])
 (.seq (.cond (.t 17)
  .skip
  (.exit 0))
 (.seq (.block 1
  (.seq (.region [⟨(some 18), none, .idx 16 (.t 14) (.t 16)⟩,
    ⟨(some 19), none, .load (some 16) (.t 18)⟩,
    ⟨(some 6), none, .lalloc [(.i .i64 0), (.b false), (.i .i64 0), (.s []), (.i .i64 0), (.i .i64 0), .ns, (.i .i64 0), (.s []), (.i .i64 0), (.i .i64 0), .ns, .ns, (.s []), (.s []), (.s [])]⟩,
    ⟨none, none, .store 16 (.t 6) (.t 19)⟩] none [2, 3, 4, 6, 14, 15, 16])
  (.seq (.region [⟨(some 20), none, .fld 0 (.t 6)⟩,
    ⟨(some 21), none, .load none (.t 20)⟩] none [2, 3, 4, 6, 14, 15, 16, 21])
  (.block 2
   (.seq (.region [⟨(some 23), none, .bin .eql (.t 21) (.c (.i .i64 5))⟩,
     ⟨(some 22), none, .asg (.t 23)⟩] none [2, 3, 4, 6, 14, 15, 16, 21, 22])
   (.cond (.t 22)
    (.region [⟨(some 24), none, .fld 0 (.t 3)⟩,
      ⟨(some 25), none, .load none (.t 24)⟩,
      ⟨(some 26), none, .fld 12 (.t 6)⟩,
      ⟨(some 27), none, .load none (.t 26)⟩,
      ⟨(some 28), none, .idx 1 (.t 27) (.c (.i .i64 0))⟩,
      ⟨(some 29), none, .load none (.t 28)⟩,
      ⟨(some 30), none, .fld 0 (.t 3)⟩,
      ⟨(some 31), none, .load none (.t 30)⟩,
      ⟨(some 32), none, .fld 12 (.t 6)⟩,
      ⟨(some 33), none, .load none (.t 32)⟩,
      ⟨(some 34), none, .idx 1 (.t 33) (.c (.i .i64 0))⟩,
      ⟨(some 35), none, .load none (.t 34)⟩,
      ⟨(some 36), none, .look 1 .ns false (.t 31) (.t 35)⟩,
      ⟨(some 37), none, .fld 13 (.t 6)⟩,
      ⟨(some 38), none, .load none (.t 37)⟩,
      ⟨(some 39), none, .bsl false T_string_0 1 1 [(.s [])] [(0, (.t 38))]⟩,
      ⟨(some 40), none, .apprp 40 T_string_0 1 (.t 36) (.t 39)⟩,
      ⟨none, none, .hins 1 (.t 25) (.t 29) (.t 40)⟩] (some ([6, 7, 8, 9, 10, 11, 12, 13, 14, 15, 16, 0, 1, 2, 3, 4, 5, 17], [])) [2, 3, 4, 14, 15, 16])
    (.seq (.region [⟨(some 42), none, .bin .eql (.t 21) (.c (.i .i64 7))⟩,
      ⟨(some 41), none, .asg (.t 42)⟩] none [2, 3, 4, 6, 14, 15, 16, 21, 41])
    (.cond (.t 41)
     (.region [⟨(some 43), none, .fld 3 (.t 3)⟩,
       ⟨(some 44), none, .load none (.t 43)⟩,
       ⟨(some 45), none, .fld 13 (.t 6)⟩,
       ⟨(some 46), none, .load none (.t 45)⟩,
       ⟨(some 47), none, .bsl false T_string_0 1 1 [(.s [])] [(0, (.t 46))]⟩,
       ⟨(some 48), none, .appr T_string_0 1 (.t 44) (.t 47)⟩,
       ⟨(some 49), none, .fld 3 (.t 3)⟩,
       ⟨none, none, .store 1 (.t 49) (.t 48)⟩] none [2, 3, 4, 14, 15, 16])
     (.seq (.region [⟨(some 51), none, .bin .eql (.t 21) (.c (.i .i64 6))⟩,
       ⟨(some 50), none, .asg (.t 51)⟩] none [2, 3, 4, 6, 14, 15, 16, 50])
     (.cond (.t 50)
      (.seq (.region [⟨(some 7), none, .asg (.c (.i .i64 1))⟩] none [2, 3, 4, 6, 7, 14, 15, 16])
      (.block 3
       (.loop [2, 3, 4, 6, 7, 14, 15, 16] ir_roles_newGrammar_L1)))
      .skip))))))))))
 (.region [⟨(some 115), none, .bin .add (.t 16) (.c (.i .i64 1))⟩,
   ⟨(some 16), none, .mov (.t 115)⟩] none [2, 3, 4, 14, 15, 16]))))
/-- veilstone/roles.newGrammar -/
def ir_roles_newGrammar : AFun := ⟨1, [.cell 2 (some 4)], true, false,
 (.seq (.region [⟨(some 2), none, .lalloc [.nm, .nm, .nm, .ns]⟩] none [0, 2])
 (.seq (.region [⟨(some 9), none, .hmap⟩,
   ⟨(some 10), none, .hmap⟩,
   ⟨(some 11), none, .hmap⟩,
   ⟨(some 12), none, .build [.nm, .nm, .nm, .ns] [(0, 1, (.t 9)), (1, 1, (.t 10)), (2, 1, (.t 11))]⟩,
   ⟨(some 3), none, .lalloc [.nm, .nm, .nm, .ns]⟩,
   ⟨none, none, .store 4 (.t 3) (.t 12)⟩] none [0, 2, 3])
 (.seq (.region [⟨(some 13), none, .hmap⟩,
   ⟨(some 4), none, .asg (.t 13)⟩] none [0, 2, 3, 4])
 (.seq (.seq (.region [⟨(some 14), none, .mov (.t 0)⟩,
   ⟨(some 15), none, .len 0 (.t 14)⟩,
   ⟨(some 16), none, .mov (.c (.i .i64 0))⟩] none [2, 3, 4, 14, 15, 16])
 (.block 0
  (.loop [2, 3, 4, 14, 15, 16] ir_roles_newGrammar_L0)))
 (.seq (.region [⟨(some 116), none, .load (some 4) (.t 3)⟩,
   ⟨none, none, .store 4 (.t 2) (.t 116)⟩] none [2])
 .ret)))))⟩

/-- veilstone/roles.recognize$1 -/
def ir_roles_recognize_1 : AFun := ⟨5, [], false, true,
 (.seq (.seq (.region [⟨(some 8), none, .load none (.t 3)⟩,
   ⟨(some 9), none, .mov (.t 0)⟩,
   ⟨(some 10), none, .look 1 .np false (.t 8) (.t 9)⟩,
   ⟨(some 11), none, .nileq false 3 (.t 10)⟩] none [0, 1, 2, 3, 4, 11])
 (.cond (.t 11)
  (.region [⟨(some 12), none, .load none (.t 3)⟩,
    ⟨(some 13), none, .mov (.t 0)⟩,
    ⟨(some 14), none, .halloc (List.replicate 4225 (.b false))⟩,
    ⟨none, none, .hins 1 (.t 12) (.t 13) (.t 14)⟩] none [0, 1, 2, 3, 4])
  .skip))
 (.seq (.region [⟨(some 15), none, .load none (.t 3)⟩,
   ⟨(some 16), none, .mov (.t 0)⟩,
   ⟨(some 17), none, .look 1 .np false (.t 15) (.t 16)⟩,
   ⟨(some 18), none, .mov (.t 1)⟩,
   ⟨(some 19), none, .mov (.t 2)⟩,
   ⟨(some 20), none, .nilchk (.t 17)⟩,
   ⟨(some 21), none, .idxa 65 65 (.t 20) (.t 18)⟩,
   ⟨(some 22), none, .idxa 65 1 (.t 21) (.t 19)⟩,
   ⟨(some 23), none, .load none (.t 22)⟩,
   ⟨(some 24), none, .un .not (.t 23)⟩] none [0, 1, 2, 3, 4, 24])
 (.cond (.t 24)
  (.seq (.region [⟨(some 25), none, .load none (.t 3)⟩,
    ⟨(some 26), none, .mov (.t 0)⟩,
    ⟨(some 27), none, .look 1 .np false (.t 25) (.t 26)⟩,
    ⟨(some 28), none, .mov (.t 1)⟩,
    ⟨(some 29), none, .mov (.t 2)⟩,
    ⟨(some 30), none, .nilchk (.t 27)⟩,
    ⟨(some 31), none, .idxa 65 65 (.t 30) (.t 28)⟩,
    ⟨(some 32), none, .idxa 65 1 (.t 31) (.t 29)⟩,
    ⟨none, none, .store 1 (.t 32) (.c (.b true))⟩] none [0, 1, 2, 4])
  (.region [⟨(some 33), none, .load none (.t 4)⟩,
    ⟨(some 34), none, .mov (.t 0)⟩,
    ⟨(some 35), none, .mov (.t 1)⟩,
    ⟨(some 36), none, .mov (.t 2)⟩,
    ⟨(some 37), none, .build [(.s []), (.i .i64 0), (.i .i64 0)] [(0, 1, (.t 34)), (1, 1, (.t 35)), (2, 1, (.t 36))]⟩,
    ⟨(some 38), none, .bsl false T_roles_item_1 3 1 [(.s []), (.i .i64 0), (.i .i64 0)] [(0, (.t 37))]⟩,
    ⟨(some 39), none, .appk T_roles_item_1 3 (.t 33) (.t 38)⟩,
    ⟨none, none, .store 1 (.t 4) (.t 39)⟩] none []))
  .skip)))⟩

def ir_roles_Compose_L1 : ACode :=
 (.seq (.region [⟨(some 48), none, .bin .lss (.t 47) (.t 46)⟩] none [0, 1, 2, 6, 9, 29, 30, 31, 45, 46, 47, 48])
 (.seq (.cond (.t 48)
  .skip
  (.exit 3))
 (.seq (.block 4
  (.seq (.region [⟨(some 49), none, .idx 1 (.t 45) (.t 47)⟩,
    ⟨(some 50), none, .load none (.t 49)⟩,
    ⟨(some 13), none, .asg (.t 50)⟩] none [0, 1, 2, 6, 9, 13, 29, 30, 31, 45, 46, 47])
  (.region [⟨(some 51), none, .mov (.t 9)⟩,
    ⟨(some 52), none, .mov (.t 13)⟩,
    ⟨none, none, .uins (.t 51) (.t 52) (.c (.b true))⟩] none [0, 1, 2, 6, 9, 29, 30, 31, 45, 46, 47])))
 (.region [⟨(some 53), none, .bin .add (.t 47) (.c (.i .i64 1))⟩,
   ⟨(some 47), none, .mov (.t 53)⟩] none [0, 1, 2, 6, 9, 29, 30, 31, 45, 46, 47]))))
def ir_roles_Compose_L0 : ACode :=
 (.seq (.region [⟨(some 32), none, .bin .lss (.t 31) (.t 30)⟩] none [0, 1, 2, 6, 9, 29, 30, 31, 32])
 (.seq (.cond (.t 32)
  .skip
  (.exit 0))
 (.seq (.block 1
  (.seq (.region [⟨(some 33), none, .idx 16 (.t 29) (.t 31)⟩,
    ⟨(some 34), none, .load (some 16) (.t 33)⟩,
    ⟨(some 11), none, .lalloc [(.i .i64 0), (.b false), (.i .i64 0), (.s []), (.i .i64 0), (.i .i64 0), .ns, (.i .i64 0), (.s []), (.i .i64 0), (.i .i64 0), .ns, .ns, (.s []), (.s []), (.s [])]⟩,
    ⟨none, none, .store 16 (.t 11) (.t 34)⟩] none [0, 1, 2, 6, 9, 11, 29, 30, 31])
  (.seq (.region [⟨(some 35), none, .fld 0 (.t 11)⟩,
    ⟨(some 36), none, .load none (.t 35)⟩] none [0, 1, 2, 6, 9, 11, 29, 30, 31, 36])
  (.block 2
   (.seq (.seq (.region [⟨(some 38), none, .bin .eql (.t 36) (.c (.i .i64 5))⟩,
     ⟨(some 37), none, .asg (.t 38)⟩] none [0, 1, 2, 6, 9, 11, 29, 30, 31, 36, 37])
   (.cond (.t 37)
    .skip
    (.seq (.region [⟨(some 39), none, .bin .eql (.t 36) (.c (.i .i64 6))⟩,
      ⟨(some 37), none, .asg (.t 39)⟩] none [0, 1, 2, 6, 9, 11, 29, 30, 31, 36, 37])
    (.cond (.t 37)
     .skip
     (.region [⟨(some 40), none, .bin .eql (.t 36) (.c (.i .i64 7))⟩,
       ⟨(some 37), none, .asg (.t 40)⟩] none [0, 1, 2, 6, 9, 11, 29, 30, 31, 37])))))
   (.cond (.t 37)
    (.seq (.region [⟨(some 41), none, .mov (.t 9)⟩,
      ⟨(some 42), none, .fld 13 (.t 11)⟩,
      ⟨(some 43), none, .load none (.t 42)⟩,
      ⟨none, none, .uins (.t 41) (.t 43) (.c (.b true))⟩] none [0, 1, 2, 6, 9, 11, 29, 30, 31])
    (.seq (.region [⟨(some 44), none, .fld 12 (.t 11)⟩,
      ⟨(some 45), none, .load none (.t 44)⟩,
      ⟨(some 46), none, .len 0 (.t 45)⟩,
      ⟨(some 47), none, .mov (.c (.i .i64 0))⟩] none [0, 1, 2, 6, 9, 29, 30, 31, 45, 46, 47])
    (.block 3
     (.loop [0, 1, 2, 6, 9, 29, 30, 31, 45, 46, 47] ir_roles_Compose_L1))))
    .skip))))))
 (.region [⟨(some 54), none, .bin .add (.t 31) (.c (.i .i64 1))⟩,
   ⟨(some 31), none, .mov (.t 54)⟩] none [0, 1, 2, 6, 9, 29, 30, 31]))))
def ir_roles_Compose_L2 : ACode :=
 (.seq (.region [⟨(some 65), none, .bin .lss (.t 64) (.t 63)⟩] none [6, 14, 62, 63, 64, 65])
 (.seq (.cond (.t 65)
  .skip
  (.exit 5))
 (.seq (.block 6
  (.seq (.region [⟨(some 66), none, .idx 1 (.t 62) (.t 64)⟩,
    ⟨(some 67), none, .load none (.t 66)⟩,
    ⟨(some 16), none, .asg (.t 67)⟩] none [6, 14, 16, 62, 63, 64])
  (.seq (.region [⟨(some 68), none, .mov (.t 14)⟩,
    ⟨(some 69), none, .mov (.t 16)⟩,
    ⟨(some 70), none, .look 1 .np false (.t 68) (.t 69)⟩,
    ⟨(some 71), none, .nileq true 3 (.t 70)⟩,
    ⟨(some 72), none, .mov (.t 71)⟩,
    ⟨(some 73), some (72, true), .mov (.t 14)⟩,
    ⟨(some 74), some (72, true), .mov (.t 16)⟩,
    ⟨(some 75), some (72, true), .look 1 .np false (.t 73) (.t 74)⟩,
    ⟨(some 76), some (72, true), .nilchk (.t 75)⟩,
    ⟨(some 77), some (72, true), .idxa 65 65 (.t 76) (.c (.i .i64 0))⟩,
    ⟨(some 78), some (72, true), .idxa 65 1 (.t 77) (.c (.i .i64 2))⟩,
    ⟨(some 79), some (72, true), .load none (.t 78)⟩,
    ⟨(some 80), none, .pick (.t 72) (.t 79) (.c (.b false))⟩] none [6, 14, 16, 62, 63, 64, 80])
  (.cond (.t 80)
   (.region [⟨(some 81), none, .mov (.t 6)⟩,
     ⟨(some 82), none, .mov (.t 16)⟩,
     ⟨(some 83), none, .bsl false T_string_0 1 1 [(.s [])] [(0, (.t 82))]⟩,
     ⟨(some 84), none, .app T_string_0 1 (.t 81) (.t 83)⟩,
     ⟨(some 6), none, .asg (.t 84)⟩] none [6, 14, 62, 63, 64])
   .skip))))
 (.region [⟨(some 85), none, .bin .add (.t 64) (.c (.i .i64 1))⟩,
   ⟨(some 64), none, .mov (.t 85)⟩] none [6, 14, 62, 63, 64]))))
/-- veilstone/roles.Compose -/
def ir_roles_Compose : AFun := ⟨3, [.tmp 6, .tmp 7], true, false,
 (.seq (.region [⟨(some 6), none, .nbuf T_string_0 1⟩,
   ⟨(some 7), none, .asg (.c (.i .i64 0))⟩] none [0, 1, 2, 6])
 (.seq (.seq (.region [⟨(some 17), none, .mov (.t 0)⟩,
   ⟨(some 18), none, .mov (.t 1)⟩,
   ⟨(some 19), none, .mov (.t 2)⟩,
   ⟨(some 20), none, .bsl false T_string_0 1 2 [(.s [])] [(0, (.t 18)), (1, (.t 19))]⟩,
   ⟨(some 21), none, .call (.c (.fn (.func F_roles_checkAll) [] [])) [(.t 17), (.t 20)]⟩,
   ⟨(some 8), none, .asg (.t 21)⟩] none [0, 1, 2, 6, 8])
 (.seq (.region [⟨(some 22), none, .mov (.t 8)⟩,
   ⟨(some 23), none, .bin .neq (.t 22) (.c (.i .i64 0))⟩] none [0, 1, 2, 6, 8, 23])
 (.cond (.t 23)
  (.seq (.region [⟨(some 24), none, .mov (.t 8)⟩,
    ⟨(some 6), none, .nbuf T_string_0 1⟩,
    ⟨(some 7), none, .asg (.t 24)⟩] none [6, 7])
  .ret)
  .skip)))
 (.seq (.region [⟨(some 25), none, .umap 25⟩,
   ⟨(some 26), none, .mov (.t 1)⟩,
   ⟨none, none, .uins (.t 25) (.t 26) (.c (.b true))⟩,
   ⟨(some 27), none, .mov (.t 2)⟩,
   ⟨none, none, .uins (.t 25) (.t 27) (.c (.b true))⟩,
   ⟨(some 28), none, .mov (.t 25)⟩,
   ⟨(some 9), none, .asg (.t 28)⟩] (some ([0, 1, 2, 3, 4, 5, 6], [])) [0, 1, 2, 6, 9])
 (.seq (.seq (.region [⟨(some 29), none, .mov (.t 0)⟩,
   ⟨(some 30), none, .len 0 (.t 29)⟩,
   ⟨(some 31), none, .mov (.c (.i .i64 0))⟩] none [0, 1, 2, 6, 9, 29, 30, 31])
 (.block 0
  (.loop [0, 1, 2, 6, 9, 29, 30, 31] ir_roles_Compose_L0)))
 (.seq (.region [⟨(some 55), none, .mov (.t 0)⟩,
   ⟨(some 56), none, .mov (.t 1)⟩,
   ⟨(some 57), none, .mov (.t 2)⟩,
   ⟨(some 58), none, .bsl false T_string_0 1 2 [(.s [])] [(0, (.t 56)), (1, (.t 57))]⟩,
   ⟨(some 59), none, .call (.c (.fn (.func F_roles_recognize) [] [])) [(.t 55), (.t 58)]⟩,
   ⟨(some 14), none, .asg (.t 59)⟩] none [6, 9, 14])
 (.seq (.seq (.region [⟨(some 60), none, .mov (.t 9)⟩,
   ⟨(some 61), none, .call (.c (.fn (.func F_maps_Keys_map_string_bool_string_bool) [] [])) [(.t 60)]⟩,
   ⟨(some 62), none, .call (.c (.fn (.func F_slices_Sorted_string) [] [])) [(.t 61)]⟩,
   ⟨(some 63), none, .len 0 (.t 62)⟩,
   ⟨(some 64), none, .mov (.c (.i .i64 0))⟩] none [6, 14, 62, 63, 64])
 (.block 5
  (.loop [6, 14, 62, 63, 64] ir_roles_Compose_L2)))
 (.seq (.region [⟨(some 86), none, .mov (.t 6)⟩,
   ⟨(some 6), none, .asg (.t 86)⟩,
   ⟨(some 7), none, .asg (.c (.i .i64 0))⟩] none [6, 7])
 .ret)))))))⟩

/-- veilstone/veilstonelaw06.few -/
def ir_law06_few : AFun := ⟨1, [.tmp 2], true, false,
 (.seq (.region [⟨(some 2), none, .asg (.c (.b false))⟩] none [0])
 (.seq (.region [⟨(some 3), none, .mov (.t 0)⟩,
   ⟨(some 4), none, .call (.c (.fn (.func F_ref02_FewAxioms) [] [])) [(.t 3), (.c (.i .i64 12))]⟩,
   ⟨(some 2), none, .asg (.t 4)⟩] none [2])
 .ret))⟩

def ir_ref02_FewAxioms_L0 : ACode :=
 (.seq (.seq (.region [⟨(some 10), none, .mov (.t 5)⟩,
   ⟨(some 11), none, .mov (.t 0)⟩,
   ⟨(some 12), none, .len 0 (.t 11)⟩,
   ⟨(some 13), none, .bin .lss (.t 10) (.t 12)⟩] none [0, 5, 13])
 (.cond (.t 13)
  .skip
  (.exit 0)))
 (.seq (.block 1
  (.seq (.region [⟨(some 16), none, .mov (.t 0)⟩,
    ⟨(some 17), none, .mov (.t 5)⟩,
    ⟨(some 18), none, .idx 16 (.t 16) (.t 17)⟩,
    ⟨(some 19), none, .load (some 16) (.t 18)⟩,
    ⟨(some 20), none, .call (.c (.fn (.func F_ref02_FewAxiom) [] [])) [(.t 19)]⟩,
    ⟨(some 21), none, .un .not (.t 20)⟩] none [0, 5, 21])
  (.cond (.t 21)
   (.seq (.region [⟨(some 4), none, .asg (.c (.b false))⟩] none [4])
   .ret)
   .skip)))
 (.region [⟨(some 14), none, .mov (.t 5)⟩,
   ⟨(some 15), none, .bin .add (.t 14) (.c (.i .i64 1))⟩,
   ⟨(some 5), none, .asg (.t 15)⟩] none [0, 5])))
/-- veilstone/veilstoneref02.FewAxioms -/
def ir_ref02_FewAxioms : AFun := ⟨2, [.tmp 4], true, false,
 (.seq (.region [⟨(some 4), none, .asg (.c (.b false))⟩] none [0, 1])
 (.seq (.seq (.region [⟨(some 6), none, .mov (.t 0)⟩,
   ⟨(some 7), none, .len 0 (.t 6)⟩,
   ⟨(some 8), none, .mov (.t 1)⟩,
   ⟨(some 9), none, .bin .gtr (.t 7) (.t 8)⟩] none [0, 9])
 (.cond (.t 9)
  (.seq (.region [⟨(some 4), none, .asg (.c (.b false))⟩] none [4])
  .ret)
  .skip))
 (.seq (.seq (.region [⟨(some 5), none, .asg (.c (.i .i64 0))⟩] none [0, 5])
 (.block 0
  (.loop [0, 5] ir_ref02_FewAxioms_L0)))
 (.seq (.region [⟨(some 4), none, .asg (.c (.b true))⟩] none [4])
 .ret))))⟩

def ir_ref02_FewAxiom_L0 : ACode :=
 (.seq (.seq (.region [⟨(some 21), none, .mov (.t 4)⟩,
   ⟨(some 22), none, .fld 12 (.t 1)⟩,
   ⟨(some 23), none, .load none (.t 22)⟩,
   ⟨(some 24), none, .len 0 (.t 23)⟩,
   ⟨(some 25), none, .bin .lss (.t 21) (.t 24)⟩,
   ⟨(some 26), none, .mov (.t 25)⟩,
   ⟨(some 27), some (26, true), .mov (.t 4)⟩,
   ⟨(some 28), some (26, true), .bin .lss (.t 27) (.c (.i .i64 100))⟩,
   ⟨(some 29), none, .pick (.t 26) (.t 28) (.c (.b false))⟩] none [1, 3, 4, 29])
 (.cond (.t 29)
  .skip
  (.exit 0)))
 (.seq (.block 1
  (.region [⟨(some 32), none, .mov (.t 3)⟩,
    ⟨(some 33), none, .fld 12 (.t 1)⟩,
    ⟨(some 34), none, .load none (.t 33)⟩,
    ⟨(some 35), none, .mov (.t 4)⟩,
    ⟨(some 36), none, .idx 1 (.t 34) (.t 35)⟩,
    ⟨(some 37), none, .load none (.t 36)⟩,
    ⟨(some 38), none, .len 1 (.t 37)⟩,
    ⟨(some 39), none, .bin .add (.t 32) (.t 38)⟩,
    ⟨(some 3), none, .asg (.t 39)⟩] none [1, 3, 4]))
 (.region [⟨(some 30), none, .mov (.t 4)⟩,
   ⟨(some 31), none, .bin .add (.t 30) (.c (.i .i64 1))⟩,
   ⟨(some 4), none, .asg (.t 31)⟩] none [1, 3, 4])))
/-- veilstone/veilstoneref02.FewAxiom -/
def ir_ref02_FewAxiom : AFun := ⟨1, [.tmp 2], true, false,
 (.seq (.region [⟨(some 1), none, .lbox (.t 0)⟩,
   ⟨(some 2), none, .asg (.c (.b false))⟩] none [1])
 (.seq (.region [⟨(some 5), none, .fld 13 (.t 1)⟩,
   ⟨(some 6), none, .load none (.t 5)⟩,
   ⟨(some 7), none, .len 1 (.t 6)⟩,
   ⟨(some 8), none, .fld 14 (.t 1)⟩,
   ⟨(some 9), none, .load none (.t 8)⟩,
   ⟨(some 10), none, .len 1 (.t 9)⟩,
   ⟨(some 11), none, .bin .add (.t 7) (.t 10)⟩,
   ⟨(some 12), none, .fld 15 (.t 1)⟩,
   ⟨(some 13), none, .load none (.t 12)⟩,
   ⟨(some 14), none, .len 1 (.t 13)⟩,
   ⟨(some 15), none, .bin .add (.t 11) (.t 14)⟩,
   ⟨(some 16), none, .fld 12 (.t 1)⟩,
   ⟨(some 17), none, .load none (.t 16)⟩,
   ⟨(some 18), none, .len 0 (.t 17)⟩,
   ⟨(some 19), none, .bin .mul (.c (.i .i64 10)) (.t 18)⟩,
   ⟨(some 20), none, .bin .add (.t 15) (.t 19)⟩,
   ⟨(some 3), none, .asg (.t 20)⟩] none [1, 3])
 (.seq (.seq (.region [⟨(some 4), none, .asg (.c (.i .i64 0))⟩] none [1, 3, 4])
 (.block 0
  (.loop [1, 3, 4] ir_ref02_FewAxiom_L0)))
 (.seq (.region [⟨(some 40), none, .mov (.t 3)⟩,
   ⟨(some 41), none, .bin .leq (.t 40) (.c (.i .i64 600))⟩,
   ⟨(some 42), none, .mov (.t 41)⟩,
   ⟨(some 43), some (42, true), .fld 2 (.t 1)⟩,
   ⟨(some 44), some (42, true), .load (some 5) (.t 43)⟩,
   ⟨(some 45), some (42, true), .call (.c (.fn (.func F_ref02_Few) [] [])) [(.t 44)]⟩,
   ⟨(some 46), none, .pick (.t 42) (.t 45) (.c (.b false))⟩,
   ⟨(some 47), none, .mov (.t 46)⟩,
   ⟨(some 48), some (47, true), .fld 7 (.t 1)⟩,
   ⟨(some 49), some (47, true), .load (some 5) (.t 48)⟩,
   ⟨(some 50), some (47, true), .call (.c (.fn (.func F_ref02_Few) [] [])) [(.t 49)]⟩,
   ⟨(some 51), none, .pick (.t 47) (.t 50) (.c (.b false))⟩,
   ⟨(some 2), none, .asg (.t 51)⟩] none [2])
 .ret))))⟩

/-- veilstone/veilstoneref02.Few -/
def ir_ref02_Few : AFun := ⟨1, [.tmp 2], true, false,
 (.seq (.region [⟨(some 1), none, .lbox (.t 0)⟩,
   ⟨(some 2), none, .asg (.c (.b false))⟩] none [1])
 (.seq (.region [⟨(some 3), none, .load (some 5) (.t 1)⟩,
   ⟨(some 4), none, .call (.c (.fn (.func F_ref02_count) [] [])) [(.t 3), (.c (.i .i64 40)), (.c (.i .i64 150))]⟩,
   ⟨(some 5), none, .bin .leq (.t 4) (.c (.i .i64 150))⟩,
   ⟨(some 2), none, .asg (.t 5)⟩] none [2])
 .ret))⟩

def ir_ref02_count_L0 : ACode :=
 (.seq (.seq (.region [⟨(some 18), none, .mov (.t 8)⟩,
   ⟨(some 19), none, .fld 4 (.t 3)⟩,
   ⟨(some 20), none, .load none (.t 19)⟩,
   ⟨(some 21), none, .len 0 (.t 20)⟩,
   ⟨(some 22), none, .bin .lss (.t 18) (.t 21)⟩,
   ⟨(some 23), none, .mov (.t 22)⟩,
   ⟨(some 24), some (23, true), .mov (.t 7)⟩,
   ⟨(some 25), some (23, true), .mov (.t 2)⟩,
   ⟨(some 26), some (23, true), .bin .leq (.t 24) (.t 25)⟩,
   ⟨(some 27), none, .pick (.t 23) (.t 26) (.c (.b false))⟩] none [1, 2, 3, 7, 8, 27])
 (.cond (.t 27)
  .skip
  (.exit 0)))
 (.seq (.block 1
  (.region [⟨(some 30), none, .mov (.t 7)⟩,
    ⟨(some 31), none, .fld 4 (.t 3)⟩,
    ⟨(some 32), none, .load none (.t 31)⟩,
    ⟨(some 33), none, .mov (.t 8)⟩,
    ⟨(some 34), none, .idx 5 (.t 32) (.t 33)⟩,
    ⟨(some 35), none, .load (some 5) (.t 34)⟩,
    ⟨(some 36), none, .mov (.t 1)⟩,
    ⟨(some 37), none, .bin .sub (.t 36) (.c (.i .i64 1))⟩,
    ⟨(some 38), none, .mov (.t 2)⟩,
    ⟨(some 39), none, .mov (.t 7)⟩,
    ⟨(some 40), none, .bin .sub (.t 38) (.t 39)⟩,
    ⟨(some 41), none, .call (.c (.fn (.func F_ref02_count) [] [])) [(.t 35), (.t 37), (.t 40)]⟩,
    ⟨(some 42), none, .bin .add (.t 30) (.t 41)⟩,
    ⟨(some 7), none, .asg (.t 42)⟩] none [1, 2, 3, 7, 8]))
 (.region [⟨(some 28), none, .mov (.t 8)⟩,
   ⟨(some 29), none, .bin .add (.t 28) (.c (.i .i64 1))⟩,
   ⟨(some 8), none, .asg (.t 29)⟩] none [1, 2, 3, 7, 8])))
/-- veilstone/veilstoneref02.count -/
def ir_ref02_count : AFun := ⟨3, [.tmp 6], true, false,
 (.seq (.region [⟨(some 3), none, .lbox (.t 0)⟩,
   ⟨(some 6), none, .asg (.c (.i .i64 0))⟩] none [1, 2, 3])
 (.seq (.seq (.region [⟨(some 9), none, .mov (.t 1)⟩,
   ⟨(some 10), none, .bin .leq (.t 9) (.c (.i .i64 0))⟩] none [1, 2, 3, 10])
 (.cond (.t 10)
  (.seq (.region [⟨(some 11), none, .mov (.t 2)⟩,
    ⟨(some 12), none, .bin .add (.t 11) (.c (.i .i64 1))⟩,
    ⟨(some 6), none, .asg (.t 12)⟩] none [6])
  .ret)
  .skip))
 (.seq (.region [⟨(some 13), none, .fld 1 (.t 3)⟩,
   ⟨(some 14), none, .load none (.t 13)⟩,
   ⟨(some 15), none, .len 1 (.t 14)⟩,
   ⟨(some 16), none, .bin .quo (.t 15) (.c (.i .i64 40))⟩,
   ⟨(some 17), none, .bin .add (.c (.i .i64 1)) (.t 16)⟩,
   ⟨(some 7), none, .asg (.t 17)⟩] none [1, 2, 3, 7])
 (.seq (.seq (.region [⟨(some 8), none, .asg (.c (.i .i64 0))⟩] none [1, 2, 3, 7, 8])
 (.block 0
  (.loop [1, 2, 3, 7, 8] ir_ref02_count_L0)))
 (.seq (.region [⟨(some 43), none, .mov (.t 7)⟩,
   ⟨(some 6), none, .asg (.t 43)⟩] none [6])
 .ret)))))⟩

def ir_ref06_Check_L0 : ACode :=
 (.seq (.seq (.region [⟨(some 26), none, .mov (.t 8)⟩,
   ⟨(some 27), none, .mov (.t 6)⟩,
   ⟨(some 28), none, .len 0 (.t 27)⟩,
   ⟨(some 29), none, .bin .lss (.t 26) (.t 28)⟩] none [5, 6, 7, 8, 29])
 (.cond (.t 29)
  .skip
  (.exit 0)))
 (.seq (.block 1
  (.region [⟨(some 32), none, .mov (.t 7)⟩,
    ⟨(some 33), none, .mov (.t 8)⟩,
    ⟨(some 34), none, .mov (.t 6)⟩,
    ⟨(some 35), none, .mov (.t 8)⟩,
    ⟨(some 36), none, .idx 1 (.t 34) (.t 35)⟩,
    ⟨(some 37), none, .load none (.t 36)⟩,
    ⟨(some 38), none, .bsl false T_string_0 1 1 [(.s [])] [(0, (.t 37))]⟩,
    ⟨(some 39), none, .build [.ns, (.b false)] [(0, 1, (.t 38))]⟩,
    ⟨(some 40), none, .bsl false T_ref06_path_1 2 1 [.ns, (.b false)] [(0, (.t 39))]⟩,
    ⟨(some 41), none, .idx 1 (.t 32) (.t 33)⟩,
    ⟨none, none, .store 1 (.t 41) (.t 40)⟩] none [5, 6, 7, 8]))
 (.region [⟨(some 30), none, .mov (.t 8)⟩,
   ⟨(some 31), none, .bin .add (.t 30) (.c (.i .i64 1))⟩,
   ⟨(some 8), none, .asg (.t 31)⟩] none [5, 6, 7, 8])))
def ir_ref06_Check_L3 : ACode :=
 (.seq (.seq (.region [⟨(some 54), none, .mov (.t 12)⟩,
   ⟨(some 55), none, .mov (.t 7)⟩,
   ⟨(some 56), none, .mov (.t 11)⟩,
   ⟨(some 57), none, .idx 1 (.t 55) (.t 56)⟩,
   ⟨(some 58), none, .load none (.t 57)⟩,
   ⟨(some 59), none, .len 0 (.t 58)⟩,
   ⟨(some 60), none, .bin .lss (.t 54) (.t 59)⟩] none [5, 6, 7, 9, 10, 11, 12, 60])
 (.cond (.t 60)
  .skip
  (.exit 6)))
 (.seq (.block 7
  (.seq (.region [⟨(some 63), none, .mov (.t 7)⟩,
    ⟨(some 64), none, .mov (.t 11)⟩,
    ⟨(some 65), none, .idx 1 (.t 63) (.t 64)⟩,
    ⟨(some 66), none, .load none (.t 65)⟩,
    ⟨(some 67), none, .mov (.t 12)⟩,
    ⟨(some 68), none, .idx 2 (.t 66) (.t 67)⟩,
    ⟨(some 69), none, .load (some 2) (.t 68)⟩,
    ⟨(some 13), none, .lalloc [.ns, (.b false)]⟩,
    ⟨none, none, .store 2 (.t 13) (.t 69)⟩] none [5, 6, 7, 9, 10, 11, 12, 13])
  (.seq (.region [⟨(some 70), none, .load (some 2) (.t 13)⟩,
    ⟨(some 71), none, .mov (.t 5)⟩,
    ⟨(some 72), none, .call (.c (.fn (.func F_ref06_closes) [] [])) [(.t 70), (.t 71)]⟩,
    ⟨(some 73), none, .mov (.t 72)⟩,
    ⟨(some 74), some (73, true), .mov (.t 10)⟩,
    ⟨(some 75), some (73, true), .nileq false 0 (.t 74)⟩,
    ⟨(some 76), some (73, true), .mov (.t 75)⟩,
    ⟨(some 77), some (76, false), .fld 0 (.t 13)⟩,
    ⟨(some 78), some (76, false), .load none (.t 77)⟩,
    ⟨(some 79), some (76, false), .mov (.t 10)⟩,
    ⟨(some 80), some (76, false), .call (.c (.fn (.func F_ref06_less) [] [])) [(.t 78), (.t 79)]⟩,
    ⟨(some 81), some (73, true), .pick (.t 76) (.c (.b true)) (.t 80)⟩,
    ⟨(some 82), none, .pick (.t 73) (.t 81) (.c (.b false))⟩] none [5, 6, 7, 9, 10, 11, 12, 13, 82])
  (.cond (.t 82)
   (.region [⟨(some 83), none, .fld 0 (.t 13)⟩,
     ⟨(some 84), none, .load none (.t 83)⟩,
     ⟨(some 10), none, .asg (.t 84)⟩] none [5, 6, 7, 9, 10, 11, 12])
   .skip))))
 (.region [⟨(some 61), none, .mov (.t 12)⟩,
   ⟨(some 62), none, .bin .add (.t 61) (.c (.i .i64 1))⟩,
   ⟨(some 12), none, .asg (.t 62)⟩] none [5, 6, 7, 9, 10, 11, 12])))
def ir_ref06_Check_L2 : ACode :=
 (.seq (.seq (.region [⟨(some 48), none, .mov (.t 11)⟩,
   ⟨(some 49), none, .mov (.t 6)⟩,
   ⟨(some 50), none, .len 0 (.t 49)⟩,
   ⟨(some 51), none, .bin .lss (.t 48) (.t 50)⟩] none [5, 6, 7, 9, 10, 11, 51])
 (.cond (.t 51)
  .skip
  (.exit 4)))
 (.seq (.block 5
  (.seq (.seq (.region [⟨(some 12), none, .asg (.c (.i .i64 0))⟩] none [5, 6, 7, 9, 10, 11, 12])
  (.block 6
   (.loop [5, 6, 7, 9, 10, 11, 12] ir_ref06_Check_L3)))
  (.region [⟨(some 85), none, .mov (.t 7)⟩,
    ⟨(some 86), none, .mov (.t 11)⟩,
    ⟨(some 87), none, .mov (.t 7)⟩,
    ⟨(some 88), none, .mov (.t 11)⟩,
    ⟨(some 89), none, .idx 1 (.t 87) (.t 88)⟩,
    ⟨(some 90), none, .load none (.t 89)⟩,
    ⟨(some 91), none, .mov (.t 5)⟩,
    ⟨(some 92), none, .call (.c (.fn (.func F_ref06_longer) [] [])) [(.t 90), (.t 91)]⟩,
    ⟨(some 93), none, .idx 1 (.t 85) (.t 86)⟩,
    ⟨none, none, .store 1 (.t 93) (.t 92)⟩] none [5, 6, 7, 9, 10, 11])))
 (.region [⟨(some 52), none, .mov (.t 11)⟩,
   ⟨(some 53), none, .bin .add (.t 52) (.c (.i .i64 1))⟩,
   ⟨(some 11), none, .asg (.t 53)⟩] none [5, 6, 7, 9, 10, 11])))
def ir_ref06_Check_L1 : ACode :=
 (.seq (.seq (.region [⟨(some 42), none, .mov (.t 9)⟩,
   ⟨(some 43), none, .mov (.t 6)⟩,
   ⟨(some 44), none, .len 0 (.t 43)⟩,
   ⟨(some 45), none, .bin .leq (.t 42) (.t 44)⟩] none [5, 6, 7, 9, 45])
 (.cond (.t 45)
  .skip
  (.exit 2)))
 (.seq (.block 3
  (.seq (.region [⟨(some 10), none, .asg (.c .ns)⟩] none [5, 6, 7, 9, 10])
  (.seq (.seq (.region [⟨(some 11), none, .asg (.c (.i .i64 0))⟩] none [5, 6, 7, 9, 10, 11])
  (.block 4
   (.loop [5, 6, 7, 9, 10, 11] ir_ref06_Check_L2)))
  (.seq (.region [⟨(some 94), none, .mov (.t 10)⟩,
    ⟨(some 95), none, .nileq true 0 (.t 94)⟩] none [5, 6, 7, 9, 10, 95])
  (.cond (.t 95)
   (.seq (.region [⟨(some 96), none, .mov (.t 10)⟩,
     ⟨(some 2), none, .asg (.t 96)⟩,
     ⟨(some 3), none, .asg (.c (.i .i64 60))⟩] none [2, 3])
   .ret)
   .skip)))))
 (.region [⟨(some 46), none, .mov (.t 9)⟩,
   ⟨(some 47), none, .bin .add (.t 46) (.c (.i .i64 1))⟩,
   ⟨(some 9), none, .asg (.t 47)⟩] none [5, 6, 7, 9])))
/-- veilstone/veilstoneref06.Check -/
def ir_ref06_Check : AFun := ⟨1, [.tmp 2, .tmp 3], true, false,
 (.seq (.region [⟨(some 2), none, .asg (.c .ns)⟩,
   ⟨(some 3), none, .asg (.c (.i .i64 0))⟩] none [0])
 (.seq (.region [⟨(some 14), none, .mov (.t 0)⟩,
   ⟨(some 15), none, .call (.c (.fn (.func F_ref06_checked) [] [])) [(.t 14)]⟩,
   ⟨(some 4), none, .asg (.t 15)⟩] none [0, 4])
 (.seq (.seq (.region [⟨(some 16), none, .mov (.t 4)⟩,
   ⟨(some 17), none, .bin .neq (.t 16) (.c (.i .i64 0))⟩] none [0, 4, 17])
 (.cond (.t 17)
  (.seq (.region [⟨(some 18), none, .mov (.t 4)⟩,
    ⟨(some 2), none, .asg (.c .ns)⟩,
    ⟨(some 3), none, .asg (.t 18)⟩] none [2, 3])
  .ret)
  .skip))
 (.seq (.region [⟨(some 19), none, .mov (.t 0)⟩,
   ⟨(some 20), none, .call (.c (.fn (.func F_ref06_steps) [] [])) [(.t 19)]⟩,
   ⟨(some 5), none, .asg (.t 20)⟩] none [0, 5])
 (.seq (.region [⟨(some 21), none, .mov (.t 0)⟩,
   ⟨(some 22), none, .call (.c (.fn (.func F_ref06_All) [] [])) [(.t 21)]⟩,
   ⟨(some 6), none, .asg (.t 22)⟩] none [5, 6])
 (.seq (.region [⟨(some 23), none, .mov (.t 6)⟩,
   ⟨(some 24), none, .len 0 (.t 23)⟩,
   ⟨(some 25), none, .mks T_ref06_path_2 1 [.ns] (.t 24)⟩,
   ⟨(some 7), none, .asg (.t 25)⟩] none [5, 6, 7])
 (.seq (.seq (.region [⟨(some 8), none, .asg (.c (.i .i64 0))⟩] none [5, 6, 7, 8])
 (.block 0
  (.loop [5, 6, 7, 8] ir_ref06_Check_L0)))
 (.seq (.seq (.region [⟨(some 9), none, .asg (.c (.i .i64 1))⟩] none [5, 6, 7, 9])
 (.block 2
  (.loop [5, 6, 7, 9] ir_ref06_Check_L1)))
 (.seq (.region [⟨(some 2), none, .asg (.c .ns)⟩,
   ⟨(some 3), none, .asg (.c (.i .i64 0))⟩] none [2, 3])
 .ret)))))))))⟩

def ir_ref06_checked_L0 : ACode :=
 (.seq (.seq (.region [⟨(some 5), none, .mov (.t 3)⟩,
   ⟨(some 6), none, .mov (.t 0)⟩,
   ⟨(some 7), none, .len 0 (.t 6)⟩,
   ⟨(some 8), none, .bin .lss (.t 5) (.t 7)⟩] none [0, 3, 8])
 (.cond (.t 8)
  .skip
  (.exit 0)))
 (.seq (.block 1
  (.seq (.region [⟨(some 11), none, .mov (.t 0)⟩,
    ⟨(some 12), none, .mov (.t 3)⟩,
    ⟨(some 13), none, .idx 16 (.t 11) (.t 12)⟩,
    ⟨(some 14), none, .load (some 16) (.t 13)⟩,
    ⟨(some 15), none, .call (.c (.fn (.func F_ref02_CheckAxiom) [] [])) [(.t 14)]⟩,
    ⟨(some 4), none, .asg (.t 15)⟩] none [0, 3, 4])
  (.seq (.region [⟨(some 16), none, .mov (.t 4)⟩,
    ⟨(some 17), none, .bin .neq (.t 16) (.c (.i .i64 0))⟩] none [0, 3, 4, 17])
  (.cond (.t 17)
   (.seq (.region [⟨(some 18), none, .mov (.t 4)⟩,
     ⟨(some 2), none, .asg (.t 18)⟩] none [2])
   .ret)
   .skip))))
 (.region [⟨(some 9), none, .mov (.t 3)⟩,
   ⟨(some 10), none, .bin .add (.t 9) (.c (.i .i64 1))⟩,
   ⟨(some 3), none, .asg (.t 10)⟩] none [0, 3])))
/-- veilstone/veilstoneref06.checked -/
def ir_ref06_checked : AFun := ⟨1, [.tmp 2], true, false,
 (.seq (.region [⟨(some 2), none, .asg (.c (.i .i64 0))⟩] none [0])
 (.seq (.seq (.region [⟨(some 3), none, .asg (.c (.i .i64 0))⟩] none [0, 3])
 (.block 0
  (.loop [0, 3] ir_ref06_checked_L0)))
 (.seq (.region [⟨(some 2), none, .asg (.c (.i .i64 0))⟩] none [2])
 .ret)))⟩

def ir_ref02_CheckAxiom_L0 : ACode :=
 (.seq (.seq (.region [⟨(some 100), none, .mov (.t 10)⟩,
   ⟨(some 101), none, .fld 12 (.t 1)⟩,
   ⟨(some 102), none, .load none (.t 101)⟩,
   ⟨(some 103), none, .len 0 (.t 102)⟩,
   ⟨(some 104), none, .bin .lss (.t 100) (.t 103)⟩] none [1, 3, 4, 6, 7, 10, 104])
 (.cond (.t 104)
  .skip
  (.exit 0)))
 (.seq (.block 1
  (.seq (.region [⟨(some 107), none, .fld 12 (.t 1)⟩,
    ⟨(some 108), none, .load none (.t 107)⟩,
    ⟨(some 109), none, .mov (.t 10)⟩,
    ⟨(some 110), none, .idx 1 (.t 108) (.t 109)⟩,
    ⟨(some 111), none, .load none (.t 110)⟩,
    ⟨(some 112), none, .call (.c (.fn (.func F_ref02_Plain) [] [])) [(.t 111)]⟩,
    ⟨(some 113), none, .un .not (.t 112)⟩] none [1, 3, 4, 6, 7, 10, 113])
  (.cond (.t 113)
   (.seq (.region [⟨(some 2), none, .asg (.c (.i .i64 20))⟩] none [2])
   .ret)
   .skip)))
 (.region [⟨(some 105), none, .mov (.t 10)⟩,
   ⟨(some 106), none, .bin .add (.t 105) (.c (.i .i64 1))⟩,
   ⟨(some 10), none, .asg (.t 106)⟩] none [1, 3, 4, 6, 7, 10])))
/-- veilstone/veilstoneref02.CheckAxiom -/
def ir_ref02_CheckAxiom : AFun := ⟨1, [.tmp 2], true, false,
 (.seq (.region [⟨(some 1), none, .lbox (.t 0)⟩,
   ⟨(some 2), none, .asg (.c (.i .i64 0))⟩] none [1])
 (.seq (.region [⟨(some 14), none, .fld 0 (.t 1)⟩,
   ⟨(some 15), none, .load none (.t 14)⟩,
   ⟨(some 16), none, .call (.c (.fn (.func F_ref02_fields) [] [])) [(.t 15)]⟩,
   ⟨(some 13), none, .mov (.t 16)⟩,
   ⟨(some 17), none, .ext (.t 13) 0⟩,
   ⟨(some 18), none, .ext (.t 13) 1⟩,
   ⟨(some 19), none, .ext (.t 13) 2⟩,
   ⟨(some 20), none, .ext (.t 13) 3⟩,
   ⟨(some 21), none, .ext (.t 13) 4⟩,
   ⟨(some 22), none, .ext (.t 13) 5⟩,
   ⟨(some 23), none, .ext (.t 13) 6⟩,
   ⟨(some 3), none, .asg (.t 17)⟩,
   ⟨(some 4), none, .asg (.t 18)⟩,
   ⟨(some 5), none, .asg (.t 19)⟩,
   ⟨(some 6), none, .asg (.t 20)⟩,
   ⟨(some 7), none, .asg (.t 21)⟩,
   ⟨(some 8), none, .asg (.t 22)⟩,
   ⟨(some 9), none, .asg (.t 23)⟩] none [1, 3, 4, 5, 6, 7, 8, 9])
 (.seq (.seq (.region [⟨(some 24), none, .fld 0 (.t 1)⟩,
   ⟨(some 25), none, .load none (.t 24)⟩,
   ⟨(some 26), none, .bin .lss (.t 25) (.c (.i .i64 1))⟩,
   ⟨(some 27), none, .mov (.t 26)⟩,
   ⟨(some 28), some (27, false), .fld 0 (.t 1)⟩,
   ⟨(some 29), some (27, false), .load none (.t 28)⟩,
   ⟨(some 30), some (27, false), .bin .gtr (.t 29) (.c (.i .i64 9))⟩,
   ⟨(some 31), none, .pick (.t 27) (.c (.b true)) (.t 30)⟩,
   ⟨(some 32), none, .mov (.t 31)⟩,
   ⟨(some 33), some (32, false), .mov (.t 3)⟩,
   ⟨(some 34), some (32, false), .un .not (.t 33)⟩,
   ⟨(some 35), some (32, false), .mov (.t 34)⟩,
   ⟨(some 36), some (35, true), .fld 2 (.t 1)⟩,
   ⟨(some 37), some (35, true), .load (some 5) (.t 36)⟩,
   ⟨(some 38), some (35, true), .call (.c (.fn (.func F_ref02_Empty) [] [])) [(.t 37)]⟩,
   ⟨(some 39), some (35, true), .un .not (.t 38)⟩,
   ⟨(some 40), some (32, false), .pick (.t 35) (.t 39) (.c (.b false))⟩,
   ⟨(some 41), none, .pick (.t 32) (.c (.b true)) (.t 40)⟩,
   ⟨(some 42), none, .mov (.t 41)⟩,
   ⟨(some 43), some (42, false), .mov (.t 4)⟩,
   ⟨(some 44), some (42, false), .un .not (.t 43)⟩,
   ⟨(some 45), some (42, false), .mov (.t 44)⟩,
   ⟨(some 46), some (45, true), .fld 7 (.t 1)⟩,
   ⟨(some 47), some (45, true), .load (some 5) (.t 46)⟩,
   ⟨(some 48), some (45, true), .call (.c (.fn (.func F_ref02_Empty) [] [])) [(.t 47)]⟩,
   ⟨(some 49), some (45, true), .un .not (.t 48)⟩,
   ⟨(some 50), some (42, false), .pick (.t 45) (.t 49) (.c (.b false))⟩,
   ⟨(some 51), none, .pick (.t 42) (.c (.b true)) (.t 50)⟩,
   ⟨(some 52), none, .mov (.t 51)⟩,
   ⟨(some 53), some (52, false), .mov (.t 5)⟩,
   ⟨(some 54), some (52, false), .un .not (.t 53)⟩,
   ⟨(some 55), some (52, false), .mov (.t 54)⟩,
   ⟨(some 56), some (55, true), .fld 13 (.t 1)⟩,
   ⟨(some 57), some (55, true), .load none (.t 56)⟩,
   ⟨(some 58), some (55, true), .bin .neq (.t 57) (.c (.s []))⟩,
   ⟨(some 59), some (52, false), .pick (.t 55) (.t 58) (.c (.b false))⟩,
   ⟨(some 60), none, .pick (.t 52) (.c (.b true)) (.t 59)⟩,
   ⟨(some 61), none, .mov (.t 60)⟩,
   ⟨(some 62), some (61, false), .mov (.t 6)⟩,
   ⟨(some 63), some (61, false), .un .not (.t 62)⟩,
   ⟨(some 64), some (61, false), .mov (.t 63)⟩,
   ⟨(some 65), some (64, true), .fld 14 (.t 1)⟩,
   ⟨(some 66), some (64, true), .load none (.t 65)⟩,
   ⟨(some 67), some (64, true), .bin .neq (.t 66) (.c (.s []))⟩,
   ⟨(some 68), some (61, false), .pick (.t 64) (.t 67) (.c (.b false))⟩,
   ⟨(some 69), none, .pick (.t 61) (.c (.b true)) (.t 68)⟩,
   ⟨(some 70), none, .mov (.t 69)⟩,
   ⟨(some 71), some (70, false), .mov (.t 7)⟩,
   ⟨(some 72), some (70, false), .un .not (.t 71)⟩,
   ⟨(some 73), some (70, false), .mov (.t 72)⟩,
   ⟨(some 74), some (73, true), .fld 15 (.t 1)⟩,
   ⟨(some 75), some (73, true), .load none (.t 74)⟩,
   ⟨(some 76), some (73, true), .bin .neq (.t 75) (.c (.s []))⟩,
   ⟨(some 77), some (70, false), .pick (.t 73) (.t 76) (.c (.b false))⟩,
   ⟨(some 78), none, .pick (.t 70) (.c (.b true)) (.t 77)⟩,
   ⟨(some 79), none, .mov (.t 78)⟩,
   ⟨(some 80), some (79, false), .fld 12 (.t 1)⟩,
   ⟨(some 81), some (79, false), .load none (.t 80)⟩,
   ⟨(some 82), some (79, false), .len 0 (.t 81)⟩,
   ⟨(some 83), some (79, false), .mov (.t 8)⟩,
   ⟨(some 84), some (79, false), .bin .lss (.t 82) (.t 83)⟩,
   ⟨(some 85), none, .pick (.t 79) (.c (.b true)) (.t 84)⟩,
   ⟨(some 86), none, .mov (.t 85)⟩,
   ⟨(some 87), some (86, false), .fld 12 (.t 1)⟩,
   ⟨(some 88), some (86, false), .load none (.t 87)⟩,
   ⟨(some 89), some (86, false), .len 0 (.t 88)⟩,
   ⟨(some 90), some (86, false), .mov (.t 9)⟩,
   ⟨(some 91), some (86, false), .bin .gtr (.t 89) (.t 90)⟩,
   ⟨(some 92), none, .pick (.t 86) (.c (.b true)) (.t 91)⟩] none [1, 3, 4, 5, 6, 7, 92])
 (.cond (.t 92)
  (.seq (.region [⟨(some 2), none, .asg (.c (.i .i64 22))⟩] none [2])
  .ret)
  .skip))
 (.seq (.seq (.region [⟨(some 93), none, .mov (.t 5)⟩,
   ⟨(some 94), none, .mov (.t 93)⟩,
   ⟨(some 95), some (94, true), .fld 13 (.t 1)⟩,
   ⟨(some 96), some (94, true), .load none (.t 95)⟩,
   ⟨(some 97), some (94, true), .call (.c (.fn (.func F_ref02_Plain) [] [])) [(.t 96)]⟩,
   ⟨(some 98), some (94, true), .un .not (.t 97)⟩,
   ⟨(some 99), none, .pick (.t 94) (.t 98) (.c (.b false))⟩] none [1, 3, 4, 6, 7, 99])
 (.cond (.t 99)
  (.seq (.region [⟨(some 2), none, .asg (.c (.i .i64 20))⟩] none [2])
  .ret)
  .skip))
 (.seq (.seq (.region [⟨(some 10), none, .asg (.c (.i .i64 0))⟩] none [1, 3, 4, 6, 7, 10])
 (.block 0
  (.loop [1, 3, 4, 6, 7, 10] ir_ref02_CheckAxiom_L0)))
 (.seq (.seq (.region [⟨(some 114), none, .mov (.t 6)⟩,
   ⟨(some 115), none, .mov (.t 114)⟩,
   ⟨(some 116), some (115, true), .fld 14 (.t 1)⟩,
   ⟨(some 117), some (115, true), .load none (.t 116)⟩,
   ⟨(some 118), some (115, true), .call (.c (.fn (.func F_ref02_Person) [] [])) [(.t 117)]⟩,
   ⟨(some 119), some (115, true), .un .not (.t 118)⟩,
   ⟨(some 120), none, .pick (.t 115) (.t 119) (.c (.b false))⟩,
   ⟨(some 121), none, .mov (.t 120)⟩,
   ⟨(some 122), some (121, false), .mov (.t 7)⟩,
   ⟨(some 123), some (121, false), .mov (.t 122)⟩,
   ⟨(some 124), some (123, true), .fld 15 (.t 1)⟩,
   ⟨(some 125), some (123, true), .load none (.t 124)⟩,
   ⟨(some 126), some (123, true), .call (.c (.fn (.func F_ref02_Person) [] [])) [(.t 125)]⟩,
   ⟨(some 127), some (123, true), .un .not (.t 126)⟩,
   ⟨(some 128), some (121, false), .pick (.t 123) (.t 127) (.c (.b false))⟩,
   ⟨(some 129), none, .pick (.t 121) (.c (.b true)) (.t 128)⟩] none [1, 3, 4, 129])
 (.cond (.t 129)
  (.seq (.region [⟨(some 2), none, .asg (.c (.i .i64 20))⟩] none [2])
  .ret)
  .skip))
 (.seq (.seq (.region [⟨(some 130), none, .mov (.t 3)⟩] none [1, 4, 130])
 (.cond (.t 130)
  (.seq (.region [⟨(some 131), none, .fld 2 (.t 1)⟩,
    ⟨(some 132), none, .load (some 5) (.t 131)⟩,
    ⟨(some 133), none, .call (.c (.fn (.func F_ref02_CheckConcept) [] [])) [(.t 132)]⟩,
    ⟨(some 11), none, .asg (.t 133)⟩] none [1, 4, 11])
  (.seq (.region [⟨(some 134), none, .mov (.t 11)⟩,
    ⟨(some 135), none, .bin .neq (.t 134) (.c (.i .i64 0))⟩] none [1, 4, 11, 135])
  (.cond (.t 135)
   (.seq (.region [⟨(some 136), none, .mov (.t 11)⟩,
     ⟨(some 2), none, .asg (.t 136)⟩] none [2])
   .ret)
   .skip)))
  .skip))
 (.seq (.seq (.region [⟨(some 137), none, .mov (.t 4)⟩] none [1, 4, 137])
 (.cond (.t 137)
  (.seq (.region [⟨(some 138), none, .fld 7 (.t 1)⟩,
    ⟨(some 139), none, .load (some 5) (.t 138)⟩,
    ⟨(some 140), none, .call (.c (.fn (.func F_ref02_CheckConcept) [] [])) [(.t 139)]⟩,
    ⟨(some 12), none, .asg (.t 140)⟩] none [1, 4, 12])
  (.seq (.region [⟨(some 141), none, .mov (.t 12)⟩,
    ⟨(some 142), none, .bin .neq (.t 141) (.c (.i .i64 0))⟩] none [1, 4, 12, 142])
  (.cond (.t 142)
   (.seq (.region [⟨(some 143), none, .mov (.t 12)⟩,
     ⟨(some 2), none, .asg (.t 143)⟩] none [2])
   .ret)
   .skip)))
  .skip))
 (.seq (.seq (.region [⟨(some 144), none, .mov (.t 4)⟩,
   ⟨(some 145), none, .mov (.t 144)⟩,
   ⟨(some 146), some (145, true), .fld 0 (.t 1)⟩,
   ⟨(some 147), some (145, true), .load none (.t 146)⟩,
   ⟨(some 148), some (145, true), .bin .neq (.t 147) (.c (.i .i64 3))⟩,
   ⟨(some 149), none, .pick (.t 145) (.t 148) (.c (.b false))⟩,
   ⟨(some 150), none, .mov (.t 149)⟩,
   ⟨(some 151), some (150, true), .fld 7 (.t 1)⟩,
   ⟨(some 152), some (150, true), .load (some 5) (.t 151)⟩,
   ⟨(some 153), some (150, true), .call (.c (.fn (.func F_ref02_bare) [] [])) [(.t 152)]⟩,
   ⟨(some 154), none, .pick (.t 150) (.t 153) (.c (.b false))⟩,
   ⟨(some 155), none, .mov (.t 154)⟩,
   ⟨(some 156), some (155, false), .fld 0 (.t 1)⟩,
   ⟨(some 157), some (155, false), .load none (.t 156)⟩,
   ⟨(some 158), some (155, false), .bin .eql (.t 157) (.c (.i .i64 2))⟩,
   ⟨(some 159), some (155, false), .mov (.t 158)⟩,
   ⟨(some 160), some (159, true), .fld 2 (.t 1)⟩,
   ⟨(some 161), some (159, true), .load (some 5) (.t 160)⟩,
   ⟨(some 162), some (159, true), .call (.c (.fn (.func F_ref02_bare) [] [])) [(.t 161)]⟩,
   ⟨(some 163), some (155, false), .pick (.t 159) (.t 162) (.c (.b false))⟩,
   ⟨(some 164), none, .pick (.t 155) (.c (.b true)) (.t 163)⟩] none [164])
 (.cond (.t 164)
  (.seq (.region [⟨(some 2), none, .asg (.c (.i .i64 22))⟩] none [2])
  .ret)
  .skip))
 (.seq (.region [⟨(some 2), none, .asg (.c (.i .i64 0))⟩] none [2])
 .ret))))))))))⟩

/-- veilstone/veilstoneref02.fields -/
def ir_ref02_fields : AFun := ⟨1, [.tmp 2, .tmp 3, .tmp 4, .tmp 5, .tmp 6, .tmp 7, .tmp 8], true, false,
 (.seq (.region [⟨(some 2), none, .asg (.c (.b false))⟩,
   ⟨(some 3), none, .asg (.c (.b false))⟩,
   ⟨(some 4), none, .asg (.c (.b false))⟩,
   ⟨(some 5), none, .asg (.c (.b false))⟩,
   ⟨(some 6), none, .asg (.c (.b false))⟩,
   ⟨(some 7), none, .asg (.c (.i .i64 0))⟩,
   ⟨(some 8), none, .asg (.c (.i .i64 0))⟩] none [0])
 (.seq (.seq (.region [⟨(some 9), none, .mov (.t 0)⟩] none [9])
 (.block 0
  (.seq (.seq (.region [⟨(some 11), none, .bin .eql (.t 9) (.c (.i .i64 1))⟩,
    ⟨(some 10), none, .asg (.t 11)⟩] none [9, 10])
  (.cond (.t 10)
   .skip
   (.seq (.region [⟨(some 12), none, .bin .eql (.t 9) (.c (.i .i64 2))⟩,
     ⟨(some 10), none, .asg (.t 12)⟩] none [9, 10])
   (.cond (.t 10)
    .skip
    (.region [⟨(some 13), none, .bin .eql (.t 9) (.c (.i .i64 3))⟩,
      ⟨(some 10), none, .asg (.t 13)⟩] none [9, 10])))))
  (.cond (.t 10)
   (.seq (.region [⟨(some 2), none, .asg (.c (.b true))⟩,
     ⟨(some 3), none, .asg (.c (.b true))⟩,
     ⟨(some 4), none, .asg (.c (.b false))⟩,
     ⟨(some 5), none, .asg (.c (.b false))⟩,
     ⟨(some 6), none, .asg (.c (.b false))⟩,
     ⟨(some 7), none, .asg (.c (.i .i64 0))⟩,
     ⟨(some 8), none, .asg (.c (.i .i64 0))⟩] none [2, 3, 4, 5, 6, 7, 8])
   .ret)
   (.seq (.region [⟨(some 15), none, .bin .eql (.t 9) (.c (.i .i64 4))⟩,
     ⟨(some 14), none, .asg (.t 15)⟩] none [9, 14])
   (.cond (.t 14)
    (.seq (.region [⟨(some 2), none, .asg (.c (.b false))⟩,
      ⟨(some 3), none, .asg (.c (.b true))⟩,
      ⟨(some 4), none, .asg (.c (.b true))⟩,
      ⟨(some 5), none, .asg (.c (.b false))⟩,
      ⟨(some 6), none, .asg (.c (.b false))⟩,
      ⟨(some 7), none, .asg (.c (.i .i64 0))⟩,
      ⟨(some 8), none, .asg (.c (.i .i64 0))⟩] none [2, 3, 4, 5, 6, 7, 8])
    .ret)
    (.seq (.region [⟨(some 17), none, .bin .eql (.t 9) (.c (.i .i64 5))⟩,
      ⟨(some 16), none, .asg (.t 17)⟩] none [9, 16])
    (.cond (.t 16)
     (.seq (.region [⟨(some 2), none, .asg (.c (.b false))⟩,
       ⟨(some 3), none, .asg (.c (.b false))⟩,
       ⟨(some 4), none, .asg (.c (.b true))⟩,
       ⟨(some 5), none, .asg (.c (.b false))⟩,
       ⟨(some 6), none, .asg (.c (.b false))⟩,
       ⟨(some 7), none, .asg (.c (.i .i64 1))⟩,
       ⟨(some 8), none, .asg (.c (.i .i64 1))⟩] none [2, 3, 4, 5, 6, 7, 8])
     .ret)
     (.seq (.region [⟨(some 19), none, .bin .eql (.t 9) (.c (.i .i64 6))⟩,
       ⟨(some 18), none, .asg (.t 19)⟩] none [9, 18])
     (.cond (.t 18)
      (.seq (.region [⟨(some 2), none, .asg (.c (.b false))⟩,
        ⟨(some 3), none, .asg (.c (.b false))⟩,
        ⟨(some 4), none, .asg (.c (.b true))⟩,
        ⟨(some 5), none, .asg (.c (.b false))⟩,
        ⟨(some 6), none, .asg (.c (.b false))⟩,
        ⟨(some 7), none, .asg (.c (.i .i64 2))⟩,
        ⟨(some 8), none, .asg (.c (.i .i64 4))⟩] none [2, 3, 4, 5, 6, 7, 8])
      .ret)
      (.seq (.region [⟨(some 21), none, .bin .eql (.t 9) (.c (.i .i64 7))⟩,
        ⟨(some 20), none, .asg (.t 21)⟩] none [9, 20])
      (.cond (.t 20)
       (.seq (.region [⟨(some 2), none, .asg (.c (.b false))⟩,
         ⟨(some 3), none, .asg (.c (.b false))⟩,
         ⟨(some 4), none, .asg (.c (.b true))⟩,
         ⟨(some 5), none, .asg (.c (.b false))⟩,
         ⟨(some 6), none, .asg (.c (.b false))⟩,
         ⟨(some 7), none, .asg (.c (.i .i64 0))⟩,
         ⟨(some 8), none, .asg (.c (.i .i64 0))⟩] none [2, 3, 4, 5, 6, 7, 8])
       .ret)
       (.seq (.region [⟨(some 23), none, .bin .eql (.t 9) (.c (.i .i64 8))⟩,
         ⟨(some 22), none, .asg (.t 23)⟩] none [9, 22])
       (.cond (.t 22)
        (.seq (.region [⟨(some 2), none, .asg (.c (.b false))⟩,
          ⟨(some 3), none, .asg (.c (.b true))⟩,
          ⟨(some 4), none, .asg (.c (.b false))⟩,
          ⟨(some 5), none, .asg (.c (.b true))⟩,
          ⟨(some 6), none, .asg (.c (.b false))⟩,
          ⟨(some 7), none, .asg (.c (.i .i64 0))⟩,
          ⟨(some 8), none, .asg (.c (.i .i64 0))⟩] none [2, 3, 4, 5, 6, 7, 8])
        .ret)
        (.seq (.region [⟨(some 25), none, .bin .eql (.t 9) (.c (.i .i64 9))⟩,
          ⟨(some 24), none, .asg (.t 25)⟩] none [24])
        (.cond (.t 24)
         (.seq (.region [⟨(some 2), none, .asg (.c (.b false))⟩,
           ⟨(some 3), none, .asg (.c (.b false))⟩,
           ⟨(some 4), none, .asg (.c (.b true))⟩,
           ⟨(some 5), none, .asg (.c (.b true))⟩,
           ⟨(some 6), none, .asg (.c (.b true))⟩,
           ⟨(some 7), none, .asg (.c (.i .i64 0))⟩,
           ⟨(some 8), none, .asg (.c (.i .i64 0))⟩] none [2, 3, 4, 5, 6, 7, 8])
         .ret)
         .skip))))))))))))))))
 (.seq (.region [⟨(some 2), none, .asg (.c (.b false))⟩,
   ⟨(some 3), none, .asg (.c (.b false))⟩,
   ⟨(some 4), none, .asg (.c (.b false))⟩,
   ⟨(some 5), none, .asg (.c (.b false))⟩,
   ⟨(some 6), none, .asg (.c (.b false))⟩,
   ⟨(some 7), none, .asg (.c (.i .i64 0))⟩,
   ⟨(some 8), none, .asg (.c (.i .i64 0))⟩] none [2, 3, 4, 5, 6, 7, 8])
 .ret)))⟩

/-- veilstone/veilstoneref02.Empty -/
def ir_ref02_Empty : AFun := ⟨1, [.tmp 2], true, false,
 (.seq (.region [⟨(some 1), none, .lbox (.t 0)⟩,
   ⟨(some 2), none, .asg (.c (.b false))⟩] none [1])
 (.seq (.region [⟨(some 3), none, .fld 0 (.t 1)⟩,
   ⟨(some 4), none, .load none (.t 3)⟩,
   ⟨(some 5), none, .bin .eql (.t 4) (.c (.i .i64 0))⟩,
   ⟨(some 6), none, .mov (.t 5)⟩,
   ⟨(some 7), some (6, true), .fld 1 (.t 1)⟩,
   ⟨(some 8), some (6, true), .load none (.t 7)⟩,
   ⟨(some 9), some (6, true), .bin .eql (.t 8) (.c (.s []))⟩,
   ⟨(some 10), none, .pick (.t 6) (.t 9) (.c (.b false))⟩,
   ⟨(some 11), none, .mov (.t 10)⟩,
   ⟨(some 12), some (11, true), .fld 2 (.t 1)⟩,
   ⟨(some 13), some (11, true), .load none (.t 12)⟩,
   ⟨(some 14), some (11, true), .bin .eql (.t 13) (.c (.i .i64 0))⟩,
   ⟨(some 15), none, .pick (.t 11) (.t 14) (.c (.b false))⟩,
   ⟨(some 16), none, .mov (.t 15)⟩,
   ⟨(some 17), some (16, true), .fld 3 (.t 1)⟩,
   ⟨(some 18), some (16, true), .load none (.t 17)⟩,
   ⟨(some 19), some (16, true), .bin .eql (.t 18) (.c (.i .i64 0))⟩,
   ⟨(some 20), none, .pick (.t 16) (.t 19) (.c (.b false))⟩,
   ⟨(some 21), none, .mov (.t 20)⟩,
   ⟨(some 22), some (21, true), .fld 4 (.t 1)⟩,
   ⟨(some 23), some (21, true), .load none (.t 22)⟩,
   ⟨(some 24), some (21, true), .len 0 (.t 23)⟩,
   ⟨(some 25), some (21, true), .bin .eql (.t 24) (.c (.i .i64 0))⟩,
   ⟨(some 26), none, .pick (.t 21) (.t 25) (.c (.b false))⟩,
   ⟨(some 2), none, .asg (.t 26)⟩] none [2])
 .ret))⟩

def ir_ref02_Plain_L0 : ACode :=
 (.seq (.seq (.region [⟨(some 7), none, .mov (.t 3)⟩,
   ⟨(some 8), none, .mov (.t 0)⟩,
   ⟨(some 9), none, .len 1 (.t 8)⟩,
   ⟨(some 10), none, .bin .lss (.t 7) (.t 9)⟩] none [0, 3, 10])
 (.cond (.t 10)
  .skip
  (.exit 0)))
 (.seq (.block 1
  (.seq (.region [⟨(some 13), none, .mov (.t 0)⟩,
    ⟨(some 14), none, .mov (.t 3)⟩,
    ⟨(some 15), none, .idxs (.t 13) (.t 14)⟩,
    ⟨(some 16), none, .bin .eql (.t 15) (.c (.i .u8 58))⟩] none [0, 3, 16])
  (.cond (.t 16)
   (.seq (.region [⟨(some 17), none, .mov (.t 0)⟩,
     ⟨(some 18), none, .mov (.t 3)⟩,
     ⟨(some 19), none, .slcs (.t 17) none (some (.t 18))⟩,
     ⟨(some 20), none, .call (.c (.fn (.func F_ref02_Word) [] [])) [(.t 19)]⟩,
     ⟨(some 21), none, .mov (.t 20)⟩,
     ⟨(some 22), some (21, true), .mov (.t 0)⟩,
     ⟨(some 23), some (21, true), .mov (.t 3)⟩,
     ⟨(some 24), some (21, true), .bin .add (.t 23) (.c (.i .i64 1))⟩,
     ⟨(some 25), some (21, true), .slcs (.t 22) (some (.t 24)) none⟩,
     ⟨(some 26), some (21, true), .call (.c (.fn (.func F_ref02_Word) [] [])) [(.t 25)]⟩,
     ⟨(some 27), none, .pick (.t 21) (.t 26) (.c (.b false))⟩,
     ⟨(some 2), none, .asg (.t 27)⟩] none [2])
   .ret)
   .skip)))
 (.region [⟨(some 11), none, .mov (.t 3)⟩,
   ⟨(some 12), none, .bin .add (.t 11) (.c (.i .i64 1))⟩,
   ⟨(some 3), none, .asg (.t 12)⟩] none [0, 3])))
/-- veilstone/veilstoneref02.Plain -/
def ir_ref02_Plain : AFun := ⟨1, [.tmp 2], true, false,
 (.seq (.region [⟨(some 2), none, .asg (.c (.b false))⟩] none [0])
 (.seq (.seq (.region [⟨(some 4), none, .mov (.t 0)⟩,
   ⟨(some 5), none, .len 1 (.t 4)⟩,
   ⟨(some 6), none, .bin .gtr (.t 5) (.c (.i .i64 24))⟩] none [0, 6])
 (.cond (.t 6)
  (.seq (.region [⟨(some 2), none, .asg (.c (.b false))⟩] none [2])
  .ret)
  .skip))
 (.seq (.seq (.region [⟨(some 3), none, .asg (.c (.i .i64 0))⟩] none [0, 3])
 (.block 0
  (.loop [0, 3] ir_ref02_Plain_L0)))
 (.seq (.region [⟨(some 28), none, .mov (.t 0)⟩,
   ⟨(some 29), none, .call (.c (.fn (.func F_ref02_Word) [] [])) [(.t 28)]⟩,
   ⟨(some 2), none, .asg (.t 29)⟩] none [2])
 .ret))))⟩

def ir_ref02_Word_L0 : ACode :=
 (.seq (.seq (.region [⟨(some 17), none, .mov (.t 3)⟩,
   ⟨(some 18), none, .mov (.t 0)⟩,
   ⟨(some 19), none, .len 1 (.t 18)⟩,
   ⟨(some 20), none, .bin .lss (.t 17) (.t 19)⟩] none [0, 3, 20])
 (.cond (.t 20)
  .skip
  (.exit 0)))
 (.seq (.block 1
  (.seq (.region [⟨(some 23), none, .mov (.t 0)⟩,
    ⟨(some 24), none, .mov (.t 3)⟩,
    ⟨(some 25), none, .idxs (.t 23) (.t 24)⟩,
    ⟨(some 26), none, .call (.c (.fn (.func F_ref02_inner) [] [])) [(.t 25)]⟩,
    ⟨(some 27), none, .un .not (.t 26)⟩] none [0, 3, 27])
  (.cond (.t 27)
   (.seq (.region [⟨(some 2), none, .asg (.c (.b false))⟩] none [2])
   .ret)
   .skip)))
 (.region [⟨(some 21), none, .mov (.t 3)⟩,
   ⟨(some 22), none, .bin .add (.t 21) (.c (.i .i64 1))⟩,
   ⟨(some 3), none, .asg (.t 22)⟩] none [0, 3])))
/-- veilstone/veilstoneref02.Word -/
def ir_ref02_Word : AFun := ⟨1, [.tmp 2], true, false,
 (.seq (.region [⟨(some 2), none, .asg (.c (.b false))⟩] none [0])
 (.seq (.seq (.region [⟨(some 4), none, .mov (.t 0)⟩,
   ⟨(some 5), none, .len 1 (.t 4)⟩,
   ⟨(some 6), none, .bin .eql (.t 5) (.c (.i .i64 0))⟩,
   ⟨(some 7), none, .mov (.t 6)⟩,
   ⟨(some 8), some (7, false), .mov (.t 0)⟩,
   ⟨(some 9), some (7, false), .idxs (.t 8) (.c (.i .i64 0))⟩,
   ⟨(some 10), some (7, false), .call (.c (.fn (.func F_ref02_letter) [] [])) [(.t 9)]⟩,
   ⟨(some 11), some (7, false), .un .not (.t 10)⟩,
   ⟨(some 12), none, .pick (.t 7) (.c (.b true)) (.t 11)⟩,
   ⟨(some 13), none, .mov (.t 12)⟩,
   ⟨(some 14), some (13, false), .mov (.t 0)⟩,
   ⟨(some 15), some (13, false), .call (.c (.fn (.func F_ref02_keyword) [] [])) [(.t 14)]⟩,
   ⟨(some 16), none, .pick (.t 13) (.c (.b true)) (.t 15)⟩] none [0, 16])
 (.cond (.t 16)
  (.seq (.region [⟨(some 2), none, .asg (.c (.b false))⟩] none [2])
  .ret)
  .skip))
 (.seq (.seq (.region [⟨(some 3), none, .asg (.c (.i .i64 0))⟩] none [0, 3])
 (.block 0
  (.loop [0, 3] ir_ref02_Word_L0)))
 (.seq (.region [⟨(some 2), none, .asg (.c (.b true))⟩] none [2])
 .ret))))⟩

/-- veilstone/veilstoneref02.letter -/
def ir_ref02_letter : AFun := ⟨1, [.tmp 2], true, false,
 (.seq (.region [⟨(some 2), none, .asg (.c (.b false))⟩] none [0])
 (.seq (.region [⟨(some 3), none, .mov (.t 0)⟩,
   ⟨(some 4), none, .bin .geq (.t 3) (.c (.i .u8 97))⟩,
   ⟨(some 5), none, .mov (.t 4)⟩,
   ⟨(some 6), some (5, true), .mov (.t 0)⟩,
   ⟨(some 7), some (5, true), .bin .leq (.t 6) (.c (.i .u8 122))⟩,
   ⟨(some 8), none, .pick (.t 5) (.t 7) (.c (.b false))⟩,
   ⟨(some 9), none, .mov (.t 8)⟩,
   ⟨(some 10), some (9, false), .mov (.t 0)⟩,
   ⟨(some 11), some (9, false), .bin .geq (.t 10) (.c (.i .u8 65))⟩,
   ⟨(some 12), some (9, false), .mov (.t 11)⟩,
   ⟨(some 13), some (12, true), .mov (.t 0)⟩,
   ⟨(some 14), some (12, true), .bin .leq (.t 13) (.c (.i .u8 90))⟩,
   ⟨(some 15), some (9, false), .pick (.t 12) (.t 14) (.c (.b false))⟩,
   ⟨(some 16), none, .pick (.t 9) (.c (.b true)) (.t 15)⟩,
   ⟨(some 2), none, .asg (.t 16)⟩] none [2])
 .ret))⟩

/-- veilstone/veilstoneref02.keyword -/
def ir_ref02_keyword : AFun := ⟨1, [.tmp 2], true, false,
 (.seq (.region [⟨(some 2), none, .asg (.c (.b false))⟩] none [0])
 (.seq (.seq (.region [⟨(some 3), none, .mov (.t 0)⟩] none [3])
 (.block 0
  (.seq (.seq (.region [⟨(some 5), none, .bin .eql (.t 3) (.c (.s [97, 110, 100]))⟩,
    ⟨(some 4), none, .asg (.t 5)⟩] none [3, 4])
  (.cond (.t 4)
   .skip
   (.seq (.region [⟨(some 6), none, .bin .eql (.t 3) (.c (.s [115, 111, 109, 101]))⟩,
     ⟨(some 4), none, .asg (.t 6)⟩] none [3, 4])
   (.cond (.t 4)
    .skip
    (.seq (.region [⟨(some 7), none, .bin .eql (.t 3) (.c (.s [105, 110]))⟩,
      ⟨(some 4), none, .asg (.t 7)⟩] none [3, 4])
    (.cond (.t 4)
     .skip
     (.seq (.region [⟨(some 8), none, .bin .eql (.t 3) (.c (.s [116, 111]))⟩,
       ⟨(some 4), none, .asg (.t 8)⟩] none [3, 4])
     (.cond (.t 4)
      .skip
      (.seq (.region [⟨(some 9), none, .bin .eql (.t 3) (.c (.s [110, 111, 116, 104, 105, 110, 103]))⟩,
        ⟨(some 4), none, .asg (.t 9)⟩] none [3, 4])
      (.cond (.t 4)
       .skip
       (.seq (.region [⟨(some 10), none, .bin .eql (.t 3) (.c (.s [101, 118, 101, 114, 121, 116, 104, 105, 110, 103]))⟩,
         ⟨(some 4), none, .asg (.t 10)⟩] none [3, 4])
       (.cond (.t 4)
        .skip
        (.seq (.region [⟨(some 11), none, .bin .eql (.t 3) (.c (.s [111, 110, 101]))⟩,
          ⟨(some 4), none, .asg (.t 11)⟩] none [3, 4])
        (.cond (.t 4)
         .skip
         (.seq (.region [⟨(some 12), none, .bin .eql (.t 3) (.c (.s [111, 102]))⟩,
           ⟨(some 4), none, .asg (.t 12)⟩] none [3, 4])
         (.cond (.t 4)
          .skip
          (.seq (.region [⟨(some 13), none, .bin .eql (.t 3) (.c (.s [111, 112, 101, 110]))⟩,
            ⟨(some 4), none, .asg (.t 13)⟩] none [3, 4])
          (.cond (.t 4)
           .skip
           (.seq (.region [⟨(some 14), none, .bin .eql (.t 3) (.c (.s [112, 114, 105, 118, 97, 116, 101]))⟩,
             ⟨(some 4), none, .asg (.t 14)⟩] none [3, 4])
           (.cond (.t 4)
            .skip
            (.seq (.region [⟨(some 15), none, .bin .eql (.t 3) (.c (.s [115, 117, 98]))⟩,
              ⟨(some 4), none, .asg (.t 15)⟩] none [3, 4])
            (.cond (.t 4)
             .skip
             (.seq (.region [⟨(some 16), none, .bin .eql (.t 3) (.c (.s [115, 97, 109, 101]))⟩,
               ⟨(some 4), none, .asg (.t 16)⟩] none [3, 4])
             (.cond (.t 4)
              .skip
              (.seq (.region [⟨(some 17), none, .bin .eql (.t 3) (.c (.s [100, 105, 115, 106, 111, 105, 110, 116]))⟩,
                ⟨(some 4), none, .asg (.t 17)⟩] none [3, 4])
              (.cond (.t 4)
               .skip
               (.seq (.region [⟨(some 18), none, .bin .eql (.t 3) (.c (.s [100, 111, 109, 97, 105, 110]))⟩,
                 ⟨(some 4), none, .asg (.t 18)⟩] none [3, 4])
               (.cond (.t 4)
                .skip
                (.seq (.region [⟨(some 19), none, .bin .eql (.t 3) (.c (.s [114, 111, 108, 101]))⟩,
                  ⟨(some 4), none, .asg (.t 19)⟩] none [3, 4])
                (.cond (.t 4)
                 .skip
                 (.seq (.region [⟨(some 20), none, .bin .eql (.t 3) (.c (.s [99, 104, 97, 105, 110]))⟩,
                   ⟨(some 4), none, .asg (.t 20)⟩] none [3, 4])
                 (.cond (.t 4)
                  .skip
                  (.seq (.region [⟨(some 21), none, .bin .eql (.t 3) (.c (.s [114, 101, 102, 108, 101, 120, 105, 118, 101]))⟩,
                    ⟨(some 4), none, .asg (.t 21)⟩] none [3, 4])
                  (.cond (.t 4)
                   .skip
                   (.seq (.region [⟨(some 22), none, .bin .eql (.t 3) (.c (.s [116, 121, 112, 101]))⟩,
                     ⟨(some 4), none, .asg (.t 22)⟩] none [3, 4])
                   (.cond (.t 4)
                    .skip
                    (.seq (.region [⟨(some 23), none, .bin .eql (.t 3) (.c (.s [108, 105, 110, 107]))⟩,
                      ⟨(some 4), none, .asg (.t 23)⟩] none [3, 4])
                    (.cond (.t 4)
                     .skip
                     (.seq (.region [⟨(some 24), none, .bin .eql (.t 3) (.c (.s [115, 101, 108, 101, 99, 116]))⟩,
                       ⟨(some 4), none, .asg (.t 24)⟩] none [3, 4])
                     (.cond (.t 4)
                      .skip
                      (.seq (.region [⟨(some 25), none, .bin .eql (.t 3) (.c (.s [119, 104, 101, 114, 101]))⟩,
                        ⟨(some 4), none, .asg (.t 25)⟩] none [3, 4])
                      (.cond (.t 4)
                       .skip
                       (.region [⟨(some 26), none, .bin .eql (.t 3) (.c (.s [111, 114]))⟩,
                         ⟨(some 4), none, .asg (.t 26)⟩] none [4])))))))))))))))))))))))))))))))))))))))))))
  (.cond (.t 4)
   (.seq (.region [⟨(some 2), none, .asg (.c (.b true))⟩] none [2])
   .ret)
   .skip))))
 (.seq (.region [⟨(some 2), none, .asg (.c (.b false))⟩] none [2])
 .ret)))⟩

/-- veilstone/veilstoneref02.inner -/
def ir_ref02_inner : AFun := ⟨1, [.tmp 2], true, false,
 (.seq (.region [⟨(some 2), none, .asg (.c (.b false))⟩] none [0])
 (.seq (.region [⟨(some 3), none, .mov (.t 0)⟩,
   ⟨(some 4), none, .call (.c (.fn (.func F_ref02_letter) [] [])) [(.t 3)]⟩,
   ⟨(some 5), none, .mov (.t 4)⟩,
   ⟨(some 6), some (5, false), .mov (.t 0)⟩,
   ⟨(some 7), some (5, false), .bin .geq (.t 6) (.c (.i .u8 48))⟩,
   ⟨(some 8), some (5, false), .mov (.t 7)⟩,
   ⟨(some 9), some (8, true), .mov (.t 0)⟩,
   ⟨(some 10), some (8, true), .bin .leq (.t 9) (.c (.i .u8 57))⟩,
   ⟨(some 11), some (5, false), .pick (.t 8) (.t 10) (.c (.b false))⟩,
   ⟨(some 12), none, .pick (.t 5) (.c (.b true)) (.t 11)⟩,
   ⟨(some 13), none, .mov (.t 12)⟩,
   ⟨(some 14), some (13, false), .mov (.t 0)⟩,
   ⟨(some 15), some (13, false), .bin .eql (.t 14) (.c (.i .u8 95))⟩,
   ⟨(some 16), none, .pick (.t 13) (.c (.b true)) (.t 15)⟩,
   ⟨(some 2), none, .asg (.t 16)⟩] none [2])
 .ret))⟩

/-- veilstone/veilstoneref02.Person -/
def ir_ref02_Person : AFun := ⟨1, [.tmp 2], true, false,
 (.seq (.region [⟨(some 2), none, .asg (.c (.b false))⟩] none [0])
 (.seq (.region [⟨(some 3), none, .mov (.t 0)⟩,
   ⟨(some 4), none, .call (.c (.fn (.func F_ref02_Plain) [] [])) [(.t 3)]⟩,
   ⟨(some 5), none, .mov (.t 4)⟩,
   ⟨(some 6), some (5, false), .mov (.t 0)⟩,
   ⟨(some 7), some (5, false), .call (.c (.fn (.func F_ref02_Reserved) [] [])) [(.t 6)]⟩,
   ⟨(some 8), none, .pick (.t 5) (.c (.b true)) (.t 7)⟩,
   ⟨(some 2), none, .asg (.t 8)⟩] none [2])
 .ret))⟩

def ir_ref02_Reserved_L0 : ACode :=
 (.seq (.seq (.region [⟨(some 17), none, .mov (.t 3)⟩,
   ⟨(some 18), none, .mov (.t 0)⟩,
   ⟨(some 19), none, .len 1 (.t 18)⟩,
   ⟨(some 20), none, .bin .lss (.t 17) (.t 19)⟩] none [0, 3, 20])
 (.cond (.t 20)
  .skip
  (.exit 0)))
 (.seq (.block 1
  (.seq (.region [⟨(some 23), none, .mov (.t 0)⟩,
    ⟨(some 24), none, .mov (.t 3)⟩,
    ⟨(some 25), none, .idxs (.t 23) (.t 24)⟩,
    ⟨(some 26), none, .call (.c (.fn (.func F_ref02_inner) [] [])) [(.t 25)]⟩,
    ⟨(some 27), none, .un .not (.t 26)⟩] none [0, 3, 27])
  (.cond (.t 27)
   (.seq (.region [⟨(some 2), none, .asg (.c (.b false))⟩] none [2])
   .ret)
   .skip)))
 (.region [⟨(some 21), none, .mov (.t 3)⟩,
   ⟨(some 22), none, .bin .add (.t 21) (.c (.i .i64 1))⟩,
   ⟨(some 3), none, .asg (.t 22)⟩] none [0, 3])))
/-- veilstone/veilstoneref02.Reserved -/
def ir_ref02_Reserved : AFun := ⟨1, [.tmp 2], true, false,
 (.seq (.region [⟨(some 2), none, .asg (.c (.b false))⟩] none [0])
 (.seq (.seq (.region [⟨(some 4), none, .mov (.t 0)⟩,
   ⟨(some 5), none, .len 1 (.t 4)⟩,
   ⟨(some 6), none, .bin .lss (.t 5) (.c (.i .i64 2))⟩,
   ⟨(some 7), none, .mov (.t 6)⟩,
   ⟨(some 8), some (7, false), .mov (.t 0)⟩,
   ⟨(some 9), some (7, false), .len 1 (.t 8)⟩,
   ⟨(some 10), some (7, false), .bin .gtr (.t 9) (.c (.i .i64 24))⟩,
   ⟨(some 11), none, .pick (.t 7) (.c (.b true)) (.t 10)⟩,
   ⟨(some 12), none, .mov (.t 11)⟩,
   ⟨(some 13), some (12, false), .mov (.t 0)⟩,
   ⟨(some 14), some (12, false), .idxs (.t 13) (.c (.i .i64 0))⟩,
   ⟨(some 15), some (12, false), .bin .neq (.t 14) (.c (.i .u8 95))⟩,
   ⟨(some 16), none, .pick (.t 12) (.c (.b true)) (.t 15)⟩] none [0, 16])
 (.cond (.t 16)
  (.seq (.region [⟨(some 2), none, .asg (.c (.b false))⟩] none [2])
  .ret)
  .skip))
 (.seq (.seq (.region [⟨(some 3), none, .asg (.c (.i .i64 1))⟩] none [0, 3])
 (.block 0
  (.loop [0, 3] ir_ref02_Reserved_L0)))
 (.seq (.region [⟨(some 2), none, .asg (.c (.b true))⟩] none [2])
 .ret))))⟩

/-- veilstone/veilstoneref02.CheckConcept -/
def ir_ref02_CheckConcept : AFun := ⟨1, [.tmp 2], true, false,
 (.seq (.region [⟨(some 1), none, .lbox (.t 0)⟩,
   ⟨(some 2), none, .asg (.c (.i .i64 0))⟩] none [1])
 (.seq (.seq (.region [⟨(some 3), none, .load (some 5) (.t 1)⟩,
   ⟨(some 4), none, .call (.c (.fn (.func F_ref02_Depth) [] [])) [(.t 3)]⟩,
   ⟨(some 5), none, .bin .gtr (.t 4) (.c (.i .i64 8))⟩,
   ⟨(some 6), none, .mov (.t 5)⟩,
   ⟨(some 7), some (6, false), .load (some 5) (.t 1)⟩,
   ⟨(some 8), some (6, false), .call (.c (.fn (.func F_ref02_Size) [] [])) [(.t 7)]⟩,
   ⟨(some 9), some (6, false), .bin .gtr (.t 8) (.c (.i .i64 64))⟩,
   ⟨(some 10), none, .pick (.t 6) (.c (.b true)) (.t 9)⟩] none [1, 10])
 (.cond (.t 10)
  (.seq (.region [⟨(some 2), none, .asg (.c (.i .i64 21))⟩] none [2])
  .ret)
  .skip))
 (.seq (.region [⟨(some 11), none, .load (some 5) (.t 1)⟩,
   ⟨(some 12), none, .call (.c (.fn (.func F_ref02_walk) [] [])) [(.t 11)]⟩,
   ⟨(some 2), none, .asg (.t 12)⟩] none [2])
 .ret)))⟩

def ir_ref02_Depth_L0 : ACode :=
 (.seq (.seq (.region [⟨(some 5), none, .mov (.t 4)⟩,
   ⟨(some 6), none, .fld 4 (.t 1)⟩,
   ⟨(some 7), none, .load none (.t 6)⟩,
   ⟨(some 8), none, .len 0 (.t 7)⟩,
   ⟨(some 9), none, .bin .lss (.t 5) (.t 8)⟩] none [1, 3, 4, 9])
 (.cond (.t 9)
  .skip
  (.exit 0)))
 (.seq (.block 1
  (.region [⟨(some 12), none, .mov (.t 3)⟩,
    ⟨(some 13), none, .fld 4 (.t 1)⟩,
    ⟨(some 14), none, .load none (.t 13)⟩,
    ⟨(some 15), none, .mov (.t 4)⟩,
    ⟨(some 16), none, .idx 5 (.t 14) (.t 15)⟩,
    ⟨(some 17), none, .load (some 5) (.t 16)⟩,
    ⟨(some 18), none, .call (.c (.fn (.func F_ref02_Depth) [] [])) [(.t 17)]⟩,
    ⟨(some 19), none, .bin .add (.c (.i .i64 1)) (.t 18)⟩,
    ⟨(some 20), none, .minmax false (.t 12) (.t 19)⟩,
    ⟨(some 3), none, .asg (.t 20)⟩] none [1, 3, 4]))
 (.region [⟨(some 10), none, .mov (.t 4)⟩,
   ⟨(some 11), none, .bin .add (.t 10) (.c (.i .i64 1))⟩,
   ⟨(some 4), none, .asg (.t 11)⟩] none [1, 3, 4])))
/-- veilstone/veilstoneref02.Depth -/
def ir_ref02_Depth : AFun := ⟨1, [.tmp 2], true, false,
 (.seq (.region [⟨(some 1), none, .lbox (.t 0)⟩,
   ⟨(some 2), none, .asg (.c (.i .i64 0))⟩] none [1])
 (.seq (.region [⟨(some 3), none, .asg (.c (.i .i64 0))⟩] none [1, 3])
 (.seq (.seq (.region [⟨(some 4), none, .asg (.c (.i .i64 0))⟩] none [1, 3, 4])
 (.block 0
  (.loop [1, 3, 4] ir_ref02_Depth_L0)))
 (.seq (.region [⟨(some 21), none, .mov (.t 3)⟩,
   ⟨(some 2), none, .asg (.t 21)⟩] none [2])
 .ret))))⟩

def ir_ref02_Size_L0 : ACode :=
 (.seq (.seq (.region [⟨(some 5), none, .mov (.t 4)⟩,
   ⟨(some 6), none, .fld 4 (.t 1)⟩,
   ⟨(some 7), none, .load none (.t 6)⟩,
   ⟨(some 8), none, .len 0 (.t 7)⟩,
   ⟨(some 9), none, .bin .lss (.t 5) (.t 8)⟩] none [1, 3, 4, 9])
 (.cond (.t 9)
  .skip
  (.exit 0)))
 (.seq (.block 1
  (.region [⟨(some 12), none, .mov (.t 3)⟩,
    ⟨(some 13), none, .fld 4 (.t 1)⟩,
    ⟨(some 14), none, .load none (.t 13)⟩,
    ⟨(some 15), none, .mov (.t 4)⟩,
    ⟨(some 16), none, .idx 5 (.t 14) (.t 15)⟩,
    ⟨(some 17), none, .load (some 5) (.t 16)⟩,
    ⟨(some 18), none, .call (.c (.fn (.func F_ref02_Size) [] [])) [(.t 17)]⟩,
    ⟨(some 19), none, .bin .add (.t 12) (.t 18)⟩,
    ⟨(some 3), none, .asg (.t 19)⟩] none [1, 3, 4]))
 (.region [⟨(some 10), none, .mov (.t 4)⟩,
   ⟨(some 11), none, .bin .add (.t 10) (.c (.i .i64 1))⟩,
   ⟨(some 4), none, .asg (.t 11)⟩] none [1, 3, 4])))
/-- veilstone/veilstoneref02.Size -/
def ir_ref02_Size : AFun := ⟨1, [.tmp 2], true, false,
 (.seq (.region [⟨(some 1), none, .lbox (.t 0)⟩,
   ⟨(some 2), none, .asg (.c (.i .i64 0))⟩] none [1])
 (.seq (.region [⟨(some 3), none, .asg (.c (.i .i64 1))⟩] none [1, 3])
 (.seq (.seq (.region [⟨(some 4), none, .asg (.c (.i .i64 0))⟩] none [1, 3, 4])
 (.block 0
  (.loop [1, 3, 4] ir_ref02_Size_L0)))
 (.seq (.region [⟨(some 20), none, .mov (.t 3)⟩,
   ⟨(some 2), none, .asg (.t 20)⟩] none [2])
 .ret))))⟩

def ir_ref02_walk_L0 : ACode :=
 (.seq (.seq (.region [⟨(some 11), none, .mov (.t 3)⟩,
   ⟨(some 12), none, .fld 4 (.t 1)⟩,
   ⟨(some 13), none, .load none (.t 12)⟩,
   ⟨(some 14), none, .len 0 (.t 13)⟩,
   ⟨(some 15), none, .bin .lss (.t 11) (.t 14)⟩] none [1, 3, 15])
 (.cond (.t 15)
  .skip
  (.exit 0)))
 (.seq (.block 1
  (.seq (.region [⟨(some 18), none, .fld 4 (.t 1)⟩,
    ⟨(some 19), none, .load none (.t 18)⟩,
    ⟨(some 20), none, .mov (.t 3)⟩,
    ⟨(some 21), none, .idx 5 (.t 19) (.t 20)⟩,
    ⟨(some 22), none, .load (some 5) (.t 21)⟩,
    ⟨(some 23), none, .call (.c (.fn (.func F_ref02_walk) [] [])) [(.t 22)]⟩,
    ⟨(some 4), none, .asg (.t 23)⟩] none [1, 3, 4])
  (.seq (.region [⟨(some 24), none, .mov (.t 4)⟩,
    ⟨(some 25), none, .bin .neq (.t 24) (.c (.i .i64 0))⟩] none [1, 3, 4, 25])
  (.cond (.t 25)
   (.seq (.region [⟨(some 26), none, .mov (.t 4)⟩,
     ⟨(some 2), none, .asg (.t 26)⟩] none [2])
   .ret)
   .skip))))
 (.region [⟨(some 16), none, .mov (.t 3)⟩,
   ⟨(some 17), none, .bin .add (.t 16) (.c (.i .i64 1))⟩,
   ⟨(some 3), none, .asg (.t 17)⟩] none [1, 3])))
/-- veilstone/veilstoneref02.walk -/
def ir_ref02_walk : AFun := ⟨1, [.tmp 2], true, false,
 (.seq (.region [⟨(some 1), none, .lbox (.t 0)⟩,
   ⟨(some 2), none, .asg (.c (.i .i64 0))⟩] none [1])
 (.seq (.seq (.region [⟨(some 5), none, .load (some 5) (.t 1)⟩,
   ⟨(some 6), none, .call (.c (.fn (.func F_ref02_shape) [] [])) [(.t 5)]⟩,
   ⟨(some 7), none, .un .not (.t 6)⟩] none [1, 7])
 (.cond (.t 7)
  (.seq (.region [⟨(some 2), none, .asg (.c (.i .i64 21))⟩] none [2])
  .ret)
  .skip))
 (.seq (.seq (.region [⟨(some 8), none, .load (some 5) (.t 1)⟩,
   ⟨(some 9), none, .call (.c (.fn (.func F_ref02_named) [] [])) [(.t 8)]⟩,
   ⟨(some 10), none, .un .not (.t 9)⟩] none [1, 10])
 (.cond (.t 10)
  (.seq (.region [⟨(some 2), none, .asg (.c (.i .i64 20))⟩] none [2])
  .ret)
  .skip))
 (.seq (.seq (.region [⟨(some 3), none, .asg (.c (.i .i64 0))⟩] none [1, 3])
 (.block 0
  (.loop [1, 3] ir_ref02_walk_L0)))
 (.seq (.region [⟨(some 2), none, .asg (.c (.i .i64 0))⟩] none [2])
 .ret)))))⟩

/-- veilstone/veilstoneref02.shape -/
def ir_ref02_shape : AFun := ⟨1, [.tmp 2], true, false,
 (.seq (.region [⟨(some 1), none, .lbox (.t 0)⟩,
   ⟨(some 2), none, .asg (.c (.b false))⟩] none [1])
 (.seq (.region [⟨(some 4), none, .fld 2 (.t 1)⟩,
   ⟨(some 5), none, .load none (.t 4)⟩,
   ⟨(some 6), none, .bin .eql (.t 5) (.c (.i .i64 0))⟩,
   ⟨(some 7), none, .mov (.t 6)⟩,
   ⟨(some 8), some (7, true), .fld 3 (.t 1)⟩,
   ⟨(some 9), some (7, true), .load none (.t 8)⟩,
   ⟨(some 10), some (7, true), .bin .eql (.t 9) (.c (.i .i64 0))⟩,
   ⟨(some 11), none, .pick (.t 7) (.t 10) (.c (.b false))⟩,
   ⟨(some 3), none, .asg (.t 11)⟩] none [1, 3])
 (.seq (.seq (.region [⟨(some 12), none, .fld 0 (.t 1)⟩,
   ⟨(some 13), none, .load none (.t 12)⟩] none [1, 3, 13])
 (.block 0
  (.seq (.seq (.region [⟨(some 15), none, .bin .eql (.t 13) (.c (.i .i64 1))⟩,
    ⟨(some 14), none, .asg (.t 15)⟩] none [1, 3, 13, 14])
  (.cond (.t 14)
   .skip
   (.region [⟨(some 16), none, .bin .eql (.t 13) (.c (.i .i64 2))⟩,
     ⟨(some 14), none, .asg (.t 16)⟩] none [1, 3, 13, 14])))
  (.cond (.t 14)
   (.seq (.region [⟨(some 17), none, .mov (.t 3)⟩,
     ⟨(some 18), none, .mov (.t 17)⟩,
     ⟨(some 19), some (18, true), .fld 1 (.t 1)⟩,
     ⟨(some 20), some (18, true), .load none (.t 19)⟩,
     ⟨(some 21), some (18, true), .bin .eql (.t 20) (.c (.s []))⟩,
     ⟨(some 22), none, .pick (.t 18) (.t 21) (.c (.b false))⟩,
     ⟨(some 23), none, .mov (.t 22)⟩,
     ⟨(some 24), some (23, true), .fld 4 (.t 1)⟩,
     ⟨(some 25), some (23, true), .load none (.t 24)⟩,
     ⟨(some 26), some (23, true), .len 0 (.t 25)⟩,
     ⟨(some 27), some (23, true), .bin .eql (.t 26) (.c (.i .i64 0))⟩,
     ⟨(some 28), none, .pick (.t 23) (.t 27) (.c (.b false))⟩,
     ⟨(some 2), none, .asg (.t 28)⟩] none [2])
   .ret)
   (.seq (.seq (.region [⟨(some 30), none, .bin .eql (.t 13) (.c (.i .i64 3))⟩,
     ⟨(some 29), none, .asg (.t 30)⟩] none [1, 3, 13, 29])
   (.cond (.t 29)
    .skip
    (.region [⟨(some 31), none, .bin .eql (.t 13) (.c (.i .i64 4))⟩,
      ⟨(some 29), none, .asg (.t 31)⟩] none [1, 3, 13, 29])))
   (.cond (.t 29)
    (.seq (.region [⟨(some 32), none, .mov (.t 3)⟩,
      ⟨(some 33), none, .mov (.t 32)⟩,
      ⟨(some 34), some (33, true), .fld 4 (.t 1)⟩,
      ⟨(some 35), some (33, true), .load none (.t 34)⟩,
      ⟨(some 36), some (33, true), .len 0 (.t 35)⟩,
      ⟨(some 37), some (33, true), .bin .eql (.t 36) (.c (.i .i64 0))⟩,
      ⟨(some 38), none, .pick (.t 33) (.t 37) (.c (.b false))⟩,
      ⟨(some 2), none, .asg (.t 38)⟩] none [2])
    .ret)
    (.seq (.region [⟨(some 40), none, .bin .eql (.t 13) (.c (.i .i64 5))⟩,
      ⟨(some 39), none, .asg (.t 40)⟩] none [1, 3, 13, 39])
    (.cond (.t 39)
     (.seq (.region [⟨(some 41), none, .mov (.t 3)⟩,
       ⟨(some 42), none, .mov (.t 41)⟩,
       ⟨(some 43), some (42, true), .fld 1 (.t 1)⟩,
       ⟨(some 44), some (42, true), .load none (.t 43)⟩,
       ⟨(some 45), some (42, true), .bin .eql (.t 44) (.c (.s []))⟩,
       ⟨(some 46), none, .pick (.t 42) (.t 45) (.c (.b false))⟩,
       ⟨(some 47), none, .mov (.t 46)⟩,
       ⟨(some 48), some (47, true), .fld 4 (.t 1)⟩,
       ⟨(some 49), some (47, true), .load none (.t 48)⟩,
       ⟨(some 50), some (47, true), .len 0 (.t 49)⟩,
       ⟨(some 51), some (47, true), .bin .geq (.t 50) (.c (.i .i64 2))⟩,
       ⟨(some 52), none, .pick (.t 47) (.t 51) (.c (.b false))⟩,
       ⟨(some 53), none, .mov (.t 52)⟩,
       ⟨(some 54), some (53, true), .fld 4 (.t 1)⟩,
       ⟨(some 55), some (53, true), .load none (.t 54)⟩,
       ⟨(some 56), some (53, true), .len 0 (.t 55)⟩,
       ⟨(some 57), some (53, true), .bin .leq (.t 56) (.c (.i .i64 8))⟩,
       ⟨(some 58), none, .pick (.t 53) (.t 57) (.c (.b false))⟩,
       ⟨(some 2), none, .asg (.t 58)⟩] none [2])
     .ret)
     (.seq (.region [⟨(some 60), none, .bin .eql (.t 13) (.c (.i .i64 6))⟩,
       ⟨(some 59), none, .asg (.t 60)⟩] none [1, 3, 13, 59])
     (.cond (.t 59)
      (.seq (.region [⟨(some 61), none, .mov (.t 3)⟩,
        ⟨(some 62), none, .mov (.t 61)⟩,
        ⟨(some 63), some (62, true), .fld 4 (.t 1)⟩,
        ⟨(some 64), some (62, true), .load none (.t 63)⟩,
        ⟨(some 65), some (62, true), .len 0 (.t 64)⟩,
        ⟨(some 66), some (62, true), .bin .eql (.t 65) (.c (.i .i64 1))⟩,
        ⟨(some 67), none, .pick (.t 62) (.t 66) (.c (.b false))⟩,
        ⟨(some 2), none, .asg (.t 67)⟩] none [2])
      .ret)
      (.seq (.region [⟨(some 69), none, .bin .eql (.t 13) (.c (.i .i64 7))⟩,
        ⟨(some 68), none, .asg (.t 69)⟩] none [1, 68])
      (.cond (.t 68)
       (.seq (.region [⟨(some 70), none, .fld 4 (.t 1)⟩,
         ⟨(some 71), none, .load none (.t 70)⟩,
         ⟨(some 72), none, .len 0 (.t 71)⟩,
         ⟨(some 73), none, .bin .eql (.t 72) (.c (.i .i64 0))⟩,
         ⟨(some 74), none, .mov (.t 73)⟩,
         ⟨(some 75), some (74, true), .fld 2 (.t 1)⟩,
         ⟨(some 76), some (74, true), .load none (.t 75)⟩,
         ⟨(some 77), some (74, true), .bin .geq (.t 76) (.c (.i .i64 (-1099511627776)))⟩,
         ⟨(some 78), none, .pick (.t 74) (.t 77) (.c (.b false))⟩,
         ⟨(some 79), none, .mov (.t 78)⟩,
         ⟨(some 80), some (79, true), .fld 2 (.t 1)⟩,
         ⟨(some 81), some (79, true), .load none (.t 80)⟩,
         ⟨(some 82), some (79, true), .fld 3 (.t 1)⟩,
         ⟨(some 83), some (79, true), .load none (.t 82)⟩,
         ⟨(some 84), some (79, true), .bin .leq (.t 81) (.t 83)⟩,
         ⟨(some 85), none, .pick (.t 79) (.t 84) (.c (.b false))⟩,
         ⟨(some 86), none, .mov (.t 85)⟩,
         ⟨(some 87), some (86, true), .fld 3 (.t 1)⟩,
         ⟨(some 88), some (86, true), .load none (.t 87)⟩,
         ⟨(some 89), some (86, true), .bin .leq (.t 88) (.c (.i .i64 1099511627776))⟩,
         ⟨(some 90), none, .pick (.t 86) (.t 89) (.c (.b false))⟩,
         ⟨(some 2), none, .asg (.t 90)⟩] none [2])
       .ret)
       .skip))))))))))))
 (.seq (.region [⟨(some 2), none, .asg (.c (.b false))⟩] none [2])
 .ret))))⟩

/-- veilstone/veilstoneref02.named -/
def ir_ref02_named : AFun := ⟨1, [.tmp 2], true, false,
 (.seq (.region [⟨(some 1), none, .lbox (.t 0)⟩,
   ⟨(some 2), none, .asg (.c (.b false))⟩] none [1])
 (.seq (.seq (.region [⟨(some 3), none, .fld 0 (.t 1)⟩,
   ⟨(some 4), none, .load none (.t 3)⟩] none [1, 4])
 (.block 0
  (.seq (.seq (.region [⟨(some 6), none, .bin .eql (.t 4) (.c (.i .i64 3))⟩,
    ⟨(some 5), none, .asg (.t 6)⟩] none [1, 4, 5])
  (.cond (.t 5)
   .skip
   (.seq (.region [⟨(some 7), none, .bin .eql (.t 4) (.c (.i .i64 6))⟩,
     ⟨(some 5), none, .asg (.t 7)⟩] none [1, 4, 5])
   (.cond (.t 5)
    .skip
    (.region [⟨(some 8), none, .bin .eql (.t 4) (.c (.i .i64 7))⟩,
      ⟨(some 5), none, .asg (.t 8)⟩] none [1, 4, 5])))))
  (.cond (.t 5)
   (.seq (.region [⟨(some 9), none, .fld 1 (.t 1)⟩,
     ⟨(some 10), none, .load none (.t 9)⟩,
     ⟨(some 11), none, .call (.c (.fn (.func F_ref02_Plain) [] [])) [(.t 10)]⟩,
     ⟨(some 2), none, .asg (.t 11)⟩] none [2])
   .ret)
   (.seq (.region [⟨(some 13), none, .bin .eql (.t 4) (.c (.i .i64 4))⟩,
     ⟨(some 12), none, .asg (.t 13)⟩] none [1, 12])
   (.cond (.t 12)
    (.seq (.region [⟨(some 14), none, .fld 1 (.t 1)⟩,
      ⟨(some 15), none, .load none (.t 14)⟩,
      ⟨(some 16), none, .call (.c (.fn (.func F_ref02_Person) [] [])) [(.t 15)]⟩,
      ⟨(some 2), none, .asg (.t 16)⟩] none [2])
    .ret)
    .skip))))))
 (.seq (.region [⟨(some 2), none, .asg (.c (.b true))⟩] none [2])
 .ret)))⟩

def ir_ref02_bare_L0 : ACode :=
 (.seq (.seq (.region [⟨(some 10), none, .mov (.t 3)⟩,
   ⟨(some 11), none, .fld 4 (.t 1)⟩,
   ⟨(some 12), none, .load none (.t 11)⟩,
   ⟨(some 13), none, .len 0 (.t 12)⟩,
   ⟨(some 14), none, .bin .lss (.t 10) (.t 13)⟩] none [1, 3, 14])
 (.cond (.t 14)
  .skip
  (.exit 0)))
 (.seq (.block 1
  (.seq (.region [⟨(some 17), none, .fld 4 (.t 1)⟩,
    ⟨(some 18), none, .load none (.t 17)⟩,
    ⟨(some 19), none, .mov (.t 3)⟩,
    ⟨(some 20), none, .idx 5 (.t 18) (.t 19)⟩,
    ⟨(some 21), none, .load (some 5) (.t 20)⟩,
    ⟨(some 22), none, .call (.c (.fn (.func F_ref02_bare) [] [])) [(.t 21)]⟩] none [1, 3, 22])
  (.cond (.t 22)
   (.seq (.region [⟨(some 2), none, .asg (.c (.b true))⟩] none [2])
   .ret)
   .skip)))
 (.region [⟨(some 15), none, .mov (.t 3)⟩,
   ⟨(some 16), none, .bin .add (.t 15) (.c (.i .i64 1))⟩,
   ⟨(some 3), none, .asg (.t 16)⟩] none [1, 3])))
/-- veilstone/veilstoneref02.bare -/
def ir_ref02_bare : AFun := ⟨1, [.tmp 2], true, false,
 (.seq (.region [⟨(some 1), none, .lbox (.t 0)⟩,
   ⟨(some 2), none, .asg (.c (.b false))⟩] none [1])
 (.seq (.seq (.region [⟨(some 4), none, .fld 0 (.t 1)⟩,
   ⟨(some 5), none, .load none (.t 4)⟩,
   ⟨(some 6), none, .bin .eql (.t 5) (.c (.i .i64 4))⟩] none [1, 6])
 (.cond (.t 6)
  (.seq (.region [⟨(some 2), none, .asg (.c (.b true))⟩] none [2])
  .ret)
  .skip))
 (.seq (.seq (.region [⟨(some 7), none, .fld 0 (.t 1)⟩,
   ⟨(some 8), none, .load none (.t 7)⟩,
   ⟨(some 9), none, .bin .eql (.t 8) (.c (.i .i64 6))⟩] none [1, 9])
 (.cond (.t 9)
  (.seq (.region [⟨(some 2), none, .asg (.c (.b false))⟩] none [2])
  .ret)
  .skip))
 (.seq (.seq (.region [⟨(some 3), none, .asg (.c (.i .i64 0))⟩] none [1, 3])
 (.block 0
  (.loop [1, 3] ir_ref02_bare_L0)))
 (.seq (.region [⟨(some 2), none, .asg (.c (.b false))⟩] none [2])
 .ret)))))⟩

def ir_ref06_steps_L1 : ACode :=
 (.seq (.seq (.region [⟨(some 39), none, .mov (.t 6)⟩,
   ⟨(some 40), none, .fld 12 (.t 5)⟩,
   ⟨(some 41), none, .load none (.t 40)⟩,
   ⟨(some 42), none, .len 0 (.t 41)⟩,
   ⟨(some 43), none, .bin .lss (.t 39) (.t 42)⟩,
   ⟨(some 44), none, .mov (.t 43)⟩,
   ⟨(some 45), some (44, true), .fld 0 (.t 5)⟩,
   ⟨(some 46), some (44, true), .load none (.t 45)⟩,
   ⟨(some 47), some (44, true), .bin .eql (.t 46) (.c (.i .i64 6))⟩,
   ⟨(some 48), none, .pick (.t 44) (.t 47) (.c (.b false))⟩] none [0, 3, 4, 5, 6, 48])
 (.cond (.t 48)
  .skip
  (.exit 2)))
 (.seq (.block 3
  (.seq (.region [⟨(some 51), none, .load (some 16) (.t 5)⟩,
    ⟨(some 52), none, .mov (.t 6)⟩,
    ⟨(some 53), none, .call (.c (.fn (.func F_ref06_exempt) [] [])) [(.t 51), (.t 52)]⟩,
    ⟨(some 54), none, .un .not (.t 53)⟩] none [0, 3, 4, 5, 6, 54])
  (.cond (.t 54)
   (.region [⟨(some 55), none, .mov (.t 3)⟩,
     ⟨(some 56), none, .fld 12 (.t 5)⟩,
     ⟨(some 57), none, .load none (.t 56)⟩,
     ⟨(some 58), none, .mov (.t 6)⟩,
     ⟨(some 59), none, .idx 1 (.t 57) (.t 58)⟩,
     ⟨(some 60), none, .load none (.t 59)⟩,
     ⟨(some 61), none, .fld 13 (.t 5)⟩,
     ⟨(some 62), none, .load none (.t 61)⟩,
     ⟨(some 63), none, .build [(.s []), (.s []), (.b false)] [(0, 1, (.t 60)), (1, 1, (.t 62)), (2, 1, (.c (.b true)))]⟩,
     ⟨(some 64), none, .bsl false T_ref06_step_1 3 1 [(.s []), (.s []), (.b false)] [(0, (.t 63))]⟩,
     ⟨(some 65), none, .app T_ref06_step_1 3 (.t 55) (.t 64)⟩,
     ⟨(some 3), none, .asg (.t 65)⟩] (some ([0, 1, 2, 3, 4, 5, 6, 7, 8, 9, 10, 11], [])) [0, 3, 4, 5, 6])
   .skip)))
 (.region [⟨(some 49), none, .mov (.t 6)⟩,
   ⟨(some 50), none, .bin .add (.t 49) (.c (.i .i64 1))⟩,
   ⟨(some 6), none, .asg (.t 50)⟩] none [0, 3, 4, 5, 6])))
def ir_ref06_steps_L0 : ACode :=
 (.seq (.seq (.region [⟨(some 7), none, .mov (.t 4)⟩,
   ⟨(some 8), none, .mov (.t 0)⟩,
   ⟨(some 9), none, .len 0 (.t 8)⟩,
   ⟨(some 10), none, .bin .lss (.t 7) (.t 9)⟩] none [0, 3, 4, 10])
 (.cond (.t 10)
  .skip
  (.exit 0)))
 (.seq (.block 1
  (.seq (.region [⟨(some 13), none, .mov (.t 0)⟩,
    ⟨(some 14), none, .mov (.t 4)⟩,
    ⟨(some 15), none, .idx 16 (.t 13) (.t 14)⟩,
    ⟨(some 16), none, .load (some 16) (.t 15)⟩,
    ⟨(some 5), none, .lalloc [(.i .i64 0), (.b false), (.i .i64 0), (.s []), (.i .i64 0), (.i .i64 0), .ns, (.i .i64 0), (.s []), (.i .i64 0), (.i .i64 0), .ns, .ns, (.s []), (.s []), (.s [])]⟩,
    ⟨none, none, .store 16 (.t 5) (.t 16)⟩] none [0, 3, 4, 5])
  (.seq (.seq (.region [⟨(some 17), none, .fld 0 (.t 5)⟩,
    ⟨(some 18), none, .load none (.t 17)⟩,
    ⟨(some 19), none, .bin .eql (.t 18) (.c (.i .i64 5))⟩,
    ⟨(some 20), none, .mov (.t 19)⟩,
    ⟨(some 21), some (20, true), .fld 12 (.t 5)⟩,
    ⟨(some 22), some (20, true), .load none (.t 21)⟩,
    ⟨(some 23), some (20, true), .idx 1 (.t 22) (.c (.i .i64 0))⟩,
    ⟨(some 24), some (20, true), .load none (.t 23)⟩,
    ⟨(some 25), some (20, true), .fld 13 (.t 5)⟩,
    ⟨(some 26), some (20, true), .load none (.t 25)⟩,
    ⟨(some 27), some (20, true), .bin .neq (.t 24) (.t 26)⟩,
    ⟨(some 28), none, .pick (.t 20) (.t 27) (.c (.b false))⟩] (some ([0, 1, 2, 3, 4, 5, 6, 7, 8, 9, 10, 11], [])) [0, 3, 4, 5, 28])
  (.cond (.t 28)
   (.region [⟨(some 29), none, .mov (.t 3)⟩,
     ⟨(some 30), none, .fld 12 (.t 5)⟩,
     ⟨(some 31), none, .load none (.t 30)⟩,
     ⟨(some 32), none, .idx 1 (.t 31) (.c (.i .i64 0))⟩,
     ⟨(some 33), none, .load none (.t 32)⟩,
     ⟨(some 34), none, .fld 13 (.t 5)⟩,
     ⟨(some 35), none, .load none (.t 34)⟩,
     ⟨(some 36), none, .build [(.s []), (.s []), (.b false)] [(0, 1, (.t 33)), (1, 1, (.t 35)), (2, 1, (.c (.b false)))]⟩,
     ⟨(some 37), none, .bsl false T_ref06_step_1 3 1 [(.s []), (.s []), (.b false)] [(0, (.t 36))]⟩,
     ⟨(some 38), none, .app T_ref06_step_1 3 (.t 29) (.t 37)⟩,
     ⟨(some 3), none, .asg (.t 38)⟩] (some ([0, 1, 2, 3, 4, 5, 6, 7, 8, 9, 10], [])) [0, 3, 4, 5])
   .skip))
  (.seq (.region [⟨(some 6), none, .asg (.c (.i .i64 0))⟩] none [0, 3, 4, 5, 6])
  (.block 2
   (.loop [0, 3, 4, 5, 6] ir_ref06_steps_L1))))))
 (.region [⟨(some 11), none, .mov (.t 4)⟩,
   ⟨(some 12), none, .bin .add (.t 11) (.c (.i .i64 1))⟩,
   ⟨(some 4), none, .asg (.t 12)⟩] none [0, 3, 4])))
/-- veilstone/veilstoneref06.steps -/
def ir_ref06_steps : AFun := ⟨1, [.tmp 2], true, false,
 (.seq (.region [⟨(some 2), none, .asg (.c .ns)⟩] none [0])
 (.seq (.region [⟨(some 3), none, .nbuf T_ref06_step_1 3⟩] none [0, 3])
 (.seq (.seq (.region [⟨(some 4), none, .asg (.c (.i .i64 0))⟩] none [0, 3, 4])
 (.block 0
  (.loop [0, 3, 4] ir_ref06_steps_L0)))
 (.seq (.region [⟨(some 66), none, .mov (.t 3)⟩,
   ⟨(some 2), none, .asg (.t 66)⟩] none [2])
 .ret))))⟩

def ir_ref06_exempt_L0 : ACode :=
 (.seq (.seq (.region [⟨(some 11), none, .mov (.t 7)⟩,
   ⟨(some 12), none, .mov (.t 5)⟩,
   ⟨(some 13), none, .bin .lss (.t 11) (.t 12)⟩] none [1, 2, 5, 6, 7, 13])
 (.cond (.t 13)
  .skip
  (.exit 0)))
 (.seq (.block 1
  (.seq (.region [⟨(some 16), none, .fld 12 (.t 2)⟩,
    ⟨(some 17), none, .load none (.t 16)⟩,
    ⟨(some 18), none, .mov (.t 7)⟩,
    ⟨(some 19), none, .idx 1 (.t 17) (.t 18)⟩,
    ⟨(some 20), none, .load none (.t 19)⟩,
    ⟨(some 21), none, .fld 13 (.t 2)⟩,
    ⟨(some 22), none, .load none (.t 21)⟩,
    ⟨(some 23), none, .bin .eql (.t 20) (.t 22)⟩] (some ([0, 1, 2, 3, 4, 5, 6, 7], [])) [1, 2, 5, 6, 7, 23])
  (.cond (.t 23)
   (.region [⟨(some 24), none, .mov (.t 6)⟩,
     ⟨(some 25), none, .bin .add (.t 24) (.c (.i .i64 1))⟩,
     ⟨(some 6), none, .asg (.t 25)⟩] none [1, 2, 5, 6, 7])
   .skip)))
 (.region [⟨(some 14), none, .mov (.t 7)⟩,
   ⟨(some 15), none, .bin .add (.t 14) (.c (.i .i64 1))⟩,
   ⟨(some 7), none, .asg (.t 15)⟩] none [1, 2, 5, 6, 7])))
/-- veilstone/veilstoneref06.exempt -/
def ir_ref06_exempt : AFun := ⟨2, [.tmp 4], true, false,
 (.seq (.region [⟨(some 2), none, .lbox (.t 0)⟩,
   ⟨(some 4), none, .asg (.c (.b false))⟩] none [1, 2])
 (.seq (.region [⟨(some 8), none, .fld 12 (.t 2)⟩,
   ⟨(some 9), none, .load none (.t 8)⟩,
   ⟨(some 10), none, .len 0 (.t 9)⟩,
   ⟨(some 5), none, .asg (.t 10)⟩] none [1, 2, 5])
 (.seq (.region [⟨(some 6), none, .asg (.c (.i .i64 0))⟩] none [1, 2, 5, 6])
 (.seq (.seq (.region [⟨(some 7), none, .asg (.c (.i .i64 0))⟩] none [1, 2, 5, 6, 7])
 (.block 0
  (.loop [1, 2, 5, 6, 7] ir_ref06_exempt_L0)))
 (.seq (.seq (.region [⟨(some 26), none, .fld 12 (.t 2)⟩,
   ⟨(some 27), none, .load none (.t 26)⟩,
   ⟨(some 28), none, .mov (.t 1)⟩,
   ⟨(some 29), none, .idx 1 (.t 27) (.t 28)⟩,
   ⟨(some 30), none, .load none (.t 29)⟩,
   ⟨(some 31), none, .fld 13 (.t 2)⟩,
   ⟨(some 32), none, .load none (.t 31)⟩,
   ⟨(some 33), none, .bin .neq (.t 30) (.t 32)⟩] (some ([0, 1, 2, 3, 4, 5, 6, 7], [])) [1, 5, 6, 33])
 (.cond (.t 33)
  (.seq (.region [⟨(some 4), none, .asg (.c (.b false))⟩] none [4])
  .ret)
  .skip))
 (.seq (.region [⟨(some 34), none, .mov (.t 5)⟩,
   ⟨(some 35), none, .bin .eql (.t 34) (.c (.i .i64 2))⟩,
   ⟨(some 36), none, .mov (.t 35)⟩,
   ⟨(some 37), some (36, true), .mov (.t 6)⟩,
   ⟨(some 38), some (36, true), .bin .eql (.t 37) (.c (.i .i64 2))⟩,
   ⟨(some 39), none, .pick (.t 36) (.t 38) (.c (.b false))⟩,
   ⟨(some 40), none, .mov (.t 39)⟩,
   ⟨(some 41), some (40, false), .mov (.t 6)⟩,
   ⟨(some 42), some (40, false), .bin .eql (.t 41) (.c (.i .i64 1))⟩,
   ⟨(some 43), some (40, false), .mov (.t 42)⟩,
   ⟨(some 44), some (43, true), .mov (.t 1)⟩,
   ⟨(some 45), some (43, true), .bin .eql (.t 44) (.c (.i .i64 0))⟩,
   ⟨(some 46), some (43, true), .mov (.t 45)⟩,
   ⟨(some 47), some (46, false), .mov (.t 1)⟩,
   ⟨(some 48), some (46, false), .mov (.t 5)⟩,
   ⟨(some 49), some (46, false), .bin .sub (.t 48) (.c (.i .i64 1))⟩,
   ⟨(some 50), some (46, false), .bin .eql (.t 47) (.t 49)⟩,
   ⟨(some 51), some (43, true), .pick (.t 46) (.c (.b true)) (.t 50)⟩,
   ⟨(some 52), some (40, false), .pick (.t 43) (.t 51) (.c (.b false))⟩,
   ⟨(some 53), none, .pick (.t 40) (.c (.b true)) (.t 52)⟩,
   ⟨(some 4), none, .asg (.t 53)⟩] none [4])
 .ret))))))⟩

def ir_ref06_All_L1 : ACode :=
 (.seq (.seq (.region [⟨(some 41), none, .mov (.t 5)⟩,
   ⟨(some 42), none, .mov (.t 0)⟩,
   ⟨(some 43), none, .mov (.t 4)⟩,
   ⟨(some 44), none, .idx 16 (.t 42) (.t 43)⟩,
   ⟨(some 45), none, .fld 12 (.t 44)⟩,
   ⟨(some 46), none, .load none (.t 45)⟩,
   ⟨(some 47), none, .len 0 (.t 46)⟩,
   ⟨(some 48), none, .bin .lss (.t 41) (.t 47)⟩] none [0, 3, 4, 5, 48])
 (.cond (.t 48)
  .skip
  (.exit 2)))
 (.seq (.block 3
  (.region [⟨(some 51), none, .mov (.t 3)⟩,
    ⟨(some 52), none, .mov (.t 0)⟩,
    ⟨(some 53), none, .mov (.t 4)⟩,
    ⟨(some 54), none, .idx 16 (.t 52) (.t 53)⟩,
    ⟨(some 55), none, .fld 12 (.t 54)⟩,
    ⟨(some 56), none, .load none (.t 55)⟩,
    ⟨(some 57), none, .mov (.t 5)⟩,
    ⟨(some 58), none, .idx 1 (.t 56) (.t 57)⟩,
    ⟨(some 59), none, .load none (.t 58)⟩,
    ⟨(some 60), none, .call (.c (.fn (.func F_ref06_With) [] [])) [(.t 51), (.t 59)]⟩,
    ⟨(some 3), none, .asg (.t 60)⟩] none [0, 3, 4, 5]))
 (.region [⟨(some 49), none, .mov (.t 5)⟩,
   ⟨(some 50), none, .bin .add (.t 49) (.c (.i .i64 1))⟩,
   ⟨(some 5), none, .asg (.t 50)⟩] none [0, 3, 4, 5])))
def ir_ref06_All_L0 : ACode :=
 (.seq (.seq (.region [⟨(some 6), none, .mov (.t 4)⟩,
   ⟨(some 7), none, .mov (.t 0)⟩,
   ⟨(some 8), none, .len 0 (.t 7)⟩,
   ⟨(some 9), none, .bin .lss (.t 6) (.t 8)⟩] none [0, 3, 4, 9])
 (.cond (.t 9)
  .skip
  (.exit 0)))
 (.seq (.block 1
  (.seq (.region [⟨(some 12), none, .mov (.t 0)⟩,
    ⟨(some 13), none, .mov (.t 4)⟩,
    ⟨(some 14), none, .idx 16 (.t 12) (.t 13)⟩,
    ⟨(some 15), none, .fld 0 (.t 14)⟩,
    ⟨(some 16), none, .load none (.t 15)⟩,
    ⟨(some 17), none, .bin .eql (.t 16) (.c (.i .i64 5))⟩,
    ⟨(some 18), none, .mov (.t 17)⟩,
    ⟨(some 19), some (18, false), .mov (.t 0)⟩,
    ⟨(some 20), some (18, false), .mov (.t 4)⟩,
    ⟨(some 21), some (18, false), .idx 16 (.t 19) (.t 20)⟩,
    ⟨(some 22), some (18, false), .fld 0 (.t 21)⟩,
    ⟨(some 23), some (18, false), .load none (.t 22)⟩,
    ⟨(some 24), some (18, false), .bin .eql (.t 23) (.c (.i .i64 6))⟩,
    ⟨(some 25), none, .pick (.t 18) (.c (.b true)) (.t 24)⟩,
    ⟨(some 26), none, .mov (.t 25)⟩,
    ⟨(some 27), some (26, false), .mov (.t 0)⟩,
    ⟨(some 28), some (26, false), .mov (.t 4)⟩,
    ⟨(some 29), some (26, false), .idx 16 (.t 27) (.t 28)⟩,
    ⟨(some 30), some (26, false), .fld 0 (.t 29)⟩,
    ⟨(some 31), some (26, false), .load none (.t 30)⟩,
    ⟨(some 32), some (26, false), .bin .eql (.t 31) (.c (.i .i64 7))⟩,
    ⟨(some 33), none, .pick (.t 26) (.c (.b true)) (.t 32)⟩] none [0, 3, 4, 33])
  (.cond (.t 33)
   (.seq (.region [⟨(some 34), none, .mov (.t 3)⟩,
     ⟨(some 35), none, .mov (.t 0)⟩,
     ⟨(some 36), none, .mov (.t 4)⟩,
     ⟨(some 37), none, .idx 16 (.t 35) (.t 36)⟩,
     ⟨(some 38), none, .fld 13 (.t 37)⟩,
     ⟨(some 39), none, .load none (.t 38)⟩,
     ⟨(some 40), none, .call (.c (.fn (.func F_ref06_With) [] [])) [(.t 34), (.t 39)]⟩,
     ⟨(some 3), none, .asg (.t 40)⟩] none [0, 3, 4])
   (.seq (.region [⟨(some 5), none, .asg (.c (.i .i64 0))⟩] none [0, 3, 4, 5])
   (.block 2
    (.loop [0, 3, 4, 5] ir_ref06_All_L1))))
   .skip)))
 (.region [⟨(some 10), none, .mov (.t 4)⟩,
   ⟨(some 11), none, .bin .add (.t 10) (.c (.i .i64 1))⟩,
   ⟨(some 4), none, .asg (.t 11)⟩] none [0, 3, 4])))
/-- veilstone/veilstoneref06.All -/
def ir_ref06_All : AFun := ⟨1, [.tmp 2], true, false,
 (.seq (.region [⟨(some 2), none, .asg (.c .ns)⟩] none [0])
 (.seq (.region [⟨(some 3), none, .asg (.c .ns)⟩] none [0, 3])
 (.seq (.seq (.region [⟨(some 4), none, .asg (.c (.i .i64 0))⟩] none [0, 3, 4])
 (.block 0
  (.loop [0, 3, 4] ir_ref06_All_L0)))
 (.seq (.region [⟨(some 61), none, .mov (.t 3)⟩,
   ⟨(some 2), none, .asg (.t 61)⟩] none [2])
 .ret))))⟩

def ir_ref06_With_L0 : ACode :=
 (.seq (.seq (.region [⟨(some 11), none, .mov (.t 5)⟩,
   ⟨(some 12), none, .mov (.t 0)⟩,
   ⟨(some 13), none, .len 0 (.t 12)⟩,
   ⟨(some 14), none, .bin .lss (.t 11) (.t 13)⟩,
   ⟨(some 15), none, .mov (.t 14)⟩,
   ⟨(some 16), some (15, true), .mov (.t 0)⟩,
   ⟨(some 17), some (15, true), .mov (.t 5)⟩,
   ⟨(some 18), some (15, true), .idx 1 (.t 16) (.t 17)⟩,
   ⟨(some 19), some (15, true), .load none (.t 18)⟩,
   ⟨(some 20), some (15, true), .mov (.t 1)⟩,
   ⟨(some 21), some (15, true), .bin .lss (.t 19) (.t 20)⟩,
   ⟨(some 22), none, .pick (.t 15) (.t 21) (.c (.b false))⟩] none [0, 1, 5, 22])
 (.cond (.t 22)
  .skip
  (.exit 0)))
 (.block 1
  (.region [⟨(some 23), none, .mov (.t 5)⟩,
    ⟨(some 24), none, .bin .add (.t 23) (.c (.i .i64 1))⟩,
    ⟨(some 5), none, .asg (.t 24)⟩] none [0, 1, 5])))
/-- veilstone/veilstoneref06.With -/
def ir_ref06_With : AFun := ⟨2, [.tmp 4], true, false,
 (.seq (.region [⟨(some 4), none, .asg (.c .ns)⟩] none [0, 1])
 (.seq (.seq (.region [⟨(some 7), none, .mov (.t 0)⟩,
   ⟨(some 8), none, .mov (.t 1)⟩,
   ⟨(some 9), none, .call (.c (.fn (.func F_ref06_Has) [] [])) [(.t 7), (.t 8)]⟩] none [0, 1, 9])
 (.cond (.t 9)
  (.seq (.region [⟨(some 10), none, .mov (.t 0)⟩,
    ⟨(some 4), none, .asg (.t 10)⟩] none [4])
  .ret)
  .skip))
 (.seq (.region [⟨(some 5), none, .asg (.c (.i .i64 0))⟩] none [0, 1, 5])
 (.seq (.block 0
  (.loop [0, 1, 5] ir_ref06_With_L0))
 (.seq (.region [⟨(some 25), none, .bsl true T_string_0 1 0 [(.s [])] []⟩,
   ⟨(some 26), none, .mov (.t 0)⟩,
   ⟨(some 27), none, .mov (.t 5)⟩,
   ⟨(some 28), none, .slc 1 (.t 26) none (some (.t 27))⟩,
   ⟨(some 29), none, .app T_string_0 1 (.t 25) (.t 28)⟩,
   ⟨(some 6), none, .asg (.t 29)⟩] none [0, 1, 5, 6])
 (.seq (.region [⟨(some 30), none, .mov (.t 6)⟩,
   ⟨(some 31), none, .mov (.t 1)⟩,
   ⟨(some 32), none, .bsl false T_string_0 1 1 [(.s [])] [(0, (.t 31))]⟩,
   ⟨(some 33), none, .app T_string_0 1 (.t 30) (.t 32)⟩,
   ⟨(some 6), none, .asg (.t 33)⟩] none [0, 5, 6])
 (.seq (.region [⟨(some 34), none, .mov (.t 6)⟩,
   ⟨(some 35), none, .mov (.t 0)⟩,
   ⟨(some 36), none, .mov (.t 5)⟩,
   ⟨(some 37), none, .slc 1 (.t 35) (some (.t 36)) none⟩,
   ⟨(some 38), none, .app T_string_0 1 (.t 34) (.t 37)⟩,
   ⟨(some 4), none, .asg (.t 38)⟩] none [4])
 .ret)))))))⟩

def ir_ref06_Has_L0 : ACode :=
 (.seq (.seq (.region [⟨(some 6), none, .mov (.t 5)⟩,
   ⟨(some 7), none, .mov (.t 0)⟩,
   ⟨(some 8), none, .len 0 (.t 7)⟩,
   ⟨(some 9), none, .bin .lss (.t 6) (.t 8)⟩] none [0, 1, 5, 9])
 (.cond (.t 9)
  .skip
  (.exit 0)))
 (.seq (.block 1
  (.seq (.region [⟨(some 12), none, .mov (.t 0)⟩,
    ⟨(some 13), none, .mov (.t 5)⟩,
    ⟨(some 14), none, .idx 1 (.t 12) (.t 13)⟩,
    ⟨(some 15), none, .load none (.t 14)⟩,
    ⟨(some 16), none, .mov (.t 1)⟩,
    ⟨(some 17), none, .bin .eql (.t 15) (.t 16)⟩] none [0, 1, 5, 17])
  (.cond (.t 17)
   (.seq (.region [⟨(some 4), none, .asg (.c (.b true))⟩] none [4])
   .ret)
   .skip)))
 (.region [⟨(some 10), none, .mov (.t 5)⟩,
   ⟨(some 11), none, .bin .add (.t 10) (.c (.i .i64 1))⟩,
   ⟨(some 5), none, .asg (.t 11)⟩] none [0, 1, 5])))
/-- veilstone/veilstoneref06.Has -/
def ir_ref06_Has : AFun := ⟨2, [.tmp 4], true, false,
 (.seq (.region [⟨(some 4), none, .asg (.c (.b false))⟩] none [0, 1])
 (.seq (.seq (.region [⟨(some 5), none, .asg (.c (.i .i64 0))⟩] none [0, 1, 5])
 (.block 0
  (.loop [0, 1, 5] ir_ref06_Has_L0)))
 (.seq (.region [⟨(some 4), none, .asg (.c (.b false))⟩] none [4])
 .ret)))⟩

def ir_ref06_closes_L0 : ACode :=
 (.seq (.seq (.region [⟨(some 6), none, .mov (.t 5)⟩,
   ⟨(some 7), none, .mov (.t 1)⟩,
   ⟨(some 8), none, .len 0 (.t 7)⟩,
   ⟨(some 9), none, .bin .lss (.t 6) (.t 8)⟩] none [1, 2, 5, 9])
 (.cond (.t 9)
  .skip
  (.exit 0)))
 (.seq (.block 1
  (.seq (.region [⟨(some 12), none, .mov (.t 1)⟩,
    ⟨(some 13), none, .mov (.t 5)⟩,
    ⟨(some 14), none, .idx 3 (.t 12) (.t 13)⟩,
    ⟨(some 15), none, .fld 0 (.t 14)⟩,
    ⟨(some 16), none, .load none (.t 15)⟩,
    ⟨(some 17), none, .fld 0 (.t 2)⟩,
    ⟨(some 18), none, .load none (.t 17)⟩,
    ⟨(some 19), none, .fld 0 (.t 2)⟩,
    ⟨(some 20), none, .load none (.t 19)⟩,
    ⟨(some 21), none, .len 0 (.t 20)⟩,
    ⟨(some 22), none, .bin .sub (.t 21) (.c (.i .i64 1))⟩,
    ⟨(some 23), none, .idx 1 (.t 18) (.t 22)⟩,
    ⟨(some 24), none, .load none (.t 23)⟩,
    ⟨(some 25), none, .bin .eql (.t 16) (.t 24)⟩,
    ⟨(some 26), none, .mov (.t 25)⟩,
    ⟨(some 27), some (26, true), .mov (.t 1)⟩,
    ⟨(some 28), some (26, true), .mov (.t 5)⟩,
    ⟨(some 29), some (26, true), .idx 3 (.t 27) (.t 28)⟩,
    ⟨(some 30), some (26, true), .fld 1 (.t 29)⟩,
    ⟨(some 31), some (26, true), .load none (.t 30)⟩,
    ⟨(some 32), some (26, true), .fld 0 (.t 2)⟩,
    ⟨(some 33), some (26, true), .load none (.t 32)⟩,
    ⟨(some 34), some (26, true), .idx 1 (.t 33) (.c (.i .i64 0))⟩,
    ⟨(some 35), some (26, true), .load none (.t 34)⟩,
    ⟨(some 36), some (26, true), .bin .eql (.t 31) (.t 35)⟩,
    ⟨(some 37), none, .pick (.t 26) (.t 36) (.c (.b false))⟩,
    ⟨(some 38), none, .mov (.t 37)⟩,
    ⟨(some 39), some (38, true), .fld 1 (.t 2)⟩,
    ⟨(some 40), some (38, true), .load none (.t 39)⟩,
    ⟨(some 41), some (38, true), .mov (.t 40)⟩,
    ⟨(some 42), some (41, false), .mov (.t 1)⟩,
    ⟨(some 43), some (41, false), .mov (.t 5)⟩,
    ⟨(some 44), some (41, false), .idx 3 (.t 42) (.t 43)⟩,
    ⟨(some 45), some (41, false), .fld 2 (.t 44)⟩,
    ⟨(some 46), some (41, false), .load none (.t 45)⟩,
    ⟨(some 47), some (38, true), .pick (.t 41) (.c (.b true)) (.t 46)⟩,
    ⟨(some 48), none, .pick (.t 38) (.t 47) (.c (.b false))⟩] (some ([0, 1, 2, 3, 4, 5, 6, 7, 8, 9, 10, 11, 12, 13, 14, 15, 16, 17, 18, 19, 20, 21, 22, 23, 24, 25, 26, 27, 28, 29, 30, 31, 32, 33, 34, 35, 36], [])) [1, 2, 5, 48])
  (.cond (.t 48)
   (.seq (.region [⟨(some 4), none, .asg (.c (.b true))⟩] none [4])
   .ret)
   .skip)))
 (.region [⟨(some 10), none, .mov (.t 5)⟩,
   ⟨(some 11), none, .bin .add (.t 10) (.c (.i .i64 1))⟩,
   ⟨(some 5), none, .asg (.t 11)⟩] none [1, 2, 5])))
/-- veilstone/veilstoneref06.closes -/
def ir_ref06_closes : AFun := ⟨2, [.tmp 4], true, false,
 (.seq (.region [⟨(some 2), none, .lbox (.t 0)⟩,
   ⟨(some 4), none, .asg (.c (.b false))⟩] none [1, 2])
 (.seq (.seq (.region [⟨(some 5), none, .asg (.c (.i .i64 0))⟩] none [1, 2, 5])
 (.block 0
  (.loop [1, 2, 5] ir_ref06_closes_L0)))
 (.seq (.region [⟨(some 4), none, .asg (.c (.b false))⟩] none [4])
 .ret)))⟩

def ir_ref06_less_L0 : ACode :=
 (.seq (.seq (.region [⟨(some 6), none, .mov (.t 5)⟩,
   ⟨(some 7), none, .mov (.t 0)⟩,
   ⟨(some 8), none, .len 0 (.t 7)⟩,
   ⟨(some 9), none, .bin .lss (.t 6) (.t 8)⟩] none [0, 1, 5, 9])
 (.cond (.t 9)
  .skip
  (.exit 0)))
 (.seq (.block 1
  (.seq (.region [⟨(some 12), none, .mov (.t 0)⟩,
    ⟨(some 13), none, .mov (.t 5)⟩,
    ⟨(some 14), none, .idx 1 (.t 12) (.t 13)⟩,
    ⟨(some 15), none, .load none (.t 14)⟩,
    ⟨(some 16), none, .mov (.t 1)⟩,
    ⟨(some 17), none, .mov (.t 5)⟩,
    ⟨(some 18), none, .idx 1 (.t 16) (.t 17)⟩,
    ⟨(some 19), none, .load none (.t 18)⟩,
    ⟨(some 20), none, .bin .neq (.t 15) (.t 19)⟩] (some ([0, 1, 2, 3, 4, 5, 6, 7, 8], [])) [0, 1, 5, 20])
  (.cond (.t 20)
   (.seq (.region [⟨(some 21), none, .mov (.t 0)⟩,
     ⟨(some 22), none, .mov (.t 5)⟩,
     ⟨(some 23), none, .idx 1 (.t 21) (.t 22)⟩,
     ⟨(some 24), none, .load none (.t 23)⟩,
     ⟨(some 25), none, .mov (.t 1)⟩,
     ⟨(some 26), none, .mov (.t 5)⟩,
     ⟨(some 27), none, .idx 1 (.t 25) (.t 26)⟩,
     ⟨(some 28), none, .load none (.t 27)⟩,
     ⟨(some 29), none, .bin .lss (.t 24) (.t 28)⟩,
     ⟨(some 4), none, .asg (.t 29)⟩] (some ([0, 1, 2, 3, 4, 5, 6, 7, 8, 9], [])) [4])
   .ret)
   .skip)))
 (.region [⟨(some 10), none, .mov (.t 5)⟩,
   ⟨(some 11), none, .bin .add (.t 10) (.c (.i .i64 1))⟩,
   ⟨(some 5), none, .asg (.t 11)⟩] none [0, 1, 5])))
/-- veilstone/veilstoneref06.less -/
def ir_ref06_less : AFun := ⟨2, [.tmp 4], true, false,
 (.seq (.region [⟨(some 4), none, .asg (.c (.b false))⟩] none [0, 1])
 (.seq (.seq (.region [⟨(some 5), none, .asg (.c (.i .i64 0))⟩] none [0, 1, 5])
 (.block 0
  (.loop [0, 1, 5] ir_ref06_less_L0)))
 (.seq (.region [⟨(some 4), none, .asg (.c (.b false))⟩] none [4])
 .ret)))⟩

def ir_ref06_longer_L2 : ACode :=
 (.seq (.seq (.region [⟨(some 73), none, .mov (.t 11)⟩,
   ⟨(some 74), none, .mov (.t 5)⟩,
   ⟨(some 75), none, .len 0 (.t 74)⟩,
   ⟨(some 76), none, .bin .lss (.t 73) (.t 75)⟩] none [0, 1, 5, 6, 7, 8, 9, 10, 11, 76])
 (.cond (.t 76)
  .skip
  (.exit 4)))
 (.seq (.block 5
  (.seq (.region [⟨(some 79), none, .mov (.t 5)⟩,
    ⟨(some 80), none, .mov (.t 11)⟩,
    ⟨(some 81), none, .idx 2 (.t 79) (.t 80)⟩,
    ⟨(some 82), none, .fld 1 (.t 81)⟩,
    ⟨(some 83), none, .load none (.t 82)⟩,
    ⟨(some 84), none, .fld 1 (.t 9)⟩,
    ⟨(some 85), none, .load none (.t 84)⟩,
    ⟨(some 86), none, .beq false (.t 83) (.t 85)⟩,
    ⟨(some 87), none, .mov (.t 86)⟩,
    ⟨(some 88), some (87, true), .mov (.t 5)⟩,
    ⟨(some 89), some (87, true), .mov (.t 11)⟩,
    ⟨(some 90), some (87, true), .idx 2 (.t 88) (.t 89)⟩,
    ⟨(some 91), some (87, true), .fld 0 (.t 90)⟩,
    ⟨(some 92), some (87, true), .load none (.t 91)⟩,
    ⟨(some 93), some (87, true), .fld 0 (.t 9)⟩,
    ⟨(some 94), some (87, true), .load none (.t 93)⟩,
    ⟨(some 95), some (87, true), .len 0 (.t 94)⟩,
    ⟨(some 96), some (87, true), .bin .sub (.t 95) (.c (.i .i64 1))⟩,
    ⟨(some 97), some (87, true), .idx 1 (.t 92) (.t 96)⟩,
    ⟨(some 98), some (87, true), .load none (.t 97)⟩,
    ⟨(some 99), some (87, true), .mov (.t 1)⟩,
    ⟨(some 100), some (87, true), .mov (.t 8)⟩,
    ⟨(some 101), some (87, true), .idx 3 (.t 99) (.t 100)⟩,
    ⟨(some 102), some (87, true), .fld 1 (.t 101)⟩,
    ⟨(some 103), some (87, true), .load none (.t 102)⟩,
    ⟨(some 104), some (87, true), .bin .eql (.t 98) (.t 103)⟩,
    ⟨(some 105), none, .pick (.t 87) (.t 104) (.c (.b false))⟩] (some ([0, 1, 2, 3, 4, 5, 6, 7, 8, 9, 10, 11, 12, 13, 14, 15, 16, 17, 18, 19, 20, 21, 22, 23, 24, 25, 26], [])) [0, 1, 5, 6, 7, 8, 9, 10, 11, 105])
  (.cond (.t 105)
   (.region [⟨(some 106), none, .mov (.t 11)⟩,
     ⟨(some 10), none, .asg (.t 106)⟩] none [0, 1, 5, 6, 7, 8, 9, 10, 11])
   .skip)))
 (.region [⟨(some 77), none, .mov (.t 11)⟩,
   ⟨(some 78), none, .bin .add (.t 77) (.c (.i .i64 1))⟩,
   ⟨(some 11), none, .asg (.t 78)⟩] none [0, 1, 5, 6, 7, 8, 9, 10, 11])))
def ir_ref06_longer_L1 : ACode :=
 (.seq (.seq (.region [⟨(some 22), none, .mov (.t 8)⟩,
   ⟨(some 23), none, .mov (.t 1)⟩,
   ⟨(some 24), none, .len 0 (.t 23)⟩,
   ⟨(some 25), none, .bin .lss (.t 22) (.t 24)⟩] none [0, 1, 5, 6, 7, 8, 25])
 (.cond (.t 25)
  .skip
  (.exit 2)))
 (.seq (.block 3
  (.seq (.seq (.region [⟨(some 28), none, .mov (.t 1)⟩,
    ⟨(some 29), none, .mov (.t 8)⟩,
    ⟨(some 30), none, .idx 3 (.t 28) (.t 29)⟩,
    ⟨(some 31), none, .fld 0 (.t 30)⟩,
    ⟨(some 32), none, .load none (.t 31)⟩,
    ⟨(some 33), none, .fld 0 (.t 7)⟩,
    ⟨(some 34), none, .load none (.t 33)⟩,
    ⟨(some 35), none, .fld 0 (.t 7)⟩,
    ⟨(some 36), none, .load none (.t 35)⟩,
    ⟨(some 37), none, .len 0 (.t 36)⟩,
    ⟨(some 38), none, .bin .sub (.t 37) (.c (.i .i64 1))⟩,
    ⟨(some 39), none, .idx 1 (.t 34) (.t 38)⟩,
    ⟨(some 40), none, .load none (.t 39)⟩,
    ⟨(some 41), none, .bin .neq (.t 32) (.t 40)⟩,
    ⟨(some 42), none, .mov (.t 41)⟩,
    ⟨(some 43), some (42, false), .fld 0 (.t 7)⟩,
    ⟨(some 44), some (42, false), .load none (.t 43)⟩,
    ⟨(some 45), some (42, false), .mov (.t 1)⟩,
    ⟨(some 46), some (42, false), .mov (.t 8)⟩,
    ⟨(some 47), some (42, false), .idx 3 (.t 45) (.t 46)⟩,
    ⟨(some 48), some (42, false), .fld 1 (.t 47)⟩,
    ⟨(some 49), some (42, false), .load none (.t 48)⟩,
    ⟨(some 50), some (42, false), .call (.c (.fn (.func F_ref06_Has) [] [])) [(.t 44), (.t 49)]⟩,
    ⟨(some 51), none, .pick (.t 42) (.c (.b true)) (.t 50)⟩] (some ([0, 1, 2, 3, 4, 5, 6, 7, 8, 9, 10, 11, 12, 13, 14, 15, 16, 17, 18, 19, 20, 21, 22, 23], [])) [0, 1, 5, 6, 7, 8, 51])
  (.cond (.t 51)
   (.exit 3)
   .skip))
  (.seq (.region [⟨(some 52), none, .bse⟩,
    ⟨(some 53), none, .fld 0 (.t 7)⟩,
    ⟨(some 54), none, .load none (.t 53)⟩,
    ⟨(some 55), none, .apprp 55 T_string_0 1 (.t 52) (.t 54)⟩,
    ⟨(some 56), none, .mov (.t 1)⟩,
    ⟨(some 57), none, .mov (.t 8)⟩,
    ⟨(some 58), none, .idx 3 (.t 56) (.t 57)⟩,
    ⟨(some 59), none, .fld 1 (.t 58)⟩,
    ⟨(some 60), none, .load none (.t 59)⟩,
    ⟨(some 61), none, .bsl false T_string_0 1 1 [(.s [])] [(0, (.t 60))]⟩,
    ⟨(some 62), none, .apprp 62 T_string_0 1 (.t 55) (.t 61)⟩,
    ⟨(some 63), none, .fld 1 (.t 7)⟩,
    ⟨(some 64), none, .load none (.t 63)⟩,
    ⟨(some 65), none, .mov (.t 64)⟩,
    ⟨(some 66), some (65, false), .mov (.t 1)⟩,
    ⟨(some 67), some (65, false), .mov (.t 8)⟩,
    ⟨(some 68), some (65, false), .idx 3 (.t 66) (.t 67)⟩,
    ⟨(some 69), some (65, false), .fld 2 (.t 68)⟩,
    ⟨(some 70), some (65, false), .load none (.t 69)⟩,
    ⟨(some 71), none, .pick (.t 65) (.c (.b true)) (.t 70)⟩,
    ⟨(some 72), none, .build [.ns, (.b false)] [(0, 1, (.t 62)), (1, 1, (.t 71))]⟩,
    ⟨(some 9), none, .lallocp 9 [.ns, (.b false)]⟩,
    ⟨none, none, .store 2 (.t 9) (.t 72)⟩] (some ([0, 1, 2, 3, 4, 5, 6, 7, 8, 9, 10, 11, 12, 13, 14, 15, 16, 17, 18, 19, 20, 21, 22], [62])) [0, 1, 5, 6, 7, 8, 9])
  (.seq (.region [⟨(some 10), none, .asg (.c (.i .i64 (-1)))⟩] none [0, 1, 5, 6, 7, 8, 9, 10])
  (.seq (.seq (.region [⟨(some 11), none, .asg (.c (.i .i64 0))⟩] none [0, 1, 5, 6, 7, 8, 9, 10, 11])
  (.block 4
   (.loop [0, 1, 5, 6, 7, 8, 9, 10, 11] ir_ref06_longer_L2)))
  (.seq (.region [⟨(some 107), none, .mov (.t 10)⟩,
    ⟨(some 108), none, .bin .lss (.t 107) (.c (.i .i64 0))⟩] none [0, 1, 5, 6, 7, 8, 9, 10, 108])
  (.cond (.t 108)
   (.region [⟨(some 109), none, .mov (.t 5)⟩,
     ⟨(some 110), none, .load (some 2) (.t 9)⟩,
     ⟨(some 111), none, .bsl false T_ref06_path_1 2 1 [.ns, (.b false)] [(0, (.t 110))]⟩,
     ⟨(some 112), none, .app T_ref06_path_1 2 (.t 109) (.t 111)⟩,
     ⟨(some 5), none, .asg (.t 112)⟩] none [0, 1, 5, 6, 7, 8])
   (.seq (.region [⟨(some 113), none, .fld 0 (.t 9)⟩,
     ⟨(some 114), none, .load none (.t 113)⟩,
     ⟨(some 115), none, .mov (.t 5)⟩,
     ⟨(some 116), none, .mov (.t 10)⟩,
     ⟨(some 117), none, .idx 2 (.t 115) (.t 116)⟩,
     ⟨(some 118), none, .fld 0 (.t 117)⟩,
     ⟨(some 119), none, .load none (.t 118)⟩,
     ⟨(some 120), none, .call (.c (.fn (.func F_ref06_less) [] [])) [(.t 114), (.t 119)]⟩] (some ([0, 1, 2, 3, 4, 5, 6, 7], [])) [0, 1, 5, 6, 7, 8, 9, 10, 120])
   (.cond (.t 120)
    (.region [⟨(some 121), none, .mov (.t 5)⟩,
      ⟨(some 122), none, .mov (.t 10)⟩,
      ⟨(some 123), none, .load (some 2) (.t 9)⟩,
      ⟨(some 124), none, .idx 2 (.t 121) (.t 122)⟩,
      ⟨none, none, .store 2 (.t 124) (.t 123)⟩] none [0, 1, 5, 6, 7, 8])
    .skip)))))))))
 (.region [⟨(some 26), none, .mov (.t 8)⟩,
   ⟨(some 27), none, .bin .add (.t 26) (.c (.i .i64 1))⟩,
   ⟨(some 8), none, .asg (.t 27)⟩] none [0, 1, 5, 6, 7, 8])))
def ir_ref06_longer_L0 : ACode :=
 (.seq (.seq (.region [⟨(some 12), none, .mov (.t 6)⟩,
   ⟨(some 13), none, .mov (.t 0)⟩,
   ⟨(some 14), none, .len 0 (.t 13)⟩,
   ⟨(some 15), none, .bin .lss (.t 12) (.t 14)⟩] none [0, 1, 5, 6, 15])
 (.cond (.t 15)
  .skip
  (.exit 0)))
 (.seq (.block 1
  (.seq (.region [⟨(some 18), none, .mov (.t 0)⟩,
    ⟨(some 19), none, .mov (.t 6)⟩,
    ⟨(some 20), none, .idx 2 (.t 18) (.t 19)⟩,
    ⟨(some 21), none, .load (some 2) (.t 20)⟩,
    ⟨(some 7), none, .lalloc [.ns, (.b false)]⟩,
    ⟨none, none, .store 2 (.t 7) (.t 21)⟩] none [0, 1, 5, 6, 7])
  (.seq (.region [⟨(some 8), none, .asg (.c (.i .i64 0))⟩] none [0, 1, 5, 6, 7, 8])
  (.block 2
   (.loop [0, 1, 5, 6, 7, 8] ir_ref06_longer_L1)))))
 (.region [⟨(some 16), none, .mov (.t 6)⟩,
   ⟨(some 17), none, .bin .add (.t 16) (.c (.i .i64 1))⟩,
   ⟨(some 6), none, .asg (.t 17)⟩] none [0, 1, 5, 6])))
/-- veilstone/veilstoneref06.longer -/
def ir_ref06_longer : AFun := ⟨2, [.tmp 4], true, false,
 (.seq (.region [⟨(some 4), none, .asg (.c .ns)⟩] none [0, 1])
 (.seq (.region [⟨(some 5), none, .nbuf T_ref06_path_1 2⟩] none [0, 1, 5])
 (.seq (.seq (.region [⟨(some 6), none, .asg (.c (.i .i64 0))⟩] none [0, 1, 5, 6])
 (.block 0
  (.loop [0, 1, 5, 6] ir_ref06_longer_L0)))
 (.seq (.region [⟨(some 125), none, .mov (.t 5)⟩,
   ⟨(some 4), none, .asg (.t 125)⟩] none [4])
 .ret))))⟩

/-- veilstone/veilstonelaw06.RolesAbove -/
def ir_law06_RolesAbove : AFun := ⟨2, [.tmp 4], true, false,
 (.seq (.region [⟨(some 4), none, .asg (.c (.b false))⟩] none [0, 1])
 (.seq (.seq (.region [⟨(some 13), none, .call (.c (.fn (.func F_law06_sane) [] [])) []⟩,
   ⟨(some 14), none, .un .not (.t 13)⟩] none [0, 1, 14])
 (.cond (.t 14)
  (.seq (.region [⟨(some 4), none, .asg (.c (.b false))⟩] none [4])
  .ret)
  .skip))
 (.seq (.seq (.region [⟨(some 15), none, .mov (.t 0)⟩,
   ⟨(some 16), none, .call (.c (.fn (.func F_law06_few) [] [])) [(.t 15)]⟩,
   ⟨(some 17), none, .un .not (.t 16)⟩,
   ⟨(some 18), none, .mov (.t 17)⟩,
   ⟨(some 19), some (18, false), .mov (.t 1)⟩,
   ⟨(some 20), some (18, false), .len 1 (.t 19)⟩,
   ⟨(some 21), some (18, false), .bin .gtr (.t 20) (.c (.i .i64 100))⟩,
   ⟨(some 22), none, .pick (.t 18) (.c (.b true)) (.t 21)⟩] none [0, 1, 22])
 (.cond (.t 22)
  (.seq (.region [⟨(some 4), none, .asg (.c (.b true))⟩] none [4])
  .ret)
  .skip))
 (.seq (.region [⟨(some 24), none, .mov (.t 0)⟩,
   ⟨(some 25), none, .mov (.t 1)⟩,
   ⟨(some 26), none, .call (.c (.fn (.func F_roles_Above) [] [])) [(.t 24), (.t 25)]⟩,
   ⟨(some 23), none, .mov (.t 26)⟩,
   ⟨(some 27), none, .ext (.t 23) 0⟩,
   ⟨(some 28), none, .ext (.t 23) 1⟩,
   ⟨(some 5), none, .asg (.t 27)⟩,
   ⟨(some 6), none, .asg (.t 28)⟩] none [0, 1, 5, 6])
 (.seq (.region [⟨(some 30), none, .mov (.t 0)⟩,
   ⟨(some 31), none, .mov (.t 1)⟩,
   ⟨(some 32), none, .call (.c (.fn (.func F_ref06_Above) [] [])) [(.t 30), (.t 31)]⟩,
   ⟨(some 29), none, .mov (.t 32)⟩,
   ⟨(some 33), none, .ext (.t 29) 0⟩,
   ⟨(some 34), none, .ext (.t 29) 1⟩,
   ⟨(some 7), none, .asg (.t 33)⟩,
   ⟨(some 8), none, .asg (.t 34)⟩] none [0, 1, 5, 6, 7, 8])
 (.seq (.region [⟨(some 36), none, .mov (.t 0)⟩,
   ⟨(some 37), none, .mov (.t 1)⟩,
   ⟨(some 38), none, .call (.c (.fn (.func F_roles_Simple) [] [])) [(.t 36), (.t 37)]⟩,
   ⟨(some 35), none, .mov (.t 38)⟩,
   ⟨(some 39), none, .ext (.t 35) 0⟩,
   ⟨(some 40), none, .ext (.t 35) 1⟩,
   ⟨(some 9), none, .asg (.t 39)⟩,
   ⟨(some 10), none, .asg (.t 40)⟩] none [0, 1, 5, 6, 7, 8, 9, 10])
 (.seq (.region [⟨(some 42), none, .mov (.t 0)⟩,
   ⟨(some 43), none, .mov (.t 1)⟩,
   ⟨(some 44), none, .call (.c (.fn (.func F_ref06_Simple) [] [])) [(.t 42), (.t 43)]⟩,
   ⟨(some 41), none, .mov (.t 44)⟩,
   ⟨(some 45), none, .ext (.t 41) 0⟩,
   ⟨(some 46), none, .ext (.t 41) 1⟩,
   ⟨(some 11), none, .asg (.t 45)⟩,
   ⟨(some 12), none, .asg (.t 46)⟩] none [5, 6, 7, 8, 9, 10, 11, 12])
 (.seq (.region [⟨(some 47), none, .mov (.t 5)⟩,
   ⟨(some 48), none, .mov (.t 7)⟩,
   ⟨(some 49), none, .call (.c (.fn (.func F_ref06_Same) [] [])) [(.t 47), (.t 48)]⟩,
   ⟨(some 50), none, .mov (.t 49)⟩,
   ⟨(some 51), some (50, true), .mov (.t 6)⟩,
   ⟨(some 52), some (50, true), .mov (.t 8)⟩,
   ⟨(some 53), some (50, true), .bin .eql (.t 51) (.t 52)⟩,
   ⟨(some 54), none, .pick (.t 50) (.t 53) (.c (.b false))⟩,
   ⟨(some 55), none, .mov (.t 54)⟩,
   ⟨(some 56), some (55, true), .mov (.t 9)⟩,
   ⟨(some 57), some (55, true), .mov (.t 11)⟩,
   ⟨(some 58), some (55, true), .beq false (.t 56) (.t 57)⟩,
   ⟨(some 59), none, .pick (.t 55) (.t 58) (.c (.b false))⟩,
   ⟨(some 60), none, .mov (.t 59)⟩,
   ⟨(some 61), some (60, true), .mov (.t 10)⟩,
   ⟨(some 62), some (60, true), .mov (.t 12)⟩,
   ⟨(some 63), some (60, true), .bin .eql (.t 61) (.t 62)⟩,
   ⟨(some 64), none, .pick (.t 60) (.t 63) (.c (.b false))⟩,
   ⟨(some 4), none, .asg (.t 64)⟩] none [4])
 .ret))))))))⟩

/-- veilstone/veilstoneref06.Above -/
def ir_ref06_Above : AFun := ⟨2, [.tmp 4, .tmp 5], true, false,
 (.seq (.region [⟨(some 4), none, .asg (.c .ns)⟩,
   ⟨(some 5), none, .asg (.c (.i .i64 0))⟩] none [0, 1])
 (.seq (.region [⟨(some 7), none, .mov (.t 0)⟩,
   ⟨(some 8), none, .call (.c (.fn (.func F_ref06_checked) [] [])) [(.t 7)]⟩,
   ⟨(some 6), none, .asg (.t 8)⟩] none [0, 1, 6])
 (.seq (.seq (.region [⟨(some 9), none, .mov (.t 6)⟩,
   ⟨(some 10), none, .bin .neq (.t 9) (.c (.i .i64 0))⟩] none [0, 1, 6, 10])
 (.cond (.t 10)
  (.seq (.region [⟨(some 11), none, .mov (.t 6)⟩,
    ⟨(some 4), none, .asg (.c .ns)⟩,
    ⟨(some 5), none, .asg (.t 11)⟩] none [4, 5])
  .ret)
  .skip))
 (.seq (.seq (.region [⟨(some 12), none, .mov (.t 1)⟩,
   ⟨(some 13), none, .call (.c (.fn (.func F_ref02_CheckName) [] [])) [(.t 12)]⟩,
   ⟨(some 14), none, .bin .neq (.t 13) (.c (.i .i64 0))⟩] none [0, 1, 14])
 (.cond (.t 14)
  (.seq (.region [⟨(some 4), none, .asg (.c .ns)⟩,
    ⟨(some 5), none, .asg (.c (.i .i64 20))⟩] none [4, 5])
  .ret)
  .skip))
 (.seq (.region [⟨(some 15), none, .mov (.t 0)⟩,
   ⟨(some 16), none, .mov (.t 1)⟩,
   ⟨(some 17), none, .call (.c (.fn (.func F_ref06_Up) [] [])) [(.t 15), (.t 16)]⟩,
   ⟨(some 4), none, .asg (.t 17)⟩,
   ⟨(some 5), none, .asg (.c (.i .i64 0))⟩] none [4, 5])
 .ret)))))⟩

/-- veilstone/veilstoneref02.CheckName -/
def ir_ref02_CheckName : AFun := ⟨1, [.tmp 2], true, false,
 (.seq (.region [⟨(some 2), none, .asg (.c (.i .i64 0))⟩] none [0])
 (.seq (.seq (.region [⟨(some 3), none, .mov (.t 0)⟩,
   ⟨(some 4), none, .call (.c (.fn (.func F_ref02_Person) [] [])) [(.t 3)]⟩,
   ⟨(some 5), none, .un .not (.t 4)⟩] none [5])
 (.cond (.t 5)
  (.seq (.region [⟨(some 2), none, .asg (.c (.i .i64 20))⟩] none [2])
  .ret)
  .skip))
 (.seq (.region [⟨(some 2), none, .asg (.c (.i .i64 0))⟩] none [2])
 .ret)))⟩

def ir_ref06_Up_L1 : ACode :=
 (.seq (.seq (.region [⟨(some 16), none, .mov (.t 7)⟩,
   ⟨(some 17), none, .mov (.t 0)⟩,
   ⟨(some 18), none, .len 0 (.t 17)⟩,
   ⟨(some 19), none, .bin .lss (.t 16) (.t 18)⟩] none [0, 5, 6, 7, 19])
 (.cond (.t 19)
  .skip
  (.exit 2)))
 (.seq (.block 3
  (.seq (.region [⟨(some 22), none, .mov (.t 0)⟩,
    ⟨(some 23), none, .mov (.t 7)⟩,
    ⟨(some 24), none, .idx 16 (.t 22) (.t 23)⟩,
    ⟨(some 25), none, .fld 0 (.t 24)⟩,
    ⟨(some 26), none, .load none (.t 25)⟩,
    ⟨(some 27), none, .bin .eql (.t 26) (.c (.i .i64 5))⟩,
    ⟨(some 28), none, .mov (.t 27)⟩,
    ⟨(some 29), some (28, true), .mov (.t 5)⟩,
    ⟨(some 30), some (28, true), .mov (.t 0)⟩,
    ⟨(some 31), some (28, true), .mov (.t 7)⟩,
    ⟨(some 32), some (28, true), .idx 16 (.t 30) (.t 31)⟩,
    ⟨(some 33), some (28, true), .fld 12 (.t 32)⟩,
    ⟨(some 34), some (28, true), .load none (.t 33)⟩,
    ⟨(some 35), some (28, true), .idx 1 (.t 34) (.c (.i .i64 0))⟩,
    ⟨(some 36), some (28, true), .load none (.t 35)⟩,
    ⟨(some 37), some (28, true), .call (.c (.fn (.func F_ref06_Has) [] [])) [(.t 29), (.t 36)]⟩,
    ⟨(some 38), none, .pick (.t 28) (.t 37) (.c (.b false))⟩] none [0, 5, 6, 7, 38])
  (.cond (.t 38)
   (.region [⟨(some 39), none, .mov (.t 5)⟩,
     ⟨(some 40), none, .mov (.t 0)⟩,
     ⟨(some 41), none, .mov (.t 7)⟩,
     ⟨(some 42), none, .idx 16 (.t 40) (.t 41)⟩,
     ⟨(some 43), none, .fld 13 (.t 42)⟩,
     ⟨(some 44), none, .load none (.t 43)⟩,
     ⟨(some 45), none, .call (.c (.fn (.func F_ref06_With) [] [])) [(.t 39), (.t 44)]⟩,
     ⟨(some 5), none, .asg (.t 45)⟩] none [0, 5, 6, 7])
   .skip)))
 (.region [⟨(some 20), none, .mov (.t 7)⟩,
   ⟨(some 21), none, .bin .add (.t 20) (.c (.i .i64 1))⟩,
   ⟨(some 7), none, .asg (.t 21)⟩] none [0, 5, 6, 7])))
def ir_ref06_Up_L0 : ACode :=
 (.seq (.seq (.region [⟨(some 10), none, .mov (.t 6)⟩,
   ⟨(some 11), none, .mov (.t 0)⟩,
   ⟨(some 12), none, .len 0 (.t 11)⟩,
   ⟨(some 13), none, .bin .leq (.t 10) (.t 12)⟩] none [0, 5, 6, 13])
 (.cond (.t 13)
  .skip
  (.exit 0)))
 (.seq (.block 1
  (.seq (.region [⟨(some 7), none, .asg (.c (.i .i64 0))⟩] none [0, 5, 6, 7])
  (.block 2
   (.loop [0, 5, 6, 7] ir_ref06_Up_L1))))
 (.region [⟨(some 14), none, .mov (.t 6)⟩,
   ⟨(some 15), none, .bin .add (.t 14) (.c (.i .i64 1))⟩,
   ⟨(some 6), none, .asg (.t 15)⟩] none [0, 5, 6])))
/-- veilstone/veilstoneref06.Up -/
def ir_ref06_Up : AFun := ⟨2, [.tmp 4], true, false,
 (.seq (.region [⟨(some 4), none, .asg (.c .ns)⟩] none [0, 1])
 (.seq (.region [⟨(some 8), none, .mov (.t 1)⟩,
   ⟨(some 9), none, .bsl false T_string_0 1 1 [(.s [])] [(0, (.t 8))]⟩,
   ⟨(some 5), none, .asg (.t 9)⟩] none [0, 5])
 (.seq (.seq (.region [⟨(some 6), none, .asg (.c (.i .i64 0))⟩] none [0, 5, 6])
 (.block 0
  (.loop [0, 5, 6] ir_ref06_Up_L0)))
 (.seq (.region [⟨(some 46), none, .mov (.t 5)⟩,
   ⟨(some 4), none, .asg (.t 46)⟩] none [4])
 .ret))))⟩

def ir_ref06_Simple_L0 : ACode :=
 (.seq (.seq (.region [⟨(some 16), none, .mov (.t 7)⟩,
   ⟨(some 17), none, .mov (.t 0)⟩,
   ⟨(some 18), none, .len 0 (.t 17)⟩,
   ⟨(some 19), none, .bin .lss (.t 16) (.t 18)⟩] none [0, 1, 7, 19])
 (.cond (.t 19)
  .skip
  (.exit 0)))
 (.seq (.block 1
  (.seq (.region [⟨(some 22), none, .mov (.t 0)⟩,
    ⟨(some 23), none, .mov (.t 7)⟩,
    ⟨(some 24), none, .idx 16 (.t 22) (.t 23)⟩,
    ⟨(some 25), none, .fld 0 (.t 24)⟩,
    ⟨(some 26), none, .load none (.t 25)⟩,
    ⟨(some 27), none, .bin .eql (.t 26) (.c (.i .i64 7))⟩,
    ⟨(some 28), none, .mov (.t 27)⟩,
    ⟨(some 29), some (28, false), .mov (.t 0)⟩,
    ⟨(some 30), some (28, false), .mov (.t 7)⟩,
    ⟨(some 31), some (28, false), .idx 16 (.t 29) (.t 30)⟩,
    ⟨(some 32), some (28, false), .fld 0 (.t 31)⟩,
    ⟨(some 33), some (28, false), .load none (.t 32)⟩,
    ⟨(some 34), some (28, false), .bin .eql (.t 33) (.c (.i .i64 6))⟩,
    ⟨(some 35), none, .pick (.t 28) (.c (.b true)) (.t 34)⟩,
    ⟨(some 36), none, .mov (.t 35)⟩,
    ⟨(some 37), some (36, true), .mov (.t 0)⟩,
    ⟨(some 38), some (36, true), .mov (.t 0)⟩,
    ⟨(some 39), some (36, true), .mov (.t 7)⟩,
    ⟨(some 40), some (36, true), .idx 16 (.t 38) (.t 39)⟩,
    ⟨(some 41), some (36, true), .fld 13 (.t 40)⟩,
    ⟨(some 42), some (36, true), .load none (.t 41)⟩,
    ⟨(some 43), some (36, true), .call (.c (.fn (.func F_ref06_Up) [] [])) [(.t 37), (.t 42)]⟩,
    ⟨(some 44), some (36, true), .mov (.t 1)⟩,
    ⟨(some 45), some (36, true), .call (.c (.fn (.func F_ref06_Has) [] [])) [(.t 43), (.t 44)]⟩,
    ⟨(some 46), none, .pick (.t 36) (.t 45) (.c (.b false))⟩] none [0, 1, 7, 46])
  (.cond (.t 46)
   (.seq (.region [⟨(some 4), none, .asg (.c (.b false))⟩,
     ⟨(some 5), none, .asg (.c (.i .i64 0))⟩] none [4, 5])
   .ret)
   .skip)))
 (.region [⟨(some 20), none, .mov (.t 7)⟩,
   ⟨(some 21), none, .bin .add (.t 20) (.c (.i .i64 1))⟩,
   ⟨(some 7), none, .asg (.t 21)⟩] none [0, 1, 7])))
/-- veilstone/veilstoneref06.Simple -/
def ir_ref06_Simple : AFun := ⟨2, [.tmp 4, .tmp 5], true, false,
 (.seq (.region [⟨(some 4), none, .asg (.c (.b false))⟩,
   ⟨(some 5), none, .asg (.c (.i .i64 0))⟩] none [0, 1])
 (.seq (.region [⟨(some 8), none, .mov (.t 0)⟩,
   ⟨(some 9), none, .call (.c (.fn (.func F_ref06_checked) [] [])) [(.t 8)]⟩,
   ⟨(some 6), none, .asg (.t 9)⟩] none [0, 1, 6])
 (.seq (.seq (.region [⟨(some 10), none, .mov (.t 6)⟩,
   ⟨(some 11), none, .bin .neq (.t 10) (.c (.i .i64 0))⟩] none [0, 1, 6, 11])
 (.cond (.t 11)
  (.seq (.region [⟨(some 12), none, .mov (.t 6)⟩,
    ⟨(some 4), none, .asg (.c (.b false))⟩,
    ⟨(some 5), none, .asg (.t 12)⟩] none [4, 5])
  .ret)
  .skip))
 (.seq (.seq (.region [⟨(some 13), none, .mov (.t 1)⟩,
   ⟨(some 14), none, .call (.c (.fn (.func F_ref02_CheckName) [] [])) [(.t 13)]⟩,
   ⟨(some 15), none, .bin .neq (.t 14) (.c (.i .i64 0))⟩] none [0, 1, 15])
 (.cond (.t 15)
  (.seq (.region [⟨(some 4), none, .asg (.c (.b false))⟩,
    ⟨(some 5), none, .asg (.c (.i .i64 20))⟩] none [4, 5])
  .ret)
  .skip))
 (.seq (.seq (.region [⟨(some 7), none, .asg (.c (.i .i64 0))⟩] none [0, 1, 7])
 (.block 0
  (.loop [0, 1, 7] ir_ref06_Simple_L0)))
 (.seq (.region [⟨(some 4), none, .asg (.c (.b true))⟩,
   ⟨(some 5), none, .asg (.c (.i .i64 0))⟩] none [4, 5])
 .ret))))))⟩

/-- veilstone/veilstonelaw06.RolesWords -/
def ir_law06_RolesWords : AFun := ⟨3, [.tmp 6], true, false,
 (.seq (.region [⟨(some 6), none, .asg (.c (.b false))⟩] none [0, 1, 2])
 (.seq (.seq (.region [⟨(some 15), none, .call (.c (.fn (.func F_law06_sane) [] [])) []⟩,
   ⟨(some 16), none, .un .not (.t 15)⟩] none [0, 1, 2, 16])
 (.cond (.t 16)
  (.seq (.region [⟨(some 6), none, .asg (.c (.b false))⟩] none [6])
  .ret)
  .skip))
 (.seq (.seq (.region [⟨(some 17), none, .mov (.t 0)⟩,
   ⟨(some 18), none, .call (.c (.fn (.func F_law06_few) [] [])) [(.t 17)]⟩,
   ⟨(some 19), none, .un .not (.t 18)⟩,
   ⟨(some 20), none, .mov (.t 19)⟩,
   ⟨(some 21), some (20, false), .mov (.t 1)⟩,
   ⟨(some 22), some (20, false), .call (.c (.fn (.func F_law06_short) [] [])) [(.t 21)]⟩,
   ⟨(some 23), some (20, false), .un .not (.t 22)⟩,
   ⟨(some 24), none, .pick (.t 20) (.c (.b true)) (.t 23)⟩,
   ⟨(some 25), none, .mov (.t 24)⟩,
   ⟨(some 26), some (25, false), .mov (.t 2)⟩,
   ⟨(some 27), some (25, false), .len 1 (.t 26)⟩,
   ⟨(some 28), some (25, false), .bin .gtr (.t 27) (.c (.i .i64 100))⟩,
   ⟨(some 29), none, .pick (.t 25) (.c (.b true)) (.t 28)⟩] none [0, 1, 2, 29])
 (.cond (.t 29)
  (.seq (.region [⟨(some 6), none, .asg (.c (.b true))⟩] none [6])
  .ret)
  .skip))
 (.seq (.region [⟨(some 31), none, .mov (.t 0)⟩,
   ⟨(some 32), none, .mov (.t 1)⟩,
   ⟨(some 33), none, .mov (.t 2)⟩,
   ⟨(some 34), none, .call (.c (.fn (.func F_roles_Word) [] [])) [(.t 31), (.t 32), (.t 33)]⟩,
   ⟨(some 30), none, .mov (.t 34)⟩,
   ⟨(some 35), none, .ext (.t 30) 0⟩,
   ⟨(some 36), none, .ext (.t 30) 1⟩,
   ⟨(some 7), none, .asg (.t 35)⟩,
   ⟨(some 8), none, .asg (.t 36)⟩] none [0, 1, 2, 7, 8])
 (.seq (.region [⟨(some 38), none, .mov (.t 0)⟩,
   ⟨(some 39), none, .mov (.t 1)⟩,
   ⟨(some 40), none, .mov (.t 2)⟩,
   ⟨(some 41), none, .call (.c (.fn (.func F_ref06_Word) [] [])) [(.t 38), (.t 39), (.t 40)]⟩,
   ⟨(some 37), none, .mov (.t 41)⟩,
   ⟨(some 42), none, .ext (.t 37) 0⟩,
   ⟨(some 43), none, .ext (.t 37) 1⟩,
   ⟨(some 9), none, .asg (.t 42)⟩,
   ⟨(some 10), none, .asg (.t 43)⟩] none [0, 1, 7, 8, 9, 10])
 (.seq (.seq (.region [⟨(some 44), none, .mov (.t 7)⟩,
   ⟨(some 45), none, .mov (.t 9)⟩,
   ⟨(some 46), none, .beq true (.t 44) (.t 45)⟩,
   ⟨(some 47), none, .mov (.t 46)⟩,
   ⟨(some 48), some (47, false), .mov (.t 8)⟩,
   ⟨(some 49), some (47, false), .mov (.t 10)⟩,
   ⟨(some 50), some (47, false), .bin .neq (.t 48) (.t 49)⟩,
   ⟨(some 51), none, .pick (.t 47) (.c (.b true)) (.t 50)⟩] none [0, 1, 51])
 (.cond (.t 51)
  (.seq (.region [⟨(some 6), none, .asg (.c (.b false))⟩] none [6])
  .ret)
  .skip))
 (.seq (.seq (.region [⟨(some 52), none, .mov (.t 1)⟩,
   ⟨(some 53), none, .len 0 (.t 52)⟩,
   ⟨(some 54), none, .bin .lss (.t 53) (.c (.i .i64 2))⟩] none [0, 1, 54])
 (.cond (.t 54)
  (.seq (.region [⟨(some 6), none, .asg (.c (.b true))⟩] none [6])
  .ret)
  .skip))
 (.seq (.region [⟨(some 56), none, .mov (.t 0)⟩,
   ⟨(some 57), none, .mov (.t 1)⟩,
   ⟨(some 58), none, .idx 1 (.t 57) (.c (.i .i64 0))⟩,
   ⟨(some 59), none, .load none (.t 58)⟩,
   ⟨(some 60), none, .mov (.t 1)⟩,
   ⟨(some 61), none, .idx 1 (.t 60) (.c (.i .i64 1))⟩,
   ⟨(some 62), none, .load none (.t 61)⟩,
   ⟨(some 63), none, .call (.c (.fn (.func F_roles_Compose) [] [])) [(.t 56), (.t 59), (.t 62)]⟩,
   ⟨(some 55), none, .mov (.t 63)⟩,
   ⟨(some 64), none, .ext (.t 55) 0⟩,
   ⟨(some 65), none, .ext (.t 55) 1⟩,
   ⟨(some 11), none, .cpy (.t 64)⟩,
   ⟨(some 12), none, .cpy (.t 65)⟩] (some ([0, 1, 2, 3, 4, 5, 6, 7, 8, 9, 10, 11, 12], [])) [0, 1, 11, 12])
 (.seq (.region [⟨(some 67), none, .mov (.t 0)⟩,
   ⟨(some 68), none, .mov (.t 1)⟩,
   ⟨(some 69), none, .idx 1 (.t 68) (.c (.i .i64 0))⟩,
   ⟨(some 70), none, .load none (.t 69)⟩,
   ⟨(some 71), none, .mov (.t 1)⟩,
   ⟨(some 72), none, .idx 1 (.t 71) (.c (.i .i64 1))⟩,
   ⟨(some 73), none, .load none (.t 72)⟩,
   ⟨(some 74), none, .call (.c (.fn (.func F_ref06_Compose) [] [])) [(.t 67), (.t 70), (.t 73)]⟩,
   ⟨(some 66), none, .mov (.t 74)⟩,
   ⟨(some 75), none, .ext (.t 66) 0⟩,
   ⟨(some 76), none, .ext (.t 66) 1⟩,
   ⟨(some 13), none, .cpy (.t 75)⟩,
   ⟨(some 14), none, .cpy (.t 76)⟩] (some ([0, 1, 2, 3, 4, 5, 6, 7, 8, 9, 10, 11, 12], [])) [11, 12, 13, 14])
 (.seq (.region [⟨(some 77), none, .mov (.t 11)⟩,
   ⟨(some 78), none, .mov (.t 13)⟩,
   ⟨(some 79), none, .call (.c (.fn (.func F_ref06_Same) [] [])) [(.t 77), (.t 78)]⟩,
   ⟨(some 80), none, .mov (.t 79)⟩,
   ⟨(some 81), some (80, true), .mov (.t 12)⟩,
   ⟨(some 82), some (80, true), .mov (.t 14)⟩,
   ⟨(some 83), some (80, true), .bin .eql (.t 81) (.t 82)⟩,
   ⟨(some 84), none, .pick (.t 80) (.t 83) (.c (.b false))⟩,
   ⟨(some 6), none, .asg (.t 84)⟩] none [6])
 .ret))))))))))⟩

def ir_law06_short_L0 : ACode :=
 (.seq (.seq (.region [⟨(some 7), none, .mov (.t 3)⟩,
   ⟨(some 8), none, .mov (.t 0)⟩,
   ⟨(some 9), none, .len 0 (.t 8)⟩,
   ⟨(some 10), none, .bin .lss (.t 7) (.t 9)⟩] none [0, 3, 10])
 (.cond (.t 10)
  .skip
  (.exit 0)))
 (.seq (.block 1
  (.seq (.region [⟨(some 13), none, .mov (.t 0)⟩,
    ⟨(some 14), none, .mov (.t 3)⟩,
    ⟨(some 15), none, .idx 1 (.t 13) (.t 14)⟩,
    ⟨(some 16), none, .load none (.t 15)⟩,
    ⟨(some 17), none, .len 1 (.t 16)⟩,
    ⟨(some 18), none, .bin .gtr (.t 17) (.c (.i .i64 100))⟩] none [0, 3, 18])
  (.cond (.t 18)
   (.seq (.region [⟨(some 2), none, .asg (.c (.b false))⟩] none [2])
   .ret)
   .skip)))
 (.region [⟨(some 11), none, .mov (.t 3)⟩,
   ⟨(some 12), none, .bin .add (.t 11) (.c (.i .i64 1))⟩,
   ⟨(some 3), none, .asg (.t 12)⟩] none [0, 3])))
/-- veilstone/veilstonelaw06.short -/
def ir_law06_short : AFun := ⟨1, [.tmp 2], true, false,
 (.seq (.region [⟨(some 2), none, .asg (.c (.b false))⟩] none [0])
 (.seq (.seq (.region [⟨(some 4), none, .mov (.t 0)⟩,
   ⟨(some 5), none, .len 0 (.t 4)⟩,
   ⟨(some 6), none, .bin .gtr (.t 5) (.c (.i .i64 7))⟩] none [0, 6])
 (.cond (.t 6)
  (.seq (.region [⟨(some 2), none, .asg (.c (.b false))⟩] none [2])
  .ret)
  .skip))
 (.seq (.seq (.region [⟨(some 3), none, .asg (.c (.i .i64 0))⟩] none [0, 3])
 (.block 0
  (.loop [0, 3] ir_law06_short_L0)))
 (.seq (.region [⟨(some 2), none, .asg (.c (.b true))⟩] none [2])
 .ret))))⟩

def ir_ref06_Word_L0 : ACode :=
 (.seq (.seq (.region [⟨(some 18), none, .mov (.t 9)⟩,
   ⟨(some 19), none, .mov (.t 1)⟩,
   ⟨(some 20), none, .len 0 (.t 19)⟩,
   ⟨(some 21), none, .bin .lss (.t 18) (.t 20)⟩] none [0, 1, 2, 9, 21])
 (.cond (.t 21)
  .skip
  (.exit 0)))
 (.seq (.block 1
  (.seq (.region [⟨(some 24), none, .mov (.t 1)⟩,
    ⟨(some 25), none, .mov (.t 9)⟩,
    ⟨(some 26), none, .idx 1 (.t 24) (.t 25)⟩,
    ⟨(some 27), none, .load none (.t 26)⟩,
    ⟨(some 28), none, .call (.c (.fn (.func F_ref02_CheckName) [] [])) [(.t 27)]⟩,
    ⟨(some 29), none, .bin .neq (.t 28) (.c (.i .i64 0))⟩] none [0, 1, 2, 9, 29])
  (.cond (.t 29)
   (.seq (.region [⟨(some 6), none, .asg (.c (.b false))⟩,
     ⟨(some 7), none, .asg (.c (.i .i64 20))⟩] none [6, 7])
   .ret)
   .skip)))
 (.region [⟨(some 22), none, .mov (.t 9)⟩,
   ⟨(some 23), none, .bin .add (.t 22) (.c (.i .i64 1))⟩,
   ⟨(some 9), none, .asg (.t 23)⟩] none [0, 1, 2, 9])))
/-- veilstone/veilstoneref06.Word -/
def ir_ref06_Word : AFun := ⟨3, [.tmp 6, .tmp 7], true, false,
 (.seq (.region [⟨(some 6), none, .asg (.c (.b false))⟩,
   ⟨(some 7), none, .asg (.c (.i .i64 0))⟩] none [0, 1, 2])
 (.seq (.region [⟨(some 10), none, .mov (.t 0)⟩,
   ⟨(some 11), none, .call (.c (.fn (.func F_ref06_checked) [] [])) [(.t 10)]⟩,
   ⟨(some 8), none, .asg (.t 11)⟩] none [0, 1, 2, 8])
 (.seq (.seq (.region [⟨(some 12), none, .mov (.t 8)⟩,
   ⟨(some 13), none, .bin .neq (.t 12) (.c (.i .i64 0))⟩] none [0, 1, 2, 8, 13])
 (.cond (.t 13)
  (.seq (.region [⟨(some 14), none, .mov (.t 8)⟩,
    ⟨(some 6), none, .asg (.c (.b false))⟩,
    ⟨(some 7), none, .asg (.t 14)⟩] none [6, 7])
  .ret)
  .skip))
 (.seq (.seq (.region [⟨(some 15), none, .mov (.t 2)⟩,
   ⟨(some 16), none, .call (.c (.fn (.func F_ref02_CheckName) [] [])) [(.t 15)]⟩,
   ⟨(some 17), none, .bin .neq (.t 16) (.c (.i .i64 0))⟩] none [0, 1, 2, 17])
 (.cond (.t 17)
  (.seq (.region [⟨(some 6), none, .asg (.c (.b false))⟩,
    ⟨(some 7), none, .asg (.c (.i .i64 20))⟩] none [6, 7])
  .ret)
  .skip))
 (.seq (.seq (.region [⟨(some 9), none, .asg (.c (.i .i64 0))⟩] none [0, 1, 2, 9])
 (.block 0
  (.loop [0, 1, 2, 9] ir_ref06_Word_L0)))
 (.seq (.seq (.region [⟨(some 30), none, .mov (.t 1)⟩,
   ⟨(some 31), none, .len 0 (.t 30)⟩,
   ⟨(some 32), none, .bin .gtr (.t 31) (.c (.i .i64 64))⟩] none [0, 1, 2, 32])
 (.cond (.t 32)
  (.seq (.region [⟨(some 6), none, .asg (.c (.b false))⟩,
    ⟨(some 7), none, .asg (.c (.i .i64 2))⟩] none [6, 7])
  .ret)
  .skip))
 (.seq (.region [⟨(some 33), none, .mov (.t 0)⟩,
   ⟨(some 34), none, .mov (.t 1)⟩,
   ⟨(some 35), none, .call (.c (.fn (.func F_ref06_Words) [] [])) [(.t 33), (.t 34)]⟩,
   ⟨(some 36), none, .idx 1 (.t 35) (.c (.i .i64 0))⟩,
   ⟨(some 37), none, .load none (.t 36)⟩,
   ⟨(some 38), none, .mov (.t 1)⟩,
   ⟨(some 39), none, .len 0 (.t 38)⟩,
   ⟨(some 40), none, .idx 1 (.t 37) (.t 39)⟩,
   ⟨(some 41), none, .load none (.t 40)⟩,
   ⟨(some 42), none, .mov (.t 2)⟩,
   ⟨(some 43), none, .call (.c (.fn (.func F_ref06_Has) [] [])) [(.t 41), (.t 42)]⟩,
   ⟨(some 6), none, .asg (.t 43)⟩,
   ⟨(some 7), none, .asg (.c (.i .i64 0))⟩] none [6, 7])
 .ret)))))))⟩

def ir_ref06_Words_L0 : ACode :=
 (.seq (.seq (.region [⟨(some 16), none, .mov (.t 6)⟩,
   ⟨(some 17), none, .mov (.t 1)⟩,
   ⟨(some 18), none, .len 0 (.t 17)⟩,
   ⟨(some 19), none, .bin .leq (.t 16) (.t 18)⟩] none [0, 1, 5, 6, 19])
 (.cond (.t 19)
  .skip
  (.exit 0)))
 (.seq (.block 1
  (.seq (.region [⟨(some 22), none, .mov (.t 5)⟩,
    ⟨(some 23), none, .mov (.t 6)⟩,
    ⟨(some 24), none, .mov (.t 1)⟩,
    ⟨(some 25), none, .len 0 (.t 24)⟩,
    ⟨(some 26), none, .bin .add (.t 25) (.c (.i .i64 1))⟩,
    ⟨(some 27), none, .mks T_string_1 1 [.ns] (.t 26)⟩,
    ⟨(some 28), none, .idx 1 (.t 22) (.t 23)⟩,
    ⟨none, none, .store 1 (.t 28) (.t 27)⟩] none [0, 1, 5, 6])
  (.seq (.region [⟨(some 29), none, .mov (.t 6)⟩,
    ⟨(some 30), none, .mov (.t 1)⟩,
    ⟨(some 31), none, .len 0 (.t 30)⟩,
    ⟨(some 32), none, .bin .lss (.t 29) (.t 31)⟩] none [0, 1, 5, 6, 32])
  (.cond (.t 32)
   (.region [⟨(some 33), none, .mov (.t 5)⟩,
     ⟨(some 34), none, .mov (.t 6)⟩,
     ⟨(some 35), none, .idx 1 (.t 33) (.t 34)⟩,
     ⟨(some 36), none, .load none (.t 35)⟩,
     ⟨(some 37), none, .mov (.t 6)⟩,
     ⟨(some 38), none, .bin .add (.t 37) (.c (.i .i64 1))⟩,
     ⟨(some 39), none, .mov (.t 1)⟩,
     ⟨(some 40), none, .mov (.t 6)⟩,
     ⟨(some 41), none, .idx 1 (.t 39) (.t 40)⟩,
     ⟨(some 42), none, .load none (.t 41)⟩,
     ⟨(some 43), none, .bsl false T_string_0 1 1 [(.s [])] [(0, (.t 42))]⟩,
     ⟨(some 44), none, .idx 1 (.t 36) (.t 38)⟩,
     ⟨none, none, .store 1 (.t 44) (.t 43)⟩] (some ([0, 1, 2, 3, 4, 5, 6, 7, 8, 9, 10, 11, 12], [])) [0, 1, 5, 6])
   .skip))))
 (.region [⟨(some 20), none, .mov (.t 6)⟩,
   ⟨(some 21), none, .bin .add (.t 20) (.c (.i .i64 1))⟩,
   ⟨(some 6), none, .asg (.t 21)⟩] none [0, 1, 5, 6])))
def ir_ref06_Words_L4 : ACode :=
 (.seq (.seq (.region [⟨(some 59), none, .mov (.t 10)⟩,
   ⟨(some 60), none, .mov (.t 0)⟩,
   ⟨(some 61), none, .len 0 (.t 60)⟩,
   ⟨(some 62), none, .bin .lss (.t 59) (.t 61)⟩] none [0, 1, 5, 7, 8, 9, 10, 62])
 (.cond (.t 62)
  .skip
  (.exit 8)))
 (.seq (.block 9
  (.seq (.region [⟨(some 65), none, .mov (.t 0)⟩,
    ⟨(some 66), none, .mov (.t 10)⟩,
    ⟨(some 67), none, .idx 16 (.t 65) (.t 66)⟩,
    ⟨(some 68), none, .load (some 16) (.t 67)⟩,
    ⟨(some 11), none, .lalloc [(.i .i64 0), (.b false), (.i .i64 0), (.s []), (.i .i64 0), (.i .i64 0), .ns, (.i .i64 0), (.s []), (.i .i64 0), (.i .i64 0), .ns, .ns, (.s []), (.s []), (.s [])]⟩,
    ⟨none, none, .store 16 (.t 11) (.t 68)⟩] none [0, 1, 5, 7, 8, 9, 10, 11])
  (.seq (.seq (.region [⟨(some 69), none, .fld 0 (.t 11)⟩,
    ⟨(some 70), none, .load none (.t 69)⟩,
    ⟨(some 71), none, .bin .neq (.t 70) (.c (.i .i64 5))⟩,
    ⟨(some 72), none, .mov (.t 71)⟩,
    ⟨(some 73), some (72, true), .fld 0 (.t 11)⟩,
    ⟨(some 74), some (72, true), .load none (.t 73)⟩,
    ⟨(some 75), some (72, true), .bin .neq (.t 74) (.c (.i .i64 6))⟩,
    ⟨(some 76), none, .pick (.t 72) (.t 75) (.c (.b false))⟩,
    ⟨(some 77), none, .mov (.t 76)⟩,
    ⟨(some 78), some (77, true), .fld 0 (.t 11)⟩,
    ⟨(some 79), some (77, true), .load none (.t 78)⟩,
    ⟨(some 80), some (77, true), .bin .neq (.t 79) (.c (.i .i64 7))⟩,
    ⟨(some 81), none, .pick (.t 77) (.t 80) (.c (.b false))⟩,
    ⟨(some 82), none, .mov (.t 81)⟩,
    ⟨(some 83), some (82, false), .mov (.t 5)⟩,
    ⟨(some 84), some (82, false), .mov (.t 8)⟩,
    ⟨(some 85), some (82, false), .idx 1 (.t 83) (.t 84)⟩,
    ⟨(some 86), some (82, false), .load none (.t 85)⟩,
    ⟨(some 87), some (82, false), .mov (.t 9)⟩,
    ⟨(some 88), some (82, false), .idx 1 (.t 86) (.t 87)⟩,
    ⟨(some 89), some (82, false), .load none (.t 88)⟩,
    ⟨(some 90), some (82, false), .fld 13 (.t 11)⟩,
    ⟨(some 91), some (82, false), .load none (.t 90)⟩,
    ⟨(some 92), some (82, false), .call (.c (.fn (.func F_ref06_Has) [] [])) [(.t 89), (.t 91)]⟩,
    ⟨(some 93), none, .pick (.t 82) (.c (.b true)) (.t 92)⟩] (some ([0, 1, 2, 3, 4, 5, 6, 7, 8, 9, 10, 11, 12, 13, 14, 15, 16, 17, 18, 19, 20, 21, 22, 23, 24], [])) [0, 1, 5, 7, 8, 9, 10, 11, 93])
  (.cond (.t 93)
   (.exit 9)
   .skip))
  (.seq (.region [⟨(some 94), none, .fld 0 (.t 11)⟩,
    ⟨(some 95), none, .load none (.t 94)⟩,
    ⟨(some 96), none, .bin .eql (.t 95) (.c (.i .i64 7))⟩,
    ⟨(some 97), none, .mov (.t 96)⟩,
    ⟨(some 98), some (97, true), .mov (.t 8)⟩,
    ⟨(some 99), some (97, true), .mov (.t 9)⟩,
    ⟨(some 100), some (97, true), .bin .eql (.t 98) (.t 99)⟩,
    ⟨(some 101), none, .pick (.t 97) (.t 100) (.c (.b false))⟩,
    ⟨(some 102), none, .mov (.t 101)⟩,
    ⟨(some 103), some (102, false), .fld 0 (.t 11)⟩,
    ⟨(some 104), some (102, false), .load none (.t 103)⟩,
    ⟨(some 105), some (102, false), .bin .neq (.t 104) (.c (.i .i64 7))⟩,
    ⟨(some 106), some (102, false), .mov (.t 105)⟩,
    ⟨(some 107), some (106, true), .fld 12 (.t 11)⟩,
    ⟨(some 108), some (106, true), .load none (.t 107)⟩,
    ⟨(some 109), some (106, true), .mov (.t 5)⟩,
    ⟨(some 110), some (106, true), .mov (.t 8)⟩,
    ⟨(some 111), some (106, true), .mov (.t 9)⟩,
    ⟨(some 112), some (106, true), .call (.c (.fn (.func F_ref06_covers) [] [])) [(.t 108), (.c (.i .i64 0)), (.t 109), (.t 110), (.t 111)]⟩,
    ⟨(some 113), some (102, false), .pick (.t 106) (.t 112) (.c (.b false))⟩,
    ⟨(some 114), none, .pick (.t 102) (.c (.b true)) (.t 113)⟩] none [0, 1, 5, 7, 8, 9, 10, 11, 114])
  (.cond (.t 114)
   (.seq (.region [⟨(some 115), none, .mov (.t 5)⟩,
     ⟨(some 116), none, .mov (.t 8)⟩,
     ⟨(some 117), none, .idx 1 (.t 115) (.t 116)⟩,
     ⟨(some 118), none, .load none (.t 117)⟩,
     ⟨(some 119), none, .mov (.t 9)⟩,
     ⟨(some 120), none, .mov (.t 5)⟩,
     ⟨(some 121), none, .mov (.t 8)⟩,
     ⟨(some 122), none, .idx 1 (.t 120) (.t 121)⟩,
     ⟨(some 123), none, .load none (.t 122)⟩,
     ⟨(some 124), none, .mov (.t 9)⟩,
     ⟨(some 125), none, .idx 1 (.t 123) (.t 124)⟩,
     ⟨(some 126), none, .load none (.t 125)⟩,
     ⟨(some 127), none, .fld 13 (.t 11)⟩,
     ⟨(some 128), none, .load none (.t 127)⟩,
     ⟨(some 129), none, .call (.c (.fn (.func F_ref06_With) [] [])) [(.t 126), (.t 128)]⟩,
     ⟨(some 130), none, .idx 1 (.t 118) (.t 119)⟩,
     ⟨none, none, .store 1 (.t 130) (.t 129)⟩] (some ([0, 1, 2, 3, 4, 5, 6, 7, 8, 9, 10, 11, 12, 13, 14, 15, 16], [])) [0, 1, 5, 8, 9, 10])
   (.region [⟨(some 7), none, .asg (.c (.b true))⟩] none [0, 1, 5, 7, 8, 9, 10]))
   .skip)))))
 (.region [⟨(some 63), none, .mov (.t 10)⟩,
   ⟨(some 64), none, .bin .add (.t 63) (.c (.i .i64 1))⟩,
   ⟨(some 10), none, .asg (.t 64)⟩] none [0, 1, 5, 7, 8, 9, 10])))
def ir_ref06_Words_L3 : ACode :=
 (.seq (.seq (.region [⟨(some 53), none, .mov (.t 9)⟩,
   ⟨(some 54), none, .mov (.t 1)⟩,
   ⟨(some 55), none, .len 0 (.t 54)⟩,
   ⟨(some 56), none, .bin .leq (.t 53) (.t 55)⟩] none [0, 1, 5, 7, 8, 9, 56])
 (.cond (.t 56)
  .skip
  (.exit 6)))
 (.seq (.block 7
  (.seq (.region [⟨(some 10), none, .asg (.c (.i .i64 0))⟩] none [0, 1, 5, 7, 8, 9, 10])
  (.block 8
   (.loop [0, 1, 5, 7, 8, 9, 10] ir_ref06_Words_L4))))
 (.region [⟨(some 57), none, .mov (.t 9)⟩,
   ⟨(some 58), none, .bin .add (.t 57) (.c (.i .i64 1))⟩,
   ⟨(some 9), none, .asg (.t 58)⟩] none [0, 1, 5, 7, 8, 9])))
def ir_ref06_Words_L2 : ACode :=
 (.seq (.seq (.region [⟨(some 46), none, .mov (.t 8)⟩,
   ⟨(some 47), none, .mov (.t 1)⟩,
   ⟨(some 48), none, .len 0 (.t 47)⟩,
   ⟨(some 49), none, .bin .leq (.t 46) (.t 48)⟩] none [0, 1, 5, 7, 8, 49])
 (.cond (.t 49)
  .skip
  (.exit 4)))
 (.seq (.block 5
  (.seq (.region [⟨(some 52), none, .mov (.t 8)⟩,
    ⟨(some 9), none, .asg (.t 52)⟩] none [0, 1, 5, 7, 8, 9])
  (.block 6
   (.loop [0, 1, 5, 7, 8, 9] ir_ref06_Words_L3))))
 (.region [⟨(some 50), none, .mov (.t 8)⟩,
   ⟨(some 51), none, .bin .add (.t 50) (.c (.i .i64 1))⟩,
   ⟨(some 8), none, .asg (.t 51)⟩] none [0, 1, 5, 7, 8])))
def ir_ref06_Words_L1 : ACode :=
 (.seq (.seq (.region [⟨(some 45), none, .mov (.t 7)⟩] none [0, 1, 5, 45])
 (.cond (.t 45)
  .skip
  (.exit 2)))
 (.block 3
  (.seq (.region [⟨(some 7), none, .asg (.c (.b false))⟩] none [0, 1, 5, 7])
  (.seq (.region [⟨(some 8), none, .asg (.c (.i .i64 0))⟩] none [0, 1, 5, 7, 8])
  (.block 4
   (.loop [0, 1, 5, 7, 8] ir_ref06_Words_L2))))))
/-- veilstone/veilstoneref06.Words -/
def ir_ref06_Words : AFun := ⟨2, [.tmp 4], true, false,
 (.seq (.region [⟨(some 4), none, .asg (.c .ns)⟩] none [0, 1])
 (.seq (.region [⟨(some 12), none, .mov (.t 1)⟩,
   ⟨(some 13), none, .len 0 (.t 12)⟩,
   ⟨(some 14), none, .bin .add (.t 13) (.c (.i .i64 1))⟩,
   ⟨(some 15), none, .mks T_string_2 1 [.ns] (.t 14)⟩,
   ⟨(some 5), none, .asg (.t 15)⟩] none [0, 1, 5])
 (.seq (.seq (.region [⟨(some 6), none, .asg (.c (.i .i64 0))⟩] none [0, 1, 5, 6])
 (.block 0
  (.loop [0, 1, 5, 6] ir_ref06_Words_L0)))
 (.seq (.seq (.region [⟨(some 7), none, .asg (.c (.b true))⟩] none [0, 1, 5, 7])
 (.block 2
  (.loop [0, 1, 5, 7] ir_ref06_Words_L1)))
 (.seq (.region [⟨(some 131), none, .mov (.t 5)⟩,
   ⟨(some 4), none, .asg (.t 131)⟩] none [4])
 .ret)))))⟩

def ir_ref06_covers_L0 : ACode :=
 (.seq (.seq (.region [⟨(some 20), none, .mov (.t 11)⟩,
   ⟨(some 21), none, .mov (.t 4)⟩,
   ⟨(some 22), none, .bin .leq (.t 20) (.t 21)⟩] none [0, 1, 2, 3, 4, 11, 22])
 (.cond (.t 22)
  .skip
  (.exit 0)))
 (.seq (.block 1
  (.seq (.region [⟨(some 25), none, .mov (.t 2)⟩,
    ⟨(some 26), none, .mov (.t 3)⟩,
    ⟨(some 27), none, .idx 1 (.t 25) (.t 26)⟩,
    ⟨(some 28), none, .load none (.t 27)⟩,
    ⟨(some 29), none, .mov (.t 11)⟩,
    ⟨(some 30), none, .idx 1 (.t 28) (.t 29)⟩,
    ⟨(some 31), none, .load none (.t 30)⟩,
    ⟨(some 32), none, .mov (.t 0)⟩,
    ⟨(some 33), none, .mov (.t 1)⟩,
    ⟨(some 34), none, .idx 1 (.t 32) (.t 33)⟩,
    ⟨(some 35), none, .load none (.t 34)⟩,
    ⟨(some 36), none, .call (.c (.fn (.func F_ref06_Has) [] [])) [(.t 31), (.t 35)]⟩,
    ⟨(some 37), none, .mov (.t 36)⟩,
    ⟨(some 38), some (37, true), .mov (.t 0)⟩,
    ⟨(some 39), some (37, true), .mov (.t 1)⟩,
    ⟨(some 40), some (37, true), .bin .add (.t 39) (.c (.i .i64 1))⟩,
    ⟨(some 41), some (37, true), .mov (.t 2)⟩,
    ⟨(some 42), some (37, true), .mov (.t 11)⟩,
    ⟨(some 43), some (37, true), .mov (.t 4)⟩,
    ⟨(some 44), some (37, true), .call (.c (.fn (.func F_ref06_covers) [] [])) [(.t 38), (.t 40), (.t 41), (.t 42), (.t 43)]⟩,
    ⟨(some 45), none, .pick (.t 37) (.t 44) (.c (.b false))⟩] (some ([0, 1, 2, 3, 4, 5, 6, 7, 8, 9, 10, 11, 12, 13, 14, 15, 16, 17, 18, 19, 20], [])) [0, 1, 2, 3, 4, 11, 45])
  (.cond (.t 45)
   (.seq (.region [⟨(some 10), none, .asg (.c (.b true))⟩] none [10])
   .ret)
   .skip)))
 (.region [⟨(some 23), none, .mov (.t 11)⟩,
   ⟨(some 24), none, .bin .add (.t 23) (.c (.i .i64 1))⟩,
   ⟨(some 11), none, .asg (.t 24)⟩] none [0, 1, 2, 3, 4, 11])))
/-- veilstone/veilstoneref06.covers -/
def ir_ref06_covers : AFun := ⟨5, [.tmp 10], true, false,
 (.seq (.region [⟨(some 10), none, .asg (.c (.b false))⟩] none [0, 1, 2, 3, 4])
 (.seq (.seq (.region [⟨(some 12), none, .mov (.t 1)⟩,
   ⟨(some 13), none, .mov (.t 0)⟩,
   ⟨(some 14), none, .len 0 (.t 13)⟩,
   ⟨(some 15), none, .bin .eql (.t 12) (.t 14)⟩] none [0, 1, 2, 3, 4, 15])
 (.cond (.t 15)
  (.seq (.region [⟨(some 16), none, .mov (.t 3)⟩,
    ⟨(some 17), none, .mov (.t 4)⟩,
    ⟨(some 18), none, .bin .eql (.t 16) (.t 17)⟩,
    ⟨(some 10), none, .asg (.t 18)⟩] none [10])
  .ret)
  .skip))
 (.seq (.seq (.region [⟨(some 19), none, .mov (.t 3)⟩,
   ⟨(some 11), none, .asg (.t 19)⟩] none [0, 1, 2, 3, 4, 11])
 (.block 0
  (.loop [0, 1, 2, 3, 4, 11] ir_ref06_covers_L0)))
 (.seq (.region [⟨(some 10), none, .asg (.c (.b false))⟩] none [10])
 .ret))))⟩

/-- veilstone/veilstoneref06.Compose -/
def ir_ref06_Compose : AFun := ⟨3, [.tmp 6, .tmp 7], true, false,
 (.seq (.region [⟨(some 6), none, .asg (.c .ns)⟩,
   ⟨(some 7), none, .asg (.c (.i .i64 0))⟩] none [0, 1, 2])
 (.seq (.region [⟨(some 9), none, .mov (.t 0)⟩,
   ⟨(some 10), none, .call (.c (.fn (.func F_ref06_checked) [] [])) [(.t 9)]⟩,
   ⟨(some 8), none, .asg (.t 10)⟩] none [0, 1, 2, 8])
 (.seq (.seq (.region [⟨(some 11), none, .mov (.t 8)⟩,
   ⟨(some 12), none, .bin .neq (.t 11) (.c (.i .i64 0))⟩] none [0, 1, 2, 8, 12])
 (.cond (.t 12)
  (.seq (.region [⟨(some 13), none, .mov (.t 8)⟩,
    ⟨(some 6), none, .asg (.c .ns)⟩,
    ⟨(some 7), none, .asg (.t 13)⟩] none [6, 7])
  .ret)
  .skip))
 (.seq (.seq (.region [⟨(some 14), none, .mov (.t 1)⟩,
   ⟨(some 15), none, .call (.c (.fn (.func F_ref02_CheckName) [] [])) [(.t 14)]⟩,
   ⟨(some 16), none, .bin .neq (.t 15) (.c (.i .i64 0))⟩,
   ⟨(some 17), none, .mov (.t 16)⟩,
   ⟨(some 18), some (17, false), .mov (.t 2)⟩,
   ⟨(some 19), some (17, false), .call (.c (.fn (.func F_ref02_CheckName) [] [])) [(.t 18)]⟩,
   ⟨(some 20), some (17, false), .bin .neq (.t 19) (.c (.i .i64 0))⟩,
   ⟨(some 21), none, .pick (.t 17) (.c (.b true)) (.t 20)⟩] none [0, 1, 2, 21])
 (.cond (.t 21)
  (.seq (.region [⟨(some 6), none, .asg (.c .ns)⟩,
    ⟨(some 7), none, .asg (.c (.i .i64 20))⟩] none [6, 7])
  .ret)
  .skip))
 (.seq (.region [⟨(some 22), none, .mov (.t 0)⟩,
   ⟨(some 23), none, .mov (.t 1)⟩,
   ⟨(some 24), none, .mov (.t 2)⟩,
   ⟨(some 25), none, .bsl false T_string_0 1 2 [(.s [])] [(0, (.t 23)), (1, (.t 24))]⟩,
   ⟨(some 26), none, .call (.c (.fn (.func F_ref06_Words) [] [])) [(.t 22), (.t 25)]⟩,
   ⟨(some 27), none, .idx 1 (.t 26) (.c (.i .i64 0))⟩,
   ⟨(some 28), none, .load none (.t 27)⟩,
   ⟨(some 29), none, .idx 1 (.t 28) (.c (.i .i64 2))⟩,
   ⟨(some 30), none, .load none (.t 29)⟩,
   ⟨(some 6), none, .asg (.t 30)⟩,
   ⟨(some 7), none, .asg (.c (.i .i64 0))⟩] none [6, 7])
 .ret)))))⟩

end Go.Ai.Z
