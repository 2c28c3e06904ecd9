/-
  Functions whose answer is known.
-/
import Derived.Test.YtomjajnlomdhpaaDoorAiA1
import Derived.Lib.ItoaLen
import Derived.Lib.Bytealg
set_option maxRecDepth 100000
set_option linter.unusedSimpArgs false
set_option linter.unusedVariables false
namespace Go.Ai

/-- strings.Join. -/
def joinL (sep : List UInt8) : List (List UInt8) → List UInt8
  | [] => []
  | x :: r => x ++ r.flatMap fun y => sep ++ y
def strOf : AV → Option (List UInt8)
  | .s l => some l
  | _ => none
def iJoin : List AV → Option AV
  | [.sl es, .s sep] => (es.mapM strOf).bind fun l => if (joinL sep l).length ≤ 1048576 ∧ l.length ≤ 1048576 then some (.s (joinL sep l)) else none
  | _ => none

/-- strconv.Itoa. -/
def iItoa : List AV → Option AV
  | [.i .i64 n] => if -9223372036854775808 ≤ n ∧ n ≤ 9223372036854775807 then some (.s (Lib.itoa n)) else none
  | _ => none

/-- Where a byte stands first: what is before it, and what is behind. -/
def cutB (b : UInt8) : List UInt8 → Option (List UInt8 × List UInt8)
  | [] => none
  | x :: r => if x = b then some ([], r) else (cutB b r).map fun p => (x :: p.1, p.2)
/-- strings.Index of one byte. -/
def iIndex : List AV → Option AV
  | [.s l, .s [b]] => some (.i .i64 (Lib.indexByte l b))
  | _ => none

/-- strings.Compare. -/
def iCompare : List AV → Option AV
  | [.s a, .s b] => some (.i .i64 (Lib.compareBytes a b))
  | _ => none

/-! ### maps.Keys and slices.Sorted -/

/-- A string among strings in order. -/
def insS (x : List UInt8) : List (List UInt8) → List (List UInt8)
  | [] => [x]
  | y :: r => if y < x then y :: insS x r else x :: y :: r
def isort : List (List UInt8) → List (List UInt8)
  | [] => []
  | x :: r => insS x (isort r)
def strictS : List (List UInt8) → Bool
  | a :: b :: r => decide (a < b) && strictS (b :: r)
  | _ => true
theorem insS_perm (x : List UInt8) : ∀ l, (insS x l).Perm (x :: l)
  | [] => .refl _
  | y :: r => by
    simp only [insS]
    split
    · exact (List.Perm.cons y (insS_perm x r)).trans (List.Perm.swap x y r)
    · exact .refl _
theorem isort_perm : ∀ l, (isort l).Perm l
  | [] => .refl _
  | x :: r => (insS_perm x _).trans (List.Perm.cons x (isort_perm r))
theorem insS_sorted (x : List UInt8) : ∀ l : List (List UInt8), l.Pairwise (fun a b => a ≤ b) → (insS x l).Pairwise (fun a b => a ≤ b)
  | [], _ => by simp [insS]
  | y :: r, h => by
    obtain ⟨h1, h2⟩ := List.pairwise_cons.1 h
    simp only [insS]
    split
    · rename_i hlt
      refine List.pairwise_cons.2 ⟨fun z hz => ?_, insS_sorted x r h2⟩
      rcases List.mem_cons.1 ((insS_perm x r).mem_iff.1 hz) with rfl | hz
      · exact List.le_of_lt hlt
      · exact h1 z hz
    · rename_i hnlt
      have hxy : x ≤ y := List.not_lt.1 hnlt
      refine List.pairwise_cons.2 ⟨fun z hz => ?_, h⟩
      rcases List.mem_cons.1 hz with rfl | hz
      · exact hxy
      · exact List.le_trans hxy (h1 z hz)
theorem isort_sorted : ∀ l : List (List UInt8), (isort l).Pairwise (fun a b => a ≤ b)
  | [] => .nil
  | x :: r => insS_sorted x _ (isort_sorted r)
theorem strictS_nodup : ∀ l : List (List UInt8), strictS l = true → l.Pairwise (fun a b => a < b)
  | [], _ => .nil
  | [a], _ => by simp
  | a :: b :: r, h => by
    simp only [strictS, Bool.and_eq_true, decide_eq_true_eq] at h
    have ih := strictS_nodup (b :: r) h.2
    refine List.pairwise_cons.2 ⟨fun z hz => ?_, ih⟩
    rcases List.mem_cons.1 hz with rfl | hz
    · exact h.1
    · exact List.lt_trans h.1 ((List.pairwise_cons.1 ih).1 z hz)

/-- A map's keys, strings. -/
def keysM (s : St) : AV → Option (List (List UInt8))
  | .im es => es.mapM fun p => strOf p.1
  | .mp l => match s[l]? with
    | some (.map es) => es.mapM fun p => strOf p.1
    | some (.umap es) => some (es.map (·.1))
    | _ => none
  | .nm => some []
  | _ => none
/-- A map. -/
def isMapV : AV → Bool
  | .im _ | .mp _ | .nm => true
  | _ => false
/-- maps.Keys: the iterator over a map. -/
def iKeys (f : Nat) : List AV → St → Option AV
  | [m], _ => if isMapV m then some (.fn (.func f) [] [.kb m]) else none
  | _, _ => none
/-- Strings as a slice: nil if there is none. -/
def slS (l : List (List UInt8)) : AV := match l with | [] => .ns | l => .sl (l.map .s)
/-- slices.Sorted of a map's keys. -/
def iSorted (ks : List Nat) : List AV → St → Option AV
  | [.fn (.func f) [] [.kb m]], s => if ks.contains f then (keysM s m).bind fun l => if strictS (isort l) ∧ l.length ≤ 1048576 ∧ (∀ x ∈ l, x.length ≤ 1048576) then some (slS (isort l)) else none else none
  | _, _ => none

end Go.Ai

/-
  Numbers of functions, types and variables: written by program.
-/
namespace Go.Ai.Z
abbrev F_law06_RolesOrder : Nat := 4
abbrev F_law06_sane : Nat := 13
abbrev F_law06_few : Nat := 14
abbrev F_roles_Above : Nat := 15
abbrev F_law06_has : Nat := 16
abbrev F_roles_Simple : Nat := 17
abbrev F_law06_chain : Nat := 39
abbrev F_law06_sub : Nat := 40
abbrev F_law06_circles : Nat := 38
abbrev F_roles_Check : Nat := 19
abbrev F_ref06_Same : Nat := 21
abbrev F_roles_Word : Nat := 20
abbrev F_roles_Compose : Nat := 41
abbrev F_roles_check : Nat := 47
abbrev F_roles_steps : Nat := 49
abbrev F_roles_newGraph : Nat := 48
abbrev F_roles_graph_circle : Nat := 50
abbrev F_terms_CheckAxiom : Nat := 52
abbrev F_terms_isShaped : Nat := 87
abbrev F_terms_isNamed : Nat := 88
abbrev F_terms_CheckConcept : Nat := 32
abbrev F_terms_isBare : Nat := 89
abbrev F_terms_isEmpty : Nat := 104
abbrev F_terms_isPlain : Nat := 93
abbrev F_terms_CheckName : Nat := 76
abbrev F_strings_Cut : Nat := 106
abbrev F_terms_isWord : Nat := 107
abbrev F_internal_stringslite_Cut : Nat := 125
abbrev F_internal_stringslite_Index : Nat := 136
abbrev F_terms_isLetter : Nat := 126
abbrev F_terms_isTail : Nat := 108
abbrev F_lexis_Keyword : Nat := 127
abbrev F_terms_isReserved : Nat := 94
abbrev F_terms_fits : Nat := 55
abbrev F_terms_walk : Nat := 53
abbrev F_terms_checkFields : Nat := 56
abbrev F_terms_walk_1 : Nat := 90
abbrev F_terms_visit : Nat := 91
abbrev F_slices_ContainsFunc_api_Concept_api_Concept : Nat := 105
abbrev F_slices_IndexFunc_api_Concept_api_Concept : Nat := 124
abbrev F_roles_steps_1 : Nat := 82
abbrev F_roles_exempt : Nat := 83
abbrev F_maps_Keys_map_string_map_string_bool_string_map_string_bool : Nat := 80
abbrev F_slices_Sorted_string : Nat := 44
abbrev F_maps_Keys_map_string_bool_string_bool : Nat := 45
abbrev F_slices_BinarySearch_string_string : Nat := 81
abbrev F_cmp_Less_string : Nat := 102
abbrev F_slices_isNaN_string : Nat := 103
abbrev F_cmp_isNaN_string : Nat := 123
abbrev F_slices_Reverse_int_int : Nat := 84
abbrev F_roles_checkAll : Nat := 43
abbrev F_roles_closure : Nat := 46
abbrev F_roles_recognize : Nat := 51
abbrev F_roles_newGrammar : Nat := 85
abbrev F_roles_recognize_1 : Nat := 86
abbrev F_strings_Join : Nat := 96
abbrev F_ref02_FewAxioms : Nat := 42
abbrev F_ref02_FewAxiom : Nat := 75
abbrev F_ref02_Few : Nat := 10
abbrev F_ref02_count : Nat := 31
abbrev T_string_0 : Nat := 9
abbrev T_api_Axiom_1 : Nat := 43
abbrev T_roles_step_2 : Nat := 134
abbrev T_roles_step_1 : Nat := 130
abbrev T_int_0 : Nat := 3
abbrev T_roles_way_0 : Nat := 138
abbrev T_2_bool_1 : Nat := 141
abbrev T_roles_rule_1 : Nat := 155
abbrev T_roles_item_1 : Nat := 151
abbrev G_terms_uses : Nat := 0
abbrev G_terms_needs : Nat := 1
end Go.Ai.Z

/-
  The program's functions in the small language: written by program.
-/
namespace Go.Ai.Z
def ir_law06_RolesOrder_L0 : ACode :=
 (.seq (.seq (.region [⟨(some 53), none, .mov (.t 13)⟩,
   ⟨(some 54), none, .mov (.t 9)⟩,
   ⟨(some 55), none, .len 0 (.t 54)⟩,
   ⟨(some 56), none, .bin .lss (.t 53) (.t 55)⟩] none [0, 1, 2, 3, 9, 11, 13, 56])
 (.cond (.t 56)
  .skip
  (.exit 0)))
 (.seq (.block 1
  (.seq (.region [⟨(some 59), none, .mov (.t 9)⟩,
    ⟨(some 60), none, .mov (.t 13)⟩,
    ⟨(some 61), none, .idx 1 (.t 59) (.t 60)⟩,
    ⟨(some 62), none, .load none (.t 61)⟩,
    ⟨(some 63), none, .mov (.t 9)⟩,
    ⟨(some 64), none, .mov (.t 13)⟩,
    ⟨(some 65), none, .bin .sub (.t 64) (.c (.i .i64 1))⟩,
    ⟨(some 66), none, .idx 1 (.t 63) (.t 65)⟩,
    ⟨(some 67), none, .load none (.t 66)⟩,
    ⟨(some 68), none, .bin .leq (.t 62) (.t 67)⟩] (some ([0, 1, 2, 3, 4, 5, 6, 7, 8, 9], [])) [0, 1, 2, 3, 9, 11, 13, 68])
  (.cond (.t 68)
   (.seq (.region [⟨(some 8), none, .asg (.c (.b false))⟩] none [8])
   .ret)
   .skip)))
 (.region [⟨(some 57), none, .mov (.t 13)⟩,
   ⟨(some 58), none, .bin .add (.t 57) (.c (.i .i64 1))⟩,
   ⟨(some 13), none, .asg (.t 58)⟩] none [0, 1, 2, 3, 9, 11, 13])))
def ir_law06_RolesOrder_L1 : ACode :=
 (.seq (.seq (.region [⟨(some 69), none, .mov (.t 14)⟩,
   ⟨(some 70), none, .mov (.t 0)⟩,
   ⟨(some 71), none, .len 0 (.t 70)⟩,
   ⟨(some 72), none, .bin .lss (.t 69) (.t 71)⟩] none [0, 1, 2, 3, 9, 11, 14, 72])
 (.cond (.t 72)
  .skip
  (.exit 2)))
 (.seq (.block 3
  (.seq (.region [⟨(some 75), none, .mov (.t 0)⟩,
    ⟨(some 76), none, .mov (.t 14)⟩,
    ⟨(some 77), none, .idx 16 (.t 75) (.t 76)⟩,
    ⟨(some 78), none, .fld 0 (.t 77)⟩,
    ⟨(some 79), none, .load none (.t 78)⟩,
    ⟨(some 80), none, .bin .eql (.t 79) (.c (.i .i64 5))⟩,
    ⟨(some 81), none, .mov (.t 80)⟩,
    ⟨(some 82), some (81, true), .mov (.t 9)⟩,
    ⟨(some 83), some (81, true), .mov (.t 0)⟩,
    ⟨(some 84), some (81, true), .mov (.t 14)⟩,
    ⟨(some 85), some (81, true), .idx 16 (.t 83) (.t 84)⟩,
    ⟨(some 86), some (81, true), .fld 12 (.t 85)⟩,
    ⟨(some 87), some (81, true), .load none (.t 86)⟩,
    ⟨(some 88), some (81, true), .idx 1 (.t 87) (.c (.i .i64 0))⟩,
    ⟨(some 89), some (81, true), .load none (.t 88)⟩,
    ⟨(some 90), some (81, true), .call (.c (.fn (.func F_law06_has) [] [])) [(.t 82), (.t 89)]⟩,
    ⟨(some 91), none, .pick (.t 81) (.t 90) (.c (.b false))⟩,
    ⟨(some 92), none, .mov (.t 91)⟩,
    ⟨(some 93), some (92, true), .mov (.t 9)⟩,
    ⟨(some 94), some (92, true), .mov (.t 0)⟩,
    ⟨(some 95), some (92, true), .mov (.t 14)⟩,
    ⟨(some 96), some (92, true), .idx 16 (.t 94) (.t 95)⟩,
    ⟨(some 97), some (92, true), .fld 13 (.t 96)⟩,
    ⟨(some 98), some (92, true), .load none (.t 97)⟩,
    ⟨(some 99), some (92, true), .call (.c (.fn (.func F_law06_has) [] [])) [(.t 93), (.t 98)]⟩,
    ⟨(some 100), some (92, true), .un .not (.t 99)⟩,
    ⟨(some 101), none, .pick (.t 92) (.t 100) (.c (.b false))⟩] none [0, 1, 2, 3, 9, 11, 14, 101])
  (.cond (.t 101)
   (.seq (.region [⟨(some 8), none, .asg (.c (.b false))⟩] none [8])
   .ret)
   .skip)))
 (.region [⟨(some 73), none, .mov (.t 14)⟩,
   ⟨(some 74), none, .bin .add (.t 73) (.c (.i .i64 1))⟩,
   ⟨(some 14), none, .asg (.t 74)⟩] none [0, 1, 2, 3, 9, 11, 14])))
/-- veilstone/veilstonelaw06.RolesOrder -/
def ir_law06_RolesOrder : AFun := ⟨4, [.tmp 8], true, false,
 (.seq (.region [⟨(some 8), none, .asg (.c (.b false))⟩] none [0, 1, 2, 3])
 (.seq (.seq (.region [⟨(some 19), none, .call (.c (.fn (.func F_law06_sane) [] [])) []⟩,
   ⟨(some 20), none, .un .not (.t 19)⟩] none [0, 1, 2, 3, 20])
 (.cond (.t 20)
  (.seq (.region [⟨(some 8), none, .asg (.c (.b false))⟩] none [8])
  .ret)
  .skip))
 (.seq (.seq (.region [⟨(some 21), none, .mov (.t 0)⟩,
   ⟨(some 22), none, .call (.c (.fn (.func F_law06_few) [] [])) [(.t 21)]⟩,
   ⟨(some 23), none, .un .not (.t 22)⟩,
   ⟨(some 24), none, .mov (.t 23)⟩,
   ⟨(some 25), some (24, false), .mov (.t 1)⟩,
   ⟨(some 26), some (24, false), .len 1 (.t 25)⟩,
   ⟨(some 27), some (24, false), .mov (.t 2)⟩,
   ⟨(some 28), some (24, false), .len 1 (.t 27)⟩,
   ⟨(some 29), some (24, false), .bin .add (.t 26) (.t 28)⟩,
   ⟨(some 30), some (24, false), .mov (.t 3)⟩,
   ⟨(some 31), some (24, false), .len 1 (.t 30)⟩,
   ⟨(some 32), some (24, false), .bin .add (.t 29) (.t 31)⟩,
   ⟨(some 33), some (24, false), .bin .gtr (.t 32) (.c (.i .i64 100))⟩,
   ⟨(some 34), none, .pick (.t 24) (.c (.b true)) (.t 33)⟩] none [0, 1, 2, 3, 34])
 (.cond (.t 34)
  (.seq (.region [⟨(some 8), none, .asg (.c (.b true))⟩] none [8])
  .ret)
  .skip))
 (.seq (.region [⟨(some 36), none, .mov (.t 0)⟩,
   ⟨(some 37), none, .mov (.t 1)⟩,
   ⟨(some 38), none, .call (.c (.fn (.func F_roles_Above) [] [])) [(.t 36), (.t 37)]⟩,
   ⟨(some 35), none, .mov (.t 38)⟩,
   ⟨(some 39), none, .ext (.t 35) 0⟩,
   ⟨(some 40), none, .ext (.t 35) 1⟩,
   ⟨(some 9), none, .asg (.t 39)⟩,
   ⟨(some 10), none, .asg (.t 40)⟩] none [0, 1, 2, 3, 9, 10])
 (.seq (.region [⟨(some 42), none, .mov (.t 0)⟩,
   ⟨(some 43), none, .mov (.t 2)⟩,
   ⟨(some 44), none, .call (.c (.fn (.func F_roles_Above) [] [])) [(.t 42), (.t 43)]⟩,
   ⟨(some 41), none, .mov (.t 44)⟩,
   ⟨(some 45), none, .ext (.t 41) 0⟩,
   ⟨(some 46), none, .ext (.t 41) 1⟩,
   ⟨(some 11), none, .asg (.t 45)⟩,
   ⟨(some 12), none, .asg (.t 46)⟩] none [0, 1, 2, 3, 9, 10, 11, 12])
 (.seq (.seq (.region [⟨(some 47), none, .mov (.t 10)⟩,
   ⟨(some 48), none, .bin .neq (.t 47) (.c (.i .i64 0))⟩,
   ⟨(some 49), none, .mov (.t 48)⟩,
   ⟨(some 50), some (49, false), .mov (.t 12)⟩,
   ⟨(some 51), some (49, false), .bin .neq (.t 50) (.c (.i .i64 0))⟩,
   ⟨(some 52), none, .pick (.t 49) (.c (.b true)) (.t 51)⟩] none [0, 1, 2, 3, 9, 11, 52])
 (.cond (.t 52)
  (.seq (.region [⟨(some 8), none, .asg (.c (.b true))⟩] none [8])
  .ret)
  .skip))
 (.seq (.seq (.region [⟨(some 13), none, .asg (.c (.i .i64 1))⟩] none [0, 1, 2, 3, 9, 11, 13])
 (.block 0
  (.loop [0, 1, 2, 3, 9, 11, 13] ir_law06_RolesOrder_L0)))
 (.seq (.seq (.region [⟨(some 14), none, .asg (.c (.i .i64 0))⟩] none [0, 1, 2, 3, 9, 11, 14])
 (.block 2
  (.loop [0, 1, 2, 3, 9, 11, 14] ir_law06_RolesOrder_L1)))
 (.seq (.region [⟨(some 103), none, .mov (.t 0)⟩,
   ⟨(some 104), none, .mov (.t 1)⟩,
   ⟨(some 105), none, .call (.c (.fn (.func F_roles_Simple) [] [])) [(.t 103), (.t 104)]⟩,
   ⟨(some 102), none, .mov (.t 105)⟩,
   ⟨(some 106), none, .ext (.t 102) 0⟩,
   ⟨(some 107), none, .ext (.t 102) 1⟩,
   ⟨(some 15), none, .asg (.t 106)⟩,
   ⟨(some 16), none, .asg (.t 107)⟩] none [0, 1, 2, 3, 9, 11, 15, 16])
 (.seq (.region [⟨(some 109), none, .mov (.t 0)⟩,
   ⟨(some 110), none, .mov (.t 2)⟩,
   ⟨(some 111), none, .call (.c (.fn (.func F_roles_Simple) [] [])) [(.t 109), (.t 110)]⟩,
   ⟨(some 108), none, .mov (.t 111)⟩,
   ⟨(some 112), none, .ext (.t 108) 0⟩,
   ⟨(some 113), none, .ext (.t 108) 1⟩,
   ⟨(some 17), none, .asg (.t 112)⟩,
   ⟨(some 18), none, .asg (.t 113)⟩] none [1, 2, 3, 9, 11, 15, 16, 17, 18])
 (.seq (.seq (.region [⟨(some 114), none, .mov (.t 16)⟩,
   ⟨(some 115), none, .bin .neq (.t 114) (.c (.i .i64 0))⟩,
   ⟨(some 116), none, .mov (.t 115)⟩,
   ⟨(some 117), some (116, false), .mov (.t 18)⟩,
   ⟨(some 118), some (116, false), .bin .neq (.t 117) (.c (.i .i64 0))⟩,
   ⟨(some 119), none, .pick (.t 116) (.c (.b true)) (.t 118)⟩,
   ⟨(some 120), none, .mov (.t 119)⟩,
   ⟨(some 121), some (120, false), .mov (.t 9)⟩,
   ⟨(some 122), some (120, false), .mov (.t 2)⟩,
   ⟨(some 123), some (120, false), .call (.c (.fn (.func F_law06_has) [] [])) [(.t 121), (.t 122)]⟩,
   ⟨(some 124), some (120, false), .mov (.t 123)⟩,
   ⟨(some 125), some (124, true), .mov (.t 15)⟩,
   ⟨(some 126), some (124, true), .un .not (.t 125)⟩,
   ⟨(some 127), some (120, false), .pick (.t 124) (.t 126) (.c (.b false))⟩,
   ⟨(some 128), some (120, false), .mov (.t 127)⟩,
   ⟨(some 129), some (128, true), .mov (.t 17)⟩,
   ⟨(some 130), some (120, false), .pick (.t 128) (.t 129) (.c (.b false))⟩,
   ⟨(some 131), none, .pick (.t 120) (.c (.b true)) (.t 130)⟩] none [1, 2, 3, 9, 11, 131])
 (.cond (.t 131)
  (.seq (.region [⟨(some 8), none, .asg (.c (.b false))⟩] none [8])
  .ret)
  .skip))
 (.seq (.region [⟨(some 132), none, .mov (.t 9)⟩,
   ⟨(some 133), none, .mov (.t 1)⟩,
   ⟨(some 134), none, .call (.c (.fn (.func F_law06_has) [] [])) [(.t 132), (.t 133)]⟩,
   ⟨(some 135), none, .mov (.t 134)⟩,
   ⟨(some 136), some (135, true), .mov (.t 9)⟩,
   ⟨(some 137), some (135, true), .mov (.t 2)⟩,
   ⟨(some 138), some (135, true), .call (.c (.fn (.func F_law06_has) [] [])) [(.t 136), (.t 137)]⟩,
   ⟨(some 139), some (135, true), .un .not (.t 138)⟩,
   ⟨(some 140), some (135, true), .mov (.t 139)⟩,
   ⟨(some 141), some (140, false), .mov (.t 11)⟩,
   ⟨(some 142), some (140, false), .mov (.t 3)⟩,
   ⟨(some 143), some (140, false), .call (.c (.fn (.func F_law06_has) [] [])) [(.t 141), (.t 142)]⟩,
   ⟨(some 144), some (140, false), .un .not (.t 143)⟩,
   ⟨(some 145), some (135, true), .pick (.t 140) (.c (.b true)) (.t 144)⟩,
   ⟨(some 146), some (135, true), .mov (.t 145)⟩,
   ⟨(some 147), some (146, false), .mov (.t 9)⟩,
   ⟨(some 148), some (146, false), .mov (.t 3)⟩,
   ⟨(some 149), some (146, false), .call (.c (.fn (.func F_law06_has) [] [])) [(.t 147), (.t 148)]⟩,
   ⟨(some 150), some (135, true), .pick (.t 146) (.c (.b true)) (.t 149)⟩,
   ⟨(some 151), none, .pick (.t 135) (.t 150) (.c (.b false))⟩,
   ⟨(some 8), none, .asg (.t 151)⟩] none [8])
 .ret))))))))))))⟩

/-- veilstone/veilstonelaw06.sane -/
def ir_law06_sane : AFun := ⟨0, [.tmp 0], true, false,
 (.seq (.region [⟨(some 0), none, .asg (.c (.b false))⟩] none [])
 (.seq (.seq (.region [⟨(some 20), none, .bsl false T_string_0 1 2 [(.s [])] [(0, (.c (.s [114]))), (1, (.c (.s [115])))]⟩,
   ⟨(some 21), none, .call (.c (.fn (.func F_law06_chain) [] [])) [(.t 20), (.c (.s [116]))]⟩,
   ⟨(some 22), none, .call (.c (.fn (.func F_law06_sub) [] [])) [(.c (.s [116])), (.c (.s [115]))]⟩,
   ⟨(some 23), none, .bsl false T_api_Axiom_1 16 2 [(.i .i64 0), (.b false), (.i .i64 0), (.s []), (.i .i64 0), (.i .i64 0), .ns, (.i .i64 0), (.s []), (.i .i64 0), (.i .i64 0), .ns, .ns, (.s []), (.s []), (.s [])] [(0, (.t 21)), (1, (.t 22))]⟩,
   ⟨(some 24), none, .bsl false T_string_0 1 2 [(.s [])] [(0, (.c (.s [115]))), (1, (.c (.s [116])))]⟩,
   ⟨(some 25), none, .call (.c (.fn (.func F_law06_circles) [] [])) [(.t 23), (.t 24)]⟩,
   ⟨(some 26), none, .un .not (.t 25)⟩,
   ⟨(some 27), none, .mov (.t 26)⟩,
   ⟨(some 28), some (27, false), .bsl false T_string_0 1 3 [(.s [])] [(0, (.c (.s [114]))), (1, (.c (.s [116]))), (2, (.c (.s [114])))]⟩,
   ⟨(some 29), some (27, false), .call (.c (.fn (.func F_law06_chain) [] [])) [(.t 28), (.c (.s [116]))]⟩,
   ⟨(some 30), some (27, false), .bsl false T_api_Axiom_1 16 1 [(.i .i64 0), (.b false), (.i .i64 0), (.s []), (.i .i64 0), (.i .i64 0), .ns, (.i .i64 0), (.s []), (.i .i64 0), (.i .i64 0), .ns, .ns, (.s []), (.s []), (.s [])] [(0, (.t 29))]⟩,
   ⟨(some 31), some (27, false), .bsl false T_string_0 1 1 [(.s [])] [(0, (.c (.s [116])))]⟩,
   ⟨(some 32), some (27, false), .call (.c (.fn (.func F_law06_circles) [] [])) [(.t 30), (.t 31)]⟩,
   ⟨(some 33), some (27, false), .un .not (.t 32)⟩,
   ⟨(some 34), none, .pick (.t 27) (.c (.b true)) (.t 33)⟩,
   ⟨(some 35), none, .mov (.t 34)⟩,
   ⟨(some 36), some (35, false), .bsl false T_string_0 1 3 [(.s [])] [(0, (.c (.s [115]))), (1, (.c (.s [114]))), (2, (.c (.s [115])))]⟩,
   ⟨(some 37), some (35, false), .call (.c (.fn (.func F_law06_chain) [] [])) [(.t 36), (.c (.s [114]))]⟩,
   ⟨(some 38), some (35, false), .bsl false T_api_Axiom_1 16 1 [(.i .i64 0), (.b false), (.i .i64 0), (.s []), (.i .i64 0), (.i .i64 0), .ns, (.i .i64 0), (.s []), (.i .i64 0), (.i .i64 0), .ns, .ns, (.s []), (.s []), (.s [])] [(0, (.t 37))]⟩,
   ⟨(some 39), some (35, false), .bsl false T_string_0 1 1 [(.s [])] [(0, (.c (.s [114])))]⟩,
   ⟨(some 40), some (35, false), .call (.c (.fn (.func F_law06_circles) [] [])) [(.t 38), (.t 39)]⟩,
   ⟨(some 41), some (35, false), .un .not (.t 40)⟩,
   ⟨(some 42), none, .pick (.t 35) (.c (.b true)) (.t 41)⟩,
   ⟨(some 43), none, .mov (.t 42)⟩,
   ⟨(some 44), some (43, false), .bsl false T_string_0 1 2 [(.s [])] [(0, (.c (.s [114]))), (1, (.c (.s [115])))]⟩,
   ⟨(some 45), some (43, false), .call (.c (.fn (.func F_law06_chain) [] [])) [(.t 44), (.c (.s [116]))]⟩,
   ⟨(some 46), some (43, false), .bsl false T_string_0 1 2 [(.s [])] [(0, (.c (.s [116]))), (1, (.c (.s [113])))]⟩,
   ⟨(some 47), some (43, false), .call (.c (.fn (.func F_law06_chain) [] [])) [(.t 46), (.c (.s [115]))]⟩,
   ⟨(some 48), some (43, false), .bsl false T_api_Axiom_1 16 2 [(.i .i64 0), (.b false), (.i .i64 0), (.s []), (.i .i64 0), (.i .i64 0), .ns, (.i .i64 0), (.s []), (.i .i64 0), (.i .i64 0), .ns, .ns, (.s []), (.s []), (.s [])] [(0, (.t 45)), (1, (.t 47))]⟩,
   ⟨(some 49), some (43, false), .bsl false T_string_0 1 2 [(.s [])] [(0, (.c (.s [115]))), (1, (.c (.s [116])))]⟩,
   ⟨(some 50), some (43, false), .call (.c (.fn (.func F_law06_circles) [] [])) [(.t 48), (.t 49)]⟩,
   ⟨(some 51), some (43, false), .un .not (.t 50)⟩,
   ⟨(some 52), none, .pick (.t 43) (.c (.b true)) (.t 51)⟩] none [52])
 (.cond (.t 52)
  (.seq (.region [⟨(some 0), none, .asg (.c (.b false))⟩] none [0])
  .ret)
  .skip))
 (.seq (.region [⟨(some 54), none, .bsl false T_string_0 1 2 [(.s [])] [(0, (.c (.s [116]))), (1, (.c (.s [116])))]⟩,
   ⟨(some 55), none, .call (.c (.fn (.func F_law06_chain) [] [])) [(.t 54), (.c (.s [116]))]⟩,
   ⟨(some 56), none, .bsl false T_string_0 1 2 [(.s [])] [(0, (.c (.s [116]))), (1, (.c (.s [114])))]⟩,
   ⟨(some 57), none, .call (.c (.fn (.func F_law06_chain) [] [])) [(.t 56), (.c (.s [116]))]⟩,
   ⟨(some 58), none, .bsl false T_string_0 1 2 [(.s [])] [(0, (.c (.s [114]))), (1, (.c (.s [115])))]⟩,
   ⟨(some 59), none, .call (.c (.fn (.func F_law06_chain) [] [])) [(.t 58), (.c (.s [114]))]⟩,
   ⟨(some 60), none, .call (.c (.fn (.func F_law06_sub) [] [])) [(.c (.s [112])), (.c (.s [113]))]⟩,
   ⟨(some 61), none, .call (.c (.fn (.func F_law06_sub) [] [])) [(.c (.s [113])), (.c (.s [112]))]⟩,
   ⟨(some 62), none, .bsl false T_api_Axiom_1 16 5 [(.i .i64 0), (.b false), (.i .i64 0), (.s []), (.i .i64 0), (.i .i64 0), .ns, (.i .i64 0), (.s []), (.i .i64 0), (.i .i64 0), .ns, .ns, (.s []), (.s []), (.s [])] [(0, (.t 55)), (1, (.t 57)), (2, (.t 59)), (3, (.t 60)), (4, (.t 61))]⟩,
   ⟨(some 63), none, .call (.c (.fn (.func F_roles_Check) [] [])) [(.t 62)]⟩,
   ⟨(some 53), none, .mov (.t 63)⟩,
   ⟨(some 64), none, .ext (.t 53) 0⟩,
   ⟨(some 65), none, .ext (.t 53) 1⟩,
   ⟨(some 1), none, .asg (.t 64)⟩,
   ⟨(some 2), none, .asg (.t 65)⟩] none [2])
 (.seq (.region [⟨(some 67), none, .call (.c (.fn (.func F_law06_sub) [] [])) [(.c (.s [114])), (.c (.s [115]))]⟩,
   ⟨(some 68), none, .bsl false T_api_Axiom_1 16 1 [(.i .i64 0), (.b false), (.i .i64 0), (.s []), (.i .i64 0), (.i .i64 0), .ns, (.i .i64 0), (.s []), (.i .i64 0), (.i .i64 0), .ns, .ns, (.s []), (.s []), (.s [])] [(0, (.t 67))]⟩,
   ⟨(some 69), none, .call (.c (.fn (.func F_roles_Above) [] [])) [(.t 68), (.c (.s [114]))]⟩,
   ⟨(some 66), none, .mov (.t 69)⟩,
   ⟨(some 70), none, .ext (.t 66) 0⟩,
   ⟨(some 71), none, .ext (.t 66) 1⟩,
   ⟨(some 3), none, .asg (.t 70)⟩,
   ⟨(some 4), none, .asg (.t 71)⟩] none [2, 3, 4])
 (.seq (.region [⟨(some 72), none, .bsl false T_string_0 1 2 [(.s [])] [(0, (.c (.s [114]))), (1, (.c (.s [114])))]⟩,
   ⟨(some 73), none, .call (.c (.fn (.func F_law06_chain) [] [])) [(.t 72), (.c (.s [114]))]⟩,
   ⟨(some 74), none, .call (.c (.fn (.func F_law06_sub) [] [])) [(.c (.s [114])), (.c (.s [115]))]⟩,
   ⟨(some 75), none, .bsl false T_api_Axiom_1 16 2 [(.i .i64 0), (.b false), (.i .i64 0), (.s []), (.i .i64 0), (.i .i64 0), .ns, (.i .i64 0), (.s []), (.i .i64 0), (.i .i64 0), .ns, .ns, (.s []), (.s []), (.s [])] [(0, (.t 73)), (1, (.t 74))]⟩,
   ⟨(some 5), none, .asg (.t 75)⟩] none [2, 3, 4, 5])
 (.seq (.region [⟨(some 77), none, .mov (.t 5)⟩,
   ⟨(some 78), none, .call (.c (.fn (.func F_roles_Simple) [] [])) [(.t 77), (.c (.s [115]))]⟩,
   ⟨(some 76), none, .mov (.t 78)⟩,
   ⟨(some 79), none, .ext (.t 76) 0⟩,
   ⟨(some 80), none, .ext (.t 76) 1⟩,
   ⟨(some 6), none, .asg (.t 79)⟩,
   ⟨(some 7), none, .asg (.t 80)⟩] none [2, 3, 4, 5, 6, 7])
 (.seq (.region [⟨(some 82), none, .mov (.t 5)⟩,
   ⟨(some 83), none, .call (.c (.fn (.func F_roles_Simple) [] [])) [(.t 82), (.c (.s [113]))]⟩,
   ⟨(some 81), none, .mov (.t 83)⟩,
   ⟨(some 84), none, .ext (.t 81) 0⟩,
   ⟨(some 85), none, .ext (.t 81) 1⟩,
   ⟨(some 8), none, .asg (.t 84)⟩,
   ⟨(some 9), none, .asg (.t 85)⟩] none [2, 3, 4, 6, 7, 8, 9])
 (.seq (.seq (.region [⟨(some 86), none, .mov (.t 2)⟩,
   ⟨(some 87), none, .bin .neq (.t 86) (.c (.i .i64 0))⟩,
   ⟨(some 88), none, .mov (.t 87)⟩,
   ⟨(some 89), some (88, false), .mov (.t 3)⟩,
   ⟨(some 90), some (88, false), .bsl false T_string_0 1 2 [(.s [])] [(0, (.c (.s [114]))), (1, (.c (.s [115])))]⟩,
   ⟨(some 91), some (88, false), .call (.c (.fn (.func F_ref06_Same) [] [])) [(.t 89), (.t 90)]⟩,
   ⟨(some 92), some (88, false), .un .not (.t 91)⟩,
   ⟨(some 93), none, .pick (.t 88) (.c (.b true)) (.t 92)⟩,
   ⟨(some 94), none, .mov (.t 93)⟩,
   ⟨(some 95), some (94, false), .mov (.t 4)⟩,
   ⟨(some 96), some (94, false), .bin .neq (.t 95) (.c (.i .i64 0))⟩,
   ⟨(some 97), none, .pick (.t 94) (.c (.b true)) (.t 96)⟩,
   ⟨(some 98), none, .mov (.t 97)⟩,
   ⟨(some 99), some (98, false), .mov (.t 6)⟩,
   ⟨(some 100), none, .pick (.t 98) (.c (.b true)) (.t 99)⟩,
   ⟨(some 101), none, .mov (.t 100)⟩,
   ⟨(some 102), some (101, false), .mov (.t 7)⟩,
   ⟨(some 103), some (101, false), .bin .neq (.t 102) (.c (.i .i64 0))⟩,
   ⟨(some 104), none, .pick (.t 101) (.c (.b true)) (.t 103)⟩,
   ⟨(some 105), none, .mov (.t 104)⟩,
   ⟨(some 106), some (105, false), .mov (.t 8)⟩,
   ⟨(some 107), some (105, false), .un .not (.t 106)⟩,
   ⟨(some 108), none, .pick (.t 105) (.c (.b true)) (.t 107)⟩,
   ⟨(some 109), none, .mov (.t 108)⟩,
   ⟨(some 110), some (109, false), .mov (.t 9)⟩,
   ⟨(some 111), some (109, false), .bin .neq (.t 110) (.c (.i .i64 0))⟩,
   ⟨(some 112), none, .pick (.t 109) (.c (.b true)) (.t 111)⟩] none [112])
 (.cond (.t 112)
  (.seq (.region [⟨(some 0), none, .asg (.c (.b false))⟩] none [0])
  .ret)
  .skip))
 (.seq (.region [⟨(some 113), none, .bsl false T_string_0 1 2 [(.s [])] [(0, (.c (.s [114]))), (1, (.c (.s [115])))]⟩,
   ⟨(some 114), none, .call (.c (.fn (.func F_law06_chain) [] [])) [(.t 113), (.c (.s [116]))]⟩,
   ⟨(some 115), none, .call (.c (.fn (.func F_law06_sub) [] [])) [(.c (.s [116])), (.c (.s [117]))]⟩,
   ⟨(some 116), none, .bsl false T_api_Axiom_1 16 2 [(.i .i64 0), (.b false), (.i .i64 0), (.s []), (.i .i64 0), (.i .i64 0), .ns, (.i .i64 0), (.s []), (.i .i64 0), (.i .i64 0), .ns, .ns, (.s []), (.s []), (.s [])] [(0, (.t 114)), (1, (.t 115))]⟩,
   ⟨(some 10), none, .asg (.t 116)⟩] none [10])
 (.seq (.region [⟨(some 118), none, .mov (.t 10)⟩,
   ⟨(some 119), none, .bsl false T_string_0 1 2 [(.s [])] [(0, (.c (.s [114]))), (1, (.c (.s [115])))]⟩,
   ⟨(some 120), none, .call (.c (.fn (.func F_roles_Word) [] [])) [(.t 118), (.t 119), (.c (.s [117]))]⟩,
   ⟨(some 117), none, .mov (.t 120)⟩,
   ⟨(some 121), none, .ext (.t 117) 0⟩,
   ⟨(some 122), none, .ext (.t 117) 1⟩,
   ⟨(some 11), none, .asg (.t 121)⟩,
   ⟨(some 12), none, .asg (.t 122)⟩] none [10, 11, 12])
 (.seq (.region [⟨(some 124), none, .mov (.t 10)⟩,
   ⟨(some 125), none, .call (.c (.fn (.func F_roles_Compose) [] [])) [(.t 124), (.c (.s [114])), (.c (.s [115]))]⟩,
   ⟨(some 123), none, .mov (.t 125)⟩,
   ⟨(some 126), none, .ext (.t 123) 0⟩,
   ⟨(some 127), none, .ext (.t 123) 1⟩,
   ⟨(some 13), none, .asg (.t 126)⟩,
   ⟨(some 14), none, .asg (.t 127)⟩] none [11, 12, 13, 14])
 (.seq (.region [⟨(some 128), none, .build [(.i .i64 0), (.b false), (.i .i64 0), (.s []), (.i .i64 0), (.i .i64 0), .ns, (.i .i64 0), (.s []), (.i .i64 0), (.i .i64 0), .ns, .ns, (.s []), (.s []), (.s [])] [(0, 1, (.c (.i .i64 7))), (1, 1, (.c (.b true))), (13, 1, (.c (.s [113])))]⟩,
   ⟨(some 129), none, .bsl false T_string_0 1 2 [(.s [])] [(0, (.c (.s [113]))), (1, (.c (.s [114])))]⟩,
   ⟨(some 130), none, .call (.c (.fn (.func F_law06_chain) [] [])) [(.t 129), (.c (.s [116]))]⟩,
   ⟨(some 131), none, .bsl false T_api_Axiom_1 16 2 [(.i .i64 0), (.b false), (.i .i64 0), (.s []), (.i .i64 0), (.i .i64 0), .ns, (.i .i64 0), (.s []), (.i .i64 0), (.i .i64 0), .ns, .ns, (.s []), (.s []), (.s [])] [(0, (.t 128)), (1, (.t 130))]⟩,
   ⟨(some 15), none, .asg (.t 131)⟩] none [11, 12, 13, 14, 15])
 (.seq (.region [⟨(some 133), none, .mov (.t 15)⟩,
   ⟨(some 134), none, .call (.c (.fn (.func F_roles_Word) [] [])) [(.t 133), (.c .ns), (.c (.s [113]))]⟩,
   ⟨(some 132), none, .mov (.t 134)⟩,
   ⟨(some 135), none, .ext (.t 132) 0⟩,
   ⟨(some 136), none, .ext (.t 132) 1⟩,
   ⟨(some 16), none, .asg (.t 135)⟩,
   ⟨(some 17), none, .asg (.t 136)⟩] none [11, 12, 13, 14, 15, 16, 17])
 (.seq (.region [⟨(some 138), none, .mov (.t 15)⟩,
   ⟨(some 139), none, .bsl false T_string_0 1 1 [(.s [])] [(0, (.c (.s [114])))]⟩,
   ⟨(some 140), none, .call (.c (.fn (.func F_roles_Word) [] [])) [(.t 138), (.t 139), (.c (.s [116]))]⟩,
   ⟨(some 137), none, .mov (.t 140)⟩,
   ⟨(some 141), none, .ext (.t 137) 0⟩,
   ⟨(some 142), none, .ext (.t 137) 1⟩,
   ⟨(some 18), none, .asg (.t 141)⟩,
   ⟨(some 19), none, .asg (.t 142)⟩] none [11, 12, 13, 14, 16, 17, 18, 19])
 (.seq (.region [⟨(some 143), none, .mov (.t 11)⟩,
   ⟨(some 144), none, .mov (.t 143)⟩,
   ⟨(some 145), some (144, true), .mov (.t 12)⟩,
   ⟨(some 146), some (144, true), .bin .eql (.t 145) (.c (.i .i64 0))⟩,
   ⟨(some 147), none, .pick (.t 144) (.t 146) (.c (.b false))⟩,
   ⟨(some 148), none, .mov (.t 147)⟩,
   ⟨(some 149), some (148, true), .mov (.t 13)⟩,
   ⟨(some 150), some (148, true), .bsl false T_string_0 1 2 [(.s [])] [(0, (.c (.s [116]))), (1, (.c (.s [117])))]⟩,
   ⟨(some 151), some (148, true), .call (.c (.fn (.func F_ref06_Same) [] [])) [(.t 149), (.t 150)]⟩,
   ⟨(some 152), none, .pick (.t 148) (.t 151) (.c (.b false))⟩,
   ⟨(some 153), none, .mov (.t 152)⟩,
   ⟨(some 154), some (153, true), .mov (.t 14)⟩,
   ⟨(some 155), some (153, true), .bin .eql (.t 154) (.c (.i .i64 0))⟩,
   ⟨(some 156), none, .pick (.t 153) (.t 155) (.c (.b false))⟩,
   ⟨(some 157), none, .mov (.t 156)⟩,
   ⟨(some 158), some (157, true), .mov (.t 16)⟩,
   ⟨(some 159), none, .pick (.t 157) (.t 158) (.c (.b false))⟩,
   ⟨(some 160), none, .mov (.t 159)⟩,
   ⟨(some 161), some (160, true), .mov (.t 17)⟩,
   ⟨(some 162), some (160, true), .bin .eql (.t 161) (.c (.i .i64 0))⟩,
   ⟨(some 163), none, .pick (.t 160) (.t 162) (.c (.b false))⟩,
   ⟨(some 164), none, .mov (.t 163)⟩,
   ⟨(some 165), some (164, true), .mov (.t 18)⟩,
   ⟨(some 166), none, .pick (.t 164) (.t 165) (.c (.b false))⟩,
   ⟨(some 167), none, .mov (.t 166)⟩,
   ⟨(some 168), some (167, true), .mov (.t 19)⟩,
   ⟨(some 169), some (167, true), .bin .eql (.t 168) (.c (.i .i64 0))⟩,
   ⟨(some 170), none, .pick (.t 167) (.t 169) (.c (.b false))⟩,
   ⟨(some 0), none, .asg (.t 170)⟩] none [0])
 .ret)))))))))))))))⟩

/-- veilstone/veilstonelaw06.chain -/
def ir_law06_chain : AFun := ⟨2, [.cell 4 (some 16)], true, false,
 (.seq (.region [⟨(some 4), none, .lalloc [(.i .i64 0), (.b false), (.i .i64 0), (.s []), (.i .i64 0), (.i .i64 0), .ns, (.i .i64 0), (.s []), (.i .i64 0), (.i .i64 0), .ns, .ns, (.s []), (.s []), (.s [])]⟩] none [0, 1, 4])
 (.seq (.region [⟨(some 5), none, .mov (.t 0)⟩,
   ⟨(some 6), none, .mov (.t 1)⟩,
   ⟨(some 7), none, .build [(.i .i64 0), (.b false), (.i .i64 0), (.s []), (.i .i64 0), (.i .i64 0), .ns, (.i .i64 0), (.s []), (.i .i64 0), (.i .i64 0), .ns, .ns, (.s []), (.s []), (.s [])] [(0, 1, (.c (.i .i64 6))), (1, 1, (.c (.b true))), (12, 1, (.t 5)), (13, 1, (.t 6))]⟩,
   ⟨none, none, .store 16 (.t 4) (.t 7)⟩] none [4])
 .ret))⟩

/-- veilstone/veilstonelaw06.sub -/
def ir_law06_sub : AFun := ⟨2, [.cell 4 (some 16)], true, false,
 (.seq (.region [⟨(some 4), none, .lalloc [(.i .i64 0), (.b false), (.i .i64 0), (.s []), (.i .i64 0), (.i .i64 0), .ns, (.i .i64 0), (.s []), (.i .i64 0), (.i .i64 0), .ns, .ns, (.s []), (.s []), (.s [])]⟩] none [0, 1, 4])
 (.seq (.region [⟨(some 5), none, .mov (.t 0)⟩,
   ⟨(some 6), none, .bsl false T_string_0 1 1 [(.s [])] [(0, (.t 5))]⟩,
   ⟨(some 7), none, .mov (.t 1)⟩,
   ⟨(some 8), none, .build [(.i .i64 0), (.b false), (.i .i64 0), (.s []), (.i .i64 0), (.i .i64 0), .ns, (.i .i64 0), (.s []), (.i .i64 0), (.i .i64 0), .ns, .ns, (.s []), (.s []), (.s [])] [(0, 1, (.c (.i .i64 5))), (1, 1, (.c (.b true))), (12, 1, (.t 6)), (13, 1, (.t 7))]⟩,
   ⟨none, none, .store 16 (.t 4) (.t 8)⟩] none [4])
 .ret))⟩

/-- veilstone/veilstonelaw06.circles -/
def ir_law06_circles : AFun := ⟨2, [.tmp 4], true, false,
 (.seq (.region [⟨(some 4), none, .asg (.c (.b false))⟩] none [0, 1])
 (.seq (.region [⟨(some 8), none, .mov (.t 0)⟩,
   ⟨(some 9), none, .call (.c (.fn (.func F_roles_Check) [] [])) [(.t 8)]⟩,
   ⟨(some 7), none, .mov (.t 9)⟩,
   ⟨(some 10), none, .ext (.t 7) 0⟩,
   ⟨(some 11), none, .ext (.t 7) 1⟩,
   ⟨(some 5), none, .asg (.t 10)⟩,
   ⟨(some 6), none, .asg (.t 11)⟩] none [1, 5, 6])
 (.seq (.region [⟨(some 12), none, .mov (.t 5)⟩,
   ⟨(some 13), none, .mov (.t 1)⟩,
   ⟨(some 14), none, .call (.c (.fn (.func F_ref06_Same) [] [])) [(.t 12), (.t 13)]⟩,
   ⟨(some 15), none, .mov (.t 14)⟩,
   ⟨(some 16), some (15, true), .mov (.t 6)⟩,
   ⟨(some 17), some (15, true), .bin .eql (.t 16) (.c (.i .i64 60))⟩,
   ⟨(some 18), none, .pick (.t 15) (.t 17) (.c (.b false))⟩,
   ⟨(some 4), none, .asg (.t 18)⟩] none [4])
 .ret)))⟩

def ir_roles_Check_L0 : ACode :=
 (.seq (.region [⟨(some 28), none, .bin .lss (.t 27) (.t 26)⟩] none [2, 5, 6, 7, 26, 27, 28])
 (.seq (.cond (.t 28)
  .skip
  (.exit 0))
 (.seq (.block 1
  (.seq (.region [⟨(some 29), none, .mov (.t 27)⟩,
    ⟨(some 8), none, .asg (.t 29)⟩] none [2, 5, 6, 7, 8, 26, 27])
  (.seq (.region [⟨(some 30), none, .load (some 2) (.t 5)⟩,
    ⟨(some 31), none, .mov (.t 8)⟩,
    ⟨(some 32), none, .mov (.t 6)⟩,
    ⟨(some 33), none, .call (.c (.fn (.func F_roles_graph_circle) [] [])) [(.t 30), (.t 31), (.t 32)]⟩,
    ⟨(some 9), none, .asg (.t 33)⟩] none [2, 5, 6, 7, 9, 26, 27])
  (.seq (.region [⟨(some 34), none, .mov (.t 9)⟩,
    ⟨(some 35), none, .nileq true 0 (.t 34)⟩] none [2, 5, 6, 7, 9, 26, 27, 35])
  (.cond (.t 35)
   (.region [⟨(some 36), none, .mov (.t 9)⟩,
     ⟨(some 37), none, .mov (.t 9)⟩,
     ⟨(some 38), none, .len 0 (.t 37)⟩,
     ⟨(some 7), none, .asg (.t 36)⟩,
     ⟨(some 6), none, .asg (.t 38)⟩] none [2, 5, 6, 7, 26, 27])
   .skip)))))
 (.region [⟨(some 39), none, .bin .add (.t 27) (.c (.i .i64 1))⟩,
   ⟨(some 27), none, .mov (.t 39)⟩] none [2, 5, 6, 7, 26, 27]))))
def ir_roles_Check_L1 : ACode :=
 (.seq (.region [⟨(some 45), none, .bin .lss (.t 44) (.t 43)⟩] none [2, 5, 42, 43, 44, 45])
 (.seq (.cond (.t 45)
  .skip
  (.exit 2))
 (.seq (.block 3
  (.seq (.region [⟨(some 46), none, .idx 1 (.t 42) (.t 44)⟩,
    ⟨(some 47), none, .load none (.t 46)⟩,
    ⟨(some 11), none, .asg (.t 47)⟩] none [2, 5, 11, 42, 43, 44])
  (.region [⟨(some 48), none, .mov (.t 2)⟩,
    ⟨(some 49), none, .fld 0 (.t 5)⟩,
    ⟨(some 50), none, .load none (.t 49)⟩,
    ⟨(some 51), none, .mov (.t 11)⟩,
    ⟨(some 52), none, .idx 1 (.t 50) (.t 51)⟩,
    ⟨(some 53), none, .load none (.t 52)⟩,
    ⟨(some 54), none, .bsl false T_string_0 1 1 [(.s [])] [(0, (.t 53))]⟩,
    ⟨(some 55), none, .app T_string_0 1 (.t 48) (.t 54)⟩,
    ⟨(some 2), none, .asg (.t 55)⟩] none [2, 5, 42, 43, 44])))
 (.region [⟨(some 56), none, .bin .add (.t 44) (.c (.i .i64 1))⟩,
   ⟨(some 44), none, .mov (.t 56)⟩] none [2, 5, 42, 43, 44]))))
/-- veilstone/roles.Check -/
def ir_roles_Check : AFun := ⟨1, [.tmp 2, .tmp 3], true, false,
 (.seq (.region [⟨(some 2), none, .nbuf T_string_0 1⟩,
   ⟨(some 3), none, .asg (.c (.i .i64 0))⟩] none [0, 2])
 (.seq (.seq (.region [⟨(some 12), none, .mov (.t 0)⟩,
   ⟨(some 13), none, .call (.c (.fn (.func F_roles_check) [] [])) [(.t 12)]⟩,
   ⟨(some 4), none, .asg (.t 13)⟩] none [0, 2, 4])
 (.seq (.region [⟨(some 14), none, .mov (.t 4)⟩,
   ⟨(some 15), none, .bin .neq (.t 14) (.c (.i .i64 0))⟩] none [0, 2, 4, 15])
 (.cond (.t 15)
  (.seq (.region [⟨(some 16), none, .mov (.t 4)⟩,
    ⟨(some 2), none, .nbuf T_string_0 1⟩,
    ⟨(some 3), none, .asg (.t 16)⟩] none [2, 3])
  .ret)
  .skip)))
 (.seq (.region [⟨(some 17), none, .mov (.t 0)⟩,
   ⟨(some 18), none, .call (.c (.fn (.func F_roles_steps) [] [])) [(.t 17)]⟩,
   ⟨(some 19), none, .call (.c (.fn (.func F_roles_newGraph) [] [])) [(.t 18)]⟩,
   ⟨(some 5), none, .lalloc [.ns, .ns]⟩,
   ⟨none, none, .store 2 (.t 5) (.t 19)⟩] none [2, 5])
 (.seq (.region [⟨(some 20), none, .fld 0 (.t 5)⟩,
   ⟨(some 21), none, .load none (.t 20)⟩,
   ⟨(some 22), none, .len 0 (.t 21)⟩,
   ⟨(some 23), none, .bin .add (.t 22) (.c (.i .i64 1))⟩,
   ⟨(some 6), none, .asg (.t 23)⟩] none [2, 5, 6])
 (.seq (.region [⟨(some 7), none, .asg (.c .ns)⟩] none [2, 5, 6, 7])
 (.seq (.seq (.region [⟨(some 24), none, .fld 0 (.t 5)⟩,
   ⟨(some 25), none, .load none (.t 24)⟩,
   ⟨(some 26), none, .len 0 (.t 25)⟩,
   ⟨(some 27), none, .mov (.c (.i .i64 0))⟩] none [2, 5, 6, 7, 26, 27])
 (.block 0
  (.loop [2, 5, 6, 7, 26, 27] ir_roles_Check_L0)))
 (.seq (.seq (.region [⟨(some 40), none, .mov (.t 7)⟩,
   ⟨(some 41), none, .nileq false 0 (.t 40)⟩] none [2, 5, 7, 41])
 (.cond (.t 41)
  (.seq (.region [⟨(some 2), none, .nbuf T_string_0 1⟩,
    ⟨(some 3), none, .asg (.c (.i .i64 0))⟩] none [2, 3])
  .ret)
  .skip))
 (.seq (.seq (.region [⟨(some 42), none, .mov (.t 7)⟩,
   ⟨(some 43), none, .len 0 (.t 42)⟩,
   ⟨(some 44), none, .mov (.c (.i .i64 0))⟩] none [2, 5, 42, 43, 44])
 (.block 2
  (.loop [2, 5, 42, 43, 44] ir_roles_Check_L1)))
 (.seq (.region [⟨(some 57), none, .mov (.t 2)⟩,
   ⟨(some 2), none, .asg (.t 57)⟩,
   ⟨(some 3), none, .asg (.c (.i .i64 60))⟩] none [2, 3])
 .ret)))))))))⟩

def ir_roles_check_L0 : ACode :=
 (.seq (.region [⟨(some 9), none, .bin .lss (.t 8) (.t 7)⟩] none [6, 7, 8, 9])
 (.seq (.cond (.t 9)
  .skip
  (.exit 0))
 (.seq (.block 1
  (.seq (.region [⟨(some 10), none, .idx 16 (.t 6) (.t 8)⟩,
    ⟨(some 11), none, .load (some 16) (.t 10)⟩,
    ⟨(some 4), none, .lalloc [(.i .i64 0), (.b false), (.i .i64 0), (.s []), (.i .i64 0), (.i .i64 0), .ns, (.i .i64 0), (.s []), (.i .i64 0), (.i .i64 0), .ns, .ns, (.s []), (.s []), (.s [])]⟩,
    ⟨none, none, .store 16 (.t 4) (.t 11)⟩] none [4, 6, 7, 8])
  (.seq (.region [⟨(some 12), none, .load (some 16) (.t 4)⟩,
    ⟨(some 13), none, .call (.c (.fn (.func F_terms_CheckAxiom) [] [])) [(.t 12)]⟩,
    ⟨(some 5), none, .asg (.t 13)⟩] none [5, 6, 7, 8])
  (.seq (.region [⟨(some 14), none, .mov (.t 5)⟩,
    ⟨(some 15), none, .bin .neq (.t 14) (.c (.i .i64 0))⟩] none [5, 6, 7, 8, 15])
  (.cond (.t 15)
   (.seq (.region [⟨(some 16), none, .mov (.t 5)⟩,
     ⟨(some 2), none, .asg (.t 16)⟩] none [2])
   .ret)
   .skip)))))
 (.region [⟨(some 17), none, .bin .add (.t 8) (.c (.i .i64 1))⟩,
   ⟨(some 8), none, .mov (.t 17)⟩] none [6, 7, 8]))))
/-- veilstone/roles.check -/
def ir_roles_check : AFun := ⟨1, [.tmp 2], true, false,
 (.seq (.region [⟨(some 2), none, .asg (.c (.i .i64 0))⟩] none [0])
 (.seq (.seq (.region [⟨(some 6), none, .mov (.t 0)⟩,
   ⟨(some 7), none, .len 0 (.t 6)⟩,
   ⟨(some 8), none, .mov (.c (.i .i64 0))⟩] none [6, 7, 8])
 (.block 0
  (.loop [6, 7, 8] ir_roles_check_L0)))
 (.seq (.region [⟨(some 2), none, .asg (.c (.i .i64 0))⟩] none [2])
 .ret)))⟩

/-- veilstone/terms.CheckAxiom -/
def ir_terms_CheckAxiom : AFun := ⟨1, [.tmp 2], true, false,
 (.seq (.region [⟨(some 1), none, .lbox (.t 0)⟩,
   ⟨(some 2), none, .asg (.c (.i .i64 0))⟩] none [1])
 (.seq (.seq (.region [⟨(some 6), none, .load (some 16) (.t 1)⟩,
   ⟨(some 7), none, .call (.c (.fn (.func F_terms_isShaped) [] [])) [(.t 6)]⟩,
   ⟨(some 8), none, .un .not (.t 7)⟩] none [1, 8])
 (.cond (.t 8)
  (.seq (.region [⟨(some 2), none, .asg (.c (.i .i64 22))⟩] none [2])
  .ret)
  .skip))
 (.seq (.region [⟨(some 9), none, .fld 0 (.t 1)⟩,
   ⟨(some 10), none, .load none (.t 9)⟩,
   ⟨(some 11), none, .idxa 10 7 (.g G_terms_uses) (.t 10)⟩,
   ⟨(some 12), none, .load (some 7) (.t 11)⟩,
   ⟨(some 3), none, .lalloc [(.b false), (.b false), (.b false), (.b false), (.b false), (.i .i64 0), (.i .i64 0)]⟩,
   ⟨none, none, .store 7 (.t 3) (.t 12)⟩] none [1, 3])
 (.seq (.seq (.region [⟨(some 13), none, .load (some 16) (.t 1)⟩,
   ⟨(some 14), none, .load (some 7) (.t 3)⟩,
   ⟨(some 15), none, .call (.c (.fn (.func F_terms_isNamed) [] [])) [(.t 13), (.t 14)]⟩,
   ⟨(some 16), none, .un .not (.t 15)⟩] none [1, 3, 16])
 (.cond (.t 16)
  (.seq (.region [⟨(some 2), none, .asg (.c (.i .i64 20))⟩] none [2])
  .ret)
  .skip))
 (.seq (.seq (.region [⟨(some 17), none, .fld 0 (.t 3)⟩,
   ⟨(some 18), none, .load none (.t 17)⟩] none [1, 3, 18])
 (.cond (.t 18)
  (.seq (.region [⟨(some 19), none, .fld 2 (.t 1)⟩,
    ⟨(some 20), none, .load (some 5) (.t 19)⟩,
    ⟨(some 21), none, .call (.c (.fn (.func F_terms_CheckConcept) [] [])) [(.t 20)]⟩,
    ⟨(some 4), none, .asg (.t 21)⟩] none [1, 3, 4])
  (.seq (.region [⟨(some 22), none, .mov (.t 4)⟩,
    ⟨(some 23), none, .bin .neq (.t 22) (.c (.i .i64 0))⟩] none [1, 3, 4, 23])
  (.cond (.t 23)
   (.seq (.region [⟨(some 24), none, .mov (.t 4)⟩,
     ⟨(some 2), none, .asg (.t 24)⟩] none [2])
   .ret)
   .skip)))
  .skip))
 (.seq (.seq (.region [⟨(some 25), none, .fld 1 (.t 3)⟩,
   ⟨(some 26), none, .load none (.t 25)⟩] none [1, 26])
 (.cond (.t 26)
  (.seq (.region [⟨(some 27), none, .fld 7 (.t 1)⟩,
    ⟨(some 28), none, .load (some 5) (.t 27)⟩,
    ⟨(some 29), none, .call (.c (.fn (.func F_terms_CheckConcept) [] [])) [(.t 28)]⟩,
    ⟨(some 5), none, .asg (.t 29)⟩] none [1, 5])
  (.seq (.region [⟨(some 30), none, .mov (.t 5)⟩,
    ⟨(some 31), none, .bin .neq (.t 30) (.c (.i .i64 0))⟩] none [1, 5, 31])
  (.cond (.t 31)
   (.seq (.region [⟨(some 32), none, .mov (.t 5)⟩,
     ⟨(some 2), none, .asg (.t 32)⟩] none [2])
   .ret)
   .skip)))
  .skip))
 (.seq (.seq (.region [⟨(some 33), none, .fld 0 (.t 1)⟩,
   ⟨(some 34), none, .load none (.t 33)⟩] none [1, 34])
 (.block 0
  (.seq (.region [⟨(some 36), none, .bin .eql (.t 34) (.c (.i .i64 2))⟩,
    ⟨(some 35), none, .asg (.t 36)⟩] none [1, 34, 35])
  (.cond (.t 35)
   (.seq (.region [⟨(some 37), none, .fld 2 (.t 1)⟩,
     ⟨(some 38), none, .load (some 5) (.t 37)⟩,
     ⟨(some 39), none, .call (.c (.fn (.func F_terms_isBare) [] [])) [(.t 38)]⟩,
     ⟨(some 40), none, .mov (.t 39)⟩,
     ⟨(some 41), some (40, false), .fld 7 (.t 1)⟩,
     ⟨(some 42), some (40, false), .load (some 5) (.t 41)⟩,
     ⟨(some 43), some (40, false), .call (.c (.fn (.func F_terms_isBare) [] [])) [(.t 42)]⟩,
     ⟨(some 44), none, .pick (.t 40) (.c (.b true)) (.t 43)⟩] none [44])
   (.cond (.t 44)
    (.seq (.region [⟨(some 2), none, .asg (.c (.i .i64 22))⟩] none [2])
    .ret)
    .skip))
   (.seq (.seq (.region [⟨(some 46), none, .bin .eql (.t 34) (.c (.i .i64 1))⟩,
     ⟨(some 45), none, .asg (.t 46)⟩] none [1, 34, 45])
   (.cond (.t 45)
    .skip
    (.seq (.region [⟨(some 47), none, .bin .eql (.t 34) (.c (.i .i64 4))⟩,
      ⟨(some 45), none, .asg (.t 47)⟩] none [1, 34, 45])
    (.cond (.t 45)
     .skip
     (.region [⟨(some 48), none, .bin .eql (.t 34) (.c (.i .i64 8))⟩,
       ⟨(some 45), none, .asg (.t 48)⟩] none [1, 45])))))
   (.cond (.t 45)
    (.seq (.region [⟨(some 49), none, .fld 7 (.t 1)⟩,
      ⟨(some 50), none, .load (some 5) (.t 49)⟩,
      ⟨(some 51), none, .call (.c (.fn (.func F_terms_isBare) [] [])) [(.t 50)]⟩] none [51])
    (.cond (.t 51)
     (.seq (.region [⟨(some 2), none, .asg (.c (.i .i64 22))⟩] none [2])
     .ret)
     .skip))
    .skip))))))
 (.seq (.region [⟨(some 2), none, .asg (.c (.i .i64 0))⟩] none [2])
 .ret))))))))⟩

/-- veilstone/terms.isShaped -/
def ir_terms_isShaped : AFun := ⟨1, [.tmp 2], true, false,
 (.seq (.region [⟨(some 1), none, .lbox (.t 0)⟩,
   ⟨(some 2), none, .asg (.c (.b false))⟩] none [1])
 (.seq (.seq (.region [⟨(some 4), none, .fld 0 (.t 1)⟩,
   ⟨(some 5), none, .load none (.t 4)⟩,
   ⟨(some 6), none, .bin .lss (.t 5) (.c (.i .i64 1))⟩,
   ⟨(some 7), none, .mov (.t 6)⟩,
   ⟨(some 8), some (7, false), .fld 0 (.t 1)⟩,
   ⟨(some 9), some (7, false), .load none (.t 8)⟩,
   ⟨(some 10), some (7, false), .bin .gtr (.t 9) (.c (.i .i64 9))⟩,
   ⟨(some 11), none, .pick (.t 7) (.c (.b true)) (.t 10)⟩] none [1, 11])
 (.cond (.t 11)
  (.seq (.region [⟨(some 2), none, .asg (.c (.b false))⟩] none [2])
  .ret)
  .skip))
 (.seq (.region [⟨(some 12), none, .fld 0 (.t 1)⟩,
   ⟨(some 13), none, .load none (.t 12)⟩,
   ⟨(some 14), none, .idxa 10 7 (.g G_terms_uses) (.t 13)⟩,
   ⟨(some 15), none, .load (some 7) (.t 14)⟩,
   ⟨(some 3), none, .lalloc [(.b false), (.b false), (.b false), (.b false), (.b false), (.i .i64 0), (.i .i64 0)]⟩,
   ⟨none, none, .store 7 (.t 3) (.t 15)⟩] none [1, 3])
 (.seq (.region [⟨(some 16), none, .fld 0 (.t 3)⟩,
   ⟨(some 17), none, .load none (.t 16)⟩,
   ⟨(some 18), none, .mov (.t 17)⟩,
   ⟨(some 19), some (18, false), .fld 2 (.t 1)⟩,
   ⟨(some 20), some (18, false), .load (some 5) (.t 19)⟩,
   ⟨(some 21), some (18, false), .call (.c (.fn (.func F_terms_isEmpty) [] [])) [(.t 20)]⟩,
   ⟨(some 22), none, .pick (.t 18) (.c (.b true)) (.t 21)⟩,
   ⟨(some 23), none, .mov (.t 22)⟩,
   ⟨(some 24), some (23, true), .fld 1 (.t 3)⟩,
   ⟨(some 25), some (23, true), .load none (.t 24)⟩,
   ⟨(some 26), some (23, true), .mov (.t 25)⟩,
   ⟨(some 27), some (26, false), .fld 7 (.t 1)⟩,
   ⟨(some 28), some (26, false), .load (some 5) (.t 27)⟩,
   ⟨(some 29), some (26, false), .call (.c (.fn (.func F_terms_isEmpty) [] [])) [(.t 28)]⟩,
   ⟨(some 30), some (23, true), .pick (.t 26) (.c (.b true)) (.t 29)⟩,
   ⟨(some 31), none, .pick (.t 23) (.t 30) (.c (.b false))⟩,
   ⟨(some 32), none, .mov (.t 31)⟩,
   ⟨(some 33), some (32, true), .fld 2 (.t 3)⟩,
   ⟨(some 34), some (32, true), .load none (.t 33)⟩,
   ⟨(some 35), some (32, true), .mov (.t 34)⟩,
   ⟨(some 36), some (35, false), .fld 13 (.t 1)⟩,
   ⟨(some 37), some (35, false), .load none (.t 36)⟩,
   ⟨(some 38), some (35, false), .bin .eql (.t 37) (.c (.s []))⟩,
   ⟨(some 39), some (32, true), .pick (.t 35) (.c (.b true)) (.t 38)⟩,
   ⟨(some 40), none, .pick (.t 32) (.t 39) (.c (.b false))⟩,
   ⟨(some 41), none, .mov (.t 40)⟩,
   ⟨(some 42), some (41, true), .fld 3 (.t 3)⟩,
   ⟨(some 43), some (41, true), .load none (.t 42)⟩,
   ⟨(some 44), some (41, true), .mov (.t 43)⟩,
   ⟨(some 45), some (44, false), .fld 14 (.t 1)⟩,
   ⟨(some 46), some (44, false), .load none (.t 45)⟩,
   ⟨(some 47), some (44, false), .bin .eql (.t 46) (.c (.s []))⟩,
   ⟨(some 48), some (41, true), .pick (.t 44) (.c (.b true)) (.t 47)⟩,
   ⟨(some 49), none, .pick (.t 41) (.t 48) (.c (.b false))⟩,
   ⟨(some 50), none, .mov (.t 49)⟩,
   ⟨(some 51), some (50, true), .fld 4 (.t 3)⟩,
   ⟨(some 52), some (50, true), .load none (.t 51)⟩,
   ⟨(some 53), some (50, true), .mov (.t 52)⟩,
   ⟨(some 54), some (53, false), .fld 15 (.t 1)⟩,
   ⟨(some 55), some (53, false), .load none (.t 54)⟩,
   ⟨(some 56), some (53, false), .bin .eql (.t 55) (.c (.s []))⟩,
   ⟨(some 57), some (50, true), .pick (.t 53) (.c (.b true)) (.t 56)⟩,
   ⟨(some 58), none, .pick (.t 50) (.t 57) (.c (.b false))⟩,
   ⟨(some 59), none, .mov (.t 58)⟩,
   ⟨(some 60), some (59, true), .fld 12 (.t 1)⟩,
   ⟨(some 61), some (59, true), .load none (.t 60)⟩,
   ⟨(some 62), some (59, true), .len 0 (.t 61)⟩,
   ⟨(some 63), some (59, true), .fld 5 (.t 3)⟩,
   ⟨(some 64), some (59, true), .load none (.t 63)⟩,
   ⟨(some 65), some (59, true), .bin .geq (.t 62) (.t 64)⟩,
   ⟨(some 66), none, .pick (.t 59) (.t 65) (.c (.b false))⟩,
   ⟨(some 67), none, .mov (.t 66)⟩,
   ⟨(some 68), some (67, true), .fld 12 (.t 1)⟩,
   ⟨(some 69), some (67, true), .load none (.t 68)⟩,
   ⟨(some 70), some (67, true), .len 0 (.t 69)⟩,
   ⟨(some 71), some (67, true), .fld 6 (.t 3)⟩,
   ⟨(some 72), some (67, true), .load none (.t 71)⟩,
   ⟨(some 73), some (67, true), .bin .leq (.t 70) (.t 72)⟩,
   ⟨(some 74), none, .pick (.t 67) (.t 73) (.c (.b false))⟩,
   ⟨(some 2), none, .asg (.t 74)⟩] none [2])
 .ret))))⟩

/-- veilstone/terms.isEmpty -/
def ir_terms_isEmpty : AFun := ⟨1, [.tmp 2], true, false,
 (.seq (.region [⟨(some 1), none, .lbox (.t 0)⟩,
   ⟨(some 2), none, .asg (.c (.b false))⟩] none [1])
 (.seq (.region [⟨(some 3), none, .fld 0 (.t 1)⟩,
   ⟨(some 4), none, .load none (.t 3)⟩,
   ⟨(some 5), none, .bin .eql (.t 4) (.c (.i .i64 0))⟩,
   ⟨(some 6), none, .mov (.t 5)⟩,
   ⟨(some 7), some (6, true), .fld 1 (.t 1)⟩,
   ⟨(some 8), some (6, true), .load none (.t 7)⟩,
   ⟨(some 9), some (6, true), .bin .eql (.t 8) (.c (.s []))⟩,
   ⟨(some 10), none, .pick (.t 6) (.t 9) (.c (.b false))⟩,
   ⟨(some 11), none, .mov (.t 10)⟩,
   ⟨(some 12), some (11, true), .fld 2 (.t 1)⟩,
   ⟨(some 13), some (11, true), .load none (.t 12)⟩,
   ⟨(some 14), some (11, true), .bin .eql (.t 13) (.c (.i .i64 0))⟩,
   ⟨(some 15), none, .pick (.t 11) (.t 14) (.c (.b false))⟩,
   ⟨(some 16), none, .mov (.t 15)⟩,
   ⟨(some 17), some (16, true), .fld 3 (.t 1)⟩,
   ⟨(some 18), some (16, true), .load none (.t 17)⟩,
   ⟨(some 19), some (16, true), .bin .eql (.t 18) (.c (.i .i64 0))⟩,
   ⟨(some 20), none, .pick (.t 16) (.t 19) (.c (.b false))⟩,
   ⟨(some 21), none, .mov (.t 20)⟩,
   ⟨(some 22), some (21, true), .fld 4 (.t 1)⟩,
   ⟨(some 23), some (21, true), .load none (.t 22)⟩,
   ⟨(some 24), some (21, true), .len 0 (.t 23)⟩,
   ⟨(some 25), some (21, true), .bin .eql (.t 24) (.c (.i .i64 0))⟩,
   ⟨(some 26), none, .pick (.t 21) (.t 25) (.c (.b false))⟩,
   ⟨(some 2), none, .asg (.t 26)⟩] none [2])
 .ret))⟩

def ir_terms_isNamed_L0 : ACode :=
 (.seq (.region [⟨(some 39), none, .bin .lss (.t 38) (.t 37)⟩] none [36, 37, 38, 39])
 (.seq (.cond (.t 39)
  .skip
  (.exit 0))
 (.seq (.block 1
  (.seq (.region [⟨(some 40), none, .idx 1 (.t 36) (.t 38)⟩,
    ⟨(some 41), none, .load none (.t 40)⟩,
    ⟨(some 6), none, .asg (.t 41)⟩] none [6, 36, 37, 38])
  (.seq (.region [⟨(some 42), none, .mov (.t 6)⟩,
    ⟨(some 43), none, .call (.c (.fn (.func F_terms_isPlain) [] [])) [(.t 42)]⟩,
    ⟨(some 44), none, .un .not (.t 43)⟩] none [36, 37, 38, 44])
  (.cond (.t 44)
   (.seq (.region [⟨(some 4), none, .asg (.c (.b false))⟩] none [4])
   .ret)
   .skip))))
 (.region [⟨(some 45), none, .bin .add (.t 38) (.c (.i .i64 1))⟩,
   ⟨(some 38), none, .mov (.t 45)⟩] none [36, 37, 38]))))
/-- veilstone/terms.isNamed -/
def ir_terms_isNamed : AFun := ⟨2, [.tmp 4], true, false,
 (.seq (.region [⟨(some 2), none, .lbox (.t 0)⟩,
   ⟨(some 3), none, .lbox (.t 1)⟩,
   ⟨(some 4), none, .asg (.c (.b false))⟩] none [2, 3])
 (.seq (.seq (.region [⟨(some 7), none, .fld 2 (.t 3)⟩,
   ⟨(some 8), none, .load none (.t 7)⟩,
   ⟨(some 9), none, .mov (.t 8)⟩,
   ⟨(some 10), some (9, true), .fld 13 (.t 2)⟩,
   ⟨(some 11), some (9, true), .load none (.t 10)⟩,
   ⟨(some 12), some (9, true), .call (.c (.fn (.func F_terms_isPlain) [] [])) [(.t 11)]⟩,
   ⟨(some 13), some (9, true), .un .not (.t 12)⟩,
   ⟨(some 14), none, .pick (.t 9) (.t 13) (.c (.b false))⟩,
   ⟨(some 15), none, .mov (.t 14)⟩,
   ⟨(some 16), some (15, false), .fld 3 (.t 3)⟩,
   ⟨(some 17), some (15, false), .load none (.t 16)⟩,
   ⟨(some 18), some (15, false), .mov (.t 17)⟩,
   ⟨(some 19), some (18, true), .fld 14 (.t 2)⟩,
   ⟨(some 20), some (18, true), .load none (.t 19)⟩,
   ⟨(some 21), some (18, true), .call (.c (.fn (.func F_terms_CheckName) [] [])) [(.t 20)]⟩,
   ⟨(some 22), some (18, true), .bin .neq (.t 21) (.c (.i .i64 0))⟩,
   ⟨(some 23), some (15, false), .pick (.t 18) (.t 22) (.c (.b false))⟩,
   ⟨(some 24), none, .pick (.t 15) (.c (.b true)) (.t 23)⟩,
   ⟨(some 25), none, .mov (.t 24)⟩,
   ⟨(some 26), some (25, false), .fld 4 (.t 3)⟩,
   ⟨(some 27), some (25, false), .load none (.t 26)⟩,
   ⟨(some 28), some (25, false), .mov (.t 27)⟩,
   ⟨(some 29), some (28, true), .fld 15 (.t 2)⟩,
   ⟨(some 30), some (28, true), .load none (.t 29)⟩,
   ⟨(some 31), some (28, true), .call (.c (.fn (.func F_terms_CheckName) [] [])) [(.t 30)]⟩,
   ⟨(some 32), some (28, true), .bin .neq (.t 31) (.c (.i .i64 0))⟩,
   ⟨(some 33), some (25, false), .pick (.t 28) (.t 32) (.c (.b false))⟩,
   ⟨(some 34), none, .pick (.t 25) (.c (.b true)) (.t 33)⟩] none [2, 34])
 (.cond (.t 34)
  (.seq (.region [⟨(some 4), none, .asg (.c (.b false))⟩] none [4])
  .ret)
  .skip))
 (.seq (.seq (.region [⟨(some 35), none, .fld 12 (.t 2)⟩,
   ⟨(some 36), none, .load none (.t 35)⟩,
   ⟨(some 37), none, .len 0 (.t 36)⟩,
   ⟨(some 38), none, .mov (.c (.i .i64 0))⟩] none [36, 37, 38])
 (.block 0
  (.loop [36, 37, 38] ir_terms_isNamed_L0)))
 (.seq (.region [⟨(some 4), none, .asg (.c (.b true))⟩] none [4])
 .ret))))⟩

/-- veilstone/terms.isPlain -/
def ir_terms_isPlain : AFun := ⟨1, [.tmp 2], true, false,
 (.seq (.region [⟨(some 2), none, .asg (.c (.b false))⟩] none [0])
 (.seq (.seq (.region [⟨(some 6), none, .mov (.t 0)⟩,
   ⟨(some 7), none, .len 1 (.t 6)⟩,
   ⟨(some 8), none, .bin .gtr (.t 7) (.c (.i .i64 24))⟩] none [0, 8])
 (.cond (.t 8)
  (.seq (.region [⟨(some 2), none, .asg (.c (.b false))⟩] none [2])
  .ret)
  .skip))
 (.seq (.region [⟨(some 10), none, .mov (.t 0)⟩,
   ⟨(some 11), none, .call (.c (.fn (.func F_strings_Cut) [] [])) [(.t 10), (.c (.s [58]))]⟩,
   ⟨(some 9), none, .mov (.t 11)⟩,
   ⟨(some 12), none, .ext (.t 9) 0⟩,
   ⟨(some 13), none, .ext (.t 9) 1⟩,
   ⟨(some 14), none, .ext (.t 9) 2⟩,
   ⟨(some 3), none, .asg (.t 12)⟩,
   ⟨(some 4), none, .asg (.t 13)⟩,
   ⟨(some 5), none, .asg (.t 14)⟩] none [3, 4, 5])
 (.seq (.region [⟨(some 15), none, .mov (.t 3)⟩,
   ⟨(some 16), none, .call (.c (.fn (.func F_terms_isWord) [] [])) [(.t 15)]⟩,
   ⟨(some 17), none, .mov (.t 16)⟩,
   ⟨(some 18), some (17, true), .mov (.t 5)⟩,
   ⟨(some 19), some (17, true), .un .not (.t 18)⟩,
   ⟨(some 20), some (17, true), .mov (.t 19)⟩,
   ⟨(some 21), some (20, false), .mov (.t 4)⟩,
   ⟨(some 22), some (20, false), .call (.c (.fn (.func F_terms_isWord) [] [])) [(.t 21)]⟩,
   ⟨(some 23), some (17, true), .pick (.t 20) (.c (.b true)) (.t 22)⟩,
   ⟨(some 24), none, .pick (.t 17) (.t 23) (.c (.b false))⟩,
   ⟨(some 2), none, .asg (.t 24)⟩] none [2])
 .ret))))⟩

/-- strings.Cut -/
def ir_strings_Cut : AFun := ⟨2, [.tmp 4, .tmp 5, .tmp 6], true, false,
 (.seq (.region [⟨(some 4), none, .asg (.c (.s []))⟩,
   ⟨(some 5), none, .asg (.c (.s []))⟩,
   ⟨(some 6), none, .asg (.c (.b false))⟩] none [0, 1])
 (.seq (.region [⟨(some 7), none, .mov (.t 0)⟩,
   ⟨(some 8), none, .mov (.t 1)⟩,
   ⟨(some 9), none, .call (.c (.fn (.func F_internal_stringslite_Cut) [] [])) [(.t 7), (.t 8)]⟩,
   ⟨(some 10), none, .ext (.t 9) 0⟩,
   ⟨(some 11), none, .ext (.t 9) 1⟩,
   ⟨(some 12), none, .ext (.t 9) 2⟩,
   ⟨(some 4), none, .asg (.t 10)⟩,
   ⟨(some 5), none, .asg (.t 11)⟩,
   ⟨(some 6), none, .asg (.t 12)⟩] none [4, 5, 6])
 .ret))⟩

/-- internal/stringslite.Cut -/
def ir_internal_stringslite_Cut : AFun := ⟨2, [.tmp 4, .tmp 5, .tmp 6], true, false,
 (.seq (.region [⟨(some 4), none, .asg (.c (.s []))⟩,
   ⟨(some 5), none, .asg (.c (.s []))⟩,
   ⟨(some 6), none, .asg (.c (.b false))⟩] none [0, 1])
 (.seq (.seq (.region [⟨(some 8), none, .mov (.t 0)⟩,
   ⟨(some 9), none, .mov (.t 1)⟩,
   ⟨(some 10), none, .call (.c (.fn (.func F_internal_stringslite_Index) [] [])) [(.t 8), (.t 9)]⟩,
   ⟨(some 7), none, .asg (.t 10)⟩] none [0, 1, 7])
 (.seq (.region [⟨(some 11), none, .mov (.t 7)⟩,
   ⟨(some 12), none, .bin .geq (.t 11) (.c (.i .i64 0))⟩] none [0, 1, 7, 12])
 (.cond (.t 12)
  (.seq (.region [⟨(some 13), none, .mov (.t 0)⟩,
    ⟨(some 14), none, .mov (.t 7)⟩,
    ⟨(some 15), none, .slcs (.t 13) none (some (.t 14))⟩,
    ⟨(some 16), none, .mov (.t 0)⟩,
    ⟨(some 17), none, .mov (.t 7)⟩,
    ⟨(some 18), none, .mov (.t 1)⟩,
    ⟨(some 19), none, .len 1 (.t 18)⟩,
    ⟨(some 20), none, .bin .add (.t 17) (.t 19)⟩,
    ⟨(some 21), none, .slcs (.t 16) (some (.t 20)) none⟩,
    ⟨(some 4), none, .cpy (.t 15)⟩,
    ⟨(some 5), none, .cpy (.t 21)⟩,
    ⟨(some 6), none, .cpy (.c (.b true))⟩] (some ([0, 1, 2, 3, 4, 5, 6, 7, 8, 9, 10, 11], [])) [4, 5, 6])
  .ret)
  .skip)))
 (.seq (.region [⟨(some 22), none, .mov (.t 0)⟩,
   ⟨(some 4), none, .asg (.t 22)⟩,
   ⟨(some 5), none, .asg (.c (.s []))⟩,
   ⟨(some 6), none, .asg (.c (.b false))⟩] none [4, 5, 6])
 .ret)))⟩

/-- veilstone/terms.isWord -/
def ir_terms_isWord : AFun := ⟨1, [.tmp 2], true, false,
 (.seq (.region [⟨(some 2), none, .asg (.c (.b false))⟩] none [0])
 (.seq (.region [⟨(some 3), none, .mov (.t 0)⟩,
   ⟨(some 4), none, .bin .neq (.t 3) (.c (.s []))⟩,
   ⟨(some 5), none, .mov (.t 4)⟩,
   ⟨(some 6), some (5, true), .mov (.t 0)⟩,
   ⟨(some 7), some (5, true), .idxs (.t 6) (.c (.i .i64 0))⟩,
   ⟨(some 8), some (5, true), .call (.c (.fn (.func F_terms_isLetter) [] [])) [(.t 7)]⟩,
   ⟨(some 9), none, .pick (.t 5) (.t 8) (.c (.b false))⟩,
   ⟨(some 10), none, .mov (.t 9)⟩,
   ⟨(some 11), some (10, true), .mov (.t 0)⟩,
   ⟨(some 12), some (10, true), .call (.c (.fn (.func F_terms_isTail) [] [])) [(.t 11)]⟩,
   ⟨(some 13), none, .pick (.t 10) (.t 12) (.c (.b false))⟩,
   ⟨(some 14), none, .mov (.t 13)⟩,
   ⟨(some 15), some (14, true), .mov (.t 0)⟩,
   ⟨(some 16), some (14, true), .call (.c (.fn (.func F_lexis_Keyword) [] [])) [(.t 15)]⟩,
   ⟨(some 17), some (14, true), .un .not (.t 16)⟩,
   ⟨(some 18), none, .pick (.t 14) (.t 17) (.c (.b false))⟩,
   ⟨(some 2), none, .asg (.t 18)⟩] none [2])
 .ret))⟩

/-- veilstone/terms.isLetter -/
def ir_terms_isLetter : AFun := ⟨1, [.tmp 2], true, false,
 (.seq (.region [⟨(some 2), none, .asg (.c (.b false))⟩] none [0])
 (.seq (.region [⟨(some 3), none, .mov (.t 0)⟩,
   ⟨(some 4), none, .bin .leq (.c (.i .u8 97)) (.t 3)⟩,
   ⟨(some 5), none, .mov (.t 4)⟩,
   ⟨(some 6), some (5, true), .mov (.t 0)⟩,
   ⟨(some 7), some (5, true), .bin .leq (.t 6) (.c (.i .u8 122))⟩,
   ⟨(some 8), none, .pick (.t 5) (.t 7) (.c (.b false))⟩,
   ⟨(some 9), none, .mov (.t 8)⟩,
   ⟨(some 10), some (9, false), .mov (.t 0)⟩,
   ⟨(some 11), some (9, false), .bin .leq (.c (.i .u8 65)) (.t 10)⟩,
   ⟨(some 12), some (9, false), .mov (.t 11)⟩,
   ⟨(some 13), some (12, true), .mov (.t 0)⟩,
   ⟨(some 14), some (12, true), .bin .leq (.t 13) (.c (.i .u8 90))⟩,
   ⟨(some 15), some (9, false), .pick (.t 12) (.t 14) (.c (.b false))⟩,
   ⟨(some 16), none, .pick (.t 9) (.c (.b true)) (.t 15)⟩,
   ⟨(some 2), none, .asg (.t 16)⟩] none [2])
 .ret))⟩

def ir_terms_isTail_L0 : ACode :=
 (.seq (.region [⟨(some 9), none, .bin .lss (.t 8) (.t 7)⟩] none [6, 7, 8, 9])
 (.seq (.cond (.t 9)
  .skip
  (.exit 0))
 (.seq (.block 1
  (.seq (.region [⟨(some 10), none, .idx 1 (.t 6) (.t 8)⟩,
    ⟨(some 11), none, .load none (.t 10)⟩,
    ⟨(some 4), none, .asg (.t 11)⟩] none [4, 6, 7, 8])
  (.seq (.region [⟨(some 12), none, .mov (.t 4)⟩,
    ⟨(some 13), none, .call (.c (.fn (.func F_terms_isLetter) [] [])) [(.t 12)]⟩,
    ⟨(some 14), none, .un .not (.t 13)⟩,
    ⟨(some 15), none, .mov (.t 14)⟩,
    ⟨(some 16), some (15, true), .mov (.t 4)⟩,
    ⟨(some 17), some (15, true), .bin .neq (.t 16) (.c (.i .u8 95))⟩,
    ⟨(some 18), none, .pick (.t 15) (.t 17) (.c (.b false))⟩,
    ⟨(some 19), none, .mov (.t 18)⟩,
    ⟨(some 20), some (19, true), .mov (.t 4)⟩,
    ⟨(some 21), some (19, true), .bin .lss (.t 20) (.c (.i .u8 48))⟩,
    ⟨(some 22), some (19, true), .mov (.t 21)⟩,
    ⟨(some 23), some (22, false), .mov (.t 4)⟩,
    ⟨(some 24), some (22, false), .bin .gtr (.t 23) (.c (.i .u8 57))⟩,
    ⟨(some 25), some (19, true), .pick (.t 22) (.c (.b true)) (.t 24)⟩,
    ⟨(some 26), none, .pick (.t 19) (.t 25) (.c (.b false))⟩] none [6, 7, 8, 26])
  (.cond (.t 26)
   (.seq (.region [⟨(some 2), none, .asg (.c (.b false))⟩] none [2])
   .ret)
   .skip))))
 (.region [⟨(some 27), none, .bin .add (.t 8) (.c (.i .i64 1))⟩,
   ⟨(some 8), none, .mov (.t 27)⟩] none [6, 7, 8]))))
/-- veilstone/terms.isTail -/
def ir_terms_isTail : AFun := ⟨1, [.tmp 2], true, false,
 (.seq (.region [⟨(some 2), none, .asg (.c (.b false))⟩] none [0])
 (.seq (.seq (.region [⟨(some 5), none, .mov (.t 0)⟩,
   ⟨(some 6), none, .s2b (.t 5)⟩,
   ⟨(some 7), none, .len 0 (.t 6)⟩,
   ⟨(some 8), none, .mov (.c (.i .i64 0))⟩] none [6, 7, 8])
 (.block 0
  (.loop [6, 7, 8] ir_terms_isTail_L0)))
 (.seq (.region [⟨(some 2), none, .asg (.c (.b true))⟩] none [2])
 .ret)))⟩

/-- veilstone/lexis.Keyword -/
def ir_lexis_Keyword : AFun := ⟨1, [.tmp 2], true, false,
 (.seq (.region [⟨(some 2), none, .asg (.c (.b false))⟩] none [0])
 (.seq (.seq (.region [⟨(some 3), none, .mov (.t 0)⟩] none [3])
 (.block 0
  (.seq (.seq (.region [⟨(some 5), none, .bin .eql (.t 3) (.c (.s [97, 110, 100]))⟩,
    ⟨(some 4), none, .asg (.t 5)⟩] none [3, 4])
  (.cond (.t 4)
   .skip
   (.seq (.region [⟨(some 6), none, .bin .eql (.t 3) (.c (.s [115, 111, 109, 101]))⟩,
     ⟨(some 4), none, .asg (.t 6)⟩] none [3, 4])
   (.cond (.t 4)
    .skip
    (.seq (.region [⟨(some 7), none, .bin .eql (.t 3) (.c (.s [105, 110]))⟩,
      ⟨(some 4), none, .asg (.t 7)⟩] none [3, 4])
    (.cond (.t 4)
     .skip
     (.seq (.region [⟨(some 8), none, .bin .eql (.t 3) (.c (.s [116, 111]))⟩,
       ⟨(some 4), none, .asg (.t 8)⟩] none [3, 4])
     (.cond (.t 4)
      .skip
      (.seq (.region [⟨(some 9), none, .bin .eql (.t 3) (.c (.s [110, 111, 116, 104, 105, 110, 103]))⟩,
        ⟨(some 4), none, .asg (.t 9)⟩] none [3, 4])
      (.cond (.t 4)
       .skip
       (.seq (.region [⟨(some 10), none, .bin .eql (.t 3) (.c (.s [101, 118, 101, 114, 121, 116, 104, 105, 110, 103]))⟩,
         ⟨(some 4), none, .asg (.t 10)⟩] none [3, 4])
       (.cond (.t 4)
        .skip
        (.seq (.region [⟨(some 11), none, .bin .eql (.t 3) (.c (.s [111, 110, 101]))⟩,
          ⟨(some 4), none, .asg (.t 11)⟩] none [3, 4])
        (.cond (.t 4)
         .skip
         (.seq (.region [⟨(some 12), none, .bin .eql (.t 3) (.c (.s [111, 102]))⟩,
           ⟨(some 4), none, .asg (.t 12)⟩] none [3, 4])
         (.cond (.t 4)
          .skip
          (.seq (.region [⟨(some 13), none, .bin .eql (.t 3) (.c (.s [111, 112, 101, 110]))⟩,
            ⟨(some 4), none, .asg (.t 13)⟩] none [3, 4])
          (.cond (.t 4)
           .skip
           (.seq (.region [⟨(some 14), none, .bin .eql (.t 3) (.c (.s [112, 114, 105, 118, 97, 116, 101]))⟩,
             ⟨(some 4), none, .asg (.t 14)⟩] none [3, 4])
           (.cond (.t 4)
            .skip
            (.seq (.region [⟨(some 15), none, .bin .eql (.t 3) (.c (.s [115, 117, 98]))⟩,
              ⟨(some 4), none, .asg (.t 15)⟩] none [3, 4])
            (.cond (.t 4)
             .skip
             (.seq (.region [⟨(some 16), none, .bin .eql (.t 3) (.c (.s [115, 97, 109, 101]))⟩,
               ⟨(some 4), none, .asg (.t 16)⟩] none [3, 4])
             (.cond (.t 4)
              .skip
              (.seq (.region [⟨(some 17), none, .bin .eql (.t 3) (.c (.s [100, 105, 115, 106, 111, 105, 110, 116]))⟩,
                ⟨(some 4), none, .asg (.t 17)⟩] none [3, 4])
              (.cond (.t 4)
               .skip
               (.seq (.region [⟨(some 18), none, .bin .eql (.t 3) (.c (.s [100, 111, 109, 97, 105, 110]))⟩,
                 ⟨(some 4), none, .asg (.t 18)⟩] none [3, 4])
               (.cond (.t 4)
                .skip
                (.seq (.region [⟨(some 19), none, .bin .eql (.t 3) (.c (.s [114, 111, 108, 101]))⟩,
                  ⟨(some 4), none, .asg (.t 19)⟩] none [3, 4])
                (.cond (.t 4)
                 .skip
                 (.seq (.region [⟨(some 20), none, .bin .eql (.t 3) (.c (.s [99, 104, 97, 105, 110]))⟩,
                   ⟨(some 4), none, .asg (.t 20)⟩] none [3, 4])
                 (.cond (.t 4)
                  .skip
                  (.seq (.region [⟨(some 21), none, .bin .eql (.t 3) (.c (.s [114, 101, 102, 108, 101, 120, 105, 118, 101]))⟩,
                    ⟨(some 4), none, .asg (.t 21)⟩] none [3, 4])
                  (.cond (.t 4)
                   .skip
                   (.seq (.region [⟨(some 22), none, .bin .eql (.t 3) (.c (.s [116, 121, 112, 101]))⟩,
                     ⟨(some 4), none, .asg (.t 22)⟩] none [3, 4])
                   (.cond (.t 4)
                    .skip
                    (.seq (.region [⟨(some 23), none, .bin .eql (.t 3) (.c (.s [108, 105, 110, 107]))⟩,
                      ⟨(some 4), none, .asg (.t 23)⟩] none [3, 4])
                    (.cond (.t 4)
                     .skip
                     (.seq (.region [⟨(some 24), none, .bin .eql (.t 3) (.c (.s [115, 101, 108, 101, 99, 116]))⟩,
                       ⟨(some 4), none, .asg (.t 24)⟩] none [3, 4])
                     (.cond (.t 4)
                      .skip
                      (.seq (.region [⟨(some 25), none, .bin .eql (.t 3) (.c (.s [119, 104, 101, 114, 101]))⟩,
                        ⟨(some 4), none, .asg (.t 25)⟩] none [3, 4])
                      (.cond (.t 4)
                       .skip
                       (.region [⟨(some 26), none, .bin .eql (.t 3) (.c (.s [111, 114]))⟩,
                         ⟨(some 4), none, .asg (.t 26)⟩] none [4])))))))))))))))))))))))))))))))))))))))))))
  (.cond (.t 4)
   (.seq (.region [⟨(some 2), none, .asg (.c (.b true))⟩] none [2])
   .ret)
   .skip))))
 (.seq (.region [⟨(some 2), none, .asg (.c (.b false))⟩] none [2])
 .ret)))⟩

/-- veilstone/terms.CheckName -/
def ir_terms_CheckName : AFun := ⟨1, [.tmp 2], true, false,
 (.seq (.region [⟨(some 2), none, .asg (.c (.i .i64 0))⟩] none [0])
 (.seq (.seq (.region [⟨(some 3), none, .mov (.t 0)⟩,
   ⟨(some 4), none, .call (.c (.fn (.func F_terms_isPlain) [] [])) [(.t 3)]⟩,
   ⟨(some 5), none, .mov (.t 4)⟩,
   ⟨(some 6), some (5, false), .mov (.t 0)⟩,
   ⟨(some 7), some (5, false), .call (.c (.fn (.func F_terms_isReserved) [] [])) [(.t 6)]⟩,
   ⟨(some 8), none, .pick (.t 5) (.c (.b true)) (.t 7)⟩] none [8])
 (.cond (.t 8)
  (.seq (.region [⟨(some 2), none, .asg (.c (.i .i64 0))⟩] none [2])
  .ret)
  .skip))
 (.seq (.region [⟨(some 2), none, .asg (.c (.i .i64 20))⟩] none [2])
 .ret)))⟩

/-- veilstone/terms.isReserved -/
def ir_terms_isReserved : AFun := ⟨1, [.tmp 2], true, false,
 (.seq (.region [⟨(some 2), none, .asg (.c (.b false))⟩] none [0])
 (.seq (.region [⟨(some 3), none, .mov (.t 0)⟩,
   ⟨(some 4), none, .len 1 (.t 3)⟩,
   ⟨(some 5), none, .bin .geq (.t 4) (.c (.i .i64 2))⟩,
   ⟨(some 6), none, .mov (.t 5)⟩,
   ⟨(some 7), some (6, true), .mov (.t 0)⟩,
   ⟨(some 8), some (6, true), .len 1 (.t 7)⟩,
   ⟨(some 9), some (6, true), .bin .leq (.t 8) (.c (.i .i64 24))⟩,
   ⟨(some 10), none, .pick (.t 6) (.t 9) (.c (.b false))⟩,
   ⟨(some 11), none, .mov (.t 10)⟩,
   ⟨(some 12), some (11, true), .mov (.t 0)⟩,
   ⟨(some 13), some (11, true), .idxs (.t 12) (.c (.i .i64 0))⟩,
   ⟨(some 14), some (11, true), .bin .eql (.t 13) (.c (.i .u8 95))⟩,
   ⟨(some 15), none, .pick (.t 11) (.t 14) (.c (.b false))⟩,
   ⟨(some 16), none, .mov (.t 15)⟩,
   ⟨(some 17), some (16, true), .mov (.t 0)⟩,
   ⟨(some 18), some (16, true), .call (.c (.fn (.func F_terms_isTail) [] [])) [(.t 17)]⟩,
   ⟨(some 19), none, .pick (.t 16) (.t 18) (.c (.b false))⟩,
   ⟨(some 2), none, .asg (.t 19)⟩] none [2])
 .ret))⟩

def ir_terms_CheckConcept_R0 : ACode :=
 (.block 1
  (.seq (.region [⟨(some 12), none, .load (some 5) (.t 4)⟩,
    ⟨(some 13), none, .call (.c (.fn (.func F_terms_checkFields) [] [])) [(.t 12)]⟩,
    ⟨(some 5), none, .asg (.t 13)⟩] none [2, 5])
  (.seq (.region [⟨(some 14), none, .mov (.t 5)⟩,
    ⟨(some 15), none, .bin .neq (.t 14) (.c (.i .i64 0))⟩] none [2, 5, 15])
  (.cond (.t 15)
   (.seq (.region [⟨(some 16), none, .mov (.t 5)⟩,
     ⟨none, none, .store 1 (.t 2) (.t 16)⟩] none [])
   .ret)
   .skip))))
def ir_terms_CheckConcept_A0 : ACode :=
 (.region [⟨(some 4), none, .halloc [(.i .i64 0), (.s []), (.i .i64 0), (.i .i64 0), .ns]⟩,
   ⟨none, none, .store 5 (.t 4) (.t 11)⟩] none [2, 4])
/-- veilstone/terms.CheckConcept -/
def ir_terms_CheckConcept : AFun := ⟨1, [.cell 2 none], true, false,
 (.seq (.region [⟨(some 1), none, .lbox (.t 0)⟩,
   ⟨(some 2), none, .halloc [(.i .i64 0)]⟩] none [1, 2])
 (.seq (.region [⟨(some 3), none, .halloc [(.i .i64 0)]⟩,
   ⟨none, none, .store 1 (.t 3) (.c (.i .i64 0))⟩] none [1, 2, 3])
 (.seq (.seq (.region [⟨(some 6), none, .load (some 5) (.t 1)⟩,
   ⟨(some 7), none, .call (.c (.fn (.func F_terms_fits) [] [])) [(.t 6), (.c (.i .i64 0)), (.t 3)]⟩,
   ⟨(some 8), none, .un .not (.t 7)⟩] none [1, 2, 8])
 (.cond (.t 8)
  (.seq (.region [⟨none, none, .store 1 (.t 2) (.c (.i .i64 21))⟩] none [2])
  .ret)
  .skip))
 (.seq (.seq (.region [⟨(some 9), none, .load (some 5) (.t 1)⟩,
   ⟨(some 10), none, .call (.c (.fn (.func F_terms_walk) [] [])) [(.t 9)]⟩] none [2, 10])
 (.block 0
  (.range (.t 10) [11] ir_terms_CheckConcept_A0 ir_terms_CheckConcept_R0)))
 (.seq (.region [⟨none, none, .store 1 (.t 2) (.c (.i .i64 0))⟩] none [2])
 .ret)))))⟩

def ir_terms_fits_L0 : ACode :=
 (.seq (.region [⟨(some 26), none, .bin .lss (.t 25) (.t 24)⟩] none [1, 2, 23, 24, 25, 26])
 (.seq (.cond (.t 26)
  .skip
  (.exit 0))
 (.seq (.block 1
  (.seq (.region [⟨(some 27), none, .idx 5 (.t 23) (.t 25)⟩,
    ⟨(some 28), none, .load (some 5) (.t 27)⟩,
    ⟨(some 8), none, .lalloc [(.i .i64 0), (.s []), (.i .i64 0), (.i .i64 0), .ns]⟩,
    ⟨none, none, .store 5 (.t 8) (.t 28)⟩] none [1, 2, 8, 23, 24, 25])
  (.seq (.region [⟨(some 29), none, .load (some 5) (.t 8)⟩,
    ⟨(some 30), none, .mov (.t 1)⟩,
    ⟨(some 31), none, .bin .add (.t 30) (.c (.i .i64 1))⟩,
    ⟨(some 32), none, .mov (.t 2)⟩,
    ⟨(some 33), none, .call (.c (.fn (.func F_terms_fits) [] [])) [(.t 29), (.t 31), (.t 32)]⟩,
    ⟨(some 34), none, .un .not (.t 33)⟩] none [1, 2, 23, 24, 25, 34])
  (.cond (.t 34)
   (.seq (.region [⟨(some 6), none, .asg (.c (.b false))⟩] none [6])
   .ret)
   .skip))))
 (.region [⟨(some 35), none, .bin .add (.t 25) (.c (.i .i64 1))⟩,
   ⟨(some 25), none, .mov (.t 35)⟩] none [1, 2, 23, 24, 25]))))
/-- veilstone/terms.fits -/
def ir_terms_fits : AFun := ⟨3, [.tmp 6], false, false,
 (.seq (.region [⟨(some 3), none, .lbox (.t 0)⟩,
   ⟨(some 6), none, .asg (.c (.b false))⟩] none [1, 2, 3])
 (.seq (.region [⟨(some 9), none, .mov (.t 2)⟩,
   ⟨(some 10), none, .nilchk (.t 9)⟩,
   ⟨(some 11), none, .load none (.t 10)⟩,
   ⟨(some 12), none, .bin .add (.t 11) (.c (.i .i64 1))⟩,
   ⟨(some 13), none, .nilchk (.t 9)⟩,
   ⟨none, none, .store 1 (.t 13) (.t 12)⟩] none [1, 2, 3])
 (.seq (.seq (.region [⟨(some 14), none, .mov (.t 1)⟩,
   ⟨(some 15), none, .bin .gtr (.t 14) (.c (.i .i64 8))⟩,
   ⟨(some 16), none, .mov (.t 15)⟩,
   ⟨(some 17), some (16, false), .mov (.t 2)⟩,
   ⟨(some 18), some (16, false), .nilchk (.t 17)⟩,
   ⟨(some 19), some (16, false), .load none (.t 18)⟩,
   ⟨(some 20), some (16, false), .bin .gtr (.t 19) (.c (.i .i64 64))⟩,
   ⟨(some 21), none, .pick (.t 16) (.c (.b true)) (.t 20)⟩] none [1, 2, 3, 21])
 (.cond (.t 21)
  (.seq (.region [⟨(some 6), none, .asg (.c (.b false))⟩] none [6])
  .ret)
  .skip))
 (.seq (.seq (.region [⟨(some 22), none, .fld 4 (.t 3)⟩,
   ⟨(some 23), none, .load none (.t 22)⟩,
   ⟨(some 24), none, .len 0 (.t 23)⟩,
   ⟨(some 25), none, .mov (.c (.i .i64 0))⟩] none [1, 2, 23, 24, 25])
 (.block 0
  (.loop [1, 2, 23, 24, 25] ir_terms_fits_L0)))
 (.seq (.region [⟨(some 6), none, .asg (.c (.b true))⟩] none [6])
 .ret)))))⟩

/-- veilstone/terms.walk -/
def ir_terms_walk : AFun := ⟨1, [.tmp 2], true, false,
 (.seq (.region [⟨(some 1), none, .hbox (.t 0)⟩,
   ⟨(some 2), none, .asg (.c .nf)⟩] none [1])
 (.seq (.region [⟨(some 3), none, .mkfn (.func F_terms_walk_1) [] [(.t 1)]⟩,
   ⟨(some 2), none, .asg (.t 3)⟩] none [2])
 .ret))⟩

/-- veilstone/terms.walk$1 -/
def ir_terms_walk_1 : AFun := ⟨2, [], false, false,
 (.region [⟨(some 3), none, .load (some 5) (.t 1)⟩,
   ⟨(some 4), none, .mov (.t 0)⟩,
   ⟨(some 5), none, .call (.c (.fn (.func F_terms_visit) [] [])) [(.t 3), (.t 4)]⟩] none [])⟩

def ir_terms_visit_L0 : ACode :=
 (.seq (.region [⟨(some 15), none, .bin .lss (.t 14) (.t 13)⟩] none [1, 12, 13, 14, 15])
 (.seq (.cond (.t 15)
  .skip
  (.exit 0))
 (.seq (.block 1
  (.seq (.region [⟨(some 16), none, .idx 5 (.t 12) (.t 14)⟩,
    ⟨(some 17), none, .load (some 5) (.t 16)⟩,
    ⟨(some 6), none, .lalloc [(.i .i64 0), (.s []), (.i .i64 0), (.i .i64 0), .ns]⟩,
    ⟨none, none, .store 5 (.t 6) (.t 17)⟩] none [1, 6, 12, 13, 14])
  (.seq (.region [⟨(some 18), none, .load (some 5) (.t 6)⟩,
    ⟨(some 19), none, .mov (.t 1)⟩,
    ⟨(some 20), none, .call (.c (.fn (.func F_terms_visit) [] [])) [(.t 18), (.t 19)]⟩,
    ⟨(some 21), none, .un .not (.t 20)⟩] none [1, 12, 13, 14, 21])
  (.cond (.t 21)
   (.seq (.region [⟨(some 4), none, .asg (.c (.b false))⟩] none [4])
   .ret)
   .skip))))
 (.region [⟨(some 22), none, .bin .add (.t 14) (.c (.i .i64 1))⟩,
   ⟨(some 14), none, .mov (.t 22)⟩] none [1, 12, 13, 14]))))
/-- veilstone/terms.visit -/
def ir_terms_visit : AFun := ⟨2, [.tmp 4], false, false,
 (.seq (.region [⟨(some 2), none, .lbox (.t 0)⟩,
   ⟨(some 4), none, .asg (.c (.b false))⟩] none [1, 2])
 (.seq (.seq (.region [⟨(some 7), none, .mov (.t 1)⟩,
   ⟨(some 8), none, .load (some 5) (.t 2)⟩,
   ⟨(some 9), none, .call (.t 7) [(.t 8)]⟩,
   ⟨(some 10), none, .un .not (.t 9)⟩] none [1, 2, 10])
 (.cond (.t 10)
  (.seq (.region [⟨(some 4), none, .asg (.c (.b false))⟩] none [4])
  .ret)
  .skip))
 (.seq (.seq (.region [⟨(some 11), none, .fld 4 (.t 2)⟩,
   ⟨(some 12), none, .load none (.t 11)⟩,
   ⟨(some 13), none, .len 0 (.t 12)⟩,
   ⟨(some 14), none, .mov (.c (.i .i64 0))⟩] none [1, 12, 13, 14])
 (.block 0
  (.loop [1, 12, 13, 14] ir_terms_visit_L0)))
 (.seq (.region [⟨(some 4), none, .asg (.c (.b true))⟩] none [4])
 .ret))))⟩

/-- veilstone/terms.checkFields -/
def ir_terms_checkFields : AFun := ⟨1, [.tmp 2], true, false,
 (.seq (.region [⟨(some 1), none, .lbox (.t 0)⟩,
   ⟨(some 2), none, .asg (.c (.i .i64 0))⟩] none [1])
 (.seq (.seq (.region [⟨(some 4), none, .fld 0 (.t 1)⟩,
   ⟨(some 5), none, .load none (.t 4)⟩,
   ⟨(some 6), none, .bin .lss (.t 5) (.c (.i .i64 1))⟩,
   ⟨(some 7), none, .mov (.t 6)⟩,
   ⟨(some 8), some (7, false), .fld 0 (.t 1)⟩,
   ⟨(some 9), some (7, false), .load none (.t 8)⟩,
   ⟨(some 10), some (7, false), .bin .gtr (.t 9) (.c (.i .i64 7))⟩,
   ⟨(some 11), none, .pick (.t 7) (.c (.b true)) (.t 10)⟩] none [1, 11])
 (.cond (.t 11)
  (.seq (.region [⟨(some 2), none, .asg (.c (.i .i64 21))⟩] none [2])
  .ret)
  .skip))
 (.seq (.region [⟨(some 12), none, .fld 0 (.t 1)⟩,
   ⟨(some 13), none, .load none (.t 12)⟩,
   ⟨(some 14), none, .idxa 8 4 (.g G_terms_needs) (.t 13)⟩,
   ⟨(some 15), none, .load (some 4) (.t 14)⟩,
   ⟨(some 3), none, .lalloc [(.i .i64 0), (.i .i64 0), (.i .i64 0), (.b false)]⟩,
   ⟨none, none, .store 4 (.t 3) (.t 15)⟩] none [1, 3])
 (.seq (.seq (.region [⟨(some 16), none, .fld 4 (.t 1)⟩,
   ⟨(some 17), none, .load none (.t 16)⟩,
   ⟨(some 18), none, .len 0 (.t 17)⟩,
   ⟨(some 19), none, .fld 1 (.t 3)⟩,
   ⟨(some 20), none, .load none (.t 19)⟩,
   ⟨(some 21), none, .bin .lss (.t 18) (.t 20)⟩,
   ⟨(some 22), none, .mov (.t 21)⟩,
   ⟨(some 23), some (22, false), .fld 4 (.t 1)⟩,
   ⟨(some 24), some (22, false), .load none (.t 23)⟩,
   ⟨(some 25), some (22, false), .len 0 (.t 24)⟩,
   ⟨(some 26), some (22, false), .fld 2 (.t 3)⟩,
   ⟨(some 27), some (22, false), .load none (.t 26)⟩,
   ⟨(some 28), some (22, false), .bin .gtr (.t 25) (.t 27)⟩,
   ⟨(some 29), none, .pick (.t 22) (.c (.b true)) (.t 28)⟩,
   ⟨(some 30), none, .mov (.t 29)⟩,
   ⟨(some 31), some (30, false), .fld 0 (.t 3)⟩,
   ⟨(some 32), some (30, false), .load none (.t 31)⟩,
   ⟨(some 33), some (30, false), .bin .eql (.t 32) (.c (.i .i64 0))⟩,
   ⟨(some 34), some (30, false), .mov (.t 33)⟩,
   ⟨(some 35), some (34, true), .fld 1 (.t 1)⟩,
   ⟨(some 36), some (34, true), .load none (.t 35)⟩,
   ⟨(some 37), some (34, true), .bin .neq (.t 36) (.c (.s []))⟩,
   ⟨(some 38), some (30, false), .pick (.t 34) (.t 37) (.c (.b false))⟩,
   ⟨(some 39), none, .pick (.t 30) (.c (.b true)) (.t 38)⟩] none [1, 3, 39])
 (.cond (.t 39)
  (.seq (.region [⟨(some 2), none, .asg (.c (.i .i64 21))⟩] none [2])
  .ret)
  .skip))
 (.seq (.seq (.region [⟨(some 40), none, .fld 3 (.t 3)⟩,
   ⟨(some 41), none, .load none (.t 40)⟩] none [1, 3, 41])
 (.cond (.t 41)
  (.seq (.region [⟨(some 42), none, .fld 2 (.t 1)⟩,
    ⟨(some 43), none, .load none (.t 42)⟩,
    ⟨(some 44), none, .bin .lss (.t 43) (.c (.i .i64 (-1099511627776)))⟩,
    ⟨(some 45), none, .mov (.t 44)⟩,
    ⟨(some 46), some (45, false), .fld 2 (.t 1)⟩,
    ⟨(some 47), some (45, false), .load none (.t 46)⟩,
    ⟨(some 48), some (45, false), .fld 3 (.t 1)⟩,
    ⟨(some 49), some (45, false), .load none (.t 48)⟩,
    ⟨(some 50), some (45, false), .bin .gtr (.t 47) (.t 49)⟩,
    ⟨(some 51), none, .pick (.t 45) (.c (.b true)) (.t 50)⟩,
    ⟨(some 52), none, .mov (.t 51)⟩,
    ⟨(some 53), some (52, false), .fld 3 (.t 1)⟩,
    ⟨(some 54), some (52, false), .load none (.t 53)⟩,
    ⟨(some 55), some (52, false), .bin .gtr (.t 54) (.c (.i .i64 1099511627776))⟩,
    ⟨(some 56), none, .pick (.t 52) (.c (.b true)) (.t 55)⟩] none [1, 3, 56])
  (.cond (.t 56)
   (.seq (.region [⟨(some 2), none, .asg (.c (.i .i64 21))⟩] none [2])
   .ret)
   .skip))
  (.seq (.region [⟨(some 57), none, .fld 2 (.t 1)⟩,
    ⟨(some 58), none, .load none (.t 57)⟩,
    ⟨(some 59), none, .bin .neq (.t 58) (.c (.i .i64 0))⟩,
    ⟨(some 60), none, .mov (.t 59)⟩,
    ⟨(some 61), some (60, false), .fld 3 (.t 1)⟩,
    ⟨(some 62), some (60, false), .load none (.t 61)⟩,
    ⟨(some 63), some (60, false), .bin .neq (.t 62) (.c (.i .i64 0))⟩,
    ⟨(some 64), none, .pick (.t 60) (.c (.b true)) (.t 63)⟩] none [1, 3, 64])
  (.cond (.t 64)
   (.seq (.region [⟨(some 2), none, .asg (.c (.i .i64 21))⟩] none [2])
   .ret)
   .skip))))
 (.seq (.seq (.region [⟨(some 65), none, .fld 0 (.t 3)⟩,
   ⟨(some 66), none, .load none (.t 65)⟩,
   ⟨(some 67), none, .bin .eql (.t 66) (.c (.i .i64 0))⟩,
   ⟨(some 68), none, .mov (.t 67)⟩,
   ⟨(some 69), some (68, false), .fld 1 (.t 1)⟩,
   ⟨(some 70), some (68, false), .load none (.t 69)⟩,
   ⟨(some 71), some (68, false), .call (.c (.fn (.func F_terms_isPlain) [] [])) [(.t 70)]⟩,
   ⟨(some 72), none, .pick (.t 68) (.c (.b true)) (.t 71)⟩,
   ⟨(some 73), none, .mov (.t 72)⟩,
   ⟨(some 74), some (73, false), .fld 0 (.t 3)⟩,
   ⟨(some 75), some (73, false), .load none (.t 74)⟩,
   ⟨(some 76), some (73, false), .bin .eql (.t 75) (.c (.i .i64 2))⟩,
   ⟨(some 77), some (73, false), .mov (.t 76)⟩,
   ⟨(some 78), some (77, true), .fld 1 (.t 1)⟩,
   ⟨(some 79), some (77, true), .load none (.t 78)⟩,
   ⟨(some 80), some (77, true), .call (.c (.fn (.func F_terms_isReserved) [] [])) [(.t 79)]⟩,
   ⟨(some 81), some (73, false), .pick (.t 77) (.t 80) (.c (.b false))⟩,
   ⟨(some 82), none, .pick (.t 73) (.c (.b true)) (.t 81)⟩] none [82])
 (.cond (.t 82)
  (.seq (.region [⟨(some 2), none, .asg (.c (.i .i64 0))⟩] none [2])
  .ret)
  .skip))
 (.seq (.region [⟨(some 2), none, .asg (.c (.i .i64 20))⟩] none [2])
 .ret)))))))⟩

/-- veilstone/terms.isBare -/
def ir_terms_isBare : AFun := ⟨1, [.tmp 2], true, false,
 (.seq (.region [⟨(some 1), none, .lbox (.t 0)⟩,
   ⟨(some 2), none, .asg (.c (.b false))⟩] none [1])
 (.seq (.seq (.region [⟨(some 3), none, .fld 0 (.t 1)⟩,
   ⟨(some 4), none, .load none (.t 3)⟩] none [1, 4])
 (.block 0
  (.seq (.region [⟨(some 6), none, .bin .eql (.t 4) (.c (.i .i64 4))⟩,
    ⟨(some 5), none, .asg (.t 6)⟩] none [1, 4, 5])
  (.cond (.t 5)
   (.seq (.region [⟨(some 2), none, .asg (.c (.b true))⟩] none [2])
   .ret)
   (.seq (.region [⟨(some 8), none, .bin .eql (.t 4) (.c (.i .i64 5))⟩,
     ⟨(some 7), none, .asg (.t 8)⟩] none [1, 7])
   (.cond (.t 7)
    (.seq (.region [⟨(some 9), none, .fld 4 (.t 1)⟩,
      ⟨(some 10), none, .load none (.t 9)⟩,
      ⟨(some 11), none, .call (.c (.fn (.func F_slices_ContainsFunc_api_Concept_api_Concept) [] [])) [(.t 10), (.c (.fn (.func F_terms_isBare) [] []))]⟩,
      ⟨(some 2), none, .asg (.t 11)⟩] none [2])
    .ret)
    .skip))))))
 (.seq (.region [⟨(some 2), none, .asg (.c (.b false))⟩] none [2])
 .ret)))⟩

/-- slices.ContainsFunc[[]veilstone/api.Concept,veilstone/api.Concept] -/
def ir_slices_ContainsFunc_api_Concept_api_Concept : AFun := ⟨2, [.tmp 4], false, false,
 (.seq (.region [⟨(some 4), none, .asg (.c (.b false))⟩] none [0, 1])
 (.seq (.region [⟨(some 5), none, .mov (.t 0)⟩,
   ⟨(some 6), none, .mov (.t 1)⟩,
   ⟨(some 7), none, .call (.c (.fn (.func F_slices_IndexFunc_api_Concept_api_Concept) [] [])) [(.t 5), (.t 6)]⟩,
   ⟨(some 8), none, .bin .geq (.t 7) (.c (.i .i64 0))⟩,
   ⟨(some 4), none, .asg (.t 8)⟩] none [4])
 .ret))⟩

def ir_slices_IndexFunc_api_Concept_api_Concept_L0 : ACode :=
 (.seq (.region [⟨(some 9), none, .bin .lss (.t 8) (.t 7)⟩] none [0, 1, 7, 8, 9])
 (.seq (.cond (.t 9)
  .skip
  (.exit 0))
 (.seq (.block 1
  (.seq (.region [⟨(some 10), none, .mov (.t 8)⟩,
    ⟨(some 5), none, .asg (.t 10)⟩] none [0, 1, 5, 7, 8])
  (.seq (.region [⟨(some 11), none, .mov (.t 1)⟩,
    ⟨(some 12), none, .mov (.t 0)⟩,
    ⟨(some 13), none, .mov (.t 5)⟩,
    ⟨(some 14), none, .idx 5 (.t 12) (.t 13)⟩,
    ⟨(some 15), none, .load (some 5) (.t 14)⟩,
    ⟨(some 16), none, .call (.t 11) [(.t 15)]⟩] none [0, 1, 5, 7, 8, 16])
  (.cond (.t 16)
   (.seq (.region [⟨(some 17), none, .mov (.t 5)⟩,
     ⟨(some 4), none, .asg (.t 17)⟩] none [4])
   .ret)
   .skip))))
 (.region [⟨(some 18), none, .bin .add (.t 8) (.c (.i .i64 1))⟩,
   ⟨(some 8), none, .mov (.t 18)⟩] none [0, 1, 7, 8]))))
/-- slices.IndexFunc[[]veilstone/api.Concept,veilstone/api.Concept] -/
def ir_slices_IndexFunc_api_Concept_api_Concept : AFun := ⟨2, [.tmp 4], false, false,
 (.seq (.region [⟨(some 4), none, .asg (.c (.i .i64 0))⟩] none [0, 1])
 (.seq (.seq (.region [⟨(some 6), none, .mov (.t 0)⟩,
   ⟨(some 7), none, .len 0 (.t 6)⟩,
   ⟨(some 8), none, .mov (.c (.i .i64 0))⟩] none [0, 1, 7, 8])
 (.block 0
  (.loop [0, 1, 7, 8] ir_slices_IndexFunc_api_Concept_api_Concept_L0)))
 (.seq (.region [⟨(some 4), none, .asg (.c (.i .i64 (-1)))⟩] none [4])
 .ret)))⟩

def ir_roles_steps_L1 : ACode :=
 (.seq (.region [⟨(some 42), none, .bin .lss (.t 41) (.t 40)⟩] none [3, 4, 6, 11, 12, 13, 39, 40, 41, 42])
 (.seq (.cond (.t 42)
  .skip
  (.exit 3))
 (.seq (.block 4
  (.seq (.region [⟨(some 43), none, .mov (.t 41)⟩,
    ⟨(some 44), none, .idx 1 (.t 39) (.t 41)⟩,
    ⟨(some 45), none, .load none (.t 44)⟩,
    ⟨(some 7), none, .asg (.t 43)⟩,
    ⟨(some 8), none, .asg (.t 45)⟩] none [3, 4, 6, 7, 8, 11, 12, 13, 39, 40, 41])
  (.seq (.region [⟨(some 46), none, .load (some 16) (.t 6)⟩,
    ⟨(some 47), none, .mov (.t 7)⟩,
    ⟨(some 48), none, .call (.c (.fn (.func F_roles_exempt) [] [])) [(.t 46), (.t 47)]⟩,
    ⟨(some 49), none, .un .not (.t 48)⟩] none [3, 4, 6, 8, 11, 12, 13, 39, 40, 41, 49])
  (.cond (.t 49)
   (.region [⟨(some 50), none, .mov (.t 4)⟩,
     ⟨(some 51), none, .mov (.t 8)⟩,
     ⟨(some 52), none, .fld 13 (.t 6)⟩,
     ⟨(some 53), none, .load none (.t 52)⟩,
     ⟨(some 54), none, .call (.t 50) [(.t 51), (.t 53), (.c (.b true))]⟩] none [3, 4, 6, 11, 12, 13, 39, 40, 41])
   .skip))))
 (.region [⟨(some 55), none, .bin .add (.t 41) (.c (.i .i64 1))⟩,
   ⟨(some 41), none, .mov (.t 55)⟩] none [3, 4, 6, 11, 12, 13, 39, 40, 41]))))
def ir_roles_steps_L0 : ACode :=
 (.seq (.region [⟨(some 14), none, .bin .lss (.t 13) (.t 12)⟩] none [3, 4, 11, 12, 13, 14])
 (.seq (.cond (.t 14)
  .skip
  (.exit 0))
 (.seq (.block 1
  (.seq (.region [⟨(some 15), none, .idx 16 (.t 11) (.t 13)⟩,
    ⟨(some 16), none, .load (some 16) (.t 15)⟩,
    ⟨(some 6), none, .lalloc [(.i .i64 0), (.b false), (.i .i64 0), (.s []), (.i .i64 0), (.i .i64 0), .ns, (.i .i64 0), (.s []), (.i .i64 0), (.i .i64 0), .ns, .ns, (.s []), (.s []), (.s [])]⟩,
    ⟨none, none, .store 16 (.t 6) (.t 16)⟩] none [3, 4, 6, 11, 12, 13])
  (.seq (.region [⟨(some 17), none, .fld 0 (.t 6)⟩,
    ⟨(some 18), none, .load none (.t 17)⟩] none [3, 4, 6, 11, 12, 13, 18])
  (.block 2
   (.seq (.region [⟨(some 20), none, .bin .eql (.t 18) (.c (.i .i64 5))⟩,
     ⟨(some 19), none, .asg (.t 20)⟩] none [3, 4, 6, 11, 12, 13, 18, 19])
   (.cond (.t 19)
    (.seq (.region [⟨(some 21), none, .fld 12 (.t 6)⟩,
      ⟨(some 22), none, .load none (.t 21)⟩,
      ⟨(some 23), none, .idx 1 (.t 22) (.c (.i .i64 0))⟩,
      ⟨(some 24), none, .load none (.t 23)⟩,
      ⟨(some 25), none, .fld 13 (.t 6)⟩,
      ⟨(some 26), none, .load none (.t 25)⟩,
      ⟨(some 27), none, .bin .neq (.t 24) (.t 26)⟩] (some ([0, 1, 2, 3, 4, 5, 6], [])) [3, 4, 6, 11, 12, 13, 27])
    (.cond (.t 27)
     (.region [⟨(some 28), none, .mov (.t 4)⟩,
       ⟨(some 29), none, .fld 12 (.t 6)⟩,
       ⟨(some 30), none, .load none (.t 29)⟩,
       ⟨(some 31), none, .idx 1 (.t 30) (.c (.i .i64 0))⟩,
       ⟨(some 32), none, .load none (.t 31)⟩,
       ⟨(some 33), none, .fld 13 (.t 6)⟩,
       ⟨(some 34), none, .load none (.t 33)⟩,
       ⟨(some 35), none, .callp (.t 28) [(.t 32), (.t 34), (.c (.b false))]⟩] (some ([0, 1, 2, 3, 4, 5, 6, 7], [])) [3, 4, 11, 12, 13])
     .skip))
    (.seq (.region [⟨(some 37), none, .bin .eql (.t 18) (.c (.i .i64 6))⟩,
      ⟨(some 36), none, .asg (.t 37)⟩] none [3, 4, 6, 11, 12, 13, 36])
    (.cond (.t 36)
     (.seq (.region [⟨(some 38), none, .fld 12 (.t 6)⟩,
       ⟨(some 39), none, .load none (.t 38)⟩,
       ⟨(some 40), none, .len 0 (.t 39)⟩,
       ⟨(some 41), none, .mov (.c (.i .i64 0))⟩] none [3, 4, 6, 11, 12, 13, 39, 40, 41])
     (.block 3
      (.loop [3, 4, 6, 11, 12, 13, 39, 40, 41] ir_roles_steps_L1)))
     .skip))))))))
 (.region [⟨(some 56), none, .bin .add (.t 13) (.c (.i .i64 1))⟩,
   ⟨(some 13), none, .mov (.t 56)⟩] none [3, 4, 11, 12, 13]))))
/-- veilstone/roles.steps -/
def ir_roles_steps : AFun := ⟨1, [.tmp 2], false, false,
 (.seq (.region [⟨(some 2), none, .asg (.c .nm)⟩] none [0])
 (.seq (.region [⟨(some 9), none, .hmap⟩,
   ⟨(some 3), none, .halloc [.nm]⟩,
   ⟨none, none, .store 1 (.t 3) (.t 9)⟩] none [0, 3])
 (.seq (.region [⟨(some 10), none, .mkfn (.func F_roles_steps_1) [] [(.t 3)]⟩,
   ⟨(some 4), none, .asg (.t 10)⟩] none [0, 3, 4])
 (.seq (.seq (.region [⟨(some 11), none, .mov (.t 0)⟩,
   ⟨(some 12), none, .len 0 (.t 11)⟩,
   ⟨(some 13), none, .mov (.c (.i .i64 0))⟩] none [3, 4, 11, 12, 13])
 (.block 0
  (.loop [3, 4, 11, 12, 13] ir_roles_steps_L0)))
 (.seq (.region [⟨(some 57), none, .load none (.t 3)⟩,
   ⟨(some 2), none, .asg (.t 57)⟩] none [2])
 .ret)))))⟩

/-- veilstone/roles.steps$1 -/
def ir_roles_steps_1 : AFun := ⟨4, [], false, true,
 (.seq (.seq (.region [⟨(some 7), none, .load none (.t 3)⟩,
   ⟨(some 8), none, .mov (.t 0)⟩,
   ⟨(some 9), none, .look 1 .nm false (.t 7) (.t 8)⟩,
   ⟨(some 10), none, .nileq false 1 (.t 9)⟩] none [0, 1, 2, 3, 10])
 (.cond (.t 10)
  (.region [⟨(some 11), none, .load none (.t 3)⟩,
    ⟨(some 12), none, .mov (.t 0)⟩,
    ⟨(some 13), none, .hmap⟩,
    ⟨none, none, .hins 1 (.t 11) (.t 12) (.t 13)⟩] none [0, 1, 2, 3])
  .skip))
 (.region [⟨(some 14), none, .load none (.t 3)⟩,
   ⟨(some 15), none, .mov (.t 0)⟩,
   ⟨(some 16), none, .look 1 .nm false (.t 14) (.t 15)⟩,
   ⟨(some 17), none, .mov (.t 1)⟩,
   ⟨(some 18), none, .load none (.t 3)⟩,
   ⟨(some 19), none, .mov (.t 0)⟩,
   ⟨(some 20), none, .look 1 .nm false (.t 18) (.t 19)⟩,
   ⟨(some 21), none, .mov (.t 1)⟩,
   ⟨(some 22), none, .look 1 (.b false) false (.t 20) (.t 21)⟩,
   ⟨(some 23), none, .mov (.t 22)⟩,
   ⟨(some 24), some (23, false), .mov (.t 2)⟩,
   ⟨(some 25), none, .pick (.t 23) (.c (.b true)) (.t 24)⟩,
   ⟨none, none, .hins 1 (.t 16) (.t 17) (.t 25)⟩] none []))⟩

def ir_roles_exempt_L0 : ACode :=
 (.seq (.region [⟨(some 24), none, .bin .lss (.t 23) (.t 22)⟩] none [1, 2, 5, 6, 21, 22, 23, 24])
 (.seq (.cond (.t 24)
  .skip
  (.exit 0))
 (.seq (.block 1
  (.seq (.region [⟨(some 25), none, .idx 1 (.t 21) (.t 23)⟩,
    ⟨(some 26), none, .load none (.t 25)⟩,
    ⟨(some 8), none, .asg (.t 26)⟩] none [1, 2, 5, 6, 8, 21, 22, 23])
  (.seq (.region [⟨(some 27), none, .mov (.t 8)⟩,
    ⟨(some 28), none, .fld 13 (.t 2)⟩,
    ⟨(some 29), none, .load none (.t 28)⟩,
    ⟨(some 30), none, .bin .eql (.t 27) (.t 29)⟩] none [1, 2, 5, 6, 21, 22, 23, 30])
  (.cond (.t 30)
   (.region [⟨(some 31), none, .mov (.t 6)⟩,
     ⟨(some 32), none, .bin .add (.t 31) (.c (.i .i64 1))⟩,
     ⟨(some 6), none, .asg (.t 32)⟩] none [1, 2, 5, 6, 21, 22, 23])
   .skip))))
 (.region [⟨(some 33), none, .bin .add (.t 23) (.c (.i .i64 1))⟩,
   ⟨(some 23), none, .mov (.t 33)⟩] none [1, 2, 5, 6, 21, 22, 23]))))
/-- veilstone/roles.exempt -/
def ir_roles_exempt : AFun := ⟨2, [.tmp 4], true, false,
 (.seq (.region [⟨(some 2), none, .lbox (.t 0)⟩,
   ⟨(some 4), none, .asg (.c (.b false))⟩] none [1, 2])
 (.seq (.seq (.region [⟨(some 9), none, .fld 12 (.t 2)⟩,
   ⟨(some 10), none, .load none (.t 9)⟩,
   ⟨(some 11), none, .mov (.t 1)⟩,
   ⟨(some 12), none, .idx 1 (.t 10) (.t 11)⟩,
   ⟨(some 13), none, .load none (.t 12)⟩,
   ⟨(some 14), none, .fld 13 (.t 2)⟩,
   ⟨(some 15), none, .load none (.t 14)⟩,
   ⟨(some 16), none, .bin .neq (.t 13) (.t 15)⟩] (some ([0, 1, 2, 3, 4, 5, 6, 7], [])) [1, 2, 16])
 (.cond (.t 16)
  (.seq (.region [⟨(some 4), none, .asg (.c (.b false))⟩] none [4])
  .ret)
  .skip))
 (.seq (.region [⟨(some 17), none, .fld 12 (.t 2)⟩,
   ⟨(some 18), none, .load none (.t 17)⟩,
   ⟨(some 19), none, .len 0 (.t 18)⟩,
   ⟨(some 5), none, .asg (.t 19)⟩] none [1, 2, 5])
 (.seq (.region [⟨(some 6), none, .asg (.c (.i .i64 0))⟩] none [1, 2, 5, 6])
 (.seq (.seq (.region [⟨(some 20), none, .fld 12 (.t 2)⟩,
   ⟨(some 21), none, .load none (.t 20)⟩,
   ⟨(some 22), none, .len 0 (.t 21)⟩,
   ⟨(some 23), none, .mov (.c (.i .i64 0))⟩] none [1, 2, 5, 6, 21, 22, 23])
 (.block 0
  (.loop [1, 2, 5, 6, 21, 22, 23] ir_roles_exempt_L0)))
 (.seq (.region [⟨(some 34), none, .mov (.t 6)⟩,
   ⟨(some 35), none, .bin .eql (.t 34) (.c (.i .i64 1))⟩,
   ⟨(some 36), none, .mov (.t 35)⟩,
   ⟨(some 37), some (36, true), .mov (.t 1)⟩,
   ⟨(some 38), some (36, true), .bin .eql (.t 37) (.c (.i .i64 0))⟩,
   ⟨(some 39), some (36, true), .mov (.t 38)⟩,
   ⟨(some 40), some (39, false), .mov (.t 1)⟩,
   ⟨(some 41), some (39, false), .mov (.t 5)⟩,
   ⟨(some 42), some (39, false), .bin .sub (.t 41) (.c (.i .i64 1))⟩,
   ⟨(some 43), some (39, false), .bin .eql (.t 40) (.t 42)⟩,
   ⟨(some 44), some (36, true), .pick (.t 39) (.c (.b true)) (.t 43)⟩,
   ⟨(some 45), none, .pick (.t 36) (.t 44) (.c (.b false))⟩,
   ⟨(some 46), none, .mov (.t 45)⟩,
   ⟨(some 47), some (46, false), .mov (.t 6)⟩,
   ⟨(some 48), some (46, false), .bin .eql (.t 47) (.c (.i .i64 2))⟩,
   ⟨(some 49), some (46, false), .mov (.t 48)⟩,
   ⟨(some 50), some (49, true), .mov (.t 5)⟩,
   ⟨(some 51), some (49, true), .bin .eql (.t 50) (.c (.i .i64 2))⟩,
   ⟨(some 52), some (46, false), .pick (.t 49) (.t 51) (.c (.b false))⟩,
   ⟨(some 53), none, .pick (.t 46) (.c (.b true)) (.t 52)⟩,
   ⟨(some 4), none, .asg (.t 53)⟩] none [4])
 .ret))))))⟩

def ir_roles_newGraph_L1 : ACode :=
 (.seq (.region [⟨(some 28), none, .bin .lss (.t 27) (.t 26)⟩] none [0, 2, 4, 5, 15, 16, 17, 25, 26, 27, 28])
 (.seq (.cond (.t 28)
  .skip
  (.exit 2))
 (.seq (.block 3
  (.seq (.region [⟨(some 29), none, .idx 1 (.t 25) (.t 27)⟩,
    ⟨(some 30), none, .load none (.t 29)⟩,
    ⟨(some 7), none, .asg (.t 30)⟩] none [0, 2, 4, 5, 7, 15, 16, 17, 25, 26, 27])
  (.seq (.region [⟨(some 32), none, .fld 0 (.t 2)⟩,
    ⟨(some 33), none, .load none (.t 32)⟩,
    ⟨(some 34), none, .mov (.t 7)⟩,
    ⟨(some 35), none, .call (.c (.fn (.func F_slices_BinarySearch_string_string) [] [])) [(.t 33), (.t 34)]⟩,
    ⟨(some 31), none, .mov (.t 35)⟩,
    ⟨(some 36), none, .ext (.t 31) 0⟩,
    ⟨(some 37), none, .ext (.t 31) 1⟩,
    ⟨(some 8), none, .asg (.t 36)⟩,
    ⟨(some 9), none, .asg (.t 37)⟩] none [0, 2, 4, 5, 7, 8, 9, 15, 16, 17, 25, 26, 27])
  (.seq (.region [⟨(some 38), none, .mov (.t 9)⟩] none [0, 2, 4, 5, 7, 8, 15, 16, 17, 25, 26, 27, 38])
  (.cond (.t 38)
   (.region [⟨(some 39), none, .mov (.t 5)⟩,
     ⟨(some 40), none, .mov (.t 8)⟩,
     ⟨(some 41), none, .mov (.t 0)⟩,
     ⟨(some 42), none, .mov (.t 4)⟩,
     ⟨(some 43), none, .look 1 .nm false (.t 41) (.t 42)⟩,
     ⟨(some 44), none, .mov (.t 7)⟩,
     ⟨(some 45), none, .look 1 (.b false) false (.t 43) (.t 44)⟩,
     ⟨(some 46), none, .build [(.i .i64 0), (.b false)] [(0, 1, (.t 40)), (1, 1, (.t 45))]⟩,
     ⟨(some 47), none, .bsl false T_roles_step_2 2 1 [(.i .i64 0), (.b false)] [(0, (.t 46))]⟩,
     ⟨(some 48), none, .app T_roles_step_2 2 (.t 39) (.t 47)⟩,
     ⟨(some 5), none, .asg (.t 48)⟩] none [0, 2, 4, 5, 15, 16, 17, 25, 26, 27])
   .skip)))))
 (.region [⟨(some 49), none, .bin .add (.t 27) (.c (.i .i64 1))⟩,
   ⟨(some 27), none, .mov (.t 49)⟩] none [0, 2, 4, 5, 15, 16, 17, 25, 26, 27]))))
def ir_roles_newGraph_L0 : ACode :=
 (.seq (.region [⟨(some 18), none, .bin .lss (.t 17) (.t 16)⟩] none [0, 2, 15, 16, 17, 18])
 (.seq (.cond (.t 18)
  .skip
  (.exit 0))
 (.seq (.block 1
  (.seq (.region [⟨(some 19), none, .idx 1 (.t 15) (.t 17)⟩,
    ⟨(some 20), none, .load none (.t 19)⟩,
    ⟨(some 4), none, .asg (.t 20)⟩] none [0, 2, 4, 15, 16, 17])
  (.seq (.region [⟨(some 5), none, .nbuf T_roles_step_2 2⟩] none [0, 2, 4, 5, 15, 16, 17])
  (.seq (.seq (.region [⟨(some 21), none, .mov (.t 0)⟩,
    ⟨(some 22), none, .mov (.t 4)⟩,
    ⟨(some 23), none, .look 1 .nm false (.t 21) (.t 22)⟩,
    ⟨(some 24), none, .call (.c (.fn (.func F_maps_Keys_map_string_bool_string_bool) [] [])) [(.t 23)]⟩,
    ⟨(some 25), none, .call (.c (.fn (.func F_slices_Sorted_string) [] [])) [(.t 24)]⟩,
    ⟨(some 26), none, .len 0 (.t 25)⟩,
    ⟨(some 27), none, .mov (.c (.i .i64 0))⟩] none [0, 2, 4, 5, 15, 16, 17, 25, 26, 27])
  (.block 2
   (.loop [0, 2, 4, 5, 15, 16, 17, 25, 26, 27] ir_roles_newGraph_L1)))
  (.region [⟨(some 50), none, .fld 1 (.t 2)⟩,
    ⟨(some 51), none, .load none (.t 50)⟩,
    ⟨(some 52), none, .mov (.t 5)⟩,
    ⟨(some 53), none, .bsl false T_roles_step_1 1 1 [.ns] [(0, (.t 52))]⟩,
    ⟨(some 54), none, .appr T_roles_step_1 1 (.t 51) (.t 53)⟩,
    ⟨(some 55), none, .fld 1 (.t 2)⟩,
    ⟨none, none, .store 1 (.t 55) (.t 54)⟩] none [0, 2, 15, 16, 17])))))
 (.region [⟨(some 56), none, .bin .add (.t 17) (.c (.i .i64 1))⟩,
   ⟨(some 17), none, .mov (.t 56)⟩] none [0, 2, 15, 16, 17]))))
/-- veilstone/roles.newGraph -/
def ir_roles_newGraph : AFun := ⟨1, [.cell 2 (some 2)], true, false,
 (.seq (.region [⟨(some 2), none, .lalloc [.ns, .ns]⟩] none [0, 2])
 (.seq (.region [⟨(some 10), none, .mov (.t 0)⟩,
   ⟨(some 11), none, .call (.c (.fn (.func F_maps_Keys_map_string_map_string_bool_string_map_string_bool) [] [])) [(.t 10)]⟩,
   ⟨(some 12), none, .call (.c (.fn (.func F_slices_Sorted_string) [] [])) [(.t 11)]⟩,
   ⟨(some 13), none, .fld 0 (.t 2)⟩,
   ⟨none, none, .store 1 (.t 13) (.t 12)⟩] none [0, 2])
 (.seq (.seq (.region [⟨(some 14), none, .fld 0 (.t 2)⟩,
   ⟨(some 15), none, .load none (.t 14)⟩,
   ⟨(some 16), none, .len 0 (.t 15)⟩,
   ⟨(some 17), none, .mov (.c (.i .i64 0))⟩] none [0, 2, 15, 16, 17])
 (.block 0
  (.loop [0, 2, 15, 16, 17] ir_roles_newGraph_L0)))
 (.seq (.region [⟨(some 57), none, .load (some 2) (.t 2)⟩,
   ⟨none, none, .store 2 (.t 2) (.t 57)⟩] none [2])
 .ret))))⟩

def ir_slices_BinarySearch_string_string_L0 : ACode :=
 (.seq (.seq (.region [⟨(some 13), none, .mov (.t 7)⟩,
   ⟨(some 14), none, .mov (.t 8)⟩,
   ⟨(some 15), none, .bin .lss (.t 13) (.t 14)⟩] none [0, 1, 6, 7, 8, 15])
 (.cond (.t 15)
  .skip
  (.exit 0)))
 (.block 1
  (.seq (.region [⟨(some 16), none, .mov (.t 7)⟩,
    ⟨(some 17), none, .mov (.t 8)⟩,
    ⟨(some 18), none, .bin .add (.t 16) (.t 17)⟩,
    ⟨(some 19), none, .toInt .u64 (.t 18)⟩,
    ⟨(some 20), none, .bin .shr (.t 19) (.c (.i .u64 1))⟩,
    ⟨(some 21), none, .toInt .i64 (.t 20)⟩,
    ⟨(some 9), none, .asg (.t 21)⟩] none [0, 1, 6, 7, 8, 9])
  (.seq (.region [⟨(some 22), none, .mov (.t 0)⟩,
    ⟨(some 23), none, .mov (.t 9)⟩,
    ⟨(some 24), none, .idx 1 (.t 22) (.t 23)⟩,
    ⟨(some 25), none, .load none (.t 24)⟩,
    ⟨(some 26), none, .mov (.t 1)⟩,
    ⟨(some 27), none, .call (.c (.fn (.func F_cmp_Less_string) [] [])) [(.t 25), (.t 26)]⟩] none [0, 1, 6, 7, 8, 9, 27])
  (.cond (.t 27)
   (.region [⟨(some 28), none, .mov (.t 9)⟩,
     ⟨(some 29), none, .bin .add (.t 28) (.c (.i .i64 1))⟩,
     ⟨(some 7), none, .asg (.t 29)⟩] none [0, 1, 6, 7, 8])
   (.region [⟨(some 30), none, .mov (.t 9)⟩,
     ⟨(some 8), none, .asg (.t 30)⟩] none [0, 1, 6, 7, 8]))))))
/-- slices.BinarySearch[[]string,string] -/
def ir_slices_BinarySearch_string_string : AFun := ⟨2, [.tmp 4, .tmp 5], true, false,
 (.seq (.region [⟨(some 4), none, .asg (.c (.i .i64 0))⟩,
   ⟨(some 5), none, .asg (.c (.b false))⟩] none [0, 1])
 (.seq (.region [⟨(some 10), none, .mov (.t 0)⟩,
   ⟨(some 11), none, .len 0 (.t 10)⟩,
   ⟨(some 6), none, .asg (.t 11)⟩] none [0, 1, 6])
 (.seq (.region [⟨(some 12), none, .mov (.t 6)⟩,
   ⟨(some 7), none, .asg (.c (.i .i64 0))⟩,
   ⟨(some 8), none, .asg (.t 12)⟩] none [0, 1, 6, 7, 8])
 (.seq (.block 0
  (.loop [0, 1, 6, 7, 8] ir_slices_BinarySearch_string_string_L0))
 (.seq (.region [⟨(some 31), none, .mov (.t 7)⟩,
   ⟨(some 32), none, .mov (.t 7)⟩,
   ⟨(some 33), none, .mov (.t 6)⟩,
   ⟨(some 34), none, .bin .lss (.t 32) (.t 33)⟩,
   ⟨(some 35), none, .mov (.t 34)⟩,
   ⟨(some 36), some (35, true), .mov (.t 0)⟩,
   ⟨(some 37), some (35, true), .mov (.t 7)⟩,
   ⟨(some 38), some (35, true), .idx 1 (.t 36) (.t 37)⟩,
   ⟨(some 39), some (35, true), .load none (.t 38)⟩,
   ⟨(some 40), some (35, true), .mov (.t 1)⟩,
   ⟨(some 41), some (35, true), .bin .eql (.t 39) (.t 40)⟩,
   ⟨(some 42), some (35, true), .mov (.t 41)⟩,
   ⟨(some 43), some (42, false), .mov (.t 0)⟩,
   ⟨(some 44), some (42, false), .mov (.t 7)⟩,
   ⟨(some 45), some (42, false), .idx 1 (.t 43) (.t 44)⟩,
   ⟨(some 46), some (42, false), .load none (.t 45)⟩,
   ⟨(some 47), some (42, false), .call (.c (.fn (.func F_slices_isNaN_string) [] [])) [(.t 46)]⟩,
   ⟨(some 48), some (42, false), .mov (.t 47)⟩,
   ⟨(some 49), some (48, true), .mov (.t 1)⟩,
   ⟨(some 50), some (48, true), .call (.c (.fn (.func F_slices_isNaN_string) [] [])) [(.t 49)]⟩,
   ⟨(some 51), some (42, false), .pick (.t 48) (.t 50) (.c (.b false))⟩,
   ⟨(some 52), some (35, true), .pick (.t 42) (.c (.b true)) (.t 51)⟩,
   ⟨(some 53), none, .pick (.t 35) (.t 52) (.c (.b false))⟩,
   ⟨(some 4), none, .asg (.t 31)⟩,
   ⟨(some 5), none, .asg (.t 53)⟩] none [4, 5])
 .ret)))))⟩

/-- cmp.Less[string] -/
def ir_cmp_Less_string : AFun := ⟨2, [.tmp 4], true, false,
 (.seq (.region [⟨(some 4), none, .asg (.c (.b false))⟩] none [0, 1])
 (.seq (.region [⟨(some 5), none, .mov (.t 0)⟩,
   ⟨(some 6), none, .call (.c (.fn (.func F_cmp_isNaN_string) [] [])) [(.t 5)]⟩,
   ⟨(some 7), none, .mov (.t 6)⟩,
   ⟨(some 8), some (7, true), .mov (.t 1)⟩,
   ⟨(some 9), some (7, true), .call (.c (.fn (.func F_cmp_isNaN_string) [] [])) [(.t 8)]⟩,
   ⟨(some 10), some (7, true), .un .not (.t 9)⟩,
   ⟨(some 11), none, .pick (.t 7) (.t 10) (.c (.b false))⟩,
   ⟨(some 12), none, .mov (.t 11)⟩,
   ⟨(some 13), some (12, false), .mov (.t 0)⟩,
   ⟨(some 14), some (12, false), .mov (.t 1)⟩,
   ⟨(some 15), some (12, false), .bin .lss (.t 13) (.t 14)⟩,
   ⟨(some 16), none, .pick (.t 12) (.c (.b true)) (.t 15)⟩,
   ⟨(some 4), none, .asg (.t 16)⟩] none [4])
 .ret))⟩

/-- cmp.isNaN[string] -/
def ir_cmp_isNaN_string : AFun := ⟨1, [.tmp 2], true, false,
 (.seq (.region [⟨(some 2), none, .asg (.c (.b false))⟩] none [0])
 (.seq (.region [⟨(some 3), none, .mov (.t 0)⟩,
   ⟨(some 4), none, .mov (.t 0)⟩,
   ⟨(some 5), none, .bin .neq (.t 3) (.t 4)⟩,
   ⟨(some 2), none, .asg (.t 5)⟩] none [2])
 .ret))⟩

/-- slices.isNaN[string] -/
def ir_slices_isNaN_string : AFun := ⟨1, [.tmp 2], true, false,
 (.seq (.region [⟨(some 2), none, .asg (.c (.b false))⟩] none [0])
 (.seq (.region [⟨(some 3), none, .mov (.t 0)⟩,
   ⟨(some 4), none, .mov (.t 0)⟩,
   ⟨(some 5), none, .bin .neq (.t 3) (.t 4)⟩,
   ⟨(some 2), none, .asg (.t 5)⟩] none [2])
 .ret))⟩

def ir_roles_graph_circle_L3 : ACode :=
 (.seq (.seq (.region [⟨(some 65), none, .mov (.t 9)⟩,
   ⟨(some 66), none, .bin .gtr (.t 65) (.c (.i .i64 0))⟩] none [1, 6, 7, 9, 66])
 (.cond (.t 66)
  .skip
  (.exit 4)))
 (.seq (.block 5
  (.region [⟨(some 72), none, .mov (.t 6)⟩,
    ⟨(some 73), none, .mov (.t 7)⟩,
    ⟨(some 74), none, .mov (.t 9)⟩,
    ⟨(some 75), none, .idx 4 (.t 73) (.t 74)⟩,
    ⟨(some 76), none, .fld 0 (.t 75)⟩,
    ⟨(some 77), none, .load none (.t 76)⟩,
    ⟨(some 78), none, .bsl false T_int_0 1 1 [(.i .i64 0)] [(0, (.t 77))]⟩,
    ⟨(some 79), none, .appk T_int_0 1 (.t 72) (.t 78)⟩,
    ⟨(some 6), none, .asg (.t 79)⟩] none [1, 6, 7, 9]))
 (.region [⟨(some 67), none, .mov (.t 7)⟩,
   ⟨(some 68), none, .mov (.t 9)⟩,
   ⟨(some 69), none, .idx 4 (.t 67) (.t 68)⟩,
   ⟨(some 70), none, .fld 2 (.t 69)⟩,
   ⟨(some 71), none, .load none (.t 70)⟩,
   ⟨(some 9), none, .asg (.t 71)⟩] none [1, 6, 7, 9])))
def ir_roles_graph_circle_L2 : ACode :=
 (.seq (.region [⟨(some 49), none, .bin .lss (.t 48) (.t 47)⟩] none [1, 2, 3, 6, 7, 8, 9, 10, 46, 47, 48, 49])
 (.seq (.cond (.t 49)
  .skip
  (.exit 2))
 (.seq (.block 3
  (.seq (.region [⟨(some 50), none, .idx 2 (.t 46) (.t 48)⟩,
    ⟨(some 51), none, .load (some 2) (.t 50)⟩,
    ⟨(some 12), none, .lalloc [(.i .i64 0), (.b false)]⟩,
    ⟨none, none, .store 2 (.t 12) (.t 51)⟩] none [1, 2, 3, 6, 7, 8, 9, 10, 12, 46, 47, 48])
  (.seq (.region [⟨(some 52), none, .fld 1 (.t 10)⟩,
    ⟨(some 53), none, .load none (.t 52)⟩,
    ⟨(some 54), none, .mov (.t 53)⟩,
    ⟨(some 55), some (54, false), .fld 1 (.t 12)⟩,
    ⟨(some 56), some (54, false), .load none (.t 55)⟩,
    ⟨(some 57), none, .pick (.t 54) (.c (.b true)) (.t 56)⟩,
    ⟨(some 13), none, .asg (.t 57)⟩] none [1, 2, 3, 6, 7, 8, 9, 10, 12, 13, 46, 47, 48])
  (.seq (.seq (.region [⟨(some 58), none, .fld 0 (.t 12)⟩,
    ⟨(some 59), none, .load none (.t 58)⟩,
    ⟨(some 60), none, .mov (.t 1)⟩,
    ⟨(some 61), none, .bin .eql (.t 59) (.t 60)⟩,
    ⟨(some 62), none, .mov (.t 61)⟩,
    ⟨(some 63), some (62, true), .mov (.t 13)⟩,
    ⟨(some 64), none, .pick (.t 62) (.t 63) (.c (.b false))⟩] none [1, 2, 3, 6, 7, 8, 9, 10, 12, 13, 46, 47, 48, 64])
  (.cond (.t 64)
   (.seq (.block 4
    (.loop [1, 6, 7, 9] ir_roles_graph_circle_L3))
   (.seq (.region [⟨(some 80), none, .mov (.t 6)⟩,
     ⟨(some 81), none, .mov (.t 1)⟩,
     ⟨(some 82), none, .bsl false T_int_0 1 1 [(.i .i64 0)] [(0, (.t 81))]⟩,
     ⟨(some 83), none, .appk T_int_0 1 (.t 80) (.t 82)⟩,
     ⟨(some 6), none, .asg (.t 83)⟩] none [6])
   (.seq (.region [⟨(some 84), none, .mov (.t 6)⟩,
     ⟨(some 85), none, .call (.c (.fn (.func F_slices_Reverse_int_int) [] [])) [(.t 84)]⟩] none [6])
   (.exit 0))))
   .skip))
  (.seq (.region [⟨(some 14), none, .asg (.c (.i .i64 0))⟩] none [1, 2, 3, 6, 7, 8, 9, 10, 12, 13, 14, 46, 47, 48])
  (.seq (.seq (.region [⟨(some 86), none, .mov (.t 13)⟩] none [1, 2, 3, 6, 7, 8, 9, 10, 12, 13, 14, 46, 47, 48, 86])
  (.cond (.t 86)
   (.region [⟨(some 14), none, .asg (.c (.i .i64 1))⟩] none [1, 2, 3, 6, 7, 8, 9, 10, 12, 13, 14, 46, 47, 48])
   .skip))
  (.seq (.seq (.region [⟨(some 87), none, .mov (.t 8)⟩,
    ⟨(some 88), none, .fld 0 (.t 12)⟩,
    ⟨(some 89), none, .load none (.t 88)⟩,
    ⟨(some 90), none, .mov (.t 14)⟩,
    ⟨(some 91), none, .idx 2 (.t 87) (.t 89)⟩,
    ⟨(some 92), none, .idxa 2 1 (.t 91) (.t 90)⟩,
    ⟨(some 93), none, .load none (.t 92)⟩] none [1, 2, 3, 6, 7, 8, 9, 10, 12, 13, 14, 46, 47, 48, 93])
  (.cond (.t 93)
   (.exit 3)
   .skip))
  (.seq (.region [⟨(some 94), none, .mov (.t 8)⟩,
    ⟨(some 95), none, .fld 0 (.t 12)⟩,
    ⟨(some 96), none, .load none (.t 95)⟩,
    ⟨(some 97), none, .mov (.t 14)⟩,
    ⟨(some 98), none, .idx 2 (.t 94) (.t 96)⟩,
    ⟨(some 99), none, .idxa 2 1 (.t 98) (.t 97)⟩,
    ⟨none, none, .store 1 (.t 99) (.c (.b true))⟩] none [1, 2, 3, 6, 7, 8, 9, 10, 12, 13, 46, 47, 48])
  (.region [⟨(some 100), none, .mov (.t 7)⟩,
    ⟨(some 101), none, .fld 0 (.t 12)⟩,
    ⟨(some 102), none, .load none (.t 101)⟩,
    ⟨(some 103), none, .mov (.t 13)⟩,
    ⟨(some 104), none, .mov (.t 9)⟩,
    ⟨(some 105), none, .fld 3 (.t 10)⟩,
    ⟨(some 106), none, .load none (.t 105)⟩,
    ⟨(some 107), none, .bin .add (.t 106) (.c (.i .i64 1))⟩,
    ⟨(some 108), none, .build [(.i .i64 0), (.b false), (.i .i64 0), (.i .i64 0)] [(0, 1, (.t 102)), (1, 1, (.t 103)), (2, 1, (.t 104)), (3, 1, (.t 107))]⟩,
    ⟨(some 109), none, .bsl false T_roles_way_0 4 1 [(.i .i64 0), (.b false), (.i .i64 0), (.i .i64 0)] [(0, (.t 108))]⟩,
    ⟨(some 110), none, .appk T_roles_way_0 4 (.t 100) (.t 109)⟩,
    ⟨(some 7), none, .asg (.t 110)⟩] none [1, 2, 3, 6, 7, 8, 9, 10, 46, 47, 48])))))))))
 (.region [⟨(some 111), none, .bin .add (.t 48) (.c (.i .i64 1))⟩,
   ⟨(some 48), none, .mov (.t 111)⟩] none [1, 2, 3, 6, 7, 8, 9, 10, 46, 47, 48]))))
def ir_roles_graph_circle_L1 : ACode :=
 (.seq (.seq (.region [⟨(some 26), none, .mov (.t 9)⟩,
   ⟨(some 27), none, .mov (.t 7)⟩,
   ⟨(some 28), none, .len 0 (.t 27)⟩,
   ⟨(some 29), none, .bin .lss (.t 26) (.t 28)⟩] none [1, 2, 3, 6, 7, 8, 9, 29])
 (.cond (.t 29)
  .skip
  (.exit 0)))
 (.seq (.block 1
  (.seq (.region [⟨(some 32), none, .mov (.t 7)⟩,
    ⟨(some 33), none, .mov (.t 9)⟩,
    ⟨(some 34), none, .idx 4 (.t 32) (.t 33)⟩,
    ⟨(some 35), none, .load (some 4) (.t 34)⟩,
    ⟨(some 10), none, .lalloc [(.i .i64 0), (.b false), (.i .i64 0), (.i .i64 0)]⟩,
    ⟨none, none, .store 4 (.t 10) (.t 35)⟩] none [1, 2, 3, 6, 7, 8, 9, 10])
  (.seq (.seq (.region [⟨(some 36), none, .fld 3 (.t 10)⟩,
    ⟨(some 37), none, .load none (.t 36)⟩,
    ⟨(some 38), none, .bin .add (.t 37) (.c (.i .i64 1))⟩,
    ⟨(some 39), none, .mov (.t 2)⟩,
    ⟨(some 40), none, .bin .geq (.t 38) (.t 39)⟩] none [1, 2, 3, 6, 7, 8, 9, 10, 40])
  (.cond (.t 40)
   (.exit 0)
   .skip))
  (.seq (.region [⟨(some 41), none, .fld 1 (.t 3)⟩,
    ⟨(some 42), none, .load none (.t 41)⟩,
    ⟨(some 43), none, .fld 0 (.t 10)⟩,
    ⟨(some 44), none, .load none (.t 43)⟩,
    ⟨(some 45), none, .idx 1 (.t 42) (.t 44)⟩,
    ⟨(some 46), none, .load none (.t 45)⟩,
    ⟨(some 47), none, .len 0 (.t 46)⟩,
    ⟨(some 48), none, .mov (.c (.i .i64 0))⟩] none [1, 2, 3, 6, 7, 8, 9, 10, 46, 47, 48])
  (.block 2
   (.loop [1, 2, 3, 6, 7, 8, 9, 10, 46, 47, 48] ir_roles_graph_circle_L2))))))
 (.region [⟨(some 30), none, .mov (.t 9)⟩,
   ⟨(some 31), none, .bin .add (.t 30) (.c (.i .i64 1))⟩,
   ⟨(some 9), none, .asg (.t 31)⟩] none [1, 2, 3, 6, 7, 8, 9])))
def ir_roles_graph_circle_L0 : ACode :=
 (.seq .skip
 (.seq (.seq (.region [⟨(some 9), none, .asg (.c (.i .i64 0))⟩] none [1, 2, 3, 6, 7, 8, 9])
 (.block 0
  (.loop [1, 2, 3, 6, 7, 8, 9] ir_roles_graph_circle_L1)))
 (.seq (.region [⟨(some 112), none, .mov (.t 6)⟩,
   ⟨(some 6), none, .asg (.t 112)⟩] none [6])
 .ret)))
def ir_roles_graph_circle_L6 : ACode :=
 (.seq (.seq (.region [⟨(some 65), none, .mov (.t 9)⟩,
   ⟨(some 66), none, .bin .gtr (.t 65) (.c (.i .i64 0))⟩] none [1, 6, 7, 9, 66])
 (.cond (.t 66)
  .skip
  (.exit 4)))
 (.seq (.block 5
  (.region [⟨(some 72), none, .mov (.t 6)⟩,
    ⟨(some 73), none, .mov (.t 7)⟩,
    ⟨(some 74), none, .mov (.t 9)⟩,
    ⟨(some 75), none, .idx 4 (.t 73) (.t 74)⟩,
    ⟨(some 76), none, .fld 0 (.t 75)⟩,
    ⟨(some 77), none, .load none (.t 76)⟩,
    ⟨(some 78), none, .bsl false T_int_0 1 1 [(.i .i64 0)] [(0, (.t 77))]⟩,
    ⟨(some 79), none, .appk T_int_0 1 (.t 72) (.t 78)⟩,
    ⟨(some 6), none, .asg (.t 79)⟩] none [1, 6, 7, 9]))
 (.region [⟨(some 67), none, .mov (.t 7)⟩,
   ⟨(some 68), none, .mov (.t 9)⟩,
   ⟨(some 69), none, .idx 4 (.t 67) (.t 68)⟩,
   ⟨(some 70), none, .fld 2 (.t 69)⟩,
   ⟨(some 71), none, .load none (.t 70)⟩,
   ⟨(some 9), none, .asg (.t 71)⟩] none [1, 6, 7, 9])))
def ir_roles_graph_circle_L5 : ACode :=
 (.seq (.region [⟨(some 49), none, .bin .lss (.t 48) (.t 47)⟩] none [1, 2, 3, 6, 7, 8, 9, 10, 46, 47, 48, 49])
 (.seq (.cond (.t 49)
  .skip
  (.exit 2))
 (.seq (.block 3
  (.seq (.region [⟨(some 50), none, .idx 2 (.t 46) (.t 48)⟩,
    ⟨(some 51), none, .load (some 2) (.t 50)⟩,
    ⟨(some 12), none, .lalloc [(.i .i64 0), (.b false)]⟩,
    ⟨none, none, .store 2 (.t 12) (.t 51)⟩] none [1, 2, 3, 6, 7, 8, 9, 10, 12, 46, 47, 48])
  (.seq (.region [⟨(some 52), none, .fld 1 (.t 10)⟩,
    ⟨(some 53), none, .load none (.t 52)⟩,
    ⟨(some 54), none, .mov (.t 53)⟩,
    ⟨(some 55), some (54, false), .fld 1 (.t 12)⟩,
    ⟨(some 56), some (54, false), .load none (.t 55)⟩,
    ⟨(some 57), none, .pick (.t 54) (.c (.b true)) (.t 56)⟩,
    ⟨(some 13), none, .asg (.t 57)⟩] none [1, 2, 3, 6, 7, 8, 9, 10, 12, 13, 46, 47, 48])
  (.seq (.seq (.region [⟨(some 58), none, .fld 0 (.t 12)⟩,
    ⟨(some 59), none, .load none (.t 58)⟩,
    ⟨(some 60), none, .mov (.t 1)⟩,
    ⟨(some 61), none, .bin .eql (.t 59) (.t 60)⟩,
    ⟨(some 62), none, .mov (.t 61)⟩,
    ⟨(some 63), some (62, true), .mov (.t 13)⟩,
    ⟨(some 64), none, .pick (.t 62) (.t 63) (.c (.b false))⟩] none [1, 2, 3, 6, 7, 8, 9, 10, 12, 13, 46, 47, 48, 64])
  (.cond (.t 64)
   (.seq (.block 4
    (.loop [1, 6, 7, 9] ir_roles_graph_circle_L6))
   (.seq (.region [⟨(some 80), none, .mov (.t 6)⟩,
     ⟨(some 81), none, .mov (.t 1)⟩,
     ⟨(some 82), none, .bsl false T_int_0 1 1 [(.i .i64 0)] [(0, (.t 81))]⟩,
     ⟨(some 83), none, .appk T_int_0 1 (.t 80) (.t 82)⟩,
     ⟨(some 6), none, .asg (.t 83)⟩] none [6])
   (.seq (.region [⟨(some 84), none, .mov (.t 6)⟩,
     ⟨(some 85), none, .call (.c (.fn (.func F_slices_Reverse_int_int) [] [])) [(.t 84)]⟩] none [6])
   (.exit 0))))
   .skip))
  (.seq (.region [⟨(some 14), none, .asg (.c (.i .i64 0))⟩] none [1, 2, 3, 6, 7, 8, 9, 10, 12, 13, 14, 46, 47, 48])
  (.seq (.seq (.region [⟨(some 86), none, .mov (.t 13)⟩] none [1, 2, 3, 6, 7, 8, 9, 10, 12, 13, 14, 46, 47, 48, 86])
  (.cond (.t 86)
   (.region [⟨(some 14), none, .asg (.c (.i .i64 1))⟩] none [1, 2, 3, 6, 7, 8, 9, 10, 12, 13, 14, 46, 47, 48])
   .skip))
  (.seq (.seq (.region [⟨(some 87), none, .mov (.t 8)⟩,
    ⟨(some 88), none, .fld 0 (.t 12)⟩,
    ⟨(some 89), none, .load none (.t 88)⟩,
    ⟨(some 90), none, .mov (.t 14)⟩,
    ⟨(some 91), none, .idx 2 (.t 87) (.t 89)⟩,
    ⟨(some 92), none, .idxa 2 1 (.t 91) (.t 90)⟩,
    ⟨(some 93), none, .load none (.t 92)⟩] none [1, 2, 3, 6, 7, 8, 9, 10, 12, 13, 14, 46, 47, 48, 93])
  (.cond (.t 93)
   (.exit 3)
   .skip))
  (.seq (.region [⟨(some 94), none, .mov (.t 8)⟩,
    ⟨(some 95), none, .fld 0 (.t 12)⟩,
    ⟨(some 96), none, .load none (.t 95)⟩,
    ⟨(some 97), none, .mov (.t 14)⟩,
    ⟨(some 98), none, .idx 2 (.t 94) (.t 96)⟩,
    ⟨(some 99), none, .idxa 2 1 (.t 98) (.t 97)⟩,
    ⟨none, none, .store 1 (.t 99) (.c (.b true))⟩] none [1, 2, 3, 6, 7, 8, 9, 10, 12, 13, 46, 47, 48])
  (.region [⟨(some 100), none, .mov (.t 7)⟩,
    ⟨(some 101), none, .fld 0 (.t 12)⟩,
    ⟨(some 102), none, .load none (.t 101)⟩,
    ⟨(some 103), none, .mov (.t 13)⟩,
    ⟨(some 104), none, .mov (.t 9)⟩,
    ⟨(some 105), none, .fld 3 (.t 10)⟩,
    ⟨(some 106), none, .load none (.t 105)⟩,
    ⟨(some 107), none, .bin .add (.t 106) (.c (.i .i64 1))⟩,
    ⟨(some 108), none, .build [(.i .i64 0), (.b false), (.i .i64 0), (.i .i64 0)] [(0, 1, (.t 102)), (1, 1, (.t 103)), (2, 1, (.t 104)), (3, 1, (.t 107))]⟩,
    ⟨(some 109), none, .bsl false T_roles_way_0 4 1 [(.i .i64 0), (.b false), (.i .i64 0), (.i .i64 0)] [(0, (.t 108))]⟩,
    ⟨(some 110), none, .appk T_roles_way_0 4 (.t 100) (.t 109)⟩,
    ⟨(some 7), none, .asg (.t 110)⟩] none [1, 2, 3, 6, 7, 8, 9, 10, 46, 47, 48])))))))))
 (.region [⟨(some 111), none, .bin .add (.t 48) (.c (.i .i64 1))⟩,
   ⟨(some 48), none, .mov (.t 111)⟩] none [1, 2, 3, 6, 7, 8, 9, 10, 46, 47, 48]))))
def ir_roles_graph_circle_L4 : ACode :=
 (.seq (.seq (.region [⟨(some 26), none, .mov (.t 9)⟩,
   ⟨(some 27), none, .mov (.t 7)⟩,
   ⟨(some 28), none, .len 0 (.t 27)⟩,
   ⟨(some 29), none, .bin .lss (.t 26) (.t 28)⟩] none [1, 2, 3, 6, 7, 8, 9, 29])
 (.cond (.t 29)
  .skip
  (.exit 0)))
 (.seq (.block 1
  (.seq (.region [⟨(some 32), none, .mov (.t 7)⟩,
    ⟨(some 33), none, .mov (.t 9)⟩,
    ⟨(some 34), none, .idx 4 (.t 32) (.t 33)⟩,
    ⟨(some 35), none, .load (some 4) (.t 34)⟩,
    ⟨(some 10), none, .lalloc [(.i .i64 0), (.b false), (.i .i64 0), (.i .i64 0)]⟩,
    ⟨none, none, .store 4 (.t 10) (.t 35)⟩] none [1, 2, 3, 6, 7, 8, 9, 10])
  (.seq (.seq (.region [⟨(some 36), none, .fld 3 (.t 10)⟩,
    ⟨(some 37), none, .load none (.t 36)⟩,
    ⟨(some 38), none, .bin .add (.t 37) (.c (.i .i64 1))⟩,
    ⟨(some 39), none, .mov (.t 2)⟩,
    ⟨(some 40), none, .bin .geq (.t 38) (.t 39)⟩] none [1, 2, 3, 6, 7, 8, 9, 10, 40])
  (.cond (.t 40)
   (.exit 0)
   .skip))
  (.seq (.region [⟨(some 41), none, .fld 1 (.t 3)⟩,
    ⟨(some 42), none, .load none (.t 41)⟩,
    ⟨(some 43), none, .fld 0 (.t 10)⟩,
    ⟨(some 44), none, .load none (.t 43)⟩,
    ⟨(some 45), none, .idx 1 (.t 42) (.t 44)⟩,
    ⟨(some 46), none, .load none (.t 45)⟩,
    ⟨(some 47), none, .len 0 (.t 46)⟩,
    ⟨(some 48), none, .mov (.c (.i .i64 0))⟩] none [1, 2, 3, 6, 7, 8, 9, 10, 46, 47, 48])
  (.block 2
   (.loop [1, 2, 3, 6, 7, 8, 9, 10, 46, 47, 48] ir_roles_graph_circle_L5))))))
 (.region [⟨(some 30), none, .mov (.t 9)⟩,
   ⟨(some 31), none, .bin .add (.t 30) (.c (.i .i64 1))⟩,
   ⟨(some 9), none, .asg (.t 31)⟩] none [1, 2, 3, 6, 7, 8, 9])))
/-- (veilstone/roles.graph).circle -/
def ir_roles_graph_circle : AFun := ⟨3, [.tmp 6], true, false,
 (.seq (.region [⟨(some 3), none, .lbox (.t 0)⟩,
   ⟨(some 6), none, .asg (.c .ns)⟩] none [1, 2, 3, 6])
 (.scope 0 [1, 2, 3, 6, 7, 8]
  (.seq (.region [⟨(some 15), none, .mov (.t 1)⟩,
    ⟨(some 16), none, .build [(.i .i64 0), (.b false), (.i .i64 0), (.i .i64 0)] [(0, 1, (.t 15))]⟩,
    ⟨(some 17), none, .bsl true T_roles_way_0 4 1 [(.i .i64 0), (.b false), (.i .i64 0), (.i .i64 0)] [(0, (.t 16))]⟩,
    ⟨(some 7), none, .asgk T_roles_way_0 4 (.t 17)⟩] none [1, 2, 3, 6, 7])
  (.seq (.region [⟨(some 18), none, .fld 0 (.t 3)⟩,
    ⟨(some 19), none, .load none (.t 18)⟩,
    ⟨(some 20), none, .len 0 (.t 19)⟩,
    ⟨(some 21), none, .mks T_2_bool_1 2 [(.b false), (.b false)] (.t 20)⟩,
    ⟨(some 8), none, .asg (.t 21)⟩] none [1, 2, 3, 6, 7, 8])
  (.seq (.region [⟨(some 22), none, .mov (.t 8)⟩,
    ⟨(some 23), none, .mov (.t 1)⟩,
    ⟨(some 24), none, .idx 2 (.t 22) (.t 23)⟩,
    ⟨(some 25), none, .idxa 2 1 (.t 24) (.c (.i .i64 0))⟩,
    ⟨none, none, .store 1 (.t 25) (.c (.b true))⟩] none [1, 2, 3, 6, 7, 8])
  (.seq (.label 0)
  (.seq (.seq (.region [⟨(some 9), none, .asg (.c (.i .i64 0))⟩] none [1, 2, 3, 6, 7, 8, 9])
  (.block 0
   (.loop [1, 2, 3, 6, 7, 8, 9] ir_roles_graph_circle_L4)))
  (.seq (.region [⟨(some 112), none, .mov (.t 6)⟩,
    ⟨(some 6), none, .asg (.t 112)⟩] none [6])
  .ret))))))
  ir_roles_graph_circle_L0))⟩

def ir_slices_Reverse_int_int_L0 : ACode :=
 (.seq (.seq (.region [⟨(some 7), none, .mov (.t 2)⟩,
   ⟨(some 8), none, .mov (.t 3)⟩,
   ⟨(some 9), none, .bin .lss (.t 7) (.t 8)⟩] none [0, 2, 3, 9])
 (.cond (.t 9)
  .skip
  (.exit 0)))
 (.seq (.block 1
  (.region [⟨(some 14), none, .mov (.t 0)⟩,
    ⟨(some 15), none, .mov (.t 2)⟩,
    ⟨(some 16), none, .mov (.t 0)⟩,
    ⟨(some 17), none, .mov (.t 3)⟩,
    ⟨(some 18), none, .mov (.t 0)⟩,
    ⟨(some 19), none, .mov (.t 3)⟩,
    ⟨(some 20), none, .idx 1 (.t 18) (.t 19)⟩,
    ⟨(some 21), none, .load none (.t 20)⟩,
    ⟨(some 22), none, .mov (.t 0)⟩,
    ⟨(some 23), none, .mov (.t 2)⟩,
    ⟨(some 24), none, .idx 1 (.t 22) (.t 23)⟩,
    ⟨(some 25), none, .load none (.t 24)⟩,
    ⟨(some 26), none, .idx 1 (.t 14) (.t 15)⟩,
    ⟨none, none, .storep 1 (.t 26) (.t 21)⟩,
    ⟨(some 27), none, .idx 1 (.t 16) (.t 17)⟩,
    ⟨none, none, .storep 1 (.t 27) (.t 25)⟩] (some ([0, 1, 4, 5, 6, 7, 8, 9, 10, 11, 12, 13, 2, 3, 14, 15], [])) [0, 2, 3]))
 (.region [⟨(some 10), none, .mov (.t 2)⟩,
   ⟨(some 11), none, .bin .add (.t 10) (.c (.i .i64 1))⟩,
   ⟨(some 12), none, .mov (.t 3)⟩,
   ⟨(some 13), none, .bin .sub (.t 12) (.c (.i .i64 1))⟩,
   ⟨(some 2), none, .asg (.t 11)⟩,
   ⟨(some 3), none, .asg (.t 13)⟩] none [0, 2, 3])))
/-- slices.Reverse[[]int,int] -/
def ir_slices_Reverse_int_int : AFun := ⟨1, [], false, false,
 (.seq (.region [⟨(some 4), none, .mov (.t 0)⟩,
   ⟨(some 5), none, .len 0 (.t 4)⟩,
   ⟨(some 6), none, .bin .sub (.t 5) (.c (.i .i64 1))⟩,
   ⟨(some 2), none, .asg (.c (.i .i64 0))⟩,
   ⟨(some 3), none, .asg (.t 6)⟩] none [0, 2, 3])
 (.block 0
  (.loop [0, 2, 3] ir_slices_Reverse_int_int_L0)))⟩

def ir_ref06_Same_L0 : ACode :=
 (.seq (.seq (.region [⟨(some 11), none, .mov (.t 5)⟩,
   ⟨(some 12), none, .mov (.t 0)⟩,
   ⟨(some 13), none, .len 0 (.t 12)⟩,
   ⟨(some 14), none, .bin .lss (.t 11) (.t 13)⟩] none [0, 1, 5, 14])
 (.cond (.t 14)
  .skip
  (.exit 0)))
 (.seq (.block 1
  (.seq (.region [⟨(some 17), none, .mov (.t 0)⟩,
    ⟨(some 18), none, .mov (.t 5)⟩,
    ⟨(some 19), none, .idx 1 (.t 17) (.t 18)⟩,
    ⟨(some 20), none, .load none (.t 19)⟩,
    ⟨(some 21), none, .mov (.t 1)⟩,
    ⟨(some 22), none, .mov (.t 5)⟩,
    ⟨(some 23), none, .idx 1 (.t 21) (.t 22)⟩,
    ⟨(some 24), none, .load none (.t 23)⟩,
    ⟨(some 25), none, .bin .neq (.t 20) (.t 24)⟩] (some ([0, 1, 2, 3, 4, 5, 6, 7, 8], [])) [0, 1, 5, 25])
  (.cond (.t 25)
   (.seq (.region [⟨(some 4), none, .asg (.c (.b false))⟩] none [4])
   .ret)
   .skip)))
 (.region [⟨(some 15), none, .mov (.t 5)⟩,
   ⟨(some 16), none, .bin .add (.t 15) (.c (.i .i64 1))⟩,
   ⟨(some 5), none, .asg (.t 16)⟩] none [0, 1, 5])))
/-- veilstone/veilstoneref06.Same -/
def ir_ref06_Same : AFun := ⟨2, [.tmp 4], true, false,
 (.seq (.region [⟨(some 4), none, .asg (.c (.b false))⟩] none [0, 1])
 (.seq (.seq (.region [⟨(some 6), none, .mov (.t 0)⟩,
   ⟨(some 7), none, .len 0 (.t 6)⟩,
   ⟨(some 8), none, .mov (.t 1)⟩,
   ⟨(some 9), none, .len 0 (.t 8)⟩,
   ⟨(some 10), none, .bin .neq (.t 7) (.t 9)⟩] none [0, 1, 10])
 (.cond (.t 10)
  (.seq (.region [⟨(some 4), none, .asg (.c (.b false))⟩] none [4])
  .ret)
  .skip))
 (.seq (.seq (.region [⟨(some 5), none, .asg (.c (.i .i64 0))⟩] none [0, 1, 5])
 (.block 0
  (.loop [0, 1, 5] ir_ref06_Same_L0)))
 (.seq (.region [⟨(some 4), none, .asg (.c (.b true))⟩] none [4])
 .ret))))⟩

def ir_roles_Above_L0 : ACode :=
 (.seq (.region [⟨(some 21), none, .bin .lss (.t 20) (.t 19)⟩] none [1, 7, 18, 19, 20, 21])
 (.seq (.cond (.t 21)
  .skip
  (.exit 0))
 (.seq (.block 1
  (.seq (.region [⟨(some 22), none, .idx 16 (.t 18) (.t 20)⟩,
    ⟨(some 23), none, .load (some 16) (.t 22)⟩,
    ⟨(some 9), none, .lalloc [(.i .i64 0), (.b false), (.i .i64 0), (.s []), (.i .i64 0), (.i .i64 0), .ns, (.i .i64 0), (.s []), (.i .i64 0), (.i .i64 0), .ns, .ns, (.s []), (.s []), (.s [])]⟩,
    ⟨none, none, .store 16 (.t 9) (.t 23)⟩] none [1, 7, 9, 18, 19, 20])
  (.seq (.region [⟨(some 24), none, .fld 0 (.t 9)⟩,
    ⟨(some 25), none, .load none (.t 24)⟩,
    ⟨(some 26), none, .bin .eql (.t 25) (.c (.i .i64 5))⟩] none [1, 7, 9, 18, 19, 20, 26])
  (.cond (.t 26)
   (.region [⟨(some 27), none, .mov (.t 7)⟩,
     ⟨(some 28), none, .fld 12 (.t 9)⟩,
     ⟨(some 29), none, .load none (.t 28)⟩,
     ⟨(some 30), none, .idx 1 (.t 29) (.c (.i .i64 0))⟩,
     ⟨(some 31), none, .load none (.t 30)⟩,
     ⟨(some 32), none, .mov (.t 7)⟩,
     ⟨(some 33), none, .fld 12 (.t 9)⟩,
     ⟨(some 34), none, .load none (.t 33)⟩,
     ⟨(some 35), none, .idx 1 (.t 34) (.c (.i .i64 0))⟩,
     ⟨(some 36), none, .load none (.t 35)⟩,
     ⟨(some 37), none, .look 1 .ns false (.t 32) (.t 36)⟩,
     ⟨(some 38), none, .fld 13 (.t 9)⟩,
     ⟨(some 39), none, .load none (.t 38)⟩,
     ⟨(some 40), none, .bsl false T_string_0 1 1 [(.s [])] [(0, (.t 39))]⟩,
     ⟨(some 41), none, .apprp 41 T_string_0 1 (.t 37) (.t 40)⟩,
     ⟨none, none, .hins 1 (.t 27) (.t 31) (.t 41)⟩] (some ([5, 6, 7, 8, 9, 10, 11, 12, 13, 14, 0, 1, 2, 3, 4, 15], [])) [1, 7, 18, 19, 20])
   .skip))))
 (.region [⟨(some 42), none, .bin .add (.t 20) (.c (.i .i64 1))⟩,
   ⟨(some 20), none, .mov (.t 42)⟩] none [1, 7, 18, 19, 20]))))
/-- veilstone/roles.Above -/
def ir_roles_Above : AFun := ⟨2, [.tmp 4, .tmp 5], true, false,
 (.seq (.region [⟨(some 4), none, .asg (.c .ns)⟩,
   ⟨(some 5), none, .asg (.c (.i .i64 0))⟩] none [0, 1])
 (.seq (.seq (.region [⟨(some 10), none, .mov (.t 0)⟩,
   ⟨(some 11), none, .mov (.t 1)⟩,
   ⟨(some 12), none, .bsl false T_string_0 1 1 [(.s [])] [(0, (.t 11))]⟩,
   ⟨(some 13), none, .call (.c (.fn (.func F_roles_checkAll) [] [])) [(.t 10), (.t 12)]⟩,
   ⟨(some 6), none, .asg (.t 13)⟩] none [0, 1, 6])
 (.seq (.region [⟨(some 14), none, .mov (.t 6)⟩,
   ⟨(some 15), none, .bin .neq (.t 14) (.c (.i .i64 0))⟩] none [0, 1, 6, 15])
 (.cond (.t 15)
  (.seq (.region [⟨(some 16), none, .mov (.t 6)⟩,
    ⟨(some 4), none, .asg (.c .ns)⟩,
    ⟨(some 5), none, .asg (.t 16)⟩] none [4, 5])
  .ret)
  .skip)))
 (.seq (.region [⟨(some 17), none, .hmap⟩,
   ⟨(some 7), none, .asg (.t 17)⟩] none [0, 1, 7])
 (.seq (.seq (.region [⟨(some 18), none, .mov (.t 0)⟩,
   ⟨(some 19), none, .len 0 (.t 18)⟩,
   ⟨(some 20), none, .mov (.c (.i .i64 0))⟩] none [1, 7, 18, 19, 20])
 (.block 0
  (.loop [1, 7, 18, 19, 20] ir_roles_Above_L0)))
 (.seq (.region [⟨(some 43), none, .mov (.t 1)⟩,
   ⟨(some 44), none, .mov (.t 7)⟩,
   ⟨(some 45), none, .call (.c (.fn (.func F_roles_closure) [] [])) [(.t 43), (.t 44)]⟩,
   ⟨(some 46), none, .call (.c (.fn (.func F_maps_Keys_map_string_bool_string_bool) [] [])) [(.t 45)]⟩,
   ⟨(some 47), none, .call (.c (.fn (.func F_slices_Sorted_string) [] [])) [(.t 46)]⟩,
   ⟨(some 4), none, .asg (.t 47)⟩,
   ⟨(some 5), none, .asg (.c (.i .i64 0))⟩] none [4, 5])
 .ret)))))⟩

def ir_roles_checkAll_L0 : ACode :=
 (.seq (.region [⟨(some 17), none, .bin .lss (.t 16) (.t 15)⟩] none [14, 15, 16, 17])
 (.seq (.cond (.t 17)
  .skip
  (.exit 0))
 (.seq (.block 1
  (.seq (.region [⟨(some 18), none, .idx 1 (.t 14) (.t 16)⟩,
    ⟨(some 19), none, .load none (.t 18)⟩,
    ⟨(some 7), none, .asg (.t 19)⟩] none [7, 14, 15, 16])
  (.seq (.region [⟨(some 20), none, .mov (.t 7)⟩,
    ⟨(some 21), none, .call (.c (.fn (.func F_terms_CheckName) [] [])) [(.t 20)]⟩,
    ⟨(some 8), none, .asg (.t 21)⟩] none [8, 14, 15, 16])
  (.seq (.region [⟨(some 22), none, .mov (.t 8)⟩,
    ⟨(some 23), none, .bin .neq (.t 22) (.c (.i .i64 0))⟩] none [14, 15, 16, 23])
  (.cond (.t 23)
   (.seq (.region [⟨(some 4), none, .asg (.c (.i .i64 20))⟩] none [4])
   .ret)
   .skip)))))
 (.region [⟨(some 24), none, .bin .add (.t 16) (.c (.i .i64 1))⟩,
   ⟨(some 16), none, .mov (.t 24)⟩] none [14, 15, 16]))))
/-- veilstone/roles.checkAll -/
def ir_roles_checkAll : AFun := ⟨2, [.tmp 4], true, false,
 (.seq (.region [⟨(some 4), none, .asg (.c (.i .i64 0))⟩] none [0, 1])
 (.seq (.seq (.region [⟨(some 9), none, .mov (.t 0)⟩,
   ⟨(some 10), none, .call (.c (.fn (.func F_roles_check) [] [])) [(.t 9)]⟩,
   ⟨(some 5), none, .asg (.t 10)⟩] none [1, 5])
 (.seq (.region [⟨(some 11), none, .mov (.t 5)⟩,
   ⟨(some 12), none, .bin .neq (.t 11) (.c (.i .i64 0))⟩] none [1, 5, 12])
 (.cond (.t 12)
  (.seq (.region [⟨(some 13), none, .mov (.t 5)⟩,
    ⟨(some 4), none, .asg (.t 13)⟩] none [4])
  .ret)
  .skip)))
 (.seq (.seq (.region [⟨(some 14), none, .mov (.t 1)⟩,
   ⟨(some 15), none, .len 0 (.t 14)⟩,
   ⟨(some 16), none, .mov (.c (.i .i64 0))⟩] none [14, 15, 16])
 (.block 0
  (.loop [14, 15, 16] ir_roles_checkAll_L0)))
 (.seq (.region [⟨(some 4), none, .asg (.c (.i .i64 0))⟩] none [4])
 .ret))))⟩

def ir_roles_closure_L1 : ACode :=
 (.seq (.region [⟨(some 28), none, .bin .lss (.t 27) (.t 26)⟩] none [1, 5, 6, 25, 26, 27, 28])
 (.seq (.cond (.t 28)
  .skip
  (.exit 2))
 (.seq (.block 3
  (.seq (.region [⟨(some 29), none, .idx 1 (.t 25) (.t 27)⟩,
    ⟨(some 30), none, .load none (.t 29)⟩,
    ⟨(some 9), none, .asg (.t 30)⟩] none [1, 5, 6, 9, 25, 26, 27])
  (.seq (.region [⟨(some 31), none, .mov (.t 5)⟩,
    ⟨(some 32), none, .mov (.t 9)⟩,
    ⟨(some 33), none, .look 1 (.b false) false (.t 31) (.t 32)⟩,
    ⟨(some 34), none, .un .not (.t 33)⟩] none [1, 5, 6, 9, 25, 26, 27, 34])
  (.cond (.t 34)
   (.seq (.region [⟨(some 35), none, .mov (.t 5)⟩,
     ⟨(some 36), none, .mov (.t 9)⟩,
     ⟨none, none, .hins 1 (.t 35) (.t 36) (.c (.b true))⟩] none [1, 5, 6, 9, 25, 26, 27])
   (.region [⟨(some 37), none, .mov (.t 6)⟩,
     ⟨(some 38), none, .mov (.t 9)⟩,
     ⟨(some 39), none, .bsl false T_string_0 1 1 [(.s [])] [(0, (.t 38))]⟩,
     ⟨(some 40), none, .appk T_string_0 1 (.t 37) (.t 39)⟩,
     ⟨(some 6), none, .asg (.t 40)⟩] none [1, 5, 6, 25, 26, 27]))
   .skip))))
 (.region [⟨(some 41), none, .bin .add (.t 27) (.c (.i .i64 1))⟩,
   ⟨(some 27), none, .mov (.t 41)⟩] none [1, 5, 6, 25, 26, 27]))))
def ir_roles_closure_L0 : ACode :=
 (.seq (.seq (.region [⟨(some 15), none, .mov (.t 6)⟩,
   ⟨(some 16), none, .len 0 (.t 15)⟩,
   ⟨(some 17), none, .bin .gtr (.t 16) (.c (.i .i64 0))⟩] none [1, 5, 6, 17])
 (.cond (.t 17)
  .skip
  (.exit 0)))
 (.block 1
  (.seq (.region [⟨(some 18), none, .mov (.t 6)⟩,
    ⟨(some 19), none, .idx 1 (.t 18) (.c (.i .i64 0))⟩,
    ⟨(some 20), none, .load none (.t 19)⟩,
    ⟨(some 7), none, .asg (.t 20)⟩] none [1, 5, 6, 7])
  (.seq (.region [⟨(some 21), none, .mov (.t 6)⟩,
    ⟨(some 22), none, .slc 1 (.t 21) (some (.c (.i .i64 1))) none⟩,
    ⟨(some 6), none, .asg (.t 22)⟩] none [1, 5, 6, 7])
  (.seq (.region [⟨(some 23), none, .mov (.t 1)⟩,
    ⟨(some 24), none, .mov (.t 7)⟩,
    ⟨(some 25), none, .look 1 .ns false (.t 23) (.t 24)⟩,
    ⟨(some 26), none, .len 0 (.t 25)⟩,
    ⟨(some 27), none, .mov (.c (.i .i64 0))⟩] none [1, 5, 6, 25, 26, 27])
  (.block 2
   (.loop [1, 5, 6, 25, 26, 27] ir_roles_closure_L1)))))))
/-- veilstone/roles.closure -/
def ir_roles_closure : AFun := ⟨2, [.tmp 4], true, false,
 (.seq (.region [⟨(some 4), none, .asg (.c .nm)⟩] none [0, 1])
 (.seq (.region [⟨(some 10), none, .hmap⟩,
   ⟨(some 11), none, .mov (.t 0)⟩,
   ⟨none, none, .hins 1 (.t 10) (.t 11) (.c (.b true))⟩,
   ⟨(some 12), none, .mov (.t 10)⟩,
   ⟨(some 5), none, .asg (.t 12)⟩] none [0, 1, 5])
 (.seq (.seq (.region [⟨(some 13), none, .mov (.t 0)⟩,
   ⟨(some 14), none, .bsl true T_string_0 1 1 [(.s [])] [(0, (.t 13))]⟩,
   ⟨(some 6), none, .asgk T_string_0 1 (.t 14)⟩] none [1, 5, 6])
 (.block 0
  (.loop [1, 5, 6] ir_roles_closure_L0)))
 (.seq (.region [⟨(some 42), none, .mov (.t 5)⟩,
   ⟨(some 4), none, .asg (.t 42)⟩] none [4])
 .ret))))⟩

def ir_roles_Simple_L0 : ACode :=
 (.seq (.region [⟨(some 24), none, .bin .lss (.t 23) (.t 22)⟩] none [0, 1, 7, 21, 22, 23, 24])
 (.seq (.cond (.t 24)
  .skip
  (.exit 0))
 (.seq (.block 1
  (.seq (.region [⟨(some 25), none, .idx 16 (.t 21) (.t 23)⟩,
    ⟨(some 26), none, .load (some 16) (.t 25)⟩,
    ⟨(some 9), none, .lalloc [(.i .i64 0), (.b false), (.i .i64 0), (.s []), (.i .i64 0), (.i .i64 0), .ns, (.i .i64 0), (.s []), (.i .i64 0), (.i .i64 0), .ns, .ns, (.s []), (.s []), (.s [])]⟩,
    ⟨none, none, .store 16 (.t 9) (.t 26)⟩] none [0, 1, 7, 9, 21, 22, 23])
  (.seq (.region [⟨(some 27), none, .fld 0 (.t 9)⟩,
    ⟨(some 28), none, .load none (.t 27)⟩,
    ⟨(some 29), none, .bin .eql (.t 28) (.c (.i .i64 5))⟩] none [0, 1, 7, 9, 21, 22, 23, 29])
  (.cond (.t 29)
   (.region [⟨(some 30), none, .mov (.t 7)⟩,
     ⟨(some 31), none, .fld 13 (.t 9)⟩,
     ⟨(some 32), none, .load none (.t 31)⟩,
     ⟨(some 33), none, .mov (.t 7)⟩,
     ⟨(some 34), none, .fld 13 (.t 9)⟩,
     ⟨(some 35), none, .load none (.t 34)⟩,
     ⟨(some 36), none, .look 1 .ns false (.t 33) (.t 35)⟩,
     ⟨(some 37), none, .fld 12 (.t 9)⟩,
     ⟨(some 38), none, .load none (.t 37)⟩,
     ⟨(some 39), none, .idx 1 (.t 38) (.c (.i .i64 0))⟩,
     ⟨(some 40), none, .load none (.t 39)⟩,
     ⟨(some 41), none, .bsl false T_string_0 1 1 [(.s [])] [(0, (.t 40))]⟩,
     ⟨(some 42), none, .apprp 42 T_string_0 1 (.t 36) (.t 41)⟩,
     ⟨none, none, .hins 1 (.t 30) (.t 32) (.t 42)⟩] (some ([3, 4, 5, 6, 7, 8, 9, 10, 11, 12, 0, 1, 2, 13], [])) [0, 1, 7, 21, 22, 23])
   .skip))))
 (.region [⟨(some 43), none, .bin .add (.t 23) (.c (.i .i64 1))⟩,
   ⟨(some 23), none, .mov (.t 43)⟩] none [0, 1, 7, 21, 22, 23]))))
def ir_roles_Simple_L1 : ACode :=
 (.seq (.region [⟨(some 50), none, .bin .lss (.t 49) (.t 48)⟩] none [10, 47, 48, 49, 50])
 (.seq (.cond (.t 50)
  .skip
  (.exit 2))
 (.seq (.block 3
  (.seq (.region [⟨(some 51), none, .idx 16 (.t 47) (.t 49)⟩,
    ⟨(some 52), none, .load (some 16) (.t 51)⟩,
    ⟨(some 12), none, .lalloc [(.i .i64 0), (.b false), (.i .i64 0), (.s []), (.i .i64 0), (.i .i64 0), .ns, (.i .i64 0), (.s []), (.i .i64 0), (.i .i64 0), .ns, .ns, (.s []), (.s []), (.s [])]⟩,
    ⟨none, none, .store 16 (.t 12) (.t 52)⟩] none [10, 12, 47, 48, 49])
  (.seq (.region [⟨(some 53), none, .fld 0 (.t 12)⟩,
    ⟨(some 54), none, .load none (.t 53)⟩,
    ⟨(some 55), none, .bin .eql (.t 54) (.c (.i .i64 7))⟩,
    ⟨(some 56), none, .mov (.t 55)⟩,
    ⟨(some 57), some (56, false), .fld 0 (.t 12)⟩,
    ⟨(some 58), some (56, false), .load none (.t 57)⟩,
    ⟨(some 59), some (56, false), .bin .eql (.t 58) (.c (.i .i64 6))⟩,
    ⟨(some 60), none, .pick (.t 56) (.c (.b true)) (.t 59)⟩,
    ⟨(some 61), none, .mov (.t 60)⟩,
    ⟨(some 62), some (61, true), .mov (.t 10)⟩,
    ⟨(some 63), some (61, true), .fld 13 (.t 12)⟩,
    ⟨(some 64), some (61, true), .load none (.t 63)⟩,
    ⟨(some 65), some (61, true), .look 1 (.b false) false (.t 62) (.t 64)⟩,
    ⟨(some 66), none, .pick (.t 61) (.t 65) (.c (.b false))⟩] none [10, 47, 48, 49, 66])
  (.cond (.t 66)
   (.seq (.region [⟨(some 4), none, .asg (.c (.b false))⟩,
     ⟨(some 5), none, .asg (.c (.i .i64 0))⟩] none [4, 5])
   .ret)
   .skip))))
 (.region [⟨(some 67), none, .bin .add (.t 49) (.c (.i .i64 1))⟩,
   ⟨(some 49), none, .mov (.t 67)⟩] none [10, 47, 48, 49]))))
/-- veilstone/roles.Simple -/
def ir_roles_Simple : AFun := ⟨2, [.tmp 4, .tmp 5], true, false,
 (.seq (.region [⟨(some 4), none, .asg (.c (.b false))⟩,
   ⟨(some 5), none, .asg (.c (.i .i64 0))⟩] none [0, 1])
 (.seq (.seq (.region [⟨(some 13), none, .mov (.t 0)⟩,
   ⟨(some 14), none, .mov (.t 1)⟩,
   ⟨(some 15), none, .bsl false T_string_0 1 1 [(.s [])] [(0, (.t 14))]⟩,
   ⟨(some 16), none, .call (.c (.fn (.func F_roles_checkAll) [] [])) [(.t 13), (.t 15)]⟩,
   ⟨(some 6), none, .asg (.t 16)⟩] none [0, 1, 6])
 (.seq (.region [⟨(some 17), none, .mov (.t 6)⟩,
   ⟨(some 18), none, .bin .neq (.t 17) (.c (.i .i64 0))⟩] none [0, 1, 6, 18])
 (.cond (.t 18)
  (.seq (.region [⟨(some 19), none, .mov (.t 6)⟩,
    ⟨(some 4), none, .asg (.c (.b false))⟩,
    ⟨(some 5), none, .asg (.t 19)⟩] none [4, 5])
  .ret)
  .skip)))
 (.seq (.region [⟨(some 20), none, .hmap⟩,
   ⟨(some 7), none, .asg (.t 20)⟩] none [0, 1, 7])
 (.seq (.seq (.region [⟨(some 21), none, .mov (.t 0)⟩,
   ⟨(some 22), none, .len 0 (.t 21)⟩,
   ⟨(some 23), none, .mov (.c (.i .i64 0))⟩] none [0, 1, 7, 21, 22, 23])
 (.block 0
  (.loop [0, 1, 7, 21, 22, 23] ir_roles_Simple_L0)))
 (.seq (.region [⟨(some 44), none, .mov (.t 1)⟩,
   ⟨(some 45), none, .mov (.t 7)⟩,
   ⟨(some 46), none, .call (.c (.fn (.func F_roles_closure) [] [])) [(.t 44), (.t 45)]⟩,
   ⟨(some 10), none, .asg (.t 46)⟩] none [0, 10])
 (.seq (.seq (.region [⟨(some 47), none, .mov (.t 0)⟩,
   ⟨(some 48), none, .len 0 (.t 47)⟩,
   ⟨(some 49), none, .mov (.c (.i .i64 0))⟩] none [10, 47, 48, 49])
 (.block 2
  (.loop [10, 47, 48, 49] ir_roles_Simple_L1)))
 (.seq (.region [⟨(some 4), none, .asg (.c (.b true))⟩,
   ⟨(some 5), none, .asg (.c (.i .i64 0))⟩] none [4, 5])
 .ret)))))))⟩

/-- veilstone/roles.Word -/
def ir_roles_Word : AFun := ⟨3, [.tmp 6, .tmp 7], true, false,
 (.seq (.region [⟨(some 6), none, .asg (.c (.b false))⟩,
   ⟨(some 7), none, .asg (.c (.i .i64 0))⟩] none [0, 1, 2])
 (.seq (.seq (.region [⟨(some 10), none, .mov (.t 0)⟩,
   ⟨(some 11), none, .mov (.t 2)⟩,
   ⟨(some 12), none, .bsl true T_string_0 1 1 [(.s [])] [(0, (.t 11))]⟩,
   ⟨(some 13), none, .mov (.t 1)⟩,
   ⟨(some 14), none, .app T_string_0 1 (.t 12) (.t 13)⟩,
   ⟨(some 15), none, .call (.c (.fn (.func F_roles_checkAll) [] [])) [(.t 10), (.t 14)]⟩,
   ⟨(some 8), none, .asg (.t 15)⟩] none [0, 1, 2, 8])
 (.seq (.region [⟨(some 16), none, .mov (.t 8)⟩,
   ⟨(some 17), none, .bin .neq (.t 16) (.c (.i .i64 0))⟩] none [0, 1, 2, 8, 17])
 (.cond (.t 17)
  (.seq (.region [⟨(some 18), none, .mov (.t 8)⟩,
    ⟨(some 6), none, .asg (.c (.b false))⟩,
    ⟨(some 7), none, .asg (.t 18)⟩] none [6, 7])
  .ret)
  .skip)))
 (.seq (.seq (.region [⟨(some 19), none, .mov (.t 1)⟩,
   ⟨(some 20), none, .len 0 (.t 19)⟩,
   ⟨(some 21), none, .bin .gtr (.t 20) (.c (.i .i64 64))⟩] none [0, 1, 2, 21])
 (.cond (.t 21)
  (.seq (.region [⟨(some 6), none, .asg (.c (.b false))⟩,
    ⟨(some 7), none, .asg (.c (.i .i64 2))⟩] none [6, 7])
  .ret)
  .skip))
 (.seq (.region [⟨(some 22), none, .mov (.t 0)⟩,
   ⟨(some 23), none, .mov (.t 1)⟩,
   ⟨(some 24), none, .call (.c (.fn (.func F_roles_recognize) [] [])) [(.t 22), (.t 23)]⟩,
   ⟨(some 25), none, .mov (.t 2)⟩,
   ⟨(some 26), none, .look 1 .np false (.t 24) (.t 25)⟩,
   ⟨(some 9), none, .asg (.t 26)⟩] none [1, 9])
 (.seq (.region [⟨(some 27), none, .mov (.t 9)⟩,
   ⟨(some 28), none, .nileq true 3 (.t 27)⟩,
   ⟨(some 29), none, .mov (.t 28)⟩,
   ⟨(some 30), some (29, true), .mov (.t 9)⟩,
   ⟨(some 31), some (29, true), .mov (.t 1)⟩,
   ⟨(some 32), some (29, true), .len 0 (.t 31)⟩,
   ⟨(some 33), some (29, true), .nilchk (.t 30)⟩,
   ⟨(some 34), some (29, true), .idxa 65 65 (.t 33) (.c (.i .i64 0))⟩,
   ⟨(some 35), some (29, true), .idxa 65 1 (.t 34) (.t 32)⟩,
   ⟨(some 36), some (29, true), .load none (.t 35)⟩,
   ⟨(some 37), none, .pick (.t 29) (.t 36) (.c (.b false))⟩,
   ⟨(some 6), none, .asg (.t 37)⟩,
   ⟨(some 7), none, .asg (.c (.i .i64 0))⟩] none [6, 7])
 .ret)))))⟩

def ir_roles_recognize_L0 : ACode :=
 (.seq (.region [⟨(some 35), none, .bin .lss (.t 34) (.t 33)⟩] none [5, 6, 7, 8, 9, 32, 33, 34, 35])
 (.seq (.cond (.t 35)
  .skip
  (.exit 0))
 (.seq (.block 1
  (.seq (.region [⟨(some 36), none, .mov (.t 34)⟩,
    ⟨(some 37), none, .idx 1 (.t 32) (.t 34)⟩,
    ⟨(some 38), none, .load none (.t 37)⟩,
    ⟨(some 10), none, .asg (.t 36)⟩,
    ⟨(some 11), none, .asg (.t 38)⟩] none [5, 6, 7, 8, 9, 10, 11, 32, 33, 34])
  (.region [⟨(some 39), none, .mov (.t 8)⟩,
    ⟨(some 40), none, .mov (.t 11)⟩,
    ⟨(some 41), none, .mov (.t 10)⟩,
    ⟨(some 42), none, .mov (.t 10)⟩,
    ⟨(some 43), none, .bin .add (.t 42) (.c (.i .i64 1))⟩,
    ⟨(some 44), none, .call (.t 39) [(.t 40), (.t 41), (.t 43)]⟩] none [5, 6, 7, 8, 9, 32, 33, 34])))
 (.region [⟨(some 45), none, .bin .add (.t 34) (.c (.i .i64 1))⟩,
   ⟨(some 34), none, .mov (.t 45)⟩] none [5, 6, 7, 8, 9, 32, 33, 34]))))
def ir_roles_recognize_L2 : ACode :=
 (.seq (.seq (.region [⟨(some 53), none, .mov (.t 14)⟩,
   ⟨(some 54), none, .mov (.t 9)⟩,
   ⟨(some 55), none, .bin .leq (.t 53) (.t 54)⟩] none [5, 6, 7, 8, 9, 13, 14, 47, 48, 49, 55])
 (.cond (.t 55)
  .skip
  (.exit 4)))
 (.seq (.block 5
  (.region [⟨(some 58), none, .mov (.t 8)⟩,
    ⟨(some 59), none, .mov (.t 13)⟩,
    ⟨(some 60), none, .mov (.t 14)⟩,
    ⟨(some 61), none, .mov (.t 14)⟩,
    ⟨(some 62), none, .call (.t 58) [(.t 59), (.t 60), (.t 61)]⟩] none [5, 6, 7, 8, 9, 13, 14, 47, 48, 49]))
 (.region [⟨(some 56), none, .mov (.t 14)⟩,
   ⟨(some 57), none, .bin .add (.t 56) (.c (.i .i64 1))⟩,
   ⟨(some 14), none, .asg (.t 57)⟩] none [5, 6, 7, 8, 9, 13, 14, 47, 48, 49])))
def ir_roles_recognize_L1 : ACode :=
 (.seq (.region [⟨(some 50), none, .bin .lss (.t 49) (.t 48)⟩] none [5, 6, 7, 8, 9, 47, 48, 49, 50])
 (.seq (.cond (.t 50)
  .skip
  (.exit 2))
 (.seq (.block 3
  (.seq (.region [⟨(some 51), none, .idx 1 (.t 47) (.t 49)⟩,
    ⟨(some 52), none, .load none (.t 51)⟩,
    ⟨(some 13), none, .asg (.t 52)⟩] none [5, 6, 7, 8, 9, 13, 47, 48, 49])
  (.seq (.region [⟨(some 14), none, .asg (.c (.i .i64 0))⟩] none [5, 6, 7, 8, 9, 13, 14, 47, 48, 49])
  (.block 4
   (.loop [5, 6, 7, 8, 9, 13, 14, 47, 48, 49] ir_roles_recognize_L2)))))
 (.region [⟨(some 63), none, .bin .add (.t 49) (.c (.i .i64 1))⟩,
   ⟨(some 49), none, .mov (.t 63)⟩] none [5, 6, 7, 8, 9, 47, 48, 49]))))
def ir_roles_recognize_L4 : ACode :=
 (.seq (.region [⟨(some 85), none, .bin .lss (.t 84) (.t 83)⟩] none [5, 6, 7, 8, 9, 15, 82, 83, 84, 85])
 (.seq (.cond (.t 85)
  .skip
  (.exit 8))
 (.seq (.block 9
  (.seq (.region [⟨(some 86), none, .idx 1 (.t 82) (.t 84)⟩,
    ⟨(some 87), none, .load none (.t 86)⟩,
    ⟨(some 17), none, .asg (.t 87)⟩] none [5, 6, 7, 8, 9, 15, 17, 82, 83, 84])
  (.region [⟨(some 88), none, .mov (.t 8)⟩,
    ⟨(some 89), none, .mov (.t 17)⟩,
    ⟨(some 90), none, .fld 1 (.t 15)⟩,
    ⟨(some 91), none, .load none (.t 90)⟩,
    ⟨(some 92), none, .fld 2 (.t 15)⟩,
    ⟨(some 93), none, .load none (.t 92)⟩,
    ⟨(some 94), none, .call (.t 88) [(.t 89), (.t 91), (.t 93)]⟩] none [5, 6, 7, 8, 9, 15, 82, 83, 84])))
 (.region [⟨(some 95), none, .bin .add (.t 84) (.c (.i .i64 1))⟩,
   ⟨(some 84), none, .mov (.t 95)⟩] none [5, 6, 7, 8, 9, 15, 82, 83, 84]))))
def ir_roles_recognize_L6 : ACode :=
 (.seq (.seq (.region [⟨(some 114), none, .mov (.t 21)⟩,
   ⟨(some 115), none, .mov (.t 9)⟩,
   ⟨(some 116), none, .bin .leq (.t 114) (.t 115)⟩] none [5, 6, 7, 8, 9, 15, 19, 20, 21, 100, 101, 102, 116])
 (.cond (.t 116)
  .skip
  (.exit 12)))
 (.seq (.block 13
  (.seq (.region [⟨(some 119), none, .mov (.t 20)⟩,
    ⟨(some 120), none, .fld 2 (.t 15)⟩,
    ⟨(some 121), none, .load none (.t 120)⟩,
    ⟨(some 122), none, .mov (.t 21)⟩,
    ⟨(some 123), none, .nilchk (.t 119)⟩,
    ⟨(some 124), none, .idxa 65 65 (.t 123) (.t 121)⟩,
    ⟨(some 125), none, .idxa 65 1 (.t 124) (.t 122)⟩,
    ⟨(some 126), none, .load none (.t 125)⟩] (some ([0, 1, 2, 3, 4, 5, 6, 7], [])) [5, 6, 7, 8, 9, 15, 19, 20, 21, 100, 101, 102, 126])
  (.cond (.t 126)
   (.region [⟨(some 127), none, .mov (.t 8)⟩,
     ⟨(some 128), none, .fld 2 (.t 19)⟩,
     ⟨(some 129), none, .load none (.t 128)⟩,
     ⟨(some 130), none, .fld 1 (.t 15)⟩,
     ⟨(some 131), none, .load none (.t 130)⟩,
     ⟨(some 132), none, .mov (.t 21)⟩,
     ⟨(some 133), none, .call (.t 127) [(.t 129), (.t 131), (.t 132)]⟩] none [5, 6, 7, 8, 9, 15, 19, 20, 21, 100, 101, 102])
   .skip)))
 (.region [⟨(some 117), none, .mov (.t 21)⟩,
   ⟨(some 118), none, .bin .add (.t 117) (.c (.i .i64 1))⟩,
   ⟨(some 21), none, .asg (.t 118)⟩] none [5, 6, 7, 8, 9, 15, 19, 20, 21, 100, 101, 102])))
def ir_roles_recognize_L5 : ACode :=
 (.seq (.region [⟨(some 103), none, .bin .lss (.t 102) (.t 101)⟩] none [5, 6, 7, 8, 9, 15, 100, 101, 102, 103])
 (.seq (.cond (.t 103)
  .skip
  (.exit 10))
 (.seq (.block 11
  (.seq (.region [⟨(some 104), none, .idx 3 (.t 100) (.t 102)⟩,
    ⟨(some 105), none, .load (some 3) (.t 104)⟩,
    ⟨(some 19), none, .lalloc [(.s []), (.s []), (.s [])]⟩,
    ⟨none, none, .store 3 (.t 19) (.t 105)⟩] none [5, 6, 7, 8, 9, 15, 19, 100, 101, 102])
  (.seq (.region [⟨(some 106), none, .load none (.t 6)⟩,
    ⟨(some 107), none, .fld 1 (.t 19)⟩,
    ⟨(some 108), none, .load none (.t 107)⟩,
    ⟨(some 109), none, .look 1 .np false (.t 106) (.t 108)⟩,
    ⟨(some 20), none, .asg (.t 109)⟩] none [5, 6, 7, 8, 9, 15, 19, 20, 100, 101, 102])
  (.seq (.region [⟨(some 110), none, .mov (.t 20)⟩,
    ⟨(some 111), none, .nileq true 3 (.t 110)⟩] none [5, 6, 7, 8, 9, 15, 19, 20, 100, 101, 102, 111])
  (.cond (.t 111)
   (.seq (.region [⟨(some 112), none, .fld 2 (.t 15)⟩,
     ⟨(some 113), none, .load none (.t 112)⟩,
     ⟨(some 21), none, .asg (.t 113)⟩] none [5, 6, 7, 8, 9, 15, 19, 20, 21, 100, 101, 102])
   (.block 12
    (.loop [5, 6, 7, 8, 9, 15, 19, 20, 21, 100, 101, 102] ir_roles_recognize_L6)))
   .skip)))))
 (.region [⟨(some 134), none, .bin .add (.t 102) (.c (.i .i64 1))⟩,
   ⟨(some 102), none, .mov (.t 134)⟩] none [5, 6, 7, 8, 9, 15, 100, 101, 102]))))
def ir_roles_recognize_L8 : ACode :=
 (.seq (.seq (.region [⟨(some 151), none, .mov (.t 25)⟩,
   ⟨(some 152), none, .fld 1 (.t 15)⟩,
   ⟨(some 153), none, .load none (.t 152)⟩,
   ⟨(some 154), none, .bin .leq (.t 151) (.t 153)⟩] none [5, 6, 7, 8, 9, 15, 23, 24, 25, 139, 140, 141, 154])
 (.cond (.t 154)
  .skip
  (.exit 16)))
 (.seq (.block 17
  (.seq (.region [⟨(some 157), none, .mov (.t 24)⟩,
    ⟨(some 158), none, .mov (.t 25)⟩,
    ⟨(some 159), none, .fld 1 (.t 15)⟩,
    ⟨(some 160), none, .load none (.t 159)⟩,
    ⟨(some 161), none, .nilchk (.t 157)⟩,
    ⟨(some 162), none, .idxa 65 65 (.t 161) (.t 158)⟩,
    ⟨(some 163), none, .idxa 65 1 (.t 162) (.t 160)⟩,
    ⟨(some 164), none, .load none (.t 163)⟩] (some ([0, 1, 2, 3, 4, 5, 6, 7], [])) [5, 6, 7, 8, 9, 15, 23, 24, 25, 139, 140, 141, 164])
  (.cond (.t 164)
   (.region [⟨(some 165), none, .mov (.t 8)⟩,
     ⟨(some 166), none, .fld 2 (.t 23)⟩,
     ⟨(some 167), none, .load none (.t 166)⟩,
     ⟨(some 168), none, .mov (.t 25)⟩,
     ⟨(some 169), none, .fld 2 (.t 15)⟩,
     ⟨(some 170), none, .load none (.t 169)⟩,
     ⟨(some 171), none, .call (.t 165) [(.t 167), (.t 168), (.t 170)]⟩] none [5, 6, 7, 8, 9, 15, 23, 24, 25, 139, 140, 141])
   .skip)))
 (.region [⟨(some 155), none, .mov (.t 25)⟩,
   ⟨(some 156), none, .bin .add (.t 155) (.c (.i .i64 1))⟩,
   ⟨(some 25), none, .asg (.t 156)⟩] none [5, 6, 7, 8, 9, 15, 23, 24, 25, 139, 140, 141])))
def ir_roles_recognize_L7 : ACode :=
 (.seq (.region [⟨(some 142), none, .bin .lss (.t 141) (.t 140)⟩] none [5, 6, 7, 8, 9, 15, 139, 140, 141, 142])
 (.seq (.cond (.t 142)
  .skip
  (.exit 14))
 (.seq (.block 15
  (.seq (.region [⟨(some 143), none, .idx 3 (.t 139) (.t 141)⟩,
    ⟨(some 144), none, .load (some 3) (.t 143)⟩,
    ⟨(some 23), none, .lalloc [(.s []), (.s []), (.s [])]⟩,
    ⟨none, none, .store 3 (.t 23) (.t 144)⟩] none [5, 6, 7, 8, 9, 15, 23, 139, 140, 141])
  (.seq (.region [⟨(some 145), none, .load none (.t 6)⟩,
    ⟨(some 146), none, .fld 0 (.t 23)⟩,
    ⟨(some 147), none, .load none (.t 146)⟩,
    ⟨(some 148), none, .look 1 .np false (.t 145) (.t 147)⟩,
    ⟨(some 24), none, .asg (.t 148)⟩] none [5, 6, 7, 8, 9, 15, 23, 24, 139, 140, 141])
  (.seq (.region [⟨(some 149), none, .mov (.t 24)⟩,
    ⟨(some 150), none, .nileq true 3 (.t 149)⟩] none [5, 6, 7, 8, 9, 15, 23, 24, 139, 140, 141, 150])
  (.cond (.t 150)
   (.seq (.region [⟨(some 25), none, .asg (.c (.i .i64 0))⟩] none [5, 6, 7, 8, 9, 15, 23, 24, 25, 139, 140, 141])
   (.block 16
    (.loop [5, 6, 7, 8, 9, 15, 23, 24, 25, 139, 140, 141] ir_roles_recognize_L8)))
   .skip)))))
 (.region [⟨(some 172), none, .bin .add (.t 141) (.c (.i .i64 1))⟩,
   ⟨(some 141), none, .mov (.t 172)⟩] none [5, 6, 7, 8, 9, 15, 139, 140, 141]))))
def ir_roles_recognize_L3 : ACode :=
 (.seq (.seq (.region [⟨(some 64), none, .load none (.t 7)⟩,
   ⟨(some 65), none, .len 0 (.t 64)⟩,
   ⟨(some 66), none, .bin .gtr (.t 65) (.c (.i .i64 0))⟩] none [5, 6, 7, 8, 9, 66])
 (.cond (.t 66)
  .skip
  (.exit 6)))
 (.block 7
  (.seq (.region [⟨(some 67), none, .load none (.t 7)⟩,
    ⟨(some 68), none, .load none (.t 7)⟩,
    ⟨(some 69), none, .len 0 (.t 68)⟩,
    ⟨(some 70), none, .bin .sub (.t 69) (.c (.i .i64 1))⟩,
    ⟨(some 71), none, .idx 3 (.t 67) (.t 70)⟩,
    ⟨(some 72), none, .load (some 3) (.t 71)⟩,
    ⟨(some 15), none, .lalloc [(.s []), (.i .i64 0), (.i .i64 0)]⟩,
    ⟨none, none, .store 3 (.t 15) (.t 72)⟩] none [5, 6, 7, 8, 9, 15])
  (.seq (.region [⟨(some 73), none, .load none (.t 7)⟩,
    ⟨(some 74), none, .load none (.t 7)⟩,
    ⟨(some 75), none, .len 0 (.t 74)⟩,
    ⟨(some 76), none, .bin .sub (.t 75) (.c (.i .i64 1))⟩,
    ⟨(some 77), none, .slc 3 (.t 73) none (some (.t 76))⟩,
    ⟨none, none, .store 1 (.t 7) (.t 77)⟩] none [5, 6, 7, 8, 9, 15])
  (.seq (.seq (.region [⟨(some 78), none, .fld 0 (.t 5)⟩,
    ⟨(some 79), none, .load none (.t 78)⟩,
    ⟨(some 80), none, .fld 0 (.t 15)⟩,
    ⟨(some 81), none, .load none (.t 80)⟩,
    ⟨(some 82), none, .look 1 .ns false (.t 79) (.t 81)⟩,
    ⟨(some 83), none, .len 0 (.t 82)⟩,
    ⟨(some 84), none, .mov (.c (.i .i64 0))⟩] none [5, 6, 7, 8, 9, 15, 82, 83, 84])
  (.block 8
   (.loop [5, 6, 7, 8, 9, 15, 82, 83, 84] ir_roles_recognize_L4)))
  (.seq (.seq (.region [⟨(some 96), none, .fld 1 (.t 5)⟩,
    ⟨(some 97), none, .load none (.t 96)⟩,
    ⟨(some 98), none, .fld 0 (.t 15)⟩,
    ⟨(some 99), none, .load none (.t 98)⟩,
    ⟨(some 100), none, .look 1 .ns false (.t 97) (.t 99)⟩,
    ⟨(some 101), none, .len 0 (.t 100)⟩,
    ⟨(some 102), none, .mov (.c (.i .i64 0))⟩] none [5, 6, 7, 8, 9, 15, 100, 101, 102])
  (.block 10
   (.loop [5, 6, 7, 8, 9, 15, 100, 101, 102] ir_roles_recognize_L5)))
  (.seq (.region [⟨(some 135), none, .fld 2 (.t 5)⟩,
    ⟨(some 136), none, .load none (.t 135)⟩,
    ⟨(some 137), none, .fld 0 (.t 15)⟩,
    ⟨(some 138), none, .load none (.t 137)⟩,
    ⟨(some 139), none, .look 1 .ns false (.t 136) (.t 138)⟩,
    ⟨(some 140), none, .len 0 (.t 139)⟩,
    ⟨(some 141), none, .mov (.c (.i .i64 0))⟩] none [5, 6, 7, 8, 9, 15, 139, 140, 141])
  (.block 14
   (.loop [5, 6, 7, 8, 9, 15, 139, 140, 141] ir_roles_recognize_L7)))))))))
/-- veilstone/roles.recognize -/
def ir_roles_recognize : AFun := ⟨2, [.tmp 4], false, false,
 (.seq (.region [⟨(some 4), none, .asg (.c .nm)⟩] none [0, 1])
 (.seq (.region [⟨(some 26), none, .mov (.t 0)⟩,
   ⟨(some 27), none, .call (.c (.fn (.func F_roles_newGrammar) [] [])) [(.t 26)]⟩,
   ⟨(some 5), none, .lalloc [.nm, .nm, .nm, .ns]⟩,
   ⟨none, none, .store 4 (.t 5) (.t 27)⟩] none [1, 5])
 (.seq (.region [⟨(some 28), none, .hmap⟩,
   ⟨(some 6), none, .halloc [.nm]⟩,
   ⟨none, none, .store 1 (.t 6) (.t 28)⟩] none [1, 5, 6])
 (.seq (.region [⟨(some 7), none, .halloc [.ns]⟩] none [1, 5, 6, 7])
 (.seq (.region [⟨(some 29), none, .mkfn (.func F_roles_recognize_1) [] [(.t 6), (.t 7)]⟩,
   ⟨(some 8), none, .asg (.t 29)⟩] none [1, 5, 6, 7, 8])
 (.seq (.region [⟨(some 30), none, .mov (.t 1)⟩,
   ⟨(some 31), none, .len 0 (.t 30)⟩,
   ⟨(some 9), none, .asg (.t 31)⟩] none [1, 5, 6, 7, 8, 9])
 (.seq (.seq (.region [⟨(some 32), none, .mov (.t 1)⟩,
   ⟨(some 33), none, .len 0 (.t 32)⟩,
   ⟨(some 34), none, .mov (.c (.i .i64 0))⟩] none [5, 6, 7, 8, 9, 32, 33, 34])
 (.block 0
  (.loop [5, 6, 7, 8, 9, 32, 33, 34] ir_roles_recognize_L0)))
 (.seq (.seq (.region [⟨(some 46), none, .fld 3 (.t 5)⟩,
   ⟨(some 47), none, .load none (.t 46)⟩,
   ⟨(some 48), none, .len 0 (.t 47)⟩,
   ⟨(some 49), none, .mov (.c (.i .i64 0))⟩] none [5, 6, 7, 8, 9, 47, 48, 49])
 (.block 2
  (.loop [5, 6, 7, 8, 9, 47, 48, 49] ir_roles_recognize_L1)))
 (.seq (.block 6
  (.loop [5, 6, 7, 8, 9] ir_roles_recognize_L3))
 (.seq (.region [⟨(some 173), none, .load none (.t 6)⟩,
   ⟨(some 4), none, .asg (.t 173)⟩] none [4])
 .ret))))))))))⟩

def ir_roles_newGrammar_L1 : ACode :=
 (.seq (.seq (.region [⟨(some 52), none, .mov (.t 7)⟩,
   ⟨(some 53), none, .fld 12 (.t 6)⟩,
   ⟨(some 54), none, .load none (.t 53)⟩,
   ⟨(some 55), none, .len 0 (.t 54)⟩,
   ⟨(some 56), none, .bin .lss (.t 52) (.t 55)⟩] none [2, 3, 4, 6, 7, 14, 15, 16, 56])
 (.cond (.t 56)
  .skip
  (.exit 3)))
 (.seq (.block 4
  (.seq (.region [⟨(some 59), none, .fld 12 (.t 6)⟩,
    ⟨(some 60), none, .load none (.t 59)⟩,
    ⟨(some 61), none, .mov (.t 7)⟩,
    ⟨(some 62), none, .slc 1 (.t 60) none (some (.t 61))⟩,
    ⟨(some 63), none, .call (.c (.fn (.func F_strings_Join) [] [])) [(.t 62), (.c (.s [46]))]⟩,
    ⟨(some 64), none, .fld 12 (.t 6)⟩,
    ⟨(some 65), none, .load none (.t 64)⟩,
    ⟨(some 66), none, .mov (.t 7)⟩,
    ⟨(some 67), none, .idx 1 (.t 65) (.t 66)⟩,
    ⟨(some 68), none, .load none (.t 67)⟩,
    ⟨(some 69), none, .fld 12 (.t 6)⟩,
    ⟨(some 70), none, .load none (.t 69)⟩,
    ⟨(some 71), none, .mov (.t 7)⟩,
    ⟨(some 72), none, .bin .add (.t 71) (.c (.i .i64 1))⟩,
    ⟨(some 73), none, .slc 1 (.t 70) none (some (.t 72))⟩,
    ⟨(some 74), none, .call (.c (.fn (.func F_strings_Join) [] [])) [(.t 73), (.c (.s [46]))]⟩,
    ⟨(some 75), none, .build [(.s []), (.s []), (.s [])] [(0, 1, (.t 63)), (1, 1, (.t 68)), (2, 1, (.t 74))]⟩,
    ⟨(some 8), none, .lallocp 8 [(.s []), (.s []), (.s [])]⟩,
    ⟨none, none, .store 3 (.t 8) (.t 75)⟩] (some ([0, 1, 2, 3, 4, 5, 6, 7, 8, 9, 10, 11, 12, 13, 14, 15, 16, 17, 18], [])) [2, 3, 4, 6, 7, 8, 14, 15, 16])
  (.seq (.seq (.region [⟨(some 76), none, .mov (.t 7)⟩,
    ⟨(some 77), none, .fld 12 (.t 6)⟩,
    ⟨(some 78), none, .load none (.t 77)⟩,
    ⟨(some 79), none, .len 0 (.t 78)⟩,
    ⟨(some 80), none, .bin .sub (.t 79) (.c (.i .i64 1))⟩,
    ⟨(some 81), none, .bin .eql (.t 76) (.t 80)⟩] none [2, 3, 4, 6, 7, 8, 14, 15, 16, 81])
  (.cond (.t 81)
   (.region [⟨(some 82), none, .fld 13 (.t 6)⟩,
     ⟨(some 83), none, .load none (.t 82)⟩,
     ⟨(some 84), none, .fld 2 (.t 8)⟩,
     ⟨none, none, .store 1 (.t 84) (.t 83)⟩] none [2, 3, 4, 6, 7, 8, 14, 15, 16])
   .skip))
  (.seq (.region [⟨(some 85), none, .mov (.t 4)⟩,
    ⟨(some 86), none, .load (some 3) (.t 8)⟩,
    ⟨(some 87), none, .look 6 (.b false) false (.t 85) (.t 86)⟩,
    ⟨(some 88), none, .un .not (.t 87)⟩] none [2, 3, 4, 6, 7, 8, 14, 15, 16, 88])
  (.cond (.t 88)
   (.seq (.region [⟨(some 89), none, .mov (.t 4)⟩,
     ⟨(some 90), none, .load (some 3) (.t 8)⟩,
     ⟨none, none, .hins 6 (.t 89) (.t 90) (.c (.b true))⟩] none [2, 3, 4, 6, 7, 8, 14, 15, 16])
   (.seq (.region [⟨(some 91), none, .fld 1 (.t 3)⟩,
     ⟨(some 92), none, .load none (.t 91)⟩,
     ⟨(some 93), none, .fld 0 (.t 8)⟩,
     ⟨(some 94), none, .load none (.t 93)⟩,
     ⟨(some 95), none, .fld 1 (.t 3)⟩,
     ⟨(some 96), none, .load none (.t 95)⟩,
     ⟨(some 97), none, .fld 0 (.t 8)⟩,
     ⟨(some 98), none, .load none (.t 97)⟩,
     ⟨(some 99), none, .look 1 .ns false (.t 96) (.t 98)⟩,
     ⟨(some 100), none, .load (some 3) (.t 8)⟩,
     ⟨(some 101), none, .bsl false T_roles_rule_1 3 1 [(.s []), (.s []), (.s [])] [(0, (.t 100))]⟩,
     ⟨(some 102), none, .apprp 102 T_roles_rule_1 3 (.t 99) (.t 101)⟩,
     ⟨none, none, .hins 1 (.t 92) (.t 94) (.t 102)⟩] (some ([4, 5, 6, 7, 8, 9, 10, 11, 0, 1, 2, 3, 12], [])) [2, 3, 4, 6, 7, 8, 14, 15, 16])
   (.region [⟨(some 103), none, .fld 2 (.t 3)⟩,
     ⟨(some 104), none, .load none (.t 103)⟩,
     ⟨(some 105), none, .fld 1 (.t 8)⟩,
     ⟨(some 106), none, .load none (.t 105)⟩,
     ⟨(some 107), none, .fld 2 (.t 3)⟩,
     ⟨(some 108), none, .load none (.t 107)⟩,
     ⟨(some 109), none, .fld 1 (.t 8)⟩,
     ⟨(some 110), none, .load none (.t 109)⟩,
     ⟨(some 111), none, .look 1 .ns false (.t 108) (.t 110)⟩,
     ⟨(some 112), none, .load (some 3) (.t 8)⟩,
     ⟨(some 113), none, .bsl false T_roles_rule_1 3 1 [(.s []), (.s []), (.s [])] [(0, (.t 112))]⟩,
     ⟨(some 114), none, .apprp 114 T_roles_rule_1 3 (.t 111) (.t 113)⟩,
     ⟨none, none, .hins 1 (.t 104) (.t 106) (.t 114)⟩] (some ([4, 5, 6, 7, 8, 9, 10, 11, 0, 1, 2, 3, 12], [])) [2, 3, 4, 6, 7, 14, 15, 16])))
   .skip)))))
 (.region [⟨(some 57), none, .mov (.t 7)⟩,
   ⟨(some 58), none, .bin .add (.t 57) (.c (.i .i64 1))⟩,
   ⟨(some 7), none, .asg (.t 58)⟩] none [2, 3, 4, 6, 7, 14, 15, 16])))
def ir_roles_newGrammar_L0 : ACode :=
 (.seq (.region [⟨(some 17), none, .bin .lss (.t 16) (.t 15)⟩] none [2, 3, 4, 14, 15, 16, 17])
 (.seq (.cond (.t 17)
  .skip
  (.exit 0))
 (.seq (.block 1
  (.seq (.region [⟨(some 18), none, .idx 16 (.t 14) (.t 16)⟩,
    ⟨(some 19), none, .load (some 16) (.t 18)⟩,
    ⟨(some 6), none, .lalloc [(.i .i64 0), (.b false), (.i .i64 0), (.s []), (.i .i64 0), (.i .i64 0), .ns, (.i .i64 0), (.s []), (.i .i64 0), (.i .i64 0), .ns, .ns, (.s []), (.s []), (.s [])]⟩,
    ⟨none, none, .store 16 (.t 6) (.t 19)⟩] none [2, 3, 4, 6, 14, 15, 16])
  (.seq (.region [⟨(some 20), none, .fld 0 (.t 6)⟩,
    ⟨(some 21), none, .load none (.t 20)⟩] none [2, 3, 4, 6, 14, 15, 16, 21])
  (.block 2
   (.seq (.region [⟨(some 23), none, .bin .eql (.t 21) (.c (.i .i64 5))⟩,
     ⟨(some 22), none, .asg (.t 23)⟩] none [2, 3, 4, 6, 14, 15, 16, 21, 22])
   (.cond (.t 22)
    (.region [⟨(some 24), none, .fld 0 (.t 3)⟩,
      ⟨(some 25), none, .load none (.t 24)⟩,
      ⟨(some 26), none, .fld 12 (.t 6)⟩,
      ⟨(some 27), none, .load none (.t 26)⟩,
      ⟨(some 28), none, .idx 1 (.t 27) (.c (.i .i64 0))⟩,
      ⟨(some 29), none, .load none (.t 28)⟩,
      ⟨(some 30), none, .fld 0 (.t 3)⟩,
      ⟨(some 31), none, .load none (.t 30)⟩,
      ⟨(some 32), none, .fld 12 (.t 6)⟩,
      ⟨(some 33), none, .load none (.t 32)⟩,
      ⟨(some 34), none, .idx 1 (.t 33) (.c (.i .i64 0))⟩,
      ⟨(some 35), none, .load none (.t 34)⟩,
      ⟨(some 36), none, .look 1 .ns false (.t 31) (.t 35)⟩,
      ⟨(some 37), none, .fld 13 (.t 6)⟩,
      ⟨(some 38), none, .load none (.t 37)⟩,
      ⟨(some 39), none, .bsl false T_string_0 1 1 [(.s [])] [(0, (.t 38))]⟩,
      ⟨(some 40), none, .apprp 40 T_string_0 1 (.t 36) (.t 39)⟩,
      ⟨none, none, .hins 1 (.t 25) (.t 29) (.t 40)⟩] (some ([6, 7, 8, 9, 10, 11, 12, 13, 14, 15, 16, 0, 1, 2, 3, 4, 5, 17], [])) [2, 3, 4, 14, 15, 16])
    (.seq (.region [⟨(some 42), none, .bin .eql (.t 21) (.c (.i .i64 7))⟩,
      ⟨(some 41), none, .asg (.t 42)⟩] none [2, 3, 4, 6, 14, 15, 16, 21, 41])
    (.cond (.t 41)
     (.region [⟨(some 43), none, .fld 3 (.t 3)⟩,
       ⟨(some 44), none, .load none (.t 43)⟩,
       ⟨(some 45), none, .fld 13 (.t 6)⟩,
       ⟨(some 46), none, .load none (.t 45)⟩,
       ⟨(some 47), none, .bsl false T_string_0 1 1 [(.s [])] [(0, (.t 46))]⟩,
       ⟨(some 48), none, .appr T_string_0 1 (.t 44) (.t 47)⟩,
       ⟨(some 49), none, .fld 3 (.t 3)⟩,
       ⟨none, none, .store 1 (.t 49) (.t 48)⟩] none [2, 3, 4, 14, 15, 16])
     (.seq (.region [⟨(some 51), none, .bin .eql (.t 21) (.c (.i .i64 6))⟩,
       ⟨(some 50), none, .asg (.t 51)⟩] none [2, 3, 4, 6, 14, 15, 16, 50])
     (.cond (.t 50)
      (.seq (.region [⟨(some 7), none, .asg (.c (.i .i64 1))⟩] none [2, 3, 4, 6, 7, 14, 15, 16])
      (.block 3
       (.loop [2, 3, 4, 6, 7, 14, 15, 16] ir_roles_newGrammar_L1)))
      .skip))))))))))
 (.region [⟨(some 115), none, .bin .add (.t 16) (.c (.i .i64 1))⟩,
   ⟨(some 16), none, .mov (.t 115)⟩] none [2, 3, 4, 14, 15, 16]))))
/-- veilstone/roles.newGrammar -/
def ir_roles_newGrammar : AFun := ⟨1, [.cell 2 (some 4)], true, false,
 (.seq (.region [⟨(some 2), none, .lalloc [.nm, .nm, .nm, .ns]⟩] none [0, 2])
 (.seq (.region [⟨(some 9), none, .hmap⟩,
   ⟨(some 10), none, .hmap⟩,
   ⟨(some 11), none, .hmap⟩,
   ⟨(some 12), none, .build [.nm, .nm, .nm, .ns] [(0, 1, (.t 9)), (1, 1, (.t 10)), (2, 1, (.t 11))]⟩,
   ⟨(some 3), none, .lalloc [.nm, .nm, .nm, .ns]⟩,
   ⟨none, none, .store 4 (.t 3) (.t 12)⟩] none [0, 2, 3])
 (.seq (.region [⟨(some 13), none, .hmap⟩,
   ⟨(some 4), none, .asg (.t 13)⟩] none [0, 2, 3, 4])
 (.seq (.seq (.region [⟨(some 14), none, .mov (.t 0)⟩,
   ⟨(some 15), none, .len 0 (.t 14)⟩,
   ⟨(some 16), none, .mov (.c (.i .i64 0))⟩] none [2, 3, 4, 14, 15, 16])
 (.block 0
  (.loop [2, 3, 4, 14, 15, 16] ir_roles_newGrammar_L0)))
 (.seq (.region [⟨(some 116), none, .load (some 4) (.t 3)⟩,
   ⟨none, none, .store 4 (.t 2) (.t 116)⟩] none [2])
 .ret)))))⟩

/-- veilstone/roles.recognize$1 -/
def ir_roles_recognize_1 : AFun := ⟨5, [], false, true,
 (.seq (.seq (.region [⟨(some 8), none, .load none (.t 3)⟩,
   ⟨(some 9), none, .mov (.t 0)⟩,
   ⟨(some 10), none, .look 1 .np false (.t 8) (.t 9)⟩,
   ⟨(some 11), none, .nileq false 3 (.t 10)⟩] none [0, 1, 2, 3, 4, 11])
 (.cond (.t 11)
  (.region [⟨(some 12), none, .load none (.t 3)⟩,
    ⟨(some 13), none, .mov (.t 0)⟩,
    ⟨(some 14), none, .halloc (List.replicate 4225 (.b false))⟩,
    ⟨none, none, .hins 1 (.t 12) (.t 13) (.t 14)⟩] none [0, 1, 2, 3, 4])
  .skip))
 (.seq (.region [⟨(some 15), none, .load none (.t 3)⟩,
   ⟨(some 16), none, .mov (.t 0)⟩,
   ⟨(some 17), none, .look 1 .np false (.t 15) (.t 16)⟩,
   ⟨(some 18), none, .mov (.t 1)⟩,
   ⟨(some 19), none, .mov (.t 2)⟩,
   ⟨(some 20), none, .nilchk (.t 17)⟩,
   ⟨(some 21), none, .idxa 65 65 (.t 20) (.t 18)⟩,
   ⟨(some 22), none, .idxa 65 1 (.t 21) (.t 19)⟩,
   ⟨(some 23), none, .load none (.t 22)⟩,
   ⟨(some 24), none, .un .not (.t 23)⟩] none [0, 1, 2, 3, 4, 24])
 (.cond (.t 24)
  (.seq (.region [⟨(some 25), none, .load none (.t 3)⟩,
    ⟨(some 26), none, .mov (.t 0)⟩,
    ⟨(some 27), none, .look 1 .np false (.t 25) (.t 26)⟩,
    ⟨(some 28), none, .mov (.t 1)⟩,
    ⟨(some 29), none, .mov (.t 2)⟩,
    ⟨(some 30), none, .nilchk (.t 27)⟩,
    ⟨(some 31), none, .idxa 65 65 (.t 30) (.t 28)⟩,
    ⟨(some 32), none, .idxa 65 1 (.t 31) (.t 29)⟩,
    ⟨none, none, .store 1 (.t 32) (.c (.b true))⟩] none [0, 1, 2, 4])
  (.region [⟨(some 33), none, .load none (.t 4)⟩,
    ⟨(some 34), none, .mov (.t 0)⟩,
    ⟨(some 35), none, .mov (.t 1)⟩,
    ⟨(some 36), none, .mov (.t 2)⟩,
    ⟨(some 37), none, .build [(.s []), (.i .i64 0), (.i .i64 0)] [(0, 1, (.t 34)), (1, 1, (.t 35)), (2, 1, (.t 36))]⟩,
    ⟨(some 38), none, .bsl false T_roles_item_1 3 1 [(.s []), (.i .i64 0), (.i .i64 0)] [(0, (.t 37))]⟩,
    ⟨(some 39), none, .appk T_roles_item_1 3 (.t 33) (.t 38)⟩,
    ⟨none, none, .store 1 (.t 4) (.t 39)⟩] none []))
  .skip)))⟩

def ir_roles_Compose_L1 : ACode :=
 (.seq (.region [⟨(some 48), none, .bin .lss (.t 47) (.t 46)⟩] none [0, 1, 2, 6, 9, 29, 30, 31, 45, 46, 47, 48])
 (.seq (.cond (.t 48)
  .skip
  (.exit 3))
 (.seq (.block 4
  (.seq (.region [⟨(some 49), none, .idx 1 (.t 45) (.t 47)⟩,
    ⟨(some 50), none, .load none (.t 49)⟩,
    ⟨(some 13), none, .asg (.t 50)⟩] none [0, 1, 2, 6, 9, 13, 29, 30, 31, 45, 46, 47])
  (.region [⟨(some 51), none, .mov (.t 9)⟩,
    ⟨(some 52), none, .mov (.t 13)⟩,
    ⟨none, none, .uins (.t 51) (.t 52) (.c (.b true))⟩] none [0, 1, 2, 6, 9, 29, 30, 31, 45, 46, 47])))
 (.region [⟨(some 53), none, .bin .add (.t 47) (.c (.i .i64 1))⟩,
   ⟨(some 47), none, .mov (.t 53)⟩] none [0, 1, 2, 6, 9, 29, 30, 31, 45, 46, 47]))))
def ir_roles_Compose_L0 : ACode :=
 (.seq (.region [⟨(some 32), none, .bin .lss (.t 31) (.t 30)⟩] none [0, 1, 2, 6, 9, 29, 30, 31, 32])
 (.seq (.cond (.t 32)
  .skip
  (.exit 0))
 (.seq (.block 1
  (.seq (.region [⟨(some 33), none, .idx 16 (.t 29) (.t 31)⟩,
    ⟨(some 34), none, .load (some 16) (.t 33)⟩,
    ⟨(some 11), none, .lalloc [(.i .i64 0), (.b false), (.i .i64 0), (.s []), (.i .i64 0), (.i .i64 0), .ns, (.i .i64 0), (.s []), (.i .i64 0), (.i .i64 0), .ns, .ns, (.s []), (.s []), (.s [])]⟩,
    ⟨none, none, .store 16 (.t 11) (.t 34)⟩] none [0, 1, 2, 6, 9, 11, 29, 30, 31])
  (.seq (.region [⟨(some 35), none, .fld 0 (.t 11)⟩,
    ⟨(some 36), none, .load none (.t 35)⟩] none [0, 1, 2, 6, 9, 11, 29, 30, 31, 36])
  (.block 2
   (.seq (.seq (.region [⟨(some 38), none, .bin .eql (.t 36) (.c (.i .i64 5))⟩,
     ⟨(some 37), none, .asg (.t 38)⟩] none [0, 1, 2, 6, 9, 11, 29, 30, 31, 36, 37])
   (.cond (.t 37)
    .skip
    (.seq (.region [⟨(some 39), none, .bin .eql (.t 36) (.c (.i .i64 6))⟩,
      ⟨(some 37), none, .asg (.t 39)⟩] none [0, 1, 2, 6, 9, 11, 29, 30, 31, 36, 37])
    (.cond (.t 37)
     .skip
     (.region [⟨(some 40), none, .bin .eql (.t 36) (.c (.i .i64 7))⟩,
       ⟨(some 37), none, .asg (.t 40)⟩] none [0, 1, 2, 6, 9, 11, 29, 30, 31, 37])))))
   (.cond (.t 37)
    (.seq (.region [⟨(some 41), none, .mov (.t 9)⟩,
      ⟨(some 42), none, .fld 13 (.t 11)⟩,
      ⟨(some 43), none, .load none (.t 42)⟩,
      ⟨none, none, .uins (.t 41) (.t 43) (.c (.b true))⟩] none [0, 1, 2, 6, 9, 11, 29, 30, 31])
    (.seq (.region [⟨(some 44), none, .fld 12 (.t 11)⟩,
      ⟨(some 45), none, .load none (.t 44)⟩,
      ⟨(some 46), none, .len 0 (.t 45)⟩,
      ⟨(some 47), none, .mov (.c (.i .i64 0))⟩] none [0, 1, 2, 6, 9, 29, 30, 31, 45, 46, 47])
    (.block 3
     (.loop [0, 1, 2, 6, 9, 29, 30, 31, 45, 46, 47] ir_roles_Compose_L1))))
    .skip))))))
 (.region [⟨(some 54), none, .bin .add (.t 31) (.c (.i .i64 1))⟩,
   ⟨(some 31), none, .mov (.t 54)⟩] none [0, 1, 2, 6, 9, 29, 30, 31]))))
def ir_roles_Compose_L2 : ACode :=
 (.seq (.region [⟨(some 65), none, .bin .lss (.t 64) (.t 63)⟩] none [6, 14, 62, 63, 64, 65])
 (.seq (.cond (.t 65)
  .skip
  (.exit 5))
 (.seq (.block 6
  (.seq (.region [⟨(some 66), none, .idx 1 (.t 62) (.t 64)⟩,
    ⟨(some 67), none, .load none (.t 66)⟩,
    ⟨(some 16), none, .asg (.t 67)⟩] none [6, 14, 16, 62, 63, 64])
  (.seq (.region [⟨(some 68), none, .mov (.t 14)⟩,
    ⟨(some 69), none, .mov (.t 16)⟩,
    ⟨(some 70), none, .look 1 .np false (.t 68) (.t 69)⟩,
    ⟨(some 71), none, .nileq true 3 (.t 70)⟩,
    ⟨(some 72), none, .mov (.t 71)⟩,
    ⟨(some 73), some (72, true), .mov (.t 14)⟩,
    ⟨(some 74), some (72, true), .mov (.t 16)⟩,
    ⟨(some 75), some (72, true), .look 1 .np false (.t 73) (.t 74)⟩,
    ⟨(some 76), some (72, true), .nilchk (.t 75)⟩,
    ⟨(some 77), some (72, true), .idxa 65 65 (.t 76) (.c (.i .i64 0))⟩,
    ⟨(some 78), some (72, true), .idxa 65 1 (.t 77) (.c (.i .i64 2))⟩,
    ⟨(some 79), some (72, true), .load none (.t 78)⟩,
    ⟨(some 80), none, .pick (.t 72) (.t 79) (.c (.b false))⟩] none [6, 14, 16, 62, 63, 64, 80])
  (.cond (.t 80)
   (.region [⟨(some 81), none, .mov (.t 6)⟩,
     ⟨(some 82), none, .mov (.t 16)⟩,
     ⟨(some 83), none, .bsl false T_string_0 1 1 [(.s [])] [(0, (.t 82))]⟩,
     ⟨(some 84), none, .app T_string_0 1 (.t 81) (.t 83)⟩,
     ⟨(some 6), none, .asg (.t 84)⟩] none [6, 14, 62, 63, 64])
   .skip))))
 (.region [⟨(some 85), none, .bin .add (.t 64) (.c (.i .i64 1))⟩,
   ⟨(some 64), none, .mov (.t 85)⟩] none [6, 14, 62, 63, 64]))))
/-- veilstone/roles.Compose -/
def ir_roles_Compose : AFun := ⟨3, [.tmp 6, .tmp 7], true, false,
 (.seq (.region [⟨(some 6), none, .nbuf T_string_0 1⟩,
   ⟨(some 7), none, .asg (.c (.i .i64 0))⟩] none [0, 1, 2, 6])
 (.seq (.seq (.region [⟨(some 17), none, .mov (.t 0)⟩,
   ⟨(some 18), none, .mov (.t 1)⟩,
   ⟨(some 19), none, .mov (.t 2)⟩,
   ⟨(some 20), none, .bsl false T_string_0 1 2 [(.s [])] [(0, (.t 18)), (1, (.t 19))]⟩,
   ⟨(some 21), none, .call (.c (.fn (.func F_roles_checkAll) [] [])) [(.t 17), (.t 20)]⟩,
   ⟨(some 8), none, .asg (.t 21)⟩] none [0, 1, 2, 6, 8])
 (.seq (.region [⟨(some 22), none, .mov (.t 8)⟩,
   ⟨(some 23), none, .bin .neq (.t 22) (.c (.i .i64 0))⟩] none [0, 1, 2, 6, 8, 23])
 (.cond (.t 23)
  (.seq (.region [⟨(some 24), none, .mov (.t 8)⟩,
    ⟨(some 6), none, .nbuf T_string_0 1⟩,
    ⟨(some 7), none, .asg (.t 24)⟩] none [6, 7])
  .ret)
  .skip)))
 (.seq (.region [⟨(some 25), none, .umap 25⟩,
   ⟨(some 26), none, .mov (.t 1)⟩,
   ⟨none, none, .uins (.t 25) (.t 26) (.c (.b true))⟩,
   ⟨(some 27), none, .mov (.t 2)⟩,
   ⟨none, none, .uins (.t 25) (.t 27) (.c (.b true))⟩,
   ⟨(some 28), none, .mov (.t 25)⟩,
   ⟨(some 9), none, .asg (.t 28)⟩] (some ([0, 1, 2, 3, 4, 5, 6], [])) [0, 1, 2, 6, 9])
 (.seq (.seq (.region [⟨(some 29), none, .mov (.t 0)⟩,
   ⟨(some 30), none, .len 0 (.t 29)⟩,
   ⟨(some 31), none, .mov (.c (.i .i64 0))⟩] none [0, 1, 2, 6, 9, 29, 30, 31])
 (.block 0
  (.loop [0, 1, 2, 6, 9, 29, 30, 31] ir_roles_Compose_L0)))
 (.seq (.region [⟨(some 55), none, .mov (.t 0)⟩,
   ⟨(some 56), none, .mov (.t 1)⟩,
   ⟨(some 57), none, .mov (.t 2)⟩,
   ⟨(some 58), none, .bsl false T_string_0 1 2 [(.s [])] [(0, (.t 56)), (1, (.t 57))]⟩,
   ⟨(some 59), none, .call (.c (.fn (.func F_roles_recognize) [] [])) [(.t 55), (.t 58)]⟩,
   ⟨(some 14), none, .asg (.t 59)⟩] none [6, 9, 14])
 (.seq (.seq (.region [⟨(some 60), none, .mov (.t 9)⟩,
   ⟨(some 61), none, .call (.c (.fn (.func F_maps_Keys_map_string_bool_string_bool) [] [])) [(.t 60)]⟩,
   ⟨(some 62), none, .call (.c (.fn (.func F_slices_Sorted_string) [] [])) [(.t 61)]⟩,
   ⟨(some 63), none, .len 0 (.t 62)⟩,
   ⟨(some 64), none, .mov (.c (.i .i64 0))⟩] none [6, 14, 62, 63, 64])
 (.block 5
  (.loop [6, 14, 62, 63, 64] ir_roles_Compose_L2)))
 (.seq (.region [⟨(some 86), none, .mov (.t 6)⟩,
   ⟨(some 6), none, .asg (.t 86)⟩,
   ⟨(some 7), none, .asg (.c (.i .i64 0))⟩] none [6, 7])
 .ret)))))))⟩

/-- veilstone/veilstonelaw06.few -/
def ir_law06_few : AFun := ⟨1, [.tmp 2], true, false,
 (.seq (.region [⟨(some 2), none, .asg (.c (.b false))⟩] none [0])
 (.seq (.region [⟨(some 3), none, .mov (.t 0)⟩,
   ⟨(some 4), none, .call (.c (.fn (.func F_ref02_FewAxioms) [] [])) [(.t 3), (.c (.i .i64 12))]⟩,
   ⟨(some 2), none, .asg (.t 4)⟩] none [2])
 .ret))⟩

def ir_ref02_FewAxioms_L0 : ACode :=
 (.seq (.seq (.region [⟨(some 10), none, .mov (.t 5)⟩,
   ⟨(some 11), none, .mov (.t 0)⟩,
   ⟨(some 12), none, .len 0 (.t 11)⟩,
   ⟨(some 13), none, .bin .lss (.t 10) (.t 12)⟩] none [0, 5, 13])
 (.cond (.t 13)
  .skip
  (.exit 0)))
 (.seq (.block 1
  (.seq (.region [⟨(some 16), none, .mov (.t 0)⟩,
    ⟨(some 17), none, .mov (.t 5)⟩,
    ⟨(some 18), none, .idx 16 (.t 16) (.t 17)⟩,
    ⟨(some 19), none, .load (some 16) (.t 18)⟩,
    ⟨(some 20), none, .call (.c (.fn (.func F_ref02_FewAxiom) [] [])) [(.t 19)]⟩,
    ⟨(some 21), none, .un .not (.t 20)⟩] none [0, 5, 21])
  (.cond (.t 21)
   (.seq (.region [⟨(some 4), none, .asg (.c (.b false))⟩] none [4])
   .ret)
   .skip)))
 (.region [⟨(some 14), none, .mov (.t 5)⟩,
   ⟨(some 15), none, .bin .add (.t 14) (.c (.i .i64 1))⟩,
   ⟨(some 5), none, .asg (.t 15)⟩] none [0, 5])))
/-- veilstone/veilstoneref02.FewAxioms -/
def ir_ref02_FewAxioms : AFun := ⟨2, [.tmp 4], true, false,
 (.seq (.region [⟨(some 4), none, .asg (.c (.b false))⟩] none [0, 1])
 (.seq (.seq (.region [⟨(some 6), none, .mov (.t 0)⟩,
   ⟨(some 7), none, .len 0 (.t 6)⟩,
   ⟨(some 8), none, .mov (.t 1)⟩,
   ⟨(some 9), none, .bin .gtr (.t 7) (.t 8)⟩] none [0, 9])
 (.cond (.t 9)
  (.seq (.region [⟨(some 4), none, .asg (.c (.b false))⟩] none [4])
  .ret)
  .skip))
 (.seq (.seq (.region [⟨(some 5), none, .asg (.c (.i .i64 0))⟩] none [0, 5])
 (.block 0
  (.loop [0, 5] ir_ref02_FewAxioms_L0)))
 (.seq (.region [⟨(some 4), none, .asg (.c (.b true))⟩] none [4])
 .ret))))⟩

def ir_ref02_FewAxiom_L0 : ACode :=
 (.seq (.seq (.region [⟨(some 21), none, .mov (.t 4)⟩,
   ⟨(some 22), none, .fld 12 (.t 1)⟩,
   ⟨(some 23), none, .load none (.t 22)⟩,
   ⟨(some 24), none, .len 0 (.t 23)⟩,
   ⟨(some 25), none, .bin .lss (.t 21) (.t 24)⟩,
   ⟨(some 26), none, .mov (.t 25)⟩,
   ⟨(some 27), some (26, true), .mov (.t 4)⟩,
   ⟨(some 28), some (26, true), .bin .lss (.t 27) (.c (.i .i64 100))⟩,
   ⟨(some 29), none, .pick (.t 26) (.t 28) (.c (.b false))⟩] none [1, 3, 4, 29])
 (.cond (.t 29)
  .skip
  (.exit 0)))
 (.seq (.block 1
  (.region [⟨(some 32), none, .mov (.t 3)⟩,
    ⟨(some 33), none, .fld 12 (.t 1)⟩,
    ⟨(some 34), none, .load none (.t 33)⟩,
    ⟨(some 35), none, .mov (.t 4)⟩,
    ⟨(some 36), none, .idx 1 (.t 34) (.t 35)⟩,
    ⟨(some 37), none, .load none (.t 36)⟩,
    ⟨(some 38), none, .len 1 (.t 37)⟩,
    ⟨(some 39), none, .bin .add (.t 32) (.t 38)⟩,
    ⟨(some 3), none, .asg (.t 39)⟩] none [1, 3, 4]))
 (.region [⟨(some 30), none, .mov (.t 4)⟩,
   ⟨(some 31), none, .bin .add (.t 30) (.c (.i .i64 1))⟩,
   ⟨(some 4), none, .asg (.t 31)⟩] none [1, 3, 4])))
/-- veilstone/veilstoneref02.FewAxiom -/
def ir_ref02_FewAxiom : AFun := ⟨1, [.tmp 2], true, false,
 (.seq (.region [⟨(some 1), none, .lbox (.t 0)⟩,
   ⟨(some 2), none, .asg (.c (.b false))⟩] none [1])
 (.seq (.region [⟨(some 5), none, .fld 13 (.t 1)⟩,
   ⟨(some 6), none, .load none (.t 5)⟩,
   ⟨(some 7), none, .len 1 (.t 6)⟩,
   ⟨(some 8), none, .fld 14 (.t 1)⟩,
   ⟨(some 9), none, .load none (.t 8)⟩,
   ⟨(some 10), none, .len 1 (.t 9)⟩,
   ⟨(some 11), none, .bin .add (.t 7) (.t 10)⟩,
   ⟨(some 12), none, .fld 15 (.t 1)⟩,
   ⟨(some 13), none, .load none (.t 12)⟩,
   ⟨(some 14), none, .len 1 (.t 13)⟩,
   ⟨(some 15), none, .bin .add (.t 11) (.t 14)⟩,
   ⟨(some 16), none, .fld 12 (.t 1)⟩,
   ⟨(some 17), none, .load none (.t 16)⟩,
   ⟨(some 18), none, .len 0 (.t 17)⟩,
   ⟨(some 19), none, .bin .mul (.c (.i .i64 10)) (.t 18)⟩,
   ⟨(some 20), none, .bin .add (.t 15) (.t 19)⟩,
   ⟨(some 3), none, .asg (.t 20)⟩] none [1, 3])
 (.seq (.seq (.region [⟨(some 4), none, .asg (.c (.i .i64 0))⟩] none [1, 3, 4])
 (.block 0
  (.loop [1, 3, 4] ir_ref02_FewAxiom_L0)))
 (.seq (.region [⟨(some 40), none, .mov (.t 3)⟩,
   ⟨(some 41), none, .bin .leq (.t 40) (.c (.i .i64 600))⟩,
   ⟨(some 42), none, .mov (.t 41)⟩,
   ⟨(some 43), some (42, true), .fld 2 (.t 1)⟩,
   ⟨(some 44), some (42, true), .load (some 5) (.t 43)⟩,
   ⟨(some 45), some (42, true), .call (.c (.fn (.func F_ref02_Few) [] [])) [(.t 44)]⟩,
   ⟨(some 46), none, .pick (.t 42) (.t 45) (.c (.b false))⟩,
   ⟨(some 47), none, .mov (.t 46)⟩,
   ⟨(some 48), some (47, true), .fld 7 (.t 1)⟩,
   ⟨(some 49), some (47, true), .load (some 5) (.t 48)⟩,
   ⟨(some 50), some (47, true), .call (.c (.fn (.func F_ref02_Few) [] [])) [(.t 49)]⟩,
   ⟨(some 51), none, .pick (.t 47) (.t 50) (.c (.b false))⟩,
   ⟨(some 2), none, .asg (.t 51)⟩] none [2])
 .ret))))⟩

/-- veilstone/veilstoneref02.Few -/
def ir_ref02_Few : AFun := ⟨1, [.tmp 2], true, false,
 (.seq (.region [⟨(some 1), none, .lbox (.t 0)⟩,
   ⟨(some 2), none, .asg (.c (.b false))⟩] none [1])
 (.seq (.region [⟨(some 3), none, .load (some 5) (.t 1)⟩,
   ⟨(some 4), none, .call (.c (.fn (.func F_ref02_count) [] [])) [(.t 3), (.c (.i .i64 40)), (.c (.i .i64 150))]⟩,
   ⟨(some 5), none, .bin .leq (.t 4) (.c (.i .i64 150))⟩,
   ⟨(some 2), none, .asg (.t 5)⟩] none [2])
 .ret))⟩

def ir_ref02_count_L0 : ACode :=
 (.seq (.seq (.region [⟨(some 18), none, .mov (.t 8)⟩,
   ⟨(some 19), none, .fld 4 (.t 3)⟩,
   ⟨(some 20), none, .load none (.t 19)⟩,
   ⟨(some 21), none, .len 0 (.t 20)⟩,
   ⟨(some 22), none, .bin .lss (.t 18) (.t 21)⟩,
   ⟨(some 23), none, .mov (.t 22)⟩,
   ⟨(some 24), some (23, true), .mov (.t 7)⟩,
   ⟨(some 25), some (23, true), .mov (.t 2)⟩,
   ⟨(some 26), some (23, true), .bin .leq (.t 24) (.t 25)⟩,
   ⟨(some 27), none, .pick (.t 23) (.t 26) (.c (.b false))⟩] none [1, 2, 3, 7, 8, 27])
 (.cond (.t 27)
  .skip
  (.exit 0)))
 (.seq (.block 1
  (.region [⟨(some 30), none, .mov (.t 7)⟩,
    ⟨(some 31), none, .fld 4 (.t 3)⟩,
    ⟨(some 32), none, .load none (.t 31)⟩,
    ⟨(some 33), none, .mov (.t 8)⟩,
    ⟨(some 34), none, .idx 5 (.t 32) (.t 33)⟩,
    ⟨(some 35), none, .load (some 5) (.t 34)⟩,
    ⟨(some 36), none, .mov (.t 1)⟩,
    ⟨(some 37), none, .bin .sub (.t 36) (.c (.i .i64 1))⟩,
    ⟨(some 38), none, .mov (.t 2)⟩,
    ⟨(some 39), none, .mov (.t 7)⟩,
    ⟨(some 40), none, .bin .sub (.t 38) (.t 39)⟩,
    ⟨(some 41), none, .call (.c (.fn (.func F_ref02_count) [] [])) [(.t 35), (.t 37), (.t 40)]⟩,
    ⟨(some 42), none, .bin .add (.t 30) (.t 41)⟩,
    ⟨(some 7), none, .asg (.t 42)⟩] none [1, 2, 3, 7, 8]))
 (.region [⟨(some 28), none, .mov (.t 8)⟩,
   ⟨(some 29), none, .bin .add (.t 28) (.c (.i .i64 1))⟩,
   ⟨(some 8), none, .asg (.t 29)⟩] none [1, 2, 3, 7, 8])))
/-- veilstone/veilstoneref02.count -/
def ir_ref02_count : AFun := ⟨3, [.tmp 6], true, false,
 (.seq (.region [⟨(some 3), none, .lbox (.t 0)⟩,
   ⟨(some 6), none, .asg (.c (.i .i64 0))⟩] none [1, 2, 3])
 (.seq (.seq (.region [⟨(some 9), none, .mov (.t 1)⟩,
   ⟨(some 10), none, .bin .leq (.t 9) (.c (.i .i64 0))⟩] none [1, 2, 3, 10])
 (.cond (.t 10)
  (.seq (.region [⟨(some 11), none, .mov (.t 2)⟩,
    ⟨(some 12), none, .bin .add (.t 11) (.c (.i .i64 1))⟩,
    ⟨(some 6), none, .asg (.t 12)⟩] none [6])
  .ret)
  .skip))
 (.seq (.region [⟨(some 13), none, .fld 1 (.t 3)⟩,
   ⟨(some 14), none, .load none (.t 13)⟩,
   ⟨(some 15), none, .len 1 (.t 14)⟩,
   ⟨(some 16), none, .bin .quo (.t 15) (.c (.i .i64 40))⟩,
   ⟨(some 17), none, .bin .add (.c (.i .i64 1)) (.t 16)⟩,
   ⟨(some 7), none, .asg (.t 17)⟩] none [1, 2, 3, 7])
 (.seq (.seq (.region [⟨(some 8), none, .asg (.c (.i .i64 0))⟩] none [1, 2, 3, 7, 8])
 (.block 0
  (.loop [1, 2, 3, 7, 8] ir_ref02_count_L0)))
 (.seq (.region [⟨(some 43), none, .mov (.t 7)⟩,
   ⟨(some 6), none, .asg (.t 43)⟩] none [6])
 .ret)))))⟩

def ir_law06_has_L0 : ACode :=
 (.seq (.seq (.region [⟨(some 6), none, .mov (.t 5)⟩,
   ⟨(some 7), none, .mov (.t 0)⟩,
   ⟨(some 8), none, .len 0 (.t 7)⟩,
   ⟨(some 9), none, .bin .lss (.t 6) (.t 8)⟩] none [0, 1, 5, 9])
 (.cond (.t 9)
  .skip
  (.exit 0)))
 (.seq (.block 1
  (.seq (.region [⟨(some 12), none, .mov (.t 0)⟩,
    ⟨(some 13), none, .mov (.t 5)⟩,
    ⟨(some 14), none, .idx 1 (.t 12) (.t 13)⟩,
    ⟨(some 15), none, .load none (.t 14)⟩,
    ⟨(some 16), none, .mov (.t 1)⟩,
    ⟨(some 17), none, .bin .eql (.t 15) (.t 16)⟩] none [0, 1, 5, 17])
  (.cond (.t 17)
   (.seq (.region [⟨(some 4), none, .asg (.c (.b true))⟩] none [4])
   .ret)
   .skip)))
 (.region [⟨(some 10), none, .mov (.t 5)⟩,
   ⟨(some 11), none, .bin .add (.t 10) (.c (.i .i64 1))⟩,
   ⟨(some 5), none, .asg (.t 11)⟩] none [0, 1, 5])))
/-- veilstone/veilstonelaw06.has -/
def ir_law06_has : AFun := ⟨2, [.tmp 4], true, false,
 (.seq (.region [⟨(some 4), none, .asg (.c (.b false))⟩] none [0, 1])
 (.seq (.seq (.region [⟨(some 5), none, .asg (.c (.i .i64 0))⟩] none [0, 1, 5])
 (.block 0
  (.loop [0, 1, 5] ir_law06_has_L0)))
 (.seq (.region [⟨(some 4), none, .asg (.c (.b false))⟩] none [4])
 .ret)))⟩

end Go.Ai.Z
