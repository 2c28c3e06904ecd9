/-
  Functions whose answer is known.
-/
import Derived.Test.YtomjajnlomdhpaaGreatDoorAiA1
import Derived.Lib.ItoaLen
import Derived.Lib.Bytealg
set_option maxRecDepth 100000
set_option linter.unusedSimpArgs false
set_option linter.unusedVariables false
namespace Go.Ai

/-- strings.Join. -/
def joinL (sep : List UInt8) : List (List UInt8) → List UInt8
  | [] => []
  | x :: r => x ++ r.flatMap fun y => sep ++ y
def strOf : AV → Option (List UInt8)
  | .s l => some l
  | _ => none
def iJoin : List AV → Option AV
  | [.sl es, .s sep] => (es.mapM strOf).bind fun l => if (joinL sep l).length ≤ 1048576 ∧ l.length ≤ 1048576 then some (.s (joinL sep l)) else none
  | _ => none

/-- strconv.Itoa. -/
def iItoa : List AV → Option AV
  | [.i .i64 n] => if -9223372036854775808 ≤ n ∧ n ≤ 9223372036854775807 then some (.s (Lib.itoa n)) else none
  | _ => none

/-- Where a byte stands first: what is before it, and what is behind. -/
def cutB (b : UInt8) : List UInt8 → Option (List UInt8 × List UInt8)
  | [] => none
  | x :: r => if x = b then some ([], r) else (cutB b r).map fun p => (x :: p.1, p.2)
/-- strings.Index of one byte. -/
def iIndex : List AV → Option AV
  | [.s l, .s [b]] => some (.i .i64 (Lib.indexByte l b))
  | _ => none

/-- strings.Compare. -/
def iCompare : List AV → Option AV
  | [.s a, .s b] => some (.i .i64 (Lib.compareBytes a b))
  | _ => none

end Go.Ai

/-
  Numbers of functions, types and variables: written by program.
-/
namespace Go.Ai.Z
abbrev F_law04_PrinterDistinct : Nat := 3
abbrev F_law04_sane : Nat := 7
abbrev F_ref02_FewAxiom : Nat := 8
abbrev F_printer_Axiom : Nat := 9
abbrev F_terms_CompareAxiom : Nat := 10
abbrev F_law04_named : Nat := 28
abbrev F_law04_and : Nat := 27
abbrev F_law04_some : Nat := 26
abbrev F_law04_prints : Nat := 25
abbrev F_law04_states : Nat := 29
abbrev F_printer_Document : Nat := 30
abbrev F_printer_Concept : Nat := 64
abbrev F_terms_CheckConcept : Nat := 68
abbrev F_printer_newPrinter : Nat := 33
abbrev F_printer_printer_text : Nat := 109
abbrev F_terms_fits : Nat := 112
abbrev F_terms_walk : Nat := 113
abbrev F_terms_checkFields : Nat := 114
abbrev F_terms_walk_1 : Nat := 137
abbrev F_terms_visit : Nat := 138
abbrev F_terms_isPlain : Nat := 111
abbrev F_terms_isReserved : Nat := 130
abbrev F_strings_Cut : Nat := 135
abbrev F_terms_isWord : Nat := 136
abbrev F_internal_stringslite_Cut : Nat := 160
abbrev F_internal_stringslite_Index : Nat := 175
abbrev F_terms_isLetter : Nat := 161
abbrev F_terms_isTail : Nat := 148
abbrev F_lexis_Keyword : Nat := 162
abbrev F_printer_printer_top : Nat := 70
abbrev F_printer_printer_bottom : Nat := 71
abbrev F_printer_printer_named : Nat := 72
abbrev F_printer_printer_nominal : Nat := 73
abbrev F_printer_printer_and : Nat := 74
abbrev F_printer_printer_some : Nat := 75
abbrev F_printer_printer_span : Nat := 76
abbrev F_printer_printer_sub : Nat := 77
abbrev F_printer_printer_same : Nat := 78
abbrev F_printer_printer_disjoint : Nat := 79
abbrev F_printer_printer_domain : Nat := 80
abbrev F_printer_printer_role : Nat := 81
abbrev F_printer_printer_chain : Nat := 82
abbrev F_printer_printer_reflexive : Nat := 83
abbrev F_printer_printer_typing : Nat := 84
abbrev F_printer_printer_link : Nat := 85
abbrev F_printer_printer_operand : Nat := 116
abbrev F_strings_Join : Nat := 117
abbrev F_printer_words : Nat := 86
abbrev F_strconv_Itoa : Nat := 118
abbrev F_terms_CheckAxiom : Nat := 32
abbrev F_printer_printer_axiom : Nat := 34
abbrev F_terms_isShaped : Nat := 66
abbrev F_terms_isNamed : Nat := 67
abbrev F_terms_isBare : Nat := 69
abbrev F_terms_isEmpty : Nat := 110
abbrev F_terms_CheckName : Nat := 101
abbrev F_slices_ContainsFunc_api_Concept_api_Concept : Nat := 115
abbrev F_slices_IndexFunc_api_Concept_api_Concept : Nat := 139
abbrev F_ref02_Few : Nat := 31
abbrev F_ref02_count : Nat := 65
abbrev F_terms_weight : Nat := 37
abbrev F_cmp_Compare_int : Nat := 36
abbrev F_cmp_Or_int : Nat := 35
abbrev F_terms_Compare : Nat := 38
abbrev F_slices_Compare_string_string : Nat := 39
abbrev F_strings_Compare : Nat := 40
abbrev F_terms_Size : Nat := 88
abbrev F_cmp_isNaN_int : Nat := 87
abbrev F_terms_grow : Nat := 89
abbrev F_terms_tree_compare : Nat := 90
abbrev F_slices_CompareFunc_terms_tree_terms_tree_terms_tree_terms_tree : Nat := 119
abbrev F_cmp_Compare_string : Nat := 91
abbrev F_cmp_isNaN_string : Nat := 120
abbrev T_api_Concept_1 : Nat := 24
abbrev T_string_0 : Nat := 9
abbrev T_uint8_0 : Nat := 5
abbrev T_int_0 : Nat := 3
abbrev T_terms_tree_1 : Nat := 125
abbrev G_terms_needs : Nat := 2
abbrev G_terms_uses : Nat := 0
abbrev G_internal_strconv_uint64pow10 : Nat := 3
end Go.Ai.Z

/-
  The program's functions in the small language: written by program.
-/
namespace Go.Ai.Z
/-- veilstone/veilstonelaw04.PrinterDistinct -/
def ir_law04_PrinterDistinct : AFun := ⟨2, [.tmp 4], true, false,
 (.seq (.region [⟨(some 2), none, .lbox (.t 0)⟩,
   ⟨(some 3), none, .lbox (.t 1)⟩,
   ⟨(some 4), none, .asg (.c (.b false))⟩] none [2, 3])
 (.seq (.seq (.region [⟨(some 9), none, .call (.c (.fn (.func F_law04_sane) [] [])) []⟩,
   ⟨(some 10), none, .un .not (.t 9)⟩] none [2, 3, 10])
 (.cond (.t 10)
  (.seq (.region [⟨(some 4), none, .asg (.c (.b false))⟩] none [4])
  .ret)
  .skip))
 (.seq (.seq (.region [⟨(some 11), none, .load (some 16) (.t 2)⟩,
   ⟨(some 12), none, .call (.c (.fn (.func F_ref02_FewAxiom) [] [])) [(.t 11)]⟩,
   ⟨(some 13), none, .un .not (.t 12)⟩,
   ⟨(some 14), none, .mov (.t 13)⟩,
   ⟨(some 15), some (14, false), .load (some 16) (.t 3)⟩,
   ⟨(some 16), some (14, false), .call (.c (.fn (.func F_ref02_FewAxiom) [] [])) [(.t 15)]⟩,
   ⟨(some 17), some (14, false), .un .not (.t 16)⟩,
   ⟨(some 18), none, .pick (.t 14) (.c (.b true)) (.t 17)⟩] none [2, 3, 18])
 (.cond (.t 18)
  (.seq (.region [⟨(some 4), none, .asg (.c (.b true))⟩] none [4])
  .ret)
  .skip))
 (.seq (.region [⟨(some 20), none, .load (some 16) (.t 2)⟩,
   ⟨(some 21), none, .call (.c (.fn (.func F_printer_Axiom) [] [])) [(.t 20)]⟩,
   ⟨(some 19), none, .mov (.t 21)⟩,
   ⟨(some 22), none, .ext (.t 19) 0⟩,
   ⟨(some 23), none, .ext (.t 19) 1⟩,
   ⟨(some 5), none, .asg (.t 22)⟩,
   ⟨(some 6), none, .asg (.t 23)⟩] none [2, 3, 5, 6])
 (.seq (.region [⟨(some 25), none, .load (some 16) (.t 3)⟩,
   ⟨(some 26), none, .call (.c (.fn (.func F_printer_Axiom) [] [])) [(.t 25)]⟩,
   ⟨(some 24), none, .mov (.t 26)⟩,
   ⟨(some 27), none, .ext (.t 24) 0⟩,
   ⟨(some 28), none, .ext (.t 24) 1⟩,
   ⟨(some 7), none, .asg (.t 27)⟩,
   ⟨(some 8), none, .asg (.t 28)⟩] none [2, 3, 5, 6, 7, 8])
 (.seq (.region [⟨(some 29), none, .mov (.t 6)⟩,
   ⟨(some 30), none, .bin .neq (.t 29) (.c (.i .i64 0))⟩,
   ⟨(some 31), none, .mov (.t 30)⟩,
   ⟨(some 32), some (31, false), .mov (.t 8)⟩,
   ⟨(some 33), some (31, false), .bin .neq (.t 32) (.c (.i .i64 0))⟩,
   ⟨(some 34), none, .pick (.t 31) (.c (.b true)) (.t 33)⟩,
   ⟨(some 35), none, .mov (.t 34)⟩,
   ⟨(some 36), some (35, false), .mov (.t 5)⟩,
   ⟨(some 37), some (35, false), .mov (.t 7)⟩,
   ⟨(some 38), some (35, false), .bin .eql (.t 36) (.t 37)⟩,
   ⟨(some 39), some (35, false), .fld 1 (.t 2)⟩,
   ⟨(some 40), some (35, false), .load none (.t 39)⟩,
   ⟨(some 41), some (35, false), .fld 1 (.t 3)⟩,
   ⟨(some 42), some (35, false), .load none (.t 41)⟩,
   ⟨(some 43), some (35, false), .beq false (.t 40) (.t 42)⟩,
   ⟨(some 44), some (35, false), .mov (.t 43)⟩,
   ⟨(some 45), some (44, true), .load (some 16) (.t 2)⟩,
   ⟨(some 46), some (44, true), .load (some 16) (.t 3)⟩,
   ⟨(some 47), some (44, true), .call (.c (.fn (.func F_terms_CompareAxiom) [] [])) [(.t 45), (.t 46)]⟩,
   ⟨(some 48), some (44, true), .bin .eql (.t 47) (.c (.i .i64 0))⟩,
   ⟨(some 49), some (35, false), .pick (.t 44) (.t 48) (.c (.b false))⟩,
   ⟨(some 50), some (35, false), .beq false (.t 38) (.t 49)⟩,
   ⟨(some 51), none, .pick (.t 35) (.c (.b true)) (.t 50)⟩,
   ⟨(some 4), none, .asg (.t 51)⟩] none [4])
 .ret))))))⟩

/-- veilstone/veilstonelaw04.sane -/
def ir_law04_sane : AFun := ⟨0, [.tmp 0], true, false,
 (.seq (.region [⟨(some 0), none, .asg (.c (.b false))⟩] none [])
 (.seq (.region [⟨(some 7), none, .build [(.i .i64 0), (.s []), (.i .i64 0), (.i .i64 0), .ns] [(0, 1, (.c (.i .i64 1)))]⟩,
   ⟨(some 1), none, .lalloc [(.i .i64 0), (.s []), (.i .i64 0), (.i .i64 0), .ns]⟩,
   ⟨none, none, .store 5 (.t 1) (.t 7)⟩] none [1])
 (.seq (.region [⟨(some 8), none, .build [(.i .i64 0), (.s []), (.i .i64 0), (.i .i64 0), .ns] [(0, 1, (.c (.i .i64 4))), (1, 1, (.c (.s [98])))]⟩,
   ⟨(some 2), none, .lalloc [(.i .i64 0), (.s []), (.i .i64 0), (.i .i64 0), .ns]⟩,
   ⟨none, none, .store 5 (.t 2) (.t 8)⟩] none [1, 2])
 (.seq (.seq (.region [⟨(some 9), none, .call (.c (.fn (.func F_law04_named) [] [])) [(.c (.s [65]))]⟩,
   ⟨(some 10), none, .load (some 5) (.t 2)⟩,
   ⟨(some 11), none, .bsl false T_api_Concept_1 5 2 [(.i .i64 0), (.s []), (.i .i64 0), (.i .i64 0), .ns] [(0, (.t 9)), (1, (.t 10))]⟩,
   ⟨(some 12), none, .call (.c (.fn (.func F_law04_and) [] [])) [(.t 11)]⟩,
   ⟨(some 13), none, .call (.c (.fn (.func F_law04_some) [] [])) [(.c (.s [114])), (.t 12)]⟩,
   ⟨(some 14), none, .call (.c (.fn (.func F_law04_prints) [] [])) [(.t 13), (.c (.s [115, 111, 109, 101, 32, 114, 32, 40, 65, 32, 97, 110, 100, 32, 123, 98, 125, 41]))]⟩,
   ⟨(some 15), none, .un .not (.t 14)⟩,
   ⟨(some 16), none, .mov (.t 15)⟩,
   ⟨(some 17), some (16, false), .call (.c (.fn (.func F_law04_named) [] [])) [(.c (.s [65]))]⟩,
   ⟨(some 18), some (16, false), .call (.c (.fn (.func F_law04_named) [] [])) [(.c (.s [66]))]⟩,
   ⟨(some 19), some (16, false), .call (.c (.fn (.func F_law04_named) [] [])) [(.c (.s [67]))]⟩,
   ⟨(some 20), some (16, false), .bsl false T_api_Concept_1 5 2 [(.i .i64 0), (.s []), (.i .i64 0), (.i .i64 0), .ns] [(0, (.t 18)), (1, (.t 19))]⟩,
   ⟨(some 21), some (16, false), .call (.c (.fn (.func F_law04_and) [] [])) [(.t 20)]⟩,
   ⟨(some 22), some (16, false), .bsl false T_api_Concept_1 5 2 [(.i .i64 0), (.s []), (.i .i64 0), (.i .i64 0), .ns] [(0, (.t 17)), (1, (.t 21))]⟩,
   ⟨(some 23), some (16, false), .call (.c (.fn (.func F_law04_and) [] [])) [(.t 22)]⟩,
   ⟨(some 24), some (16, false), .call (.c (.fn (.func F_law04_prints) [] [])) [(.t 23), (.c (.s [65, 32, 97, 110, 100, 32, 40, 66, 32, 97, 110, 100, 32, 67, 41]))]⟩,
   ⟨(some 25), some (16, false), .un .not (.t 24)⟩,
   ⟨(some 26), none, .pick (.t 16) (.c (.b true)) (.t 25)⟩] (some ([0, 1, 2, 3, 4, 5, 6, 7, 8, 9, 10, 11, 12, 13, 14, 15, 16, 17], [])) [1, 26])
 (.cond (.t 26)
  (.seq (.region [⟨(some 0), none, .asg (.c (.b false))⟩] none [0])
  .ret)
  .skip))
 (.seq (.seq (.region [⟨(some 27), none, .load (some 5) (.t 1)⟩,
   ⟨(some 28), none, .call (.c (.fn (.func F_law04_some) [] [])) [(.c (.s [115])), (.t 27)]⟩,
   ⟨(some 29), none, .call (.c (.fn (.func F_law04_some) [] [])) [(.c (.s [114])), (.t 28)]⟩,
   ⟨(some 30), none, .call (.c (.fn (.func F_law04_prints) [] [])) [(.t 29), (.c (.s [115, 111, 109, 101, 32, 114, 32, 115, 111, 109, 101, 32, 115, 32, 101, 118, 101, 114, 121, 116, 104, 105, 110, 103]))]⟩,
   ⟨(some 31), none, .un .not (.t 30)⟩,
   ⟨(some 32), none, .mov (.t 31)⟩,
   ⟨(some 33), some (32, false), .build [(.i .i64 0), (.s []), (.i .i64 0), (.i .i64 0), .ns] [(0, 1, (.c (.i .i64 7))), (1, 1, (.c (.s [97, 103, 101]))), (2, 1, (.c (.i .i64 (-5))))]⟩,
   ⟨(some 34), some (32, false), .call (.c (.fn (.func F_law04_prints) [] [])) [(.t 33), (.c (.s [97, 103, 101, 32, 105, 110, 32, 45, 53, 32, 116, 111, 32, 48]))]⟩,
   ⟨(some 35), some (32, false), .un .not (.t 34)⟩,
   ⟨(some 36), none, .pick (.t 32) (.c (.b true)) (.t 35)⟩] none [36])
 (.cond (.t 36)
  (.seq (.region [⟨(some 0), none, .asg (.c (.b false))⟩] none [0])
  .ret)
  .skip))
 (.seq (.seq (.region [⟨(some 37), none, .build [(.i .i64 0), (.b false), (.i .i64 0), (.s []), (.i .i64 0), (.i .i64 0), .ns, (.i .i64 0), (.s []), (.i .i64 0), (.i .i64 0), .ns, .ns, (.s []), (.s []), (.s [])] [(0, 1, (.c (.i .i64 9))), (1, 1, (.c (.b true))), (13, 1, (.c (.s [114]))), (14, 1, (.c (.s [97]))), (15, 1, (.c (.s [98])))]⟩,
   ⟨(some 38), none, .call (.c (.fn (.func F_law04_states) [] [])) [(.t 37), (.c (.s [111, 112, 101, 110, 32, 108, 105, 110, 107, 32, 97, 32, 114, 32, 98]))]⟩,
   ⟨(some 39), none, .un .not (.t 38)⟩,
   ⟨(some 40), none, .mov (.t 39)⟩,
   ⟨(some 41), some (40, false), .bsl false T_string_0 1 1 [(.s [])] [(0, (.c (.s [114])))]⟩,
   ⟨(some 42), some (40, false), .build [(.i .i64 0), (.b false), (.i .i64 0), (.s []), (.i .i64 0), (.i .i64 0), .ns, (.i .i64 0), (.s []), (.i .i64 0), (.i .i64 0), .ns, .ns, (.s []), (.s []), (.s [])] [(0, 1, (.c (.i .i64 5))), (12, 1, (.t 41)), (13, 1, (.c (.s [115])))]⟩,
   ⟨(some 43), some (40, false), .call (.c (.fn (.func F_law04_states) [] [])) [(.t 42), (.c (.s [112, 114, 105, 118, 97, 116, 101, 32, 114, 111, 108, 101, 32, 114, 32, 115, 117, 98, 32, 115]))]⟩,
   ⟨(some 44), some (40, false), .un .not (.t 43)⟩,
   ⟨(some 45), none, .pick (.t 40) (.c (.b true)) (.t 44)⟩] none [45])
 (.cond (.t 45)
  (.seq (.region [⟨(some 0), none, .asg (.c (.b false))⟩] none [0])
  .ret)
  .skip))
 (.seq (.region [⟨(some 47), none, .call (.c (.fn (.func F_printer_Document) [] [])) [(.c .ns)]⟩,
   ⟨(some 46), none, .mov (.t 47)⟩,
   ⟨(some 48), none, .ext (.t 46) 0⟩,
   ⟨(some 49), none, .ext (.t 46) 1⟩,
   ⟨(some 3), none, .asg (.t 48)⟩,
   ⟨(some 4), none, .asg (.t 49)⟩] none [3, 4])
 (.seq (.region [⟨(some 51), none, .build [(.i .i64 0), (.b false), (.i .i64 0), (.s []), (.i .i64 0), (.i .i64 0), .ns, (.i .i64 0), (.s []), (.i .i64 0), (.i .i64 0), .ns, .ns, (.s []), (.s []), (.s [])] []⟩,
   ⟨(some 52), none, .call (.c (.fn (.func F_printer_Axiom) [] [])) [(.t 51)]⟩,
   ⟨(some 50), none, .mov (.t 52)⟩,
   ⟨(some 53), none, .ext (.t 50) 0⟩,
   ⟨(some 54), none, .ext (.t 50) 1⟩,
   ⟨(some 5), none, .asg (.t 53)⟩,
   ⟨(some 6), none, .asg (.t 54)⟩] none [3, 4, 6])
 (.seq (.region [⟨(some 55), none, .mov (.t 3)⟩,
   ⟨(some 56), none, .len 0 (.t 55)⟩,
   ⟨(some 57), none, .bin .eql (.t 56) (.c (.i .i64 0))⟩,
   ⟨(some 58), none, .mov (.t 57)⟩,
   ⟨(some 59), some (58, true), .mov (.t 4)⟩,
   ⟨(some 60), some (58, true), .bin .eql (.t 59) (.c (.i .i64 0))⟩,
   ⟨(some 61), none, .pick (.t 58) (.t 60) (.c (.b false))⟩,
   ⟨(some 62), none, .mov (.t 61)⟩,
   ⟨(some 63), some (62, true), .mov (.t 6)⟩,
   ⟨(some 64), some (62, true), .bin .eql (.t 63) (.c (.i .i64 22))⟩,
   ⟨(some 65), none, .pick (.t 62) (.t 64) (.c (.b false))⟩,
   ⟨(some 0), none, .asg (.t 65)⟩] none [0])
 .ret)))))))))⟩

/-- veilstone/veilstonelaw04.named -/
def ir_law04_named : AFun := ⟨1, [.cell 2 (some 5)], true, false,
 (.seq (.region [⟨(some 2), none, .lalloc [(.i .i64 0), (.s []), (.i .i64 0), (.i .i64 0), .ns]⟩] none [0, 2])
 (.seq (.region [⟨(some 3), none, .mov (.t 0)⟩,
   ⟨(some 4), none, .build [(.i .i64 0), (.s []), (.i .i64 0), (.i .i64 0), .ns] [(0, 1, (.c (.i .i64 3))), (1, 1, (.t 3))]⟩,
   ⟨none, none, .store 5 (.t 2) (.t 4)⟩] none [2])
 .ret))⟩

/-- veilstone/veilstonelaw04.and -/
def ir_law04_and : AFun := ⟨1, [.cell 2 (some 5)], true, false,
 (.seq (.region [⟨(some 2), none, .lalloc [(.i .i64 0), (.s []), (.i .i64 0), (.i .i64 0), .ns]⟩] none [0, 2])
 (.seq (.region [⟨(some 3), none, .mov (.t 0)⟩,
   ⟨(some 4), none, .build [(.i .i64 0), (.s []), (.i .i64 0), (.i .i64 0), .ns] [(0, 1, (.c (.i .i64 5))), (4, 1, (.t 3))]⟩,
   ⟨none, none, .store 5 (.t 2) (.t 4)⟩] none [2])
 .ret))⟩

/-- veilstone/veilstonelaw04.some -/
def ir_law04_some : AFun := ⟨2, [.cell 4 (some 5)], true, false,
 (.seq (.region [⟨(some 3), none, .lbox (.t 1)⟩,
   ⟨(some 4), none, .lalloc [(.i .i64 0), (.s []), (.i .i64 0), (.i .i64 0), .ns]⟩] none [0, 3, 4])
 (.seq (.region [⟨(some 5), none, .mov (.t 0)⟩,
   ⟨(some 6), none, .load (some 5) (.t 3)⟩,
   ⟨(some 7), none, .bsl false T_api_Concept_1 5 1 [(.i .i64 0), (.s []), (.i .i64 0), (.i .i64 0), .ns] [(0, (.t 6))]⟩,
   ⟨(some 8), none, .build [(.i .i64 0), (.s []), (.i .i64 0), (.i .i64 0), .ns] [(0, 1, (.c (.i .i64 6))), (1, 1, (.t 5)), (4, 1, (.t 7))]⟩,
   ⟨none, none, .store 5 (.t 4) (.t 8)⟩] none [4])
 .ret))⟩

/-- veilstone/veilstonelaw04.prints -/
def ir_law04_prints : AFun := ⟨2, [.tmp 4], true, false,
 (.seq (.region [⟨(some 2), none, .lbox (.t 0)⟩,
   ⟨(some 4), none, .asg (.c (.b false))⟩] none [1, 2])
 (.seq (.region [⟨(some 8), none, .load (some 5) (.t 2)⟩,
   ⟨(some 9), none, .call (.c (.fn (.func F_printer_Concept) [] [])) [(.t 8)]⟩,
   ⟨(some 7), none, .mov (.t 9)⟩,
   ⟨(some 10), none, .ext (.t 7) 0⟩,
   ⟨(some 11), none, .ext (.t 7) 1⟩,
   ⟨(some 5), none, .asg (.t 10)⟩,
   ⟨(some 6), none, .asg (.t 11)⟩] none [1, 5, 6])
 (.seq (.region [⟨(some 12), none, .mov (.t 5)⟩,
   ⟨(some 13), none, .mov (.t 1)⟩,
   ⟨(some 14), none, .bin .eql (.t 12) (.t 13)⟩,
   ⟨(some 15), none, .mov (.t 14)⟩,
   ⟨(some 16), some (15, true), .mov (.t 6)⟩,
   ⟨(some 17), some (15, true), .bin .eql (.t 16) (.c (.i .i64 0))⟩,
   ⟨(some 18), none, .pick (.t 15) (.t 17) (.c (.b false))⟩,
   ⟨(some 4), none, .asg (.t 18)⟩] none [4])
 .ret)))⟩

/-- veilstone/printer.Concept -/
def ir_printer_Concept : AFun := ⟨1, [.tmp 2, .tmp 3], true, false,
 (.seq (.region [⟨(some 1), none, .lbox (.t 0)⟩,
   ⟨(some 2), none, .asg (.c (.s []))⟩,
   ⟨(some 3), none, .asg (.c (.i .i64 0))⟩] none [1])
 (.seq (.seq (.region [⟨(some 5), none, .load (some 5) (.t 1)⟩,
   ⟨(some 6), none, .call (.c (.fn (.func F_terms_CheckConcept) [] [])) [(.t 5)]⟩,
   ⟨(some 4), none, .asg (.t 6)⟩] none [1, 4])
 (.seq (.region [⟨(some 7), none, .mov (.t 4)⟩,
   ⟨(some 8), none, .bin .neq (.t 7) (.c (.i .i64 0))⟩] none [1, 4, 8])
 (.cond (.t 8)
  (.seq (.region [⟨(some 9), none, .mov (.t 4)⟩,
    ⟨(some 2), none, .asg (.c (.s []))⟩,
    ⟨(some 3), none, .asg (.t 9)⟩] none [2, 3])
  .ret)
  .skip)))
 (.seq (.region [⟨(some 10), none, .call (.c (.fn (.func F_printer_newPrinter) [] [])) []⟩,
   ⟨(some 11), none, .load (some 5) (.t 1)⟩,
   ⟨(some 12), none, .call (.c (.fn (.func F_printer_printer_text) [] [])) [(.t 10), (.t 11)]⟩,
   ⟨(some 2), none, .asg (.t 12)⟩,
   ⟨(some 3), none, .asg (.c (.i .i64 0))⟩] (some ([0, 1, 2, 3, 4], [])) [2, 3])
 .ret)))⟩

def ir_terms_CheckConcept_R0 : ACode :=
 (.block 1
  (.seq (.region [⟨(some 12), none, .load (some 5) (.t 4)⟩,
    ⟨(some 13), none, .call (.c (.fn (.func F_terms_checkFields) [] [])) [(.t 12)]⟩,
    ⟨(some 5), none, .asg (.t 13)⟩] none [2, 5])
  (.seq (.region [⟨(some 14), none, .mov (.t 5)⟩,
    ⟨(some 15), none, .bin .neq (.t 14) (.c (.i .i64 0))⟩] none [2, 5, 15])
  (.cond (.t 15)
   (.seq (.region [⟨(some 16), none, .mov (.t 5)⟩,
     ⟨none, none, .store 1 (.t 2) (.t 16)⟩] none [])
   .ret)
   .skip))))
def ir_terms_CheckConcept_A0 : ACode :=
 (.region [⟨(some 4), none, .halloc [(.i .i64 0), (.s []), (.i .i64 0), (.i .i64 0), .ns]⟩,
   ⟨none, none, .store 5 (.t 4) (.t 11)⟩] none [2, 4])
/-- veilstone/terms.CheckConcept -/
def ir_terms_CheckConcept : AFun := ⟨1, [.cell 2 none], true, false,
 (.seq (.region [⟨(some 1), none, .lbox (.t 0)⟩,
   ⟨(some 2), none, .halloc [(.i .i64 0)]⟩] none [1, 2])
 (.seq (.region [⟨(some 3), none, .halloc [(.i .i64 0)]⟩,
   ⟨none, none, .store 1 (.t 3) (.c (.i .i64 0))⟩] none [1, 2, 3])
 (.seq (.seq (.region [⟨(some 6), none, .load (some 5) (.t 1)⟩,
   ⟨(some 7), none, .call (.c (.fn (.func F_terms_fits) [] [])) [(.t 6), (.c (.i .i64 0)), (.t 3)]⟩,
   ⟨(some 8), none, .un .not (.t 7)⟩] none [1, 2, 8])
 (.cond (.t 8)
  (.seq (.region [⟨none, none, .store 1 (.t 2) (.c (.i .i64 21))⟩] none [2])
  .ret)
  .skip))
 (.seq (.seq (.region [⟨(some 9), none, .load (some 5) (.t 1)⟩,
   ⟨(some 10), none, .call (.c (.fn (.func F_terms_walk) [] [])) [(.t 9)]⟩] none [2, 10])
 (.block 0
  (.range (.t 10) [11] ir_terms_CheckConcept_A0 ir_terms_CheckConcept_R0)))
 (.seq (.region [⟨none, none, .store 1 (.t 2) (.c (.i .i64 0))⟩] none [2])
 .ret)))))⟩

def ir_terms_fits_L0 : ACode :=
 (.seq (.region [⟨(some 26), none, .bin .lss (.t 25) (.t 24)⟩] none [1, 2, 23, 24, 25, 26])
 (.seq (.cond (.t 26)
  .skip
  (.exit 0))
 (.seq (.block 1
  (.seq (.region [⟨(some 27), none, .idx 5 (.t 23) (.t 25)⟩,
    ⟨(some 28), none, .load (some 5) (.t 27)⟩,
    ⟨(some 8), none, .lalloc [(.i .i64 0), (.s []), (.i .i64 0), (.i .i64 0), .ns]⟩,
    ⟨none, none, .store 5 (.t 8) (.t 28)⟩] none [1, 2, 8, 23, 24, 25])
  (.seq (.region [⟨(some 29), none, .load (some 5) (.t 8)⟩,
    ⟨(some 30), none, .mov (.t 1)⟩,
    ⟨(some 31), none, .bin .add (.t 30) (.c (.i .i64 1))⟩,
    ⟨(some 32), none, .mov (.t 2)⟩,
    ⟨(some 33), none, .call (.c (.fn (.func F_terms_fits) [] [])) [(.t 29), (.t 31), (.t 32)]⟩,
    ⟨(some 34), none, .un .not (.t 33)⟩] none [1, 2, 23, 24, 25, 34])
  (.cond (.t 34)
   (.seq (.region [⟨(some 6), none, .asg (.c (.b false))⟩] none [6])
   .ret)
   .skip))))
 (.region [⟨(some 35), none, .bin .add (.t 25) (.c (.i .i64 1))⟩,
   ⟨(some 25), none, .mov (.t 35)⟩] none [1, 2, 23, 24, 25]))))
/-- veilstone/terms.fits -/
def ir_terms_fits : AFun := ⟨3, [.tmp 6], false, false,
 (.seq (.region [⟨(some 3), none, .lbox (.t 0)⟩,
   ⟨(some 6), none, .asg (.c (.b false))⟩] none [1, 2, 3])
 (.seq (.region [⟨(some 9), none, .mov (.t 2)⟩,
   ⟨(some 10), none, .nilchk (.t 9)⟩,
   ⟨(some 11), none, .load none (.t 10)⟩,
   ⟨(some 12), none, .bin .add (.t 11) (.c (.i .i64 1))⟩,
   ⟨(some 13), none, .nilchk (.t 9)⟩,
   ⟨none, none, .store 1 (.t 13) (.t 12)⟩] none [1, 2, 3])
 (.seq (.seq (.region [⟨(some 14), none, .mov (.t 1)⟩,
   ⟨(some 15), none, .bin .gtr (.t 14) (.c (.i .i64 8))⟩,
   ⟨(some 16), none, .mov (.t 15)⟩,
   ⟨(some 17), some (16, false), .mov (.t 2)⟩,
   ⟨(some 18), some (16, false), .nilchk (.t 17)⟩,
   ⟨(some 19), some (16, false), .load none (.t 18)⟩,
   ⟨(some 20), some (16, false), .bin .gtr (.t 19) (.c (.i .i64 64))⟩,
   ⟨(some 21), none, .pick (.t 16) (.c (.b true)) (.t 20)⟩] none [1, 2, 3, 21])
 (.cond (.t 21)
  (.seq (.region [⟨(some 6), none, .asg (.c (.b false))⟩] none [6])
  .ret)
  .skip))
 (.seq (.seq (.region [⟨(some 22), none, .fld 4 (.t 3)⟩,
   ⟨(some 23), none, .load none (.t 22)⟩,
   ⟨(some 24), none, .len 0 (.t 23)⟩,
   ⟨(some 25), none, .mov (.c (.i .i64 0))⟩] none [1, 2, 23, 24, 25])
 (.block 0
  (.loop [1, 2, 23, 24, 25] ir_terms_fits_L0)))
 (.seq (.region [⟨(some 6), none, .asg (.c (.b true))⟩] none [6])
 .ret)))))⟩

/-- veilstone/terms.walk -/
def ir_terms_walk : AFun := ⟨1, [.tmp 2], true, false,
 (.seq (.region [⟨(some 1), none, .hbox (.t 0)⟩,
   ⟨(some 2), none, .asg (.c .nf)⟩] none [1])
 (.seq (.region [⟨(some 3), none, .mkfn (.func F_terms_walk_1) [] [(.t 1)]⟩,
   ⟨(some 2), none, .asg (.t 3)⟩] none [2])
 .ret))⟩

/-- veilstone/terms.walk$1 -/
def ir_terms_walk_1 : AFun := ⟨2, [], false, false,
 (.region [⟨(some 3), none, .load (some 5) (.t 1)⟩,
   ⟨(some 4), none, .mov (.t 0)⟩,
   ⟨(some 5), none, .call (.c (.fn (.func F_terms_visit) [] [])) [(.t 3), (.t 4)]⟩] none [])⟩

def ir_terms_visit_L0 : ACode :=
 (.seq (.region [⟨(some 15), none, .bin .lss (.t 14) (.t 13)⟩] none [1, 12, 13, 14, 15])
 (.seq (.cond (.t 15)
  .skip
  (.exit 0))
 (.seq (.block 1
  (.seq (.region [⟨(some 16), none, .idx 5 (.t 12) (.t 14)⟩,
    ⟨(some 17), none, .load (some 5) (.t 16)⟩,
    ⟨(some 6), none, .lalloc [(.i .i64 0), (.s []), (.i .i64 0), (.i .i64 0), .ns]⟩,
    ⟨none, none, .store 5 (.t 6) (.t 17)⟩] none [1, 6, 12, 13, 14])
  (.seq (.region [⟨(some 18), none, .load (some 5) (.t 6)⟩,
    ⟨(some 19), none, .mov (.t 1)⟩,
    ⟨(some 20), none, .call (.c (.fn (.func F_terms_visit) [] [])) [(.t 18), (.t 19)]⟩,
    ⟨(some 21), none, .un .not (.t 20)⟩] none [1, 12, 13, 14, 21])
  (.cond (.t 21)
   (.seq (.region [⟨(some 4), none, .asg (.c (.b false))⟩] none [4])
   .ret)
   .skip))))
 (.region [⟨(some 22), none, .bin .add (.t 14) (.c (.i .i64 1))⟩,
   ⟨(some 14), none, .mov (.t 22)⟩] none [1, 12, 13, 14]))))
/-- veilstone/terms.visit -/
def ir_terms_visit : AFun := ⟨2, [.tmp 4], false, false,
 (.seq (.region [⟨(some 2), none, .lbox (.t 0)⟩,
   ⟨(some 4), none, .asg (.c (.b false))⟩] none [1, 2])
 (.seq (.seq (.region [⟨(some 7), none, .mov (.t 1)⟩,
   ⟨(some 8), none, .load (some 5) (.t 2)⟩,
   ⟨(some 9), none, .call (.t 7) [(.t 8)]⟩,
   ⟨(some 10), none, .un .not (.t 9)⟩] none [1, 2, 10])
 (.cond (.t 10)
  (.seq (.region [⟨(some 4), none, .asg (.c (.b false))⟩] none [4])
  .ret)
  .skip))
 (.seq (.seq (.region [⟨(some 11), none, .fld 4 (.t 2)⟩,
   ⟨(some 12), none, .load none (.t 11)⟩,
   ⟨(some 13), none, .len 0 (.t 12)⟩,
   ⟨(some 14), none, .mov (.c (.i .i64 0))⟩] none [1, 12, 13, 14])
 (.block 0
  (.loop [1, 12, 13, 14] ir_terms_visit_L0)))
 (.seq (.region [⟨(some 4), none, .asg (.c (.b true))⟩] none [4])
 .ret))))⟩

/-- veilstone/terms.checkFields -/
def ir_terms_checkFields : AFun := ⟨1, [.tmp 2], true, false,
 (.seq (.region [⟨(some 1), none, .lbox (.t 0)⟩,
   ⟨(some 2), none, .asg (.c (.i .i64 0))⟩] none [1])
 (.seq (.seq (.region [⟨(some 4), none, .fld 0 (.t 1)⟩,
   ⟨(some 5), none, .load none (.t 4)⟩,
   ⟨(some 6), none, .bin .lss (.t 5) (.c (.i .i64 1))⟩,
   ⟨(some 7), none, .mov (.t 6)⟩,
   ⟨(some 8), some (7, false), .fld 0 (.t 1)⟩,
   ⟨(some 9), some (7, false), .load none (.t 8)⟩,
   ⟨(some 10), some (7, false), .bin .gtr (.t 9) (.c (.i .i64 7))⟩,
   ⟨(some 11), none, .pick (.t 7) (.c (.b true)) (.t 10)⟩] none [1, 11])
 (.cond (.t 11)
  (.seq (.region [⟨(some 2), none, .asg (.c (.i .i64 21))⟩] none [2])
  .ret)
  .skip))
 (.seq (.region [⟨(some 12), none, .fld 0 (.t 1)⟩,
   ⟨(some 13), none, .load none (.t 12)⟩,
   ⟨(some 14), none, .idxa 8 4 (.g G_terms_needs) (.t 13)⟩,
   ⟨(some 15), none, .load (some 4) (.t 14)⟩,
   ⟨(some 3), none, .lalloc [(.i .i64 0), (.i .i64 0), (.i .i64 0), (.b false)]⟩,
   ⟨none, none, .store 4 (.t 3) (.t 15)⟩] none [1, 3])
 (.seq (.seq (.region [⟨(some 16), none, .fld 4 (.t 1)⟩,
   ⟨(some 17), none, .load none (.t 16)⟩,
   ⟨(some 18), none, .len 0 (.t 17)⟩,
   ⟨(some 19), none, .fld 1 (.t 3)⟩,
   ⟨(some 20), none, .load none (.t 19)⟩,
   ⟨(some 21), none, .bin .lss (.t 18) (.t 20)⟩,
   ⟨(some 22), none, .mov (.t 21)⟩,
   ⟨(some 23), some (22, false), .fld 4 (.t 1)⟩,
   ⟨(some 24), some (22, false), .load none (.t 23)⟩,
   ⟨(some 25), some (22, false), .len 0 (.t 24)⟩,
   ⟨(some 26), some (22, false), .fld 2 (.t 3)⟩,
   ⟨(some 27), some (22, false), .load none (.t 26)⟩,
   ⟨(some 28), some (22, false), .bin .gtr (.t 25) (.t 27)⟩,
   ⟨(some 29), none, .pick (.t 22) (.c (.b true)) (.t 28)⟩,
   ⟨(some 30), none, .mov (.t 29)⟩,
   ⟨(some 31), some (30, false), .fld 0 (.t 3)⟩,
   ⟨(some 32), some (30, false), .load none (.t 31)⟩,
   ⟨(some 33), some (30, false), .bin .eql (.t 32) (.c (.i .i64 0))⟩,
   ⟨(some 34), some (30, false), .mov (.t 33)⟩,
   ⟨(some 35), some (34, true), .fld 1 (.t 1)⟩,
   ⟨(some 36), some (34, true), .load none (.t 35)⟩,
   ⟨(some 37), some (34, true), .bin .neq (.t 36) (.c (.s []))⟩,
   ⟨(some 38), some (30, false), .pick (.t 34) (.t 37) (.c (.b false))⟩,
   ⟨(some 39), none, .pick (.t 30) (.c (.b true)) (.t 38)⟩] none [1, 3, 39])
 (.cond (.t 39)
  (.seq (.region [⟨(some 2), none, .asg (.c (.i .i64 21))⟩] none [2])
  .ret)
  .skip))
 (.seq (.seq (.region [⟨(some 40), none, .fld 3 (.t 3)⟩,
   ⟨(some 41), none, .load none (.t 40)⟩] none [1, 3, 41])
 (.cond (.t 41)
  (.seq (.region [⟨(some 42), none, .fld 2 (.t 1)⟩,
    ⟨(some 43), none, .load none (.t 42)⟩,
    ⟨(some 44), none, .bin .lss (.t 43) (.c (.i .i64 (-1099511627776)))⟩,
    ⟨(some 45), none, .mov (.t 44)⟩,
    ⟨(some 46), some (45, false), .fld 2 (.t 1)⟩,
    ⟨(some 47), some (45, false), .load none (.t 46)⟩,
    ⟨(some 48), some (45, false), .fld 3 (.t 1)⟩,
    ⟨(some 49), some (45, false), .load none (.t 48)⟩,
    ⟨(some 50), some (45, false), .bin .gtr (.t 47) (.t 49)⟩,
    ⟨(some 51), none, .pick (.t 45) (.c (.b true)) (.t 50)⟩,
    ⟨(some 52), none, .mov (.t 51)⟩,
    ⟨(some 53), some (52, false), .fld 3 (.t 1)⟩,
    ⟨(some 54), some (52, false), .load none (.t 53)⟩,
    ⟨(some 55), some (52, false), .bin .gtr (.t 54) (.c (.i .i64 1099511627776))⟩,
    ⟨(some 56), none, .pick (.t 52) (.c (.b true)) (.t 55)⟩] none [1, 3, 56])
  (.cond (.t 56)
   (.seq (.region [⟨(some 2), none, .asg (.c (.i .i64 21))⟩] none [2])
   .ret)
   .skip))
  (.seq (.region [⟨(some 57), none, .fld 2 (.t 1)⟩,
    ⟨(some 58), none, .load none (.t 57)⟩,
    ⟨(some 59), none, .bin .neq (.t 58) (.c (.i .i64 0))⟩,
    ⟨(some 60), none, .mov (.t 59)⟩,
    ⟨(some 61), some (60, false), .fld 3 (.t 1)⟩,
    ⟨(some 62), some (60, false), .load none (.t 61)⟩,
    ⟨(some 63), some (60, false), .bin .neq (.t 62) (.c (.i .i64 0))⟩,
    ⟨(some 64), none, .pick (.t 60) (.c (.b true)) (.t 63)⟩] none [1, 3, 64])
  (.cond (.t 64)
   (.seq (.region [⟨(some 2), none, .asg (.c (.i .i64 21))⟩] none [2])
   .ret)
   .skip))))
 (.seq (.seq (.region [⟨(some 65), none, .fld 0 (.t 3)⟩,
   ⟨(some 66), none, .load none (.t 65)⟩,
   ⟨(some 67), none, .bin .eql (.t 66) (.c (.i .i64 0))⟩,
   ⟨(some 68), none, .mov (.t 67)⟩,
   ⟨(some 69), some (68, false), .fld 1 (.t 1)⟩,
   ⟨(some 70), some (68, false), .load none (.t 69)⟩,
   ⟨(some 71), some (68, false), .call (.c (.fn (.func F_terms_isPlain) [] [])) [(.t 70)]⟩,
   ⟨(some 72), none, .pick (.t 68) (.c (.b true)) (.t 71)⟩,
   ⟨(some 73), none, .mov (.t 72)⟩,
   ⟨(some 74), some (73, false), .fld 0 (.t 3)⟩,
   ⟨(some 75), some (73, false), .load none (.t 74)⟩,
   ⟨(some 76), some (73, false), .bin .eql (.t 75) (.c (.i .i64 2))⟩,
   ⟨(some 77), some (73, false), .mov (.t 76)⟩,
   ⟨(some 78), some (77, true), .fld 1 (.t 1)⟩,
   ⟨(some 79), some (77, true), .load none (.t 78)⟩,
   ⟨(some 80), some (77, true), .call (.c (.fn (.func F_terms_isReserved) [] [])) [(.t 79)]⟩,
   ⟨(some 81), some (73, false), .pick (.t 77) (.t 80) (.c (.b false))⟩,
   ⟨(some 82), none, .pick (.t 73) (.c (.b true)) (.t 81)⟩] none [82])
 (.cond (.t 82)
  (.seq (.region [⟨(some 2), none, .asg (.c (.i .i64 0))⟩] none [2])
  .ret)
  .skip))
 (.seq (.region [⟨(some 2), none, .asg (.c (.i .i64 20))⟩] none [2])
 .ret)))))))⟩

/-- veilstone/terms.isPlain -/
def ir_terms_isPlain : AFun := ⟨1, [.tmp 2], true, false,
 (.seq (.region [⟨(some 2), none, .asg (.c (.b false))⟩] none [0])
 (.seq (.seq (.region [⟨(some 6), none, .mov (.t 0)⟩,
   ⟨(some 7), none, .len 1 (.t 6)⟩,
   ⟨(some 8), none, .bin .gtr (.t 7) (.c (.i .i64 24))⟩] none [0, 8])
 (.cond (.t 8)
  (.seq (.region [⟨(some 2), none, .asg (.c (.b false))⟩] none [2])
  .ret)
  .skip))
 (.seq (.region [⟨(some 10), none, .mov (.t 0)⟩,
   ⟨(some 11), none, .call (.c (.fn (.func F_strings_Cut) [] [])) [(.t 10), (.c (.s [58]))]⟩,
   ⟨(some 9), none, .mov (.t 11)⟩,
   ⟨(some 12), none, .ext (.t 9) 0⟩,
   ⟨(some 13), none, .ext (.t 9) 1⟩,
   ⟨(some 14), none, .ext (.t 9) 2⟩,
   ⟨(some 3), none, .asg (.t 12)⟩,
   ⟨(some 4), none, .asg (.t 13)⟩,
   ⟨(some 5), none, .asg (.t 14)⟩] none [3, 4, 5])
 (.seq (.region [⟨(some 15), none, .mov (.t 3)⟩,
   ⟨(some 16), none, .call (.c (.fn (.func F_terms_isWord) [] [])) [(.t 15)]⟩,
   ⟨(some 17), none, .mov (.t 16)⟩,
   ⟨(some 18), some (17, true), .mov (.t 5)⟩,
   ⟨(some 19), some (17, true), .un .not (.t 18)⟩,
   ⟨(some 20), some (17, true), .mov (.t 19)⟩,
   ⟨(some 21), some (20, false), .mov (.t 4)⟩,
   ⟨(some 22), some (20, false), .call (.c (.fn (.func F_terms_isWord) [] [])) [(.t 21)]⟩,
   ⟨(some 23), some (17, true), .pick (.t 20) (.c (.b true)) (.t 22)⟩,
   ⟨(some 24), none, .pick (.t 17) (.t 23) (.c (.b false))⟩,
   ⟨(some 2), none, .asg (.t 24)⟩] none [2])
 .ret))))⟩

/-- strings.Cut -/
def ir_strings_Cut : AFun := ⟨2, [.tmp 4, .tmp 5, .tmp 6], true, false,
 (.seq (.region [⟨(some 4), none, .asg (.c (.s []))⟩,
   ⟨(some 5), none, .asg (.c (.s []))⟩,
   ⟨(some 6), none, .asg (.c (.b false))⟩] none [0, 1])
 (.seq (.region [⟨(some 7), none, .mov (.t 0)⟩,
   ⟨(some 8), none, .mov (.t 1)⟩,
   ⟨(some 9), none, .call (.c (.fn (.func F_internal_stringslite_Cut) [] [])) [(.t 7), (.t 8)]⟩,
   ⟨(some 10), none, .ext (.t 9) 0⟩,
   ⟨(some 11), none, .ext (.t 9) 1⟩,
   ⟨(some 12), none, .ext (.t 9) 2⟩,
   ⟨(some 4), none, .asg (.t 10)⟩,
   ⟨(some 5), none, .asg (.t 11)⟩,
   ⟨(some 6), none, .asg (.t 12)⟩] none [4, 5, 6])
 .ret))⟩

/-- internal/stringslite.Cut -/
def ir_internal_stringslite_Cut : AFun := ⟨2, [.tmp 4, .tmp 5, .tmp 6], true, false,
 (.seq (.region [⟨(some 4), none, .asg (.c (.s []))⟩,
   ⟨(some 5), none, .asg (.c (.s []))⟩,
   ⟨(some 6), none, .asg (.c (.b false))⟩] none [0, 1])
 (.seq (.seq (.region [⟨(some 8), none, .mov (.t 0)⟩,
   ⟨(some 9), none, .mov (.t 1)⟩,
   ⟨(some 10), none, .call (.c (.fn (.func F_internal_stringslite_Index) [] [])) [(.t 8), (.t 9)]⟩,
   ⟨(some 7), none, .asg (.t 10)⟩] none [0, 1, 7])
 (.seq (.region [⟨(some 11), none, .mov (.t 7)⟩,
   ⟨(some 12), none, .bin .geq (.t 11) (.c (.i .i64 0))⟩] none [0, 1, 7, 12])
 (.cond (.t 12)
  (.seq (.region [⟨(some 13), none, .mov (.t 0)⟩,
    ⟨(some 14), none, .mov (.t 7)⟩,
    ⟨(some 15), none, .slcs (.t 13) none (some (.t 14))⟩,
    ⟨(some 16), none, .mov (.t 0)⟩,
    ⟨(some 17), none, .mov (.t 7)⟩,
    ⟨(some 18), none, .mov (.t 1)⟩,
    ⟨(some 19), none, .len 1 (.t 18)⟩,
    ⟨(some 20), none, .bin .add (.t 17) (.t 19)⟩,
    ⟨(some 21), none, .slcs (.t 16) (some (.t 20)) none⟩,
    ⟨(some 4), none, .cpy (.t 15)⟩,
    ⟨(some 5), none, .cpy (.t 21)⟩,
    ⟨(some 6), none, .cpy (.c (.b true))⟩] (some ([0, 1, 2, 3, 4, 5, 6, 7, 8, 9, 10, 11], [])) [4, 5, 6])
  .ret)
  .skip)))
 (.seq (.region [⟨(some 22), none, .mov (.t 0)⟩,
   ⟨(some 4), none, .asg (.t 22)⟩,
   ⟨(some 5), none, .asg (.c (.s []))⟩,
   ⟨(some 6), none, .asg (.c (.b false))⟩] none [4, 5, 6])
 .ret)))⟩

/-- veilstone/terms.isWord -/
def ir_terms_isWord : AFun := ⟨1, [.tmp 2], true, false,
 (.seq (.region [⟨(some 2), none, .asg (.c (.b false))⟩] none [0])
 (.seq (.region [⟨(some 3), none, .mov (.t 0)⟩,
   ⟨(some 4), none, .bin .neq (.t 3) (.c (.s []))⟩,
   ⟨(some 5), none, .mov (.t 4)⟩,
   ⟨(some 6), some (5, true), .mov (.t 0)⟩,
   ⟨(some 7), some (5, true), .idxs (.t 6) (.c (.i .i64 0))⟩,
   ⟨(some 8), some (5, true), .call (.c (.fn (.func F_terms_isLetter) [] [])) [(.t 7)]⟩,
   ⟨(some 9), none, .pick (.t 5) (.t 8) (.c (.b false))⟩,
   ⟨(some 10), none, .mov (.t 9)⟩,
   ⟨(some 11), some (10, true), .mov (.t 0)⟩,
   ⟨(some 12), some (10, true), .call (.c (.fn (.func F_terms_isTail) [] [])) [(.t 11)]⟩,
   ⟨(some 13), none, .pick (.t 10) (.t 12) (.c (.b false))⟩,
   ⟨(some 14), none, .mov (.t 13)⟩,
   ⟨(some 15), some (14, true), .mov (.t 0)⟩,
   ⟨(some 16), some (14, true), .call (.c (.fn (.func F_lexis_Keyword) [] [])) [(.t 15)]⟩,
   ⟨(some 17), some (14, true), .un .not (.t 16)⟩,
   ⟨(some 18), none, .pick (.t 14) (.t 17) (.c (.b false))⟩,
   ⟨(some 2), none, .asg (.t 18)⟩] none [2])
 .ret))⟩

/-- veilstone/terms.isLetter -/
def ir_terms_isLetter : AFun := ⟨1, [.tmp 2], true, false,
 (.seq (.region [⟨(some 2), none, .asg (.c (.b false))⟩] none [0])
 (.seq (.region [⟨(some 3), none, .mov (.t 0)⟩,
   ⟨(some 4), none, .bin .leq (.c (.i .u8 97)) (.t 3)⟩,
   ⟨(some 5), none, .mov (.t 4)⟩,
   ⟨(some 6), some (5, true), .mov (.t 0)⟩,
   ⟨(some 7), some (5, true), .bin .leq (.t 6) (.c (.i .u8 122))⟩,
   ⟨(some 8), none, .pick (.t 5) (.t 7) (.c (.b false))⟩,
   ⟨(some 9), none, .mov (.t 8)⟩,
   ⟨(some 10), some (9, false), .mov (.t 0)⟩,
   ⟨(some 11), some (9, false), .bin .leq (.c (.i .u8 65)) (.t 10)⟩,
   ⟨(some 12), some (9, false), .mov (.t 11)⟩,
   ⟨(some 13), some (12, true), .mov (.t 0)⟩,
   ⟨(some 14), some (12, true), .bin .leq (.t 13) (.c (.i .u8 90))⟩,
   ⟨(some 15), some (9, false), .pick (.t 12) (.t 14) (.c (.b false))⟩,
   ⟨(some 16), none, .pick (.t 9) (.c (.b true)) (.t 15)⟩,
   ⟨(some 2), none, .asg (.t 16)⟩] none [2])
 .ret))⟩

def ir_terms_isTail_L0 : ACode :=
 (.seq (.region [⟨(some 9), none, .bin .lss (.t 8) (.t 7)⟩] none [6, 7, 8, 9])
 (.seq (.cond (.t 9)
  .skip
  (.exit 0))
 (.seq (.block 1
  (.seq (.region [⟨(some 10), none, .idx 1 (.t 6) (.t 8)⟩,
    ⟨(some 11), none, .load none (.t 10)⟩,
    ⟨(some 4), none, .asg (.t 11)⟩] none [4, 6, 7, 8])
  (.seq (.region [⟨(some 12), none, .mov (.t 4)⟩,
    ⟨(some 13), none, .call (.c (.fn (.func F_terms_isLetter) [] [])) [(.t 12)]⟩,
    ⟨(some 14), none, .un .not (.t 13)⟩,
    ⟨(some 15), none, .mov (.t 14)⟩,
    ⟨(some 16), some (15, true), .mov (.t 4)⟩,
    ⟨(some 17), some (15, true), .bin .neq (.t 16) (.c (.i .u8 95))⟩,
    ⟨(some 18), none, .pick (.t 15) (.t 17) (.c (.b false))⟩,
    ⟨(some 19), none, .mov (.t 18)⟩,
    ⟨(some 20), some (19, true), .mov (.t 4)⟩,
    ⟨(some 21), some (19, true), .bin .lss (.t 20) (.c (.i .u8 48))⟩,
    ⟨(some 22), some (19, true), .mov (.t 21)⟩,
    ⟨(some 23), some (22, false), .mov (.t 4)⟩,
    ⟨(some 24), some (22, false), .bin .gtr (.t 23) (.c (.i .u8 57))⟩,
    ⟨(some 25), some (19, true), .pick (.t 22) (.c (.b true)) (.t 24)⟩,
    ⟨(some 26), none, .pick (.t 19) (.t 25) (.c (.b false))⟩] none [6, 7, 8, 26])
  (.cond (.t 26)
   (.seq (.region [⟨(some 2), none, .asg (.c (.b false))⟩] none [2])
   .ret)
   .skip))))
 (.region [⟨(some 27), none, .bin .add (.t 8) (.c (.i .i64 1))⟩,
   ⟨(some 8), none, .mov (.t 27)⟩] none [6, 7, 8]))))
/-- veilstone/terms.isTail -/
def ir_terms_isTail : AFun := ⟨1, [.tmp 2], true, false,
 (.seq (.region [⟨(some 2), none, .asg (.c (.b false))⟩] none [0])
 (.seq (.seq (.region [⟨(some 5), none, .mov (.t 0)⟩,
   ⟨(some 6), none, .s2b (.t 5)⟩,
   ⟨(some 7), none, .len 0 (.t 6)⟩,
   ⟨(some 8), none, .mov (.c (.i .i64 0))⟩] none [6, 7, 8])
 (.block 0
  (.loop [6, 7, 8] ir_terms_isTail_L0)))
 (.seq (.region [⟨(some 2), none, .asg (.c (.b true))⟩] none [2])
 .ret)))⟩

/-- veilstone/lexis.Keyword -/
def ir_lexis_Keyword : AFun := ⟨1, [.tmp 2], true, false,
 (.seq (.region [⟨(some 2), none, .asg (.c (.b false))⟩] none [0])
 (.seq (.seq (.region [⟨(some 3), none, .mov (.t 0)⟩] none [3])
 (.block 0
  (.seq (.seq (.region [⟨(some 5), none, .bin .eql (.t 3) (.c (.s [97, 110, 100]))⟩,
    ⟨(some 4), none, .asg (.t 5)⟩] none [3, 4])
  (.cond (.t 4)
   .skip
   (.seq (.region [⟨(some 6), none, .bin .eql (.t 3) (.c (.s [115, 111, 109, 101]))⟩,
     ⟨(some 4), none, .asg (.t 6)⟩] none [3, 4])
   (.cond (.t 4)
    .skip
    (.seq (.region [⟨(some 7), none, .bin .eql (.t 3) (.c (.s [105, 110]))⟩,
      ⟨(some 4), none, .asg (.t 7)⟩] none [3, 4])
    (.cond (.t 4)
     .skip
     (.seq (.region [⟨(some 8), none, .bin .eql (.t 3) (.c (.s [116, 111]))⟩,
       ⟨(some 4), none, .asg (.t 8)⟩] none [3, 4])
     (.cond (.t 4)
      .skip
      (.seq (.region [⟨(some 9), none, .bin .eql (.t 3) (.c (.s [110, 111, 116, 104, 105, 110, 103]))⟩,
        ⟨(some 4), none, .asg (.t 9)⟩] none [3, 4])
      (.cond (.t 4)
       .skip
       (.seq (.region [⟨(some 10), none, .bin .eql (.t 3) (.c (.s [101, 118, 101, 114, 121, 116, 104, 105, 110, 103]))⟩,
         ⟨(some 4), none, .asg (.t 10)⟩] none [3, 4])
       (.cond (.t 4)
        .skip
        (.seq (.region [⟨(some 11), none, .bin .eql (.t 3) (.c (.s [111, 110, 101]))⟩,
          ⟨(some 4), none, .asg (.t 11)⟩] none [3, 4])
        (.cond (.t 4)
         .skip
         (.seq (.region [⟨(some 12), none, .bin .eql (.t 3) (.c (.s [111, 102]))⟩,
           ⟨(some 4), none, .asg (.t 12)⟩] none [3, 4])
         (.cond (.t 4)
          .skip
          (.seq (.region [⟨(some 13), none, .bin .eql (.t 3) (.c (.s [111, 112, 101, 110]))⟩,
            ⟨(some 4), none, .asg (.t 13)⟩] none [3, 4])
          (.cond (.t 4)
           .skip
           (.seq (.region [⟨(some 14), none, .bin .eql (.t 3) (.c (.s [112, 114, 105, 118, 97, 116, 101]))⟩,
             ⟨(some 4), none, .asg (.t 14)⟩] none [3, 4])
           (.cond (.t 4)
            .skip
            (.seq (.region [⟨(some 15), none, .bin .eql (.t 3) (.c (.s [115, 117, 98]))⟩,
              ⟨(some 4), none, .asg (.t 15)⟩] none [3, 4])
            (.cond (.t 4)
             .skip
             (.seq (.region [⟨(some 16), none, .bin .eql (.t 3) (.c (.s [115, 97, 109, 101]))⟩,
               ⟨(some 4), none, .asg (.t 16)⟩] none [3, 4])
             (.cond (.t 4)
              .skip
              (.seq (.region [⟨(some 17), none, .bin .eql (.t 3) (.c (.s [100, 105, 115, 106, 111, 105, 110, 116]))⟩,
                ⟨(some 4), none, .asg (.t 17)⟩] none [3, 4])
              (.cond (.t 4)
               .skip
               (.seq (.region [⟨(some 18), none, .bin .eql (.t 3) (.c (.s [100, 111, 109, 97, 105, 110]))⟩,
                 ⟨(some 4), none, .asg (.t 18)⟩] none [3, 4])
               (.cond (.t 4)
                .skip
                (.seq (.region [⟨(some 19), none, .bin .eql (.t 3) (.c (.s [114, 111, 108, 101]))⟩,
                  ⟨(some 4), none, .asg (.t 19)⟩] none [3, 4])
                (.cond (.t 4)
                 .skip
                 (.seq (.region [⟨(some 20), none, .bin .eql (.t 3) (.c (.s [99, 104, 97, 105, 110]))⟩,
                   ⟨(some 4), none, .asg (.t 20)⟩] none [3, 4])
                 (.cond (.t 4)
                  .skip
                  (.seq (.region [⟨(some 21), none, .bin .eql (.t 3) (.c (.s [114, 101, 102, 108, 101, 120, 105, 118, 101]))⟩,
                    ⟨(some 4), none, .asg (.t 21)⟩] none [3, 4])
                  (.cond (.t 4)
                   .skip
                   (.seq (.region [⟨(some 22), none, .bin .eql (.t 3) (.c (.s [116, 121, 112, 101]))⟩,
                     ⟨(some 4), none, .asg (.t 22)⟩] none [3, 4])
                   (.cond (.t 4)
                    .skip
                    (.seq (.region [⟨(some 23), none, .bin .eql (.t 3) (.c (.s [108, 105, 110, 107]))⟩,
                      ⟨(some 4), none, .asg (.t 23)⟩] none [3, 4])
                    (.cond (.t 4)
                     .skip
                     (.seq (.region [⟨(some 24), none, .bin .eql (.t 3) (.c (.s [115, 101, 108, 101, 99, 116]))⟩,
                       ⟨(some 4), none, .asg (.t 24)⟩] none [3, 4])
                     (.cond (.t 4)
                      .skip
                      (.seq (.region [⟨(some 25), none, .bin .eql (.t 3) (.c (.s [119, 104, 101, 114, 101]))⟩,
                        ⟨(some 4), none, .asg (.t 25)⟩] none [3, 4])
                      (.cond (.t 4)
                       .skip
                       (.region [⟨(some 26), none, .bin .eql (.t 3) (.c (.s [111, 114]))⟩,
                         ⟨(some 4), none, .asg (.t 26)⟩] none [4])))))))))))))))))))))))))))))))))))))))))))
  (.cond (.t 4)
   (.seq (.region [⟨(some 2), none, .asg (.c (.b true))⟩] none [2])
   .ret)
   .skip))))
 (.seq (.region [⟨(some 2), none, .asg (.c (.b false))⟩] none [2])
 .ret)))⟩

/-- veilstone/terms.isReserved -/
def ir_terms_isReserved : AFun := ⟨1, [.tmp 2], true, false,
 (.seq (.region [⟨(some 2), none, .asg (.c (.b false))⟩] none [0])
 (.seq (.region [⟨(some 3), none, .mov (.t 0)⟩,
   ⟨(some 4), none, .len 1 (.t 3)⟩,
   ⟨(some 5), none, .bin .geq (.t 4) (.c (.i .i64 2))⟩,
   ⟨(some 6), none, .mov (.t 5)⟩,
   ⟨(some 7), some (6, true), .mov (.t 0)⟩,
   ⟨(some 8), some (6, true), .len 1 (.t 7)⟩,
   ⟨(some 9), some (6, true), .bin .leq (.t 8) (.c (.i .i64 24))⟩,
   ⟨(some 10), none, .pick (.t 6) (.t 9) (.c (.b false))⟩,
   ⟨(some 11), none, .mov (.t 10)⟩,
   ⟨(some 12), some (11, true), .mov (.t 0)⟩,
   ⟨(some 13), some (11, true), .idxs (.t 12) (.c (.i .i64 0))⟩,
   ⟨(some 14), some (11, true), .bin .eql (.t 13) (.c (.i .u8 95))⟩,
   ⟨(some 15), none, .pick (.t 11) (.t 14) (.c (.b false))⟩,
   ⟨(some 16), none, .mov (.t 15)⟩,
   ⟨(some 17), some (16, true), .mov (.t 0)⟩,
   ⟨(some 18), some (16, true), .call (.c (.fn (.func F_terms_isTail) [] [])) [(.t 17)]⟩,
   ⟨(some 19), none, .pick (.t 16) (.t 18) (.c (.b false))⟩,
   ⟨(some 2), none, .asg (.t 19)⟩] none [2])
 .ret))⟩

/-- veilstone/printer.newPrinter -/
def ir_printer_newPrinter : AFun := ⟨0, [.cell 0 (some 2)], true, false,
 (.seq (.region [⟨(some 0), none, .lalloc [.nm, .nm]⟩] none [0])
 (.seq (.region [⟨(some 1), none, .mkmap⟩,
   ⟨none, none, .ins 0 (.t 1) (.c (.i .i64 1)) (.c (.fn (.func F_printer_printer_top) [] []))⟩,
   ⟨none, none, .ins 0 (.t 1) (.c (.i .i64 2)) (.c (.fn (.func F_printer_printer_bottom) [] []))⟩,
   ⟨none, none, .ins 0 (.t 1) (.c (.i .i64 3)) (.c (.fn (.func F_printer_printer_named) [] []))⟩,
   ⟨none, none, .ins 0 (.t 1) (.c (.i .i64 4)) (.c (.fn (.func F_printer_printer_nominal) [] []))⟩,
   ⟨none, none, .ins 0 (.t 1) (.c (.i .i64 5)) (.c (.fn (.func F_printer_printer_and) [] []))⟩,
   ⟨none, none, .ins 0 (.t 1) (.c (.i .i64 6)) (.c (.fn (.func F_printer_printer_some) [] []))⟩,
   ⟨none, none, .ins 0 (.t 1) (.c (.i .i64 7)) (.c (.fn (.func F_printer_printer_span) [] []))⟩,
   ⟨(some 2), none, .mov (.t 1)⟩,
   ⟨(some 3), none, .mkmap⟩,
   ⟨none, none, .ins 0 (.t 3) (.c (.i .i64 1)) (.c (.fn (.func F_printer_printer_sub) [] []))⟩,
   ⟨none, none, .ins 0 (.t 3) (.c (.i .i64 2)) (.c (.fn (.func F_printer_printer_same) [] []))⟩,
   ⟨none, none, .ins 0 (.t 3) (.c (.i .i64 3)) (.c (.fn (.func F_printer_printer_disjoint) [] []))⟩,
   ⟨none, none, .ins 0 (.t 3) (.c (.i .i64 4)) (.c (.fn (.func F_printer_printer_domain) [] []))⟩,
   ⟨none, none, .ins 0 (.t 3) (.c (.i .i64 5)) (.c (.fn (.func F_printer_printer_role) [] []))⟩,
   ⟨none, none, .ins 0 (.t 3) (.c (.i .i64 6)) (.c (.fn (.func F_printer_printer_chain) [] []))⟩,
   ⟨none, none, .ins 0 (.t 3) (.c (.i .i64 7)) (.c (.fn (.func F_printer_printer_reflexive) [] []))⟩,
   ⟨none, none, .ins 0 (.t 3) (.c (.i .i64 8)) (.c (.fn (.func F_printer_printer_typing) [] []))⟩,
   ⟨none, none, .ins 0 (.t 3) (.c (.i .i64 9)) (.c (.fn (.func F_printer_printer_link) [] []))⟩,
   ⟨(some 4), none, .mov (.t 3)⟩,
   ⟨(some 5), none, .build [.nm, .nm] [(0, 1, (.t 2)), (1, 1, (.t 4))]⟩,
   ⟨none, none, .store 2 (.t 0) (.t 5)⟩] none [0])
 .ret))⟩

/-- (veilstone/printer.printer).top -/
def ir_printer_printer_top : AFun := ⟨2, [.tmp 4], true, false,
 (.seq (.region [⟨(some 2), none, .lbox (.t 0)⟩,
   ⟨(some 3), none, .lbox (.t 1)⟩,
   ⟨(some 4), none, .asg (.c (.s []))⟩] none [])
 (.seq (.region [⟨(some 4), none, .asg (.c (.s [101, 118, 101, 114, 121, 116, 104, 105, 110, 103]))⟩] none [4])
 .ret))⟩

/-- (veilstone/printer.printer).bottom -/
def ir_printer_printer_bottom : AFun := ⟨2, [.tmp 4], true, false,
 (.seq (.region [⟨(some 2), none, .lbox (.t 0)⟩,
   ⟨(some 3), none, .lbox (.t 1)⟩,
   ⟨(some 4), none, .asg (.c (.s []))⟩] none [])
 (.seq (.region [⟨(some 4), none, .asg (.c (.s [110, 111, 116, 104, 105, 110, 103]))⟩] none [4])
 .ret))⟩

/-- (veilstone/printer.printer).named -/
def ir_printer_printer_named : AFun := ⟨2, [.tmp 4], true, false,
 (.seq (.region [⟨(some 2), none, .lbox (.t 0)⟩,
   ⟨(some 3), none, .lbox (.t 1)⟩,
   ⟨(some 4), none, .asg (.c (.s []))⟩] none [3])
 (.seq (.region [⟨(some 5), none, .fld 1 (.t 3)⟩,
   ⟨(some 6), none, .load none (.t 5)⟩,
   ⟨(some 4), none, .asg (.t 6)⟩] none [4])
 .ret))⟩

/-- (veilstone/printer.printer).nominal -/
def ir_printer_printer_nominal : AFun := ⟨2, [.tmp 4], true, false,
 (.seq (.region [⟨(some 2), none, .lbox (.t 0)⟩,
   ⟨(some 3), none, .lbox (.t 1)⟩,
   ⟨(some 4), none, .asg (.c (.s []))⟩] none [3])
 (.seq (.region [⟨(some 5), none, .fld 1 (.t 3)⟩,
   ⟨(some 6), none, .load none (.t 5)⟩,
   ⟨(some 7), none, .bin .add (.c (.s [123])) (.t 6)⟩,
   ⟨(some 8), none, .bin .add (.t 7) (.c (.s [125]))⟩,
   ⟨(some 4), none, .asg (.t 8)⟩] none [4])
 .ret))⟩

def ir_printer_printer_and_L0 : ACode :=
 (.seq (.region [⟨(some 12), none, .bin .lss (.t 11) (.t 10)⟩] none [2, 5, 9, 10, 11, 12])
 (.seq (.cond (.t 12)
  .skip
  (.exit 0))
 (.seq (.block 1
  (.seq (.region [⟨(some 13), none, .idx 5 (.t 9) (.t 11)⟩,
    ⟨(some 14), none, .load (some 5) (.t 13)⟩,
    ⟨(some 7), none, .lalloc [(.i .i64 0), (.s []), (.i .i64 0), (.i .i64 0), .ns]⟩,
    ⟨none, none, .store 5 (.t 7) (.t 14)⟩] none [2, 5, 7, 9, 10, 11])
  (.region [⟨(some 15), none, .mov (.t 5)⟩,
    ⟨(some 16), none, .load (some 2) (.t 2)⟩,
    ⟨(some 17), none, .load (some 5) (.t 7)⟩,
    ⟨(some 18), none, .call (.c (.fn (.func F_printer_printer_operand) [] [])) [(.t 16), (.t 17)]⟩,
    ⟨(some 19), none, .bsl false T_string_0 1 1 [(.s [])] [(0, (.t 18))]⟩,
    ⟨(some 20), none, .app T_string_0 1 (.t 15) (.t 19)⟩,
    ⟨(some 5), none, .asg (.t 20)⟩] none [2, 5, 9, 10, 11])))
 (.region [⟨(some 21), none, .bin .add (.t 11) (.c (.i .i64 1))⟩,
   ⟨(some 11), none, .mov (.t 21)⟩] none [2, 5, 9, 10, 11]))))
/-- (veilstone/printer.printer).and -/
def ir_printer_printer_and : AFun := ⟨2, [.tmp 4], true, false,
 (.seq (.region [⟨(some 2), none, .lbox (.t 0)⟩,
   ⟨(some 3), none, .lbox (.t 1)⟩,
   ⟨(some 4), none, .asg (.c (.s []))⟩] none [2, 3])
 (.seq (.region [⟨(some 5), none, .nbuf T_string_0 1⟩] none [2, 3, 5])
 (.seq (.seq (.region [⟨(some 8), none, .fld 4 (.t 3)⟩,
   ⟨(some 9), none, .load none (.t 8)⟩,
   ⟨(some 10), none, .len 0 (.t 9)⟩,
   ⟨(some 11), none, .mov (.c (.i .i64 0))⟩] none [2, 5, 9, 10, 11])
 (.block 0
  (.loop [2, 5, 9, 10, 11] ir_printer_printer_and_L0)))
 (.seq (.region [⟨(some 22), none, .mov (.t 5)⟩,
   ⟨(some 23), none, .call (.c (.fn (.func F_strings_Join) [] [])) [(.t 22), (.c (.s [32, 97, 110, 100, 32]))]⟩,
   ⟨(some 4), none, .asg (.t 23)⟩] none [4])
 .ret))))⟩

/-- (veilstone/printer.printer).operand -/
def ir_printer_printer_operand : AFun := ⟨2, [.tmp 4], true, false,
 (.seq (.region [⟨(some 2), none, .lbox (.t 0)⟩,
   ⟨(some 3), none, .lbox (.t 1)⟩,
   ⟨(some 4), none, .asg (.c (.s []))⟩] none [2, 3])
 (.seq (.seq (.region [⟨(some 5), none, .fld 0 (.t 3)⟩,
   ⟨(some 6), none, .load none (.t 5)⟩,
   ⟨(some 7), none, .bin .eql (.t 6) (.c (.i .i64 5))⟩] none [2, 3, 7])
 (.cond (.t 7)
  (.seq (.region [⟨(some 8), none, .load (some 2) (.t 2)⟩,
    ⟨(some 9), none, .load (some 5) (.t 3)⟩,
    ⟨(some 10), none, .call (.c (.fn (.func F_printer_printer_text) [] [])) [(.t 8), (.t 9)]⟩,
    ⟨(some 11), none, .bin .add (.c (.s [40])) (.t 10)⟩,
    ⟨(some 12), none, .bin .add (.t 11) (.c (.s [41]))⟩,
    ⟨(some 4), none, .asg (.t 12)⟩] none [4])
  .ret)
  .skip))
 (.seq (.region [⟨(some 13), none, .load (some 2) (.t 2)⟩,
   ⟨(some 14), none, .load (some 5) (.t 3)⟩,
   ⟨(some 15), none, .call (.c (.fn (.func F_printer_printer_text) [] [])) [(.t 13), (.t 14)]⟩,
   ⟨(some 4), none, .asg (.t 15)⟩] none [4])
 .ret)))⟩

/-- (veilstone/printer.printer).text -/
def ir_printer_printer_text : AFun := ⟨2, [.tmp 4], false, false,
 (.seq (.region [⟨(some 2), none, .lbox (.t 0)⟩,
   ⟨(some 3), none, .lbox (.t 1)⟩,
   ⟨(some 4), none, .asg (.c (.s []))⟩] none [2, 3])
 (.seq (.region [⟨(some 5), none, .fld 0 (.t 2)⟩,
   ⟨(some 6), none, .load none (.t 5)⟩,
   ⟨(some 7), none, .fld 0 (.t 3)⟩,
   ⟨(some 8), none, .load none (.t 7)⟩,
   ⟨(some 9), none, .look 0 .nf false (.t 6) (.t 8)⟩,
   ⟨(some 10), none, .load (some 2) (.t 2)⟩,
   ⟨(some 11), none, .load (some 5) (.t 3)⟩,
   ⟨(some 12), none, .call (.t 9) [(.t 10), (.t 11)]⟩,
   ⟨(some 4), none, .asg (.t 12)⟩] none [4])
 .ret))⟩

/-- (veilstone/printer.printer).some -/
def ir_printer_printer_some : AFun := ⟨2, [.tmp 4], true, false,
 (.seq (.region [⟨(some 2), none, .lbox (.t 0)⟩,
   ⟨(some 3), none, .lbox (.t 1)⟩,
   ⟨(some 4), none, .asg (.c (.s []))⟩] none [2, 3])
 (.seq (.region [⟨(some 5), none, .fld 1 (.t 3)⟩,
   ⟨(some 6), none, .load none (.t 5)⟩,
   ⟨(some 7), none, .load (some 2) (.t 2)⟩,
   ⟨(some 8), none, .fld 4 (.t 3)⟩,
   ⟨(some 9), none, .load none (.t 8)⟩,
   ⟨(some 10), none, .idx 5 (.t 9) (.c (.i .i64 0))⟩,
   ⟨(some 11), none, .load (some 5) (.t 10)⟩,
   ⟨(some 12), none, .call (.c (.fn (.func F_printer_printer_operand) [] [])) [(.t 7), (.t 11)]⟩,
   ⟨(some 13), none, .bsl false T_string_0 1 3 [(.s [])] [(0, (.c (.s [115, 111, 109, 101]))), (1, (.t 6)), (2, (.t 12))]⟩,
   ⟨(some 14), none, .call (.c (.fn (.func F_printer_words) [] [])) [(.t 13)]⟩,
   ⟨(some 4), none, .asg (.t 14)⟩] (some ([0, 1, 2, 3, 4, 5, 6, 7, 8, 9, 10], [])) [4])
 .ret))⟩

/-- veilstone/printer.words -/
def ir_printer_words : AFun := ⟨1, [.tmp 2], true, false,
 (.seq (.region [⟨(some 2), none, .asg (.c (.s []))⟩] none [0])
 (.seq (.region [⟨(some 3), none, .mov (.t 0)⟩,
   ⟨(some 4), none, .call (.c (.fn (.func F_strings_Join) [] [])) [(.t 3), (.c (.s [32]))]⟩,
   ⟨(some 2), none, .asg (.t 4)⟩] none [2])
 .ret))⟩

/-- (veilstone/printer.printer).span -/
def ir_printer_printer_span : AFun := ⟨2, [.tmp 4], true, false,
 (.seq (.region [⟨(some 2), none, .lbox (.t 0)⟩,
   ⟨(some 3), none, .lbox (.t 1)⟩,
   ⟨(some 4), none, .asg (.c (.s []))⟩] none [3])
 (.seq (.region [⟨(some 5), none, .fld 1 (.t 3)⟩,
   ⟨(some 6), none, .load none (.t 5)⟩,
   ⟨(some 7), none, .fld 2 (.t 3)⟩,
   ⟨(some 8), none, .load none (.t 7)⟩,
   ⟨(some 9), none, .call (.c (.fn (.func F_strconv_Itoa) [] [])) [(.t 8)]⟩,
   ⟨(some 10), none, .fld 3 (.t 3)⟩,
   ⟨(some 11), none, .load none (.t 10)⟩,
   ⟨(some 12), none, .call (.c (.fn (.func F_strconv_Itoa) [] [])) [(.t 11)]⟩,
   ⟨(some 13), none, .bsl false T_string_0 1 5 [(.s [])] [(0, (.t 6)), (1, (.c (.s [105, 110]))), (2, (.t 9)), (3, (.c (.s [116, 111]))), (4, (.t 12))]⟩,
   ⟨(some 14), none, .call (.c (.fn (.func F_printer_words) [] [])) [(.t 13)]⟩,
   ⟨(some 4), none, .asg (.t 14)⟩] (some ([0, 1, 2, 3, 4, 5, 6, 7, 8, 9, 10], [])) [4])
 .ret))⟩

/-- (veilstone/printer.printer).sub -/
def ir_printer_printer_sub : AFun := ⟨2, [.tmp 4], true, false,
 (.seq (.region [⟨(some 2), none, .lbox (.t 0)⟩,
   ⟨(some 3), none, .lbox (.t 1)⟩,
   ⟨(some 4), none, .asg (.c (.s []))⟩] none [2, 3])
 (.seq (.region [⟨(some 5), none, .load (some 2) (.t 2)⟩,
   ⟨(some 6), none, .fld 2 (.t 3)⟩,
   ⟨(some 7), none, .load (some 5) (.t 6)⟩,
   ⟨(some 8), none, .call (.c (.fn (.func F_printer_printer_text) [] [])) [(.t 5), (.t 7)]⟩,
   ⟨(some 9), none, .load (some 2) (.t 2)⟩,
   ⟨(some 10), none, .fld 7 (.t 3)⟩,
   ⟨(some 11), none, .load (some 5) (.t 10)⟩,
   ⟨(some 12), none, .call (.c (.fn (.func F_printer_printer_text) [] [])) [(.t 9), (.t 11)]⟩,
   ⟨(some 13), none, .bsl false T_string_0 1 3 [(.s [])] [(0, (.t 8)), (1, (.c (.s [115, 117, 98]))), (2, (.t 12))]⟩,
   ⟨(some 14), none, .call (.c (.fn (.func F_printer_words) [] [])) [(.t 13)]⟩,
   ⟨(some 4), none, .asg (.t 14)⟩] (some ([0, 1, 2, 3, 4, 5, 6, 7, 8, 9, 10], [])) [4])
 .ret))⟩

/-- (veilstone/printer.printer).same -/
def ir_printer_printer_same : AFun := ⟨2, [.tmp 4], true, false,
 (.seq (.region [⟨(some 2), none, .lbox (.t 0)⟩,
   ⟨(some 3), none, .lbox (.t 1)⟩,
   ⟨(some 4), none, .asg (.c (.s []))⟩] none [2, 3])
 (.seq (.region [⟨(some 5), none, .load (some 2) (.t 2)⟩,
   ⟨(some 6), none, .fld 2 (.t 3)⟩,
   ⟨(some 7), none, .load (some 5) (.t 6)⟩,
   ⟨(some 8), none, .call (.c (.fn (.func F_printer_printer_text) [] [])) [(.t 5), (.t 7)]⟩,
   ⟨(some 9), none, .load (some 2) (.t 2)⟩,
   ⟨(some 10), none, .fld 7 (.t 3)⟩,
   ⟨(some 11), none, .load (some 5) (.t 10)⟩,
   ⟨(some 12), none, .call (.c (.fn (.func F_printer_printer_text) [] [])) [(.t 9), (.t 11)]⟩,
   ⟨(some 13), none, .bsl false T_string_0 1 3 [(.s [])] [(0, (.t 8)), (1, (.c (.s [115, 97, 109, 101]))), (2, (.t 12))]⟩,
   ⟨(some 14), none, .call (.c (.fn (.func F_printer_words) [] [])) [(.t 13)]⟩,
   ⟨(some 4), none, .asg (.t 14)⟩] (some ([0, 1, 2, 3, 4, 5, 6, 7, 8, 9, 10], [])) [4])
 .ret))⟩

/-- (veilstone/printer.printer).disjoint -/
def ir_printer_printer_disjoint : AFun := ⟨2, [.tmp 4], true, false,
 (.seq (.region [⟨(some 2), none, .lbox (.t 0)⟩,
   ⟨(some 3), none, .lbox (.t 1)⟩,
   ⟨(some 4), none, .asg (.c (.s []))⟩] none [2, 3])
 (.seq (.region [⟨(some 5), none, .load (some 2) (.t 2)⟩,
   ⟨(some 6), none, .fld 2 (.t 3)⟩,
   ⟨(some 7), none, .load (some 5) (.t 6)⟩,
   ⟨(some 8), none, .call (.c (.fn (.func F_printer_printer_text) [] [])) [(.t 5), (.t 7)]⟩,
   ⟨(some 9), none, .load (some 2) (.t 2)⟩,
   ⟨(some 10), none, .fld 7 (.t 3)⟩,
   ⟨(some 11), none, .load (some 5) (.t 10)⟩,
   ⟨(some 12), none, .call (.c (.fn (.func F_printer_printer_text) [] [])) [(.t 9), (.t 11)]⟩,
   ⟨(some 13), none, .bsl false T_string_0 1 3 [(.s [])] [(0, (.t 8)), (1, (.c (.s [100, 105, 115, 106, 111, 105, 110, 116]))), (2, (.t 12))]⟩,
   ⟨(some 14), none, .call (.c (.fn (.func F_printer_words) [] [])) [(.t 13)]⟩,
   ⟨(some 4), none, .asg (.t 14)⟩] (some ([0, 1, 2, 3, 4, 5, 6, 7, 8, 9, 10], [])) [4])
 .ret))⟩

/-- (veilstone/printer.printer).domain -/
def ir_printer_printer_domain : AFun := ⟨2, [.tmp 4], true, false,
 (.seq (.region [⟨(some 2), none, .lbox (.t 0)⟩,
   ⟨(some 3), none, .lbox (.t 1)⟩,
   ⟨(some 4), none, .asg (.c (.s []))⟩] none [2, 3])
 (.seq (.region [⟨(some 5), none, .fld 13 (.t 3)⟩,
   ⟨(some 6), none, .load none (.t 5)⟩,
   ⟨(some 7), none, .load (some 2) (.t 2)⟩,
   ⟨(some 8), none, .fld 7 (.t 3)⟩,
   ⟨(some 9), none, .load (some 5) (.t 8)⟩,
   ⟨(some 10), none, .call (.c (.fn (.func F_printer_printer_text) [] [])) [(.t 7), (.t 9)]⟩,
   ⟨(some 11), none, .bsl false T_string_0 1 3 [(.s [])] [(0, (.c (.s [100, 111, 109, 97, 105, 110]))), (1, (.t 6)), (2, (.t 10))]⟩,
   ⟨(some 12), none, .call (.c (.fn (.func F_printer_words) [] [])) [(.t 11)]⟩,
   ⟨(some 4), none, .asg (.t 12)⟩] (some ([0, 1, 2, 3, 4, 5, 6, 7, 8], [])) [4])
 .ret))⟩

/-- (veilstone/printer.printer).role -/
def ir_printer_printer_role : AFun := ⟨2, [.tmp 4], true, false,
 (.seq (.region [⟨(some 2), none, .lbox (.t 0)⟩,
   ⟨(some 3), none, .lbox (.t 1)⟩,
   ⟨(some 4), none, .asg (.c (.s []))⟩] none [3])
 (.seq (.region [⟨(some 5), none, .fld 12 (.t 3)⟩,
   ⟨(some 6), none, .load none (.t 5)⟩,
   ⟨(some 7), none, .idx 1 (.t 6) (.c (.i .i64 0))⟩,
   ⟨(some 8), none, .load none (.t 7)⟩,
   ⟨(some 9), none, .fld 13 (.t 3)⟩,
   ⟨(some 10), none, .load none (.t 9)⟩,
   ⟨(some 11), none, .bsl false T_string_0 1 4 [(.s [])] [(0, (.c (.s [114, 111, 108, 101]))), (1, (.t 8)), (2, (.c (.s [115, 117, 98]))), (3, (.t 10))]⟩,
   ⟨(some 12), none, .call (.c (.fn (.func F_printer_words) [] [])) [(.t 11)]⟩,
   ⟨(some 4), none, .asg (.t 12)⟩] (some ([0, 1, 2, 3, 4, 5, 6, 7, 8], [])) [4])
 .ret))⟩

/-- (veilstone/printer.printer).chain -/
def ir_printer_printer_chain : AFun := ⟨2, [.tmp 4], true, false,
 (.seq (.region [⟨(some 2), none, .lbox (.t 0)⟩,
   ⟨(some 3), none, .lbox (.t 1)⟩,
   ⟨(some 4), none, .asg (.c (.s []))⟩] none [3])
 (.seq (.region [⟨(some 5), none, .fld 12 (.t 3)⟩,
   ⟨(some 6), none, .load none (.t 5)⟩,
   ⟨(some 7), none, .call (.c (.fn (.func F_printer_words) [] [])) [(.t 6)]⟩,
   ⟨(some 8), none, .fld 13 (.t 3)⟩,
   ⟨(some 9), none, .load none (.t 8)⟩,
   ⟨(some 10), none, .bsl false T_string_0 1 4 [(.s [])] [(0, (.c (.s [99, 104, 97, 105, 110]))), (1, (.t 7)), (2, (.c (.s [115, 117, 98]))), (3, (.t 9))]⟩,
   ⟨(some 11), none, .call (.c (.fn (.func F_printer_words) [] [])) [(.t 10)]⟩,
   ⟨(some 4), none, .asg (.t 11)⟩] (some ([0, 1, 2, 3, 4, 5, 6, 7], [])) [4])
 .ret))⟩

/-- (veilstone/printer.printer).reflexive -/
def ir_printer_printer_reflexive : AFun := ⟨2, [.tmp 4], true, false,
 (.seq (.region [⟨(some 2), none, .lbox (.t 0)⟩,
   ⟨(some 3), none, .lbox (.t 1)⟩,
   ⟨(some 4), none, .asg (.c (.s []))⟩] none [3])
 (.seq (.region [⟨(some 5), none, .fld 13 (.t 3)⟩,
   ⟨(some 6), none, .load none (.t 5)⟩,
   ⟨(some 7), none, .bsl false T_string_0 1 2 [(.s [])] [(0, (.c (.s [114, 101, 102, 108, 101, 120, 105, 118, 101]))), (1, (.t 6))]⟩,
   ⟨(some 8), none, .call (.c (.fn (.func F_printer_words) [] [])) [(.t 7)]⟩,
   ⟨(some 4), none, .asg (.t 8)⟩] none [4])
 .ret))⟩

/-- (veilstone/printer.printer).typing -/
def ir_printer_printer_typing : AFun := ⟨2, [.tmp 4], true, false,
 (.seq (.region [⟨(some 2), none, .lbox (.t 0)⟩,
   ⟨(some 3), none, .lbox (.t 1)⟩,
   ⟨(some 4), none, .asg (.c (.s []))⟩] none [2, 3])
 (.seq (.region [⟨(some 5), none, .fld 14 (.t 3)⟩,
   ⟨(some 6), none, .load none (.t 5)⟩,
   ⟨(some 7), none, .load (some 2) (.t 2)⟩,
   ⟨(some 8), none, .fld 7 (.t 3)⟩,
   ⟨(some 9), none, .load (some 5) (.t 8)⟩,
   ⟨(some 10), none, .call (.c (.fn (.func F_printer_printer_text) [] [])) [(.t 7), (.t 9)]⟩,
   ⟨(some 11), none, .bsl false T_string_0 1 3 [(.s [])] [(0, (.c (.s [116, 121, 112, 101]))), (1, (.t 6)), (2, (.t 10))]⟩,
   ⟨(some 12), none, .call (.c (.fn (.func F_printer_words) [] [])) [(.t 11)]⟩,
   ⟨(some 4), none, .asg (.t 12)⟩] (some ([0, 1, 2, 3, 4, 5, 6, 7, 8], [])) [4])
 .ret))⟩

/-- (veilstone/printer.printer).link -/
def ir_printer_printer_link : AFun := ⟨2, [.tmp 4], true, false,
 (.seq (.region [⟨(some 2), none, .lbox (.t 0)⟩,
   ⟨(some 3), none, .lbox (.t 1)⟩,
   ⟨(some 4), none, .asg (.c (.s []))⟩] none [3])
 (.seq (.region [⟨(some 5), none, .fld 14 (.t 3)⟩,
   ⟨(some 6), none, .load none (.t 5)⟩,
   ⟨(some 7), none, .fld 13 (.t 3)⟩,
   ⟨(some 8), none, .load none (.t 7)⟩,
   ⟨(some 9), none, .fld 15 (.t 3)⟩,
   ⟨(some 10), none, .load none (.t 9)⟩,
   ⟨(some 11), none, .bsl false T_string_0 1 4 [(.s [])] [(0, (.c (.s [108, 105, 110, 107]))), (1, (.t 6)), (2, (.t 8)), (3, (.t 10))]⟩,
   ⟨(some 12), none, .call (.c (.fn (.func F_printer_words) [] [])) [(.t 11)]⟩,
   ⟨(some 4), none, .asg (.t 12)⟩] none [4])
 .ret))⟩

/-- veilstone/veilstonelaw04.states -/
def ir_law04_states : AFun := ⟨2, [.tmp 4], true, false,
 (.seq (.region [⟨(some 2), none, .lbox (.t 0)⟩,
   ⟨(some 4), none, .asg (.c (.b false))⟩] none [1, 2])
 (.seq (.region [⟨(some 8), none, .load (some 16) (.t 2)⟩,
   ⟨(some 9), none, .call (.c (.fn (.func F_printer_Axiom) [] [])) [(.t 8)]⟩,
   ⟨(some 7), none, .mov (.t 9)⟩,
   ⟨(some 10), none, .ext (.t 7) 0⟩,
   ⟨(some 11), none, .ext (.t 7) 1⟩,
   ⟨(some 5), none, .asg (.t 10)⟩,
   ⟨(some 6), none, .asg (.t 11)⟩] none [1, 5, 6])
 (.seq (.region [⟨(some 12), none, .mov (.t 5)⟩,
   ⟨(some 13), none, .mov (.t 1)⟩,
   ⟨(some 14), none, .bin .eql (.t 12) (.t 13)⟩,
   ⟨(some 15), none, .mov (.t 14)⟩,
   ⟨(some 16), some (15, true), .mov (.t 6)⟩,
   ⟨(some 17), some (15, true), .bin .eql (.t 16) (.c (.i .i64 0))⟩,
   ⟨(some 18), none, .pick (.t 15) (.t 17) (.c (.b false))⟩,
   ⟨(some 4), none, .asg (.t 18)⟩] none [4])
 .ret)))⟩

/-- veilstone/printer.Axiom -/
def ir_printer_Axiom : AFun := ⟨1, [.tmp 2, .tmp 3], true, false,
 (.seq (.region [⟨(some 1), none, .lbox (.t 0)⟩,
   ⟨(some 2), none, .asg (.c (.s []))⟩,
   ⟨(some 3), none, .asg (.c (.i .i64 0))⟩] none [1])
 (.seq (.seq (.region [⟨(some 5), none, .load (some 16) (.t 1)⟩,
   ⟨(some 6), none, .call (.c (.fn (.func F_terms_CheckAxiom) [] [])) [(.t 5)]⟩,
   ⟨(some 4), none, .asg (.t 6)⟩] none [1, 4])
 (.seq (.region [⟨(some 7), none, .mov (.t 4)⟩,
   ⟨(some 8), none, .bin .neq (.t 7) (.c (.i .i64 0))⟩] none [1, 4, 8])
 (.cond (.t 8)
  (.seq (.region [⟨(some 9), none, .mov (.t 4)⟩,
    ⟨(some 2), none, .asg (.c (.s []))⟩,
    ⟨(some 3), none, .asg (.t 9)⟩] none [2, 3])
  .ret)
  .skip)))
 (.seq (.region [⟨(some 10), none, .call (.c (.fn (.func F_printer_newPrinter) [] [])) []⟩,
   ⟨(some 11), none, .load (some 16) (.t 1)⟩,
   ⟨(some 12), none, .call (.c (.fn (.func F_printer_printer_axiom) [] [])) [(.t 10), (.t 11)]⟩,
   ⟨(some 2), none, .asg (.t 12)⟩,
   ⟨(some 3), none, .asg (.c (.i .i64 0))⟩] (some ([0, 1, 2, 3, 4], [])) [2, 3])
 .ret)))⟩

/-- veilstone/terms.CheckAxiom -/
def ir_terms_CheckAxiom : AFun := ⟨1, [.tmp 2], true, false,
 (.seq (.region [⟨(some 1), none, .lbox (.t 0)⟩,
   ⟨(some 2), none, .asg (.c (.i .i64 0))⟩] none [1])
 (.seq (.seq (.region [⟨(some 6), none, .load (some 16) (.t 1)⟩,
   ⟨(some 7), none, .call (.c (.fn (.func F_terms_isShaped) [] [])) [(.t 6)]⟩,
   ⟨(some 8), none, .un .not (.t 7)⟩] none [1, 8])
 (.cond (.t 8)
  (.seq (.region [⟨(some 2), none, .asg (.c (.i .i64 22))⟩] none [2])
  .ret)
  .skip))
 (.seq (.region [⟨(some 9), none, .fld 0 (.t 1)⟩,
   ⟨(some 10), none, .load none (.t 9)⟩,
   ⟨(some 11), none, .idxa 10 7 (.g G_terms_uses) (.t 10)⟩,
   ⟨(some 12), none, .load (some 7) (.t 11)⟩,
   ⟨(some 3), none, .lalloc [(.b false), (.b false), (.b false), (.b false), (.b false), (.i .i64 0), (.i .i64 0)]⟩,
   ⟨none, none, .store 7 (.t 3) (.t 12)⟩] none [1, 3])
 (.seq (.seq (.region [⟨(some 13), none, .load (some 16) (.t 1)⟩,
   ⟨(some 14), none, .load (some 7) (.t 3)⟩,
   ⟨(some 15), none, .call (.c (.fn (.func F_terms_isNamed) [] [])) [(.t 13), (.t 14)]⟩,
   ⟨(some 16), none, .un .not (.t 15)⟩] none [1, 3, 16])
 (.cond (.t 16)
  (.seq (.region [⟨(some 2), none, .asg (.c (.i .i64 20))⟩] none [2])
  .ret)
  .skip))
 (.seq (.seq (.region [⟨(some 17), none, .fld 0 (.t 3)⟩,
   ⟨(some 18), none, .load none (.t 17)⟩] none [1, 3, 18])
 (.cond (.t 18)
  (.seq (.region [⟨(some 19), none, .fld 2 (.t 1)⟩,
    ⟨(some 20), none, .load (some 5) (.t 19)⟩,
    ⟨(some 21), none, .call (.c (.fn (.func F_terms_CheckConcept) [] [])) [(.t 20)]⟩,
    ⟨(some 4), none, .asg (.t 21)⟩] none [1, 3, 4])
  (.seq (.region [⟨(some 22), none, .mov (.t 4)⟩,
    ⟨(some 23), none, .bin .neq (.t 22) (.c (.i .i64 0))⟩] none [1, 3, 4, 23])
  (.cond (.t 23)
   (.seq (.region [⟨(some 24), none, .mov (.t 4)⟩,
     ⟨(some 2), none, .asg (.t 24)⟩] none [2])
   .ret)
   .skip)))
  .skip))
 (.seq (.seq (.region [⟨(some 25), none, .fld 1 (.t 3)⟩,
   ⟨(some 26), none, .load none (.t 25)⟩] none [1, 26])
 (.cond (.t 26)
  (.seq (.region [⟨(some 27), none, .fld 7 (.t 1)⟩,
    ⟨(some 28), none, .load (some 5) (.t 27)⟩,
    ⟨(some 29), none, .call (.c (.fn (.func F_terms_CheckConcept) [] [])) [(.t 28)]⟩,
    ⟨(some 5), none, .asg (.t 29)⟩] none [1, 5])
  (.seq (.region [⟨(some 30), none, .mov (.t 5)⟩,
    ⟨(some 31), none, .bin .neq (.t 30) (.c (.i .i64 0))⟩] none [1, 5, 31])
  (.cond (.t 31)
   (.seq (.region [⟨(some 32), none, .mov (.t 5)⟩,
     ⟨(some 2), none, .asg (.t 32)⟩] none [2])
   .ret)
   .skip)))
  .skip))
 (.seq (.seq (.region [⟨(some 33), none, .fld 0 (.t 1)⟩,
   ⟨(some 34), none, .load none (.t 33)⟩] none [1, 34])
 (.block 0
  (.seq (.region [⟨(some 36), none, .bin .eql (.t 34) (.c (.i .i64 2))⟩,
    ⟨(some 35), none, .asg (.t 36)⟩] none [1, 34, 35])
  (.cond (.t 35)
   (.seq (.region [⟨(some 37), none, .fld 2 (.t 1)⟩,
     ⟨(some 38), none, .load (some 5) (.t 37)⟩,
     ⟨(some 39), none, .call (.c (.fn (.func F_terms_isBare) [] [])) [(.t 38)]⟩,
     ⟨(some 40), none, .mov (.t 39)⟩,
     ⟨(some 41), some (40, false), .fld 7 (.t 1)⟩,
     ⟨(some 42), some (40, false), .load (some 5) (.t 41)⟩,
     ⟨(some 43), some (40, false), .call (.c (.fn (.func F_terms_isBare) [] [])) [(.t 42)]⟩,
     ⟨(some 44), none, .pick (.t 40) (.c (.b true)) (.t 43)⟩] none [44])
   (.cond (.t 44)
    (.seq (.region [⟨(some 2), none, .asg (.c (.i .i64 22))⟩] none [2])
    .ret)
    .skip))
   (.seq (.seq (.region [⟨(some 46), none, .bin .eql (.t 34) (.c (.i .i64 1))⟩,
     ⟨(some 45), none, .asg (.t 46)⟩] none [1, 34, 45])
   (.cond (.t 45)
    .skip
    (.seq (.region [⟨(some 47), none, .bin .eql (.t 34) (.c (.i .i64 4))⟩,
      ⟨(some 45), none, .asg (.t 47)⟩] none [1, 34, 45])
    (.cond (.t 45)
     .skip
     (.region [⟨(some 48), none, .bin .eql (.t 34) (.c (.i .i64 8))⟩,
       ⟨(some 45), none, .asg (.t 48)⟩] none [1, 45])))))
   (.cond (.t 45)
    (.seq (.region [⟨(some 49), none, .fld 7 (.t 1)⟩,
      ⟨(some 50), none, .load (some 5) (.t 49)⟩,
      ⟨(some 51), none, .call (.c (.fn (.func F_terms_isBare) [] [])) [(.t 50)]⟩] none [51])
    (.cond (.t 51)
     (.seq (.region [⟨(some 2), none, .asg (.c (.i .i64 22))⟩] none [2])
     .ret)
     .skip))
    .skip))))))
 (.seq (.region [⟨(some 2), none, .asg (.c (.i .i64 0))⟩] none [2])
 .ret))))))))⟩

/-- veilstone/terms.isShaped -/
def ir_terms_isShaped : AFun := ⟨1, [.tmp 2], true, false,
 (.seq (.region [⟨(some 1), none, .lbox (.t 0)⟩,
   ⟨(some 2), none, .asg (.c (.b false))⟩] none [1])
 (.seq (.seq (.region [⟨(some 4), none, .fld 0 (.t 1)⟩,
   ⟨(some 5), none, .load none (.t 4)⟩,
   ⟨(some 6), none, .bin .lss (.t 5) (.c (.i .i64 1))⟩,
   ⟨(some 7), none, .mov (.t 6)⟩,
   ⟨(some 8), some (7, false), .fld 0 (.t 1)⟩,
   ⟨(some 9), some (7, false), .load none (.t 8)⟩,
   ⟨(some 10), some (7, false), .bin .gtr (.t 9) (.c (.i .i64 9))⟩,
   ⟨(some 11), none, .pick (.t 7) (.c (.b true)) (.t 10)⟩] none [1, 11])
 (.cond (.t 11)
  (.seq (.region [⟨(some 2), none, .asg (.c (.b false))⟩] none [2])
  .ret)
  .skip))
 (.seq (.region [⟨(some 12), none, .fld 0 (.t 1)⟩,
   ⟨(some 13), none, .load none (.t 12)⟩,
   ⟨(some 14), none, .idxa 10 7 (.g G_terms_uses) (.t 13)⟩,
   ⟨(some 15), none, .load (some 7) (.t 14)⟩,
   ⟨(some 3), none, .lalloc [(.b false), (.b false), (.b false), (.b false), (.b false), (.i .i64 0), (.i .i64 0)]⟩,
   ⟨none, none, .store 7 (.t 3) (.t 15)⟩] none [1, 3])
 (.seq (.region [⟨(some 16), none, .fld 0 (.t 3)⟩,
   ⟨(some 17), none, .load none (.t 16)⟩,
   ⟨(some 18), none, .mov (.t 17)⟩,
   ⟨(some 19), some (18, false), .fld 2 (.t 1)⟩,
   ⟨(some 20), some (18, false), .load (some 5) (.t 19)⟩,
   ⟨(some 21), some (18, false), .call (.c (.fn (.func F_terms_isEmpty) [] [])) [(.t 20)]⟩,
   ⟨(some 22), none, .pick (.t 18) (.c (.b true)) (.t 21)⟩,
   ⟨(some 23), none, .mov (.t 22)⟩,
   ⟨(some 24), some (23, true), .fld 1 (.t 3)⟩,
   ⟨(some 25), some (23, true), .load none (.t 24)⟩,
   ⟨(some 26), some (23, true), .mov (.t 25)⟩,
   ⟨(some 27), some (26, false), .fld 7 (.t 1)⟩,
   ⟨(some 28), some (26, false), .load (some 5) (.t 27)⟩,
   ⟨(some 29), some (26, false), .call (.c (.fn (.func F_terms_isEmpty) [] [])) [(.t 28)]⟩,
   ⟨(some 30), some (23, true), .pick (.t 26) (.c (.b true)) (.t 29)⟩,
   ⟨(some 31), none, .pick (.t 23) (.t 30) (.c (.b false))⟩,
   ⟨(some 32), none, .mov (.t 31)⟩,
   ⟨(some 33), some (32, true), .fld 2 (.t 3)⟩,
   ⟨(some 34), some (32, true), .load none (.t 33)⟩,
   ⟨(some 35), some (32, true), .mov (.t 34)⟩,
   ⟨(some 36), some (35, false), .fld 13 (.t 1)⟩,
   ⟨(some 37), some (35, false), .load none (.t 36)⟩,
   ⟨(some 38), some (35, false), .bin .eql (.t 37) (.c (.s []))⟩,
   ⟨(some 39), some (32, true), .pick (.t 35) (.c (.b true)) (.t 38)⟩,
   ⟨(some 40), none, .pick (.t 32) (.t 39) (.c (.b false))⟩,
   ⟨(some 41), none, .mov (.t 40)⟩,
   ⟨(some 42), some (41, true), .fld 3 (.t 3)⟩,
   ⟨(some 43), some (41, true), .load none (.t 42)⟩,
   ⟨(some 44), some (41, true), .mov (.t 43)⟩,
   ⟨(some 45), some (44, false), .fld 14 (.t 1)⟩,
   ⟨(some 46), some (44, false), .load none (.t 45)⟩,
   ⟨(some 47), some (44, false), .bin .eql (.t 46) (.c (.s []))⟩,
   ⟨(some 48), some (41, true), .pick (.t 44) (.c (.b true)) (.t 47)⟩,
   ⟨(some 49), none, .pick (.t 41) (.t 48) (.c (.b false))⟩,
   ⟨(some 50), none, .mov (.t 49)⟩,
   ⟨(some 51), some (50, true), .fld 4 (.t 3)⟩,
   ⟨(some 52), some (50, true), .load none (.t 51)⟩,
   ⟨(some 53), some (50, true), .mov (.t 52)⟩,
   ⟨(some 54), some (53, false), .fld 15 (.t 1)⟩,
   ⟨(some 55), some (53, false), .load none (.t 54)⟩,
   ⟨(some 56), some (53, false), .bin .eql (.t 55) (.c (.s []))⟩,
   ⟨(some 57), some (50, true), .pick (.t 53) (.c (.b true)) (.t 56)⟩,
   ⟨(some 58), none, .pick (.t 50) (.t 57) (.c (.b false))⟩,
   ⟨(some 59), none, .mov (.t 58)⟩,
   ⟨(some 60), some (59, true), .fld 12 (.t 1)⟩,
   ⟨(some 61), some (59, true), .load none (.t 60)⟩,
   ⟨(some 62), some (59, true), .len 0 (.t 61)⟩,
   ⟨(some 63), some (59, true), .fld 5 (.t 3)⟩,
   ⟨(some 64), some (59, true), .load none (.t 63)⟩,
   ⟨(some 65), some (59, true), .bin .geq (.t 62) (.t 64)⟩,
   ⟨(some 66), none, .pick (.t 59) (.t 65) (.c (.b false))⟩,
   ⟨(some 67), none, .mov (.t 66)⟩,
   ⟨(some 68), some (67, true), .fld 12 (.t 1)⟩,
   ⟨(some 69), some (67, true), .load none (.t 68)⟩,
   ⟨(some 70), some (67, true), .len 0 (.t 69)⟩,
   ⟨(some 71), some (67, true), .fld 6 (.t 3)⟩,
   ⟨(some 72), some (67, true), .load none (.t 71)⟩,
   ⟨(some 73), some (67, true), .bin .leq (.t 70) (.t 72)⟩,
   ⟨(some 74), none, .pick (.t 67) (.t 73) (.c (.b false))⟩,
   ⟨(some 2), none, .asg (.t 74)⟩] none [2])
 .ret))))⟩

/-- veilstone/terms.isEmpty -/
def ir_terms_isEmpty : AFun := ⟨1, [.tmp 2], true, false,
 (.seq (.region [⟨(some 1), none, .lbox (.t 0)⟩,
   ⟨(some 2), none, .asg (.c (.b false))⟩] none [1])
 (.seq (.region [⟨(some 3), none, .fld 0 (.t 1)⟩,
   ⟨(some 4), none, .load none (.t 3)⟩,
   ⟨(some 5), none, .bin .eql (.t 4) (.c (.i .i64 0))⟩,
   ⟨(some 6), none, .mov (.t 5)⟩,
   ⟨(some 7), some (6, true), .fld 1 (.t 1)⟩,
   ⟨(some 8), some (6, true), .load none (.t 7)⟩,
   ⟨(some 9), some (6, true), .bin .eql (.t 8) (.c (.s []))⟩,
   ⟨(some 10), none, .pick (.t 6) (.t 9) (.c (.b false))⟩,
   ⟨(some 11), none, .mov (.t 10)⟩,
   ⟨(some 12), some (11, true), .fld 2 (.t 1)⟩,
   ⟨(some 13), some (11, true), .load none (.t 12)⟩,
   ⟨(some 14), some (11, true), .bin .eql (.t 13) (.c (.i .i64 0))⟩,
   ⟨(some 15), none, .pick (.t 11) (.t 14) (.c (.b false))⟩,
   ⟨(some 16), none, .mov (.t 15)⟩,
   ⟨(some 17), some (16, true), .fld 3 (.t 1)⟩,
   ⟨(some 18), some (16, true), .load none (.t 17)⟩,
   ⟨(some 19), some (16, true), .bin .eql (.t 18) (.c (.i .i64 0))⟩,
   ⟨(some 20), none, .pick (.t 16) (.t 19) (.c (.b false))⟩,
   ⟨(some 21), none, .mov (.t 20)⟩,
   ⟨(some 22), some (21, true), .fld 4 (.t 1)⟩,
   ⟨(some 23), some (21, true), .load none (.t 22)⟩,
   ⟨(some 24), some (21, true), .len 0 (.t 23)⟩,
   ⟨(some 25), some (21, true), .bin .eql (.t 24) (.c (.i .i64 0))⟩,
   ⟨(some 26), none, .pick (.t 21) (.t 25) (.c (.b false))⟩,
   ⟨(some 2), none, .asg (.t 26)⟩] none [2])
 .ret))⟩

def ir_terms_isNamed_L0 : ACode :=
 (.seq (.region [⟨(some 39), none, .bin .lss (.t 38) (.t 37)⟩] none [36, 37, 38, 39])
 (.seq (.cond (.t 39)
  .skip
  (.exit 0))
 (.seq (.block 1
  (.seq (.region [⟨(some 40), none, .idx 1 (.t 36) (.t 38)⟩,
    ⟨(some 41), none, .load none (.t 40)⟩,
    ⟨(some 6), none, .asg (.t 41)⟩] none [6, 36, 37, 38])
  (.seq (.region [⟨(some 42), none, .mov (.t 6)⟩,
    ⟨(some 43), none, .call (.c (.fn (.func F_terms_isPlain) [] [])) [(.t 42)]⟩,
    ⟨(some 44), none, .un .not (.t 43)⟩] none [36, 37, 38, 44])
  (.cond (.t 44)
   (.seq (.region [⟨(some 4), none, .asg (.c (.b false))⟩] none [4])
   .ret)
   .skip))))
 (.region [⟨(some 45), none, .bin .add (.t 38) (.c (.i .i64 1))⟩,
   ⟨(some 38), none, .mov (.t 45)⟩] none [36, 37, 38]))))
/-- veilstone/terms.isNamed -/
def ir_terms_isNamed : AFun := ⟨2, [.tmp 4], true, false,
 (.seq (.region [⟨(some 2), none, .lbox (.t 0)⟩,
   ⟨(some 3), none, .lbox (.t 1)⟩,
   ⟨(some 4), none, .asg (.c (.b false))⟩] none [2, 3])
 (.seq (.seq (.region [⟨(some 7), none, .fld 2 (.t 3)⟩,
   ⟨(some 8), none, .load none (.t 7)⟩,
   ⟨(some 9), none, .mov (.t 8)⟩,
   ⟨(some 10), some (9, true), .fld 13 (.t 2)⟩,
   ⟨(some 11), some (9, true), .load none (.t 10)⟩,
   ⟨(some 12), some (9, true), .call (.c (.fn (.func F_terms_isPlain) [] [])) [(.t 11)]⟩,
   ⟨(some 13), some (9, true), .un .not (.t 12)⟩,
   ⟨(some 14), none, .pick (.t 9) (.t 13) (.c (.b false))⟩,
   ⟨(some 15), none, .mov (.t 14)⟩,
   ⟨(some 16), some (15, false), .fld 3 (.t 3)⟩,
   ⟨(some 17), some (15, false), .load none (.t 16)⟩,
   ⟨(some 18), some (15, false), .mov (.t 17)⟩,
   ⟨(some 19), some (18, true), .fld 14 (.t 2)⟩,
   ⟨(some 20), some (18, true), .load none (.t 19)⟩,
   ⟨(some 21), some (18, true), .call (.c (.fn (.func F_terms_CheckName) [] [])) [(.t 20)]⟩,
   ⟨(some 22), some (18, true), .bin .neq (.t 21) (.c (.i .i64 0))⟩,
   ⟨(some 23), some (15, false), .pick (.t 18) (.t 22) (.c (.b false))⟩,
   ⟨(some 24), none, .pick (.t 15) (.c (.b true)) (.t 23)⟩,
   ⟨(some 25), none, .mov (.t 24)⟩,
   ⟨(some 26), some (25, false), .fld 4 (.t 3)⟩,
   ⟨(some 27), some (25, false), .load none (.t 26)⟩,
   ⟨(some 28), some (25, false), .mov (.t 27)⟩,
   ⟨(some 29), some (28, true), .fld 15 (.t 2)⟩,
   ⟨(some 30), some (28, true), .load none (.t 29)⟩,
   ⟨(some 31), some (28, true), .call (.c (.fn (.func F_terms_CheckName) [] [])) [(.t 30)]⟩,
   ⟨(some 32), some (28, true), .bin .neq (.t 31) (.c (.i .i64 0))⟩,
   ⟨(some 33), some (25, false), .pick (.t 28) (.t 32) (.c (.b false))⟩,
   ⟨(some 34), none, .pick (.t 25) (.c (.b true)) (.t 33)⟩] none [2, 34])
 (.cond (.t 34)
  (.seq (.region [⟨(some 4), none, .asg (.c (.b false))⟩] none [4])
  .ret)
  .skip))
 (.seq (.seq (.region [⟨(some 35), none, .fld 12 (.t 2)⟩,
   ⟨(some 36), none, .load none (.t 35)⟩,
   ⟨(some 37), none, .len 0 (.t 36)⟩,
   ⟨(some 38), none, .mov (.c (.i .i64 0))⟩] none [36, 37, 38])
 (.block 0
  (.loop [36, 37, 38] ir_terms_isNamed_L0)))
 (.seq (.region [⟨(some 4), none, .asg (.c (.b true))⟩] none [4])
 .ret))))⟩

/-- veilstone/terms.CheckName -/
def ir_terms_CheckName : AFun := ⟨1, [.tmp 2], true, false,
 (.seq (.region [⟨(some 2), none, .asg (.c (.i .i64 0))⟩] none [0])
 (.seq (.seq (.region [⟨(some 3), none, .mov (.t 0)⟩,
   ⟨(some 4), none, .call (.c (.fn (.func F_terms_isPlain) [] [])) [(.t 3)]⟩,
   ⟨(some 5), none, .mov (.t 4)⟩,
   ⟨(some 6), some (5, false), .mov (.t 0)⟩,
   ⟨(some 7), some (5, false), .call (.c (.fn (.func F_terms_isReserved) [] [])) [(.t 6)]⟩,
   ⟨(some 8), none, .pick (.t 5) (.c (.b true)) (.t 7)⟩] none [8])
 (.cond (.t 8)
  (.seq (.region [⟨(some 2), none, .asg (.c (.i .i64 0))⟩] none [2])
  .ret)
  .skip))
 (.seq (.region [⟨(some 2), none, .asg (.c (.i .i64 20))⟩] none [2])
 .ret)))⟩

/-- veilstone/terms.isBare -/
def ir_terms_isBare : AFun := ⟨1, [.tmp 2], true, false,
 (.seq (.region [⟨(some 1), none, .lbox (.t 0)⟩,
   ⟨(some 2), none, .asg (.c (.b false))⟩] none [1])
 (.seq (.seq (.region [⟨(some 3), none, .fld 0 (.t 1)⟩,
   ⟨(some 4), none, .load none (.t 3)⟩] none [1, 4])
 (.block 0
  (.seq (.region [⟨(some 6), none, .bin .eql (.t 4) (.c (.i .i64 4))⟩,
    ⟨(some 5), none, .asg (.t 6)⟩] none [1, 4, 5])
  (.cond (.t 5)
   (.seq (.region [⟨(some 2), none, .asg (.c (.b true))⟩] none [2])
   .ret)
   (.seq (.region [⟨(some 8), none, .bin .eql (.t 4) (.c (.i .i64 5))⟩,
     ⟨(some 7), none, .asg (.t 8)⟩] none [1, 7])
   (.cond (.t 7)
    (.seq (.region [⟨(some 9), none, .fld 4 (.t 1)⟩,
      ⟨(some 10), none, .load none (.t 9)⟩,
      ⟨(some 11), none, .call (.c (.fn (.func F_slices_ContainsFunc_api_Concept_api_Concept) [] [])) [(.t 10), (.c (.fn (.func F_terms_isBare) [] []))]⟩,
      ⟨(some 2), none, .asg (.t 11)⟩] none [2])
    .ret)
    .skip))))))
 (.seq (.region [⟨(some 2), none, .asg (.c (.b false))⟩] none [2])
 .ret)))⟩

/-- slices.ContainsFunc[[]veilstone/api.Concept,veilstone/api.Concept] -/
def ir_slices_ContainsFunc_api_Concept_api_Concept : AFun := ⟨2, [.tmp 4], false, false,
 (.seq (.region [⟨(some 4), none, .asg (.c (.b false))⟩] none [0, 1])
 (.seq (.region [⟨(some 5), none, .mov (.t 0)⟩,
   ⟨(some 6), none, .mov (.t 1)⟩,
   ⟨(some 7), none, .call (.c (.fn (.func F_slices_IndexFunc_api_Concept_api_Concept) [] [])) [(.t 5), (.t 6)]⟩,
   ⟨(some 8), none, .bin .geq (.t 7) (.c (.i .i64 0))⟩,
   ⟨(some 4), none, .asg (.t 8)⟩] none [4])
 .ret))⟩

def ir_slices_IndexFunc_api_Concept_api_Concept_L0 : ACode :=
 (.seq (.region [⟨(some 9), none, .bin .lss (.t 8) (.t 7)⟩] none [0, 1, 7, 8, 9])
 (.seq (.cond (.t 9)
  .skip
  (.exit 0))
 (.seq (.block 1
  (.seq (.region [⟨(some 10), none, .mov (.t 8)⟩,
    ⟨(some 5), none, .asg (.t 10)⟩] none [0, 1, 5, 7, 8])
  (.seq (.region [⟨(some 11), none, .mov (.t 1)⟩,
    ⟨(some 12), none, .mov (.t 0)⟩,
    ⟨(some 13), none, .mov (.t 5)⟩,
    ⟨(some 14), none, .idx 5 (.t 12) (.t 13)⟩,
    ⟨(some 15), none, .load (some 5) (.t 14)⟩,
    ⟨(some 16), none, .call (.t 11) [(.t 15)]⟩] none [0, 1, 5, 7, 8, 16])
  (.cond (.t 16)
   (.seq (.region [⟨(some 17), none, .mov (.t 5)⟩,
     ⟨(some 4), none, .asg (.t 17)⟩] none [4])
   .ret)
   .skip))))
 (.region [⟨(some 18), none, .bin .add (.t 8) (.c (.i .i64 1))⟩,
   ⟨(some 8), none, .mov (.t 18)⟩] none [0, 1, 7, 8]))))
/-- slices.IndexFunc[[]veilstone/api.Concept,veilstone/api.Concept] -/
def ir_slices_IndexFunc_api_Concept_api_Concept : AFun := ⟨2, [.tmp 4], false, false,
 (.seq (.region [⟨(some 4), none, .asg (.c (.i .i64 0))⟩] none [0, 1])
 (.seq (.seq (.region [⟨(some 6), none, .mov (.t 0)⟩,
   ⟨(some 7), none, .len 0 (.t 6)⟩,
   ⟨(some 8), none, .mov (.c (.i .i64 0))⟩] none [0, 1, 7, 8])
 (.block 0
  (.loop [0, 1, 7, 8] ir_slices_IndexFunc_api_Concept_api_Concept_L0)))
 (.seq (.region [⟨(some 4), none, .asg (.c (.i .i64 (-1)))⟩] none [4])
 .ret)))⟩

/-- (veilstone/printer.printer).axiom -/
def ir_printer_printer_axiom : AFun := ⟨2, [.tmp 4], false, false,
 (.seq (.region [⟨(some 2), none, .lbox (.t 0)⟩,
   ⟨(some 3), none, .lbox (.t 1)⟩,
   ⟨(some 4), none, .asg (.c (.s []))⟩] none [2, 3])
 (.seq (.region [⟨(some 6), none, .fld 1 (.t 2)⟩,
   ⟨(some 7), none, .load none (.t 6)⟩,
   ⟨(some 8), none, .fld 0 (.t 3)⟩,
   ⟨(some 9), none, .load none (.t 8)⟩,
   ⟨(some 10), none, .look 0 .nf false (.t 7) (.t 9)⟩,
   ⟨(some 11), none, .load (some 2) (.t 2)⟩,
   ⟨(some 12), none, .load (some 16) (.t 3)⟩,
   ⟨(some 13), none, .call (.t 10) [(.t 11), (.t 12)]⟩,
   ⟨(some 5), none, .asg (.t 13)⟩] none [3, 5])
 (.seq (.seq (.region [⟨(some 14), none, .fld 0 (.t 3)⟩,
   ⟨(some 15), none, .load none (.t 14)⟩] none [3, 5, 15])
 (.block 0
  (.seq (.seq (.region [⟨(some 22), none, .bin .eql (.t 15) (.c (.i .i64 5))⟩,
    ⟨(some 21), none, .asg (.t 22)⟩] none [3, 5, 15, 21])
  (.cond (.t 21)
   .skip
   (.seq (.region [⟨(some 23), none, .bin .eql (.t 15) (.c (.i .i64 6))⟩,
     ⟨(some 21), none, .asg (.t 23)⟩] none [3, 5, 15, 21])
   (.cond (.t 21)
    .skip
    (.region [⟨(some 24), none, .bin .eql (.t 15) (.c (.i .i64 7))⟩,
      ⟨(some 21), none, .asg (.t 24)⟩] none [3, 5, 21])))))
  (.cond (.t 21)
   (.seq (.region [⟨(some 25), none, .fld 1 (.t 3)⟩,
     ⟨(some 26), none, .load none (.t 25)⟩,
     ⟨(some 27), none, .un .not (.t 26)⟩] none [5, 27])
   (.cond (.t 27)
    (.seq (.region [⟨(some 28), none, .mov (.t 5)⟩,
      ⟨(some 29), none, .bsl false T_string_0 1 2 [(.s [])] [(0, (.c (.s [112, 114, 105, 118, 97, 116, 101]))), (1, (.t 28))]⟩,
      ⟨(some 30), none, .call (.c (.fn (.func F_printer_words) [] [])) [(.t 29)]⟩,
      ⟨(some 4), none, .asg (.t 30)⟩] none [4])
    .ret)
    .skip))
   (.seq (.region [⟨(some 16), none, .fld 1 (.t 3)⟩,
     ⟨(some 17), none, .load none (.t 16)⟩] none [5, 17])
   (.cond (.t 17)
    (.seq (.region [⟨(some 18), none, .mov (.t 5)⟩,
      ⟨(some 19), none, .bsl false T_string_0 1 2 [(.s [])] [(0, (.c (.s [111, 112, 101, 110]))), (1, (.t 18))]⟩,
      ⟨(some 20), none, .call (.c (.fn (.func F_printer_words) [] [])) [(.t 19)]⟩,
      ⟨(some 4), none, .asg (.t 20)⟩] none [4])
    .ret)
    .skip))))))
 (.seq (.region [⟨(some 31), none, .mov (.t 5)⟩,
   ⟨(some 4), none, .asg (.t 31)⟩] none [4])
 .ret))))⟩

def ir_printer_Document_L0 : ACode :=
 (.seq (.region [⟨(some 13), none, .bin .lss (.t 12) (.t 11)⟩] none [0, 2, 10, 11, 12, 13])
 (.seq (.cond (.t 13)
  .skip
  (.exit 0))
 (.seq (.block 1
  (.seq (.region [⟨(some 14), none, .idx 16 (.t 10) (.t 12)⟩,
    ⟨(some 15), none, .load (some 16) (.t 14)⟩,
    ⟨(some 5), none, .lalloc [(.i .i64 0), (.b false), (.i .i64 0), (.s []), (.i .i64 0), (.i .i64 0), .ns, (.i .i64 0), (.s []), (.i .i64 0), (.i .i64 0), .ns, .ns, (.s []), (.s []), (.s [])]⟩,
    ⟨none, none, .store 16 (.t 5) (.t 15)⟩] none [0, 2, 5, 10, 11, 12])
  (.seq (.region [⟨(some 16), none, .load (some 16) (.t 5)⟩,
    ⟨(some 17), none, .call (.c (.fn (.func F_terms_CheckAxiom) [] [])) [(.t 16)]⟩,
    ⟨(some 6), none, .asg (.t 17)⟩] none [0, 2, 6, 10, 11, 12])
  (.seq (.region [⟨(some 18), none, .mov (.t 6)⟩,
    ⟨(some 19), none, .bin .neq (.t 18) (.c (.i .i64 0))⟩] none [0, 2, 6, 10, 11, 12, 19])
  (.cond (.t 19)
   (.seq (.region [⟨(some 20), none, .mov (.t 6)⟩,
     ⟨(some 2), none, .nbuf T_uint8_0 1⟩,
     ⟨(some 3), none, .asg (.t 20)⟩] none [2, 3])
   .ret)
   .skip)))))
 (.region [⟨(some 21), none, .bin .add (.t 12) (.c (.i .i64 1))⟩,
   ⟨(some 12), none, .mov (.t 21)⟩] none [0, 2, 10, 11, 12]))))
def ir_printer_Document_L1 : ACode :=
 (.seq (.region [⟨(some 26), none, .bin .lss (.t 25) (.t 24)⟩] none [2, 7, 23, 24, 25, 26])
 (.seq (.cond (.t 26)
  .skip
  (.exit 2))
 (.seq (.block 3
  (.seq (.region [⟨(some 27), none, .idx 16 (.t 23) (.t 25)⟩,
    ⟨(some 28), none, .load (some 16) (.t 27)⟩,
    ⟨(some 9), none, .lalloc [(.i .i64 0), (.b false), (.i .i64 0), (.s []), (.i .i64 0), (.i .i64 0), .ns, (.i .i64 0), (.s []), (.i .i64 0), (.i .i64 0), .ns, .ns, (.s []), (.s []), (.s [])]⟩,
    ⟨none, none, .store 16 (.t 9) (.t 28)⟩] none [2, 7, 9, 23, 24, 25])
  (.seq (.region [⟨(some 29), none, .mov (.t 2)⟩,
    ⟨(some 30), none, .load (some 2) (.t 7)⟩,
    ⟨(some 31), none, .load (some 16) (.t 9)⟩,
    ⟨(some 32), none, .call (.c (.fn (.func F_printer_printer_axiom) [] [])) [(.t 30), (.t 31)]⟩,
    ⟨(some 33), none, .apps T_uint8_0 (.t 29) (.t 32)⟩,
    ⟨(some 2), none, .asg (.t 33)⟩] none [2, 7, 23, 24, 25])
  (.seq (.region [⟨(some 34), none, .mov (.t 2)⟩,
    ⟨(some 35), none, .apps T_uint8_0 (.t 34) (.c (.s [46, 10]))⟩,
    ⟨(some 2), none, .asg (.t 35)⟩] none [2, 7, 23, 24, 25])
  (.seq (.region [⟨(some 36), none, .mov (.t 2)⟩,
    ⟨(some 37), none, .len 0 (.t 36)⟩,
    ⟨(some 38), none, .bin .gtr (.t 37) (.c (.i .i64 65536))⟩] none [2, 7, 23, 24, 25, 38])
  (.cond (.t 38)
   (.seq (.region [⟨(some 2), none, .nbuf T_uint8_0 1⟩,
     ⟨(some 3), none, .asg (.c (.i .i64 2))⟩] none [2, 3])
   .ret)
   .skip))))))
 (.region [⟨(some 39), none, .bin .add (.t 25) (.c (.i .i64 1))⟩,
   ⟨(some 25), none, .mov (.t 39)⟩] none [2, 7, 23, 24, 25]))))
/-- veilstone/printer.Document -/
def ir_printer_Document : AFun := ⟨1, [.tmp 2, .tmp 3], true, false,
 (.seq (.region [⟨(some 2), none, .nbuf T_uint8_0 1⟩,
   ⟨(some 3), none, .asg (.c (.i .i64 0))⟩] none [0, 2])
 (.seq (.seq (.region [⟨(some 10), none, .mov (.t 0)⟩,
   ⟨(some 11), none, .len 0 (.t 10)⟩,
   ⟨(some 12), none, .mov (.c (.i .i64 0))⟩] none [0, 2, 10, 11, 12])
 (.block 0
  (.loop [0, 2, 10, 11, 12] ir_printer_Document_L0)))
 (.seq (.region [⟨(some 22), none, .call (.c (.fn (.func F_printer_newPrinter) [] [])) []⟩,
   ⟨(some 7), none, .lalloc [.nm, .nm]⟩,
   ⟨none, none, .store 2 (.t 7) (.t 22)⟩] none [0, 2, 7])
 (.seq (.seq (.region [⟨(some 23), none, .mov (.t 0)⟩,
   ⟨(some 24), none, .len 0 (.t 23)⟩,
   ⟨(some 25), none, .mov (.c (.i .i64 0))⟩] none [2, 7, 23, 24, 25])
 (.block 2
  (.loop [2, 7, 23, 24, 25] ir_printer_Document_L1)))
 (.seq (.region [⟨(some 40), none, .mov (.t 2)⟩,
   ⟨(some 2), none, .asg (.t 40)⟩,
   ⟨(some 3), none, .asg (.c (.i .i64 0))⟩] none [2, 3])
 .ret)))))⟩

def ir_ref02_FewAxiom_L0 : ACode :=
 (.seq (.seq (.region [⟨(some 21), none, .mov (.t 4)⟩,
   ⟨(some 22), none, .fld 12 (.t 1)⟩,
   ⟨(some 23), none, .load none (.t 22)⟩,
   ⟨(some 24), none, .len 0 (.t 23)⟩,
   ⟨(some 25), none, .bin .lss (.t 21) (.t 24)⟩,
   ⟨(some 26), none, .mov (.t 25)⟩,
   ⟨(some 27), some (26, true), .mov (.t 4)⟩,
   ⟨(some 28), some (26, true), .bin .lss (.t 27) (.c (.i .i64 100))⟩,
   ⟨(some 29), none, .pick (.t 26) (.t 28) (.c (.b false))⟩] none [1, 3, 4, 29])
 (.cond (.t 29)
  .skip
  (.exit 0)))
 (.seq (.block 1
  (.region [⟨(some 32), none, .mov (.t 3)⟩,
    ⟨(some 33), none, .fld 12 (.t 1)⟩,
    ⟨(some 34), none, .load none (.t 33)⟩,
    ⟨(some 35), none, .mov (.t 4)⟩,
    ⟨(some 36), none, .idx 1 (.t 34) (.t 35)⟩,
    ⟨(some 37), none, .load none (.t 36)⟩,
    ⟨(some 38), none, .len 1 (.t 37)⟩,
    ⟨(some 39), none, .bin .add (.t 32) (.t 38)⟩,
    ⟨(some 3), none, .asg (.t 39)⟩] none [1, 3, 4]))
 (.region [⟨(some 30), none, .mov (.t 4)⟩,
   ⟨(some 31), none, .bin .add (.t 30) (.c (.i .i64 1))⟩,
   ⟨(some 4), none, .asg (.t 31)⟩] none [1, 3, 4])))
/-- veilstone/veilstoneref02.FewAxiom -/
def ir_ref02_FewAxiom : AFun := ⟨1, [.tmp 2], true, false,
 (.seq (.region [⟨(some 1), none, .lbox (.t 0)⟩,
   ⟨(some 2), none, .asg (.c (.b false))⟩] none [1])
 (.seq (.region [⟨(some 5), none, .fld 13 (.t 1)⟩,
   ⟨(some 6), none, .load none (.t 5)⟩,
   ⟨(some 7), none, .len 1 (.t 6)⟩,
   ⟨(some 8), none, .fld 14 (.t 1)⟩,
   ⟨(some 9), none, .load none (.t 8)⟩,
   ⟨(some 10), none, .len 1 (.t 9)⟩,
   ⟨(some 11), none, .bin .add (.t 7) (.t 10)⟩,
   ⟨(some 12), none, .fld 15 (.t 1)⟩,
   ⟨(some 13), none, .load none (.t 12)⟩,
   ⟨(some 14), none, .len 1 (.t 13)⟩,
   ⟨(some 15), none, .bin .add (.t 11) (.t 14)⟩,
   ⟨(some 16), none, .fld 12 (.t 1)⟩,
   ⟨(some 17), none, .load none (.t 16)⟩,
   ⟨(some 18), none, .len 0 (.t 17)⟩,
   ⟨(some 19), none, .bin .mul (.c (.i .i64 10)) (.t 18)⟩,
   ⟨(some 20), none, .bin .add (.t 15) (.t 19)⟩,
   ⟨(some 3), none, .asg (.t 20)⟩] none [1, 3])
 (.seq (.seq (.region [⟨(some 4), none, .asg (.c (.i .i64 0))⟩] none [1, 3, 4])
 (.block 0
  (.loop [1, 3, 4] ir_ref02_FewAxiom_L0)))
 (.seq (.region [⟨(some 40), none, .mov (.t 3)⟩,
   ⟨(some 41), none, .bin .leq (.t 40) (.c (.i .i64 600))⟩,
   ⟨(some 42), none, .mov (.t 41)⟩,
   ⟨(some 43), some (42, true), .fld 2 (.t 1)⟩,
   ⟨(some 44), some (42, true), .load (some 5) (.t 43)⟩,
   ⟨(some 45), some (42, true), .call (.c (.fn (.func F_ref02_Few) [] [])) [(.t 44)]⟩,
   ⟨(some 46), none, .pick (.t 42) (.t 45) (.c (.b false))⟩,
   ⟨(some 47), none, .mov (.t 46)⟩,
   ⟨(some 48), some (47, true), .fld 7 (.t 1)⟩,
   ⟨(some 49), some (47, true), .load (some 5) (.t 48)⟩,
   ⟨(some 50), some (47, true), .call (.c (.fn (.func F_ref02_Few) [] [])) [(.t 49)]⟩,
   ⟨(some 51), none, .pick (.t 47) (.t 50) (.c (.b false))⟩,
   ⟨(some 2), none, .asg (.t 51)⟩] none [2])
 .ret))))⟩

/-- veilstone/veilstoneref02.Few -/
def ir_ref02_Few : AFun := ⟨1, [.tmp 2], true, false,
 (.seq (.region [⟨(some 1), none, .lbox (.t 0)⟩,
   ⟨(some 2), none, .asg (.c (.b false))⟩] none [1])
 (.seq (.region [⟨(some 3), none, .load (some 5) (.t 1)⟩,
   ⟨(some 4), none, .call (.c (.fn (.func F_ref02_count) [] [])) [(.t 3), (.c (.i .i64 40)), (.c (.i .i64 150))]⟩,
   ⟨(some 5), none, .bin .leq (.t 4) (.c (.i .i64 150))⟩,
   ⟨(some 2), none, .asg (.t 5)⟩] none [2])
 .ret))⟩

def ir_ref02_count_L0 : ACode :=
 (.seq (.seq (.region [⟨(some 18), none, .mov (.t 8)⟩,
   ⟨(some 19), none, .fld 4 (.t 3)⟩,
   ⟨(some 20), none, .load none (.t 19)⟩,
   ⟨(some 21), none, .len 0 (.t 20)⟩,
   ⟨(some 22), none, .bin .lss (.t 18) (.t 21)⟩,
   ⟨(some 23), none, .mov (.t 22)⟩,
   ⟨(some 24), some (23, true), .mov (.t 7)⟩,
   ⟨(some 25), some (23, true), .mov (.t 2)⟩,
   ⟨(some 26), some (23, true), .bin .leq (.t 24) (.t 25)⟩,
   ⟨(some 27), none, .pick (.t 23) (.t 26) (.c (.b false))⟩] none [1, 2, 3, 7, 8, 27])
 (.cond (.t 27)
  .skip
  (.exit 0)))
 (.seq (.block 1
  (.region [⟨(some 30), none, .mov (.t 7)⟩,
    ⟨(some 31), none, .fld 4 (.t 3)⟩,
    ⟨(some 32), none, .load none (.t 31)⟩,
    ⟨(some 33), none, .mov (.t 8)⟩,
    ⟨(some 34), none, .idx 5 (.t 32) (.t 33)⟩,
    ⟨(some 35), none, .load (some 5) (.t 34)⟩,
    ⟨(some 36), none, .mov (.t 1)⟩,
    ⟨(some 37), none, .bin .sub (.t 36) (.c (.i .i64 1))⟩,
    ⟨(some 38), none, .mov (.t 2)⟩,
    ⟨(some 39), none, .mov (.t 7)⟩,
    ⟨(some 40), none, .bin .sub (.t 38) (.t 39)⟩,
    ⟨(some 41), none, .call (.c (.fn (.func F_ref02_count) [] [])) [(.t 35), (.t 37), (.t 40)]⟩,
    ⟨(some 42), none, .bin .add (.t 30) (.t 41)⟩,
    ⟨(some 7), none, .asg (.t 42)⟩] none [1, 2, 3, 7, 8]))
 (.region [⟨(some 28), none, .mov (.t 8)⟩,
   ⟨(some 29), none, .bin .add (.t 28) (.c (.i .i64 1))⟩,
   ⟨(some 8), none, .asg (.t 29)⟩] none [1, 2, 3, 7, 8])))
/-- veilstone/veilstoneref02.count -/
def ir_ref02_count : AFun := ⟨3, [.tmp 6], true, false,
 (.seq (.region [⟨(some 3), none, .lbox (.t 0)⟩,
   ⟨(some 6), none, .asg (.c (.i .i64 0))⟩] none [1, 2, 3])
 (.seq (.seq (.region [⟨(some 9), none, .mov (.t 1)⟩,
   ⟨(some 10), none, .bin .leq (.t 9) (.c (.i .i64 0))⟩] none [1, 2, 3, 10])
 (.cond (.t 10)
  (.seq (.region [⟨(some 11), none, .mov (.t 2)⟩,
    ⟨(some 12), none, .bin .add (.t 11) (.c (.i .i64 1))⟩,
    ⟨(some 6), none, .asg (.t 12)⟩] none [6])
  .ret)
  .skip))
 (.seq (.region [⟨(some 13), none, .fld 1 (.t 3)⟩,
   ⟨(some 14), none, .load none (.t 13)⟩,
   ⟨(some 15), none, .len 1 (.t 14)⟩,
   ⟨(some 16), none, .bin .quo (.t 15) (.c (.i .i64 40))⟩,
   ⟨(some 17), none, .bin .add (.c (.i .i64 1)) (.t 16)⟩,
   ⟨(some 7), none, .asg (.t 17)⟩] none [1, 2, 3, 7])
 (.seq (.seq (.region [⟨(some 8), none, .asg (.c (.i .i64 0))⟩] none [1, 2, 3, 7, 8])
 (.block 0
  (.loop [1, 2, 3, 7, 8] ir_ref02_count_L0)))
 (.seq (.region [⟨(some 43), none, .mov (.t 7)⟩,
   ⟨(some 6), none, .asg (.t 43)⟩] none [6])
 .ret)))))⟩

/-- veilstone/terms.CompareAxiom -/
def ir_terms_CompareAxiom : AFun := ⟨2, [.tmp 4], true, false,
 (.seq (.region [⟨(some 2), none, .lbox (.t 0)⟩,
   ⟨(some 3), none, .lbox (.t 1)⟩,
   ⟨(some 4), none, .asg (.c (.i .i64 0))⟩] none [2, 3])
 (.seq (.region [⟨(some 5), none, .load (some 16) (.t 2)⟩,
   ⟨(some 6), none, .call (.c (.fn (.func F_terms_weight) [] [])) [(.t 5)]⟩,
   ⟨(some 7), none, .load (some 16) (.t 3)⟩,
   ⟨(some 8), none, .call (.c (.fn (.func F_terms_weight) [] [])) [(.t 7)]⟩,
   ⟨(some 9), none, .call (.c (.fn (.func F_cmp_Compare_int) [] [])) [(.t 6), (.t 8)]⟩,
   ⟨(some 10), none, .fld 0 (.t 2)⟩,
   ⟨(some 11), none, .load none (.t 10)⟩,
   ⟨(some 12), none, .fld 0 (.t 3)⟩,
   ⟨(some 13), none, .load none (.t 12)⟩,
   ⟨(some 14), none, .call (.c (.fn (.func F_cmp_Compare_int) [] [])) [(.t 11), (.t 13)]⟩,
   ⟨(some 15), none, .bsl false T_int_0 1 2 [(.i .i64 0)] [(0, (.t 9)), (1, (.t 14))]⟩,
   ⟨(some 16), none, .call (.c (.fn (.func F_cmp_Or_int) [] [])) [(.t 15)]⟩,
   ⟨(some 4), none, .asg (.t 16)⟩] (some ([0, 1, 2, 3, 4, 5, 6, 7, 8, 9, 10, 11, 12], [])) [2, 3, 4])
 (.seq (.seq (.region [⟨(some 17), none, .mov (.t 4)⟩,
   ⟨(some 18), none, .bin .eql (.t 17) (.c (.i .i64 0))⟩] none [2, 3, 4, 18])
 (.cond (.t 18)
  (.region [⟨(some 19), none, .fld 2 (.t 2)⟩,
    ⟨(some 20), none, .load (some 5) (.t 19)⟩,
    ⟨(some 21), none, .fld 2 (.t 3)⟩,
    ⟨(some 22), none, .load (some 5) (.t 21)⟩,
    ⟨(some 23), none, .call (.c (.fn (.func F_terms_Compare) [] [])) [(.t 20), (.t 22)]⟩,
    ⟨(some 4), none, .asg (.t 23)⟩] none [2, 3, 4])
  .skip))
 (.seq (.seq (.region [⟨(some 24), none, .mov (.t 4)⟩,
   ⟨(some 25), none, .bin .eql (.t 24) (.c (.i .i64 0))⟩] none [2, 3, 4, 25])
 (.cond (.t 25)
  (.region [⟨(some 26), none, .fld 7 (.t 2)⟩,
    ⟨(some 27), none, .load (some 5) (.t 26)⟩,
    ⟨(some 28), none, .fld 7 (.t 3)⟩,
    ⟨(some 29), none, .load (some 5) (.t 28)⟩,
    ⟨(some 30), none, .call (.c (.fn (.func F_terms_Compare) [] [])) [(.t 27), (.t 29)]⟩,
    ⟨(some 4), none, .asg (.t 30)⟩] none [2, 3, 4])
  .skip))
 (.seq (.seq (.region [⟨(some 31), none, .mov (.t 4)⟩,
   ⟨(some 32), none, .bin .neq (.t 31) (.c (.i .i64 0))⟩] none [2, 3, 4, 32])
 (.cond (.t 32)
  (.seq (.region [⟨(some 33), none, .mov (.t 4)⟩,
    ⟨(some 4), none, .asg (.t 33)⟩] none [4])
  .ret)
  .skip))
 (.seq (.region [⟨(some 34), none, .fld 12 (.t 2)⟩,
   ⟨(some 35), none, .load none (.t 34)⟩,
   ⟨(some 36), none, .fld 12 (.t 3)⟩,
   ⟨(some 37), none, .load none (.t 36)⟩,
   ⟨(some 38), none, .call (.c (.fn (.func F_slices_Compare_string_string) [] [])) [(.t 35), (.t 37)]⟩,
   ⟨(some 39), none, .fld 13 (.t 2)⟩,
   ⟨(some 40), none, .load none (.t 39)⟩,
   ⟨(some 41), none, .fld 13 (.t 3)⟩,
   ⟨(some 42), none, .load none (.t 41)⟩,
   ⟨(some 43), none, .call (.c (.fn (.func F_strings_Compare) [] [])) [(.t 40), (.t 42)]⟩,
   ⟨(some 44), none, .fld 14 (.t 2)⟩,
   ⟨(some 45), none, .load none (.t 44)⟩,
   ⟨(some 46), none, .fld 14 (.t 3)⟩,
   ⟨(some 47), none, .load none (.t 46)⟩,
   ⟨(some 48), none, .call (.c (.fn (.func F_strings_Compare) [] [])) [(.t 45), (.t 47)]⟩,
   ⟨(some 49), none, .fld 15 (.t 2)⟩,
   ⟨(some 50), none, .load none (.t 49)⟩,
   ⟨(some 51), none, .fld 15 (.t 3)⟩,
   ⟨(some 52), none, .load none (.t 51)⟩,
   ⟨(some 53), none, .call (.c (.fn (.func F_strings_Compare) [] [])) [(.t 50), (.t 52)]⟩,
   ⟨(some 54), none, .bsl false T_int_0 1 4 [(.i .i64 0)] [(0, (.t 38)), (1, (.t 43)), (2, (.t 48)), (3, (.t 53))]⟩,
   ⟨(some 55), none, .call (.c (.fn (.func F_cmp_Or_int) [] [])) [(.t 54)]⟩,
   ⟨(some 4), none, .asg (.t 55)⟩] (some ([0, 1, 2, 3, 4, 5, 6, 7, 8, 9, 10, 11, 12, 13, 14, 15, 16, 17, 18, 19, 20, 21, 22], [])) [4])
 .ret))))))⟩

def ir_terms_weight_L0 : ACode :=
 (.seq (.region [⟨(some 14), none, .bin .lss (.t 13) (.t 12)⟩] none [1, 2, 11, 12, 13, 14])
 (.seq (.cond (.t 14)
  .skip
  (.exit 0))
 (.seq (.block 1
  (.seq (.region [⟨(some 15), none, .idx 5 (.t 11) (.t 13)⟩,
    ⟨(some 16), none, .load (some 5) (.t 15)⟩,
    ⟨(some 4), none, .lalloc [(.i .i64 0), (.s []), (.i .i64 0), (.i .i64 0), .ns]⟩,
    ⟨none, none, .store 5 (.t 4) (.t 16)⟩] none [1, 2, 4, 11, 12, 13])
  (.seq (.region [⟨(some 17), none, .fld 0 (.t 4)⟩,
    ⟨(some 18), none, .load none (.t 17)⟩,
    ⟨(some 19), none, .bin .neq (.t 18) (.c (.i .i64 0))⟩] none [1, 2, 4, 11, 12, 13, 19])
  (.cond (.t 19)
   (.region [⟨(some 20), none, .mov (.t 2)⟩,
     ⟨(some 21), none, .load (some 5) (.t 4)⟩,
     ⟨(some 22), none, .call (.c (.fn (.func F_terms_Size) [] [])) [(.t 21)]⟩,
     ⟨(some 23), none, .bin .add (.t 20) (.t 22)⟩,
     ⟨(some 2), none, .asg (.t 23)⟩] none [1, 2, 11, 12, 13])
   .skip))))
 (.region [⟨(some 24), none, .bin .add (.t 13) (.c (.i .i64 1))⟩,
   ⟨(some 13), none, .mov (.t 24)⟩] none [1, 2, 11, 12, 13]))))
def ir_terms_weight_L1 : ACode :=
 (.seq (.region [⟨(some 39), none, .bin .lss (.t 38) (.t 37)⟩] none [2, 36, 37, 38, 39])
 (.seq (.cond (.t 39)
  .skip
  (.exit 2))
 (.seq (.block 3
  (.seq (.region [⟨(some 40), none, .idx 1 (.t 36) (.t 38)⟩,
    ⟨(some 41), none, .load none (.t 40)⟩,
    ⟨(some 6), none, .asg (.t 41)⟩] none [2, 6, 36, 37, 38])
  (.seq (.region [⟨(some 42), none, .mov (.t 6)⟩,
    ⟨(some 43), none, .bin .neq (.t 42) (.c (.s []))⟩] none [2, 36, 37, 38, 43])
  (.cond (.t 43)
   (.region [⟨(some 44), none, .mov (.t 2)⟩,
     ⟨(some 45), none, .bin .add (.t 44) (.c (.i .i64 1))⟩,
     ⟨(some 2), none, .asg (.t 45)⟩] none [2, 36, 37, 38])
   .skip))))
 (.region [⟨(some 46), none, .bin .add (.t 38) (.c (.i .i64 1))⟩,
   ⟨(some 38), none, .mov (.t 46)⟩] none [2, 36, 37, 38]))))
/-- veilstone/terms.weight -/
def ir_terms_weight : AFun := ⟨1, [.tmp 2], true, false,
 (.seq (.region [⟨(some 1), none, .lbox (.t 0)⟩,
   ⟨(some 2), none, .asg (.c (.i .i64 0))⟩] none [1, 2])
 (.seq (.seq (.region [⟨(some 7), none, .fld 2 (.t 1)⟩,
   ⟨(some 8), none, .load (some 5) (.t 7)⟩,
   ⟨(some 9), none, .fld 7 (.t 1)⟩,
   ⟨(some 10), none, .load (some 5) (.t 9)⟩,
   ⟨(some 11), none, .bsl false T_api_Concept_1 5 2 [(.i .i64 0), (.s []), (.i .i64 0), (.i .i64 0), .ns] [(0, (.t 8)), (1, (.t 10))]⟩,
   ⟨(some 12), none, .len 0 (.t 11)⟩,
   ⟨(some 13), none, .mov (.c (.i .i64 0))⟩] none [1, 2, 11, 12, 13])
 (.block 0
  (.loop [1, 2, 11, 12, 13] ir_terms_weight_L0)))
 (.seq (.region [⟨(some 25), none, .mov (.t 2)⟩,
   ⟨(some 26), none, .fld 12 (.t 1)⟩,
   ⟨(some 27), none, .load none (.t 26)⟩,
   ⟨(some 28), none, .len 0 (.t 27)⟩,
   ⟨(some 29), none, .bin .add (.t 25) (.t 28)⟩,
   ⟨(some 2), none, .asg (.t 29)⟩] none [1, 2])
 (.seq (.seq (.region [⟨(some 30), none, .fld 13 (.t 1)⟩,
   ⟨(some 31), none, .load none (.t 30)⟩,
   ⟨(some 32), none, .fld 14 (.t 1)⟩,
   ⟨(some 33), none, .load none (.t 32)⟩,
   ⟨(some 34), none, .fld 15 (.t 1)⟩,
   ⟨(some 35), none, .load none (.t 34)⟩,
   ⟨(some 36), none, .bsl false T_string_0 1 3 [(.s [])] [(0, (.t 31)), (1, (.t 33)), (2, (.t 35))]⟩,
   ⟨(some 37), none, .len 0 (.t 36)⟩,
   ⟨(some 38), none, .mov (.c (.i .i64 0))⟩] none [2, 36, 37, 38])
 (.block 2
  (.loop [2, 36, 37, 38] ir_terms_weight_L1)))
 (.seq (.region [⟨(some 47), none, .mov (.t 2)⟩,
   ⟨(some 2), none, .asg (.t 47)⟩] none [2])
 .ret)))))⟩

def ir_terms_Size_R0 : ACode :=
 (.block 1
  (.region [⟨(some 6), none, .load none (.t 2)⟩,
    ⟨(some 7), none, .bin .add (.t 6) (.c (.i .i64 1))⟩,
    ⟨none, none, .store 1 (.t 2) (.t 7)⟩] none []))
def ir_terms_Size_A0 : ACode :=
 .skip
/-- veilstone/terms.Size -/
def ir_terms_Size : AFun := ⟨1, [.cell 2 none], true, false,
 (.seq (.region [⟨(some 1), none, .lbox (.t 0)⟩,
   ⟨(some 2), none, .halloc [(.i .i64 0)]⟩] none [1, 2])
 (.seq (.seq (.region [⟨(some 3), none, .load (some 5) (.t 1)⟩,
   ⟨(some 4), none, .call (.c (.fn (.func F_terms_walk) [] [])) [(.t 3)]⟩] none [2, 4])
 (.block 0
  (.range (.t 4) [5] ir_terms_Size_A0 ir_terms_Size_R0)))
 (.seq (.region [⟨(some 8), none, .load none (.t 2)⟩,
   ⟨none, none, .store 1 (.t 2) (.t 8)⟩] none [2])
 .ret)))⟩

/-- cmp.Compare[int] -/
def ir_cmp_Compare_int : AFun := ⟨2, [.tmp 4], true, false,
 (.seq (.region [⟨(some 4), none, .asg (.c (.i .i64 0))⟩] none [0, 1])
 (.seq (.region [⟨(some 7), none, .mov (.t 0)⟩,
   ⟨(some 8), none, .call (.c (.fn (.func F_cmp_isNaN_int) [] [])) [(.t 7)]⟩,
   ⟨(some 5), none, .asg (.t 8)⟩] none [0, 1, 5])
 (.seq (.region [⟨(some 9), none, .mov (.t 1)⟩,
   ⟨(some 10), none, .call (.c (.fn (.func F_cmp_isNaN_int) [] [])) [(.t 9)]⟩,
   ⟨(some 6), none, .asg (.t 10)⟩] none [0, 1, 5, 6])
 (.seq (.seq (.region [⟨(some 11), none, .mov (.t 5)⟩] none [0, 1, 6, 11])
 (.cond (.t 11)
  (.seq (.seq (.region [⟨(some 12), none, .mov (.t 6)⟩] none [12])
  (.cond (.t 12)
   (.seq (.region [⟨(some 4), none, .asg (.c (.i .i64 0))⟩] none [4])
   .ret)
   .skip))
  (.seq (.region [⟨(some 4), none, .asg (.c (.i .i64 (-1)))⟩] none [4])
  .ret))
  .skip))
 (.seq (.seq (.region [⟨(some 13), none, .mov (.t 6)⟩] none [0, 1, 13])
 (.cond (.t 13)
  (.seq (.region [⟨(some 4), none, .asg (.c (.i .i64 1))⟩] none [4])
  .ret)
  .skip))
 (.seq (.seq (.region [⟨(some 14), none, .mov (.t 0)⟩,
   ⟨(some 15), none, .mov (.t 1)⟩,
   ⟨(some 16), none, .bin .lss (.t 14) (.t 15)⟩] none [0, 1, 16])
 (.cond (.t 16)
  (.seq (.region [⟨(some 4), none, .asg (.c (.i .i64 (-1)))⟩] none [4])
  .ret)
  .skip))
 (.seq (.seq (.region [⟨(some 17), none, .mov (.t 0)⟩,
   ⟨(some 18), none, .mov (.t 1)⟩,
   ⟨(some 19), none, .bin .gtr (.t 17) (.t 18)⟩] none [19])
 (.cond (.t 19)
  (.seq (.region [⟨(some 4), none, .asg (.c (.i .i64 1))⟩] none [4])
  .ret)
  .skip))
 (.seq (.region [⟨(some 4), none, .asg (.c (.i .i64 0))⟩] none [4])
 .ret))))))))⟩

/-- cmp.isNaN[int] -/
def ir_cmp_isNaN_int : AFun := ⟨1, [.tmp 2], true, false,
 (.seq (.region [⟨(some 2), none, .asg (.c (.b false))⟩] none [0])
 (.seq (.region [⟨(some 3), none, .mov (.t 0)⟩,
   ⟨(some 4), none, .mov (.t 0)⟩,
   ⟨(some 5), none, .bin .neq (.t 3) (.t 4)⟩,
   ⟨(some 2), none, .asg (.t 5)⟩] none [2])
 .ret))⟩

def ir_cmp_Or_int_L0 : ACode :=
 (.seq (.region [⟨(some 9), none, .bin .lss (.t 8) (.t 7)⟩] none [3, 6, 7, 8, 9])
 (.seq (.cond (.t 9)
  .skip
  (.exit 0))
 (.seq (.block 1
  (.seq (.region [⟨(some 10), none, .idx 1 (.t 6) (.t 8)⟩,
    ⟨(some 11), none, .load none (.t 10)⟩,
    ⟨(some 5), none, .asg (.t 11)⟩] none [3, 5, 6, 7, 8])
  (.seq (.region [⟨(some 12), none, .mov (.t 5)⟩,
    ⟨(some 13), none, .mov (.t 3)⟩,
    ⟨(some 14), none, .bin .neq (.t 12) (.t 13)⟩] none [3, 5, 6, 7, 8, 14])
  (.cond (.t 14)
   (.seq (.region [⟨(some 15), none, .mov (.t 5)⟩,
     ⟨(some 2), none, .asg (.t 15)⟩] none [2])
   .ret)
   .skip))))
 (.region [⟨(some 16), none, .bin .add (.t 8) (.c (.i .i64 1))⟩,
   ⟨(some 8), none, .mov (.t 16)⟩] none [3, 6, 7, 8]))))
/-- cmp.Or[int] -/
def ir_cmp_Or_int : AFun := ⟨1, [.tmp 2], true, false,
 (.seq (.region [⟨(some 2), none, .asg (.c (.i .i64 0))⟩] none [0])
 (.seq (.region [⟨(some 3), none, .asg (.c (.i .i64 0))⟩] none [0, 3])
 (.seq (.seq (.region [⟨(some 6), none, .mov (.t 0)⟩,
   ⟨(some 7), none, .len 0 (.t 6)⟩,
   ⟨(some 8), none, .mov (.c (.i .i64 0))⟩] none [3, 6, 7, 8])
 (.block 0
  (.loop [3, 6, 7, 8] ir_cmp_Or_int_L0)))
 (.seq (.region [⟨(some 17), none, .mov (.t 3)⟩,
   ⟨(some 2), none, .asg (.t 17)⟩] none [2])
 .ret))))⟩

/-- veilstone/terms.Compare -/
def ir_terms_Compare : AFun := ⟨2, [.tmp 4], true, false,
 (.seq (.region [⟨(some 2), none, .lbox (.t 0)⟩,
   ⟨(some 3), none, .lbox (.t 1)⟩,
   ⟨(some 4), none, .asg (.c (.i .i64 0))⟩] none [2, 3])
 (.seq (.region [⟨(some 5), none, .load (some 5) (.t 2)⟩,
   ⟨(some 6), none, .call (.c (.fn (.func F_terms_grow) [] [])) [(.t 5)]⟩,
   ⟨(some 7), none, .load (some 5) (.t 3)⟩,
   ⟨(some 8), none, .call (.c (.fn (.func F_terms_grow) [] [])) [(.t 7)]⟩,
   ⟨(some 9), none, .call (.c (.fn (.func F_terms_tree_compare) [] [])) [(.t 6), (.t 8)]⟩,
   ⟨(some 4), none, .asg (.t 9)⟩] (some ([0, 1, 2, 3, 4, 5], [])) [4])
 .ret))⟩

def ir_terms_grow_L0 : ACode :=
 (.seq (.region [⟨(some 12), none, .bin .lss (.t 11) (.t 10)⟩] none [2, 9, 10, 11, 12])
 (.seq (.cond (.t 12)
  .skip
  (.exit 0))
 (.seq (.block 1
  (.seq (.region [⟨(some 13), none, .idx 5 (.t 9) (.t 11)⟩,
    ⟨(some 14), none, .load (some 5) (.t 13)⟩,
    ⟨(some 4), none, .lalloc [(.i .i64 0), (.s []), (.i .i64 0), (.i .i64 0), .ns]⟩,
    ⟨none, none, .store 5 (.t 4) (.t 14)⟩] none [2, 4, 9, 10, 11])
  (.seq (.region [⟨(some 15), none, .load (some 5) (.t 4)⟩,
    ⟨(some 16), none, .call (.c (.fn (.func F_terms_grow) [] [])) [(.t 15)]⟩,
    ⟨(some 5), none, .lalloc [(.i .i64 0), (.s []), (.i .i64 0), (.i .i64 0), .ns, (.i .i64 0), .ns]⟩,
    ⟨none, none, .store 7 (.t 5) (.t 16)⟩] none [2, 5, 9, 10, 11])
  (.seq (.region [⟨(some 17), none, .fld 5 (.t 2)⟩,
    ⟨(some 18), none, .load none (.t 17)⟩,
    ⟨(some 19), none, .fld 5 (.t 5)⟩,
    ⟨(some 20), none, .load none (.t 19)⟩,
    ⟨(some 21), none, .bin .add (.t 18) (.t 20)⟩,
    ⟨(some 22), none, .fld 5 (.t 2)⟩,
    ⟨none, none, .store 1 (.t 22) (.t 21)⟩] none [2, 5, 9, 10, 11])
  (.region [⟨(some 23), none, .fld 6 (.t 2)⟩,
    ⟨(some 24), none, .load none (.t 23)⟩,
    ⟨(some 25), none, .load (some 7) (.t 5)⟩,
    ⟨(some 26), none, .bsl false T_terms_tree_1 7 1 [(.i .i64 0), (.s []), (.i .i64 0), (.i .i64 0), .ns, (.i .i64 0), .ns] [(0, (.t 25))]⟩,
    ⟨(some 27), none, .appr T_terms_tree_1 7 (.t 24) (.t 26)⟩,
    ⟨(some 28), none, .fld 6 (.t 2)⟩,
    ⟨none, none, .store 1 (.t 28) (.t 27)⟩] none [2, 9, 10, 11])))))
 (.region [⟨(some 29), none, .bin .add (.t 11) (.c (.i .i64 1))⟩,
   ⟨(some 11), none, .mov (.t 29)⟩] none [2, 9, 10, 11]))))
/-- veilstone/terms.grow -/
def ir_terms_grow : AFun := ⟨1, [.cell 2 (some 7)], true, false,
 (.seq (.region [⟨(some 1), none, .lbox (.t 0)⟩,
   ⟨(some 2), none, .lalloc [(.i .i64 0), (.s []), (.i .i64 0), (.i .i64 0), .ns, (.i .i64 0), .ns]⟩] none [1, 2])
 (.seq (.region [⟨(some 6), none, .load (some 5) (.t 1)⟩,
   ⟨(some 7), none, .build [(.i .i64 0), (.s []), (.i .i64 0), (.i .i64 0), .ns, (.i .i64 0), .ns] [(0, 5, (.t 6)), (5, 1, (.c (.i .i64 1)))]⟩,
   ⟨none, none, .store 7 (.t 2) (.t 7)⟩] none [1, 2])
 (.seq (.seq (.region [⟨(some 8), none, .fld 4 (.t 1)⟩,
   ⟨(some 9), none, .load none (.t 8)⟩,
   ⟨(some 10), none, .len 0 (.t 9)⟩,
   ⟨(some 11), none, .mov (.c (.i .i64 0))⟩] none [2, 9, 10, 11])
 (.block 0
  (.loop [2, 9, 10, 11] ir_terms_grow_L0)))
 (.seq (.region [⟨(some 30), none, .load (some 7) (.t 2)⟩,
   ⟨none, none, .store 7 (.t 2) (.t 30)⟩] none [2])
 .ret))))⟩

/-- (veilstone/terms.tree).compare -/
def ir_terms_tree_compare : AFun := ⟨2, [.tmp 4], true, false,
 (.seq (.region [⟨(some 2), none, .lbox (.t 0)⟩,
   ⟨(some 3), none, .lbox (.t 1)⟩,
   ⟨(some 4), none, .asg (.c (.i .i64 0))⟩] none [2, 3])
 (.seq (.region [⟨(some 6), none, .fld 5 (.t 2)⟩,
   ⟨(some 7), none, .load none (.t 6)⟩,
   ⟨(some 8), none, .fld 5 (.t 3)⟩,
   ⟨(some 9), none, .load none (.t 8)⟩,
   ⟨(some 10), none, .call (.c (.fn (.func F_cmp_Compare_int) [] [])) [(.t 7), (.t 9)]⟩,
   ⟨(some 11), none, .fld 0 (.t 2)⟩,
   ⟨(some 12), none, .fld 0 (.t 11)⟩,
   ⟨(some 13), none, .load none (.t 12)⟩,
   ⟨(some 14), none, .fld 0 (.t 3)⟩,
   ⟨(some 15), none, .fld 0 (.t 14)⟩,
   ⟨(some 16), none, .load none (.t 15)⟩,
   ⟨(some 17), none, .call (.c (.fn (.func F_cmp_Compare_int) [] [])) [(.t 13), (.t 16)]⟩,
   ⟨(some 18), none, .fld 0 (.t 2)⟩,
   ⟨(some 19), none, .fld 1 (.t 18)⟩,
   ⟨(some 20), none, .load none (.t 19)⟩,
   ⟨(some 21), none, .fld 0 (.t 3)⟩,
   ⟨(some 22), none, .fld 1 (.t 21)⟩,
   ⟨(some 23), none, .load none (.t 22)⟩,
   ⟨(some 24), none, .call (.c (.fn (.func F_strings_Compare) [] [])) [(.t 20), (.t 23)]⟩,
   ⟨(some 25), none, .fld 0 (.t 2)⟩,
   ⟨(some 26), none, .fld 2 (.t 25)⟩,
   ⟨(some 27), none, .load none (.t 26)⟩,
   ⟨(some 28), none, .fld 0 (.t 3)⟩,
   ⟨(some 29), none, .fld 2 (.t 28)⟩,
   ⟨(some 30), none, .load none (.t 29)⟩,
   ⟨(some 31), none, .call (.c (.fn (.func F_cmp_Compare_int) [] [])) [(.t 27), (.t 30)]⟩,
   ⟨(some 32), none, .fld 0 (.t 2)⟩,
   ⟨(some 33), none, .fld 3 (.t 32)⟩,
   ⟨(some 34), none, .load none (.t 33)⟩,
   ⟨(some 35), none, .fld 0 (.t 3)⟩,
   ⟨(some 36), none, .fld 3 (.t 35)⟩,
   ⟨(some 37), none, .load none (.t 36)⟩,
   ⟨(some 38), none, .call (.c (.fn (.func F_cmp_Compare_int) [] [])) [(.t 34), (.t 37)]⟩,
   ⟨(some 39), none, .bsl false T_int_0 1 5 [(.i .i64 0)] [(0, (.t 10)), (1, (.t 17)), (2, (.t 24)), (3, (.t 31)), (4, (.t 38))]⟩,
   ⟨(some 40), none, .call (.c (.fn (.func F_cmp_Or_int) [] [])) [(.t 39)]⟩,
   ⟨(some 5), none, .asg (.t 40)⟩] (some ([0, 1, 2, 3, 4, 5, 6, 7, 8, 9, 10, 11, 12, 13, 14, 15, 16, 17, 18, 19, 20, 21, 22, 23, 24, 25, 26, 27, 28, 29, 30, 31, 32, 33, 34, 35], [])) [2, 3, 5])
 (.seq (.seq (.region [⟨(some 41), none, .mov (.t 5)⟩,
   ⟨(some 42), none, .bin .neq (.t 41) (.c (.i .i64 0))⟩] none [2, 3, 5, 42])
 (.cond (.t 42)
  (.seq (.region [⟨(some 43), none, .mov (.t 5)⟩,
    ⟨(some 4), none, .asg (.t 43)⟩] none [4])
  .ret)
  .skip))
 (.seq (.region [⟨(some 44), none, .fld 6 (.t 2)⟩,
   ⟨(some 45), none, .load none (.t 44)⟩,
   ⟨(some 46), none, .fld 6 (.t 3)⟩,
   ⟨(some 47), none, .load none (.t 46)⟩,
   ⟨(some 48), none, .call (.c (.fn (.func F_slices_CompareFunc_terms_tree_terms_tree_terms_tree_terms_tree) [] [])) [(.t 45), (.t 47), (.c (.fn (.func F_terms_tree_compare) [] []))]⟩,
   ⟨(some 4), none, .asg (.t 48)⟩] none [4])
 .ret))))⟩

def ir_slices_CompareFunc_terms_tree_terms_tree_terms_tree_terms_tree_L0 : ACode :=
 (.seq (.region [⟨(some 14), none, .bin .lss (.t 13) (.t 12)⟩] none [0, 1, 2, 11, 12, 13, 14])
 (.seq (.cond (.t 14)
  .skip
  (.exit 0))
 (.seq (.block 1
  (.seq (.region [⟨(some 15), none, .mov (.t 13)⟩,
    ⟨(some 16), none, .idx 7 (.t 11) (.t 13)⟩,
    ⟨(some 17), none, .load (some 7) (.t 16)⟩,
    ⟨(some 8), none, .lalloc [(.i .i64 0), (.s []), (.i .i64 0), (.i .i64 0), .ns, (.i .i64 0), .ns]⟩,
    ⟨(some 7), none, .asg (.t 15)⟩,
    ⟨none, none, .store 7 (.t 8) (.t 17)⟩] none [0, 1, 2, 7, 8, 11, 12, 13])
  (.seq (.seq (.region [⟨(some 18), none, .mov (.t 7)⟩,
    ⟨(some 19), none, .mov (.t 1)⟩,
    ⟨(some 20), none, .len 0 (.t 19)⟩,
    ⟨(some 21), none, .bin .geq (.t 18) (.t 20)⟩] none [0, 1, 2, 7, 8, 11, 12, 13, 21])
  (.cond (.t 21)
   (.seq (.region [⟨(some 6), none, .asg (.c (.i .i64 1))⟩] none [6])
   .ret)
   .skip))
  (.seq (.region [⟨(some 22), none, .mov (.t 1)⟩,
    ⟨(some 23), none, .mov (.t 7)⟩,
    ⟨(some 24), none, .idx 7 (.t 22) (.t 23)⟩,
    ⟨(some 25), none, .load (some 7) (.t 24)⟩,
    ⟨(some 9), none, .lalloc [(.i .i64 0), (.s []), (.i .i64 0), (.i .i64 0), .ns, (.i .i64 0), .ns]⟩,
    ⟨none, none, .store 7 (.t 9) (.t 25)⟩] none [0, 1, 2, 8, 9, 11, 12, 13])
  (.seq (.region [⟨(some 26), none, .mov (.t 2)⟩,
    ⟨(some 27), none, .load (some 7) (.t 8)⟩,
    ⟨(some 28), none, .load (some 7) (.t 9)⟩,
    ⟨(some 29), none, .call (.t 26) [(.t 27), (.t 28)]⟩,
    ⟨(some 10), none, .asg (.t 29)⟩] none [0, 1, 2, 10, 11, 12, 13])
  (.seq (.region [⟨(some 30), none, .mov (.t 10)⟩,
    ⟨(some 31), none, .bin .neq (.t 30) (.c (.i .i64 0))⟩] none [0, 1, 2, 10, 11, 12, 13, 31])
  (.cond (.t 31)
   (.seq (.region [⟨(some 32), none, .mov (.t 10)⟩,
     ⟨(some 6), none, .asg (.t 32)⟩] none [6])
   .ret)
   .skip)))))))
 (.region [⟨(some 33), none, .bin .add (.t 13) (.c (.i .i64 1))⟩,
   ⟨(some 13), none, .mov (.t 33)⟩] none [0, 1, 2, 11, 12, 13]))))
/-- slices.CompareFunc[[]veilstone/terms.tree,[]veilstone/terms.tree,veilstone/terms.tree,veilstone/terms.tree] -/
def ir_slices_CompareFunc_terms_tree_terms_tree_terms_tree_terms_tree : AFun := ⟨3, [.tmp 6], false, false,
 (.seq (.region [⟨(some 6), none, .asg (.c (.i .i64 0))⟩] none [0, 1, 2])
 (.seq (.seq (.region [⟨(some 11), none, .mov (.t 0)⟩,
   ⟨(some 12), none, .len 0 (.t 11)⟩,
   ⟨(some 13), none, .mov (.c (.i .i64 0))⟩] none [0, 1, 2, 11, 12, 13])
 (.block 0
  (.loop [0, 1, 2, 11, 12, 13] ir_slices_CompareFunc_terms_tree_terms_tree_terms_tree_terms_tree_L0)))
 (.seq (.seq (.region [⟨(some 34), none, .mov (.t 0)⟩,
   ⟨(some 35), none, .len 0 (.t 34)⟩,
   ⟨(some 36), none, .mov (.t 1)⟩,
   ⟨(some 37), none, .len 0 (.t 36)⟩,
   ⟨(some 38), none, .bin .lss (.t 35) (.t 37)⟩] none [38])
 (.cond (.t 38)
  (.seq (.region [⟨(some 6), none, .asg (.c (.i .i64 (-1)))⟩] none [6])
  .ret)
  .skip))
 (.seq (.region [⟨(some 6), none, .asg (.c (.i .i64 0))⟩] none [6])
 .ret))))⟩

def ir_slices_Compare_string_string_L0 : ACode :=
 (.seq (.region [⟨(some 12), none, .bin .lss (.t 11) (.t 10)⟩] none [0, 1, 9, 10, 11, 12])
 (.seq (.cond (.t 12)
  .skip
  (.exit 0))
 (.seq (.block 1
  (.seq (.region [⟨(some 13), none, .mov (.t 11)⟩,
    ⟨(some 14), none, .idx 1 (.t 9) (.t 11)⟩,
    ⟨(some 15), none, .load none (.t 14)⟩,
    ⟨(some 5), none, .asg (.t 13)⟩,
    ⟨(some 6), none, .asg (.t 15)⟩] none [0, 1, 5, 6, 9, 10, 11])
  (.seq (.seq (.region [⟨(some 16), none, .mov (.t 5)⟩,
    ⟨(some 17), none, .mov (.t 1)⟩,
    ⟨(some 18), none, .len 0 (.t 17)⟩,
    ⟨(some 19), none, .bin .geq (.t 16) (.t 18)⟩] none [0, 1, 5, 6, 9, 10, 11, 19])
  (.cond (.t 19)
   (.seq (.region [⟨(some 4), none, .asg (.c (.i .i64 1))⟩] none [4])
   .ret)
   .skip))
  (.seq (.region [⟨(some 20), none, .mov (.t 1)⟩,
    ⟨(some 21), none, .mov (.t 5)⟩,
    ⟨(some 22), none, .idx 1 (.t 20) (.t 21)⟩,
    ⟨(some 23), none, .load none (.t 22)⟩,
    ⟨(some 7), none, .asg (.t 23)⟩] none [0, 1, 6, 7, 9, 10, 11])
  (.seq (.region [⟨(some 24), none, .mov (.t 6)⟩,
    ⟨(some 25), none, .mov (.t 7)⟩,
    ⟨(some 26), none, .call (.c (.fn (.func F_cmp_Compare_string) [] [])) [(.t 24), (.t 25)]⟩,
    ⟨(some 8), none, .asg (.t 26)⟩] none [0, 1, 8, 9, 10, 11])
  (.seq (.region [⟨(some 27), none, .mov (.t 8)⟩,
    ⟨(some 28), none, .bin .neq (.t 27) (.c (.i .i64 0))⟩] none [0, 1, 8, 9, 10, 11, 28])
  (.cond (.t 28)
   (.seq (.region [⟨(some 29), none, .mov (.t 8)⟩,
     ⟨(some 4), none, .asg (.t 29)⟩] none [4])
   .ret)
   .skip)))))))
 (.region [⟨(some 30), none, .bin .add (.t 11) (.c (.i .i64 1))⟩,
   ⟨(some 11), none, .mov (.t 30)⟩] none [0, 1, 9, 10, 11]))))
/-- slices.Compare[[]string,string] -/
def ir_slices_Compare_string_string : AFun := ⟨2, [.tmp 4], true, false,
 (.seq (.region [⟨(some 4), none, .asg (.c (.i .i64 0))⟩] none [0, 1])
 (.seq (.seq (.region [⟨(some 9), none, .mov (.t 0)⟩,
   ⟨(some 10), none, .len 0 (.t 9)⟩,
   ⟨(some 11), none, .mov (.c (.i .i64 0))⟩] none [0, 1, 9, 10, 11])
 (.block 0
  (.loop [0, 1, 9, 10, 11] ir_slices_Compare_string_string_L0)))
 (.seq (.seq (.region [⟨(some 31), none, .mov (.t 0)⟩,
   ⟨(some 32), none, .len 0 (.t 31)⟩,
   ⟨(some 33), none, .mov (.t 1)⟩,
   ⟨(some 34), none, .len 0 (.t 33)⟩,
   ⟨(some 35), none, .bin .lss (.t 32) (.t 34)⟩] none [35])
 (.cond (.t 35)
  (.seq (.region [⟨(some 4), none, .asg (.c (.i .i64 (-1)))⟩] none [4])
  .ret)
  .skip))
 (.seq (.region [⟨(some 4), none, .asg (.c (.i .i64 0))⟩] none [4])
 .ret))))⟩

/-- cmp.Compare[string] -/
def ir_cmp_Compare_string : AFun := ⟨2, [.tmp 4], true, false,
 (.seq (.region [⟨(some 4), none, .asg (.c (.i .i64 0))⟩] none [0, 1])
 (.seq (.region [⟨(some 7), none, .mov (.t 0)⟩,
   ⟨(some 8), none, .call (.c (.fn (.func F_cmp_isNaN_string) [] [])) [(.t 7)]⟩,
   ⟨(some 5), none, .asg (.t 8)⟩] none [0, 1, 5])
 (.seq (.region [⟨(some 9), none, .mov (.t 1)⟩,
   ⟨(some 10), none, .call (.c (.fn (.func F_cmp_isNaN_string) [] [])) [(.t 9)]⟩,
   ⟨(some 6), none, .asg (.t 10)⟩] none [0, 1, 5, 6])
 (.seq (.seq (.region [⟨(some 11), none, .mov (.t 5)⟩] none [0, 1, 6, 11])
 (.cond (.t 11)
  (.seq (.seq (.region [⟨(some 12), none, .mov (.t 6)⟩] none [12])
  (.cond (.t 12)
   (.seq (.region [⟨(some 4), none, .asg (.c (.i .i64 0))⟩] none [4])
   .ret)
   .skip))
  (.seq (.region [⟨(some 4), none, .asg (.c (.i .i64 (-1)))⟩] none [4])
  .ret))
  .skip))
 (.seq (.seq (.region [⟨(some 13), none, .mov (.t 6)⟩] none [0, 1, 13])
 (.cond (.t 13)
  (.seq (.region [⟨(some 4), none, .asg (.c (.i .i64 1))⟩] none [4])
  .ret)
  .skip))
 (.seq (.seq (.region [⟨(some 14), none, .mov (.t 0)⟩,
   ⟨(some 15), none, .mov (.t 1)⟩,
   ⟨(some 16), none, .bin .lss (.t 14) (.t 15)⟩] none [0, 1, 16])
 (.cond (.t 16)
  (.seq (.region [⟨(some 4), none, .asg (.c (.i .i64 (-1)))⟩] none [4])
  .ret)
  .skip))
 (.seq (.seq (.region [⟨(some 17), none, .mov (.t 0)⟩,
   ⟨(some 18), none, .mov (.t 1)⟩,
   ⟨(some 19), none, .bin .gtr (.t 17) (.t 18)⟩] none [19])
 (.cond (.t 19)
  (.seq (.region [⟨(some 4), none, .asg (.c (.i .i64 1))⟩] none [4])
  .ret)
  .skip))
 (.seq (.region [⟨(some 4), none, .asg (.c (.i .i64 0))⟩] none [4])
 .ret))))))))⟩

/-- cmp.isNaN[string] -/
def ir_cmp_isNaN_string : AFun := ⟨1, [.tmp 2], true, false,
 (.seq (.region [⟨(some 2), none, .asg (.c (.b false))⟩] none [0])
 (.seq (.region [⟨(some 3), none, .mov (.t 0)⟩,
   ⟨(some 4), none, .mov (.t 0)⟩,
   ⟨(some 5), none, .bin .neq (.t 3) (.t 4)⟩,
   ⟨(some 2), none, .asg (.t 5)⟩] none [2])
 .ret))⟩

end Go.Ai.Z
