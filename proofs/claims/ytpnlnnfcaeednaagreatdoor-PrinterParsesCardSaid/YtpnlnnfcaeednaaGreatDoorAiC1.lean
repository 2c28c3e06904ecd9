/-
  Functions whose answer is known.
-/
import Derived.Test.YtpnlnnfcaeednaaGreatDoorAiA1
import Derived.Lib.ItoaLen
import Derived.Lib.Bytealg
import Derived.Lib.Atoi
set_option maxRecDepth 100000
set_option linter.unusedSimpArgs false
set_option linter.unusedVariables false
set_option linter.unusedSectionVars false
namespace Go.Ai
def joinL (sep : List UInt8) : List (List UInt8) → List UInt8
  | [] => []
  | x :: r => x ++ r.flatMap fun y => sep ++ y
def strOf : AV → Option (List UInt8)
  | .s l => some l
  | _ => none
def iJoin : List AV → Option AV
  | [.sl es, .s sep] => (es.mapM strOf).bind fun l => if (joinL sep l).length ≤ 1048576 ∧ l.length ≤ 1048576 then some (.s (joinL sep l)) else none
  | _ => none
def iItoa : List AV → Option AV
  | [.i .i64 n] => if -9223372036854775808 ≤ n ∧ n ≤ 9223372036854775807 then some (.s (Lib.itoa n)) else none
  | _ => none
def iAtoi : List AV → Option AV
  | [.s l] => if l.length ≤ 18 then (Lib.atoi l).map fun n => .tu [.i .i64 n, .ni] else none
  | _ => none
def cutB (b : UInt8) : List UInt8 → Option (List UInt8 × List UInt8)
  | [] => none
  | x :: r => if x = b then some ([], r) else (cutB b r).map fun p => (x :: p.1, p.2)
def iIndex : List AV → Option AV
  | [.s l, .s [b]] => some (.i .i64 (Lib.indexByte l b))
  | _ => none
def iCompare : List AV → Option AV
  | [.s a, .s b] => some (.i .i64 (Lib.compareBytes a b))
  | _ => none
end Go.Ai
namespace Go.Ai.Z
abbrev F_law04_PrinterParses : Nat := 3
abbrev F_law04_sane : Nat := 11
abbrev F_ref02_Few : Nat := 12
abbrev F_law04_plain : Nat := 13
abbrev F_printer_Concept : Nat := 14
abbrev F_terms_CheckConcept : Nat := 15
abbrev F_terms_Tidy : Nat := 16
abbrev F_syntax_Concept : Nat := 17
abbrev F_terms_Compare : Nat := 18
abbrev F_law04_named : Nat := 38
abbrev F_law04_and : Nat := 37
abbrev F_law04_some : Nat := 36
abbrev F_law04_prints : Nat := 35
abbrev F_law04_states : Nat := 39
abbrev F_printer_Document : Nat := 27
abbrev F_printer_Axiom : Nat := 21
abbrev F_printer_newPrinter : Nat := 41
abbrev F_printer_printer_text : Nat := 42
abbrev F_terms_fits : Nat := 43
abbrev F_terms_walk : Nat := 44
abbrev F_terms_checkFields : Nat := 45
abbrev F_terms_walk_1 : Nat := 91
abbrev F_terms_visit : Nat := 92
abbrev F_terms_isPlain : Nat := 93
abbrev F_terms_isReserved : Nat := 94
abbrev F_strings_Cut : Nat := 129
abbrev F_terms_isWord : Nat := 130
abbrev F_internal_stringslite_Cut : Nat := 151
abbrev F_internal_stringslite_Index : Nat := 161
abbrev F_terms_isLetter : Nat := 152
abbrev F_terms_isTail : Nat := 131
abbrev F_lexis_Keyword : Nat := 153
abbrev F_printer_printer_top : Nat := 75
abbrev F_printer_printer_bottom : Nat := 76
abbrev F_printer_printer_named : Nat := 77
abbrev F_printer_printer_nominal : Nat := 78
abbrev F_printer_printer_and : Nat := 79
abbrev F_printer_printer_some : Nat := 80
abbrev F_printer_printer_span : Nat := 81
abbrev F_printer_printer_sub : Nat := 82
abbrev F_printer_printer_same : Nat := 83
abbrev F_printer_printer_disjoint : Nat := 84
abbrev F_printer_printer_domain : Nat := 85
abbrev F_printer_printer_role : Nat := 86
abbrev F_printer_printer_chain : Nat := 87
abbrev F_printer_printer_reflexive : Nat := 88
abbrev F_printer_printer_typing : Nat := 89
abbrev F_printer_printer_link : Nat := 90
abbrev F_printer_printer_operand : Nat := 126
abbrev F_strings_Join : Nat := 127
abbrev F_printer_words : Nat := 102
abbrev F_strconv_Itoa : Nat := 128
abbrev F_terms_CheckAxiom : Nat := 22
abbrev F_printer_printer_axiom : Nat := 53
abbrev F_terms_isShaped : Nat := 54
abbrev F_terms_isNamed : Nat := 55
abbrev F_terms_isBare : Nat := 56
abbrev F_terms_isEmpty : Nat := 103
abbrev F_terms_CheckName : Nat := 104
abbrev F_slices_ContainsFunc_api_Concept_api_Concept : Nat := 105
abbrev F_slices_IndexFunc_api_Concept_api_Concept : Nat := 140
abbrev F_ref02_count : Nat := 40
abbrev F_terms_tidy : Nat := 46
abbrev F_terms_meet : Nat := 95
abbrev F_terms_grow : Nat := 51
abbrev F_slices_SortFunc_terms_tree_terms_tree : Nat := 132
abbrev F_terms_tree_compare : Nat := 52
abbrev F_slices_CompactFunc_terms_tree_terms_tree : Nat := 133
abbrev F_terms_meet_1 : Nat := 134
abbrev F_cmp_Compare_int : Nat := 61
abbrev F_strings_Compare : Nat := 64
abbrev F_cmp_Or_int : Nat := 60
abbrev F_slices_CompareFunc_terms_tree_terms_tree_terms_tree_terms_tree : Nat := 101
abbrev F_cmp_isNaN_int : Nat := 107
abbrev F_syntax_Concept_1 : Nat := 48
abbrev F_syntax_Concept_2 : Nat := 50
abbrev F_syntax_whole : Nat := 47
abbrev F_syntax_parser_concept : Nat := 49
abbrev F_syntax_parser_single : Nat := 99
abbrev F_syntax_parser_skip : Nat := 100
abbrev F_syntax_parser_name : Nat := 137
abbrev F_syntax_parser_want : Nat := 118
abbrev F_syntax_parser_number : Nat := 138
abbrev F_syntax_parser_is : Nat := 139
abbrev F_syntax_parser_token : Nat := 67
abbrev F_syntax_parser_atName : Nat := 143
abbrev F_syntax_parser_fail : Nat := 136
abbrev F_strconv_Atoi : Nat := 156
abbrev F_lexis_Tokens : Nat := 31
abbrev F_syntax_newParser : Nat := 66
abbrev F_syntax_whole_1 : Nat := 97
abbrev F_syntax_try : Nat := 96
abbrev F_lexis_scan : Nat := 73
abbrev F_lexis_classes : Nat := 71
abbrev F_lexis_Tokens_1 : Nat := 72
abbrev F_lexis_run : Nat := 120
abbrev F_lexis_integer : Nat := 121
abbrev F_syntax_parser_domain : Nat := 111
abbrev F_syntax_parser_role : Nat := 112
abbrev F_syntax_parser_chain : Nat := 113
abbrev F_syntax_parser_reflexive : Nat := 114
abbrev F_syntax_parser_typing : Nat := 115
abbrev F_syntax_parser_link : Nat := 116
abbrev F_syntax_parser_end : Nat := 98
abbrev T_api_Concept_1 : Nat := 24
abbrev T_string_0 : Nat := 9
abbrev T_uint8_0 : Nat := 5
abbrev T_terms_tree_1 : Nat := 95
abbrev T_int_0 : Nat := 3
abbrev T_syntax_fault : Nat := 112
abbrev T_api_Token_1 : Nat := 61
abbrev T_api_Problem_1 : Nat := 63
abbrev G_terms_needs : Nat := 1
abbrev G_terms_uses : Nat := 0
abbrev G_internal_strconv_uint64pow10 : Nat := 3
end Go.Ai.Z
namespace Go.Ai.Z
def ir_law04_PrinterParses : AFun := ⟨1, [.tmp 2], true, false,
 (.seq (.region [⟨(some 1), none, .lbox (.t 0)⟩,
   ⟨(some 2), none, .asg (.c (.b false))⟩] none [1])
 (.seq (.seq (.region [⟨(some 10), none, .call (.c (.fn (.func F_law04_sane) [] [])) []⟩,
   ⟨(some 11), none, .un .not (.t 10)⟩] none [1, 11])
 (.cond (.t 11)
  (.seq (.region [⟨(some 2), none, .asg (.c (.b false))⟩] none [2])
  .ret)
  .skip))
 (.seq (.seq (.region [⟨(some 12), none, .load (some 5) (.t 1)⟩,
   ⟨(some 13), none, .call (.c (.fn (.func F_ref02_Few) [] [])) [(.t 12)]⟩,
   ⟨(some 14), none, .un .not (.t 13)⟩,
   ⟨(some 15), none, .mov (.t 14)⟩,
   ⟨(some 16), some (15, false), .load (some 5) (.t 1)⟩,
   ⟨(some 17), some (15, false), .call (.c (.fn (.func F_law04_plain) [] [])) [(.t 16)]⟩,
   ⟨(some 18), some (15, false), .un .not (.t 17)⟩,
   ⟨(some 19), none, .pick (.t 15) (.c (.b true)) (.t 18)⟩] none [1, 19])
 (.cond (.t 19)
  (.seq (.region [⟨(some 2), none, .asg (.c (.b true))⟩] none [2])
  .ret)
  .skip))
 (.seq (.region [⟨(some 21), none, .load (some 5) (.t 1)⟩,
   ⟨(some 22), none, .call (.c (.fn (.func F_printer_Concept) [] [])) [(.t 21)]⟩,
   ⟨(some 20), none, .mov (.t 22)⟩,
   ⟨(some 23), none, .ext (.t 20) 0⟩,
   ⟨(some 24), none, .ext (.t 20) 1⟩,
   ⟨(some 3), none, .asg (.t 23)⟩,
   ⟨(some 4), none, .asg (.t 24)⟩] none [1, 3, 4])
 (.seq (.seq (.region [⟨(some 25), none, .mov (.t 4)⟩,
   ⟨(some 26), none, .load (some 5) (.t 1)⟩,
   ⟨(some 27), none, .call (.c (.fn (.func F_terms_CheckConcept) [] [])) [(.t 26)]⟩,
   ⟨(some 28), none, .bin .neq (.t 25) (.t 27)⟩] none [1, 3, 4, 28])
 (.cond (.t 28)
  (.seq (.region [⟨(some 2), none, .asg (.c (.b false))⟩] none [2])
  .ret)
  .skip))
 (.seq (.seq (.region [⟨(some 29), none, .mov (.t 4)⟩,
   ⟨(some 30), none, .bin .neq (.t 29) (.c (.i .i64 0))⟩] none [1, 3, 30])
 (.cond (.t 30)
  (.seq (.region [⟨(some 31), none, .mov (.t 3)⟩,
    ⟨(some 32), none, .bin .eql (.t 31) (.c (.s []))⟩,
    ⟨(some 2), none, .asg (.t 32)⟩] none [2])
  .ret)
  .skip))
 (.seq (.region [⟨(some 34), none, .load (some 5) (.t 1)⟩,
   ⟨(some 35), none, .call (.c (.fn (.func F_terms_Tidy) [] [])) [(.t 34)]⟩,
   ⟨(some 33), none, .mov (.t 35)⟩,
   ⟨(some 36), none, .ext (.t 33) 0⟩,
   ⟨(some 37), none, .ext (.t 33) 1⟩,
   ⟨(some 5), none, .lalloc [(.i .i64 0), (.s []), (.i .i64 0), (.i .i64 0), .ns]⟩,
   ⟨none, none, .store 5 (.t 5) (.t 36)⟩,
   ⟨(some 6), none, .asg (.t 37)⟩] none [3, 5, 6])
 (.seq (.region [⟨(some 39), none, .mov (.t 3)⟩,
   ⟨(some 40), none, .s2b (.t 39)⟩,
   ⟨(some 41), none, .call (.c (.fn (.func F_syntax_Concept) [] [])) [(.t 40)]⟩,
   ⟨(some 38), none, .mov (.t 41)⟩,
   ⟨(some 42), none, .ext (.t 38) 0⟩,
   ⟨(some 43), none, .ext (.t 38) 1⟩,
   ⟨(some 44), none, .ext (.t 38) 2⟩,
   ⟨(some 7), none, .lalloc [(.i .i64 0), (.s []), (.i .i64 0), (.i .i64 0), .ns]⟩,
   ⟨none, none, .store 5 (.t 7) (.t 42)⟩,
   ⟨(some 8), none, .asg (.t 43)⟩,
   ⟨(some 9), none, .asg (.t 44)⟩] none [5, 6, 7, 9])
 (.seq (.region [⟨(some 45), none, .mov (.t 6)⟩,
   ⟨(some 46), none, .mov (.t 9)⟩,
   ⟨(some 47), none, .bin .eql (.t 45) (.t 46)⟩,
   ⟨(some 48), none, .mov (.t 47)⟩,
   ⟨(some 49), some (48, true), .mov (.t 6)⟩,
   ⟨(some 50), some (48, true), .bin .neq (.t 49) (.c (.i .i64 0))⟩,
   ⟨(some 51), some (48, true), .mov (.t 50)⟩,
   ⟨(some 52), some (51, false), .load (some 5) (.t 5)⟩,
   ⟨(some 53), some (51, false), .load (some 5) (.t 7)⟩,
   ⟨(some 54), some (51, false), .call (.c (.fn (.func F_terms_Compare) [] [])) [(.t 52), (.t 53)]⟩,
   ⟨(some 55), some (51, false), .bin .eql (.t 54) (.c (.i .i64 0))⟩,
   ⟨(some 56), some (48, true), .pick (.t 51) (.c (.b true)) (.t 55)⟩,
   ⟨(some 57), none, .pick (.t 48) (.t 56) (.c (.b false))⟩,
   ⟨(some 2), none, .asg (.t 57)⟩] none [2])
 .ret)))))))))⟩
def ir_law04_sane : AFun := ⟨0, [.tmp 0], true, false,
 (.seq (.region [⟨(some 0), none, .asg (.c (.b false))⟩] none [])
 (.seq (.region [⟨(some 7), none, .build [(.i .i64 0), (.s []), (.i .i64 0), (.i .i64 0), .ns] [(0, 1, (.c (.i .i64 1)))]⟩,
   ⟨(some 1), none, .lalloc [(.i .i64 0), (.s []), (.i .i64 0), (.i .i64 0), .ns]⟩,
   ⟨none, none, .store 5 (.t 1) (.t 7)⟩] none [1])
 (.seq (.region [⟨(some 8), none, .build [(.i .i64 0), (.s []), (.i .i64 0), (.i .i64 0), .ns] [(0, 1, (.c (.i .i64 4))), (1, 1, (.c (.s [98])))]⟩,
   ⟨(some 2), none, .lalloc [(.i .i64 0), (.s []), (.i .i64 0), (.i .i64 0), .ns]⟩,
   ⟨none, none, .store 5 (.t 2) (.t 8)⟩] none [1, 2])
 (.seq (.seq (.region [⟨(some 9), none, .call (.c (.fn (.func F_law04_named) [] [])) [(.c (.s [65]))]⟩,
   ⟨(some 10), none, .load (some 5) (.t 2)⟩,
   ⟨(some 11), none, .bsl false T_api_Concept_1 5 2 [(.i .i64 0), (.s []), (.i .i64 0), (.i .i64 0), .ns] [(0, (.t 9)), (1, (.t 10))]⟩,
   ⟨(some 12), none, .call (.c (.fn (.func F_law04_and) [] [])) [(.t 11)]⟩,
   ⟨(some 13), none, .call (.c (.fn (.func F_law04_some) [] [])) [(.c (.s [114])), (.t 12)]⟩,
   ⟨(some 14), none, .call (.c (.fn (.func F_law04_prints) [] [])) [(.t 13), (.c (.s [115, 111, 109, 101, 32, 114, 32, 40, 65, 32, 97, 110, 100, 32, 123, 98, 125, 41]))]⟩,
   ⟨(some 15), none, .un .not (.t 14)⟩,
   ⟨(some 16), none, .mov (.t 15)⟩,
   ⟨(some 17), some (16, false), .call (.c (.fn (.func F_law04_named) [] [])) [(.c (.s [65]))]⟩,
   ⟨(some 18), some (16, false), .call (.c (.fn (.func F_law04_named) [] [])) [(.c (.s [66]))]⟩,
   ⟨(some 19), some (16, false), .call (.c (.fn (.func F_law04_named) [] [])) [(.c (.s [67]))]⟩,
   ⟨(some 20), some (16, false), .bsl false T_api_Concept_1 5 2 [(.i .i64 0), (.s []), (.i .i64 0), (.i .i64 0), .ns] [(0, (.t 18)), (1, (.t 19))]⟩,
   ⟨(some 21), some (16, false), .call (.c (.fn (.func F_law04_and) [] [])) [(.t 20)]⟩,
   ⟨(some 22), some (16, false), .bsl false T_api_Concept_1 5 2 [(.i .i64 0), (.s []), (.i .i64 0), (.i .i64 0), .ns] [(0, (.t 17)), (1, (.t 21))]⟩,
   ⟨(some 23), some (16, false), .call (.c (.fn (.func F_law04_and) [] [])) [(.t 22)]⟩,
   ⟨(some 24), some (16, false), .call (.c (.fn (.func F_law04_prints) [] [])) [(.t 23), (.c (.s [65, 32, 97, 110, 100, 32, 40, 66, 32, 97, 110, 100, 32, 67, 41]))]⟩,
   ⟨(some 25), some (16, false), .un .not (.t 24)⟩,
   ⟨(some 26), none, .pick (.t 16) (.c (.b true)) (.t 25)⟩] (some ([0, 1, 2, 3, 4, 5, 6, 7, 8, 9, 10, 11, 12, 13, 14, 15, 16, 17], [])) [1, 26])
 (.cond (.t 26)
  (.seq (.region [⟨(some 0), none, .asg (.c (.b false))⟩] none [0])
  .ret)
  .skip))
 (.seq (.seq (.region [⟨(some 27), none, .load (some 5) (.t 1)⟩,
   ⟨(some 28), none, .call (.c (.fn (.func F_law04_some) [] [])) [(.c (.s [115])), (.t 27)]⟩,
   ⟨(some 29), none, .call (.c (.fn (.func F_law04_some) [] [])) [(.c (.s [114])), (.t 28)]⟩,
   ⟨(some 30), none, .call (.c (.fn (.func F_law04_prints) [] [])) [(.t 29), (.c (.s [115, 111, 109, 101, 32, 114, 32, 115, 111, 109, 101, 32, 115, 32, 101, 118, 101, 114, 121, 116, 104, 105, 110, 103]))]⟩,
   ⟨(some 31), none, .un .not (.t 30)⟩,
   ⟨(some 32), none, .mov (.t 31)⟩,
   ⟨(some 33), some (32, false), .build [(.i .i64 0), (.s []), (.i .i64 0), (.i .i64 0), .ns] [(0, 1, (.c (.i .i64 7))), (1, 1, (.c (.s [97, 103, 101]))), (2, 1, (.c (.i .i64 (-5))))]⟩,
   ⟨(some 34), some (32, false), .call (.c (.fn (.func F_law04_prints) [] [])) [(.t 33), (.c (.s [97, 103, 101, 32, 105, 110, 32, 45, 53, 32, 116, 111, 32, 48]))]⟩,
   ⟨(some 35), some (32, false), .un .not (.t 34)⟩,
   ⟨(some 36), none, .pick (.t 32) (.c (.b true)) (.t 35)⟩] none [36])
 (.cond (.t 36)
  (.seq (.region [⟨(some 0), none, .asg (.c (.b false))⟩] none [0])
  .ret)
  .skip))
 (.seq (.seq (.region [⟨(some 37), none, .build [(.i .i64 0), (.b false), (.i .i64 0), (.s []), (.i .i64 0), (.i .i64 0), .ns, (.i .i64 0), (.s []), (.i .i64 0), (.i .i64 0), .ns, .ns, (.s []), (.s []), (.s [])] [(0, 1, (.c (.i .i64 9))), (1, 1, (.c (.b true))), (13, 1, (.c (.s [114]))), (14, 1, (.c (.s [97]))), (15, 1, (.c (.s [98])))]⟩,
   ⟨(some 38), none, .call (.c (.fn (.func F_law04_states) [] [])) [(.t 37), (.c (.s [111, 112, 101, 110, 32, 108, 105, 110, 107, 32, 97, 32, 114, 32, 98]))]⟩,
   ⟨(some 39), none, .un .not (.t 38)⟩,
   ⟨(some 40), none, .mov (.t 39)⟩,
   ⟨(some 41), some (40, false), .bsl false T_string_0 1 1 [(.s [])] [(0, (.c (.s [114])))]⟩,
   ⟨(some 42), some (40, false), .build [(.i .i64 0), (.b false), (.i .i64 0), (.s []), (.i .i64 0), (.i .i64 0), .ns, (.i .i64 0), (.s []), (.i .i64 0), (.i .i64 0), .ns, .ns, (.s []), (.s []), (.s [])] [(0, 1, (.c (.i .i64 5))), (12, 1, (.t 41)), (13, 1, (.c (.s [115])))]⟩,
   ⟨(some 43), some (40, false), .call (.c (.fn (.func F_law04_states) [] [])) [(.t 42), (.c (.s [112, 114, 105, 118, 97, 116, 101, 32, 114, 111, 108, 101, 32, 114, 32, 115, 117, 98, 32, 115]))]⟩,
   ⟨(some 44), some (40, false), .un .not (.t 43)⟩,
   ⟨(some 45), none, .pick (.t 40) (.c (.b true)) (.t 44)⟩] none [45])
 (.cond (.t 45)
  (.seq (.region [⟨(some 0), none, .asg (.c (.b false))⟩] none [0])
  .ret)
  .skip))
 (.seq (.region [⟨(some 47), none, .call (.c (.fn (.func F_printer_Document) [] [])) [(.c .ns)]⟩,
   ⟨(some 46), none, .mov (.t 47)⟩,
   ⟨(some 48), none, .ext (.t 46) 0⟩,
   ⟨(some 49), none, .ext (.t 46) 1⟩,
   ⟨(some 3), none, .asg (.t 48)⟩,
   ⟨(some 4), none, .asg (.t 49)⟩] none [3, 4])
 (.seq (.region [⟨(some 51), none, .build [(.i .i64 0), (.b false), (.i .i64 0), (.s []), (.i .i64 0), (.i .i64 0), .ns, (.i .i64 0), (.s []), (.i .i64 0), (.i .i64 0), .ns, .ns, (.s []), (.s []), (.s [])] []⟩,
   ⟨(some 52), none, .call (.c (.fn (.func F_printer_Axiom) [] [])) [(.t 51)]⟩,
   ⟨(some 50), none, .mov (.t 52)⟩,
   ⟨(some 53), none, .ext (.t 50) 0⟩,
   ⟨(some 54), none, .ext (.t 50) 1⟩,
   ⟨(some 5), none, .asg (.t 53)⟩,
   ⟨(some 6), none, .asg (.t 54)⟩] none [3, 4, 6])
 (.seq (.region [⟨(some 55), none, .mov (.t 3)⟩,
   ⟨(some 56), none, .len 0 (.t 55)⟩,
   ⟨(some 57), none, .bin .eql (.t 56) (.c (.i .i64 0))⟩,
   ⟨(some 58), none, .mov (.t 57)⟩,
   ⟨(some 59), some (58, true), .mov (.t 4)⟩,
   ⟨(some 60), some (58, true), .bin .eql (.t 59) (.c (.i .i64 0))⟩,
   ⟨(some 61), none, .pick (.t 58) (.t 60) (.c (.b false))⟩,
   ⟨(some 62), none, .mov (.t 61)⟩,
   ⟨(some 63), some (62, true), .mov (.t 6)⟩,
   ⟨(some 64), some (62, true), .bin .eql (.t 63) (.c (.i .i64 22))⟩,
   ⟨(some 65), none, .pick (.t 62) (.t 64) (.c (.b false))⟩,
   ⟨(some 0), none, .asg (.t 65)⟩] none [0])
 .ret)))))))))⟩
def ir_law04_named : AFun := ⟨1, [.cell 2 (some 5)], true, false,
 (.seq (.region [⟨(some 2), none, .lalloc [(.i .i64 0), (.s []), (.i .i64 0), (.i .i64 0), .ns]⟩] none [0, 2])
 (.seq (.region [⟨(some 3), none, .mov (.t 0)⟩,
   ⟨(some 4), none, .build [(.i .i64 0), (.s []), (.i .i64 0), (.i .i64 0), .ns] [(0, 1, (.c (.i .i64 3))), (1, 1, (.t 3))]⟩,
   ⟨none, none, .store 5 (.t 2) (.t 4)⟩] none [2])
 .ret))⟩
def ir_law04_and : AFun := ⟨1, [.cell 2 (some 5)], true, false,
 (.seq (.region [⟨(some 2), none, .lalloc [(.i .i64 0), (.s []), (.i .i64 0), (.i .i64 0), .ns]⟩] none [0, 2])
 (.seq (.region [⟨(some 3), none, .mov (.t 0)⟩,
   ⟨(some 4), none, .build [(.i .i64 0), (.s []), (.i .i64 0), (.i .i64 0), .ns] [(0, 1, (.c (.i .i64 5))), (4, 1, (.t 3))]⟩,
   ⟨none, none, .store 5 (.t 2) (.t 4)⟩] none [2])
 .ret))⟩
def ir_law04_some : AFun := ⟨2, [.cell 4 (some 5)], true, false,
 (.seq (.region [⟨(some 3), none, .lbox (.t 1)⟩,
   ⟨(some 4), none, .lalloc [(.i .i64 0), (.s []), (.i .i64 0), (.i .i64 0), .ns]⟩] none [0, 3, 4])
 (.seq (.region [⟨(some 5), none, .mov (.t 0)⟩,
   ⟨(some 6), none, .load (some 5) (.t 3)⟩,
   ⟨(some 7), none, .bsl false T_api_Concept_1 5 1 [(.i .i64 0), (.s []), (.i .i64 0), (.i .i64 0), .ns] [(0, (.t 6))]⟩,
   ⟨(some 8), none, .build [(.i .i64 0), (.s []), (.i .i64 0), (.i .i64 0), .ns] [(0, 1, (.c (.i .i64 6))), (1, 1, (.t 5)), (4, 1, (.t 7))]⟩,
   ⟨none, none, .store 5 (.t 4) (.t 8)⟩] none [4])
 .ret))⟩
def ir_law04_prints : AFun := ⟨2, [.tmp 4], true, false,
 (.seq (.region [⟨(some 2), none, .lbox (.t 0)⟩,
   ⟨(some 4), none, .asg (.c (.b false))⟩] none [1, 2])
 (.seq (.region [⟨(some 8), none, .load (some 5) (.t 2)⟩,
   ⟨(some 9), none, .call (.c (.fn (.func F_printer_Concept) [] [])) [(.t 8)]⟩,
   ⟨(some 7), none, .mov (.t 9)⟩,
   ⟨(some 10), none, .ext (.t 7) 0⟩,
   ⟨(some 11), none, .ext (.t 7) 1⟩,
   ⟨(some 5), none, .asg (.t 10)⟩,
   ⟨(some 6), none, .asg (.t 11)⟩] none [1, 5, 6])
 (.seq (.region [⟨(some 12), none, .mov (.t 5)⟩,
   ⟨(some 13), none, .mov (.t 1)⟩,
   ⟨(some 14), none, .bin .eql (.t 12) (.t 13)⟩,
   ⟨(some 15), none, .mov (.t 14)⟩,
   ⟨(some 16), some (15, true), .mov (.t 6)⟩,
   ⟨(some 17), some (15, true), .bin .eql (.t 16) (.c (.i .i64 0))⟩,
   ⟨(some 18), none, .pick (.t 15) (.t 17) (.c (.b false))⟩,
   ⟨(some 4), none, .asg (.t 18)⟩] none [4])
 .ret)))⟩
def ir_printer_Concept : AFun := ⟨1, [.tmp 2, .tmp 3], true, false,
 (.seq (.region [⟨(some 1), none, .lbox (.t 0)⟩,
   ⟨(some 2), none, .asg (.c (.s []))⟩,
   ⟨(some 3), none, .asg (.c (.i .i64 0))⟩] none [1])
 (.seq (.seq (.region [⟨(some 5), none, .load (some 5) (.t 1)⟩,
   ⟨(some 6), none, .call (.c (.fn (.func F_terms_CheckConcept) [] [])) [(.t 5)]⟩,
   ⟨(some 4), none, .asg (.t 6)⟩] none [1, 4])
 (.seq (.region [⟨(some 7), none, .mov (.t 4)⟩,
   ⟨(some 8), none, .bin .neq (.t 7) (.c (.i .i64 0))⟩] none [1, 4, 8])
 (.cond (.t 8)
  (.seq (.region [⟨(some 9), none, .mov (.t 4)⟩,
    ⟨(some 2), none, .asg (.c (.s []))⟩,
    ⟨(some 3), none, .asg (.t 9)⟩] none [2, 3])
  .ret)
  .skip)))
 (.seq (.region [⟨(some 10), none, .call (.c (.fn (.func F_printer_newPrinter) [] [])) []⟩,
   ⟨(some 11), none, .load (some 5) (.t 1)⟩,
   ⟨(some 12), none, .call (.c (.fn (.func F_printer_printer_text) [] [])) [(.t 10), (.t 11)]⟩,
   ⟨(some 2), none, .asg (.t 12)⟩,
   ⟨(some 3), none, .asg (.c (.i .i64 0))⟩] (some ([0, 1, 2, 3, 4], [])) [2, 3])
 .ret)))⟩
def ir_terms_CheckConcept_R0 : ACode :=
 (.block 1
  (.seq (.region [⟨(some 12), none, .load (some 5) (.t 4)⟩,
    ⟨(some 13), none, .call (.c (.fn (.func F_terms_checkFields) [] [])) [(.t 12)]⟩,
    ⟨(some 5), none, .asg (.t 13)⟩] none [2, 5])
  (.seq (.region [⟨(some 14), none, .mov (.t 5)⟩,
    ⟨(some 15), none, .bin .neq (.t 14) (.c (.i .i64 0))⟩] none [2, 5, 15])
  (.cond (.t 15)
   (.seq (.region [⟨(some 16), none, .mov (.t 5)⟩,
     ⟨none, none, .store 1 (.t 2) (.t 16)⟩] none [])
   .ret)
   .skip))))
def ir_terms_CheckConcept_A0 : ACode :=
 (.region [⟨(some 4), none, .halloc [(.i .i64 0), (.s []), (.i .i64 0), (.i .i64 0), .ns]⟩,
   ⟨none, none, .store 5 (.t 4) (.t 11)⟩] none [2, 4])
def ir_terms_CheckConcept : AFun := ⟨1, [.cell 2 none], true, false,
 (.seq (.region [⟨(some 1), none, .lbox (.t 0)⟩,
   ⟨(some 2), none, .halloc [(.i .i64 0)]⟩] none [1, 2])
 (.seq (.region [⟨(some 3), none, .halloc [(.i .i64 0)]⟩,
   ⟨none, none, .store 1 (.t 3) (.c (.i .i64 0))⟩] none [1, 2, 3])
 (.seq (.seq (.region [⟨(some 6), none, .load (some 5) (.t 1)⟩,
   ⟨(some 7), none, .call (.c (.fn (.func F_terms_fits) [] [])) [(.t 6), (.c (.i .i64 0)), (.t 3)]⟩,
   ⟨(some 8), none, .un .not (.t 7)⟩] none [1, 2, 8])
 (.cond (.t 8)
  (.seq (.region [⟨none, none, .store 1 (.t 2) (.c (.i .i64 21))⟩] none [2])
  .ret)
  .skip))
 (.seq (.seq (.region [⟨(some 9), none, .load (some 5) (.t 1)⟩,
   ⟨(some 10), none, .call (.c (.fn (.func F_terms_walk) [] [])) [(.t 9)]⟩] none [2, 10])
 (.block 0
  (.range (.t 10) [11] ir_terms_CheckConcept_A0 ir_terms_CheckConcept_R0)))
 (.seq (.region [⟨none, none, .store 1 (.t 2) (.c (.i .i64 0))⟩] none [2])
 .ret)))))⟩
def ir_terms_fits_L0 : ACode :=
 (.seq (.region [⟨(some 26), none, .bin .lss (.t 25) (.t 24)⟩] none [1, 2, 23, 24, 25, 26])
 (.seq (.cond (.t 26)
  .skip
  (.exit 0))
 (.seq (.block 1
  (.seq (.region [⟨(some 27), none, .idx 5 (.t 23) (.t 25)⟩,
    ⟨(some 28), none, .load (some 5) (.t 27)⟩,
    ⟨(some 8), none, .lalloc [(.i .i64 0), (.s []), (.i .i64 0), (.i .i64 0), .ns]⟩,
    ⟨none, none, .store 5 (.t 8) (.t 28)⟩] none [1, 2, 8, 23, 24, 25])
  (.seq (.region [⟨(some 29), none, .load (some 5) (.t 8)⟩,
    ⟨(some 30), none, .mov (.t 1)⟩,
    ⟨(some 31), none, .bin .add (.t 30) (.c (.i .i64 1))⟩,
    ⟨(some 32), none, .mov (.t 2)⟩,
    ⟨(some 33), none, .call (.c (.fn (.func F_terms_fits) [] [])) [(.t 29), (.t 31), (.t 32)]⟩,
    ⟨(some 34), none, .un .not (.t 33)⟩] none [1, 2, 23, 24, 25, 34])
  (.cond (.t 34)
   (.seq (.region [⟨(some 6), none, .asg (.c (.b false))⟩] none [6])
   .ret)
   .skip))))
 (.region [⟨(some 35), none, .bin .add (.t 25) (.c (.i .i64 1))⟩,
   ⟨(some 25), none, .mov (.t 35)⟩] none [1, 2, 23, 24, 25]))))
def ir_terms_fits : AFun := ⟨3, [.tmp 6], false, false,
 (.seq (.region [⟨(some 3), none, .lbox (.t 0)⟩,
   ⟨(some 6), none, .asg (.c (.b false))⟩] none [1, 2, 3])
 (.seq (.region [⟨(some 9), none, .mov (.t 2)⟩,
   ⟨(some 10), none, .nilchk (.t 9)⟩,
   ⟨(some 11), none, .load none (.t 10)⟩,
   ⟨(some 12), none, .bin .add (.t 11) (.c (.i .i64 1))⟩,
   ⟨(some 13), none, .nilchk (.t 9)⟩,
   ⟨none, none, .store 1 (.t 13) (.t 12)⟩] none [1, 2, 3])
 (.seq (.seq (.region [⟨(some 14), none, .mov (.t 1)⟩,
   ⟨(some 15), none, .bin .gtr (.t 14) (.c (.i .i64 8))⟩,
   ⟨(some 16), none, .mov (.t 15)⟩,
   ⟨(some 17), some (16, false), .mov (.t 2)⟩,
   ⟨(some 18), some (16, false), .nilchk (.t 17)⟩,
   ⟨(some 19), some (16, false), .load none (.t 18)⟩,
   ⟨(some 20), some (16, false), .bin .gtr (.t 19) (.c (.i .i64 64))⟩,
   ⟨(some 21), none, .pick (.t 16) (.c (.b true)) (.t 20)⟩] none [1, 2, 3, 21])
 (.cond (.t 21)
  (.seq (.region [⟨(some 6), none, .asg (.c (.b false))⟩] none [6])
  .ret)
  .skip))
 (.seq (.seq (.region [⟨(some 22), none, .fld 4 (.t 3)⟩,
   ⟨(some 23), none, .load none (.t 22)⟩,
   ⟨(some 24), none, .len 0 (.t 23)⟩,
   ⟨(some 25), none, .mov (.c (.i .i64 0))⟩] none [1, 2, 23, 24, 25])
 (.block 0
  (.loop [1, 2, 23, 24, 25] ir_terms_fits_L0)))
 (.seq (.region [⟨(some 6), none, .asg (.c (.b true))⟩] none [6])
 .ret)))))⟩
def ir_terms_walk : AFun := ⟨1, [.tmp 2], true, false,
 (.seq (.region [⟨(some 1), none, .hbox (.t 0)⟩,
   ⟨(some 2), none, .asg (.c .nf)⟩] none [1])
 (.seq (.region [⟨(some 3), none, .mkfn (.func F_terms_walk_1) [] [(.t 1)]⟩,
   ⟨(some 2), none, .asg (.t 3)⟩] none [2])
 .ret))⟩
def ir_terms_walk_1 : AFun := ⟨2, [], false, false,
 (.region [⟨(some 3), none, .load (some 5) (.t 1)⟩,
   ⟨(some 4), none, .mov (.t 0)⟩,
   ⟨(some 5), none, .call (.c (.fn (.func F_terms_visit) [] [])) [(.t 3), (.t 4)]⟩] none [])⟩
def ir_terms_visit_L0 : ACode :=
 (.seq (.region [⟨(some 15), none, .bin .lss (.t 14) (.t 13)⟩] none [1, 12, 13, 14, 15])
 (.seq (.cond (.t 15)
  .skip
  (.exit 0))
 (.seq (.block 1
  (.seq (.region [⟨(some 16), none, .idx 5 (.t 12) (.t 14)⟩,
    ⟨(some 17), none, .load (some 5) (.t 16)⟩,
    ⟨(some 6), none, .lalloc [(.i .i64 0), (.s []), (.i .i64 0), (.i .i64 0), .ns]⟩,
    ⟨none, none, .store 5 (.t 6) (.t 17)⟩] none [1, 6, 12, 13, 14])
  (.seq (.region [⟨(some 18), none, .load (some 5) (.t 6)⟩,
    ⟨(some 19), none, .mov (.t 1)⟩,
    ⟨(some 20), none, .call (.c (.fn (.func F_terms_visit) [] [])) [(.t 18), (.t 19)]⟩,
    ⟨(some 21), none, .un .not (.t 20)⟩] none [1, 12, 13, 14, 21])
  (.cond (.t 21)
   (.seq (.region [⟨(some 4), none, .asg (.c (.b false))⟩] none [4])
   .ret)
   .skip))))
 (.region [⟨(some 22), none, .bin .add (.t 14) (.c (.i .i64 1))⟩,
   ⟨(some 14), none, .mov (.t 22)⟩] none [1, 12, 13, 14]))))
def ir_terms_visit : AFun := ⟨2, [.tmp 4], false, false,
 (.seq (.region [⟨(some 2), none, .lbox (.t 0)⟩,
   ⟨(some 4), none, .asg (.c (.b false))⟩] none [1, 2])
 (.seq (.seq (.region [⟨(some 7), none, .mov (.t 1)⟩,
   ⟨(some 8), none, .load (some 5) (.t 2)⟩,
   ⟨(some 9), none, .call (.t 7) [(.t 8)]⟩,
   ⟨(some 10), none, .un .not (.t 9)⟩] none [1, 2, 10])
 (.cond (.t 10)
  (.seq (.region [⟨(some 4), none, .asg (.c (.b false))⟩] none [4])
  .ret)
  .skip))
 (.seq (.seq (.region [⟨(some 11), none, .fld 4 (.t 2)⟩,
   ⟨(some 12), none, .load none (.t 11)⟩,
   ⟨(some 13), none, .len 0 (.t 12)⟩,
   ⟨(some 14), none, .mov (.c (.i .i64 0))⟩] none [1, 12, 13, 14])
 (.block 0
  (.loop [1, 12, 13, 14] ir_terms_visit_L0)))
 (.seq (.region [⟨(some 4), none, .asg (.c (.b true))⟩] none [4])
 .ret))))⟩
def ir_terms_checkFields : AFun := ⟨1, [.tmp 2], true, false,
 (.seq (.region [⟨(some 1), none, .lbox (.t 0)⟩,
   ⟨(some 2), none, .asg (.c (.i .i64 0))⟩] none [1])
 (.seq (.seq (.region [⟨(some 4), none, .fld 0 (.t 1)⟩,
   ⟨(some 5), none, .load none (.t 4)⟩,
   ⟨(some 6), none, .bin .lss (.t 5) (.c (.i .i64 1))⟩,
   ⟨(some 7), none, .mov (.t 6)⟩,
   ⟨(some 8), some (7, false), .fld 0 (.t 1)⟩,
   ⟨(some 9), some (7, false), .load none (.t 8)⟩,
   ⟨(some 10), some (7, false), .bin .gtr (.t 9) (.c (.i .i64 7))⟩,
   ⟨(some 11), none, .pick (.t 7) (.c (.b true)) (.t 10)⟩] none [1, 11])
 (.cond (.t 11)
  (.seq (.region [⟨(some 2), none, .asg (.c (.i .i64 21))⟩] none [2])
  .ret)
  .skip))
 (.seq (.region [⟨(some 12), none, .fld 0 (.t 1)⟩,
   ⟨(some 13), none, .load none (.t 12)⟩,
   ⟨(some 14), none, .idxa 8 4 (.g G_terms_needs) (.t 13)⟩,
   ⟨(some 15), none, .load (some 4) (.t 14)⟩,
   ⟨(some 3), none, .lalloc [(.i .i64 0), (.i .i64 0), (.i .i64 0), (.b false)]⟩,
   ⟨none, none, .store 4 (.t 3) (.t 15)⟩] none [1, 3])
 (.seq (.seq (.region [⟨(some 16), none, .fld 4 (.t 1)⟩,
   ⟨(some 17), none, .load none (.t 16)⟩,
   ⟨(some 18), none, .len 0 (.t 17)⟩,
   ⟨(some 19), none, .fld 1 (.t 3)⟩,
   ⟨(some 20), none, .load none (.t 19)⟩,
   ⟨(some 21), none, .bin .lss (.t 18) (.t 20)⟩,
   ⟨(some 22), none, .mov (.t 21)⟩,
   ⟨(some 23), some (22, false), .fld 4 (.t 1)⟩,
   ⟨(some 24), some (22, false), .load none (.t 23)⟩,
   ⟨(some 25), some (22, false), .len 0 (.t 24)⟩,
   ⟨(some 26), some (22, false), .fld 2 (.t 3)⟩,
   ⟨(some 27), some (22, false), .load none (.t 26)⟩,
   ⟨(some 28), some (22, false), .bin .gtr (.t 25) (.t 27)⟩,
   ⟨(some 29), none, .pick (.t 22) (.c (.b true)) (.t 28)⟩,
   ⟨(some 30), none, .mov (.t 29)⟩,
   ⟨(some 31), some (30, false), .fld 0 (.t 3)⟩,
   ⟨(some 32), some (30, false), .load none (.t 31)⟩,
   ⟨(some 33), some (30, false), .bin .eql (.t 32) (.c (.i .i64 0))⟩,
   ⟨(some 34), some (30, false), .mov (.t 33)⟩,
   ⟨(some 35), some (34, true), .fld 1 (.t 1)⟩,
   ⟨(some 36), some (34, true), .load none (.t 35)⟩,
   ⟨(some 37), some (34, true), .bin .neq (.t 36) (.c (.s []))⟩,
   ⟨(some 38), some (30, false), .pick (.t 34) (.t 37) (.c (.b false))⟩,
   ⟨(some 39), none, .pick (.t 30) (.c (.b true)) (.t 38)⟩] none [1, 3, 39])
 (.cond (.t 39)
  (.seq (.region [⟨(some 2), none, .asg (.c (.i .i64 21))⟩] none [2])
  .ret)
  .skip))
 (.seq (.seq (.region [⟨(some 40), none, .fld 3 (.t 3)⟩,
   ⟨(some 41), none, .load none (.t 40)⟩] none [1, 3, 41])
 (.cond (.t 41)
  (.seq (.region [⟨(some 42), none, .fld 2 (.t 1)⟩,
    ⟨(some 43), none, .load none (.t 42)⟩,
    ⟨(some 44), none, .bin .lss (.t 43) (.c (.i .i64 (-1099511627776)))⟩,
    ⟨(some 45), none, .mov (.t 44)⟩,
    ⟨(some 46), some (45, false), .fld 2 (.t 1)⟩,
    ⟨(some 47), some (45, false), .load none (.t 46)⟩,
    ⟨(some 48), some (45, false), .fld 3 (.t 1)⟩,
    ⟨(some 49), some (45, false), .load none (.t 48)⟩,
    ⟨(some 50), some (45, false), .bin .gtr (.t 47) (.t 49)⟩,
    ⟨(some 51), none, .pick (.t 45) (.c (.b true)) (.t 50)⟩,
    ⟨(some 52), none, .mov (.t 51)⟩,
    ⟨(some 53), some (52, false), .fld 3 (.t 1)⟩,
    ⟨(some 54), some (52, false), .load none (.t 53)⟩,
    ⟨(some 55), some (52, false), .bin .gtr (.t 54) (.c (.i .i64 1099511627776))⟩,
    ⟨(some 56), none, .pick (.t 52) (.c (.b true)) (.t 55)⟩] none [1, 3, 56])
  (.cond (.t 56)
   (.seq (.region [⟨(some 2), none, .asg (.c (.i .i64 21))⟩] none [2])
   .ret)
   .skip))
  (.seq (.region [⟨(some 57), none, .fld 2 (.t 1)⟩,
    ⟨(some 58), none, .load none (.t 57)⟩,
    ⟨(some 59), none, .bin .neq (.t 58) (.c (.i .i64 0))⟩,
    ⟨(some 60), none, .mov (.t 59)⟩,
    ⟨(some 61), some (60, false), .fld 3 (.t 1)⟩,
    ⟨(some 62), some (60, false), .load none (.t 61)⟩,
    ⟨(some 63), some (60, false), .bin .neq (.t 62) (.c (.i .i64 0))⟩,
    ⟨(some 64), none, .pick (.t 60) (.c (.b true)) (.t 63)⟩] none [1, 3, 64])
  (.cond (.t 64)
   (.seq (.region [⟨(some 2), none, .asg (.c (.i .i64 21))⟩] none [2])
   .ret)
   .skip))))
 (.seq (.seq (.region [⟨(some 65), none, .fld 0 (.t 3)⟩,
   ⟨(some 66), none, .load none (.t 65)⟩,
   ⟨(some 67), none, .bin .eql (.t 66) (.c (.i .i64 0))⟩,
   ⟨(some 68), none, .mov (.t 67)⟩,
   ⟨(some 69), some (68, false), .fld 1 (.t 1)⟩,
   ⟨(some 70), some (68, false), .load none (.t 69)⟩,
   ⟨(some 71), some (68, false), .call (.c (.fn (.func F_terms_isPlain) [] [])) [(.t 70)]⟩,
   ⟨(some 72), none, .pick (.t 68) (.c (.b true)) (.t 71)⟩,
   ⟨(some 73), none, .mov (.t 72)⟩,
   ⟨(some 74), some (73, false), .fld 0 (.t 3)⟩,
   ⟨(some 75), some (73, false), .load none (.t 74)⟩,
   ⟨(some 76), some (73, false), .bin .eql (.t 75) (.c (.i .i64 2))⟩,
   ⟨(some 77), some (73, false), .mov (.t 76)⟩,
   ⟨(some 78), some (77, true), .fld 1 (.t 1)⟩,
   ⟨(some 79), some (77, true), .load none (.t 78)⟩,
   ⟨(some 80), some (77, true), .call (.c (.fn (.func F_terms_isReserved) [] [])) [(.t 79)]⟩,
   ⟨(some 81), some (73, false), .pick (.t 77) (.t 80) (.c (.b false))⟩,
   ⟨(some 82), none, .pick (.t 73) (.c (.b true)) (.t 81)⟩] none [82])
 (.cond (.t 82)
  (.seq (.region [⟨(some 2), none, .asg (.c (.i .i64 0))⟩] none [2])
  .ret)
  .skip))
 (.seq (.region [⟨(some 2), none, .asg (.c (.i .i64 20))⟩] none [2])
 .ret)))))))⟩
def ir_terms_isPlain : AFun := ⟨1, [.tmp 2], true, false,
 (.seq (.region [⟨(some 2), none, .asg (.c (.b false))⟩] none [0])
 (.seq (.seq (.region [⟨(some 6), none, .mov (.t 0)⟩,
   ⟨(some 7), none, .len 1 (.t 6)⟩,
   ⟨(some 8), none, .bin .gtr (.t 7) (.c (.i .i64 24))⟩] none [0, 8])
 (.cond (.t 8)
  (.seq (.region [⟨(some 2), none, .asg (.c (.b false))⟩] none [2])
  .ret)
  .skip))
 (.seq (.region [⟨(some 10), none, .mov (.t 0)⟩,
   ⟨(some 11), none, .call (.c (.fn (.func F_strings_Cut) [] [])) [(.t 10), (.c (.s [58]))]⟩,
   ⟨(some 9), none, .mov (.t 11)⟩,
   ⟨(some 12), none, .ext (.t 9) 0⟩,
   ⟨(some 13), none, .ext (.t 9) 1⟩,
   ⟨(some 14), none, .ext (.t 9) 2⟩,
   ⟨(some 3), none, .asg (.t 12)⟩,
   ⟨(some 4), none, .asg (.t 13)⟩,
   ⟨(some 5), none, .asg (.t 14)⟩] none [3, 4, 5])
 (.seq (.region [⟨(some 15), none, .mov (.t 3)⟩,
   ⟨(some 16), none, .call (.c (.fn (.func F_terms_isWord) [] [])) [(.t 15)]⟩,
   ⟨(some 17), none, .mov (.t 16)⟩,
   ⟨(some 18), some (17, true), .mov (.t 5)⟩,
   ⟨(some 19), some (17, true), .un .not (.t 18)⟩,
   ⟨(some 20), some (17, true), .mov (.t 19)⟩,
   ⟨(some 21), some (20, false), .mov (.t 4)⟩,
   ⟨(some 22), some (20, false), .call (.c (.fn (.func F_terms_isWord) [] [])) [(.t 21)]⟩,
   ⟨(some 23), some (17, true), .pick (.t 20) (.c (.b true)) (.t 22)⟩,
   ⟨(some 24), none, .pick (.t 17) (.t 23) (.c (.b false))⟩,
   ⟨(some 2), none, .asg (.t 24)⟩] none [2])
 .ret))))⟩
def ir_strings_Cut : AFun := ⟨2, [.tmp 4, .tmp 5, .tmp 6], true, false,
 (.seq (.region [⟨(some 4), none, .asg (.c (.s []))⟩,
   ⟨(some 5), none, .asg (.c (.s []))⟩,
   ⟨(some 6), none, .asg (.c (.b false))⟩] none [0, 1])
 (.seq (.region [⟨(some 7), none, .mov (.t 0)⟩,
   ⟨(some 8), none, .mov (.t 1)⟩,
   ⟨(some 9), none, .call (.c (.fn (.func F_internal_stringslite_Cut) [] [])) [(.t 7), (.t 8)]⟩,
   ⟨(some 10), none, .ext (.t 9) 0⟩,
   ⟨(some 11), none, .ext (.t 9) 1⟩,
   ⟨(some 12), none, .ext (.t 9) 2⟩,
   ⟨(some 4), none, .asg (.t 10)⟩,
   ⟨(some 5), none, .asg (.t 11)⟩,
   ⟨(some 6), none, .asg (.t 12)⟩] none [4, 5, 6])
 .ret))⟩
def ir_internal_stringslite_Cut : AFun := ⟨2, [.tmp 4, .tmp 5, .tmp 6], true, false,
 (.seq (.region [⟨(some 4), none, .asg (.c (.s []))⟩,
   ⟨(some 5), none, .asg (.c (.s []))⟩,
   ⟨(some 6), none, .asg (.c (.b false))⟩] none [0, 1])
 (.seq (.seq (.region [⟨(some 8), none, .mov (.t 0)⟩,
   ⟨(some 9), none, .mov (.t 1)⟩,
   ⟨(some 10), none, .call (.c (.fn (.func F_internal_stringslite_Index) [] [])) [(.t 8), (.t 9)]⟩,
   ⟨(some 7), none, .asg (.t 10)⟩] none [0, 1, 7])
 (.seq (.region [⟨(some 11), none, .mov (.t 7)⟩,
   ⟨(some 12), none, .bin .geq (.t 11) (.c (.i .i64 0))⟩] none [0, 1, 7, 12])
 (.cond (.t 12)
  (.seq (.region [⟨(some 13), none, .mov (.t 0)⟩,
    ⟨(some 14), none, .mov (.t 7)⟩,
    ⟨(some 15), none, .slcs (.t 13) none (some (.t 14))⟩,
    ⟨(some 16), none, .mov (.t 0)⟩,
    ⟨(some 17), none, .mov (.t 7)⟩,
    ⟨(some 18), none, .mov (.t 1)⟩,
    ⟨(some 19), none, .len 1 (.t 18)⟩,
    ⟨(some 20), none, .bin .add (.t 17) (.t 19)⟩,
    ⟨(some 21), none, .slcs (.t 16) (some (.t 20)) none⟩,
    ⟨(some 4), none, .cpy (.t 15)⟩,
    ⟨(some 5), none, .cpy (.t 21)⟩,
    ⟨(some 6), none, .cpy (.c (.b true))⟩] (some ([0, 1, 2, 3, 4, 5, 6, 7, 8, 9, 10, 11], [])) [4, 5, 6])
  .ret)
  .skip)))
 (.seq (.region [⟨(some 22), none, .mov (.t 0)⟩,
   ⟨(some 4), none, .asg (.t 22)⟩,
   ⟨(some 5), none, .asg (.c (.s []))⟩,
   ⟨(some 6), none, .asg (.c (.b false))⟩] none [4, 5, 6])
 .ret)))⟩
def ir_terms_isWord : AFun := ⟨1, [.tmp 2], true, false,
 (.seq (.region [⟨(some 2), none, .asg (.c (.b false))⟩] none [0])
 (.seq (.region [⟨(some 3), none, .mov (.t 0)⟩,
   ⟨(some 4), none, .bin .neq (.t 3) (.c (.s []))⟩,
   ⟨(some 5), none, .mov (.t 4)⟩,
   ⟨(some 6), some (5, true), .mov (.t 0)⟩,
   ⟨(some 7), some (5, true), .idxs (.t 6) (.c (.i .i64 0))⟩,
   ⟨(some 8), some (5, true), .call (.c (.fn (.func F_terms_isLetter) [] [])) [(.t 7)]⟩,
   ⟨(some 9), none, .pick (.t 5) (.t 8) (.c (.b false))⟩,
   ⟨(some 10), none, .mov (.t 9)⟩,
   ⟨(some 11), some (10, true), .mov (.t 0)⟩,
   ⟨(some 12), some (10, true), .call (.c (.fn (.func F_terms_isTail) [] [])) [(.t 11)]⟩,
   ⟨(some 13), none, .pick (.t 10) (.t 12) (.c (.b false))⟩,
   ⟨(some 14), none, .mov (.t 13)⟩,
   ⟨(some 15), some (14, true), .mov (.t 0)⟩,
   ⟨(some 16), some (14, true), .call (.c (.fn (.func F_lexis_Keyword) [] [])) [(.t 15)]⟩,
   ⟨(some 17), some (14, true), .un .not (.t 16)⟩,
   ⟨(some 18), none, .pick (.t 14) (.t 17) (.c (.b false))⟩,
   ⟨(some 2), none, .asg (.t 18)⟩] none [2])
 .ret))⟩
def ir_terms_isLetter : AFun := ⟨1, [.tmp 2], true, false,
 (.seq (.region [⟨(some 2), none, .asg (.c (.b false))⟩] none [0])
 (.seq (.region [⟨(some 3), none, .mov (.t 0)⟩,
   ⟨(some 4), none, .bin .leq (.c (.i .u8 97)) (.t 3)⟩,
   ⟨(some 5), none, .mov (.t 4)⟩,
   ⟨(some 6), some (5, true), .mov (.t 0)⟩,
   ⟨(some 7), some (5, true), .bin .leq (.t 6) (.c (.i .u8 122))⟩,
   ⟨(some 8), none, .pick (.t 5) (.t 7) (.c (.b false))⟩,
   ⟨(some 9), none, .mov (.t 8)⟩,
   ⟨(some 10), some (9, false), .mov (.t 0)⟩,
   ⟨(some 11), some (9, false), .bin .leq (.c (.i .u8 65)) (.t 10)⟩,
   ⟨(some 12), some (9, false), .mov (.t 11)⟩,
   ⟨(some 13), some (12, true), .mov (.t 0)⟩,
   ⟨(some 14), some (12, true), .bin .leq (.t 13) (.c (.i .u8 90))⟩,
   ⟨(some 15), some (9, false), .pick (.t 12) (.t 14) (.c (.b false))⟩,
   ⟨(some 16), none, .pick (.t 9) (.c (.b true)) (.t 15)⟩,
   ⟨(some 2), none, .asg (.t 16)⟩] none [2])
 .ret))⟩
def ir_terms_isTail_L0 : ACode :=
 (.seq (.region [⟨(some 9), none, .bin .lss (.t 8) (.t 7)⟩] none [6, 7, 8, 9])
 (.seq (.cond (.t 9)
  .skip
  (.exit 0))
 (.seq (.block 1
  (.seq (.region [⟨(some 10), none, .idx 1 (.t 6) (.t 8)⟩,
    ⟨(some 11), none, .load none (.t 10)⟩,
    ⟨(some 4), none, .asg (.t 11)⟩] none [4, 6, 7, 8])
  (.seq (.region [⟨(some 12), none, .mov (.t 4)⟩,
    ⟨(some 13), none, .call (.c (.fn (.func F_terms_isLetter) [] [])) [(.t 12)]⟩,
    ⟨(some 14), none, .un .not (.t 13)⟩,
    ⟨(some 15), none, .mov (.t 14)⟩,
    ⟨(some 16), some (15, true), .mov (.t 4)⟩,
    ⟨(some 17), some (15, true), .bin .neq (.t 16) (.c (.i .u8 95))⟩,
    ⟨(some 18), none, .pick (.t 15) (.t 17) (.c (.b false))⟩,
    ⟨(some 19), none, .mov (.t 18)⟩,
    ⟨(some 20), some (19, true), .mov (.t 4)⟩,
    ⟨(some 21), some (19, true), .bin .lss (.t 20) (.c (.i .u8 48))⟩,
    ⟨(some 22), some (19, true), .mov (.t 21)⟩,
    ⟨(some 23), some (22, false), .mov (.t 4)⟩,
    ⟨(some 24), some (22, false), .bin .gtr (.t 23) (.c (.i .u8 57))⟩,
    ⟨(some 25), some (19, true), .pick (.t 22) (.c (.b true)) (.t 24)⟩,
    ⟨(some 26), none, .pick (.t 19) (.t 25) (.c (.b false))⟩] none [6, 7, 8, 26])
  (.cond (.t 26)
   (.seq (.region [⟨(some 2), none, .asg (.c (.b false))⟩] none [2])
   .ret)
   .skip))))
 (.region [⟨(some 27), none, .bin .add (.t 8) (.c (.i .i64 1))⟩,
   ⟨(some 8), none, .mov (.t 27)⟩] none [6, 7, 8]))))
def ir_terms_isTail : AFun := ⟨1, [.tmp 2], true, false,
 (.seq (.region [⟨(some 2), none, .asg (.c (.b false))⟩] none [0])
 (.seq (.seq (.region [⟨(some 5), none, .mov (.t 0)⟩,
   ⟨(some 6), none, .s2b (.t 5)⟩,
   ⟨(some 7), none, .len 0 (.t 6)⟩,
   ⟨(some 8), none, .mov (.c (.i .i64 0))⟩] none [6, 7, 8])
 (.block 0
  (.loop [6, 7, 8] ir_terms_isTail_L0)))
 (.seq (.region [⟨(some 2), none, .asg (.c (.b true))⟩] none [2])
 .ret)))⟩
def ir_lexis_Keyword : AFun := ⟨1, [.tmp 2], true, false,
 (.seq (.region [⟨(some 2), none, .asg (.c (.b false))⟩] none [0])
 (.seq (.seq (.region [⟨(some 3), none, .mov (.t 0)⟩] none [3])
 (.block 0
  (.seq (.seq (.region [⟨(some 5), none, .bin .eql (.t 3) (.c (.s [97, 110, 100]))⟩,
    ⟨(some 4), none, .asg (.t 5)⟩] none [3, 4])
  (.cond (.t 4)
   .skip
   (.seq (.region [⟨(some 6), none, .bin .eql (.t 3) (.c (.s [115, 111, 109, 101]))⟩,
     ⟨(some 4), none, .asg (.t 6)⟩] none [3, 4])
   (.cond (.t 4)
    .skip
    (.seq (.region [⟨(some 7), none, .bin .eql (.t 3) (.c (.s [105, 110]))⟩,
      ⟨(some 4), none, .asg (.t 7)⟩] none [3, 4])
    (.cond (.t 4)
     .skip
     (.seq (.region [⟨(some 8), none, .bin .eql (.t 3) (.c (.s [116, 111]))⟩,
       ⟨(some 4), none, .asg (.t 8)⟩] none [3, 4])
     (.cond (.t 4)
      .skip
      (.seq (.region [⟨(some 9), none, .bin .eql (.t 3) (.c (.s [110, 111, 116, 104, 105, 110, 103]))⟩,
        ⟨(some 4), none, .asg (.t 9)⟩] none [3, 4])
      (.cond (.t 4)
       .skip
       (.seq (.region [⟨(some 10), none, .bin .eql (.t 3) (.c (.s [101, 118, 101, 114, 121, 116, 104, 105, 110, 103]))⟩,
         ⟨(some 4), none, .asg (.t 10)⟩] none [3, 4])
       (.cond (.t 4)
        .skip
        (.seq (.region [⟨(some 11), none, .bin .eql (.t 3) (.c (.s [111, 110, 101]))⟩,
          ⟨(some 4), none, .asg (.t 11)⟩] none [3, 4])
        (.cond (.t 4)
         .skip
         (.seq (.region [⟨(some 12), none, .bin .eql (.t 3) (.c (.s [111, 102]))⟩,
           ⟨(some 4), none, .asg (.t 12)⟩] none [3, 4])
         (.cond (.t 4)
          .skip
          (.seq (.region [⟨(some 13), none, .bin .eql (.t 3) (.c (.s [111, 112, 101, 110]))⟩,
            ⟨(some 4), none, .asg (.t 13)⟩] none [3, 4])
          (.cond (.t 4)
           .skip
           (.seq (.region [⟨(some 14), none, .bin .eql (.t 3) (.c (.s [112, 114, 105, 118, 97, 116, 101]))⟩,
             ⟨(some 4), none, .asg (.t 14)⟩] none [3, 4])
           (.cond (.t 4)
            .skip
            (.seq (.region [⟨(some 15), none, .bin .eql (.t 3) (.c (.s [115, 117, 98]))⟩,
              ⟨(some 4), none, .asg (.t 15)⟩] none [3, 4])
            (.cond (.t 4)
             .skip
             (.seq (.region [⟨(some 16), none, .bin .eql (.t 3) (.c (.s [115, 97, 109, 101]))⟩,
               ⟨(some 4), none, .asg (.t 16)⟩] none [3, 4])
             (.cond (.t 4)
              .skip
              (.seq (.region [⟨(some 17), none, .bin .eql (.t 3) (.c (.s [100, 105, 115, 106, 111, 105, 110, 116]))⟩,
                ⟨(some 4), none, .asg (.t 17)⟩] none [3, 4])
              (.cond (.t 4)
               .skip
               (.seq (.region [⟨(some 18), none, .bin .eql (.t 3) (.c (.s [100, 111, 109, 97, 105, 110]))⟩,
                 ⟨(some 4), none, .asg (.t 18)⟩] none [3, 4])
               (.cond (.t 4)
                .skip
                (.seq (.region [⟨(some 19), none, .bin .eql (.t 3) (.c (.s [114, 111, 108, 101]))⟩,
                  ⟨(some 4), none, .asg (.t 19)⟩] none [3, 4])
                (.cond (.t 4)
                 .skip
                 (.seq (.region [⟨(some 20), none, .bin .eql (.t 3) (.c (.s [99, 104, 97, 105, 110]))⟩,
                   ⟨(some 4), none, .asg (.t 20)⟩] none [3, 4])
                 (.cond (.t 4)
                  .skip
                  (.seq (.region [⟨(some 21), none, .bin .eql (.t 3) (.c (.s [114, 101, 102, 108, 101, 120, 105, 118, 101]))⟩,
                    ⟨(some 4), none, .asg (.t 21)⟩] none [3, 4])
                  (.cond (.t 4)
                   .skip
                   (.seq (.region [⟨(some 22), none, .bin .eql (.t 3) (.c (.s [116, 121, 112, 101]))⟩,
                     ⟨(some 4), none, .asg (.t 22)⟩] none [3, 4])
                   (.cond (.t 4)
                    .skip
                    (.seq (.region [⟨(some 23), none, .bin .eql (.t 3) (.c (.s [108, 105, 110, 107]))⟩,
                      ⟨(some 4), none, .asg (.t 23)⟩] none [3, 4])
                    (.cond (.t 4)
                     .skip
                     (.seq (.region [⟨(some 24), none, .bin .eql (.t 3) (.c (.s [115, 101, 108, 101, 99, 116]))⟩,
                       ⟨(some 4), none, .asg (.t 24)⟩] none [3, 4])
                     (.cond (.t 4)
                      .skip
                      (.seq (.region [⟨(some 25), none, .bin .eql (.t 3) (.c (.s [119, 104, 101, 114, 101]))⟩,
                        ⟨(some 4), none, .asg (.t 25)⟩] none [3, 4])
                      (.cond (.t 4)
                       .skip
                       (.region [⟨(some 26), none, .bin .eql (.t 3) (.c (.s [111, 114]))⟩,
                         ⟨(some 4), none, .asg (.t 26)⟩] none [4])))))))))))))))))))))))))))))))))))))))))))
  (.cond (.t 4)
   (.seq (.region [⟨(some 2), none, .asg (.c (.b true))⟩] none [2])
   .ret)
   .skip))))
 (.seq (.region [⟨(some 2), none, .asg (.c (.b false))⟩] none [2])
 .ret)))⟩
def ir_terms_isReserved : AFun := ⟨1, [.tmp 2], true, false,
 (.seq (.region [⟨(some 2), none, .asg (.c (.b false))⟩] none [0])
 (.seq (.region [⟨(some 3), none, .mov (.t 0)⟩,
   ⟨(some 4), none, .len 1 (.t 3)⟩,
   ⟨(some 5), none, .bin .geq (.t 4) (.c (.i .i64 2))⟩,
   ⟨(some 6), none, .mov (.t 5)⟩,
   ⟨(some 7), some (6, true), .mov (.t 0)⟩,
   ⟨(some 8), some (6, true), .len 1 (.t 7)⟩,
   ⟨(some 9), some (6, true), .bin .leq (.t 8) (.c (.i .i64 24))⟩,
   ⟨(some 10), none, .pick (.t 6) (.t 9) (.c (.b false))⟩,
   ⟨(some 11), none, .mov (.t 10)⟩,
   ⟨(some 12), some (11, true), .mov (.t 0)⟩,
   ⟨(some 13), some (11, true), .idxs (.t 12) (.c (.i .i64 0))⟩,
   ⟨(some 14), some (11, true), .bin .eql (.t 13) (.c (.i .u8 95))⟩,
   ⟨(some 15), none, .pick (.t 11) (.t 14) (.c (.b false))⟩,
   ⟨(some 16), none, .mov (.t 15)⟩,
   ⟨(some 17), some (16, true), .mov (.t 0)⟩,
   ⟨(some 18), some (16, true), .call (.c (.fn (.func F_terms_isTail) [] [])) [(.t 17)]⟩,
   ⟨(some 19), none, .pick (.t 16) (.t 18) (.c (.b false))⟩,
   ⟨(some 2), none, .asg (.t 19)⟩] none [2])
 .ret))⟩
def ir_printer_newPrinter : AFun := ⟨0, [.cell 0 (some 2)], true, false,
 (.seq (.region [⟨(some 0), none, .lalloc [.nm, .nm]⟩] none [0])
 (.seq (.region [⟨(some 1), none, .mkmap⟩,
   ⟨none, none, .ins 0 (.t 1) (.c (.i .i64 1)) (.c (.fn (.func F_printer_printer_top) [] []))⟩,
   ⟨none, none, .ins 0 (.t 1) (.c (.i .i64 2)) (.c (.fn (.func F_printer_printer_bottom) [] []))⟩,
   ⟨none, none, .ins 0 (.t 1) (.c (.i .i64 3)) (.c (.fn (.func F_printer_printer_named) [] []))⟩,
   ⟨none, none, .ins 0 (.t 1) (.c (.i .i64 4)) (.c (.fn (.func F_printer_printer_nominal) [] []))⟩,
   ⟨none, none, .ins 0 (.t 1) (.c (.i .i64 5)) (.c (.fn (.func F_printer_printer_and) [] []))⟩,
   ⟨none, none, .ins 0 (.t 1) (.c (.i .i64 6)) (.c (.fn (.func F_printer_printer_some) [] []))⟩,
   ⟨none, none, .ins 0 (.t 1) (.c (.i .i64 7)) (.c (.fn (.func F_printer_printer_span) [] []))⟩,
   ⟨(some 2), none, .mov (.t 1)⟩,
   ⟨(some 3), none, .mkmap⟩,
   ⟨none, none, .ins 0 (.t 3) (.c (.i .i64 1)) (.c (.fn (.func F_printer_printer_sub) [] []))⟩,
   ⟨none, none, .ins 0 (.t 3) (.c (.i .i64 2)) (.c (.fn (.func F_printer_printer_same) [] []))⟩,
   ⟨none, none, .ins 0 (.t 3) (.c (.i .i64 3)) (.c (.fn (.func F_printer_printer_disjoint) [] []))⟩,
   ⟨none, none, .ins 0 (.t 3) (.c (.i .i64 4)) (.c (.fn (.func F_printer_printer_domain) [] []))⟩,
   ⟨none, none, .ins 0 (.t 3) (.c (.i .i64 5)) (.c (.fn (.func F_printer_printer_role) [] []))⟩,
   ⟨none, none, .ins 0 (.t 3) (.c (.i .i64 6)) (.c (.fn (.func F_printer_printer_chain) [] []))⟩,
   ⟨none, none, .ins 0 (.t 3) (.c (.i .i64 7)) (.c (.fn (.func F_printer_printer_reflexive) [] []))⟩,
   ⟨none, none, .ins 0 (.t 3) (.c (.i .i64 8)) (.c (.fn (.func F_printer_printer_typing) [] []))⟩,
   ⟨none, none, .ins 0 (.t 3) (.c (.i .i64 9)) (.c (.fn (.func F_printer_printer_link) [] []))⟩,
   ⟨(some 4), none, .mov (.t 3)⟩,
   ⟨(some 5), none, .build [.nm, .nm] [(0, 1, (.t 2)), (1, 1, (.t 4))]⟩,
   ⟨none, none, .store 2 (.t 0) (.t 5)⟩] none [0])
 .ret))⟩
def ir_printer_printer_top : AFun := ⟨2, [.tmp 4], true, false,
 (.seq (.region [⟨(some 2), none, .lbox (.t 0)⟩,
   ⟨(some 3), none, .lbox (.t 1)⟩,
   ⟨(some 4), none, .asg (.c (.s []))⟩] none [])
 (.seq (.region [⟨(some 4), none, .asg (.c (.s [101, 118, 101, 114, 121, 116, 104, 105, 110, 103]))⟩] none [4])
 .ret))⟩
def ir_printer_printer_bottom : AFun := ⟨2, [.tmp 4], true, false,
 (.seq (.region [⟨(some 2), none, .lbox (.t 0)⟩,
   ⟨(some 3), none, .lbox (.t 1)⟩,
   ⟨(some 4), none, .asg (.c (.s []))⟩] none [])
 (.seq (.region [⟨(some 4), none, .asg (.c (.s [110, 111, 116, 104, 105, 110, 103]))⟩] none [4])
 .ret))⟩
def ir_printer_printer_named : AFun := ⟨2, [.tmp 4], true, false,
 (.seq (.region [⟨(some 2), none, .lbox (.t 0)⟩,
   ⟨(some 3), none, .lbox (.t 1)⟩,
   ⟨(some 4), none, .asg (.c (.s []))⟩] none [3])
 (.seq (.region [⟨(some 5), none, .fld 1 (.t 3)⟩,
   ⟨(some 6), none, .load none (.t 5)⟩,
   ⟨(some 4), none, .asg (.t 6)⟩] none [4])
 .ret))⟩
def ir_printer_printer_nominal : AFun := ⟨2, [.tmp 4], true, false,
 (.seq (.region [⟨(some 2), none, .lbox (.t 0)⟩,
   ⟨(some 3), none, .lbox (.t 1)⟩,
   ⟨(some 4), none, .asg (.c (.s []))⟩] none [3])
 (.seq (.region [⟨(some 5), none, .fld 1 (.t 3)⟩,
   ⟨(some 6), none, .load none (.t 5)⟩,
   ⟨(some 7), none, .bin .add (.c (.s [123])) (.t 6)⟩,
   ⟨(some 8), none, .bin .add (.t 7) (.c (.s [125]))⟩,
   ⟨(some 4), none, .asg (.t 8)⟩] none [4])
 .ret))⟩
def ir_printer_printer_and_L0 : ACode :=
 (.seq (.region [⟨(some 12), none, .bin .lss (.t 11) (.t 10)⟩] none [2, 5, 9, 10, 11, 12])
 (.seq (.cond (.t 12)
  .skip
  (.exit 0))
 (.seq (.block 1
  (.seq (.region [⟨(some 13), none, .idx 5 (.t 9) (.t 11)⟩,
    ⟨(some 14), none, .load (some 5) (.t 13)⟩,
    ⟨(some 7), none, .lalloc [(.i .i64 0), (.s []), (.i .i64 0), (.i .i64 0), .ns]⟩,
    ⟨none, none, .store 5 (.t 7) (.t 14)⟩] none [2, 5, 7, 9, 10, 11])
  (.region [⟨(some 15), none, .mov (.t 5)⟩,
    ⟨(some 16), none, .load (some 2) (.t 2)⟩,
    ⟨(some 17), none, .load (some 5) (.t 7)⟩,
    ⟨(some 18), none, .call (.c (.fn (.func F_printer_printer_operand) [] [])) [(.t 16), (.t 17)]⟩,
    ⟨(some 19), none, .bsl false T_string_0 1 1 [(.s [])] [(0, (.t 18))]⟩,
    ⟨(some 20), none, .app T_string_0 1 (.t 15) (.t 19)⟩,
    ⟨(some 5), none, .asg (.t 20)⟩] none [2, 5, 9, 10, 11])))
 (.region [⟨(some 21), none, .bin .add (.t 11) (.c (.i .i64 1))⟩,
   ⟨(some 11), none, .mov (.t 21)⟩] none [2, 5, 9, 10, 11]))))
def ir_printer_printer_and : AFun := ⟨2, [.tmp 4], true, false,
 (.seq (.region [⟨(some 2), none, .lbox (.t 0)⟩,
   ⟨(some 3), none, .lbox (.t 1)⟩,
   ⟨(some 4), none, .asg (.c (.s []))⟩] none [2, 3])
 (.seq (.region [⟨(some 5), none, .nbuf T_string_0 1⟩] none [2, 3, 5])
 (.seq (.seq (.region [⟨(some 8), none, .fld 4 (.t 3)⟩,
   ⟨(some 9), none, .load none (.t 8)⟩,
   ⟨(some 10), none, .len 0 (.t 9)⟩,
   ⟨(some 11), none, .mov (.c (.i .i64 0))⟩] none [2, 5, 9, 10, 11])
 (.block 0
  (.loop [2, 5, 9, 10, 11] ir_printer_printer_and_L0)))
 (.seq (.region [⟨(some 22), none, .mov (.t 5)⟩,
   ⟨(some 23), none, .call (.c (.fn (.func F_strings_Join) [] [])) [(.t 22), (.c (.s [32, 97, 110, 100, 32]))]⟩,
   ⟨(some 4), none, .asg (.t 23)⟩] none [4])
 .ret))))⟩
def ir_printer_printer_operand : AFun := ⟨2, [.tmp 4], true, false,
 (.seq (.region [⟨(some 2), none, .lbox (.t 0)⟩,
   ⟨(some 3), none, .lbox (.t 1)⟩,
   ⟨(some 4), none, .asg (.c (.s []))⟩] none [2, 3])
 (.seq (.seq (.region [⟨(some 5), none, .fld 0 (.t 3)⟩,
   ⟨(some 6), none, .load none (.t 5)⟩,
   ⟨(some 7), none, .bin .eql (.t 6) (.c (.i .i64 5))⟩] none [2, 3, 7])
 (.cond (.t 7)
  (.seq (.region [⟨(some 8), none, .load (some 2) (.t 2)⟩,
    ⟨(some 9), none, .load (some 5) (.t 3)⟩,
    ⟨(some 10), none, .call (.c (.fn (.func F_printer_printer_text) [] [])) [(.t 8), (.t 9)]⟩,
    ⟨(some 11), none, .bin .add (.c (.s [40])) (.t 10)⟩,
    ⟨(some 12), none, .bin .add (.t 11) (.c (.s [41]))⟩,
    ⟨(some 4), none, .asg (.t 12)⟩] none [4])
  .ret)
  .skip))
 (.seq (.region [⟨(some 13), none, .load (some 2) (.t 2)⟩,
   ⟨(some 14), none, .load (some 5) (.t 3)⟩,
   ⟨(some 15), none, .call (.c (.fn (.func F_printer_printer_text) [] [])) [(.t 13), (.t 14)]⟩,
   ⟨(some 4), none, .asg (.t 15)⟩] none [4])
 .ret)))⟩
def ir_printer_printer_text : AFun := ⟨2, [.tmp 4], false, false,
 (.seq (.region [⟨(some 2), none, .lbox (.t 0)⟩,
   ⟨(some 3), none, .lbox (.t 1)⟩,
   ⟨(some 4), none, .asg (.c (.s []))⟩] none [2, 3])
 (.seq (.region [⟨(some 5), none, .fld 0 (.t 2)⟩,
   ⟨(some 6), none, .load none (.t 5)⟩,
   ⟨(some 7), none, .fld 0 (.t 3)⟩,
   ⟨(some 8), none, .load none (.t 7)⟩,
   ⟨(some 9), none, .look 0 .nf false (.t 6) (.t 8)⟩,
   ⟨(some 10), none, .load (some 2) (.t 2)⟩,
   ⟨(some 11), none, .load (some 5) (.t 3)⟩,
   ⟨(some 12), none, .call (.t 9) [(.t 10), (.t 11)]⟩,
   ⟨(some 4), none, .asg (.t 12)⟩] none [4])
 .ret))⟩
def ir_printer_printer_some : AFun := ⟨2, [.tmp 4], true, false,
 (.seq (.region [⟨(some 2), none, .lbox (.t 0)⟩,
   ⟨(some 3), none, .lbox (.t 1)⟩,
   ⟨(some 4), none, .asg (.c (.s []))⟩] none [2, 3])
 (.seq (.region [⟨(some 5), none, .fld 1 (.t 3)⟩,
   ⟨(some 6), none, .load none (.t 5)⟩,
   ⟨(some 7), none, .load (some 2) (.t 2)⟩,
   ⟨(some 8), none, .fld 4 (.t 3)⟩,
   ⟨(some 9), none, .load none (.t 8)⟩,
   ⟨(some 10), none, .idx 5 (.t 9) (.c (.i .i64 0))⟩,
   ⟨(some 11), none, .load (some 5) (.t 10)⟩,
   ⟨(some 12), none, .call (.c (.fn (.func F_printer_printer_operand) [] [])) [(.t 7), (.t 11)]⟩,
   ⟨(some 13), none, .bsl false T_string_0 1 3 [(.s [])] [(0, (.c (.s [115, 111, 109, 101]))), (1, (.t 6)), (2, (.t 12))]⟩,
   ⟨(some 14), none, .call (.c (.fn (.func F_printer_words) [] [])) [(.t 13)]⟩,
   ⟨(some 4), none, .asg (.t 14)⟩] (some ([0, 1, 2, 3, 4, 5, 6, 7, 8, 9, 10], [])) [4])
 .ret))⟩
def ir_printer_words : AFun := ⟨1, [.tmp 2], true, false,
 (.seq (.region [⟨(some 2), none, .asg (.c (.s []))⟩] none [0])
 (.seq (.region [⟨(some 3), none, .mov (.t 0)⟩,
   ⟨(some 4), none, .call (.c (.fn (.func F_strings_Join) [] [])) [(.t 3), (.c (.s [32]))]⟩,
   ⟨(some 2), none, .asg (.t 4)⟩] none [2])
 .ret))⟩
def ir_printer_printer_span : AFun := ⟨2, [.tmp 4], true, false,
 (.seq (.region [⟨(some 2), none, .lbox (.t 0)⟩,
   ⟨(some 3), none, .lbox (.t 1)⟩,
   ⟨(some 4), none, .asg (.c (.s []))⟩] none [3])
 (.seq (.region [⟨(some 5), none, .fld 1 (.t 3)⟩,
   ⟨(some 6), none, .load none (.t 5)⟩,
   ⟨(some 7), none, .fld 2 (.t 3)⟩,
   ⟨(some 8), none, .load none (.t 7)⟩,
   ⟨(some 9), none, .call (.c (.fn (.func F_strconv_Itoa) [] [])) [(.t 8)]⟩,
   ⟨(some 10), none, .fld 3 (.t 3)⟩,
   ⟨(some 11), none, .load none (.t 10)⟩,
   ⟨(some 12), none, .call (.c (.fn (.func F_strconv_Itoa) [] [])) [(.t 11)]⟩,
   ⟨(some 13), none, .bsl false T_string_0 1 5 [(.s [])] [(0, (.t 6)), (1, (.c (.s [105, 110]))), (2, (.t 9)), (3, (.c (.s [116, 111]))), (4, (.t 12))]⟩,
   ⟨(some 14), none, .call (.c (.fn (.func F_printer_words) [] [])) [(.t 13)]⟩,
   ⟨(some 4), none, .asg (.t 14)⟩] (some ([0, 1, 2, 3, 4, 5, 6, 7, 8, 9, 10], [])) [4])
 .ret))⟩
def ir_printer_printer_sub : AFun := ⟨2, [.tmp 4], true, false,
 (.seq (.region [⟨(some 2), none, .lbox (.t 0)⟩,
   ⟨(some 3), none, .lbox (.t 1)⟩,
   ⟨(some 4), none, .asg (.c (.s []))⟩] none [2, 3])
 (.seq (.region [⟨(some 5), none, .load (some 2) (.t 2)⟩,
   ⟨(some 6), none, .fld 2 (.t 3)⟩,
   ⟨(some 7), none, .load (some 5) (.t 6)⟩,
   ⟨(some 8), none, .call (.c (.fn (.func F_printer_printer_text) [] [])) [(.t 5), (.t 7)]⟩,
   ⟨(some 9), none, .load (some 2) (.t 2)⟩,
   ⟨(some 10), none, .fld 7 (.t 3)⟩,
   ⟨(some 11), none, .load (some 5) (.t 10)⟩,
   ⟨(some 12), none, .call (.c (.fn (.func F_printer_printer_text) [] [])) [(.t 9), (.t 11)]⟩,
   ⟨(some 13), none, .bsl false T_string_0 1 3 [(.s [])] [(0, (.t 8)), (1, (.c (.s [115, 117, 98]))), (2, (.t 12))]⟩,
   ⟨(some 14), none, .call (.c (.fn (.func F_printer_words) [] [])) [(.t 13)]⟩,
   ⟨(some 4), none, .asg (.t 14)⟩] (some ([0, 1, 2, 3, 4, 5, 6, 7, 8, 9, 10], [])) [4])
 .ret))⟩
def ir_printer_printer_same : AFun := ⟨2, [.tmp 4], true, false,
 (.seq (.region [⟨(some 2), none, .lbox (.t 0)⟩,
   ⟨(some 3), none, .lbox (.t 1)⟩,
   ⟨(some 4), none, .asg (.c (.s []))⟩] none [2, 3])
 (.seq (.region [⟨(some 5), none, .load (some 2) (.t 2)⟩,
   ⟨(some 6), none, .fld 2 (.t 3)⟩,
   ⟨(some 7), none, .load (some 5) (.t 6)⟩,
   ⟨(some 8), none, .call (.c (.fn (.func F_printer_printer_text) [] [])) [(.t 5), (.t 7)]⟩,
   ⟨(some 9), none, .load (some 2) (.t 2)⟩,
   ⟨(some 10), none, .fld 7 (.t 3)⟩,
   ⟨(some 11), none, .load (some 5) (.t 10)⟩,
   ⟨(some 12), none, .call (.c (.fn (.func F_printer_printer_text) [] [])) [(.t 9), (.t 11)]⟩,
   ⟨(some 13), none, .bsl false T_string_0 1 3 [(.s [])] [(0, (.t 8)), (1, (.c (.s [115, 97, 109, 101]))), (2, (.t 12))]⟩,
   ⟨(some 14), none, .call (.c (.fn (.func F_printer_words) [] [])) [(.t 13)]⟩,
   ⟨(some 4), none, .asg (.t 14)⟩] (some ([0, 1, 2, 3, 4, 5, 6, 7, 8, 9, 10], [])) [4])
 .ret))⟩
def ir_printer_printer_disjoint : AFun := ⟨2, [.tmp 4], true, false,
 (.seq (.region [⟨(some 2), none, .lbox (.t 0)⟩,
   ⟨(some 3), none, .lbox (.t 1)⟩,
   ⟨(some 4), none, .asg (.c (.s []))⟩] none [2, 3])
 (.seq (.region [⟨(some 5), none, .load (some 2) (.t 2)⟩,
   ⟨(some 6), none, .fld 2 (.t 3)⟩,
   ⟨(some 7), none, .load (some 5) (.t 6)⟩,
   ⟨(some 8), none, .call (.c (.fn (.func F_printer_printer_text) [] [])) [(.t 5), (.t 7)]⟩,
   ⟨(some 9), none, .load (some 2) (.t 2)⟩,
   ⟨(some 10), none, .fld 7 (.t 3)⟩,
   ⟨(some 11), none, .load (some 5) (.t 10)⟩,
   ⟨(some 12), none, .call (.c (.fn (.func F_printer_printer_text) [] [])) [(.t 9), (.t 11)]⟩,
   ⟨(some 13), none, .bsl false T_string_0 1 3 [(.s [])] [(0, (.t 8)), (1, (.c (.s [100, 105, 115, 106, 111, 105, 110, 116]))), (2, (.t 12))]⟩,
   ⟨(some 14), none, .call (.c (.fn (.func F_printer_words) [] [])) [(.t 13)]⟩,
   ⟨(some 4), none, .asg (.t 14)⟩] (some ([0, 1, 2, 3, 4, 5, 6, 7, 8, 9, 10], [])) [4])
 .ret))⟩
def ir_printer_printer_domain : AFun := ⟨2, [.tmp 4], true, false,
 (.seq (.region [⟨(some 2), none, .lbox (.t 0)⟩,
   ⟨(some 3), none, .lbox (.t 1)⟩,
   ⟨(some 4), none, .asg (.c (.s []))⟩] none [2, 3])
 (.seq (.region [⟨(some 5), none, .fld 13 (.t 3)⟩,
   ⟨(some 6), none, .load none (.t 5)⟩,
   ⟨(some 7), none, .load (some 2) (.t 2)⟩,
   ⟨(some 8), none, .fld 7 (.t 3)⟩,
   ⟨(some 9), none, .load (some 5) (.t 8)⟩,
   ⟨(some 10), none, .call (.c (.fn (.func F_printer_printer_text) [] [])) [(.t 7), (.t 9)]⟩,
   ⟨(some 11), none, .bsl false T_string_0 1 3 [(.s [])] [(0, (.c (.s [100, 111, 109, 97, 105, 110]))), (1, (.t 6)), (2, (.t 10))]⟩,
   ⟨(some 12), none, .call (.c (.fn (.func F_printer_words) [] [])) [(.t 11)]⟩,
   ⟨(some 4), none, .asg (.t 12)⟩] (some ([0, 1, 2, 3, 4, 5, 6, 7, 8], [])) [4])
 .ret))⟩
def ir_printer_printer_role : AFun := ⟨2, [.tmp 4], true, false,
 (.seq (.region [⟨(some 2), none, .lbox (.t 0)⟩,
   ⟨(some 3), none, .lbox (.t 1)⟩,
   ⟨(some 4), none, .asg (.c (.s []))⟩] none [3])
 (.seq (.region [⟨(some 5), none, .fld 12 (.t 3)⟩,
   ⟨(some 6), none, .load none (.t 5)⟩,
   ⟨(some 7), none, .idx 1 (.t 6) (.c (.i .i64 0))⟩,
   ⟨(some 8), none, .load none (.t 7)⟩,
   ⟨(some 9), none, .fld 13 (.t 3)⟩,
   ⟨(some 10), none, .load none (.t 9)⟩,
   ⟨(some 11), none, .bsl false T_string_0 1 4 [(.s [])] [(0, (.c (.s [114, 111, 108, 101]))), (1, (.t 8)), (2, (.c (.s [115, 117, 98]))), (3, (.t 10))]⟩,
   ⟨(some 12), none, .call (.c (.fn (.func F_printer_words) [] [])) [(.t 11)]⟩,
   ⟨(some 4), none, .asg (.t 12)⟩] (some ([0, 1, 2, 3, 4, 5, 6, 7, 8], [])) [4])
 .ret))⟩
def ir_printer_printer_chain : AFun := ⟨2, [.tmp 4], true, false,
 (.seq (.region [⟨(some 2), none, .lbox (.t 0)⟩,
   ⟨(some 3), none, .lbox (.t 1)⟩,
   ⟨(some 4), none, .asg (.c (.s []))⟩] none [3])
 (.seq (.region [⟨(some 5), none, .fld 12 (.t 3)⟩,
   ⟨(some 6), none, .load none (.t 5)⟩,
   ⟨(some 7), none, .call (.c (.fn (.func F_printer_words) [] [])) [(.t 6)]⟩,
   ⟨(some 8), none, .fld 13 (.t 3)⟩,
   ⟨(some 9), none, .load none (.t 8)⟩,
   ⟨(some 10), none, .bsl false T_string_0 1 4 [(.s [])] [(0, (.c (.s [99, 104, 97, 105, 110]))), (1, (.t 7)), (2, (.c (.s [115, 117, 98]))), (3, (.t 9))]⟩,
   ⟨(some 11), none, .call (.c (.fn (.func F_printer_words) [] [])) [(.t 10)]⟩,
   ⟨(some 4), none, .asg (.t 11)⟩] (some ([0, 1, 2, 3, 4, 5, 6, 7], [])) [4])
 .ret))⟩
def ir_printer_printer_reflexive : AFun := ⟨2, [.tmp 4], true, false,
 (.seq (.region [⟨(some 2), none, .lbox (.t 0)⟩,
   ⟨(some 3), none, .lbox (.t 1)⟩,
   ⟨(some 4), none, .asg (.c (.s []))⟩] none [3])
 (.seq (.region [⟨(some 5), none, .fld 13 (.t 3)⟩,
   ⟨(some 6), none, .load none (.t 5)⟩,
   ⟨(some 7), none, .bsl false T_string_0 1 2 [(.s [])] [(0, (.c (.s [114, 101, 102, 108, 101, 120, 105, 118, 101]))), (1, (.t 6))]⟩,
   ⟨(some 8), none, .call (.c (.fn (.func F_printer_words) [] [])) [(.t 7)]⟩,
   ⟨(some 4), none, .asg (.t 8)⟩] none [4])
 .ret))⟩
def ir_printer_printer_typing : AFun := ⟨2, [.tmp 4], true, false,
 (.seq (.region [⟨(some 2), none, .lbox (.t 0)⟩,
   ⟨(some 3), none, .lbox (.t 1)⟩,
   ⟨(some 4), none, .asg (.c (.s []))⟩] none [2, 3])
 (.seq (.region [⟨(some 5), none, .fld 14 (.t 3)⟩,
   ⟨(some 6), none, .load none (.t 5)⟩,
   ⟨(some 7), none, .load (some 2) (.t 2)⟩,
   ⟨(some 8), none, .fld 7 (.t 3)⟩,
   ⟨(some 9), none, .load (some 5) (.t 8)⟩,
   ⟨(some 10), none, .call (.c (.fn (.func F_printer_printer_text) [] [])) [(.t 7), (.t 9)]⟩,
   ⟨(some 11), none, .bsl false T_string_0 1 3 [(.s [])] [(0, (.c (.s [116, 121, 112, 101]))), (1, (.t 6)), (2, (.t 10))]⟩,
   ⟨(some 12), none, .call (.c (.fn (.func F_printer_words) [] [])) [(.t 11)]⟩,
   ⟨(some 4), none, .asg (.t 12)⟩] (some ([0, 1, 2, 3, 4, 5, 6, 7, 8], [])) [4])
 .ret))⟩
def ir_printer_printer_link : AFun := ⟨2, [.tmp 4], true, false,
 (.seq (.region [⟨(some 2), none, .lbox (.t 0)⟩,
   ⟨(some 3), none, .lbox (.t 1)⟩,
   ⟨(some 4), none, .asg (.c (.s []))⟩] none [3])
 (.seq (.region [⟨(some 5), none, .fld 14 (.t 3)⟩,
   ⟨(some 6), none, .load none (.t 5)⟩,
   ⟨(some 7), none, .fld 13 (.t 3)⟩,
   ⟨(some 8), none, .load none (.t 7)⟩,
   ⟨(some 9), none, .fld 15 (.t 3)⟩,
   ⟨(some 10), none, .load none (.t 9)⟩,
   ⟨(some 11), none, .bsl false T_string_0 1 4 [(.s [])] [(0, (.c (.s [108, 105, 110, 107]))), (1, (.t 6)), (2, (.t 8)), (3, (.t 10))]⟩,
   ⟨(some 12), none, .call (.c (.fn (.func F_printer_words) [] [])) [(.t 11)]⟩,
   ⟨(some 4), none, .asg (.t 12)⟩] none [4])
 .ret))⟩
def ir_law04_states : AFun := ⟨2, [.tmp 4], true, false,
 (.seq (.region [⟨(some 2), none, .lbox (.t 0)⟩,
   ⟨(some 4), none, .asg (.c (.b false))⟩] none [1, 2])
 (.seq (.region [⟨(some 8), none, .load (some 16) (.t 2)⟩,
   ⟨(some 9), none, .call (.c (.fn (.func F_printer_Axiom) [] [])) [(.t 8)]⟩,
   ⟨(some 7), none, .mov (.t 9)⟩,
   ⟨(some 10), none, .ext (.t 7) 0⟩,
   ⟨(some 11), none, .ext (.t 7) 1⟩,
   ⟨(some 5), none, .asg (.t 10)⟩,
   ⟨(some 6), none, .asg (.t 11)⟩] none [1, 5, 6])
 (.seq (.region [⟨(some 12), none, .mov (.t 5)⟩,
   ⟨(some 13), none, .mov (.t 1)⟩,
   ⟨(some 14), none, .bin .eql (.t 12) (.t 13)⟩,
   ⟨(some 15), none, .mov (.t 14)⟩,
   ⟨(some 16), some (15, true), .mov (.t 6)⟩,
   ⟨(some 17), some (15, true), .bin .eql (.t 16) (.c (.i .i64 0))⟩,
   ⟨(some 18), none, .pick (.t 15) (.t 17) (.c (.b false))⟩,
   ⟨(some 4), none, .asg (.t 18)⟩] none [4])
 .ret)))⟩
def ir_printer_Axiom : AFun := ⟨1, [.tmp 2, .tmp 3], true, false,
 (.seq (.region [⟨(some 1), none, .lbox (.t 0)⟩,
   ⟨(some 2), none, .asg (.c (.s []))⟩,
   ⟨(some 3), none, .asg (.c (.i .i64 0))⟩] none [1])
 (.seq (.seq (.region [⟨(some 5), none, .load (some 16) (.t 1)⟩,
   ⟨(some 6), none, .call (.c (.fn (.func F_terms_CheckAxiom) [] [])) [(.t 5)]⟩,
   ⟨(some 4), none, .asg (.t 6)⟩] none [1, 4])
 (.seq (.region [⟨(some 7), none, .mov (.t 4)⟩,
   ⟨(some 8), none, .bin .neq (.t 7) (.c (.i .i64 0))⟩] none [1, 4, 8])
 (.cond (.t 8)
  (.seq (.region [⟨(some 9), none, .mov (.t 4)⟩,
    ⟨(some 2), none, .asg (.c (.s []))⟩,
    ⟨(some 3), none, .asg (.t 9)⟩] none [2, 3])
  .ret)
  .skip)))
 (.seq (.region [⟨(some 10), none, .call (.c (.fn (.func F_printer_newPrinter) [] [])) []⟩,
   ⟨(some 11), none, .load (some 16) (.t 1)⟩,
   ⟨(some 12), none, .call (.c (.fn (.func F_printer_printer_axiom) [] [])) [(.t 10), (.t 11)]⟩,
   ⟨(some 2), none, .asg (.t 12)⟩,
   ⟨(some 3), none, .asg (.c (.i .i64 0))⟩] (some ([0, 1, 2, 3, 4], [])) [2, 3])
 .ret)))⟩
def ir_terms_CheckAxiom : AFun := ⟨1, [.tmp 2], true, false,
 (.seq (.region [⟨(some 1), none, .lbox (.t 0)⟩,
   ⟨(some 2), none, .asg (.c (.i .i64 0))⟩] none [1])
 (.seq (.seq (.region [⟨(some 6), none, .load (some 16) (.t 1)⟩,
   ⟨(some 7), none, .call (.c (.fn (.func F_terms_isShaped) [] [])) [(.t 6)]⟩,
   ⟨(some 8), none, .un .not (.t 7)⟩] none [1, 8])
 (.cond (.t 8)
  (.seq (.region [⟨(some 2), none, .asg (.c (.i .i64 22))⟩] none [2])
  .ret)
  .skip))
 (.seq (.region [⟨(some 9), none, .fld 0 (.t 1)⟩,
   ⟨(some 10), none, .load none (.t 9)⟩,
   ⟨(some 11), none, .idxa 10 7 (.g G_terms_uses) (.t 10)⟩,
   ⟨(some 12), none, .load (some 7) (.t 11)⟩,
   ⟨(some 3), none, .lalloc [(.b false), (.b false), (.b false), (.b false), (.b false), (.i .i64 0), (.i .i64 0)]⟩,
   ⟨none, none, .store 7 (.t 3) (.t 12)⟩] none [1, 3])
 (.seq (.seq (.region [⟨(some 13), none, .load (some 16) (.t 1)⟩,
   ⟨(some 14), none, .load (some 7) (.t 3)⟩,
   ⟨(some 15), none, .call (.c (.fn (.func F_terms_isNamed) [] [])) [(.t 13), (.t 14)]⟩,
   ⟨(some 16), none, .un .not (.t 15)⟩] none [1, 3, 16])
 (.cond (.t 16)
  (.seq (.region [⟨(some 2), none, .asg (.c (.i .i64 20))⟩] none [2])
  .ret)
  .skip))
 (.seq (.seq (.region [⟨(some 17), none, .fld 0 (.t 3)⟩,
   ⟨(some 18), none, .load none (.t 17)⟩] none [1, 3, 18])
 (.cond (.t 18)
  (.seq (.region [⟨(some 19), none, .fld 2 (.t 1)⟩,
    ⟨(some 20), none, .load (some 5) (.t 19)⟩,
    ⟨(some 21), none, .call (.c (.fn (.func F_terms_CheckConcept) [] [])) [(.t 20)]⟩,
    ⟨(some 4), none, .asg (.t 21)⟩] none [1, 3, 4])
  (.seq (.region [⟨(some 22), none, .mov (.t 4)⟩,
    ⟨(some 23), none, .bin .neq (.t 22) (.c (.i .i64 0))⟩] none [1, 3, 4, 23])
  (.cond (.t 23)
   (.seq (.region [⟨(some 24), none, .mov (.t 4)⟩,
     ⟨(some 2), none, .asg (.t 24)⟩] none [2])
   .ret)
   .skip)))
  .skip))
 (.seq (.seq (.region [⟨(some 25), none, .fld 1 (.t 3)⟩,
   ⟨(some 26), none, .load none (.t 25)⟩] none [1, 26])
 (.cond (.t 26)
  (.seq (.region [⟨(some 27), none, .fld 7 (.t 1)⟩,
    ⟨(some 28), none, .load (some 5) (.t 27)⟩,
    ⟨(some 29), none, .call (.c (.fn (.func F_terms_CheckConcept) [] [])) [(.t 28)]⟩,
    ⟨(some 5), none, .asg (.t 29)⟩] none [1, 5])
  (.seq (.region [⟨(some 30), none, .mov (.t 5)⟩,
    ⟨(some 31), none, .bin .neq (.t 30) (.c (.i .i64 0))⟩] none [1, 5, 31])
  (.cond (.t 31)
   (.seq (.region [⟨(some 32), none, .mov (.t 5)⟩,
     ⟨(some 2), none, .asg (.t 32)⟩] none [2])
   .ret)
   .skip)))
  .skip))
 (.seq (.seq (.region [⟨(some 33), none, .fld 0 (.t 1)⟩,
   ⟨(some 34), none, .load none (.t 33)⟩] none [1, 34])
 (.block 0
  (.seq (.region [⟨(some 36), none, .bin .eql (.t 34) (.c (.i .i64 2))⟩,
    ⟨(some 35), none, .asg (.t 36)⟩] none [1, 34, 35])
  (.cond (.t 35)
   (.seq (.region [⟨(some 37), none, .fld 2 (.t 1)⟩,
     ⟨(some 38), none, .load (some 5) (.t 37)⟩,
     ⟨(some 39), none, .call (.c (.fn (.func F_terms_isBare) [] [])) [(.t 38)]⟩,
     ⟨(some 40), none, .mov (.t 39)⟩,
     ⟨(some 41), some (40, false), .fld 7 (.t 1)⟩,
     ⟨(some 42), some (40, false), .load (some 5) (.t 41)⟩,
     ⟨(some 43), some (40, false), .call (.c (.fn (.func F_terms_isBare) [] [])) [(.t 42)]⟩,
     ⟨(some 44), none, .pick (.t 40) (.c (.b true)) (.t 43)⟩] none [44])
   (.cond (.t 44)
    (.seq (.region [⟨(some 2), none, .asg (.c (.i .i64 22))⟩] none [2])
    .ret)
    .skip))
   (.seq (.seq (.region [⟨(some 46), none, .bin .eql (.t 34) (.c (.i .i64 1))⟩,
     ⟨(some 45), none, .asg (.t 46)⟩] none [1, 34, 45])
   (.cond (.t 45)
    .skip
    (.seq (.region [⟨(some 47), none, .bin .eql (.t 34) (.c (.i .i64 4))⟩,
      ⟨(some 45), none, .asg (.t 47)⟩] none [1, 34, 45])
    (.cond (.t 45)
     .skip
     (.region [⟨(some 48), none, .bin .eql (.t 34) (.c (.i .i64 8))⟩,
       ⟨(some 45), none, .asg (.t 48)⟩] none [1, 45])))))
   (.cond (.t 45)
    (.seq (.region [⟨(some 49), none, .fld 7 (.t 1)⟩,
      ⟨(some 50), none, .load (some 5) (.t 49)⟩,
      ⟨(some 51), none, .call (.c (.fn (.func F_terms_isBare) [] [])) [(.t 50)]⟩] none [51])
    (.cond (.t 51)
     (.seq (.region [⟨(some 2), none, .asg (.c (.i .i64 22))⟩] none [2])
     .ret)
     .skip))
    .skip))))))
 (.seq (.region [⟨(some 2), none, .asg (.c (.i .i64 0))⟩] none [2])
 .ret))))))))⟩
def ir_terms_isShaped : AFun := ⟨1, [.tmp 2], true, false,
 (.seq (.region [⟨(some 1), none, .lbox (.t 0)⟩,
   ⟨(some 2), none, .asg (.c (.b false))⟩] none [1])
 (.seq (.seq (.region [⟨(some 4), none, .fld 0 (.t 1)⟩,
   ⟨(some 5), none, .load none (.t 4)⟩,
   ⟨(some 6), none, .bin .lss (.t 5) (.c (.i .i64 1))⟩,
   ⟨(some 7), none, .mov (.t 6)⟩,
   ⟨(some 8), some (7, false), .fld 0 (.t 1)⟩,
   ⟨(some 9), some (7, false), .load none (.t 8)⟩,
   ⟨(some 10), some (7, false), .bin .gtr (.t 9) (.c (.i .i64 9))⟩,
   ⟨(some 11), none, .pick (.t 7) (.c (.b true)) (.t 10)⟩] none [1, 11])
 (.cond (.t 11)
  (.seq (.region [⟨(some 2), none, .asg (.c (.b false))⟩] none [2])
  .ret)
  .skip))
 (.seq (.region [⟨(some 12), none, .fld 0 (.t 1)⟩,
   ⟨(some 13), none, .load none (.t 12)⟩,
   ⟨(some 14), none, .idxa 10 7 (.g G_terms_uses) (.t 13)⟩,
   ⟨(some 15), none, .load (some 7) (.t 14)⟩,
   ⟨(some 3), none, .lalloc [(.b false), (.b false), (.b false), (.b false), (.b false), (.i .i64 0), (.i .i64 0)]⟩,
   ⟨none, none, .store 7 (.t 3) (.t 15)⟩] none [1, 3])
 (.seq (.region [⟨(some 16), none, .fld 0 (.t 3)⟩,
   ⟨(some 17), none, .load none (.t 16)⟩,
   ⟨(some 18), none, .mov (.t 17)⟩,
   ⟨(some 19), some (18, false), .fld 2 (.t 1)⟩,
   ⟨(some 20), some (18, false), .load (some 5) (.t 19)⟩,
   ⟨(some 21), some (18, false), .call (.c (.fn (.func F_terms_isEmpty) [] [])) [(.t 20)]⟩,
   ⟨(some 22), none, .pick (.t 18) (.c (.b true)) (.t 21)⟩,
   ⟨(some 23), none, .mov (.t 22)⟩,
   ⟨(some 24), some (23, true), .fld 1 (.t 3)⟩,
   ⟨(some 25), some (23, true), .load none (.t 24)⟩,
   ⟨(some 26), some (23, true), .mov (.t 25)⟩,
   ⟨(some 27), some (26, false), .fld 7 (.t 1)⟩,
   ⟨(some 28), some (26, false), .load (some 5) (.t 27)⟩,
   ⟨(some 29), some (26, false), .call (.c (.fn (.func F_terms_isEmpty) [] [])) [(.t 28)]⟩,
   ⟨(some 30), some (23, true), .pick (.t 26) (.c (.b true)) (.t 29)⟩,
   ⟨(some 31), none, .pick (.t 23) (.t 30) (.c (.b false))⟩,
   ⟨(some 32), none, .mov (.t 31)⟩,
   ⟨(some 33), some (32, true), .fld 2 (.t 3)⟩,
   ⟨(some 34), some (32, true), .load none (.t 33)⟩,
   ⟨(some 35), some (32, true), .mov (.t 34)⟩,
   ⟨(some 36), some (35, false), .fld 13 (.t 1)⟩,
   ⟨(some 37), some (35, false), .load none (.t 36)⟩,
   ⟨(some 38), some (35, false), .bin .eql (.t 37) (.c (.s []))⟩,
   ⟨(some 39), some (32, true), .pick (.t 35) (.c (.b true)) (.t 38)⟩,
   ⟨(some 40), none, .pick (.t 32) (.t 39) (.c (.b false))⟩,
   ⟨(some 41), none, .mov (.t 40)⟩,
   ⟨(some 42), some (41, true), .fld 3 (.t 3)⟩,
   ⟨(some 43), some (41, true), .load none (.t 42)⟩,
   ⟨(some 44), some (41, true), .mov (.t 43)⟩,
   ⟨(some 45), some (44, false), .fld 14 (.t 1)⟩,
   ⟨(some 46), some (44, false), .load none (.t 45)⟩,
   ⟨(some 47), some (44, false), .bin .eql (.t 46) (.c (.s []))⟩,
   ⟨(some 48), some (41, true), .pick (.t 44) (.c (.b true)) (.t 47)⟩,
   ⟨(some 49), none, .pick (.t 41) (.t 48) (.c (.b false))⟩,
   ⟨(some 50), none, .mov (.t 49)⟩,
   ⟨(some 51), some (50, true), .fld 4 (.t 3)⟩,
   ⟨(some 52), some (50, true), .load none (.t 51)⟩,
   ⟨(some 53), some (50, true), .mov (.t 52)⟩,
   ⟨(some 54), some (53, false), .fld 15 (.t 1)⟩,
   ⟨(some 55), some (53, false), .load none (.t 54)⟩,
   ⟨(some 56), some (53, false), .bin .eql (.t 55) (.c (.s []))⟩,
   ⟨(some 57), some (50, true), .pick (.t 53) (.c (.b true)) (.t 56)⟩,
   ⟨(some 58), none, .pick (.t 50) (.t 57) (.c (.b false))⟩,
   ⟨(some 59), none, .mov (.t 58)⟩,
   ⟨(some 60), some (59, true), .fld 12 (.t 1)⟩,
   ⟨(some 61), some (59, true), .load none (.t 60)⟩,
   ⟨(some 62), some (59, true), .len 0 (.t 61)⟩,
   ⟨(some 63), some (59, true), .fld 5 (.t 3)⟩,
   ⟨(some 64), some (59, true), .load none (.t 63)⟩,
   ⟨(some 65), some (59, true), .bin .geq (.t 62) (.t 64)⟩,
   ⟨(some 66), none, .pick (.t 59) (.t 65) (.c (.b false))⟩,
   ⟨(some 67), none, .mov (.t 66)⟩,
   ⟨(some 68), some (67, true), .fld 12 (.t 1)⟩,
   ⟨(some 69), some (67, true), .load none (.t 68)⟩,
   ⟨(some 70), some (67, true), .len 0 (.t 69)⟩,
   ⟨(some 71), some (67, true), .fld 6 (.t 3)⟩,
   ⟨(some 72), some (67, true), .load none (.t 71)⟩,
   ⟨(some 73), some (67, true), .bin .leq (.t 70) (.t 72)⟩,
   ⟨(some 74), none, .pick (.t 67) (.t 73) (.c (.b false))⟩,
   ⟨(some 2), none, .asg (.t 74)⟩] none [2])
 .ret))))⟩
def ir_terms_isEmpty : AFun := ⟨1, [.tmp 2], true, false,
 (.seq (.region [⟨(some 1), none, .lbox (.t 0)⟩,
   ⟨(some 2), none, .asg (.c (.b false))⟩] none [1])
 (.seq (.region [⟨(some 3), none, .fld 0 (.t 1)⟩,
   ⟨(some 4), none, .load none (.t 3)⟩,
   ⟨(some 5), none, .bin .eql (.t 4) (.c (.i .i64 0))⟩,
   ⟨(some 6), none, .mov (.t 5)⟩,
   ⟨(some 7), some (6, true), .fld 1 (.t 1)⟩,
   ⟨(some 8), some (6, true), .load none (.t 7)⟩,
   ⟨(some 9), some (6, true), .bin .eql (.t 8) (.c (.s []))⟩,
   ⟨(some 10), none, .pick (.t 6) (.t 9) (.c (.b false))⟩,
   ⟨(some 11), none, .mov (.t 10)⟩,
   ⟨(some 12), some (11, true), .fld 2 (.t 1)⟩,
   ⟨(some 13), some (11, true), .load none (.t 12)⟩,
   ⟨(some 14), some (11, true), .bin .eql (.t 13) (.c (.i .i64 0))⟩,
   ⟨(some 15), none, .pick (.t 11) (.t 14) (.c (.b false))⟩,
   ⟨(some 16), none, .mov (.t 15)⟩,
   ⟨(some 17), some (16, true), .fld 3 (.t 1)⟩,
   ⟨(some 18), some (16, true), .load none (.t 17)⟩,
   ⟨(some 19), some (16, true), .bin .eql (.t 18) (.c (.i .i64 0))⟩,
   ⟨(some 20), none, .pick (.t 16) (.t 19) (.c (.b false))⟩,
   ⟨(some 21), none, .mov (.t 20)⟩,
   ⟨(some 22), some (21, true), .fld 4 (.t 1)⟩,
   ⟨(some 23), some (21, true), .load none (.t 22)⟩,
   ⟨(some 24), some (21, true), .len 0 (.t 23)⟩,
   ⟨(some 25), some (21, true), .bin .eql (.t 24) (.c (.i .i64 0))⟩,
   ⟨(some 26), none, .pick (.t 21) (.t 25) (.c (.b false))⟩,
   ⟨(some 2), none, .asg (.t 26)⟩] none [2])
 .ret))⟩
def ir_terms_isNamed_L0 : ACode :=
 (.seq (.region [⟨(some 39), none, .bin .lss (.t 38) (.t 37)⟩] none [36, 37, 38, 39])
 (.seq (.cond (.t 39)
  .skip
  (.exit 0))
 (.seq (.block 1
  (.seq (.region [⟨(some 40), none, .idx 1 (.t 36) (.t 38)⟩,
    ⟨(some 41), none, .load none (.t 40)⟩,
    ⟨(some 6), none, .asg (.t 41)⟩] none [6, 36, 37, 38])
  (.seq (.region [⟨(some 42), none, .mov (.t 6)⟩,
    ⟨(some 43), none, .call (.c (.fn (.func F_terms_isPlain) [] [])) [(.t 42)]⟩,
    ⟨(some 44), none, .un .not (.t 43)⟩] none [36, 37, 38, 44])
  (.cond (.t 44)
   (.seq (.region [⟨(some 4), none, .asg (.c (.b false))⟩] none [4])
   .ret)
   .skip))))
 (.region [⟨(some 45), none, .bin .add (.t 38) (.c (.i .i64 1))⟩,
   ⟨(some 38), none, .mov (.t 45)⟩] none [36, 37, 38]))))
def ir_terms_isNamed : AFun := ⟨2, [.tmp 4], true, false,
 (.seq (.region [⟨(some 2), none, .lbox (.t 0)⟩,
   ⟨(some 3), none, .lbox (.t 1)⟩,
   ⟨(some 4), none, .asg (.c (.b false))⟩] none [2, 3])
 (.seq (.seq (.region [⟨(some 7), none, .fld 2 (.t 3)⟩,
   ⟨(some 8), none, .load none (.t 7)⟩,
   ⟨(some 9), none, .mov (.t 8)⟩,
   ⟨(some 10), some (9, true), .fld 13 (.t 2)⟩,
   ⟨(some 11), some (9, true), .load none (.t 10)⟩,
   ⟨(some 12), some (9, true), .call (.c (.fn (.func F_terms_isPlain) [] [])) [(.t 11)]⟩,
   ⟨(some 13), some (9, true), .un .not (.t 12)⟩,
   ⟨(some 14), none, .pick (.t 9) (.t 13) (.c (.b false))⟩,
   ⟨(some 15), none, .mov (.t 14)⟩,
   ⟨(some 16), some (15, false), .fld 3 (.t 3)⟩,
   ⟨(some 17), some (15, false), .load none (.t 16)⟩,
   ⟨(some 18), some (15, false), .mov (.t 17)⟩,
   ⟨(some 19), some (18, true), .fld 14 (.t 2)⟩,
   ⟨(some 20), some (18, true), .load none (.t 19)⟩,
   ⟨(some 21), some (18, true), .call (.c (.fn (.func F_terms_CheckName) [] [])) [(.t 20)]⟩,
   ⟨(some 22), some (18, true), .bin .neq (.t 21) (.c (.i .i64 0))⟩,
   ⟨(some 23), some (15, false), .pick (.t 18) (.t 22) (.c (.b false))⟩,
   ⟨(some 24), none, .pick (.t 15) (.c (.b true)) (.t 23)⟩,
   ⟨(some 25), none, .mov (.t 24)⟩,
   ⟨(some 26), some (25, false), .fld 4 (.t 3)⟩,
   ⟨(some 27), some (25, false), .load none (.t 26)⟩,
   ⟨(some 28), some (25, false), .mov (.t 27)⟩,
   ⟨(some 29), some (28, true), .fld 15 (.t 2)⟩,
   ⟨(some 30), some (28, true), .load none (.t 29)⟩,
   ⟨(some 31), some (28, true), .call (.c (.fn (.func F_terms_CheckName) [] [])) [(.t 30)]⟩,
   ⟨(some 32), some (28, true), .bin .neq (.t 31) (.c (.i .i64 0))⟩,
   ⟨(some 33), some (25, false), .pick (.t 28) (.t 32) (.c (.b false))⟩,
   ⟨(some 34), none, .pick (.t 25) (.c (.b true)) (.t 33)⟩] none [2, 34])
 (.cond (.t 34)
  (.seq (.region [⟨(some 4), none, .asg (.c (.b false))⟩] none [4])
  .ret)
  .skip))
 (.seq (.seq (.region [⟨(some 35), none, .fld 12 (.t 2)⟩,
   ⟨(some 36), none, .load none (.t 35)⟩,
   ⟨(some 37), none, .len 0 (.t 36)⟩,
   ⟨(some 38), none, .mov (.c (.i .i64 0))⟩] none [36, 37, 38])
 (.block 0
  (.loop [36, 37, 38] ir_terms_isNamed_L0)))
 (.seq (.region [⟨(some 4), none, .asg (.c (.b true))⟩] none [4])
 .ret))))⟩
def ir_terms_CheckName : AFun := ⟨1, [.tmp 2], true, false,
 (.seq (.region [⟨(some 2), none, .asg (.c (.i .i64 0))⟩] none [0])
 (.seq (.seq (.region [⟨(some 3), none, .mov (.t 0)⟩,
   ⟨(some 4), none, .call (.c (.fn (.func F_terms_isPlain) [] [])) [(.t 3)]⟩,
   ⟨(some 5), none, .mov (.t 4)⟩,
   ⟨(some 6), some (5, false), .mov (.t 0)⟩,
   ⟨(some 7), some (5, false), .call (.c (.fn (.func F_terms_isReserved) [] [])) [(.t 6)]⟩,
   ⟨(some 8), none, .pick (.t 5) (.c (.b true)) (.t 7)⟩] none [8])
 (.cond (.t 8)
  (.seq (.region [⟨(some 2), none, .asg (.c (.i .i64 0))⟩] none [2])
  .ret)
  .skip))
 (.seq (.region [⟨(some 2), none, .asg (.c (.i .i64 20))⟩] none [2])
 .ret)))⟩
def ir_terms_isBare : AFun := ⟨1, [.tmp 2], true, false,
 (.seq (.region [⟨(some 1), none, .lbox (.t 0)⟩,
   ⟨(some 2), none, .asg (.c (.b false))⟩] none [1])
 (.seq (.seq (.region [⟨(some 3), none, .fld 0 (.t 1)⟩,
   ⟨(some 4), none, .load none (.t 3)⟩] none [1, 4])
 (.block 0
  (.seq (.region [⟨(some 6), none, .bin .eql (.t 4) (.c (.i .i64 4))⟩,
    ⟨(some 5), none, .asg (.t 6)⟩] none [1, 4, 5])
  (.cond (.t 5)
   (.seq (.region [⟨(some 2), none, .asg (.c (.b true))⟩] none [2])
   .ret)
   (.seq (.region [⟨(some 8), none, .bin .eql (.t 4) (.c (.i .i64 5))⟩,
     ⟨(some 7), none, .asg (.t 8)⟩] none [1, 7])
   (.cond (.t 7)
    (.seq (.region [⟨(some 9), none, .fld 4 (.t 1)⟩,
      ⟨(some 10), none, .load none (.t 9)⟩,
      ⟨(some 11), none, .call (.c (.fn (.func F_slices_ContainsFunc_api_Concept_api_Concept) [] [])) [(.t 10), (.c (.fn (.func F_terms_isBare) [] []))]⟩,
      ⟨(some 2), none, .asg (.t 11)⟩] none [2])
    .ret)
    .skip))))))
 (.seq (.region [⟨(some 2), none, .asg (.c (.b false))⟩] none [2])
 .ret)))⟩
def ir_slices_ContainsFunc_api_Concept_api_Concept : AFun := ⟨2, [.tmp 4], false, false,
 (.seq (.region [⟨(some 4), none, .asg (.c (.b false))⟩] none [0, 1])
 (.seq (.region [⟨(some 5), none, .mov (.t 0)⟩,
   ⟨(some 6), none, .mov (.t 1)⟩,
   ⟨(some 7), none, .call (.c (.fn (.func F_slices_IndexFunc_api_Concept_api_Concept) [] [])) [(.t 5), (.t 6)]⟩,
   ⟨(some 8), none, .bin .geq (.t 7) (.c (.i .i64 0))⟩,
   ⟨(some 4), none, .asg (.t 8)⟩] none [4])
 .ret))⟩
def ir_slices_IndexFunc_api_Concept_api_Concept_L0 : ACode :=
 (.seq (.region [⟨(some 9), none, .bin .lss (.t 8) (.t 7)⟩] none [0, 1, 7, 8, 9])
 (.seq (.cond (.t 9)
  .skip
  (.exit 0))
 (.seq (.block 1
  (.seq (.region [⟨(some 10), none, .mov (.t 8)⟩,
    ⟨(some 5), none, .asg (.t 10)⟩] none [0, 1, 5, 7, 8])
  (.seq (.region [⟨(some 11), none, .mov (.t 1)⟩,
    ⟨(some 12), none, .mov (.t 0)⟩,
    ⟨(some 13), none, .mov (.t 5)⟩,
    ⟨(some 14), none, .idx 5 (.t 12) (.t 13)⟩,
    ⟨(some 15), none, .load (some 5) (.t 14)⟩,
    ⟨(some 16), none, .call (.t 11) [(.t 15)]⟩] none [0, 1, 5, 7, 8, 16])
  (.cond (.t 16)
   (.seq (.region [⟨(some 17), none, .mov (.t 5)⟩,
     ⟨(some 4), none, .asg (.t 17)⟩] none [4])
   .ret)
   .skip))))
 (.region [⟨(some 18), none, .bin .add (.t 8) (.c (.i .i64 1))⟩,
   ⟨(some 8), none, .mov (.t 18)⟩] none [0, 1, 7, 8]))))
def ir_slices_IndexFunc_api_Concept_api_Concept : AFun := ⟨2, [.tmp 4], false, false,
 (.seq (.region [⟨(some 4), none, .asg (.c (.i .i64 0))⟩] none [0, 1])
 (.seq (.seq (.region [⟨(some 6), none, .mov (.t 0)⟩,
   ⟨(some 7), none, .len 0 (.t 6)⟩,
   ⟨(some 8), none, .mov (.c (.i .i64 0))⟩] none [0, 1, 7, 8])
 (.block 0
  (.loop [0, 1, 7, 8] ir_slices_IndexFunc_api_Concept_api_Concept_L0)))
 (.seq (.region [⟨(some 4), none, .asg (.c (.i .i64 (-1)))⟩] none [4])
 .ret)))⟩
def ir_printer_printer_axiom : AFun := ⟨2, [.tmp 4], false, false,
 (.seq (.region [⟨(some 2), none, .lbox (.t 0)⟩,
   ⟨(some 3), none, .lbox (.t 1)⟩,
   ⟨(some 4), none, .asg (.c (.s []))⟩] none [2, 3])
 (.seq (.region [⟨(some 6), none, .fld 1 (.t 2)⟩,
   ⟨(some 7), none, .load none (.t 6)⟩,
   ⟨(some 8), none, .fld 0 (.t 3)⟩,
   ⟨(some 9), none, .load none (.t 8)⟩,
   ⟨(some 10), none, .look 0 .nf false (.t 7) (.t 9)⟩,
   ⟨(some 11), none, .load (some 2) (.t 2)⟩,
   ⟨(some 12), none, .load (some 16) (.t 3)⟩,
   ⟨(some 13), none, .call (.t 10) [(.t 11), (.t 12)]⟩,
   ⟨(some 5), none, .asg (.t 13)⟩] none [3, 5])
 (.seq (.seq (.region [⟨(some 14), none, .fld 0 (.t 3)⟩,
   ⟨(some 15), none, .load none (.t 14)⟩] none [3, 5, 15])
 (.block 0
  (.seq (.seq (.region [⟨(some 22), none, .bin .eql (.t 15) (.c (.i .i64 5))⟩,
    ⟨(some 21), none, .asg (.t 22)⟩] none [3, 5, 15, 21])
  (.cond (.t 21)
   .skip
   (.seq (.region [⟨(some 23), none, .bin .eql (.t 15) (.c (.i .i64 6))⟩,
     ⟨(some 21), none, .asg (.t 23)⟩] none [3, 5, 15, 21])
   (.cond (.t 21)
    .skip
    (.region [⟨(some 24), none, .bin .eql (.t 15) (.c (.i .i64 7))⟩,
      ⟨(some 21), none, .asg (.t 24)⟩] none [3, 5, 21])))))
  (.cond (.t 21)
   (.seq (.region [⟨(some 25), none, .fld 1 (.t 3)⟩,
     ⟨(some 26), none, .load none (.t 25)⟩,
     ⟨(some 27), none, .un .not (.t 26)⟩] none [5, 27])
   (.cond (.t 27)
    (.seq (.region [⟨(some 28), none, .mov (.t 5)⟩,
      ⟨(some 29), none, .bsl false T_string_0 1 2 [(.s [])] [(0, (.c (.s [112, 114, 105, 118, 97, 116, 101]))), (1, (.t 28))]⟩,
      ⟨(some 30), none, .call (.c (.fn (.func F_printer_words) [] [])) [(.t 29)]⟩,
      ⟨(some 4), none, .asg (.t 30)⟩] none [4])
    .ret)
    .skip))
   (.seq (.region [⟨(some 16), none, .fld 1 (.t 3)⟩,
     ⟨(some 17), none, .load none (.t 16)⟩] none [5, 17])
   (.cond (.t 17)
    (.seq (.region [⟨(some 18), none, .mov (.t 5)⟩,
      ⟨(some 19), none, .bsl false T_string_0 1 2 [(.s [])] [(0, (.c (.s [111, 112, 101, 110]))), (1, (.t 18))]⟩,
      ⟨(some 20), none, .call (.c (.fn (.func F_printer_words) [] [])) [(.t 19)]⟩,
      ⟨(some 4), none, .asg (.t 20)⟩] none [4])
    .ret)
    .skip))))))
 (.seq (.region [⟨(some 31), none, .mov (.t 5)⟩,
   ⟨(some 4), none, .asg (.t 31)⟩] none [4])
 .ret))))⟩
def ir_printer_Document_L0 : ACode :=
 (.seq (.region [⟨(some 13), none, .bin .lss (.t 12) (.t 11)⟩] none [0, 2, 10, 11, 12, 13])
 (.seq (.cond (.t 13)
  .skip
  (.exit 0))
 (.seq (.block 1
  (.seq (.region [⟨(some 14), none, .idx 16 (.t 10) (.t 12)⟩,
    ⟨(some 15), none, .load (some 16) (.t 14)⟩,
    ⟨(some 5), none, .lalloc [(.i .i64 0), (.b false), (.i .i64 0), (.s []), (.i .i64 0), (.i .i64 0), .ns, (.i .i64 0), (.s []), (.i .i64 0), (.i .i64 0), .ns, .ns, (.s []), (.s []), (.s [])]⟩,
    ⟨none, none, .store 16 (.t 5) (.t 15)⟩] none [0, 2, 5, 10, 11, 12])
  (.seq (.region [⟨(some 16), none, .load (some 16) (.t 5)⟩,
    ⟨(some 17), none, .call (.c (.fn (.func F_terms_CheckAxiom) [] [])) [(.t 16)]⟩,
    ⟨(some 6), none, .asg (.t 17)⟩] none [0, 2, 6, 10, 11, 12])
  (.seq (.region [⟨(some 18), none, .mov (.t 6)⟩,
    ⟨(some 19), none, .bin .neq (.t 18) (.c (.i .i64 0))⟩] none [0, 2, 6, 10, 11, 12, 19])
  (.cond (.t 19)
   (.seq (.region [⟨(some 20), none, .mov (.t 6)⟩,
     ⟨(some 2), none, .nbuf T_uint8_0 1⟩,
     ⟨(some 3), none, .asg (.t 20)⟩] none [2, 3])
   .ret)
   .skip)))))
 (.region [⟨(some 21), none, .bin .add (.t 12) (.c (.i .i64 1))⟩,
   ⟨(some 12), none, .mov (.t 21)⟩] none [0, 2, 10, 11, 12]))))
def ir_printer_Document_L1 : ACode :=
 (.seq (.region [⟨(some 26), none, .bin .lss (.t 25) (.t 24)⟩] none [2, 7, 23, 24, 25, 26])
 (.seq (.cond (.t 26)
  .skip
  (.exit 2))
 (.seq (.block 3
  (.seq (.region [⟨(some 27), none, .idx 16 (.t 23) (.t 25)⟩,
    ⟨(some 28), none, .load (some 16) (.t 27)⟩,
    ⟨(some 9), none, .lalloc [(.i .i64 0), (.b false), (.i .i64 0), (.s []), (.i .i64 0), (.i .i64 0), .ns, (.i .i64 0), (.s []), (.i .i64 0), (.i .i64 0), .ns, .ns, (.s []), (.s []), (.s [])]⟩,
    ⟨none, none, .store 16 (.t 9) (.t 28)⟩] none [2, 7, 9, 23, 24, 25])
  (.seq (.region [⟨(some 29), none, .mov (.t 2)⟩,
    ⟨(some 30), none, .load (some 2) (.t 7)⟩,
    ⟨(some 31), none, .load (some 16) (.t 9)⟩,
    ⟨(some 32), none, .call (.c (.fn (.func F_printer_printer_axiom) [] [])) [(.t 30), (.t 31)]⟩,
    ⟨(some 33), none, .apps T_uint8_0 (.t 29) (.t 32)⟩,
    ⟨(some 2), none, .asg (.t 33)⟩] none [2, 7, 23, 24, 25])
  (.seq (.region [⟨(some 34), none, .mov (.t 2)⟩,
    ⟨(some 35), none, .apps T_uint8_0 (.t 34) (.c (.s [46, 10]))⟩,
    ⟨(some 2), none, .asg (.t 35)⟩] none [2, 7, 23, 24, 25])
  (.seq (.region [⟨(some 36), none, .mov (.t 2)⟩,
    ⟨(some 37), none, .len 0 (.t 36)⟩,
    ⟨(some 38), none, .bin .gtr (.t 37) (.c (.i .i64 65536))⟩] none [2, 7, 23, 24, 25, 38])
  (.cond (.t 38)
   (.seq (.region [⟨(some 2), none, .nbuf T_uint8_0 1⟩,
     ⟨(some 3), none, .asg (.c (.i .i64 2))⟩] none [2, 3])
   .ret)
   .skip))))))
 (.region [⟨(some 39), none, .bin .add (.t 25) (.c (.i .i64 1))⟩,
   ⟨(some 25), none, .mov (.t 39)⟩] none [2, 7, 23, 24, 25]))))
def ir_printer_Document : AFun := ⟨1, [.tmp 2, .tmp 3], true, false,
 (.seq (.region [⟨(some 2), none, .nbuf T_uint8_0 1⟩,
   ⟨(some 3), none, .asg (.c (.i .i64 0))⟩] none [0, 2])
 (.seq (.seq (.region [⟨(some 10), none, .mov (.t 0)⟩,
   ⟨(some 11), none, .len 0 (.t 10)⟩,
   ⟨(some 12), none, .mov (.c (.i .i64 0))⟩] none [0, 2, 10, 11, 12])
 (.block 0
  (.loop [0, 2, 10, 11, 12] ir_printer_Document_L0)))
 (.seq (.region [⟨(some 22), none, .call (.c (.fn (.func F_printer_newPrinter) [] [])) []⟩,
   ⟨(some 7), none, .lalloc [.nm, .nm]⟩,
   ⟨none, none, .store 2 (.t 7) (.t 22)⟩] none [0, 2, 7])
 (.seq (.seq (.region [⟨(some 23), none, .mov (.t 0)⟩,
   ⟨(some 24), none, .len 0 (.t 23)⟩,
   ⟨(some 25), none, .mov (.c (.i .i64 0))⟩] none [2, 7, 23, 24, 25])
 (.block 2
  (.loop [2, 7, 23, 24, 25] ir_printer_Document_L1)))
 (.seq (.region [⟨(some 40), none, .mov (.t 2)⟩,
   ⟨(some 2), none, .asg (.t 40)⟩,
   ⟨(some 3), none, .asg (.c (.i .i64 0))⟩] none [2, 3])
 .ret)))))⟩
def ir_ref02_Few : AFun := ⟨1, [.tmp 2], true, false,
 (.seq (.region [⟨(some 1), none, .lbox (.t 0)⟩,
   ⟨(some 2), none, .asg (.c (.b false))⟩] none [1])
 (.seq (.region [⟨(some 3), none, .load (some 5) (.t 1)⟩,
   ⟨(some 4), none, .call (.c (.fn (.func F_ref02_count) [] [])) [(.t 3), (.c (.i .i64 40)), (.c (.i .i64 150))]⟩,
   ⟨(some 5), none, .bin .leq (.t 4) (.c (.i .i64 150))⟩,
   ⟨(some 2), none, .asg (.t 5)⟩] none [2])
 .ret))⟩
def ir_ref02_count_L0 : ACode :=
 (.seq (.seq (.region [⟨(some 18), none, .mov (.t 8)⟩,
   ⟨(some 19), none, .fld 4 (.t 3)⟩,
   ⟨(some 20), none, .load none (.t 19)⟩,
   ⟨(some 21), none, .len 0 (.t 20)⟩,
   ⟨(some 22), none, .bin .lss (.t 18) (.t 21)⟩,
   ⟨(some 23), none, .mov (.t 22)⟩,
   ⟨(some 24), some (23, true), .mov (.t 7)⟩,
   ⟨(some 25), some (23, true), .mov (.t 2)⟩,
   ⟨(some 26), some (23, true), .bin .leq (.t 24) (.t 25)⟩,
   ⟨(some 27), none, .pick (.t 23) (.t 26) (.c (.b false))⟩] none [1, 2, 3, 7, 8, 27])
 (.cond (.t 27)
  .skip
  (.exit 0)))
 (.seq (.block 1
  (.region [⟨(some 30), none, .mov (.t 7)⟩,
    ⟨(some 31), none, .fld 4 (.t 3)⟩,
    ⟨(some 32), none, .load none (.t 31)⟩,
    ⟨(some 33), none, .mov (.t 8)⟩,
    ⟨(some 34), none, .idx 5 (.t 32) (.t 33)⟩,
    ⟨(some 35), none, .load (some 5) (.t 34)⟩,
    ⟨(some 36), none, .mov (.t 1)⟩,
    ⟨(some 37), none, .bin .sub (.t 36) (.c (.i .i64 1))⟩,
    ⟨(some 38), none, .mov (.t 2)⟩,
    ⟨(some 39), none, .mov (.t 7)⟩,
    ⟨(some 40), none, .bin .sub (.t 38) (.t 39)⟩,
    ⟨(some 41), none, .call (.c (.fn (.func F_ref02_count) [] [])) [(.t 35), (.t 37), (.t 40)]⟩,
    ⟨(some 42), none, .bin .add (.t 30) (.t 41)⟩,
    ⟨(some 7), none, .asg (.t 42)⟩] none [1, 2, 3, 7, 8]))
 (.region [⟨(some 28), none, .mov (.t 8)⟩,
   ⟨(some 29), none, .bin .add (.t 28) (.c (.i .i64 1))⟩,
   ⟨(some 8), none, .asg (.t 29)⟩] none [1, 2, 3, 7, 8])))
def ir_ref02_count : AFun := ⟨3, [.tmp 6], true, false,
 (.seq (.region [⟨(some 3), none, .lbox (.t 0)⟩,
   ⟨(some 6), none, .asg (.c (.i .i64 0))⟩] none [1, 2, 3])
 (.seq (.seq (.region [⟨(some 9), none, .mov (.t 1)⟩,
   ⟨(some 10), none, .bin .leq (.t 9) (.c (.i .i64 0))⟩] none [1, 2, 3, 10])
 (.cond (.t 10)
  (.seq (.region [⟨(some 11), none, .mov (.t 2)⟩,
    ⟨(some 12), none, .bin .add (.t 11) (.c (.i .i64 1))⟩,
    ⟨(some 6), none, .asg (.t 12)⟩] none [6])
  .ret)
  .skip))
 (.seq (.region [⟨(some 13), none, .fld 1 (.t 3)⟩,
   ⟨(some 14), none, .load none (.t 13)⟩,
   ⟨(some 15), none, .len 1 (.t 14)⟩,
   ⟨(some 16), none, .bin .quo (.t 15) (.c (.i .i64 40))⟩,
   ⟨(some 17), none, .bin .add (.c (.i .i64 1)) (.t 16)⟩,
   ⟨(some 7), none, .asg (.t 17)⟩] none [1, 2, 3, 7])
 (.seq (.seq (.region [⟨(some 8), none, .asg (.c (.i .i64 0))⟩] none [1, 2, 3, 7, 8])
 (.block 0
  (.loop [1, 2, 3, 7, 8] ir_ref02_count_L0)))
 (.seq (.region [⟨(some 43), none, .mov (.t 7)⟩,
   ⟨(some 6), none, .asg (.t 43)⟩] none [6])
 .ret)))))⟩
def ir_law04_plain_L0 : ACode :=
 (.seq (.seq (.region [⟨(some 14), none, .mov (.t 3)⟩,
   ⟨(some 15), none, .fld 4 (.t 1)⟩,
   ⟨(some 16), none, .load none (.t 15)⟩,
   ⟨(some 17), none, .len 0 (.t 16)⟩,
   ⟨(some 18), none, .bin .lss (.t 14) (.t 17)⟩] none [1, 3, 18])
 (.cond (.t 18)
  .skip
  (.exit 0)))
 (.seq (.block 1
  (.seq (.region [⟨(some 21), none, .fld 4 (.t 1)⟩,
    ⟨(some 22), none, .load none (.t 21)⟩,
    ⟨(some 23), none, .mov (.t 3)⟩,
    ⟨(some 24), none, .idx 5 (.t 22) (.t 23)⟩,
    ⟨(some 25), none, .load (some 5) (.t 24)⟩,
    ⟨(some 26), none, .call (.c (.fn (.func F_law04_plain) [] [])) [(.t 25)]⟩,
    ⟨(some 27), none, .un .not (.t 26)⟩] none [1, 3, 27])
  (.cond (.t 27)
   (.seq (.region [⟨(some 2), none, .asg (.c (.b false))⟩] none [2])
   .ret)
   .skip)))
 (.region [⟨(some 19), none, .mov (.t 3)⟩,
   ⟨(some 20), none, .bin .add (.t 19) (.c (.i .i64 1))⟩,
   ⟨(some 3), none, .asg (.t 20)⟩] none [1, 3])))
def ir_law04_plain : AFun := ⟨1, [.tmp 2], true, false,
 (.seq (.region [⟨(some 1), none, .lbox (.t 0)⟩,
   ⟨(some 2), none, .asg (.c (.b false))⟩] none [1])
 (.seq (.seq (.region [⟨(some 4), none, .fld 1 (.t 1)⟩,
   ⟨(some 5), none, .load none (.t 4)⟩,
   ⟨(some 6), none, .len 1 (.t 5)⟩,
   ⟨(some 7), none, .bin .gtr (.t 6) (.c (.i .i64 0))⟩,
   ⟨(some 8), none, .mov (.t 7)⟩,
   ⟨(some 9), some (8, true), .fld 1 (.t 1)⟩,
   ⟨(some 10), some (8, true), .load none (.t 9)⟩,
   ⟨(some 11), some (8, true), .idxs (.t 10) (.c (.i .i64 0))⟩,
   ⟨(some 12), some (8, true), .bin .eql (.t 11) (.c (.i .u8 95))⟩,
   ⟨(some 13), none, .pick (.t 8) (.t 12) (.c (.b false))⟩] none [1, 13])
 (.cond (.t 13)
  (.seq (.region [⟨(some 2), none, .asg (.c (.b false))⟩] none [2])
  .ret)
  .skip))
 (.seq (.seq (.region [⟨(some 3), none, .asg (.c (.i .i64 0))⟩] none [1, 3])
 (.block 0
  (.loop [1, 3] ir_law04_plain_L0)))
 (.seq (.region [⟨(some 2), none, .asg (.c (.b true))⟩] none [2])
 .ret))))⟩
def ir_terms_Tidy : AFun := ⟨1, [.cell 2 (some 5), .tmp 3], true, false,
 (.seq (.region [⟨(some 1), none, .lbox (.t 0)⟩,
   ⟨(some 2), none, .lalloc [(.i .i64 0), (.s []), (.i .i64 0), (.i .i64 0), .ns]⟩,
   ⟨(some 3), none, .asg (.c (.i .i64 0))⟩] none [1, 2])
 (.seq (.seq (.region [⟨(some 5), none, .load (some 5) (.t 1)⟩,
   ⟨(some 6), none, .call (.c (.fn (.func F_terms_CheckConcept) [] [])) [(.t 5)]⟩,
   ⟨(some 4), none, .asg (.t 6)⟩] none [1, 2, 4])
 (.seq (.region [⟨(some 7), none, .mov (.t 4)⟩,
   ⟨(some 8), none, .bin .neq (.t 7) (.c (.i .i64 0))⟩] none [1, 2, 4, 8])
 (.cond (.t 8)
  (.seq (.region [⟨(some 9), none, .build [(.i .i64 0), (.s []), (.i .i64 0), (.i .i64 0), .ns] []⟩,
    ⟨(some 10), none, .mov (.t 4)⟩,
    ⟨none, none, .store 5 (.t 2) (.t 9)⟩,
    ⟨(some 3), none, .asg (.t 10)⟩] none [2, 3])
  .ret)
  .skip)))
 (.seq (.region [⟨(some 11), none, .load (some 5) (.t 1)⟩,
   ⟨(some 12), none, .call (.c (.fn (.func F_terms_tidy) [] [])) [(.t 11)]⟩,
   ⟨(some 13), none, .ext (.t 12) 0⟩,
   ⟨(some 14), none, .ext (.t 12) 1⟩,
   ⟨none, none, .store 5 (.t 2) (.t 13)⟩,
   ⟨(some 3), none, .asg (.t 14)⟩] none [2, 3])
 .ret)))⟩
def ir_terms_tidy : AFun := ⟨1, [.cell 2 (some 5), .tmp 3], true, false,
 (.seq (.region [⟨(some 1), none, .lbox (.t 0)⟩,
   ⟨(some 2), none, .lalloc [(.i .i64 0), (.s []), (.i .i64 0), (.i .i64 0), .ns]⟩,
   ⟨(some 3), none, .asg (.c (.i .i64 0))⟩] none [1, 2])
 (.seq (.seq (.region [⟨(some 6), none, .fld 0 (.t 1)⟩,
   ⟨(some 7), none, .load none (.t 6)⟩] none [1, 2, 7])
 (.block 0
  (.seq (.region [⟨(some 9), none, .bin .eql (.t 7) (.c (.i .i64 6))⟩,
    ⟨(some 8), none, .asg (.t 9)⟩] none [1, 2, 7, 8])
  (.cond (.t 8)
   (.seq (.region [⟨(some 11), none, .fld 4 (.t 1)⟩,
     ⟨(some 12), none, .load none (.t 11)⟩,
     ⟨(some 13), none, .idx 5 (.t 12) (.c (.i .i64 0))⟩,
     ⟨(some 14), none, .load (some 5) (.t 13)⟩,
     ⟨(some 15), none, .call (.c (.fn (.func F_terms_tidy) [] [])) [(.t 14)]⟩,
     ⟨(some 10), none, .mov (.t 15)⟩,
     ⟨(some 16), none, .ext (.t 10) 0⟩,
     ⟨(some 17), none, .ext (.t 10) 1⟩,
     ⟨(some 4), none, .lalloc [(.i .i64 0), (.s []), (.i .i64 0), (.i .i64 0), .ns]⟩,
     ⟨none, none, .store 5 (.t 4) (.t 16)⟩,
     ⟨(some 5), none, .asg (.t 17)⟩] none [1, 2, 4, 5])
   (.seq (.seq (.region [⟨(some 18), none, .mov (.t 5)⟩,
     ⟨(some 19), none, .bin .neq (.t 18) (.c (.i .i64 0))⟩,
     ⟨(some 20), none, .mov (.t 19)⟩,
     ⟨(some 21), some (20, false), .fld 0 (.t 4)⟩,
     ⟨(some 22), some (20, false), .load none (.t 21)⟩,
     ⟨(some 23), some (20, false), .bin .eql (.t 22) (.c (.i .i64 2))⟩,
     ⟨(some 24), none, .pick (.t 20) (.c (.b true)) (.t 23)⟩] none [1, 2, 4, 5, 24])
   (.cond (.t 24)
    (.seq (.region [⟨(some 25), none, .load (some 5) (.t 4)⟩,
      ⟨(some 26), none, .mov (.t 5)⟩,
      ⟨none, none, .store 5 (.t 2) (.t 25)⟩,
      ⟨(some 3), none, .asg (.t 26)⟩] none [2, 3])
    .ret)
    .skip))
   (.seq (.region [⟨(some 27), none, .fld 1 (.t 1)⟩,
     ⟨(some 28), none, .load none (.t 27)⟩,
     ⟨(some 29), none, .load (some 5) (.t 4)⟩,
     ⟨(some 30), none, .bsl false T_api_Concept_1 5 1 [(.i .i64 0), (.s []), (.i .i64 0), (.i .i64 0), .ns] [(0, (.t 29))]⟩,
     ⟨(some 31), none, .build [(.i .i64 0), (.s []), (.i .i64 0), (.i .i64 0), .ns] [(0, 1, (.c (.i .i64 6))), (1, 1, (.t 28)), (4, 1, (.t 30))]⟩,
     ⟨none, none, .store 5 (.t 2) (.t 31)⟩,
     ⟨(some 3), none, .asg (.c (.i .i64 0))⟩] none [2, 3])
   .ret)))
   (.seq (.region [⟨(some 33), none, .bin .eql (.t 7) (.c (.i .i64 5))⟩,
     ⟨(some 32), none, .asg (.t 33)⟩] none [1, 2, 32])
   (.cond (.t 32)
    (.seq (.region [⟨(some 34), none, .fld 4 (.t 1)⟩,
      ⟨(some 35), none, .load none (.t 34)⟩,
      ⟨(some 36), none, .call (.c (.fn (.func F_terms_meet) [] [])) [(.t 35)]⟩,
      ⟨(some 37), none, .ext (.t 36) 0⟩,
      ⟨(some 38), none, .ext (.t 36) 1⟩,
      ⟨none, none, .store 5 (.t 2) (.t 37)⟩,
      ⟨(some 3), none, .asg (.t 38)⟩] none [2, 3])
    .ret)
    .skip))))))
 (.seq (.region [⟨(some 39), none, .load (some 5) (.t 1)⟩,
   ⟨none, none, .store 5 (.t 2) (.t 39)⟩,
   ⟨(some 3), none, .asg (.c (.i .i64 0))⟩] none [2, 3])
 .ret)))⟩
def ir_terms_meet_L1 : ACode :=
 (.seq (.region [⟨(some 45), none, .bin .lss (.t 44) (.t 43)⟩] none [2, 4, 15, 16, 17, 42, 43, 44, 45])
 (.seq (.cond (.t 45)
  .skip
  (.exit 3))
 (.seq (.block 4
  (.seq (.region [⟨(some 46), none, .idx 5 (.t 42) (.t 44)⟩,
    ⟨(some 47), none, .load (some 5) (.t 46)⟩,
    ⟨(some 10), none, .lalloc [(.i .i64 0), (.s []), (.i .i64 0), (.i .i64 0), .ns]⟩,
    ⟨none, none, .store 5 (.t 10) (.t 47)⟩] none [2, 4, 10, 15, 16, 17, 42, 43, 44])
  (.region [⟨(some 48), none, .mov (.t 4)⟩,
    ⟨(some 49), none, .load (some 5) (.t 10)⟩,
    ⟨(some 50), none, .call (.c (.fn (.func F_terms_grow) [] [])) [(.t 49)]⟩,
    ⟨(some 51), none, .bsl false T_terms_tree_1 7 1 [(.i .i64 0), (.s []), (.i .i64 0), (.i .i64 0), .ns, (.i .i64 0), .ns] [(0, (.t 50))]⟩,
    ⟨(some 52), none, .appk T_terms_tree_1 7 (.t 48) (.t 51)⟩,
    ⟨(some 4), none, .asg (.t 52)⟩] none [2, 4, 15, 16, 17, 42, 43, 44])))
 (.region [⟨(some 53), none, .bin .add (.t 44) (.c (.i .i64 1))⟩,
   ⟨(some 44), none, .mov (.t 53)⟩] none [2, 4, 15, 16, 17, 42, 43, 44]))))
def ir_terms_meet_L0 : ACode :=
 (.seq (.region [⟨(some 18), none, .bin .lss (.t 17) (.t 16)⟩] none [2, 4, 15, 16, 17, 18])
 (.seq (.cond (.t 18)
  .skip
  (.exit 0))
 (.seq (.block 1
  (.seq (.region [⟨(some 19), none, .idx 5 (.t 15) (.t 17)⟩,
    ⟨(some 20), none, .load (some 5) (.t 19)⟩,
    ⟨(some 6), none, .lalloc [(.i .i64 0), (.s []), (.i .i64 0), (.i .i64 0), .ns]⟩,
    ⟨none, none, .store 5 (.t 6) (.t 20)⟩] none [2, 4, 6, 15, 16, 17])
  (.seq (.region [⟨(some 22), none, .load (some 5) (.t 6)⟩,
    ⟨(some 23), none, .call (.c (.fn (.func F_terms_tidy) [] [])) [(.t 22)]⟩,
    ⟨(some 21), none, .mov (.t 23)⟩,
    ⟨(some 24), none, .ext (.t 21) 0⟩,
    ⟨(some 25), none, .ext (.t 21) 1⟩,
    ⟨(some 7), none, .lalloc [(.i .i64 0), (.s []), (.i .i64 0), (.i .i64 0), .ns]⟩,
    ⟨none, none, .store 5 (.t 7) (.t 24)⟩,
    ⟨(some 8), none, .asg (.t 25)⟩] none [2, 4, 7, 8, 15, 16, 17])
  (.seq (.seq (.region [⟨(some 26), none, .mov (.t 8)⟩,
    ⟨(some 27), none, .bin .neq (.t 26) (.c (.i .i64 0))⟩] none [2, 4, 7, 8, 15, 16, 17, 27])
  (.cond (.t 27)
   (.seq (.region [⟨(some 28), none, .build [(.i .i64 0), (.s []), (.i .i64 0), (.i .i64 0), .ns] []⟩,
     ⟨(some 29), none, .mov (.t 8)⟩,
     ⟨none, none, .store 5 (.t 2) (.t 28)⟩,
     ⟨(some 3), none, .asg (.t 29)⟩] none [2, 3])
   .ret)
   .skip))
  (.seq (.region [⟨(some 30), none, .fld 0 (.t 7)⟩,
    ⟨(some 31), none, .load none (.t 30)⟩] none [2, 4, 7, 15, 16, 17, 31])
  (.block 2
   (.seq (.region [⟨(some 38), none, .bin .eql (.t 31) (.c (.i .i64 1))⟩,
     ⟨(some 37), none, .asg (.t 38)⟩] none [2, 4, 7, 15, 16, 17, 31, 37])
   (.cond (.t 37)
    .skip
    (.seq (.region [⟨(some 40), none, .bin .eql (.t 31) (.c (.i .i64 5))⟩,
      ⟨(some 39), none, .asg (.t 40)⟩] none [2, 4, 7, 15, 16, 17, 39])
    (.cond (.t 39)
     (.seq (.region [⟨(some 41), none, .fld 4 (.t 7)⟩,
       ⟨(some 42), none, .load none (.t 41)⟩,
       ⟨(some 43), none, .len 0 (.t 42)⟩,
       ⟨(some 44), none, .mov (.c (.i .i64 0))⟩] none [2, 4, 15, 16, 17, 42, 43, 44])
     (.block 3
      (.loop [2, 4, 15, 16, 17, 42, 43, 44] ir_terms_meet_L1)))
     (.region [⟨(some 32), none, .mov (.t 4)⟩,
       ⟨(some 33), none, .load (some 5) (.t 7)⟩,
       ⟨(some 34), none, .call (.c (.fn (.func F_terms_grow) [] [])) [(.t 33)]⟩,
       ⟨(some 35), none, .bsl false T_terms_tree_1 7 1 [(.i .i64 0), (.s []), (.i .i64 0), (.i .i64 0), .ns, (.i .i64 0), .ns] [(0, (.t 34))]⟩,
       ⟨(some 36), none, .appk T_terms_tree_1 7 (.t 32) (.t 35)⟩,
       ⟨(some 4), none, .asg (.t 36)⟩] none [2, 4, 15, 16, 17])))))))))))
 (.region [⟨(some 54), none, .bin .add (.t 17) (.c (.i .i64 1))⟩,
   ⟨(some 17), none, .mov (.t 54)⟩] none [2, 4, 15, 16, 17]))))
def ir_terms_meet_L2 : ACode :=
 (.seq (.region [⟨(some 62), none, .bin .lss (.t 61) (.t 60)⟩] none [2, 4, 59, 60, 61, 62])
 (.seq (.cond (.t 62)
  .skip
  (.exit 5))
 (.seq (.block 6
  (.seq (.region [⟨(some 63), none, .idx 7 (.t 59) (.t 61)⟩,
    ⟨(some 64), none, .load (some 7) (.t 63)⟩,
    ⟨(some 12), none, .lalloc [(.i .i64 0), (.s []), (.i .i64 0), (.i .i64 0), .ns, (.i .i64 0), .ns]⟩,
    ⟨none, none, .store 7 (.t 12) (.t 64)⟩] none [2, 4, 12, 59, 60, 61])
  (.seq (.region [⟨(some 65), none, .fld 0 (.t 12)⟩,
    ⟨(some 66), none, .fld 0 (.t 65)⟩,
    ⟨(some 67), none, .load none (.t 66)⟩,
    ⟨(some 68), none, .bin .eql (.t 67) (.c (.i .i64 2))⟩] none [2, 4, 12, 59, 60, 61, 68])
  (.cond (.t 68)
   (.seq (.region [⟨(some 69), none, .fld 0 (.t 12)⟩,
     ⟨(some 70), none, .load (some 5) (.t 69)⟩,
     ⟨none, none, .store 5 (.t 2) (.t 70)⟩,
     ⟨(some 3), none, .asg (.c (.i .i64 0))⟩] none [2, 3])
   .ret)
   .skip))))
 (.region [⟨(some 71), none, .bin .add (.t 61) (.c (.i .i64 1))⟩,
   ⟨(some 61), none, .mov (.t 71)⟩] none [2, 4, 59, 60, 61]))))
def ir_terms_meet_L3 : ACode :=
 (.seq (.region [⟨(some 94), none, .bin .lss (.t 93) (.t 92)⟩] none [2, 91, 92, 93, 94])
 (.seq (.cond (.t 94)
  .skip
  (.exit 8))
 (.seq (.block 9
  (.seq (.region [⟨(some 95), none, .idx 7 (.t 91) (.t 93)⟩,
    ⟨(some 96), none, .load (some 7) (.t 95)⟩,
    ⟨(some 14), none, .lalloc [(.i .i64 0), (.s []), (.i .i64 0), (.i .i64 0), .ns, (.i .i64 0), .ns]⟩,
    ⟨none, none, .store 7 (.t 14) (.t 96)⟩] none [2, 14, 91, 92, 93])
  (.region [⟨(some 97), none, .fld 4 (.t 2)⟩,
    ⟨(some 98), none, .load none (.t 97)⟩,
    ⟨(some 99), none, .fld 0 (.t 14)⟩,
    ⟨(some 100), none, .load (some 5) (.t 99)⟩,
    ⟨(some 101), none, .bsl false T_api_Concept_1 5 1 [(.i .i64 0), (.s []), (.i .i64 0), (.i .i64 0), .ns] [(0, (.t 100))]⟩,
    ⟨(some 102), none, .appk T_api_Concept_1 5 (.t 98) (.t 101)⟩,
    ⟨(some 103), none, .fld 4 (.t 2)⟩,
    ⟨none, none, .store 1 (.t 103) (.t 102)⟩] none [2, 91, 92, 93])))
 (.region [⟨(some 104), none, .bin .add (.t 93) (.c (.i .i64 1))⟩,
   ⟨(some 93), none, .mov (.t 104)⟩] none [2, 91, 92, 93]))))
def ir_terms_meet : AFun := ⟨1, [.cell 2 (some 5), .tmp 3], false, false,
 (.seq (.region [⟨(some 2), none, .lalloc [(.i .i64 0), (.s []), (.i .i64 0), (.i .i64 0), .ns]⟩,
   ⟨(some 3), none, .asg (.c (.i .i64 0))⟩] none [0, 2])
 (.seq (.region [⟨(some 4), none, .asg (.c .ns)⟩] none [0, 2, 4])
 (.seq (.seq (.region [⟨(some 15), none, .mov (.t 0)⟩,
   ⟨(some 16), none, .len 0 (.t 15)⟩,
   ⟨(some 17), none, .mov (.c (.i .i64 0))⟩] none [2, 4, 15, 16, 17])
 (.block 0
  (.loop [2, 4, 15, 16, 17] ir_terms_meet_L0)))
 (.seq (.region [⟨(some 55), none, .mov (.t 4)⟩,
   ⟨(some 56), none, .call (.c (.fn (.func F_slices_SortFunc_terms_tree_terms_tree) [] [])) [(.t 55), (.c (.fn (.func F_terms_tree_compare) [] []))]⟩] none [2, 4])
 (.seq (.region [⟨(some 57), none, .mov (.t 4)⟩,
   ⟨(some 58), none, .call (.c (.fn (.func F_slices_CompactFunc_terms_tree_terms_tree) [] [])) [(.t 57), (.c (.fn (.func F_terms_meet_1) [] []))]⟩,
   ⟨(some 4), none, .asg (.t 58)⟩] none [2, 4])
 (.seq (.seq (.region [⟨(some 59), none, .mov (.t 4)⟩,
   ⟨(some 60), none, .len 0 (.t 59)⟩,
   ⟨(some 61), none, .mov (.c (.i .i64 0))⟩] none [2, 4, 59, 60, 61])
 (.block 5
  (.loop [2, 4, 59, 60, 61] ir_terms_meet_L2)))
 (.seq (.block 7
  (.seq (.region [⟨(some 73), none, .mov (.t 4)⟩,
    ⟨(some 74), none, .len 0 (.t 73)⟩,
    ⟨(some 75), none, .bin .eql (.t 74) (.c (.i .i64 0))⟩,
    ⟨(some 72), none, .asg (.t 75)⟩] none [2, 4, 72])
  (.cond (.t 72)
   (.seq (.region [⟨(some 76), none, .build [(.i .i64 0), (.s []), (.i .i64 0), (.i .i64 0), .ns] [(0, 1, (.c (.i .i64 1)))]⟩,
     ⟨none, none, .store 5 (.t 2) (.t 76)⟩,
     ⟨(some 3), none, .asg (.c (.i .i64 0))⟩] none [2, 3])
   .ret)
   (.seq (.region [⟨(some 78), none, .mov (.t 4)⟩,
     ⟨(some 79), none, .len 0 (.t 78)⟩,
     ⟨(some 80), none, .bin .eql (.t 79) (.c (.i .i64 1))⟩,
     ⟨(some 77), none, .asg (.t 80)⟩] none [2, 4, 77])
   (.cond (.t 77)
    (.seq (.region [⟨(some 81), none, .mov (.t 4)⟩,
      ⟨(some 82), none, .idx 7 (.t 81) (.c (.i .i64 0))⟩,
      ⟨(some 83), none, .fld 0 (.t 82)⟩,
      ⟨(some 84), none, .load (some 5) (.t 83)⟩,
      ⟨none, none, .store 5 (.t 2) (.t 84)⟩,
      ⟨(some 3), none, .asg (.c (.i .i64 0))⟩] none [2, 3])
    .ret)
    (.seq (.region [⟨(some 86), none, .mov (.t 4)⟩,
      ⟨(some 87), none, .len 0 (.t 86)⟩,
      ⟨(some 88), none, .bin .gtr (.t 87) (.c (.i .i64 8))⟩,
      ⟨(some 85), none, .asg (.t 88)⟩] none [2, 4, 85])
    (.cond (.t 85)
     (.seq (.region [⟨(some 89), none, .build [(.i .i64 0), (.s []), (.i .i64 0), (.i .i64 0), .ns] []⟩,
       ⟨none, none, .store 5 (.t 2) (.t 89)⟩,
       ⟨(some 3), none, .asg (.c (.i .i64 2))⟩] none [2, 3])
     .ret)
     .skip)))))))
 (.seq (.region [⟨(some 90), none, .fld 0 (.t 2)⟩,
   ⟨none, none, .store 1 (.t 90) (.c (.i .i64 5))⟩] none [2, 4])
 (.seq (.seq (.region [⟨(some 91), none, .mov (.t 4)⟩,
   ⟨(some 92), none, .len 0 (.t 91)⟩,
   ⟨(some 93), none, .mov (.c (.i .i64 0))⟩] none [2, 91, 92, 93])
 (.block 8
  (.loop [2, 91, 92, 93] ir_terms_meet_L3)))
 (.seq (.region [⟨(some 105), none, .load (some 5) (.t 2)⟩,
   ⟨none, none, .store 5 (.t 2) (.t 105)⟩,
   ⟨(some 3), none, .asg (.c (.i .i64 0))⟩] none [2, 3])
 .ret))))))))))⟩
def ir_terms_grow_L0 : ACode :=
 (.seq (.region [⟨(some 12), none, .bin .lss (.t 11) (.t 10)⟩] none [2, 9, 10, 11, 12])
 (.seq (.cond (.t 12)
  .skip
  (.exit 0))
 (.seq (.block 1
  (.seq (.region [⟨(some 13), none, .idx 5 (.t 9) (.t 11)⟩,
    ⟨(some 14), none, .load (some 5) (.t 13)⟩,
    ⟨(some 4), none, .lalloc [(.i .i64 0), (.s []), (.i .i64 0), (.i .i64 0), .ns]⟩,
    ⟨none, none, .store 5 (.t 4) (.t 14)⟩] none [2, 4, 9, 10, 11])
  (.seq (.region [⟨(some 15), none, .load (some 5) (.t 4)⟩,
    ⟨(some 16), none, .call (.c (.fn (.func F_terms_grow) [] [])) [(.t 15)]⟩,
    ⟨(some 5), none, .lalloc [(.i .i64 0), (.s []), (.i .i64 0), (.i .i64 0), .ns, (.i .i64 0), .ns]⟩,
    ⟨none, none, .store 7 (.t 5) (.t 16)⟩] none [2, 5, 9, 10, 11])
  (.seq (.region [⟨(some 17), none, .fld 5 (.t 2)⟩,
    ⟨(some 18), none, .load none (.t 17)⟩,
    ⟨(some 19), none, .fld 5 (.t 5)⟩,
    ⟨(some 20), none, .load none (.t 19)⟩,
    ⟨(some 21), none, .bin .add (.t 18) (.t 20)⟩,
    ⟨(some 22), none, .fld 5 (.t 2)⟩,
    ⟨none, none, .store 1 (.t 22) (.t 21)⟩] none [2, 5, 9, 10, 11])
  (.region [⟨(some 23), none, .fld 6 (.t 2)⟩,
    ⟨(some 24), none, .load none (.t 23)⟩,
    ⟨(some 25), none, .load (some 7) (.t 5)⟩,
    ⟨(some 26), none, .bsl false T_terms_tree_1 7 1 [(.i .i64 0), (.s []), (.i .i64 0), (.i .i64 0), .ns, (.i .i64 0), .ns] [(0, (.t 25))]⟩,
    ⟨(some 27), none, .appr T_terms_tree_1 7 (.t 24) (.t 26)⟩,
    ⟨(some 28), none, .fld 6 (.t 2)⟩,
    ⟨none, none, .store 1 (.t 28) (.t 27)⟩] none [2, 9, 10, 11])))))
 (.region [⟨(some 29), none, .bin .add (.t 11) (.c (.i .i64 1))⟩,
   ⟨(some 11), none, .mov (.t 29)⟩] none [2, 9, 10, 11]))))
def ir_terms_grow : AFun := ⟨1, [.cell 2 (some 7)], true, false,
 (.seq (.region [⟨(some 1), none, .lbox (.t 0)⟩,
   ⟨(some 2), none, .lalloc [(.i .i64 0), (.s []), (.i .i64 0), (.i .i64 0), .ns, (.i .i64 0), .ns]⟩] none [1, 2])
 (.seq (.region [⟨(some 6), none, .load (some 5) (.t 1)⟩,
   ⟨(some 7), none, .build [(.i .i64 0), (.s []), (.i .i64 0), (.i .i64 0), .ns, (.i .i64 0), .ns] [(0, 5, (.t 6)), (5, 1, (.c (.i .i64 1)))]⟩,
   ⟨none, none, .store 7 (.t 2) (.t 7)⟩] none [1, 2])
 (.seq (.seq (.region [⟨(some 8), none, .fld 4 (.t 1)⟩,
   ⟨(some 9), none, .load none (.t 8)⟩,
   ⟨(some 10), none, .len 0 (.t 9)⟩,
   ⟨(some 11), none, .mov (.c (.i .i64 0))⟩] none [2, 9, 10, 11])
 (.block 0
  (.loop [2, 9, 10, 11] ir_terms_grow_L0)))
 (.seq (.region [⟨(some 30), none, .load (some 7) (.t 2)⟩,
   ⟨none, none, .store 7 (.t 2) (.t 30)⟩] none [2])
 .ret))))⟩
def ir_terms_tree_compare : AFun := ⟨2, [.tmp 4], true, false,
 (.seq (.region [⟨(some 2), none, .lbox (.t 0)⟩,
   ⟨(some 3), none, .lbox (.t 1)⟩,
   ⟨(some 4), none, .asg (.c (.i .i64 0))⟩] none [2, 3])
 (.seq (.region [⟨(some 6), none, .fld 5 (.t 2)⟩,
   ⟨(some 7), none, .load none (.t 6)⟩,
   ⟨(some 8), none, .fld 5 (.t 3)⟩,
   ⟨(some 9), none, .load none (.t 8)⟩,
   ⟨(some 10), none, .call (.c (.fn (.func F_cmp_Compare_int) [] [])) [(.t 7), (.t 9)]⟩,
   ⟨(some 11), none, .fld 0 (.t 2)⟩,
   ⟨(some 12), none, .fld 0 (.t 11)⟩,
   ⟨(some 13), none, .load none (.t 12)⟩,
   ⟨(some 14), none, .fld 0 (.t 3)⟩,
   ⟨(some 15), none, .fld 0 (.t 14)⟩,
   ⟨(some 16), none, .load none (.t 15)⟩,
   ⟨(some 17), none, .call (.c (.fn (.func F_cmp_Compare_int) [] [])) [(.t 13), (.t 16)]⟩,
   ⟨(some 18), none, .fld 0 (.t 2)⟩,
   ⟨(some 19), none, .fld 1 (.t 18)⟩,
   ⟨(some 20), none, .load none (.t 19)⟩,
   ⟨(some 21), none, .fld 0 (.t 3)⟩,
   ⟨(some 22), none, .fld 1 (.t 21)⟩,
   ⟨(some 23), none, .load none (.t 22)⟩,
   ⟨(some 24), none, .call (.c (.fn (.func F_strings_Compare) [] [])) [(.t 20), (.t 23)]⟩,
   ⟨(some 25), none, .fld 0 (.t 2)⟩,
   ⟨(some 26), none, .fld 2 (.t 25)⟩,
   ⟨(some 27), none, .load none (.t 26)⟩,
   ⟨(some 28), none, .fld 0 (.t 3)⟩,
   ⟨(some 29), none, .fld 2 (.t 28)⟩,
   ⟨(some 30), none, .load none (.t 29)⟩,
   ⟨(some 31), none, .call (.c (.fn (.func F_cmp_Compare_int) [] [])) [(.t 27), (.t 30)]⟩,
   ⟨(some 32), none, .fld 0 (.t 2)⟩,
   ⟨(some 33), none, .fld 3 (.t 32)⟩,
   ⟨(some 34), none, .load none (.t 33)⟩,
   ⟨(some 35), none, .fld 0 (.t 3)⟩,
   ⟨(some 36), none, .fld 3 (.t 35)⟩,
   ⟨(some 37), none, .load none (.t 36)⟩,
   ⟨(some 38), none, .call (.c (.fn (.func F_cmp_Compare_int) [] [])) [(.t 34), (.t 37)]⟩,
   ⟨(some 39), none, .bsl false T_int_0 1 5 [(.i .i64 0)] [(0, (.t 10)), (1, (.t 17)), (2, (.t 24)), (3, (.t 31)), (4, (.t 38))]⟩,
   ⟨(some 40), none, .call (.c (.fn (.func F_cmp_Or_int) [] [])) [(.t 39)]⟩,
   ⟨(some 5), none, .asg (.t 40)⟩] (some ([0, 1, 2, 3, 4, 5, 6, 7, 8, 9, 10, 11, 12, 13, 14, 15, 16, 17, 18, 19, 20, 21, 22, 23, 24, 25, 26, 27, 28, 29, 30, 31, 32, 33, 34, 35], [])) [2, 3, 5])
 (.seq (.seq (.region [⟨(some 41), none, .mov (.t 5)⟩,
   ⟨(some 42), none, .bin .neq (.t 41) (.c (.i .i64 0))⟩] none [2, 3, 5, 42])
 (.cond (.t 42)
  (.seq (.region [⟨(some 43), none, .mov (.t 5)⟩,
    ⟨(some 4), none, .asg (.t 43)⟩] none [4])
  .ret)
  .skip))
 (.seq (.region [⟨(some 44), none, .fld 6 (.t 2)⟩,
   ⟨(some 45), none, .load none (.t 44)⟩,
   ⟨(some 46), none, .fld 6 (.t 3)⟩,
   ⟨(some 47), none, .load none (.t 46)⟩,
   ⟨(some 48), none, .call (.c (.fn (.func F_slices_CompareFunc_terms_tree_terms_tree_terms_tree_terms_tree) [] [])) [(.t 45), (.t 47), (.c (.fn (.func F_terms_tree_compare) [] []))]⟩,
   ⟨(some 4), none, .asg (.t 48)⟩] none [4])
 .ret))))⟩
def ir_cmp_Compare_int : AFun := ⟨2, [.tmp 4], true, false,
 (.seq (.region [⟨(some 4), none, .asg (.c (.i .i64 0))⟩] none [0, 1])
 (.seq (.region [⟨(some 7), none, .mov (.t 0)⟩,
   ⟨(some 8), none, .call (.c (.fn (.func F_cmp_isNaN_int) [] [])) [(.t 7)]⟩,
   ⟨(some 5), none, .asg (.t 8)⟩] none [0, 1, 5])
 (.seq (.region [⟨(some 9), none, .mov (.t 1)⟩,
   ⟨(some 10), none, .call (.c (.fn (.func F_cmp_isNaN_int) [] [])) [(.t 9)]⟩,
   ⟨(some 6), none, .asg (.t 10)⟩] none [0, 1, 5, 6])
 (.seq (.seq (.region [⟨(some 11), none, .mov (.t 5)⟩] none [0, 1, 6, 11])
 (.cond (.t 11)
  (.seq (.seq (.region [⟨(some 12), none, .mov (.t 6)⟩] none [12])
  (.cond (.t 12)
   (.seq (.region [⟨(some 4), none, .asg (.c (.i .i64 0))⟩] none [4])
   .ret)
   .skip))
  (.seq (.region [⟨(some 4), none, .asg (.c (.i .i64 (-1)))⟩] none [4])
  .ret))
  .skip))
 (.seq (.seq (.region [⟨(some 13), none, .mov (.t 6)⟩] none [0, 1, 13])
 (.cond (.t 13)
  (.seq (.region [⟨(some 4), none, .asg (.c (.i .i64 1))⟩] none [4])
  .ret)
  .skip))
 (.seq (.seq (.region [⟨(some 14), none, .mov (.t 0)⟩,
   ⟨(some 15), none, .mov (.t 1)⟩,
   ⟨(some 16), none, .bin .lss (.t 14) (.t 15)⟩] none [0, 1, 16])
 (.cond (.t 16)
  (.seq (.region [⟨(some 4), none, .asg (.c (.i .i64 (-1)))⟩] none [4])
  .ret)
  .skip))
 (.seq (.seq (.region [⟨(some 17), none, .mov (.t 0)⟩,
   ⟨(some 18), none, .mov (.t 1)⟩,
   ⟨(some 19), none, .bin .gtr (.t 17) (.t 18)⟩] none [19])
 (.cond (.t 19)
  (.seq (.region [⟨(some 4), none, .asg (.c (.i .i64 1))⟩] none [4])
  .ret)
  .skip))
 (.seq (.region [⟨(some 4), none, .asg (.c (.i .i64 0))⟩] none [4])
 .ret))))))))⟩
def ir_cmp_isNaN_int : AFun := ⟨1, [.tmp 2], true, false,
 (.seq (.region [⟨(some 2), none, .asg (.c (.b false))⟩] none [0])
 (.seq (.region [⟨(some 3), none, .mov (.t 0)⟩,
   ⟨(some 4), none, .mov (.t 0)⟩,
   ⟨(some 5), none, .bin .neq (.t 3) (.t 4)⟩,
   ⟨(some 2), none, .asg (.t 5)⟩] none [2])
 .ret))⟩
def ir_cmp_Or_int_L0 : ACode :=
 (.seq (.region [⟨(some 9), none, .bin .lss (.t 8) (.t 7)⟩] none [3, 6, 7, 8, 9])
 (.seq (.cond (.t 9)
  .skip
  (.exit 0))
 (.seq (.block 1
  (.seq (.region [⟨(some 10), none, .idx 1 (.t 6) (.t 8)⟩,
    ⟨(some 11), none, .load none (.t 10)⟩,
    ⟨(some 5), none, .asg (.t 11)⟩] none [3, 5, 6, 7, 8])
  (.seq (.region [⟨(some 12), none, .mov (.t 5)⟩,
    ⟨(some 13), none, .mov (.t 3)⟩,
    ⟨(some 14), none, .bin .neq (.t 12) (.t 13)⟩] none [3, 5, 6, 7, 8, 14])
  (.cond (.t 14)
   (.seq (.region [⟨(some 15), none, .mov (.t 5)⟩,
     ⟨(some 2), none, .asg (.t 15)⟩] none [2])
   .ret)
   .skip))))
 (.region [⟨(some 16), none, .bin .add (.t 8) (.c (.i .i64 1))⟩,
   ⟨(some 8), none, .mov (.t 16)⟩] none [3, 6, 7, 8]))))
def ir_cmp_Or_int : AFun := ⟨1, [.tmp 2], true, false,
 (.seq (.region [⟨(some 2), none, .asg (.c (.i .i64 0))⟩] none [0])
 (.seq (.region [⟨(some 3), none, .asg (.c (.i .i64 0))⟩] none [0, 3])
 (.seq (.seq (.region [⟨(some 6), none, .mov (.t 0)⟩,
   ⟨(some 7), none, .len 0 (.t 6)⟩,
   ⟨(some 8), none, .mov (.c (.i .i64 0))⟩] none [3, 6, 7, 8])
 (.block 0
  (.loop [3, 6, 7, 8] ir_cmp_Or_int_L0)))
 (.seq (.region [⟨(some 17), none, .mov (.t 3)⟩,
   ⟨(some 2), none, .asg (.t 17)⟩] none [2])
 .ret))))⟩
def ir_slices_CompareFunc_terms_tree_terms_tree_terms_tree_terms_tree_L0 : ACode :=
 (.seq (.region [⟨(some 14), none, .bin .lss (.t 13) (.t 12)⟩] none [0, 1, 2, 11, 12, 13, 14])
 (.seq (.cond (.t 14)
  .skip
  (.exit 0))
 (.seq (.block 1
  (.seq (.region [⟨(some 15), none, .mov (.t 13)⟩,
    ⟨(some 16), none, .idx 7 (.t 11) (.t 13)⟩,
    ⟨(some 17), none, .load (some 7) (.t 16)⟩,
    ⟨(some 8), none, .lalloc [(.i .i64 0), (.s []), (.i .i64 0), (.i .i64 0), .ns, (.i .i64 0), .ns]⟩,
    ⟨(some 7), none, .asg (.t 15)⟩,
    ⟨none, none, .store 7 (.t 8) (.t 17)⟩] none [0, 1, 2, 7, 8, 11, 12, 13])
  (.seq (.seq (.region [⟨(some 18), none, .mov (.t 7)⟩,
    ⟨(some 19), none, .mov (.t 1)⟩,
    ⟨(some 20), none, .len 0 (.t 19)⟩,
    ⟨(some 21), none, .bin .geq (.t 18) (.t 20)⟩] none [0, 1, 2, 7, 8, 11, 12, 13, 21])
  (.cond (.t 21)
   (.seq (.region [⟨(some 6), none, .asg (.c (.i .i64 1))⟩] none [6])
   .ret)
   .skip))
  (.seq (.region [⟨(some 22), none, .mov (.t 1)⟩,
    ⟨(some 23), none, .mov (.t 7)⟩,
    ⟨(some 24), none, .idx 7 (.t 22) (.t 23)⟩,
    ⟨(some 25), none, .load (some 7) (.t 24)⟩,
    ⟨(some 9), none, .lalloc [(.i .i64 0), (.s []), (.i .i64 0), (.i .i64 0), .ns, (.i .i64 0), .ns]⟩,
    ⟨none, none, .store 7 (.t 9) (.t 25)⟩] none [0, 1, 2, 8, 9, 11, 12, 13])
  (.seq (.region [⟨(some 26), none, .mov (.t 2)⟩,
    ⟨(some 27), none, .load (some 7) (.t 8)⟩,
    ⟨(some 28), none, .load (some 7) (.t 9)⟩,
    ⟨(some 29), none, .call (.t 26) [(.t 27), (.t 28)]⟩,
    ⟨(some 10), none, .asg (.t 29)⟩] none [0, 1, 2, 10, 11, 12, 13])
  (.seq (.region [⟨(some 30), none, .mov (.t 10)⟩,
    ⟨(some 31), none, .bin .neq (.t 30) (.c (.i .i64 0))⟩] none [0, 1, 2, 10, 11, 12, 13, 31])
  (.cond (.t 31)
   (.seq (.region [⟨(some 32), none, .mov (.t 10)⟩,
     ⟨(some 6), none, .asg (.t 32)⟩] none [6])
   .ret)
   .skip)))))))
 (.region [⟨(some 33), none, .bin .add (.t 13) (.c (.i .i64 1))⟩,
   ⟨(some 13), none, .mov (.t 33)⟩] none [0, 1, 2, 11, 12, 13]))))
def ir_slices_CompareFunc_terms_tree_terms_tree_terms_tree_terms_tree : AFun := ⟨3, [.tmp 6], false, false,
 (.seq (.region [⟨(some 6), none, .asg (.c (.i .i64 0))⟩] none [0, 1, 2])
 (.seq (.seq (.region [⟨(some 11), none, .mov (.t 0)⟩,
   ⟨(some 12), none, .len 0 (.t 11)⟩,
   ⟨(some 13), none, .mov (.c (.i .i64 0))⟩] none [0, 1, 2, 11, 12, 13])
 (.block 0
  (.loop [0, 1, 2, 11, 12, 13] ir_slices_CompareFunc_terms_tree_terms_tree_terms_tree_terms_tree_L0)))
 (.seq (.seq (.region [⟨(some 34), none, .mov (.t 0)⟩,
   ⟨(some 35), none, .len 0 (.t 34)⟩,
   ⟨(some 36), none, .mov (.t 1)⟩,
   ⟨(some 37), none, .len 0 (.t 36)⟩,
   ⟨(some 38), none, .bin .lss (.t 35) (.t 37)⟩] none [38])
 (.cond (.t 38)
  (.seq (.region [⟨(some 6), none, .asg (.c (.i .i64 (-1)))⟩] none [6])
  .ret)
  .skip))
 (.seq (.region [⟨(some 6), none, .asg (.c (.i .i64 0))⟩] none [6])
 .ret))))⟩
def ir_slices_CompactFunc_terms_tree_terms_tree_L1 : ACode :=
 (.seq (.seq (.region [⟨(some 32), none, .mov (.t 7)⟩,
   ⟨(some 33), none, .mov (.t 6)⟩,
   ⟨(some 34), none, .len 0 (.t 33)⟩,
   ⟨(some 35), none, .bin .lss (.t 32) (.t 34)⟩] none [0, 1, 5, 6, 7, 35])
 (.cond (.t 35)
  .skip
  (.exit 2)))
 (.seq (.block 3
  (.seq (.region [⟨(some 38), none, .mov (.t 1)⟩,
    ⟨(some 39), none, .mov (.t 6)⟩,
    ⟨(some 40), none, .mov (.t 7)⟩,
    ⟨(some 41), none, .idx 7 (.t 39) (.t 40)⟩,
    ⟨(some 42), none, .load (some 7) (.t 41)⟩,
    ⟨(some 43), none, .mov (.t 6)⟩,
    ⟨(some 44), none, .mov (.t 7)⟩,
    ⟨(some 45), none, .bin .sub (.t 44) (.c (.i .i64 1))⟩,
    ⟨(some 46), none, .idx 7 (.t 43) (.t 45)⟩,
    ⟨(some 47), none, .load (some 7) (.t 46)⟩,
    ⟨(some 48), none, .call (.t 38) [(.t 42), (.t 47)]⟩,
    ⟨(some 49), none, .un .not (.t 48)⟩] (some ([0, 1, 2, 3, 4, 5, 6, 7, 8, 9, 10, 11], [])) [0, 1, 5, 6, 7, 49])
  (.cond (.t 49)
   (.seq (.region [⟨(some 50), none, .mov (.t 0)⟩,
     ⟨(some 51), none, .mov (.t 5)⟩,
     ⟨(some 52), none, .mov (.t 6)⟩,
     ⟨(some 53), none, .mov (.t 7)⟩,
     ⟨(some 54), none, .idx 7 (.t 52) (.t 53)⟩,
     ⟨(some 55), none, .load (some 7) (.t 54)⟩,
     ⟨(some 56), none, .idx 7 (.t 50) (.t 51)⟩,
     ⟨none, none, .store 7 (.t 56) (.t 55)⟩] none [0, 1, 5, 6, 7])
   (.region [⟨(some 57), none, .mov (.t 5)⟩,
     ⟨(some 58), none, .bin .add (.t 57) (.c (.i .i64 1))⟩,
     ⟨(some 5), none, .asg (.t 58)⟩] none [0, 1, 5, 6, 7]))
   .skip)))
 (.region [⟨(some 36), none, .mov (.t 7)⟩,
   ⟨(some 37), none, .bin .add (.t 36) (.c (.i .i64 1))⟩,
   ⟨(some 7), none, .asg (.t 37)⟩] none [0, 1, 5, 6, 7])))
def ir_slices_CompactFunc_terms_tree_terms_tree_L0 : ACode :=
 (.seq (.seq (.region [⟨(some 12), none, .mov (.t 5)⟩,
   ⟨(some 13), none, .mov (.t 0)⟩,
   ⟨(some 14), none, .len 0 (.t 13)⟩,
   ⟨(some 15), none, .bin .lss (.t 12) (.t 14)⟩] none [0, 1, 5, 15])
 (.cond (.t 15)
  .skip
  (.exit 0)))
 (.seq (.block 1
  (.seq (.region [⟨(some 18), none, .mov (.t 1)⟩,
    ⟨(some 19), none, .mov (.t 0)⟩,
    ⟨(some 20), none, .mov (.t 5)⟩,
    ⟨(some 21), none, .idx 7 (.t 19) (.t 20)⟩,
    ⟨(some 22), none, .load (some 7) (.t 21)⟩,
    ⟨(some 23), none, .mov (.t 0)⟩,
    ⟨(some 24), none, .mov (.t 5)⟩,
    ⟨(some 25), none, .bin .sub (.t 24) (.c (.i .i64 1))⟩,
    ⟨(some 26), none, .idx 7 (.t 23) (.t 25)⟩,
    ⟨(some 27), none, .load (some 7) (.t 26)⟩,
    ⟨(some 28), none, .call (.t 18) [(.t 22), (.t 27)]⟩] (some ([0, 1, 2, 3, 4, 5, 6, 7, 8, 9, 10], [])) [0, 1, 5, 28])
  (.cond (.t 28)
   (.seq (.region [⟨(some 29), none, .mov (.t 0)⟩,
     ⟨(some 30), none, .mov (.t 5)⟩,
     ⟨(some 31), none, .slc 7 (.t 29) (some (.t 30)) none⟩,
     ⟨(some 6), none, .asg (.t 31)⟩] none [0, 1, 5, 6])
   (.seq (.seq (.region [⟨(some 7), none, .asg (.c (.i .i64 1))⟩] none [0, 1, 5, 6, 7])
   (.block 2
    (.loop [0, 1, 5, 6, 7] ir_slices_CompactFunc_terms_tree_terms_tree_L1)))
   (.seq (.region [⟨(some 59), none, .mov (.t 0)⟩,
     ⟨(some 60), none, .mov (.t 5)⟩,
     ⟨(some 61), none, .slc 7 (.t 59) (some (.t 60)) none⟩,
     ⟨none, none, .clrk [(.i .i64 0), (.s []), (.i .i64 0), (.i .i64 0), .ns, (.i .i64 0), .ns] (.t 61)⟩] none [0, 5])
   (.seq (.region [⟨(some 62), none, .mov (.t 0)⟩,
     ⟨(some 63), none, .mov (.t 5)⟩,
     ⟨(some 64), none, .slc 7 (.t 62) none (some (.t 63))⟩,
     ⟨(some 4), none, .asg (.t 64)⟩] none [4])
   .ret))))
   .skip)))
 (.region [⟨(some 16), none, .mov (.t 5)⟩,
   ⟨(some 17), none, .bin .add (.t 16) (.c (.i .i64 1))⟩,
   ⟨(some 5), none, .asg (.t 17)⟩] none [0, 1, 5])))
def ir_slices_CompactFunc_terms_tree_terms_tree : AFun := ⟨2, [.tmp 4], false, true,
 (.seq (.region [⟨(some 4), none, .asg (.c .ns)⟩] none [0, 1])
 (.seq (.seq (.region [⟨(some 8), none, .mov (.t 0)⟩,
   ⟨(some 9), none, .len 0 (.t 8)⟩,
   ⟨(some 10), none, .bin .lss (.t 9) (.c (.i .i64 2))⟩] none [0, 1, 10])
 (.cond (.t 10)
  (.seq (.region [⟨(some 11), none, .mov (.t 0)⟩,
    ⟨(some 4), none, .asg (.t 11)⟩] none [4])
  .ret)
  .skip))
 (.seq (.seq (.region [⟨(some 5), none, .asg (.c (.i .i64 1))⟩] none [0, 1, 5])
 (.block 0
  (.loop [0, 1, 5] ir_slices_CompactFunc_terms_tree_terms_tree_L0)))
 (.seq (.region [⟨(some 65), none, .mov (.t 0)⟩,
   ⟨(some 4), none, .asg (.t 65)⟩] none [4])
 .ret))))⟩
def ir_terms_meet_1 : AFun := ⟨2, [.tmp 4], true, false,
 (.seq (.region [⟨(some 2), none, .lbox (.t 0)⟩,
   ⟨(some 3), none, .lbox (.t 1)⟩,
   ⟨(some 4), none, .asg (.c (.b false))⟩] none [2, 3])
 (.seq (.region [⟨(some 5), none, .load (some 7) (.t 2)⟩,
   ⟨(some 6), none, .load (some 7) (.t 3)⟩,
   ⟨(some 7), none, .call (.c (.fn (.func F_terms_tree_compare) [] [])) [(.t 5), (.t 6)]⟩,
   ⟨(some 8), none, .bin .eql (.t 7) (.c (.i .i64 0))⟩,
   ⟨(some 4), none, .asg (.t 8)⟩] none [4])
 .ret))⟩
def ir_syntax_Concept : AFun := ⟨1, [.cell 2 (some 5), .tmp 3, .tmp 4], true, false,
 (.seq (.region [⟨(some 2), none, .halloc [(.i .i64 0), (.s []), (.i .i64 0), (.i .i64 0), .ns]⟩,
   ⟨(some 3), none, .asg (.c (.i .i64 0))⟩,
   ⟨(some 4), none, .asg (.c (.i .i64 0))⟩] none [0, 2])
 (.seq (.region [⟨(some 5), none, .halloc [(.i .i64 0), (.s []), (.i .i64 0), (.i .i64 0), .ns]⟩] none [0, 2, 5])
 (.seq (.region [⟨(some 7), none, .mov (.t 0)⟩,
   ⟨(some 8), none, .mkfn (.func F_syntax_Concept_1) [] [(.t 5)]⟩,
   ⟨(some 9), none, .mkfn (.func F_syntax_Concept_2) [] [(.t 5), (.t 2)]⟩,
   ⟨(some 10), none, .call (.c (.fn (.func F_syntax_whole) [] [])) [(.t 7), (.t 8), (.t 9)]⟩,
   ⟨(some 6), none, .mov (.t 10)⟩,
   ⟨(some 11), none, .ext (.t 6) 0⟩,
   ⟨(some 12), none, .ext (.t 6) 1⟩,
   ⟨(some 3), none, .asg (.t 11)⟩,
   ⟨(some 4), none, .asg (.t 12)⟩] none [2, 3, 4])
 (.seq (.region [⟨(some 13), none, .load (some 5) (.t 2)⟩,
   ⟨(some 14), none, .mov (.t 3)⟩,
   ⟨(some 15), none, .mov (.t 4)⟩,
   ⟨none, none, .store 5 (.t 2) (.t 13)⟩,
   ⟨(some 3), none, .asg (.t 14)⟩,
   ⟨(some 4), none, .asg (.t 15)⟩] none [2, 3, 4])
 .ret))))⟩
def ir_syntax_Concept_1 : AFun := ⟨2, [], false, true,
 (.region [⟨(some 3), none, .mov (.t 0)⟩,
   ⟨(some 4), none, .call (.c (.fn (.func F_syntax_parser_concept) [] [])) [(.t 3)]⟩,
   ⟨none, none, .store 5 (.t 1) (.t 4)⟩] none [])⟩
def ir_syntax_parser_concept_L0 : ACode :=
 (.seq (.seq (.region [⟨(some 7), none, .mov (.t 0)⟩,
   ⟨(some 8), none, .call (.c (.fn (.func F_syntax_parser_skip) [] [])) [(.t 7), (.c (.s [97, 110, 100]))]⟩] none [0, 2, 3, 8])
 (.cond (.t 8)
  .skip
  (.exit 0)))
 (.block 1
  (.region [⟨(some 9), none, .mov (.t 3)⟩,
    ⟨(some 10), none, .mov (.t 0)⟩,
    ⟨(some 11), none, .call (.c (.fn (.func F_syntax_parser_single) [] [])) [(.t 10)]⟩,
    ⟨(some 12), none, .bsl false T_api_Concept_1 5 1 [(.i .i64 0), (.s []), (.i .i64 0), (.i .i64 0), .ns] [(0, (.t 11))]⟩,
    ⟨(some 13), none, .app T_api_Concept_1 5 (.t 9) (.t 12)⟩,
    ⟨(some 3), none, .asg (.t 13)⟩] none [0, 2, 3])))
def ir_syntax_parser_concept : AFun := ⟨1, [.cell 2 (some 5)], false, false,
 (.seq (.region [⟨(some 2), none, .lalloc [(.i .i64 0), (.s []), (.i .i64 0), (.i .i64 0), .ns]⟩] none [0, 2])
 (.seq (.region [⟨(some 4), none, .mov (.t 0)⟩,
   ⟨(some 5), none, .call (.c (.fn (.func F_syntax_parser_single) [] [])) [(.t 4)]⟩,
   ⟨(some 6), none, .bsl true T_api_Concept_1 5 1 [(.i .i64 0), (.s []), (.i .i64 0), (.i .i64 0), .ns] [(0, (.t 5))]⟩,
   ⟨(some 3), none, .asg (.t 6)⟩] none [0, 2, 3])
 (.seq (.block 0
  (.loop [0, 2, 3] ir_syntax_parser_concept_L0))
 (.seq (.seq (.region [⟨(some 14), none, .mov (.t 3)⟩,
   ⟨(some 15), none, .len 0 (.t 14)⟩,
   ⟨(some 16), none, .bin .eql (.t 15) (.c (.i .i64 1))⟩] none [2, 3, 16])
 (.cond (.t 16)
  (.seq (.region [⟨(some 17), none, .mov (.t 3)⟩,
    ⟨(some 18), none, .idx 5 (.t 17) (.c (.i .i64 0))⟩,
    ⟨(some 19), none, .load (some 5) (.t 18)⟩,
    ⟨none, none, .store 5 (.t 2) (.t 19)⟩] none [2])
  .ret)
  .skip))
 (.seq (.region [⟨(some 20), none, .mov (.t 3)⟩,
   ⟨(some 21), none, .build [(.i .i64 0), (.s []), (.i .i64 0), (.i .i64 0), .ns] [(0, 1, (.c (.i .i64 5))), (4, 1, (.t 20))]⟩,
   ⟨none, none, .store 5 (.t 2) (.t 21)⟩] none [2])
 .ret)))))⟩
def ir_syntax_parser_single : AFun := ⟨1, [.cell 2 (some 5)], false, false,
 (.seq (.region [⟨(some 2), none, .lalloc [(.i .i64 0), (.s []), (.i .i64 0), (.i .i64 0), .ns]⟩] none [0, 2])
 (.seq (.block 0
  (.seq (.region [⟨(some 4), none, .mov (.t 0)⟩,
    ⟨(some 5), none, .call (.c (.fn (.func F_syntax_parser_skip) [] [])) [(.t 4), (.c (.s [101, 118, 101, 114, 121, 116, 104, 105, 110, 103]))]⟩,
    ⟨(some 3), none, .asg (.t 5)⟩] none [0, 2, 3])
  (.cond (.t 3)
   (.seq (.region [⟨(some 6), none, .build [(.i .i64 0), (.s []), (.i .i64 0), (.i .i64 0), .ns] [(0, 1, (.c (.i .i64 1)))]⟩,
     ⟨none, none, .store 5 (.t 2) (.t 6)⟩] none [2])
   .ret)
   (.seq (.region [⟨(some 8), none, .mov (.t 0)⟩,
     ⟨(some 9), none, .call (.c (.fn (.func F_syntax_parser_skip) [] [])) [(.t 8), (.c (.s [110, 111, 116, 104, 105, 110, 103]))]⟩,
     ⟨(some 7), none, .asg (.t 9)⟩] none [0, 2, 7])
   (.cond (.t 7)
    (.seq (.region [⟨(some 10), none, .build [(.i .i64 0), (.s []), (.i .i64 0), (.i .i64 0), .ns] [(0, 1, (.c (.i .i64 2)))]⟩,
      ⟨none, none, .store 5 (.t 2) (.t 10)⟩] none [2])
    .ret)
    (.seq (.region [⟨(some 12), none, .mov (.t 0)⟩,
      ⟨(some 13), none, .call (.c (.fn (.func F_syntax_parser_skip) [] [])) [(.t 12), (.c (.s [123]))]⟩,
      ⟨(some 11), none, .asg (.t 13)⟩] none [0, 2, 11])
    (.cond (.t 11)
     (.seq (.region [⟨(some 14), none, .mov (.t 0)⟩,
       ⟨(some 15), none, .call (.c (.fn (.func F_syntax_parser_name) [] [])) [(.t 14)]⟩,
       ⟨(some 16), none, .build [(.i .i64 0), (.s []), (.i .i64 0), (.i .i64 0), .ns] [(0, 1, (.c (.i .i64 4))), (1, 1, (.t 15))]⟩,
       ⟨none, none, .store 5 (.t 2) (.t 16)⟩] none [0, 2])
     (.seq (.region [⟨(some 17), none, .mov (.t 0)⟩,
       ⟨(some 18), none, .call (.c (.fn (.func F_syntax_parser_want) [] [])) [(.t 17), (.c (.s [125]))]⟩] none [2])
     (.seq (.region [⟨(some 19), none, .load (some 5) (.t 2)⟩,
       ⟨none, none, .store 5 (.t 2) (.t 19)⟩] none [2])
     .ret)))
     (.seq (.region [⟨(some 21), none, .mov (.t 0)⟩,
       ⟨(some 22), none, .call (.c (.fn (.func F_syntax_parser_skip) [] [])) [(.t 21), (.c (.s [115, 111, 109, 101]))]⟩,
       ⟨(some 20), none, .asg (.t 22)⟩] none [0, 2, 20])
     (.cond (.t 20)
      (.seq (.region [⟨(some 23), none, .mov (.t 0)⟩,
        ⟨(some 24), none, .call (.c (.fn (.func F_syntax_parser_name) [] [])) [(.t 23)]⟩,
        ⟨(some 25), none, .build [(.i .i64 0), (.s []), (.i .i64 0), (.i .i64 0), .ns] [(0, 1, (.c (.i .i64 6))), (1, 1, (.t 24))]⟩,
        ⟨none, none, .store 5 (.t 2) (.t 25)⟩] none [0, 2])
      (.seq (.region [⟨(some 26), none, .mov (.t 0)⟩,
        ⟨(some 27), none, .call (.c (.fn (.func F_syntax_parser_single) [] [])) [(.t 26)]⟩,
        ⟨(some 28), none, .bsl false T_api_Concept_1 5 1 [(.i .i64 0), (.s []), (.i .i64 0), (.i .i64 0), .ns] [(0, (.t 27))]⟩,
        ⟨(some 29), none, .fld 4 (.t 2)⟩,
        ⟨none, none, .store 1 (.t 29) (.t 28)⟩] none [2])
      (.seq (.region [⟨(some 30), none, .load (some 5) (.t 2)⟩,
        ⟨none, none, .store 5 (.t 2) (.t 30)⟩] none [2])
      .ret)))
      (.seq (.region [⟨(some 32), none, .mov (.t 0)⟩,
        ⟨(some 33), none, .call (.c (.fn (.func F_syntax_parser_skip) [] [])) [(.t 32), (.c (.s [40]))]⟩,
        ⟨(some 31), none, .asg (.t 33)⟩] none [0, 2, 31])
      (.cond (.t 31)
       (.seq (.region [⟨(some 34), none, .mov (.t 0)⟩,
         ⟨(some 35), none, .call (.c (.fn (.func F_syntax_parser_concept) [] [])) [(.t 34)]⟩,
         ⟨none, none, .store 5 (.t 2) (.t 35)⟩] none [0, 2])
       (.seq (.region [⟨(some 36), none, .mov (.t 0)⟩,
         ⟨(some 37), none, .call (.c (.fn (.func F_syntax_parser_want) [] [])) [(.t 36), (.c (.s [41]))]⟩] none [2])
       (.seq (.region [⟨(some 38), none, .load (some 5) (.t 2)⟩,
         ⟨none, none, .store 5 (.t 2) (.t 38)⟩] none [2])
       .ret)))
       .skip)))))))))))
 (.seq (.region [⟨(some 39), none, .mov (.t 0)⟩,
   ⟨(some 40), none, .call (.c (.fn (.func F_syntax_parser_name) [] [])) [(.t 39)]⟩,
   ⟨(some 41), none, .build [(.i .i64 0), (.s []), (.i .i64 0), (.i .i64 0), .ns] [(0, 1, (.c (.i .i64 3))), (1, 1, (.t 40))]⟩,
   ⟨none, none, .store 5 (.t 2) (.t 41)⟩] none [0, 2])
 (.seq (.seq (.region [⟨(some 42), none, .mov (.t 0)⟩,
   ⟨(some 43), none, .call (.c (.fn (.func F_syntax_parser_skip) [] [])) [(.t 42), (.c (.s [105, 110]))]⟩] none [0, 2, 43])
 (.cond (.t 43)
  (.seq (.region [⟨(some 44), none, .fld 0 (.t 2)⟩,
    ⟨none, none, .store 1 (.t 44) (.c (.i .i64 7))⟩] none [0, 2])
  (.seq (.region [⟨(some 45), none, .mov (.t 0)⟩,
    ⟨(some 46), none, .call (.c (.fn (.func F_syntax_parser_number) [] [])) [(.t 45), (.c (.i .i64 (-1099511627776)))]⟩,
    ⟨(some 47), none, .fld 2 (.t 2)⟩,
    ⟨none, none, .store 1 (.t 47) (.t 46)⟩] none [0, 2])
  (.seq (.region [⟨(some 48), none, .mov (.t 0)⟩,
    ⟨(some 49), none, .call (.c (.fn (.func F_syntax_parser_want) [] [])) [(.t 48), (.c (.s [116, 111]))]⟩] none [0, 2])
  (.region [⟨(some 50), none, .mov (.t 0)⟩,
    ⟨(some 51), none, .fld 2 (.t 2)⟩,
    ⟨(some 52), none, .load none (.t 51)⟩,
    ⟨(some 53), none, .call (.c (.fn (.func F_syntax_parser_number) [] [])) [(.t 50), (.t 52)]⟩,
    ⟨(some 54), none, .fld 3 (.t 2)⟩,
    ⟨none, none, .store 1 (.t 54) (.t 53)⟩] none [2]))))
  .skip))
 (.seq (.region [⟨(some 55), none, .load (some 5) (.t 2)⟩,
   ⟨none, none, .store 5 (.t 2) (.t 55)⟩] none [2])
 .ret)))))⟩
def ir_syntax_parser_skip : AFun := ⟨2, [.tmp 4], false, false,
 (.seq (.region [⟨(some 4), none, .asg (.c (.b false))⟩] none [0, 1])
 (.seq (.seq (.region [⟨(some 5), none, .mov (.t 0)⟩,
   ⟨(some 6), none, .mov (.t 1)⟩,
   ⟨(some 7), none, .call (.c (.fn (.func F_syntax_parser_is) [] [])) [(.t 5), (.t 6)]⟩,
   ⟨(some 8), none, .un .not (.t 7)⟩] none [0, 8])
 (.cond (.t 8)
  (.seq (.region [⟨(some 4), none, .asg (.c (.b false))⟩] none [4])
  .ret)
  .skip))
 (.seq (.region [⟨(some 9), none, .mov (.t 0)⟩,
   ⟨(some 10), none, .nilchk (.t 9)⟩,
   ⟨(some 11), none, .fld 1 (.t 10)⟩,
   ⟨(some 12), none, .load none (.t 11)⟩,
   ⟨(some 13), none, .bin .add (.t 12) (.c (.i .i64 1))⟩,
   ⟨(some 14), none, .nilchk (.t 9)⟩,
   ⟨(some 15), none, .fld 1 (.t 14)⟩,
   ⟨none, none, .store 1 (.t 15) (.t 13)⟩] none [])
 (.seq (.region [⟨(some 4), none, .asg (.c (.b true))⟩] none [4])
 .ret))))⟩
def ir_syntax_parser_is : AFun := ⟨2, [.tmp 4], false, false,
 (.seq (.region [⟨(some 4), none, .asg (.c (.b false))⟩] none [0, 1])
 (.seq (.region [⟨(some 5), none, .mov (.t 0)⟩,
   ⟨(some 6), none, .call (.c (.fn (.func F_syntax_parser_token) [] [])) [(.t 5)]⟩,
   ⟨(some 7), none, .getf 1 none (.t 6)⟩,
   ⟨(some 8), none, .mov (.t 1)⟩,
   ⟨(some 9), none, .bin .eql (.t 7) (.t 8)⟩,
   ⟨(some 4), none, .asg (.t 9)⟩] none [4])
 .ret))⟩
def ir_syntax_parser_token : AFun := ⟨1, [.cell 2 (some 3)], false, false,
 (.seq (.region [⟨(some 2), none, .lalloc [(.i .i64 0), (.s []), (.i .i64 0)]⟩] none [0, 2])
 (.seq (.region [⟨(some 3), none, .mov (.t 0)⟩,
   ⟨(some 4), none, .nilchk (.t 3)⟩,
   ⟨(some 5), none, .fld 0 (.t 4)⟩,
   ⟨(some 6), none, .load none (.t 5)⟩,
   ⟨(some 7), none, .mov (.t 0)⟩,
   ⟨(some 8), none, .nilchk (.t 7)⟩,
   ⟨(some 9), none, .fld 1 (.t 8)⟩,
   ⟨(some 10), none, .load none (.t 9)⟩,
   ⟨(some 11), none, .idx 3 (.t 6) (.t 10)⟩,
   ⟨(some 12), none, .load (some 3) (.t 11)⟩,
   ⟨none, none, .store 3 (.t 2) (.t 12)⟩] (some ([0, 1, 2, 3, 4, 5, 6, 7, 8, 9, 10], [])) [2])
 .ret))⟩
def ir_syntax_parser_name : AFun := ⟨1, [.tmp 2], false, false,
 (.seq (.region [⟨(some 2), none, .asg (.c (.s []))⟩] none [0])
 (.seq (.seq (.region [⟨(some 4), none, .mov (.t 0)⟩,
   ⟨(some 5), none, .call (.c (.fn (.func F_syntax_parser_atName) [] [])) [(.t 4)]⟩,
   ⟨(some 6), none, .un .not (.t 5)⟩] none [0, 6])
 (.cond (.t 6)
  (.region [⟨(some 7), none, .mov (.t 0)⟩,
    ⟨(some 8), none, .call (.c (.fn (.func F_syntax_parser_fail) [] [])) [(.t 7), (.c (.i .i64 30))]⟩] none [0])
  .skip))
 (.seq (.region [⟨(some 9), none, .mov (.t 0)⟩,
   ⟨(some 10), none, .call (.c (.fn (.func F_syntax_parser_token) [] [])) [(.t 9)]⟩,
   ⟨(some 11), none, .getf 1 none (.t 10)⟩,
   ⟨(some 3), none, .asg (.t 11)⟩] none [0, 3])
 (.seq (.seq (.region [⟨(some 12), none, .mov (.t 3)⟩,
   ⟨(some 13), none, .idxs (.t 12) (.c (.i .i64 0))⟩,
   ⟨(some 14), none, .bin .eql (.t 13) (.c (.i .u8 95))⟩,
   ⟨(some 15), none, .mov (.t 14)⟩,
   ⟨(some 16), some (15, false), .mov (.t 3)⟩,
   ⟨(some 17), some (15, false), .call (.c (.fn (.func F_terms_CheckName) [] [])) [(.t 16)]⟩,
   ⟨(some 18), some (15, false), .bin .neq (.t 17) (.c (.i .i64 0))⟩,
   ⟨(some 19), none, .pick (.t 15) (.c (.b true)) (.t 18)⟩] none [0, 3, 19])
 (.cond (.t 19)
  (.region [⟨(some 20), none, .mov (.t 0)⟩,
    ⟨(some 21), none, .call (.c (.fn (.func F_syntax_parser_fail) [] [])) [(.t 20), (.c (.i .i64 20))]⟩] none [0, 3])
  .skip))
 (.seq (.region [⟨(some 22), none, .mov (.t 0)⟩,
   ⟨(some 23), none, .nilchk (.t 22)⟩,
   ⟨(some 24), none, .fld 1 (.t 23)⟩,
   ⟨(some 25), none, .load none (.t 24)⟩,
   ⟨(some 26), none, .bin .add (.t 25) (.c (.i .i64 1))⟩,
   ⟨(some 27), none, .nilchk (.t 22)⟩,
   ⟨(some 28), none, .fld 1 (.t 27)⟩,
   ⟨none, none, .store 1 (.t 28) (.t 26)⟩] none [3])
 (.seq (.region [⟨(some 29), none, .mov (.t 3)⟩,
   ⟨(some 2), none, .asg (.t 29)⟩] none [2])
 .ret))))))⟩
def ir_syntax_parser_atName : AFun := ⟨1, [.tmp 2], false, false,
 (.seq (.region [⟨(some 2), none, .asg (.c (.b false))⟩] none [0])
 (.seq (.region [⟨(some 4), none, .mov (.t 0)⟩,
   ⟨(some 5), none, .call (.c (.fn (.func F_syntax_parser_token) [] [])) [(.t 4)]⟩,
   ⟨(some 3), none, .lalloc [(.i .i64 0), (.s []), (.i .i64 0)]⟩,
   ⟨none, none, .store 3 (.t 3) (.t 5)⟩] none [3])
 (.seq (.region [⟨(some 6), none, .fld 0 (.t 3)⟩,
   ⟨(some 7), none, .load none (.t 6)⟩,
   ⟨(some 8), none, .bin .eql (.t 7) (.c (.i .i64 1))⟩,
   ⟨(some 9), none, .mov (.t 8)⟩,
   ⟨(some 10), some (9, true), .fld 1 (.t 3)⟩,
   ⟨(some 11), some (9, true), .load none (.t 10)⟩,
   ⟨(some 12), some (9, true), .call (.c (.fn (.func F_lexis_Keyword) [] [])) [(.t 11)]⟩,
   ⟨(some 13), some (9, true), .un .not (.t 12)⟩,
   ⟨(some 14), none, .pick (.t 9) (.t 13) (.c (.b false))⟩,
   ⟨(some 2), none, .asg (.t 14)⟩] none [2])
 .ret)))⟩
def ir_syntax_parser_fail : AFun := ⟨2, [], false, false,
 (.region [⟨(some 4), none, .mov (.t 0)⟩,
   ⟨(some 5), none, .call (.c (.fn (.func F_syntax_parser_token) [] [])) [(.t 4)]⟩,
   ⟨(some 6), none, .getf 2 none (.t 5)⟩,
   ⟨(some 7), none, .mov (.t 1)⟩,
   ⟨(some 8), none, .build [(.i .i64 0), (.i .i64 0)] [(0, 1, (.t 6)), (1, 1, (.t 7))]⟩,
   ⟨(some 9), none, .mkif T_syntax_fault (.t 8)⟩,
   ⟨none, none, .panic (.t 9)⟩] none [])⟩
def ir_syntax_parser_want : AFun := ⟨2, [], false, false,
 (.seq (.region [⟨(some 4), none, .mov (.t 0)⟩,
   ⟨(some 5), none, .mov (.t 1)⟩,
   ⟨(some 6), none, .call (.c (.fn (.func F_syntax_parser_skip) [] [])) [(.t 4), (.t 5)]⟩,
   ⟨(some 7), none, .un .not (.t 6)⟩] none [0, 7])
 (.cond (.t 7)
  (.region [⟨(some 8), none, .mov (.t 0)⟩,
    ⟨(some 9), none, .call (.c (.fn (.func F_syntax_parser_fail) [] [])) [(.t 8), (.c (.i .i64 30))]⟩] none [])
  .skip))⟩
def ir_syntax_parser_number : AFun := ⟨2, [.tmp 4], false, false,
 (.seq (.region [⟨(some 4), none, .asg (.c (.i .i64 0))⟩] none [0, 1])
 (.seq (.seq (.region [⟨(some 7), none, .mov (.t 0)⟩,
   ⟨(some 8), none, .call (.c (.fn (.func F_syntax_parser_token) [] [])) [(.t 7)]⟩,
   ⟨(some 9), none, .getf 0 none (.t 8)⟩,
   ⟨(some 10), none, .bin .neq (.t 9) (.c (.i .i64 2))⟩] none [0, 1, 10])
 (.cond (.t 10)
  (.region [⟨(some 11), none, .mov (.t 0)⟩,
    ⟨(some 12), none, .call (.c (.fn (.func F_syntax_parser_fail) [] [])) [(.t 11), (.c (.i .i64 30))]⟩] none [0, 1])
  .skip))
 (.seq (.region [⟨(some 14), none, .mov (.t 0)⟩,
   ⟨(some 15), none, .call (.c (.fn (.func F_syntax_parser_token) [] [])) [(.t 14)]⟩,
   ⟨(some 16), none, .getf 1 none (.t 15)⟩,
   ⟨(some 17), none, .call (.c (.fn (.func F_strconv_Atoi) [] [])) [(.t 16)]⟩,
   ⟨(some 13), none, .mov (.t 17)⟩,
   ⟨(some 18), none, .ext (.t 13) 0⟩,
   ⟨(some 19), none, .ext (.t 13) 1⟩,
   ⟨(some 5), none, .asg (.t 18)⟩,
   ⟨(some 6), none, .asg (.t 19)⟩] none [0, 1, 5, 6])
 (.seq (.seq (.region [⟨(some 20), none, .mov (.t 6)⟩,
   ⟨(some 21), none, .nileq true 4 (.t 20)⟩,
   ⟨(some 22), none, .mov (.t 21)⟩,
   ⟨(some 23), some (22, false), .mov (.t 5)⟩,
   ⟨(some 24), some (22, false), .bin .gtr (.t 23) (.c (.i .i64 1099511627776))⟩,
   ⟨(some 25), none, .pick (.t 22) (.c (.b true)) (.t 24)⟩,
   ⟨(some 26), none, .mov (.t 25)⟩,
   ⟨(some 27), some (26, false), .mov (.t 5)⟩,
   ⟨(some 28), some (26, false), .mov (.t 1)⟩,
   ⟨(some 29), some (26, false), .bin .lss (.t 27) (.t 28)⟩,
   ⟨(some 30), none, .pick (.t 26) (.c (.b true)) (.t 29)⟩] none [0, 5, 30])
 (.cond (.t 30)
  (.region [⟨(some 31), none, .mov (.t 0)⟩,
    ⟨(some 32), none, .call (.c (.fn (.func F_syntax_parser_fail) [] [])) [(.t 31), (.c (.i .i64 21))]⟩] none [0, 5])
  .skip))
 (.seq (.region [⟨(some 33), none, .mov (.t 0)⟩,
   ⟨(some 34), none, .nilchk (.t 33)⟩,
   ⟨(some 35), none, .fld 1 (.t 34)⟩,
   ⟨(some 36), none, .load none (.t 35)⟩,
   ⟨(some 37), none, .bin .add (.t 36) (.c (.i .i64 1))⟩,
   ⟨(some 38), none, .nilchk (.t 33)⟩,
   ⟨(some 39), none, .fld 1 (.t 38)⟩,
   ⟨none, none, .store 1 (.t 39) (.t 37)⟩] none [5])
 (.seq (.region [⟨(some 40), none, .mov (.t 5)⟩,
   ⟨(some 4), none, .asg (.t 40)⟩] none [4])
 .ret))))))⟩
def ir_syntax_Concept_2 : AFun := ⟨2, [.tmp 2], false, true,
 (.seq (.region [⟨(some 2), none, .asg (.c (.i .i64 0))⟩] none [0, 1])
 (.seq (.region [⟨(some 4), none, .load (some 5) (.t 0)⟩,
   ⟨(some 5), none, .call (.c (.fn (.func F_terms_Tidy) [] [])) [(.t 4)]⟩,
   ⟨(some 3), none, .mov (.t 5)⟩,
   ⟨(some 6), none, .ext (.t 3) 0⟩,
   ⟨(some 7), none, .ext (.t 3) 1⟩,
   ⟨none, none, .store 5 (.t 1) (.t 6)⟩,
   ⟨(some 2), none, .asg (.t 7)⟩] none [2])
 (.seq (.region [⟨(some 8), none, .mov (.t 2)⟩,
   ⟨(some 2), none, .asg (.t 8)⟩] none [2])
 .ret)))⟩
def ir_syntax_whole : AFun := ⟨3, [.tmp 6, .tmp 7], false, true,
 (.seq (.region [⟨(some 4), none, .hbox (.t 1)⟩,
   ⟨(some 6), none, .asg (.c (.i .i64 0))⟩,
   ⟨(some 7), none, .asg (.c (.i .i64 0))⟩] none [0, 2, 4])
 (.seq (.region [⟨(some 15), none, .mov (.t 0)⟩,
   ⟨(some 16), none, .call (.c (.fn (.func F_lexis_Tokens) [] [])) [(.t 15)]⟩,
   ⟨(some 14), none, .mov (.t 16)⟩,
   ⟨(some 17), none, .ext (.t 14) 0⟩,
   ⟨(some 18), none, .ext (.t 14) 1⟩,
   ⟨(some 19), none, .ext (.t 14) 2⟩,
   ⟨(some 8), none, .asg (.t 17)⟩,
   ⟨(some 9), none, .asg (.t 18)⟩,
   ⟨(some 7), none, .asg (.t 19)⟩] none [2, 4, 7, 8, 9])
 (.seq (.seq (.region [⟨(some 20), none, .mov (.t 7)⟩,
   ⟨(some 21), none, .bin .neq (.t 20) (.c (.i .i64 0))⟩] none [2, 4, 7, 8, 9, 21])
 (.cond (.t 21)
  (.seq (.region [⟨(some 22), none, .mov (.t 7)⟩,
    ⟨(some 6), none, .asg (.c (.i .i64 0))⟩,
    ⟨(some 7), none, .asg (.t 22)⟩] none [6, 7])
  .ret)
  .skip))
 (.seq (.seq (.region [⟨(some 23), none, .mov (.t 9)⟩,
   ⟨(some 24), none, .len 0 (.t 23)⟩,
   ⟨(some 25), none, .bin .gtr (.t 24) (.c (.i .i64 0))⟩] none [2, 4, 8, 9, 25])
 (.cond (.t 25)
  (.seq (.region [⟨(some 26), none, .mov (.t 9)⟩,
    ⟨(some 27), none, .idx 2 (.t 26) (.c (.i .i64 0))⟩,
    ⟨(some 28), none, .fld 0 (.t 27)⟩,
    ⟨(some 29), none, .load none (.t 28)⟩,
    ⟨(some 30), none, .mov (.t 9)⟩,
    ⟨(some 31), none, .idx 2 (.t 30) (.c (.i .i64 0))⟩,
    ⟨(some 32), none, .fld 1 (.t 31)⟩,
    ⟨(some 33), none, .load none (.t 32)⟩,
    ⟨(some 6), none, .cpy (.t 29)⟩,
    ⟨(some 7), none, .cpy (.t 33)⟩] (some ([0, 1, 2, 3, 4, 5, 6, 7, 8, 9], [])) [6, 7])
  .ret)
  .skip))
 (.seq (.region [⟨(some 34), none, .mov (.t 8)⟩,
   ⟨(some 35), none, .call (.c (.fn (.func F_syntax_newParser) [] [])) [(.t 34)]⟩,
   ⟨(some 10), none, .halloc [.np]⟩,
   ⟨none, none, .store 1 (.t 10) (.t 35)⟩] none [2, 4, 8, 10])
 (.seq (.region [⟨(some 37), none, .mkfn (.func F_syntax_whole_1) [] [(.t 4), (.t 10)]⟩,
   ⟨(some 38), none, .call (.c (.fn (.func F_syntax_try) [] [])) [(.t 37)]⟩,
   ⟨(some 36), none, .mov (.t 38)⟩,
   ⟨(some 39), none, .ext (.t 36) 0⟩,
   ⟨(some 40), none, .ext (.t 36) 1⟩,
   ⟨(some 11), none, .lalloc [(.i .i64 0), (.i .i64 0)]⟩,
   ⟨none, none, .store 2 (.t 11) (.t 39)⟩,
   ⟨(some 12), none, .asg (.t 40)⟩] none [2, 8, 11, 12])
 (.seq (.seq (.region [⟨(some 41), none, .mov (.t 12)⟩] none [2, 8, 11, 41])
 (.cond (.t 41)
  (.seq (.region [⟨(some 42), none, .fld 0 (.t 11)⟩,
    ⟨(some 43), none, .load none (.t 42)⟩,
    ⟨(some 44), none, .fld 1 (.t 11)⟩,
    ⟨(some 45), none, .load none (.t 44)⟩,
    ⟨(some 6), none, .cpy (.t 43)⟩,
    ⟨(some 7), none, .cpy (.t 45)⟩] (some ([0, 1, 2, 3, 4, 5], [])) [6, 7])
  .ret)
  .skip))
 (.seq (.seq (.region [⟨(some 46), none, .mov (.t 2)⟩,
   ⟨(some 47), none, .call (.t 46) []⟩,
   ⟨(some 13), none, .asg (.t 47)⟩] none [8, 13])
 (.seq (.region [⟨(some 48), none, .mov (.t 13)⟩,
   ⟨(some 49), none, .bin .neq (.t 48) (.c (.i .i64 0))⟩] none [8, 13, 49])
 (.cond (.t 49)
  (.seq (.region [⟨(some 50), none, .mov (.t 8)⟩,
    ⟨(some 51), none, .idx 3 (.t 50) (.c (.i .i64 0))⟩,
    ⟨(some 52), none, .fld 2 (.t 51)⟩,
    ⟨(some 53), none, .load none (.t 52)⟩,
    ⟨(some 54), none, .mov (.t 13)⟩,
    ⟨(some 6), none, .asg (.t 53)⟩,
    ⟨(some 7), none, .asg (.t 54)⟩] none [6, 7])
  .ret)
  .skip)))
 (.seq (.region [⟨(some 6), none, .asg (.c (.i .i64 0))⟩,
   ⟨(some 7), none, .asg (.c (.i .i64 0))⟩] none [6, 7])
 .ret)))))))))⟩
def ir_lexis_Tokens_L1 : ACode :=
 (.seq (.seq (.region [⟨(some 16), none, .load none (.t 6)⟩,
   ⟨(some 17), none, .mov (.t 0)⟩,
   ⟨(some 18), none, .len 0 (.t 17)⟩,
   ⟨(some 19), none, .bin .lss (.t 16) (.t 18)⟩,
   ⟨(some 20), none, .mov (.t 19)⟩,
   ⟨(some 21), some (20, true), .mov (.t 0)⟩,
   ⟨(some 22), some (20, true), .load none (.t 6)⟩,
   ⟨(some 23), some (20, true), .idx 1 (.t 21) (.t 22)⟩,
   ⟨(some 24), some (20, true), .load none (.t 23)⟩,
   ⟨(some 25), some (20, true), .idxa 256 1 (.t 5) (.t 24)⟩,
   ⟨(some 26), some (20, true), .load none (.t 25)⟩,
   ⟨(some 27), some (20, true), .bin .eql (.t 26) (.c (.i .u8 1))⟩,
   ⟨(some 28), none, .pick (.t 20) (.t 27) (.c (.b false))⟩] none [0, 2, 3, 5, 6, 8, 10, 28])
 (.cond (.t 28)
  .skip
  (.exit 0)))
 (.block 1
  (.region [⟨(some 29), none, .load none (.t 6)⟩,
    ⟨(some 30), none, .bin .add (.t 29) (.c (.i .i64 1))⟩,
    ⟨none, none, .store 1 (.t 6) (.t 30)⟩] none [0, 2, 3, 5, 6, 8, 10])))
def ir_lexis_Tokens_L2 : ACode :=
 (.seq (.seq (.region [⟨(some 48), none, .load none (.t 6)⟩,
   ⟨(some 49), none, .mov (.t 0)⟩,
   ⟨(some 50), none, .len 0 (.t 49)⟩,
   ⟨(some 51), none, .bin .lss (.t 48) (.t 50)⟩,
   ⟨(some 52), none, .mov (.t 51)⟩,
   ⟨(some 53), some (52, true), .mov (.t 0)⟩,
   ⟨(some 54), some (52, true), .load none (.t 6)⟩,
   ⟨(some 55), some (52, true), .idx 1 (.t 53) (.t 54)⟩,
   ⟨(some 56), some (52, true), .load none (.t 55)⟩,
   ⟨(some 57), some (52, true), .bin .neq (.t 56) (.c (.i .u8 10))⟩,
   ⟨(some 58), none, .pick (.t 52) (.t 57) (.c (.b false))⟩] none [0, 2, 3, 5, 6, 8, 10, 58])
 (.cond (.t 58)
  .skip
  (.exit 2)))
 (.block 3
  (.region [⟨(some 59), none, .load none (.t 6)⟩,
    ⟨(some 60), none, .bin .add (.t 59) (.c (.i .i64 1))⟩,
    ⟨none, none, .store 1 (.t 6) (.t 60)⟩] none [0, 2, 3, 5, 6, 8, 10])))
def ir_lexis_Tokens_L0 : ACode :=
 (.seq .skip
 (.seq (.block 0
  (.loop [0, 2, 3, 5, 6, 8, 10] ir_lexis_Tokens_L1))
 (.seq (.seq (.region [⟨(some 31), none, .load none (.t 6)⟩,
   ⟨(some 32), none, .mov (.t 0)⟩,
   ⟨(some 33), none, .len 0 (.t 32)⟩,
   ⟨(some 34), none, .bin .eql (.t 31) (.t 33)⟩] none [0, 2, 3, 5, 6, 8, 10, 34])
 (.cond (.t 34)
  (.seq (.region [⟨(some 35), none, .mov (.t 2)⟩,
    ⟨(some 36), none, .loadp 36 none (.t 6)⟩,
    ⟨(some 37), none, .build [(.i .i64 0), (.s []), (.i .i64 0)] [(0, 1, (.c (.i .i64 4))), (2, 1, (.t 36))]⟩,
    ⟨(some 38), none, .bsl false T_api_Token_1 3 1 [(.i .i64 0), (.s []), (.i .i64 0)] [(0, (.t 37))]⟩,
    ⟨(some 39), none, .app T_api_Token_1 3 (.t 35) (.t 38)⟩,
    ⟨(some 40), none, .loadp 40 none (.t 3)⟩,
    ⟨(some 2), none, .cpy (.t 39)⟩,
    ⟨none, none, .store 1 (.t 3) (.t 40)⟩,
    ⟨(some 4), none, .cpy (.c (.i .i64 0))⟩] (some ([0, 1, 2, 3, 4, 5, 6, 7, 8], [2])) [2, 3, 4])
  .ret)
  .skip))
 (.seq (.seq (.region [⟨(some 41), none, .mov (.t 0)⟩,
   ⟨(some 42), none, .load none (.t 6)⟩,
   ⟨(some 43), none, .idx 1 (.t 41) (.t 42)⟩,
   ⟨(some 44), none, .load none (.t 43)⟩,
   ⟨(some 45), none, .idxa 256 1 (.t 5) (.t 44)⟩,
   ⟨(some 46), none, .load none (.t 45)⟩,
   ⟨(some 47), none, .bin .eql (.t 46) (.c (.i .u8 2))⟩] none [0, 2, 3, 5, 6, 8, 10, 47])
 (.cond (.t 47)
  (.seq (.block 2
   (.loop [0, 2, 3, 5, 6, 8, 10] ir_lexis_Tokens_L2))
  (.goto 0))
  .skip))
 (.seq (.region [⟨(some 62), none, .mov (.t 0)⟩,
   ⟨(some 63), none, .load none (.t 6)⟩,
   ⟨(some 64), none, .slc 1 (.t 62) (some (.t 63)) none⟩,
   ⟨(some 65), none, .call (.c (.fn (.func F_lexis_scan) [] [])) [(.t 5), (.t 64)]⟩,
   ⟨(some 61), none, .mov (.t 65)⟩,
   ⟨(some 66), none, .ext (.t 61) 0⟩,
   ⟨(some 67), none, .ext (.t 61) 1⟩,
   ⟨(some 7), none, .asg (.t 66)⟩,
   ⟨none, none, .store 1 (.t 8) (.t 67)⟩] none [0, 2, 3, 5, 6, 7, 8, 10])
 (.seq (.seq (.region [⟨(some 68), none, .mov (.t 7)⟩,
   ⟨(some 69), none, .bin .eql (.t 68) (.c (.i .i64 0))⟩] none [0, 2, 3, 5, 6, 7, 8, 10, 69])
 (.cond (.t 69)
  (.region [⟨(some 70), none, .mov (.t 10)⟩,
    ⟨(some 71), none, .call (.t 70) []⟩] none [0, 2, 3, 5, 6, 8, 10])
  (.region [⟨(some 72), none, .mov (.t 2)⟩,
    ⟨(some 73), none, .mov (.t 7)⟩,
    ⟨(some 74), none, .mov (.t 0)⟩,
    ⟨(some 75), none, .load none (.t 6)⟩,
    ⟨(some 76), none, .load none (.t 6)⟩,
    ⟨(some 77), none, .load none (.t 8)⟩,
    ⟨(some 78), none, .bin .add (.t 76) (.t 77)⟩,
    ⟨(some 79), none, .slc 1 (.t 74) (some (.t 75)) (some (.t 78))⟩,
    ⟨(some 80), none, .b2s (.t 79)⟩,
    ⟨(some 81), none, .load none (.t 6)⟩,
    ⟨(some 82), none, .build [(.i .i64 0), (.s []), (.i .i64 0)] [(0, 1, (.t 73)), (1, 1, (.t 80)), (2, 1, (.t 81))]⟩,
    ⟨(some 83), none, .bsl false T_api_Token_1 3 1 [(.i .i64 0), (.s []), (.i .i64 0)] [(0, (.t 82))]⟩,
    ⟨(some 84), none, .app T_api_Token_1 3 (.t 72) (.t 83)⟩,
    ⟨(some 2), none, .asg (.t 84)⟩] (some ([0, 1, 2, 3, 4, 5, 6, 7, 8, 9, 10, 11, 12, 13], [])) [0, 2, 3, 5, 6, 8, 10])))
 (.seq (.region [⟨(some 85), none, .load none (.t 6)⟩,
   ⟨(some 86), none, .load none (.t 8)⟩,
   ⟨(some 87), none, .bin .add (.t 85) (.t 86)⟩,
   ⟨none, none, .store 1 (.t 6) (.t 87)⟩] none [0, 2, 3, 5, 6, 8, 10])
 (.goto 0))))))))
def ir_lexis_Tokens_L3 : ACode :=
 (.seq (.seq (.region [⟨(some 16), none, .load none (.t 6)⟩,
   ⟨(some 17), none, .mov (.t 0)⟩,
   ⟨(some 18), none, .len 0 (.t 17)⟩,
   ⟨(some 19), none, .bin .lss (.t 16) (.t 18)⟩,
   ⟨(some 20), none, .mov (.t 19)⟩,
   ⟨(some 21), some (20, true), .mov (.t 0)⟩,
   ⟨(some 22), some (20, true), .load none (.t 6)⟩,
   ⟨(some 23), some (20, true), .idx 1 (.t 21) (.t 22)⟩,
   ⟨(some 24), some (20, true), .load none (.t 23)⟩,
   ⟨(some 25), some (20, true), .idxa 256 1 (.t 5) (.t 24)⟩,
   ⟨(some 26), some (20, true), .load none (.t 25)⟩,
   ⟨(some 27), some (20, true), .bin .eql (.t 26) (.c (.i .u8 1))⟩,
   ⟨(some 28), none, .pick (.t 20) (.t 27) (.c (.b false))⟩] none [0, 2, 3, 5, 6, 8, 10, 28])
 (.cond (.t 28)
  .skip
  (.exit 0)))
 (.block 1
  (.region [⟨(some 29), none, .load none (.t 6)⟩,
    ⟨(some 30), none, .bin .add (.t 29) (.c (.i .i64 1))⟩,
    ⟨none, none, .store 1 (.t 6) (.t 30)⟩] none [0, 2, 3, 5, 6, 8, 10])))
def ir_lexis_Tokens_L4 : ACode :=
 (.seq (.seq (.region [⟨(some 48), none, .load none (.t 6)⟩,
   ⟨(some 49), none, .mov (.t 0)⟩,
   ⟨(some 50), none, .len 0 (.t 49)⟩,
   ⟨(some 51), none, .bin .lss (.t 48) (.t 50)⟩,
   ⟨(some 52), none, .mov (.t 51)⟩,
   ⟨(some 53), some (52, true), .mov (.t 0)⟩,
   ⟨(some 54), some (52, true), .load none (.t 6)⟩,
   ⟨(some 55), some (52, true), .idx 1 (.t 53) (.t 54)⟩,
   ⟨(some 56), some (52, true), .load none (.t 55)⟩,
   ⟨(some 57), some (52, true), .bin .neq (.t 56) (.c (.i .u8 10))⟩,
   ⟨(some 58), none, .pick (.t 52) (.t 57) (.c (.b false))⟩] none [0, 2, 3, 5, 6, 8, 10, 58])
 (.cond (.t 58)
  .skip
  (.exit 2)))
 (.block 3
  (.region [⟨(some 59), none, .load none (.t 6)⟩,
    ⟨(some 60), none, .bin .add (.t 59) (.c (.i .i64 1))⟩,
    ⟨none, none, .store 1 (.t 6) (.t 60)⟩] none [0, 2, 3, 5, 6, 8, 10])))
def ir_lexis_Tokens : AFun := ⟨1, [.tmp 2, .cell 3 none, .tmp 4], false, false,
 (.seq (.region [⟨(some 2), none, .nbuf T_api_Token_1 3⟩,
   ⟨(some 3), none, .halloc [.ns]⟩,
   ⟨(some 4), none, .asg (.c (.i .i64 0))⟩] none [0, 2, 3])
 (.scope 0 [0, 2, 3, 5, 6, 8, 10]
  (.seq (.seq (.region [⟨(some 11), none, .mov (.t 0)⟩,
    ⟨(some 12), none, .len 0 (.t 11)⟩,
    ⟨(some 13), none, .bin .gtr (.t 12) (.c (.i .i64 65536))⟩] none [0, 2, 3, 13])
  (.cond (.t 13)
   (.seq (.region [⟨(some 2), none, .nbuf T_api_Token_1 3⟩,
     ⟨none, none, .store 1 (.t 3) (.c .ns)⟩,
     ⟨(some 4), none, .asg (.c (.i .i64 2))⟩] none [2, 3, 4])
   .ret)
   .skip))
  (.seq (.region [⟨(some 14), none, .call (.c (.fn (.func F_lexis_classes) [] [])) []⟩,
    ⟨(some 5), none, .halloc (List.replicate 256 (.i .u8 0))⟩,
    ⟨none, none, .store 256 (.t 5) (.t 14)⟩] none [0, 2, 3, 5])
  (.seq (.region [⟨(some 6), none, .halloc [(.i .i64 0)]⟩,
    ⟨(some 8), none, .halloc [(.i .i64 0)]⟩,
    ⟨none, none, .store 1 (.t 6) (.c (.i .i64 0))⟩,
    ⟨(some 7), none, .asg (.c (.i .i64 0))⟩,
    ⟨none, none, .store 1 (.t 8) (.c (.i .i64 0))⟩] none [0, 2, 3, 5, 6, 8])
  (.seq (.region [⟨(some 9), none, .halloc [(.i .i64 0)]⟩,
    ⟨none, none, .store 1 (.t 9) (.c (.i .i64 (-1)))⟩] none [0, 2, 3, 5, 6, 8, 9])
  (.seq (.region [⟨(some 15), none, .mkfn (.func F_lexis_Tokens_1) [] [(.t 6), (.t 9), (.t 3), (.t 8)]⟩,
    ⟨(some 10), none, .asg (.t 15)⟩] none [0, 2, 3, 5, 6, 8, 10])
  (.seq (.label 0)
  (.seq (.block 0
   (.loop [0, 2, 3, 5, 6, 8, 10] ir_lexis_Tokens_L3))
  (.seq (.seq (.region [⟨(some 31), none, .load none (.t 6)⟩,
    ⟨(some 32), none, .mov (.t 0)⟩,
    ⟨(some 33), none, .len 0 (.t 32)⟩,
    ⟨(some 34), none, .bin .eql (.t 31) (.t 33)⟩] none [0, 2, 3, 5, 6, 8, 10, 34])
  (.cond (.t 34)
   (.seq (.region [⟨(some 35), none, .mov (.t 2)⟩,
     ⟨(some 36), none, .loadp 36 none (.t 6)⟩,
     ⟨(some 37), none, .build [(.i .i64 0), (.s []), (.i .i64 0)] [(0, 1, (.c (.i .i64 4))), (2, 1, (.t 36))]⟩,
     ⟨(some 38), none, .bsl false T_api_Token_1 3 1 [(.i .i64 0), (.s []), (.i .i64 0)] [(0, (.t 37))]⟩,
     ⟨(some 39), none, .app T_api_Token_1 3 (.t 35) (.t 38)⟩,
     ⟨(some 40), none, .loadp 40 none (.t 3)⟩,
     ⟨(some 2), none, .cpy (.t 39)⟩,
     ⟨none, none, .store 1 (.t 3) (.t 40)⟩,
     ⟨(some 4), none, .cpy (.c (.i .i64 0))⟩] (some ([0, 1, 2, 3, 4, 5, 6, 7, 8], [2])) [2, 3, 4])
   .ret)
   .skip))
  (.seq (.seq (.region [⟨(some 41), none, .mov (.t 0)⟩,
    ⟨(some 42), none, .load none (.t 6)⟩,
    ⟨(some 43), none, .idx 1 (.t 41) (.t 42)⟩,
    ⟨(some 44), none, .load none (.t 43)⟩,
    ⟨(some 45), none, .idxa 256 1 (.t 5) (.t 44)⟩,
    ⟨(some 46), none, .load none (.t 45)⟩,
    ⟨(some 47), none, .bin .eql (.t 46) (.c (.i .u8 2))⟩] none [0, 2, 3, 5, 6, 8, 10, 47])
  (.cond (.t 47)
   (.seq (.block 2
    (.loop [0, 2, 3, 5, 6, 8, 10] ir_lexis_Tokens_L4))
   (.goto 0))
   .skip))
  (.seq (.region [⟨(some 62), none, .mov (.t 0)⟩,
    ⟨(some 63), none, .load none (.t 6)⟩,
    ⟨(some 64), none, .slc 1 (.t 62) (some (.t 63)) none⟩,
    ⟨(some 65), none, .call (.c (.fn (.func F_lexis_scan) [] [])) [(.t 5), (.t 64)]⟩,
    ⟨(some 61), none, .mov (.t 65)⟩,
    ⟨(some 66), none, .ext (.t 61) 0⟩,
    ⟨(some 67), none, .ext (.t 61) 1⟩,
    ⟨(some 7), none, .asg (.t 66)⟩,
    ⟨none, none, .store 1 (.t 8) (.t 67)⟩] none [0, 2, 3, 5, 6, 7, 8, 10])
  (.seq (.seq (.region [⟨(some 68), none, .mov (.t 7)⟩,
    ⟨(some 69), none, .bin .eql (.t 68) (.c (.i .i64 0))⟩] none [0, 2, 3, 5, 6, 7, 8, 10, 69])
  (.cond (.t 69)
   (.region [⟨(some 70), none, .mov (.t 10)⟩,
     ⟨(some 71), none, .call (.t 70) []⟩] none [0, 2, 3, 5, 6, 8, 10])
   (.region [⟨(some 72), none, .mov (.t 2)⟩,
     ⟨(some 73), none, .mov (.t 7)⟩,
     ⟨(some 74), none, .mov (.t 0)⟩,
     ⟨(some 75), none, .load none (.t 6)⟩,
     ⟨(some 76), none, .load none (.t 6)⟩,
     ⟨(some 77), none, .load none (.t 8)⟩,
     ⟨(some 78), none, .bin .add (.t 76) (.t 77)⟩,
     ⟨(some 79), none, .slc 1 (.t 74) (some (.t 75)) (some (.t 78))⟩,
     ⟨(some 80), none, .b2s (.t 79)⟩,
     ⟨(some 81), none, .load none (.t 6)⟩,
     ⟨(some 82), none, .build [(.i .i64 0), (.s []), (.i .i64 0)] [(0, 1, (.t 73)), (1, 1, (.t 80)), (2, 1, (.t 81))]⟩,
     ⟨(some 83), none, .bsl false T_api_Token_1 3 1 [(.i .i64 0), (.s []), (.i .i64 0)] [(0, (.t 82))]⟩,
     ⟨(some 84), none, .app T_api_Token_1 3 (.t 72) (.t 83)⟩,
     ⟨(some 2), none, .asg (.t 84)⟩] (some ([0, 1, 2, 3, 4, 5, 6, 7, 8, 9, 10, 11, 12, 13], [])) [0, 2, 3, 5, 6, 8, 10])))
  (.seq (.region [⟨(some 85), none, .load none (.t 6)⟩,
    ⟨(some 86), none, .load none (.t 8)⟩,
    ⟨(some 87), none, .bin .add (.t 85) (.t 86)⟩,
    ⟨none, none, .store 1 (.t 6) (.t 87)⟩] none [0, 2, 3, 5, 6, 8, 10])
  (.goto 0)))))))))))))
  ir_lexis_Tokens_L0))⟩
def ir_lexis_classes_L0 : ACode :=
 (.seq (.region [⟨(some 11), none, .bin .lss (.t 10) (.t 9)⟩] none [0, 8, 9, 10, 11])
 (.seq (.cond (.t 11)
  .skip
  (.exit 0))
 (.seq (.block 1
  (.seq (.region [⟨(some 12), none, .idx 1 (.t 8) (.t 10)⟩,
    ⟨(some 13), none, .load none (.t 12)⟩,
    ⟨(some 2), none, .asg (.t 13)⟩] none [0, 2, 8, 9, 10])
  (.region [⟨(some 14), none, .mov (.t 2)⟩,
    ⟨(some 15), none, .idxa 256 1 (.t 0) (.t 14)⟩,
    ⟨none, none, .store 1 (.t 15) (.c (.i .u8 1))⟩] none [0, 8, 9, 10])))
 (.region [⟨(some 16), none, .bin .add (.t 10) (.c (.i .i64 1))⟩,
   ⟨(some 10), none, .mov (.t 16)⟩] none [0, 8, 9, 10]))))
def ir_lexis_classes_L1 : ACode :=
 (.seq (.seq (.region [⟨(some 17), none, .mov (.t 3)⟩,
   ⟨(some 18), none, .bin .leq (.t 17) (.c (.i .i32 122))⟩] none [0, 3, 18])
 (.cond (.t 18)
  .skip
  (.exit 2)))
 (.seq (.block 3
  (.seq (.region [⟨(some 21), none, .mov (.t 3)⟩,
    ⟨(some 22), none, .idxa 256 1 (.t 0) (.t 21)⟩,
    ⟨none, none, .store 1 (.t 22) (.c (.i .u8 3))⟩] none [0, 3])
  (.region [⟨(some 23), none, .mov (.t 3)⟩,
    ⟨(some 24), none, .bin .sub (.t 23) (.c (.i .i32 97))⟩,
    ⟨(some 25), none, .bin .add (.t 24) (.c (.i .i32 65))⟩,
    ⟨(some 26), none, .idxa 256 1 (.t 0) (.t 25)⟩,
    ⟨none, none, .store 1 (.t 26) (.c (.i .u8 3))⟩] none [0, 3])))
 (.region [⟨(some 19), none, .mov (.t 3)⟩,
   ⟨(some 20), none, .bin .add (.t 19) (.c (.i .i32 1))⟩,
   ⟨(some 3), none, .asg (.t 20)⟩] none [0, 3])))
def ir_lexis_classes_L2 : ACode :=
 (.seq (.seq (.region [⟨(some 27), none, .mov (.t 4)⟩,
   ⟨(some 28), none, .bin .leq (.t 27) (.c (.i .i32 57))⟩] none [0, 4, 28])
 (.cond (.t 28)
  .skip
  (.exit 4)))
 (.seq (.block 5
  (.region [⟨(some 31), none, .mov (.t 4)⟩,
    ⟨(some 32), none, .idxa 256 1 (.t 0) (.t 31)⟩,
    ⟨none, none, .store 1 (.t 32) (.c (.i .u8 4))⟩] none [0, 4]))
 (.region [⟨(some 29), none, .mov (.t 4)⟩,
   ⟨(some 30), none, .bin .add (.t 29) (.c (.i .i32 1))⟩,
   ⟨(some 4), none, .asg (.t 30)⟩] none [0, 4])))
def ir_lexis_classes_L3 : ACode :=
 (.seq (.region [⟨(some 37), none, .bin .lss (.t 36) (.t 35)⟩] none [0, 34, 35, 36, 37])
 (.seq (.cond (.t 37)
  .skip
  (.exit 6))
 (.seq (.block 7
  (.seq (.region [⟨(some 38), none, .idx 1 (.t 34) (.t 36)⟩,
    ⟨(some 39), none, .load none (.t 38)⟩,
    ⟨(some 6), none, .asg (.t 39)⟩] none [0, 6, 34, 35, 36])
  (.region [⟨(some 40), none, .mov (.t 6)⟩,
    ⟨(some 41), none, .idxa 256 1 (.t 0) (.t 40)⟩,
    ⟨none, none, .store 1 (.t 41) (.c (.i .u8 6))⟩] none [0, 34, 35, 36])))
 (.region [⟨(some 42), none, .bin .add (.t 36) (.c (.i .i64 1))⟩,
   ⟨(some 36), none, .mov (.t 42)⟩] none [0, 34, 35, 36]))))
def ir_lexis_classes : AFun := ⟨0, [.cell 0 (some 256)], true, false,
 (.seq (.region [⟨(some 0), none, .lalloc (List.replicate 256 (.i .u8 0))⟩] none [0])
 (.seq (.seq (.region [⟨(some 7), none, .bsl true T_uint8_0 1 4 [(.i .u8 0)] [(0, (.c (.i .u8 32))), (1, (.c (.i .u8 9))), (2, (.c (.i .u8 10))), (3, (.c (.i .u8 13)))]⟩,
   ⟨(some 8), none, .mark (.t 7)⟩,
   ⟨(some 9), none, .len 0 (.t 8)⟩,
   ⟨(some 10), none, .mov (.c (.i .i64 0))⟩] none [0, 8, 9, 10])
 (.block 0
  (.loop [0, 8, 9, 10] ir_lexis_classes_L0)))
 (.seq (.seq (.region [⟨(some 3), none, .asg (.c (.i .i32 97))⟩] none [0, 3])
 (.block 2
  (.loop [0, 3] ir_lexis_classes_L1)))
 (.seq (.seq (.region [⟨(some 4), none, .asg (.c (.i .i32 48))⟩] none [0, 4])
 (.block 4
  (.loop [0, 4] ir_lexis_classes_L2)))
 (.seq (.seq (.region [⟨(some 33), none, .bsl true T_uint8_0 1 12 [(.i .u8 0)] [(0, (.c (.i .u8 40))), (1, (.c (.i .u8 41))), (2, (.c (.i .u8 91))), (3, (.c (.i .u8 93))), (4, (.c (.i .u8 123))), (5, (.c (.i .u8 125))), (6, (.c (.i .u8 44))), (7, (.c (.i .u8 46))), (8, (.c (.i .u8 60))), (9, (.c (.i .u8 61))), (10, (.c (.i .u8 124))), (11, (.c (.i .u8 63)))]⟩,
   ⟨(some 34), none, .mark (.t 33)⟩,
   ⟨(some 35), none, .len 0 (.t 34)⟩,
   ⟨(some 36), none, .mov (.c (.i .i64 0))⟩] none [0, 34, 35, 36])
 (.block 6
  (.loop [0, 34, 35, 36] ir_lexis_classes_L3)))
 (.seq (.region [⟨(some 43), none, .idxa 256 1 (.t 0) (.c (.i .i64 95))⟩,
   ⟨none, none, .store 1 (.t 43) (.c (.i .u8 3))⟩] none [0])
 (.seq (.region [⟨(some 44), none, .idxa 256 1 (.t 0) (.c (.i .i64 35))⟩,
   ⟨none, none, .store 1 (.t 44) (.c (.i .u8 2))⟩] none [0])
 (.seq (.region [⟨(some 45), none, .idxa 256 1 (.t 0) (.c (.i .i64 45))⟩,
   ⟨none, none, .store 1 (.t 45) (.c (.i .u8 5))⟩] none [0])
 (.seq (.region [⟨(some 46), none, .load (some 256) (.t 0)⟩,
   ⟨none, none, .store 256 (.t 0) (.t 46)⟩] none [0])
 .ret)))))))))⟩
def ir_lexis_Tokens_1 : AFun := ⟨4, [], false, false,
 (.seq (.seq (.region [⟨(some 4), none, .load none (.t 0)⟩,
   ⟨(some 5), none, .load none (.t 1)⟩,
   ⟨(some 6), none, .bin .neq (.t 4) (.t 5)⟩,
   ⟨(some 7), none, .mov (.t 6)⟩,
   ⟨(some 8), some (7, true), .load none (.t 2)⟩,
   ⟨(some 9), some (7, true), .len 0 (.t 8)⟩,
   ⟨(some 10), some (7, true), .bin .lss (.t 9) (.c (.i .i64 64))⟩,
   ⟨(some 11), none, .pick (.t 7) (.t 10) (.c (.b false))⟩] none [0, 1, 2, 3, 11])
 (.cond (.t 11)
  (.region [⟨(some 12), none, .load none (.t 2)⟩,
    ⟨(some 13), none, .load none (.t 0)⟩,
    ⟨(some 14), none, .build [(.i .i64 0), (.i .i64 0)] [(0, 1, (.t 13)), (1, 1, (.c (.i .i64 10)))]⟩,
    ⟨(some 15), none, .bsl false T_api_Problem_1 2 1 [(.i .i64 0), (.i .i64 0)] [(0, (.t 14))]⟩,
    ⟨(some 16), none, .appr T_api_Problem_1 2 (.t 12) (.t 15)⟩,
    ⟨none, none, .store 1 (.t 2) (.t 16)⟩] none [0, 1, 3])
  .skip))
 (.region [⟨(some 17), none, .load none (.t 0)⟩,
   ⟨(some 18), none, .load none (.t 3)⟩,
   ⟨(some 19), none, .bin .add (.t 17) (.t 18)⟩,
   ⟨none, none, .store 1 (.t 1) (.t 19)⟩] none []))⟩
def ir_lexis_scan : AFun := ⟨2, [.tmp 4, .tmp 5], false, false,
 (.seq (.region [⟨(some 4), none, .asg (.c (.i .i64 0))⟩,
   ⟨(some 5), none, .asg (.c (.i .i64 0))⟩] none [0, 1])
 (.seq (.seq (.region [⟨(some 6), none, .mov (.t 0)⟩,
   ⟨(some 7), none, .mov (.t 1)⟩,
   ⟨(some 8), none, .idx 1 (.t 7) (.c (.i .i64 0))⟩,
   ⟨(some 9), none, .load none (.t 8)⟩,
   ⟨(some 10), none, .nilchk (.t 6)⟩,
   ⟨(some 11), none, .idxa 256 1 (.t 10) (.t 9)⟩,
   ⟨(some 12), none, .load none (.t 11)⟩] (some ([0, 1, 2, 3, 4, 5, 6], [])) [0, 1, 12])
 (.block 0
  (.seq (.region [⟨(some 14), none, .bin .eql (.t 12) (.c (.i .u8 3))⟩,
    ⟨(some 13), none, .asg (.t 14)⟩] none [0, 1, 12, 13])
  (.cond (.t 13)
   (.seq (.region [⟨(some 15), none, .mov (.t 0)⟩,
     ⟨(some 16), none, .mov (.t 1)⟩,
     ⟨(some 17), none, .call (.c (.fn (.func F_lexis_run) [] [])) [(.t 15), (.t 16)]⟩,
     ⟨(some 5), none, .asg (.t 17)⟩] none [0, 1, 5])
   (.seq (.seq (.region [⟨(some 18), none, .mov (.t 5)⟩,
     ⟨(some 19), none, .bin .add (.t 18) (.c (.i .i64 1))⟩,
     ⟨(some 20), none, .mov (.t 1)⟩,
     ⟨(some 21), none, .len 0 (.t 20)⟩,
     ⟨(some 22), none, .bin .lss (.t 19) (.t 21)⟩,
     ⟨(some 23), none, .mov (.t 22)⟩,
     ⟨(some 24), some (23, true), .mov (.t 1)⟩,
     ⟨(some 25), some (23, true), .mov (.t 5)⟩,
     ⟨(some 26), some (23, true), .idx 1 (.t 24) (.t 25)⟩,
     ⟨(some 27), some (23, true), .load none (.t 26)⟩,
     ⟨(some 28), some (23, true), .bin .eql (.t 27) (.c (.i .u8 58))⟩,
     ⟨(some 29), none, .pick (.t 23) (.t 28) (.c (.b false))⟩,
     ⟨(some 30), none, .mov (.t 29)⟩,
     ⟨(some 31), some (30, true), .mov (.t 1)⟩,
     ⟨(some 32), some (30, true), .mov (.t 5)⟩,
     ⟨(some 33), some (30, true), .bin .add (.t 32) (.c (.i .i64 1))⟩,
     ⟨(some 34), some (30, true), .idx 1 (.t 31) (.t 33)⟩,
     ⟨(some 35), some (30, true), .load none (.t 34)⟩,
     ⟨(some 36), some (30, true), .bin .neq (.t 35) (.c (.i .u8 95))⟩,
     ⟨(some 37), none, .pick (.t 30) (.t 36) (.c (.b false))⟩,
     ⟨(some 38), none, .mov (.t 37)⟩,
     ⟨(some 39), some (38, true), .mov (.t 0)⟩,
     ⟨(some 40), some (38, true), .mov (.t 1)⟩,
     ⟨(some 41), some (38, true), .mov (.t 5)⟩,
     ⟨(some 42), some (38, true), .bin .add (.t 41) (.c (.i .i64 1))⟩,
     ⟨(some 43), some (38, true), .idx 1 (.t 40) (.t 42)⟩,
     ⟨(some 44), some (38, true), .load none (.t 43)⟩,
     ⟨(some 45), some (38, true), .nilchk (.t 39)⟩,
     ⟨(some 46), some (38, true), .idxa 256 1 (.t 45) (.t 44)⟩,
     ⟨(some 47), some (38, true), .load none (.t 46)⟩,
     ⟨(some 48), some (38, true), .bin .eql (.t 47) (.c (.i .u8 3))⟩,
     ⟨(some 49), none, .pick (.t 38) (.t 48) (.c (.b false))⟩] (some ([0, 1, 2, 3, 4, 5, 6, 7, 8, 9, 10, 11, 12, 13, 14, 15, 16, 17, 18, 19, 20, 21, 22, 23, 24, 25, 26, 27, 28, 29, 30, 31], [])) [0, 1, 5, 49])
   (.cond (.t 49)
    (.region [⟨(some 50), none, .mov (.t 5)⟩,
      ⟨(some 51), none, .mov (.t 0)⟩,
      ⟨(some 52), none, .mov (.t 1)⟩,
      ⟨(some 53), none, .mov (.t 5)⟩,
      ⟨(some 54), none, .bin .add (.t 53) (.c (.i .i64 1))⟩,
      ⟨(some 55), none, .slc 1 (.t 52) (some (.t 54)) none⟩,
      ⟨(some 56), none, .call (.c (.fn (.func F_lexis_run) [] [])) [(.t 51), (.t 55)]⟩,
      ⟨(some 57), none, .bin .add (.c (.i .i64 1)) (.t 56)⟩,
      ⟨(some 58), none, .bin .add (.t 50) (.t 57)⟩,
      ⟨(some 5), none, .asg (.t 58)⟩] none [5])
    .skip))
   (.seq (.region [⟨(some 59), none, .mov (.t 5)⟩,
     ⟨(some 4), none, .asg (.c (.i .i64 1))⟩,
     ⟨(some 5), none, .asg (.t 59)⟩] none [4, 5])
   .ret)))
   (.seq (.region [⟨(some 61), none, .bin .eql (.t 12) (.c (.i .u8 5))⟩,
     ⟨(some 60), none, .asg (.t 61)⟩] none [0, 1, 12, 60])
   (.cond (.t 60)
    (.seq (.seq (.region [⟨(some 62), none, .mov (.t 1)⟩,
      ⟨(some 63), none, .len 0 (.t 62)⟩,
      ⟨(some 64), none, .bin .gtr (.t 63) (.c (.i .i64 1))⟩,
      ⟨(some 65), none, .mov (.t 64)⟩,
      ⟨(some 66), some (65, true), .mov (.t 1)⟩,
      ⟨(some 67), some (65, true), .idx 1 (.t 66) (.c (.i .i64 1))⟩,
      ⟨(some 68), some (65, true), .load none (.t 67)⟩,
      ⟨(some 69), some (65, true), .bin .eql (.t 68) (.c (.i .u8 62))⟩,
      ⟨(some 70), none, .pick (.t 65) (.t 69) (.c (.b false))⟩] none [0, 1, 70])
    (.cond (.t 70)
     (.seq (.region [⟨(some 4), none, .asg (.c (.i .i64 3))⟩,
       ⟨(some 5), none, .asg (.c (.i .i64 2))⟩] none [4, 5])
     .ret)
     .skip))
    (.seq (.seq (.region [⟨(some 71), none, .mov (.t 1)⟩,
      ⟨(some 72), none, .len 0 (.t 71)⟩,
      ⟨(some 73), none, .bin .eql (.t 72) (.c (.i .i64 1))⟩,
      ⟨(some 74), none, .mov (.t 73)⟩,
      ⟨(some 75), some (74, false), .mov (.t 0)⟩,
      ⟨(some 76), some (74, false), .mov (.t 1)⟩,
      ⟨(some 77), some (74, false), .idx 1 (.t 76) (.c (.i .i64 1))⟩,
      ⟨(some 78), some (74, false), .load none (.t 77)⟩,
      ⟨(some 79), some (74, false), .nilchk (.t 75)⟩,
      ⟨(some 80), some (74, false), .idxa 256 1 (.t 79) (.t 78)⟩,
      ⟨(some 81), some (74, false), .load none (.t 80)⟩,
      ⟨(some 82), some (74, false), .bin .neq (.t 81) (.c (.i .u8 4))⟩,
      ⟨(some 83), none, .pick (.t 74) (.c (.b true)) (.t 82)⟩] (some ([0, 1, 2, 3, 4, 5, 6, 7, 8, 9, 10, 11, 12], [])) [0, 1, 83])
    (.cond (.t 83)
     (.seq (.region [⟨(some 4), none, .asg (.c (.i .i64 0))⟩,
       ⟨(some 5), none, .asg (.c (.i .i64 1))⟩] none [4, 5])
     .ret)
     .skip))
    (.region [⟨(some 84), none, .mov (.t 0)⟩,
      ⟨(some 85), none, .mov (.t 1)⟩,
      ⟨(some 86), none, .slc 1 (.t 85) (some (.c (.i .i64 1))) none⟩,
      ⟨(some 87), none, .call (.c (.fn (.func F_lexis_run) [] [])) [(.t 84), (.t 86)]⟩,
      ⟨(some 88), none, .bin .add (.c (.i .i64 1)) (.t 87)⟩,
      ⟨(some 5), none, .asg (.t 88)⟩] none [1, 5])))
    (.seq (.region [⟨(some 90), none, .bin .eql (.t 12) (.c (.i .u8 4))⟩,
      ⟨(some 89), none, .asg (.t 90)⟩] none [0, 1, 12, 89])
    (.cond (.t 89)
     (.region [⟨(some 91), none, .mov (.t 0)⟩,
       ⟨(some 92), none, .mov (.t 1)⟩,
       ⟨(some 93), none, .call (.c (.fn (.func F_lexis_run) [] [])) [(.t 91), (.t 92)]⟩,
       ⟨(some 5), none, .asg (.t 93)⟩] none [1, 5])
     (.seq (.region [⟨(some 95), none, .bin .eql (.t 12) (.c (.i .u8 6))⟩,
       ⟨(some 94), none, .asg (.t 95)⟩] none [94])
     (.cond (.t 94)
      (.seq (.region [⟨(some 4), none, .asg (.c (.i .i64 3))⟩,
        ⟨(some 5), none, .asg (.c (.i .i64 1))⟩] none [4, 5])
      .ret)
      (.seq (.region [⟨(some 4), none, .asg (.c (.i .i64 0))⟩,
        ⟨(some 5), none, .asg (.c (.i .i64 1))⟩] none [4, 5])
      .ret)))))))))))
 (.seq (.seq (.region [⟨(some 96), none, .mov (.t 1)⟩,
   ⟨(some 97), none, .mov (.t 5)⟩,
   ⟨(some 98), none, .slc 1 (.t 96) none (some (.t 97))⟩,
   ⟨(some 99), none, .call (.c (.fn (.func F_lexis_integer) [] [])) [(.t 98)]⟩] none [5, 99])
 (.cond (.t 99)
  (.seq (.region [⟨(some 100), none, .mov (.t 5)⟩,
    ⟨(some 4), none, .asg (.c (.i .i64 2))⟩,
    ⟨(some 5), none, .asg (.t 100)⟩] none [4, 5])
  .ret)
  .skip))
 (.seq (.region [⟨(some 101), none, .mov (.t 5)⟩,
   ⟨(some 4), none, .asg (.c (.i .i64 0))⟩,
   ⟨(some 5), none, .asg (.t 101)⟩] none [4, 5])
 .ret))))⟩
def ir_lexis_run_L0 : ACode :=
 (.seq (.seq (.region [⟨(some 5), none, .mov (.t 4)⟩,
   ⟨(some 6), none, .mov (.t 1)⟩,
   ⟨(some 7), none, .len 0 (.t 6)⟩,
   ⟨(some 8), none, .bin .lss (.t 5) (.t 7)⟩,
   ⟨(some 9), none, .mov (.t 8)⟩,
   ⟨(some 10), some (9, true), .mov (.t 0)⟩,
   ⟨(some 11), some (9, true), .mov (.t 1)⟩,
   ⟨(some 12), some (9, true), .mov (.t 4)⟩,
   ⟨(some 13), some (9, true), .idx 1 (.t 11) (.t 12)⟩,
   ⟨(some 14), some (9, true), .load none (.t 13)⟩,
   ⟨(some 15), some (9, true), .nilchk (.t 10)⟩,
   ⟨(some 16), some (9, true), .idxa 256 1 (.t 15) (.t 14)⟩,
   ⟨(some 17), some (9, true), .load none (.t 16)⟩,
   ⟨(some 18), some (9, true), .bin .eql (.t 17) (.c (.i .u8 3))⟩,
   ⟨(some 19), some (9, true), .mov (.t 18)⟩,
   ⟨(some 20), some (19, false), .mov (.t 0)⟩,
   ⟨(some 21), some (19, false), .mov (.t 1)⟩,
   ⟨(some 22), some (19, false), .mov (.t 4)⟩,
   ⟨(some 23), some (19, false), .idx 1 (.t 21) (.t 22)⟩,
   ⟨(some 24), some (19, false), .load none (.t 23)⟩,
   ⟨(some 25), some (19, false), .nilchk (.t 20)⟩,
   ⟨(some 26), some (19, false), .idxa 256 1 (.t 25) (.t 24)⟩,
   ⟨(some 27), some (19, false), .load none (.t 26)⟩,
   ⟨(some 28), some (19, false), .bin .eql (.t 27) (.c (.i .u8 4))⟩,
   ⟨(some 29), some (9, true), .pick (.t 19) (.c (.b true)) (.t 28)⟩,
   ⟨(some 30), none, .pick (.t 9) (.t 29) (.c (.b false))⟩] (some ([0, 1, 2, 3, 4, 5, 6, 7, 8, 9, 10, 11, 12, 13, 14, 15, 16, 17, 18, 19, 20, 21, 22, 23, 24, 25], [])) [0, 1, 4, 30])
 (.cond (.t 30)
  .skip
  (.exit 0)))
 (.block 1
  (.region [⟨(some 31), none, .mov (.t 4)⟩,
    ⟨(some 32), none, .bin .add (.t 31) (.c (.i .i64 1))⟩,
    ⟨(some 4), none, .asg (.t 32)⟩] none [0, 1, 4])))
def ir_lexis_run : AFun := ⟨2, [.tmp 4], false, false,
 (.seq (.region [⟨(some 4), none, .asg (.c (.i .i64 0))⟩] none [0, 1, 4])
 (.seq (.block 0
  (.loop [0, 1, 4] ir_lexis_run_L0))
 (.seq (.region [⟨(some 33), none, .mov (.t 4)⟩,
   ⟨(some 4), none, .asg (.t 33)⟩] none [4])
 .ret)))⟩
def ir_lexis_integer_L0 : ACode :=
 (.seq (.region [⟨(some 31), none, .bin .lss (.t 30) (.t 29)⟩] none [28, 29, 30, 31])
 (.seq (.cond (.t 31)
  .skip
  (.exit 0))
 (.seq (.block 1
  (.seq (.region [⟨(some 32), none, .idx 1 (.t 28) (.t 30)⟩,
    ⟨(some 33), none, .load none (.t 32)⟩,
    ⟨(some 4), none, .asg (.t 33)⟩] none [4, 28, 29, 30])
  (.seq (.region [⟨(some 34), none, .mov (.t 4)⟩,
    ⟨(some 35), none, .bin .lss (.t 34) (.c (.i .u8 48))⟩,
    ⟨(some 36), none, .mov (.t 35)⟩,
    ⟨(some 37), some (36, false), .mov (.t 4)⟩,
    ⟨(some 38), some (36, false), .bin .gtr (.t 37) (.c (.i .u8 57))⟩,
    ⟨(some 39), none, .pick (.t 36) (.c (.b true)) (.t 38)⟩] none [28, 29, 30, 39])
  (.cond (.t 39)
   (.seq (.region [⟨(some 2), none, .asg (.c (.b false))⟩] none [2])
   .ret)
   .skip))))
 (.region [⟨(some 40), none, .bin .add (.t 30) (.c (.i .i64 1))⟩,
   ⟨(some 30), none, .mov (.t 40)⟩] none [28, 29, 30]))))
def ir_lexis_integer : AFun := ⟨1, [.tmp 2], true, false,
 (.seq (.region [⟨(some 2), none, .asg (.c (.b false))⟩] none [0])
 (.seq (.seq (.region [⟨(some 5), none, .mov (.t 0)⟩,
   ⟨(some 6), none, .b2s (.t 5)⟩,
   ⟨(some 7), none, .bin .eql (.t 6) (.c (.s [48]))⟩] none [0, 7])
 (.cond (.t 7)
  (.seq (.region [⟨(some 2), none, .asg (.c (.b true))⟩] none [2])
  .ret)
  .skip))
 (.seq (.seq (.region [⟨(some 8), none, .mov (.t 0)⟩,
   ⟨(some 9), none, .idx 1 (.t 8) (.c (.i .i64 0))⟩,
   ⟨(some 10), none, .load none (.t 9)⟩,
   ⟨(some 11), none, .bin .eql (.t 10) (.c (.i .u8 45))⟩] none [0, 11])
 (.cond (.t 11)
  (.region [⟨(some 12), none, .mov (.t 0)⟩,
    ⟨(some 13), none, .slc 1 (.t 12) (some (.c (.i .i64 1))) none⟩,
    ⟨(some 0), none, .asg (.t 13)⟩] none [0])
  .skip))
 (.seq (.seq (.region [⟨(some 14), none, .mov (.t 0)⟩,
   ⟨(some 15), none, .len 0 (.t 14)⟩,
   ⟨(some 16), none, .bin .lss (.t 15) (.c (.i .i64 1))⟩,
   ⟨(some 17), none, .mov (.t 16)⟩,
   ⟨(some 18), some (17, false), .mov (.t 0)⟩,
   ⟨(some 19), some (17, false), .len 0 (.t 18)⟩,
   ⟨(some 20), some (17, false), .bin .gtr (.t 19) (.c (.i .i64 18))⟩,
   ⟨(some 21), none, .pick (.t 17) (.c (.b true)) (.t 20)⟩,
   ⟨(some 22), none, .mov (.t 21)⟩,
   ⟨(some 23), some (22, false), .mov (.t 0)⟩,
   ⟨(some 24), some (22, false), .idx 1 (.t 23) (.c (.i .i64 0))⟩,
   ⟨(some 25), some (22, false), .load none (.t 24)⟩,
   ⟨(some 26), some (22, false), .bin .eql (.t 25) (.c (.i .u8 48))⟩,
   ⟨(some 27), none, .pick (.t 22) (.c (.b true)) (.t 26)⟩] none [0, 27])
 (.cond (.t 27)
  (.seq (.region [⟨(some 2), none, .asg (.c (.b false))⟩] none [2])
  .ret)
  .skip))
 (.seq (.seq (.region [⟨(some 28), none, .mov (.t 0)⟩,
   ⟨(some 29), none, .len 0 (.t 28)⟩,
   ⟨(some 30), none, .mov (.c (.i .i64 0))⟩] none [28, 29, 30])
 (.block 0
  (.loop [28, 29, 30] ir_lexis_integer_L0)))
 (.seq (.region [⟨(some 2), none, .asg (.c (.b true))⟩] none [2])
 .ret))))))⟩
def ir_syntax_newParser : AFun := ⟨1, [.tmp 2], false, true,
 (.seq (.region [⟨(some 2), none, .asg (.c .np)⟩] none [0])
 (.seq (.region [⟨(some 4), none, .mov (.t 0)⟩,
   ⟨(some 5), none, .build [.ns, (.i .i64 0), .nm] [(0, 1, (.t 4))]⟩,
   ⟨(some 6), none, .hbox (.t 5)⟩,
   ⟨(some 3), none, .asg (.t 6)⟩] none [3])
 (.seq (.region [⟨(some 7), none, .mov (.t 3)⟩,
   ⟨(some 8), none, .mkmap⟩,
   ⟨(some 9), none, .mov (.t 3)⟩,
   ⟨(some 10), none, .mkfn (.func F_syntax_parser_domain) [(.t 9)] []⟩,
   ⟨none, none, .ins 1 (.t 8) (.c (.s [100, 111, 109, 97, 105, 110])) (.t 10)⟩,
   ⟨(some 11), none, .mov (.t 3)⟩,
   ⟨(some 12), none, .mkfn (.func F_syntax_parser_role) [(.t 11)] []⟩,
   ⟨none, none, .ins 1 (.t 8) (.c (.s [114, 111, 108, 101])) (.t 12)⟩,
   ⟨(some 13), none, .mov (.t 3)⟩,
   ⟨(some 14), none, .mkfn (.func F_syntax_parser_chain) [(.t 13)] []⟩,
   ⟨none, none, .ins 1 (.t 8) (.c (.s [99, 104, 97, 105, 110])) (.t 14)⟩,
   ⟨(some 15), none, .mov (.t 3)⟩,
   ⟨(some 16), none, .mkfn (.func F_syntax_parser_reflexive) [(.t 15)] []⟩,
   ⟨none, none, .ins 1 (.t 8) (.c (.s [114, 101, 102, 108, 101, 120, 105, 118, 101])) (.t 16)⟩,
   ⟨(some 17), none, .mov (.t 3)⟩,
   ⟨(some 18), none, .mkfn (.func F_syntax_parser_typing) [(.t 17)] []⟩,
   ⟨none, none, .ins 1 (.t 8) (.c (.s [116, 121, 112, 101])) (.t 18)⟩,
   ⟨(some 19), none, .mov (.t 3)⟩,
   ⟨(some 20), none, .mkfn (.func F_syntax_parser_link) [(.t 19)] []⟩,
   ⟨none, none, .ins 1 (.t 8) (.c (.s [108, 105, 110, 107])) (.t 20)⟩,
   ⟨(some 21), none, .mov (.t 8)⟩,
   ⟨(some 22), none, .nilchk (.t 7)⟩,
   ⟨(some 23), none, .fld 2 (.t 22)⟩,
   ⟨none, none, .store 1 (.t 23) (.t 21)⟩] none [3])
 (.seq (.region [⟨(some 24), none, .mov (.t 3)⟩,
   ⟨(some 2), none, .asg (.t 24)⟩] none [2])
 .ret))))⟩
def ir_syntax_parser_domain : AFun := ⟨1, [.cell 2 (some 16)], false, false,
 (.seq (.region [⟨(some 2), none, .lalloc [(.i .i64 0), (.b false), (.i .i64 0), (.s []), (.i .i64 0), (.i .i64 0), .ns, (.i .i64 0), (.s []), (.i .i64 0), (.i .i64 0), .ns, .ns, (.s []), (.s []), (.s [])]⟩] none [0, 2])
 (.seq (.region [⟨(some 4), none, .mov (.t 0)⟩,
   ⟨(some 5), none, .call (.c (.fn (.func F_syntax_parser_name) [] [])) [(.t 4)]⟩,
   ⟨(some 3), none, .asg (.t 5)⟩] none [0, 2, 3])
 (.seq (.region [⟨(some 6), none, .mov (.t 3)⟩,
   ⟨(some 7), none, .mov (.t 0)⟩,
   ⟨(some 8), none, .call (.c (.fn (.func F_syntax_parser_concept) [] [])) [(.t 7)]⟩,
   ⟨(some 9), none, .build [(.i .i64 0), (.b false), (.i .i64 0), (.s []), (.i .i64 0), (.i .i64 0), .ns, (.i .i64 0), (.s []), (.i .i64 0), (.i .i64 0), .ns, .ns, (.s []), (.s []), (.s [])] [(0, 1, (.c (.i .i64 4))), (13, 1, (.t 6)), (7, 5, (.t 8))]⟩,
   ⟨none, none, .store 16 (.t 2) (.t 9)⟩] none [2])
 .ret)))⟩
def ir_syntax_parser_role : AFun := ⟨1, [.cell 2 (some 16)], false, false,
 (.seq (.region [⟨(some 2), none, .lalloc [(.i .i64 0), (.b false), (.i .i64 0), (.s []), (.i .i64 0), (.i .i64 0), .ns, (.i .i64 0), (.s []), (.i .i64 0), (.i .i64 0), .ns, .ns, (.s []), (.s []), (.s [])]⟩] none [0, 2])
 (.seq (.region [⟨(some 4), none, .mov (.t 0)⟩,
   ⟨(some 5), none, .call (.c (.fn (.func F_syntax_parser_name) [] [])) [(.t 4)]⟩,
   ⟨(some 3), none, .asg (.t 5)⟩] none [0, 2, 3])
 (.seq (.region [⟨(some 6), none, .mov (.t 0)⟩,
   ⟨(some 7), none, .call (.c (.fn (.func F_syntax_parser_want) [] [])) [(.t 6), (.c (.s [115, 117, 98]))]⟩] none [0, 2, 3])
 (.seq (.region [⟨(some 8), none, .mov (.t 3)⟩,
   ⟨(some 9), none, .bsl false T_string_0 1 1 [(.s [])] [(0, (.t 8))]⟩,
   ⟨(some 10), none, .mov (.t 0)⟩,
   ⟨(some 11), none, .call (.c (.fn (.func F_syntax_parser_name) [] [])) [(.t 10)]⟩,
   ⟨(some 12), none, .build [(.i .i64 0), (.b false), (.i .i64 0), (.s []), (.i .i64 0), (.i .i64 0), .ns, (.i .i64 0), (.s []), (.i .i64 0), (.i .i64 0), .ns, .ns, (.s []), (.s []), (.s [])] [(0, 1, (.c (.i .i64 5))), (12, 1, (.t 9)), (13, 1, (.t 11))]⟩,
   ⟨none, none, .store 16 (.t 2) (.t 12)⟩] none [2])
 .ret))))⟩
def ir_syntax_parser_chain_L0 : ACode :=
 (.seq (.seq (.region [⟨(some 9), none, .mov (.t 3)⟩,
   ⟨(some 10), none, .len 0 (.t 9)⟩,
   ⟨(some 11), none, .bin .lss (.t 10) (.c (.i .i64 4))⟩,
   ⟨(some 12), none, .mov (.t 11)⟩,
   ⟨(some 13), some (12, true), .mov (.t 0)⟩,
   ⟨(some 14), some (12, true), .call (.c (.fn (.func F_syntax_parser_atName) [] [])) [(.t 13)]⟩,
   ⟨(some 15), none, .pick (.t 12) (.t 14) (.c (.b false))⟩] none [0, 2, 3, 15])
 (.cond (.t 15)
  .skip
  (.exit 0)))
 (.block 1
  (.region [⟨(some 16), none, .mov (.t 3)⟩,
    ⟨(some 17), none, .mov (.t 0)⟩,
    ⟨(some 18), none, .call (.c (.fn (.func F_syntax_parser_name) [] [])) [(.t 17)]⟩,
    ⟨(some 19), none, .bsl false T_string_0 1 1 [(.s [])] [(0, (.t 18))]⟩,
    ⟨(some 20), none, .app T_string_0 1 (.t 16) (.t 19)⟩,
    ⟨(some 3), none, .asg (.t 20)⟩] none [0, 2, 3])))
def ir_syntax_parser_chain : AFun := ⟨1, [.cell 2 (some 16)], false, false,
 (.seq (.region [⟨(some 2), none, .lalloc [(.i .i64 0), (.b false), (.i .i64 0), (.s []), (.i .i64 0), (.i .i64 0), .ns, (.i .i64 0), (.s []), (.i .i64 0), (.i .i64 0), .ns, .ns, (.s []), (.s []), (.s [])]⟩] none [0, 2])
 (.seq (.region [⟨(some 4), none, .mov (.t 0)⟩,
   ⟨(some 5), none, .call (.c (.fn (.func F_syntax_parser_name) [] [])) [(.t 4)]⟩,
   ⟨(some 6), none, .mov (.t 0)⟩,
   ⟨(some 7), none, .call (.c (.fn (.func F_syntax_parser_name) [] [])) [(.t 6)]⟩,
   ⟨(some 8), none, .bsl true T_string_0 1 2 [(.s [])] [(0, (.t 5)), (1, (.t 7))]⟩,
   ⟨(some 3), none, .asg (.t 8)⟩] none [0, 2, 3])
 (.seq (.block 0
  (.loop [0, 2, 3] ir_syntax_parser_chain_L0))
 (.seq (.region [⟨(some 21), none, .mov (.t 0)⟩,
   ⟨(some 22), none, .call (.c (.fn (.func F_syntax_parser_want) [] [])) [(.t 21), (.c (.s [115, 117, 98]))]⟩] none [0, 2, 3])
 (.seq (.region [⟨(some 23), none, .mov (.t 3)⟩,
   ⟨(some 24), none, .mov (.t 0)⟩,
   ⟨(some 25), none, .call (.c (.fn (.func F_syntax_parser_name) [] [])) [(.t 24)]⟩,
   ⟨(some 26), none, .build [(.i .i64 0), (.b false), (.i .i64 0), (.s []), (.i .i64 0), (.i .i64 0), .ns, (.i .i64 0), (.s []), (.i .i64 0), (.i .i64 0), .ns, .ns, (.s []), (.s []), (.s [])] [(0, 1, (.c (.i .i64 6))), (12, 1, (.t 23)), (13, 1, (.t 25))]⟩,
   ⟨none, none, .store 16 (.t 2) (.t 26)⟩] none [2])
 .ret)))))⟩
def ir_syntax_parser_reflexive : AFun := ⟨1, [.cell 2 (some 16)], false, false,
 (.seq (.region [⟨(some 2), none, .lalloc [(.i .i64 0), (.b false), (.i .i64 0), (.s []), (.i .i64 0), (.i .i64 0), .ns, (.i .i64 0), (.s []), (.i .i64 0), (.i .i64 0), .ns, .ns, (.s []), (.s []), (.s [])]⟩] none [0, 2])
 (.seq (.region [⟨(some 3), none, .mov (.t 0)⟩,
   ⟨(some 4), none, .call (.c (.fn (.func F_syntax_parser_name) [] [])) [(.t 3)]⟩,
   ⟨(some 5), none, .build [(.i .i64 0), (.b false), (.i .i64 0), (.s []), (.i .i64 0), (.i .i64 0), .ns, (.i .i64 0), (.s []), (.i .i64 0), (.i .i64 0), .ns, .ns, (.s []), (.s []), (.s [])] [(0, 1, (.c (.i .i64 7))), (13, 1, (.t 4))]⟩,
   ⟨none, none, .store 16 (.t 2) (.t 5)⟩] none [2])
 .ret))⟩
def ir_syntax_parser_typing : AFun := ⟨1, [.cell 2 (some 16)], false, false,
 (.seq (.region [⟨(some 2), none, .lalloc [(.i .i64 0), (.b false), (.i .i64 0), (.s []), (.i .i64 0), (.i .i64 0), .ns, (.i .i64 0), (.s []), (.i .i64 0), (.i .i64 0), .ns, .ns, (.s []), (.s []), (.s [])]⟩] none [0, 2])
 (.seq (.region [⟨(some 4), none, .mov (.t 0)⟩,
   ⟨(some 5), none, .call (.c (.fn (.func F_syntax_parser_name) [] [])) [(.t 4)]⟩,
   ⟨(some 3), none, .asg (.t 5)⟩] none [0, 2, 3])
 (.seq (.region [⟨(some 6), none, .mov (.t 3)⟩,
   ⟨(some 7), none, .mov (.t 0)⟩,
   ⟨(some 8), none, .call (.c (.fn (.func F_syntax_parser_concept) [] [])) [(.t 7)]⟩,
   ⟨(some 9), none, .build [(.i .i64 0), (.b false), (.i .i64 0), (.s []), (.i .i64 0), (.i .i64 0), .ns, (.i .i64 0), (.s []), (.i .i64 0), (.i .i64 0), .ns, .ns, (.s []), (.s []), (.s [])] [(0, 1, (.c (.i .i64 8))), (14, 1, (.t 6)), (7, 5, (.t 8))]⟩,
   ⟨none, none, .store 16 (.t 2) (.t 9)⟩] none [2])
 .ret)))⟩
def ir_syntax_parser_link : AFun := ⟨1, [.cell 2 (some 16)], false, false,
 (.seq (.region [⟨(some 2), none, .lalloc [(.i .i64 0), (.b false), (.i .i64 0), (.s []), (.i .i64 0), (.i .i64 0), .ns, (.i .i64 0), (.s []), (.i .i64 0), (.i .i64 0), .ns, .ns, (.s []), (.s []), (.s [])]⟩] none [0, 2])
 (.seq (.region [⟨(some 5), none, .mov (.t 0)⟩,
   ⟨(some 6), none, .call (.c (.fn (.func F_syntax_parser_name) [] [])) [(.t 5)]⟩,
   ⟨(some 3), none, .asg (.t 6)⟩] none [0, 2, 3])
 (.seq (.region [⟨(some 7), none, .mov (.t 0)⟩,
   ⟨(some 8), none, .call (.c (.fn (.func F_syntax_parser_name) [] [])) [(.t 7)]⟩,
   ⟨(some 4), none, .asg (.t 8)⟩] none [0, 2, 3, 4])
 (.seq (.region [⟨(some 9), none, .mov (.t 3)⟩,
   ⟨(some 10), none, .mov (.t 4)⟩,
   ⟨(some 11), none, .mov (.t 0)⟩,
   ⟨(some 12), none, .call (.c (.fn (.func F_syntax_parser_name) [] [])) [(.t 11)]⟩,
   ⟨(some 13), none, .build [(.i .i64 0), (.b false), (.i .i64 0), (.s []), (.i .i64 0), (.i .i64 0), .ns, (.i .i64 0), (.s []), (.i .i64 0), (.i .i64 0), .ns, .ns, (.s []), (.s []), (.s [])] [(0, 1, (.c (.i .i64 9))), (14, 1, (.t 9)), (13, 1, (.t 10)), (15, 1, (.t 12))]⟩,
   ⟨none, none, .store 16 (.t 2) (.t 13)⟩] none [2])
 .ret))))⟩
def ir_syntax_whole_1 : AFun := ⟨2, [], false, true,
 (.seq (.region [⟨(some 2), none, .load none (.t 0)⟩,
   ⟨(some 3), none, .load none (.t 1)⟩,
   ⟨(some 4), none, .call (.t 2) [(.t 3)]⟩] none [1])
 (.region [⟨(some 5), none, .load none (.t 1)⟩,
   ⟨(some 6), none, .call (.c (.fn (.func F_syntax_parser_end) [] [])) [(.t 5)]⟩] none []))⟩
def ir_syntax_parser_end : AFun := ⟨1, [], false, false,
 (.seq (.region [⟨(some 2), none, .mov (.t 0)⟩,
   ⟨(some 3), none, .call (.c (.fn (.func F_syntax_parser_token) [] [])) [(.t 2)]⟩,
   ⟨(some 4), none, .getf 0 none (.t 3)⟩,
   ⟨(some 5), none, .bin .neq (.t 4) (.c (.i .i64 4))⟩] none [0, 5])
 (.cond (.t 5)
  (.region [⟨(some 6), none, .mov (.t 0)⟩,
    ⟨(some 7), none, .call (.c (.fn (.func F_syntax_parser_fail) [] [])) [(.t 6), (.c (.i .i64 30))]⟩] none [])
  .skip))⟩
def ir_terms_Compare : AFun := ⟨2, [.tmp 4], true, false,
 (.seq (.region [⟨(some 2), none, .lbox (.t 0)⟩,
   ⟨(some 3), none, .lbox (.t 1)⟩,
   ⟨(some 4), none, .asg (.c (.i .i64 0))⟩] none [2, 3])
 (.seq (.region [⟨(some 5), none, .load (some 5) (.t 2)⟩,
   ⟨(some 6), none, .call (.c (.fn (.func F_terms_grow) [] [])) [(.t 5)]⟩,
   ⟨(some 7), none, .load (some 5) (.t 3)⟩,
   ⟨(some 8), none, .call (.c (.fn (.func F_terms_grow) [] [])) [(.t 7)]⟩,
   ⟨(some 9), none, .call (.c (.fn (.func F_terms_tree_compare) [] [])) [(.t 6), (.t 8)]⟩,
   ⟨(some 4), none, .asg (.t 9)⟩] (some ([0, 1, 2, 3, 4, 5], [])) [4])
 .ret))⟩
end Go.Ai.Z
