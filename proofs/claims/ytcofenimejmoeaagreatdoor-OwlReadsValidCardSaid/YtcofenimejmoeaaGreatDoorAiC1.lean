/-
 Functions whose answer is known.
-/
import Derived.Test.YtcofenimejmoeaaGreatDoorAiA1
import Derived.Lib.ItoaLen
import Derived.Lib.Bytealg
import Derived.Lib.Atoi
import Derived.Test.YtcofenimejmoeaaGreatDoorAiDf
set_option maxRecDepth 100000
set_option linter.unusedSimpArgs false
set_option linter.unusedVariables false
set_option linter.unusedSectionVars false
namespace Go.Ai
def joinL (sep:Rl):List Rl→Rl
 | []=>[]
 | x::r=>x++r.flatMap fun y=>sep++y
def Xj:List AV→Option AV
 | [.sl es,.s sep]=>(es.mapM strOf).bind fun l=>if (joinL sep l).length≤1073741824∧l.length≤1073741824 then some (.s (joinL sep l)) else none
 | _=>none
def Xk:List AV→Option AV
 | [.i .i64 n]=>if -9223372036854775808≤n∧n≤9223372036854775807 then some (.s (Lib.itoa n)) else none
 | _=>none
def Xl:List AV→Option AV
 | [.s l]=>if l.length≤18∨(l.length=19∧l.head?=some 45) then (Lib.atoi l).map fun n=>.tu [.i .i64 n,.ni] else none
 | _=>none
def lD (b:UInt8):Rl→Option (Rl×Rl)
 | []=>none
 | x::r=>if x=b then some ([],r) else (lD b r).map fun p=>(x::p.1,p.2)
def Vm:List AV→Option AV
 | [.s l,.s [b]]=>some (.i .i64 (Lib.indexByte l b))
 | _=>none
def YS (x:Rl):List Rl→List Rl
 | []=>[x]
 | y::r=>if y<x then y::YS x r else x::y::r
def vM:List Rl→List Rl
 | []=>[]
 | x::r=>YS x (vM r)
def Gp:List Rl→Bool
 | a::b::r=>decide (a<b) && Gp (b::r)
 | _=>true
theorem Mc (x:Rl):∀l,(YS x l).Perm (x::l)
 | []=>.refl _
 | y::r=>by
  simp only [YS];split
  ·exact (List.Perm.cons y (Mc x r)).trans (List.Perm.swap x y r)
  ·exact .refl _
theorem uo:∀l,(vM l).Perm l
 | []=>.refl _
 | x::r=>(Mc x _).trans (List.Perm.cons x (uo r))
theorem NT (x:Rl):∀l:List Rl,l.Pairwise (fun a b=>a≤b)→(YS x l).Pairwise (fun a b=>a≤b)
 | [],_=>by simp [YS]
 | y::r,h=>by
  obtain ⟨h1,h2⟩:=List.pairwise_cons.1 h;simp only [YS];split
  ·rename_i hlt;refine List.pairwise_cons.2 ⟨fun z hz=>?_,NT x r h2⟩;rcases List.mem_cons.1 ((Mc x r).mem_iff.1 hz) with rfl|hz
   ·exact List.le_of_lt hlt
   ·exact h1 z hz
  ·rename_i hnlt;have hxy:x≤y:=List.not_lt.1 hnlt;refine List.pairwise_cons.2 ⟨fun z hz=>?_,h⟩;rcases List.mem_cons.1 hz with rfl|hz
   ·exact hxy
   ·exact List.le_trans hxy (h1 z hz)
theorem DX:∀l:List Rl,(vM l).Pairwise (fun a b=>a≤b)
 | []=>.nil
 | x::r=>NT x _ (DX r)
theorem Hz:∀l:List Rl,Gp l=true→l.Pairwise (fun a b=>a<b)
 | [],_=>.nil
 | [a],_=>by simp
 | a::b::r,h=>by
  simp only [Gp,Bool.and_eq_true,decide_eq_true_eq] at h;have ih:=Hz (b::r) h.2;refine List.pairwise_cons.2 ⟨fun z hz=>?_,ih⟩;rcases List.mem_cons.1 hz with rfl|hz
  ·exact h.1
  ·exact List.lt_trans h.1 ((List.pairwise_cons.1 ih).1 z hz)
def WZ (s:St):AV→Option (List Rl)
 | .im es=>es.mapM fun p=>strOf p.1
 | .mp l=>match s[l]? with
  | some (.map es)=>es.mapM fun p=>strOf p.1
  | some (.umap es)=>some (es.map (·.1))
  | _=>none
 | .nm=>some []
 | _=>none
def YR:AV→Bool
 | .im _ | .mp _ | .nm=>true
 | _=>false
def Xi (f:Nat):List AV→St→Option AV
 | [m],_=>if YR m then some (.fn (.func f) [] [.kb m]) else none
 | _,_=>none
def slS (l:List Rl):AV:=match l with | []=>.ns|l=>.sl (l.map .s)
def Gw (ks:List Nat):List AV→St→Option AV
 | [.fn (.func f) [] [.kb m]],s=>if ks.contains f then (WZ s m).bind fun l=>if Gp (vM l)∧l.length≤1048576∧(∀x∈l,x.length≤1048576) then some (slS (vM l)) else none else none
 | _,_=>none
end Go.Ai
namespace Go.Ai.Z
abbrev oI:Nat:=5
abbrev xU:Nat:=9
abbrev oG:Nat:=13
abbrev iJ:Nat:=15
abbrev wZ:Nat:=11
abbrev oC:Nat:=14
abbrev Ej:Nat:=31
abbrev sO:Nat:=32
abbrev lN:Nat:=33
abbrev gQ:Nat:=60
abbrev lX:Nat:=61
abbrev gY:Nat:=62
abbrev ja:Nat:=63
abbrev jH:Nat:=64
abbrev kZ:Nat:=65
abbrev iK:Nat:=66
abbrev jG:Nat:=67
abbrev lg:Nat:=68
abbrev kN:Nat:=69
abbrev iY:Nat:=70
abbrev kP:Nat:=71
abbrev jM:Nat:=72
abbrev iD:Nat:=73
abbrev jO:Nat:=74
abbrev bK:Nat:=75
abbrev bQ:Nat:=77
abbrev aN:Nat:=78
abbrev aH:Nat:=79
abbrev aP:Nat:=107
abbrev aO:Nat:=80
abbrev pz:Nat:=116
abbrev vU:Nat:=117
abbrev wQ:Nat:=144
abbrev lu:Nat:=145
abbrev qP:Nat:=146
abbrev uH:Nat:=20
abbrev qO:Nat:=147
abbrev vg:Nat:=148
abbrev qM:Nat:=115
abbrev pV:Nat:=46
abbrev lW:Nat:=97
abbrev kM:Nat:=142
abbrev jr:Nat:=93
abbrev jZ:Nat:=122
abbrev oP:Nat:=114
abbrev fH:Nat:=167
abbrev fV:Nat:=173
abbrev dS:Nat:=108
abbrev aU:Nat:=109
abbrev iL:Nat:=110
abbrev pG:Nat:=111
abbrev gK:Nat:=112
abbrev lY:Nat:=113
abbrev vV:Nat:=143
abbrev AY:Nat:=168
abbrev nD:Nat:=76
abbrev pF:Nat:=81
abbrev qK:Nat:=34
abbrev sK:Nat:=35
abbrev kL:Nat:=17
abbrev fU:Nat:=36
abbrev oO:Nat:=82
abbrev lF:Nat:=83
abbrev jL:Nat:=84
abbrev qI:Nat:=118
abbrev nS:Nat:=149
abbrev qJ:Nat:=120
abbrev sQ:Nat:=150
abbrev lU:Nat:=88
abbrev su:Nat:=37
abbrev ve:Nat:=38
abbrev nC:Nat:=39
abbrev jq:Nat:=86
abbrev mr:Nat:=87
abbrev bP:Nat:=85
abbrev cO:Nat:=119
abbrev lV:Nat:=21
abbrev vW:Nat:=22
abbrev dY:Nat:=23
abbrev jP:Nat:=24
abbrev xR:Nat:=25
abbrev bM:Nat:=44
abbrev jC:Nat:=43
abbrev iC:Nat:=45
abbrev kR:Nat:=47
abbrev eP:Nat:=48
abbrev gV:Nat:=92
abbrev iT:Nat:=49
abbrev fE:Nat:=50
abbrev jb:Nat:=51
abbrev oD:Nat:=52
abbrev wY:Nat:=96
abbrev AX:Nat:=134
abbrev o9:Nat:=18
abbrev pq:Nat:=40
abbrev qL:Nat:=41
abbrev Dw:Nat:=5
abbrev eU:Nat:=36
abbrev bG:Nat:=39
abbrev qX:Nat:=62
abbrev Ti:Nat:=112
abbrev au:Nat:=9
abbrev Zp:Nat:=37
abbrev xQ:Nat:=0
abbrev BX:Nat:=1
abbrev yO:Nat:=3
end Go.Ai.Z
namespace Go.Ai.Zi
abbrev o (d:Nat) (p:AOp):aI:=⟨some d,none,p⟩
abbrev w (p:AOp):aI:=⟨none,none,p⟩
abbrev t (n:Nat):IX:=.t n
abbrev m (d x:Nat):aI:=⟨some d,none,.mov (.t x)⟩
abbrev a (d x:Nat):aI:=⟨some d,none,.asg (.t x)⟩
abbrev l (d x:Nat):aI:=⟨some d,none,.load none (.t x)⟩
abbrev n (d s x:Nat):aI:=⟨some d,none,.load (some s) (.t x)⟩
abbrev d (d s x:Nat):aI:=⟨some d,none,.fld s (.t x)⟩
abbrev e (d x i:Nat):aI:=⟨some d,none,.ext (.t x) i⟩
abbrev c (d f:Nat) (l:List IX):aI:=⟨some d,none,.call (.c (.fn (.func f) [] [])) l⟩
abbrev g (d x:Nat) (p:AOp):aI:=⟨some d,some (x,true),p⟩
abbrev h (d x:Nat) (p:AOp):aI:=⟨some d,some (x,false),p⟩
abbrev r (l:List aI) (k:List Nat):bH:=.region l none k
abbrev q (x y:bH):bH:=.seq x y
abbrev V (x y:Nat):AOp:=.pick (.t x) (.t y) (.c (.b false))
abbrev U (x y:Nat):AOp:=.pick (.t x) (.c (.b true)) (.t y)
abbrev N (x:Nat):AOp:=.un .not (.t x)
abbrev B (o:BinOp) (x:Nat) (n:Int):AOp:=.bin o (.t x) (.c (.i .i64 n))
abbrev D (o:BinOp) (x y:Nat):AOp:=.bin o (.t x) (.t y)
abbrev M (x:Nat):AOp:=.mov (.t x)
abbrev L (x:Nat):AOp:=.load none (.t x)
abbrev E (c x:Nat):AOp:=.len c (.t x)
abbrev H (x:Nat):AOp:=.nilchk (.t x)
abbrev X (c x y:Nat):AOp:=.idx c (.t x) (.t y)
abbrev G (c x:Nat):AOp:=.fld c (.t x)
abbrev j (d:Nat) (x:Bool):aI:=⟨some d,none,.asg (.c (.b x))⟩
abbrev i (d:Nat) (x:Int):aI:=⟨some d,none,.asg (.c (.i .i64 x))⟩
abbrev y (x n:Nat):bH:=.cond (.t x) .skip (.exit n)
abbrev u (x:Nat) (c:bH):bH:=.cond (.t x) c .skip
abbrev z (x d:Nat) (b:Bool):bH:=.cond (.t x) (.seq (.region [⟨some d,none,.asg (.c (.b b))⟩] none [d]) .ret) .skip
abbrev s (x:Rl):IX:=.c (.s x)
abbrev b (n:Int):IX:=.c (.i .u8 n)
abbrev T:IX:=.c (.b true)
abbrev F:IX:=.c (.b false)
def v (l:List Int):List (Nat×IX):=(List.range l.length).zip (l.map b)
abbrev k (n:Int):IX:=.c (.i .i64 n)
abbrev f (n:Nat):IX:=.c (.fn (.func n) [] [])
end Go.Ai.Zi
namespace Go.Ai.Z
section
open Zi
def lJ:bH:=(q (q (r [m 45 7,m 46 3,o 47 (E 0 46),o 48 (D .lss 45 47)] [3,4,7,48]) (y 48 0)) (q (.block 1 (q (r [m 51 3,m 52 7,o 53 (X 16 51 52),n 54 16 53,c 55 iJ [t 54],o 56 (B .neq 55 0)] [3,4,7,56]) (z 56 2 false))) (r [m 49 7,o 50 (B .add 49 1),a 7 50] [3,4,7])))
def iH:bU:=⟨1,[.tmp 2],true,false,(q (r [j 2 false] [0]) (q (q (r [c 14 xU [],o 15 (N 14)] [0,15]) (z 15 2 false)) (q (q (r [m 16 0,o 17 (E 0 16),o 18 (B .gtr 17 5000)] [0,18]) (z 18 2 true)) (q (r [m 20 0,c 21 oG [t 20],m 19 21,e 22 19 0,e 23 19 1,e 24 19 2,e 25 19 3,a 3 22,a 4 23,a 5 24,a 6 25] [0,3,4,5,6]) (q (q (r [m 26 6,o 27 (B .neq 26 0)] [0,3,4,5,27]) (u 27 (q (r [m 28 3,o 29 (E 0 28),o 30 (B .eql 29 0),m 31 30,g 32 31 (M 4),g 33 31 (.bin .eql (t 32) (s [])),o 34 (V 31 33),m 35 34,g 36 35 (M 5),g 37 35 (B .geq 36 0),o 38 (V 35 37),m 39 38,g 40 39 (M 5),g 41 39 (M 0),g 42 39 (E 0 41),g 43 39 (D .leq 40 42),o 44 (V 39 43),a 2 44] [2]) .ret))) (q (q (r [i 7 0] [3,4,7]) (.block 0 (.loop [3,4,7] lJ))) (q (r [m 58 3,m 59 4,c 60 wZ [t 58,t 59],m 57 60,e 61 57 0,e 62 57 1,a 8 61,a 9 62] [3,4,8,9]) (q (q (r [m 63 9,o 64 (B .neq 63 0)] [3,4,8,64]) (z 64 2 true)) (q (r [m 66 8,c 67 oG [t 66],m 65 67,e 68 65 0,e 69 65 1,e 70 65 2,e 71 65 3,a 10 68,a 11 69,a 12 70,a 13 71] [3,4,10,11,13]) (q (r [m 72 13,o 73 (B .eql 72 0),m 74 73,g 75 74 (M 11),g 76 74 (M 4),g 77 74 (D .eql 75 76),o 78 (V 74 77),m 79 78,g 80 79 (M 3),g 81 79 (M 10),g 82 79 (.call (f oC) [t 80,t 81]),o 83 (V 79 82),a 2 83] [2]) .ret))))))))))⟩
def Ib:bU:=⟨0,[.tmp 0],true,false,(q (r [j 0 false] []) (q (r [o 25 (.bsl true Dw 1 24 [(.i .u8 0)] (v [80,114,101,102,105,120,40,58,61,60,120,62,41,32,79,110,116,111,108,111,103,121,40,41])),o 26 (.mark (t 25)),c 27 oG [t 26],m 24 27,e 28 24 0,e 29 24 1,e 30 24 2,e 31 24 3,a 1 28,a 2 29,a 3 30,a 4 31] [2,3,4]) (q (r [o 33 (.bsl true Dw 1 49 [(.i .u8 0)] (v [80,114,101,102,105,120,40,58,61,60,120,62,41,32,79,110,116,111,108,111,103,121,40,68,105,115,106,111,105,110,116,67,108,97,115,115,101,115,40,58,65,32,58,66,32,58,67,41,41])),o 34 (.mark (t 33)),c 35 oG [t 34],m 32 35,e 36 32 0,e 37 32 1,e 38 32 2,e 39 32 3,a 5 36,a 6 37,a 7 38,a 8 39] [2,3,4,5,8]) (q (r [o 41 (.bsl true Dw 1 48 [(.i .u8 0)] (v [80,114,101,102,105,120,40,58,61,60,120,62,41,32,79,110,116,111,108,111,103,121,40,83,117,98,67,108,97,115,115,79,102,40,58,65,32,111,119,108,58,84,104,105,110,103,41,41])),o 42 (.mark (t 41)),c 43 oG [t 42],m 40 43,e 44 40 0,e 45 40 1,e 46 40 2,e 47 40 3,a 9 44,a 10 45,a 11 46,a 12 47] [2,3,4,5,8,11,12]) (q (r [o 49 (.bsl true Dw 1 58 [(.i .u8 0)] (v [80,114,101,102,105,120,40,58,61,60,120,62,41,32,79,110,116,111,108,111,103,121,40,67,108,97,115,115,65,115,115,101,114,116,105,111,110,40,79,98,106,101,99,116,79,110,101,79,102,40,58,97,41,32,58,98,41,41])),o 50 (.mark (t 49)),c 51 oG [t 50],m 48 51,e 52 48 0,e 53 48 1,e 54 48 2,e 55 48 3,a 13 52,a 14 53,a 15 54,a 16 55] [2,3,4,5,8,11,12,15,16]) (q (r [o 57 (.bsl true Dw 1 10 [(.i .u8 0)] [(0,b 79),(1,b 110),(2,b 116),(3,b 111),(4,b 108),(5,b 111),(6,b 103),(7,b 121),(8,b 40),(9,b 41)]),o 58 (.mark (t 57)),c 59 oG [t 58],m 56 59,e 60 56 0,e 61 56 1,e 62 56 2,e 63 56 3,a 17 60,a 18 61,a 19 62,a 20 63] [2,3,4,5,8,11,12,15,16,19,20]) (q (q (r [m 64 2,o 65 (.bin .neq (t 64) (s [120])),m 66 65,h 67 66 (M 3),h 68 66 (B .neq 67 0),o 69 (U 66 68),m 70 69,h 71 70 (M 4),h 72 70 (B .neq 71 0),o 73 (U 70 72),m 74 73,h 75 74 (M 8),h 76 74 (B .neq 75 0),o 77 (U 74 76),m 78 77,h 79 78 (M 5),h 80 78 (E 0 79),h 81 78 (B .neq 80 3),o 82 (U 78 81),m 83 82,h 84 83 (M 11),h 85 83 (B .neq 84 37),o 86 (U 83 85),m 87 86,h 88 87 (M 12),h 89 87 (B .neq 88 50),o 90 (U 87 89),m 91 90,h 92 91 (M 15),h 93 91 (B .neq 92 23),o 94 (U 91 93),m 95 94,h 96 95 (M 16),h 97 95 (B .neq 96 22),o 98 (U 95 97),m 99 98,h 100 99 (M 19),h 101 99 (B .neq 100 0),o 102 (U 99 101),m 103 102,h 104 103 (M 20),h 105 103 (B .neq 104 50),o 106 (U 103 105)] [5,106]) (z 106 0 false)) (q (q (r [m 107 5,o 108 (.idx 16 (t 107) (k 0)),d 109 0 108,l 110 109,o 111 (B .neq 110 3),m 112 111,h 113 112 (M 5),h 114 112 (.idx 16 (t 113) (k 0)),h 115 112 (G 2 114),h 116 112 (G 1 115),h 117 112 (L 116),h 118 112 (.bin .neq (t 117) (s [65])),o 119 (U 112 118),m 120 119,h 121 120 (M 5),h 122 120 (.idx 16 (t 121) (k 0)),h 123 120 (G 7 122),h 124 120 (G 1 123),h 125 120 (L 124),h 126 120 (.bin .neq (t 125) (s [66])),o 127 (U 120 126),m 128 127,h 129 128 (M 5),h 130 128 (.idx 16 (t 129) (k 1)),h 131 128 (G 2 130),h 132 128 (G 1 131),h 133 128 (L 132),h 134 128 (.bin .neq (t 133) (s [65])),o 135 (U 128 134),m 136 135,h 137 136 (M 5),h 138 136 (.idx 16 (t 137) (k 1)),h 139 136 (G 7 138),h 140 136 (G 1 139),h 141 136 (L 140),h 142 136 (.bin .neq (t 141) (s [67])),o 143 (U 136 142),m 144 143,h 145 144 (M 5),h 146 144 (.idx 16 (t 145) (k 2)),h 147 144 (G 2 146),h 148 144 (G 1 147),h 149 144 (L 148),h 150 144 (.bin .neq (t 149) (s [66])),o 151 (U 144 150),m 152 151,h 153 152 (M 5),h 154 152 (.idx 16 (t 153) (k 2)),h 155 152 (G 7 154),h 156 152 (G 1 155),h 157 152 (L 156),h 158 152 (.bin .neq (t 157) (s [67])),o 159 (U 152 158)] [159]) (z 159 0 false)) (q (r [o 160 (.build [(.i .i64 0),(.s []),(.i .i64 0),(.i .i64 0),.ns] [(0,1,k 3),(1,1,s [66])]),o 161 (.bsl false eU 5 1 [(.i .i64 0),(.s []),(.i .i64 0),(.i .i64 0),.ns] [(0,t 160)]),o 162 (.build [(.i .i64 0),(.s []),(.i .i64 0),(.i .i64 0),.ns] [(0,1,k 6),(1,1,s [114]),(4,1,t 161)]),o 21 (.lalloc [(.i .i64 0),(.s []),(.i .i64 0),(.i .i64 0),.ns]),w (.store 5 (t 21) (t 162))] [21]) (q (r [o 164 (.build [(.i .i64 0),(.s []),(.i .i64 0),(.i .i64 0),.ns] [(0,1,k 3),(1,1,s [65])]),n 165 5 21,o 166 (.build [(.i .i64 0),(.b false),(.i .i64 0),(.s []),(.i .i64 0),(.i .i64 0),.ns,(.i .i64 0),(.s []),(.i .i64 0),(.i .i64 0),.ns,.ns,(.s []),(.s []),(.s [])] [(0,1,k 1),(1,1,T),(2,5,t 164),(7,5,t 165)]),o 167 (.bsl false bG 16 1 [(.i .i64 0),(.b false),(.i .i64 0),(.s []),(.i .i64 0),(.i .i64 0),.ns,(.i .i64 0),(.s []),(.i .i64 0),(.i .i64 0),.ns,.ns,(.s []),(.s []),(.s [])] [(0,t 166)]),c 168 wZ [t 167,s [120]],m 163 168,e 169 163 0,e 170 163 1,a 22 169,a 23 170] [22,23]) (q (r [m 171 23,o 172 (B .eql 171 0),m 173 172,g 174 173 (M 22),g 175 173 (.b2s (t 174)),g 176 173 (.bin .eql (t 175) (s [80,114,101,102,105,120,40,58,61,60,120,62,41,10,80,114,101,102,105,120,40,111,119,108,58,61,60,104,116,116,112,58,47,47,119,119,119,46,119,51,46,111,114,103,47,50,48,48,50,47,48,55,47,111,119,108,35,62,41,10,80,114,101,102,105,120,40,120,115,100,58,61,60,104,116,116,112,58,47,47,119,119,119,46,119,51,46,111,114,103,47,50,48,48,49,47,88,77,76,83,99,104,101,109,97,35,62,41,10,79,110,116,111,108,111,103,121,40,10,83,117,98,67,108,97,115,115,79,102,40,65,110,110,111,116,97,116,105,111,110,40,58,111,112,101,110,32,34,116,114,117,101,34,41,32,58,65,32,79,98,106,101,99,116,83,111,109,101,86,97,108,117,101,115,70,114,111,109,40,58,114,32,58,66,41,41,10,41,10])),o 177 (V 173 176),a 0 177] [0]) .ret)))))))))))⟩
def zh (hnd:AV→Option (List (List AV))):Gl:=⟨1,6,[o 2 (.halloc [.ns]),o 3 (.halloc [(.s [])]),o 4 (.halloc [(.i .i64 0)]),o 5 (.halloc [(.i .i64 0)])],o 10 (.mkfn (.func Ej) [] [t 2,t 3,t 4,t 5]),10,Ej,[2,3,4,5],(q (r [m 11 0,c 12 sO [t 11],a 6 12] [2,3,4,5,6]) (q (r [m 13 6,c 14 lN [t 13]] [2,3,4,5,6]) (q (.region [m 15 6,o 16 (H 15),d 17 6 16,o 18 (.loadw none (t 17) [2,3,4,5]),m 19 6,o 20 (H 19),d 21 4 20,o 22 (.loadw none (t 21) [2,3,4,5]),w (.storep 1 (t 2) (t 18)),w (.storep 1 (t 3) (t 22)),w (.storep 1 (t 4) (k 0)),w (.storep 1 (t 5) (k 0))] (some ([0,1,2,3,4,5,6,7,8,9,10,11],[])) [2,3,4,5]) .ret))),[.cell 2 none,.cell 3 none,.cell 4 none,.cell 5 none],hnd,(some (q (r [m 7 0,o 8 (E 0 7),o 9 (B .gtr 8 65536)] [0,2,3,4,5,9]) (u 9 (q (r [w (.store 1 (t 2) (.c .ns)),w (.store 1 (t 3) (s [])),w (.store 1 (t 4) (k 0)),w (.store 1 (t 5) (k 2))] [2,3,4,5]) .ret))))⟩
def uV:bU:=⟨1,[.tmp 2],false,true,(q (r [o 2 (.asg (.c .np))] [0]) (q (r [m 4 0,o 5 .hmap,o 6 (.build [.ns,(.i .i64 0),.ns,.nm,(.s []),(.b false),.ns,.nm,.nm] [(0,1,t 4),(3,1,t 5)]),o 7 (.hbox (t 6)),a 3 7] [3]) (q (r [m 8 3,o 9 .hmap,m 10 3,o 11 (.mkfn (.func gQ) [t 10] []),w (.hins 1 (t 9) (s wC9) (t 11)),m 12 3,o 13 (.mkfn (.func lX) [t 12] []),w (.hins 1 (t 9) (s wC2) (t 13)),m 14 3,o 15 (.mkfn (.func gY) [t 14] []),w (.hins 1 (t 9) (s wB3) (t 15)),m 16 3,o 17 (.mkfn (.func ja) [t 16] []),w (.hins 1 (t 9) (s wB5) (t 17)),m 18 3,o 19 (.mkfn (.func jH) [t 18] []),w (.hins 1 (t 9) (s wB2) (t 19)),m 20 3,o 21 (.mkfn (.func kZ) [t 20] []),w (.hins 1 (t 9) (s wA3) (t 21)),m 22 3,o 23 (.mkfn (.func iK) [t 22] []),w (.hins 1 (t 9) (s wA9) (t 23)),m 24 3,o 25 (.mkfn (.func jG) [t 24] []),w (.hins 1 (t 9) (s wB7) (t 25)),m 26 3,o 27 (.mkfn (.func lg) [t 26] []),w (.hins 1 (t 9) (s wB0) (t 27)),m 28 9,o 29 (H 8),d 30 7 29,w (.store 1 (t 30) (t 28))] [3]) (q (r [m 31 3,o 32 .hmap,m 33 3,o 34 (.mkfn (.func kN) [t 33] []),w (.hins 1 (t 32) (s wB4) (t 34)),m 35 3,o 36 (.mkfn (.func iY) [t 35] []),w (.hins 1 (t 32) (s wB1) (t 36)),m 37 3,o 38 (.mkfn (.func kP) [t 37] []),w (.hins 1 (t 32) (s wA5) (t 38)),m 39 3,o 40 (.mkfn (.func jM) [t 39] []),w (.hins 1 (t 32) (s wA6) (t 40)),m 41 3,o 42 (.mkfn (.func iD) [t 41] []),w (.hins 1 (t 32) (s wB6) (t 42)),m 43 3,o 44 (.mkfn (.func jO) [t 43] []),w (.hins 1 (t 32) (s wA8) (t 44)),m 45 32,o 46 (H 31),d 47 8 46,w (.store 1 (t 47) (t 45))] [3]) (q (r [m 48 3,a 2 48] [2]) .ret)))))⟩
def aA:bU:=⟨1,[.tmp 2],false,false,(q (r [o 2 (.asg (.c .ns))] [0]) (q (r [m 3 0,m 4 0,c 5 bK [t 4,s [67,108,97,115,115]],m 6 5,h 7 6 (M 0),h 8 6 (.call (f bK) [t 7,s wC7]),o 9 (U 6 8),m 10 9,h 11 10 (M 0),h 12 10 (.call (f bK) [t 11,s wD0]),o 13 (U 10 12),m 14 13,h 15 14 (M 0),h 16 14 (.call (f bK) [t 15,s wC4]),o 17 (U 14 16),c 18 bQ [t 3,t 17]] [0]) (q (r [m 19 0,c 20 aN [t 19]] [0]) (q (r [m 21 0,c 22 aH [t 21,s [40]]] [0]) (q (r [m 23 0,c 24 aP [t 23]] [0]) (q (r [m 25 0,c 26 aH [t 25,s [41]]] []) (q (r [o 2 (.asg (.c .ns))] [2]) .ret)))))))⟩
def qB:bU:=⟨2,[.tmp 4],false,false,(q (r [j 4 false] [0,1]) (q (r [m 5 0,c 6 aO [t 5],o 7 (.getf 1 none (t 6)),m 8 1,o 9 (D .eql 7 8),a 4 9] [4]) .ret))⟩
def kD:bU:=⟨1,[.cell 2 (some 3)],false,false,(q (r [o 2 (.halloc [(.i .i64 0),(.s []),(.i .i64 0)])] [0,2]) (q (q (r [m 7 0,o 8 (H 7),d 9 2 8,l 10 9,o 11 (E 0 10),o 12 (B .eql 11 0)] [0,2,12]) (u 12 (q (r [m 13 0,c 14 pz [t 13]] [0,2]) (q (r [m 15 0,o 16 (H 15),d 17 1 16,l 18 17,o 19 (.build [(.i .i64 0),(.s []),(.i .i64 0)] [(0,1,k 5),(2,1,t 18)]),o 3 (.halloc [(.i .i64 0),(.s []),(.i .i64 0)]),w (.store 3 (t 3) (t 19))] [0,2,3]) (q (q (.region [m 20 0,o 21 (H 20),d 22 0 21,l 23 22,m 24 0,o 25 (H 24),d 26 1 25,l 27 26,o 28 (.slc 1 (t 23) (some (t 27)) none),a 4 28] (some ([0,1,2,3,4,5,6,7,8,9],[])) [0,2,3,4]) (q (r [m 29 4,o 30 (E 0 29),o 31 (B .gtr 30 0)] [0,2,3,4,31]) (u 31 (q (r [m 33 4,c 34 vU [t 33],m 32 34,e 35 32 0,e 36 32 1,a 5 35,a 6 36] [0,2,3,4,5,6]) (q (q (r [m 37 6,o 38 (B .eql 37 0)] [0,2,3,4,5,6,38]) (u 38 (r [m 39 0,o 40 (H 39),d 41 1 40,l 42 41,o 43 (.build [(.i .i64 0),(.i .i64 0)] [(0,1,t 42),(1,1,k 50)]),o 44 (.mkif qX (t 43)),w (.panic (t 44))] [0,2,3,4,5,6]))) (q (.region [m 45 5,m 46 4,m 47 6,o 48 (.slc 1 (t 46) none (some (t 47))),o 49 (.b2s (t 48)),d 50 0 3,w (.storep 1 (t 50) (t 45)),d 51 1 3,w (.storep 1 (t 51) (t 49))] (some ([0,1,2,3,4,5,6,7,8],[])) [0,2,3,6]) (r [m 52 0,o 53 (H 52),d 54 1 53,l 55 54,m 56 6,o 57 (D .add 55 56),o 58 (H 52),d 59 1 58,w (.store 1 (t 59) (t 57))] [0,2,3]))))))) (r [m 60 0,n 61 3 3,o 62 (.bsl false Ti 3 1 [(.i .i64 0),(.s []),(.i .i64 0)] [(0,t 61)]),o 63 (H 60),d 64 2 63,w (.store 1 (t 64) (t 62))] [0,2])))))) (q (r [m 65 0,o 66 (H 65),d 67 2 66,l 68 67,o 69 (.idx 3 (t 68) (k 0)),n 70 3 69,w (.store 3 (t 2) (t 70))] [2]) .ret)))⟩
def dP:bH:=(q (q (.region [m 2 0,o 3 (H 2),d 4 1 3,l 5 4,m 6 0,o 7 (H 6),d 8 0 7,l 9 8,o 10 (E 0 9),o 11 (D .lss 5 10)] (some ([0,1,2,3,4,5,6,7,8,9],[])) [0,11]) (y 11 0)) (.block 1 (q (.region [m 12 0,o 13 (H 12),d 14 0 13,l 15 14,m 16 0,o 17 (H 16),d 18 1 17,l 19 18,o 20 (X 1 15 19),l 21 20] (some ([0,1,2,3,4,5,6,7,8,9],[])) [0,21]) (.block 2 (q (q (r [o 23 (.bin .eql (t 21) (b 9)),a 22 23] [0,21,22]) (.cond (t 22) .skip (q (r [o 24 (.bin .eql (t 21) (b 10)),a 22 24] [0,21,22]) (.cond (t 22) .skip (q (r [o 25 (.bin .eql (t 21) (b 13)),a 22 25] [0,21,22]) (.cond (t 22) .skip (r [o 26 (.bin .eql (t 21) (b 32)),a 22 26] [0,21,22]))))))) (.cond (t 22) (r [m 27 0,o 28 (H 27),d 29 1 28,l 30 29,o 31 (B .add 30 1),o 32 (H 27),d 33 1 32,w (.store 1 (t 33) (t 31))] [0]) (q (r [o 35 (.bin .eql (t 21) (b 35)),a 34 35] [0,34]) (.cond (t 34) (.region [m 36 0,o 37 (H 36),d 38 1 37,l 39 38,m 40 0,o 41 (H 40),d 42 0 41,l 43 42,m 44 0,o 45 (H 44),d 46 1 45,l 47 46,o 48 (.slc 1 (t 43) (some (t 47)) none),c 49 wQ [t 48,f lu],o 50 (D .add 39 49),o 51 (H 36),d 52 1 51,w (.store 1 (t 52) (t 50))] (some ([0,1,2,3,4,5,6,7,8,9,10,11,12,13,14,15,16,17],[])) [0]) .ret))))))))
def oq:bU:=⟨1,[],false,false,(.block 0 (.loop [0] dP))⟩
def uw:bH:=(q (q (r [m 5 4,m 6 0,o 7 (E 0 6),o 8 (D .lss 5 7),m 9 8,g 10 9 (M 1),g 11 9 (M 0),g 12 9 (M 4),g 13 9 (X 1 11 12),g 14 9 (L 13),g 15 9 (.call (t 10) [t 14]),o 16 (V 9 15)] [0,1,4,16]) (y 16 0)) (.block 1 (r [m 17 4,o 18 (B .add 17 1),a 4 18] [0,1,4])))
def Bz:bU:=⟨2,[.tmp 4],false,false,(q (r [i 4 0] [0,1,4]) (q (.block 0 (.loop [0,1,4] uw)) (q (r [m 19 4,a 4 19] [4]) .ret)))⟩
def o7:bU:=⟨1,[.tmp 2],true,false,(q (r [j 2 false] [0]) (q (r [m 3 0,o 4 (.bin .neq (t 3) (b 10)),a 2 4] [2]) .ret))⟩
def iP:bU:=⟨1,[.tmp 2,.tmp 3],true,false,(q (r [i 2 0,i 3 0] [0]) (q (q (r [m 4 0,o 5 (.idx 1 (t 4) (k 0)),l 6 5] [0,6]) (.block 0 (q (q (r [o 8 (.bin .eql (t 6) (b 40)),a 7 8] [0,6,7]) (.cond (t 7) .skip (q (r [o 9 (.bin .eql (t 6) (b 41)),a 7 9] [0,6,7]) (.cond (t 7) .skip (r [o 10 (.bin .eql (t 6) (b 61)),a 7 10] [0,6,7]))))) (.cond (t 7) (q (r [i 2 1,i 3 1] [2,3]) .ret) (q (r [o 12 (.bin .eql (t 6) (b 94)),a 11 12] [0,6,11]) (.cond (t 11) (q (q (r [m 13 0,o 14 (E 0 13),o 15 (B .gtr 14 1),m 16 15,g 17 16 (M 0),g 18 16 (.idx 1 (t 17) (k 1)),g 19 16 (L 18),g 20 16 (.bin .eql (t 19) (b 94)),o 21 (V 16 20)] [21]) (u 21 (q (r [i 2 1,i 3 2] [2,3]) .ret))) (q (r [i 2 1,i 3 0] [2,3]) .ret)) (q (r [o 23 (.bin .eql (t 6) (b 60)),a 22 23] [0,6,22]) (.cond (t 22) (q (r [m 24 0,c 25 qP [t 24,f uH,b 62],i 2 2,a 3 25] [2,3]) .ret) (q (r [o 27 (.bin .eql (t 6) (b 34)),a 26 27] [0,26]) (u 26 (q (r [m 28 0,c 29 qP [t 28,f qO,b 34],i 2 3,a 3 29] [2,3]) .ret))))))))))) (q (r [m 30 0,c 31 wQ [t 30,f vg],i 2 4,a 3 31] [2,3]) .ret)))⟩
def oN:bU:=⟨3,[.tmp 6],false,false,(q (r [i 6 0] [0,1,2]) (q (r [m 8 0,o 9 (.slc 1 (t 8) (some (k 1)) none),m 10 1,c 11 wQ [t 9,t 10],o 12 (.bin .add (k 1) (t 11)),a 7 12] [0,2,7]) (q (q (r [m 13 7,m 14 0,o 15 (E 0 14),o 16 (D .eql 13 15),m 17 16,h 18 17 (M 0),h 19 17 (M 7),h 20 17 (X 1 18 19),h 21 17 (L 20),h 22 17 (M 2),h 23 17 (D .neq 21 22),o 24 (U 17 23)] [7,24]) (u 24 (q (r [i 6 0] [6]) .ret))) (q (r [m 25 7,o 26 (B .add 25 1),a 6 26] [6]) .ret))))⟩
def nK:bU:=⟨1,[.tmp 2],true,false,(q (r [j 2 false] [0]) (q (r [m 3 0,o 4 (.bin .geq (t 3) (b 33)),m 5 4,g 6 5 (M 0),g 7 5 (.bin .leq (t 6) (b 126)),o 8 (V 5 7),m 9 8,g 10 9 (M 0),g 11 9 (.bin .neq (t 10) (b 60)),o 12 (V 9 11),m 13 12,g 14 13 (M 0),g 15 13 (.bin .neq (t 14) (b 62)),o 16 (V 13 15),m 17 16,g 18 17 (M 0),g 19 17 (.bin .neq (t 18) (b 34)),o 20 (V 17 19),a 2 20] [2]) .ret))⟩
def mX:bU:=⟨1,[.tmp 2],true,false,(q (r [j 2 false] [0]) (q (r [m 3 0,o 4 (.bin .geq (t 3) (b 32)),m 5 4,g 6 5 (M 0),g 7 5 (.bin .leq (t 6) (b 126)),o 8 (V 5 7),m 9 8,g 10 9 (M 0),g 11 9 (.bin .neq (t 10) (b 34)),o 12 (V 9 11),a 2 12] [2]) .ret))⟩
def jW:bU:=⟨1,[.tmp 2],true,false,(q (r [j 2 false] [0]) (q (r [m 3 0,c 4 qM [t 3],m 5 4,h 6 5 (M 0),h 7 5 (.bin .leq (b 48) (t 6)),h 8 5 (M 7),g 9 8 (M 0),g 10 8 (.bin .leq (t 9) (b 57)),h 11 5 (V 8 10),o 12 (U 5 11),m 13 12,h 14 13 (M 0),h 15 13 (.bin .eql (t 14) (b 95)),o 16 (U 13 15),m 17 16,h 18 17 (M 0),h 19 17 (.bin .eql (t 18) (b 58)),o 20 (U 17 19),a 2 20] [2]) .ret))⟩
def wo:bU:=⟨1,[.tmp 2],true,false,(q (r [j 2 false] [0]) (q (r [m 3 0,o 4 (.bin .leq (b 97) (t 3)),m 5 4,g 6 5 (M 0),g 7 5 (.bin .leq (t 6) (b 122)),o 8 (V 5 7),m 9 8,h 10 9 (M 0),h 11 9 (.bin .leq (b 65) (t 10)),h 12 9 (M 11),g 13 12 (M 0),g 14 12 (.bin .leq (t 13) (b 90)),h 15 9 (V 12 14),o 16 (U 9 15),a 2 16] [2]) .ret))⟩
def lS:bU:=⟨2,[],false,false,(q (r [m 4 1,o 5 (N 4)] [0,5]) (u 5 (r [m 6 0,c 7 aO [t 6],o 8 (.getf 2 none (t 7)),o 9 (.build [(.i .i64 0),(.i .i64 0)] [(0,1,t 8),(1,1,k 50)]),o 10 (.mkif qX (t 9)),w (.panic (t 10))] [])))⟩
def rQ:bU:=⟨1,[],false,false,(r [m 2 0,o 3 (H 2),d 4 2 3,w (.store 1 (t 4) (.c .ns))] [])⟩
def lQ:bU:=⟨2,[],false,false,(q (r [m 4 0,m 5 0,m 6 1,c 7 bK [t 5,t 6],c 8 bQ [t 4,t 7]] [0]) (r [m 9 0,c 10 aN [t 9]] []))⟩
def dR:bU:=⟨1,[.tmp 2],false,false,(q (r [o 2 (.asg (s []))] [0]) (q (r [m 7 0,c 8 aO [t 7],o 9 (.getf 1 none (t 8)),a 3 9] [0,3]) (q (r [m 11 3,c 12 pV [t 11,s [58]],m 10 12,e 13 10 0,e 14 10 1,e 15 10 2,a 4 13,a 5 14,a 6 15] [0,3,4,5,6]) (q (r [m 16 0,m 17 0,c 18 aO [t 17],o 19 (.getf 0 none (t 18)),o 20 (B .eql 19 4),m 21 20,g 22 21 (M 6),o 23 (V 21 22),m 24 23,g 25 24 (M 5),g 26 24 (.bin .neq (t 25) (s [])),o 27 (V 24 26),m 28 27,g 29 28 (M 5),g 30 28 (.call (f lW) [t 29,s [58]]),g 31 28 (N 30),o 32 (V 28 31),m 33 32,g 34 33 (M 0),g 35 33 (H 34),g 36 33 (G 3 35),g 37 33 (L 36),g 38 33 (M 4),g 39 33 (.bin .add (t 38) (s [58])),g 40 33 (.look 1 (.b false) false (t 37) (t 39)),o 41 (V 33 40),m 42 41,g 43 42 (M 4),g 44 42 (.bin .neq (t 43) (s [111,119,108])),o 45 (V 42 44),m 46 45,g 47 46 (M 4),g 48 46 (.bin .neq (t 47) (s [120,115,100])),o 49 (V 46 48),c 50 bQ [t 16,t 49]] [0,3]) (q (r [m 51 0,c 52 aN [t 51]] [3]) (q (r [m 53 3,c 54 kM [t 53,s [58]],a 2 54] [2]) .ret))))))⟩
def uq:bU:=⟨2,[.tmp 4,.tmp 5,.tmp 6],true,false,(q (r [o 4 (.asg (s [])),o 5 (.asg (s [])),j 6 false] [0,1]) (q (r [m 7 0,m 8 1,c 9 jr [t 7,t 8],e 10 9 0,e 11 9 1,e 12 9 2,a 4 10,a 5 11,a 6 12] [4,5,6]) .ret))⟩
def je:bU:=⟨2,[.tmp 4,.tmp 5,.tmp 6],true,false,(q (r [o 4 (.asg (s [])),o 5 (.asg (s [])),j 6 false] [0,1]) (q (q (r [m 8 0,m 9 1,c 10 jZ [t 8,t 9],a 7 10] [0,1,7]) (q (r [m 11 7,o 12 (B .geq 11 0)] [0,1,7,12]) (u 12 (q (.region [m 13 0,m 14 7,o 15 (.slcs (t 13) none (some (t 14))),m 16 0,m 17 7,m 18 1,o 19 (E 1 18),o 20 (D .add 17 19),o 21 (.slcs (t 16) (some (t 20)) none),o 4 (.cpy (t 15)),o 5 (.cpy (t 21)),o 6 (.cpy T)] (some ([0,1,2,3,4,5,6,7,8,9,10,11],[])) [4,5,6]) .ret)))) (q (r [m 22 0,a 4 22,o 5 (.asg (s [])),j 6 false] [4,5,6]) .ret)))⟩
def ng:bU:=⟨2,[.tmp 4],true,false,(q (r [j 4 false] [0,1]) (q (r [m 5 0,m 6 1,c 7 oP [t 5,t 6],o 8 (B .geq 7 0),a 4 8] [4]) .ret))⟩
def uQ:bU:=⟨2,[.tmp 4],true,false,(q (r [i 4 0] [0,1]) (q (r [m 5 0,m 6 1,c 7 jZ [t 5,t 6],a 4 7] [4]) .ret))⟩
def oH:bU:=⟨2,[.tmp 4],true,false,(q (r [o 4 (.asg (s []))] [0,1]) (q (r [m 5 0,m 6 1,c 7 fH [t 5,t 6],a 4 7] [4]) .ret))⟩
def dI:bU:=⟨2,[.tmp 4],true,false,(q (r [o 4 (.asg (s []))] [0,1]) (q (q (r [m 5 0,m 6 1,c 7 fV [t 5,t 6]] [0,1,7]) (u 7 (q (r [m 8 0,m 9 1,o 10 (E 1 9),o 11 (.slcs (t 8) (some (t 10)) none),a 4 11] [4]) .ret))) (q (r [m 12 0,a 4 12] [4]) .ret)))⟩
def fF:bU:=⟨2,[.tmp 4],true,false,(q (r [j 4 false] [0,1]) (q (r [m 5 0,o 6 (E 1 5),m 7 1,o 8 (E 1 7),o 9 (D .geq 6 8),m 10 9,g 11 10 (M 0),g 12 10 (M 1),g 13 10 (E 1 12),g 14 10 (.slcs (t 11) none (some (t 13))),g 15 10 (M 1),g 16 10 (D .eql 14 15),o 17 (V 10 16),a 4 17] [4]) .ret))⟩
def kX:bU:=⟨1,[.tmp 2],false,false,(q (r [o 2 (.asg (.c .ns))] [0]) (q (r [m 4 0,c 5 dS [t 4]] [0]) (q (r [m 6 0,c 7 aU [t 6],o 3 (.lalloc [(.i .i64 0),(.s []),(.i .i64 0),(.i .i64 0),.ns]),w (.store 5 (t 3) (t 7))] [0,3]) (q (.region [o 8 (.loadl (some 5) (t 3)),m 9 0,o 10 (.callh 10 (f aU) [t 9] none),o 11 (.build [(.i .i64 0),(.b false),(.i .i64 0),(.s []),(.i .i64 0),(.i .i64 0),.ns,(.i .i64 0),(.s []),(.i .i64 0),(.i .i64 0),.ns,.ns,(.s []),(.s []),(.s [])] [(0,1,k 1),(2,5,t 8),(7,5,t 10)]),o 12 (.bsl false bG 16 1 [(.i .i64 0),(.b false),(.i .i64 0),(.s []),(.i .i64 0),(.i .i64 0),.ns,(.i .i64 0),(.s []),(.i .i64 0),(.i .i64 0),.ns,.ns,(.s []),(.s []),(.s [])] [(0,t 11)]),o 2 (.cpy (t 12))] (some ([0,1,2,3,4,5],[])) [2]) .ret))))⟩
def bg:bH:=(q (q (r [m 4 0,c 5 bK [t 4,s wB9]] [0,5]) (y 5 0)) (.block 1 (q (r [m 6 0,c 7 aN [t 6]] [0]) (q (r [m 8 0,c 9 aH [t 8,s [40]]] [0]) (q (r [m 10 0,c 11 aP [t 10],a 2 11] [0,2]) (q (r [m 12 0,c 13 aO [t 12],o 14 (.getf 1 none (t 13)),a 3 14] [0,2,3]) (q (r [m 15 0,m 16 0,c 17 aO [t 16],o 18 (.getf 0 none (t 17)),o 19 (B .eql 18 3),c 20 bQ [t 15,t 19]] [0,2,3]) (q (r [m 21 0,c 22 aN [t 21]] [0,2,3]) (q (r [m 23 0,c 24 aH [t 23,s [41]]] [0,2,3]) (r [m 25 0,m 26 0,o 27 (H 26),d 28 5 27,l 29 28,m 30 29,h 31 30 (M 2),h 32 30 (.bin .eql (t 31) (s [111,112,101,110])),h 33 30 (M 32),g 34 33 (M 3),g 35 33 (.bin .eql (t 34) (s wD2)),h 36 30 (V 33 35),o 37 (U 30 36),o 38 (H 25),d 39 5 38,w (.store 1 (t 39) (t 37))] [0]))))))))))
def ny:bU:=⟨1,[],false,false,(.block 0 (.loop [0] bg))⟩
def dQ:bU:=⟨1,[.cell 2 (some 5)],false,false,(q (r [o 2 (.lalloc [(.i .i64 0),(.s []),(.i .i64 0),(.i .i64 0),.ns])] [0,2]) (q (q (.region [m 6 0,o 7 (H 6),d 8 8 7,o 9 (.loadv (t 8) 0 8),m 10 0,o 11 (.callh 11 (f aO) [t 10] (some (0,8))),o 12 (.getf 1 none (t 11)),o 13 (.look 1 .nf true (t 9) (t 12)),m 5 13,e 14 5 0,e 15 5 1,o 3 (.cpy (t 14)),o 4 (.cpy (t 15))] (some ([0,1,2,3,4,5,6,7,8,9,10,11,12],[])) [0,2,3,4]) (q (r [m 16 4] [0,2,3,16]) (u 16 (q (r [m 17 3,o 18 (.call (t 17) []),w (.store 5 (t 2) (t 18))] [2]) .ret)))) (q (r [m 19 0,c 20 aP [t 19],o 21 (.build [(.i .i64 0),(.s []),(.i .i64 0),(.i .i64 0),.ns] [(0,1,k 3),(1,1,t 20)]),w (.store 5 (t 2) (t 21))] [2]) .ret)))⟩
def kQ:bH:=(q (r [o 16 (D .lss 15 14)] [2,3,13,14,15,16]) (q (y 16 0) (q (.block 1 (q (r [m 17 15,o 18 (X 5 13 15),n 19 5 18,o 5 (.lalloc [(.i .i64 0),(.s []),(.i .i64 0),(.i .i64 0),.ns]),a 4 17,w (.store 5 (t 5) (t 19))] [2,3,4,5,13,14,15]) (.region [m 20 2,m 21 3,m 22 4,o 23 (X 5 21 22),n 24 5 23,n 25 5 5,o 26 (.build [(.i .i64 0),(.b false),(.i .i64 0),(.s []),(.i .i64 0),(.i .i64 0),.ns,(.i .i64 0),(.s []),(.i .i64 0),(.i .i64 0),.ns,.ns,(.s []),(.s []),(.s [])] [(0,1,k 2),(2,5,t 24),(7,5,t 25)]),o 27 (.bsl false bG 16 1 [(.i .i64 0),(.b false),(.i .i64 0),(.s []),(.i .i64 0),(.i .i64 0),.ns,(.i .i64 0),(.s []),(.i .i64 0),(.i .i64 0),.ns,.ns,(.s []),(.s []),(.s [])] [(0,t 26)]),o 28 (.app bG 16 (t 20) (t 27)),a 2 28] (some ([0,1,2,3,4,5,6,7,8,9],[])) [2,3,13,14,15]))) (r [o 29 (B .add 15 1),m 15 29] [2,3,13,14,15]))))
def iW:bU:=⟨1,[.tmp 2],false,false,(q (r [o 2 (.nbuf bG 16)] [0,2]) (q (r [m 6 0,c 7 dS [t 6]] [0,2]) (q (r [m 8 0,m 9 0,o 10 (.mkfn (.func aU) [t 9] []),c 11 iL [t 8,k 2,t 10],a 3 11] [2,3]) (q (q (r [m 12 3,o 13 (.slc 5 (t 12) (some (k 1)) none),o 14 (E 0 13),o 15 (.mov (k 0))] [2,3,13,14,15]) (.block 0 (.loop [2,3,13,14,15] kQ))) (q (r [m 30 2,a 2 30] [2]) .ret)))))⟩
def aZ:bH:=(q (q (r [m 7 6,o 8 (E 0 7),m 9 1,o 10 (D .lss 8 9),m 11 10,h 12 11 (M 0),h 13 11 (.call (f bK) [t 12,s [41]]),h 14 11 (N 13),o 15 (U 11 14)] [0,1,2,6,15]) (y 15 0)) (.block 1 (r [m 16 6,m 17 2,o 18 (.call (t 17) []),o 19 (.bsl false eU 5 1 [(.i .i64 0),(.s []),(.i .i64 0),(.i .i64 0),.ns] [(0,t 18)]),o 20 (.app eU 5 (t 16) (t 19)),a 6 20] [0,1,2,6])))
def kJ:bU:=⟨3,[.tmp 6],false,false,(q (r [o 6 (.nbuf eU 5)] [0,1,2,6]) (q (.block 0 (.loop [0,1,2,6] aZ)) (q (r [m 21 6,a 6 21] [6]) .ret)))⟩
def lI:bH:=(q (r [o 27 (D .lss 26 25)] [2,3,4,14,15,24,25,26,27]) (q (y 27 2) (q (.block 3 (q (r [o 28 (X 5 24 26),n 29 5 28,o 6 (.lalloc [(.i .i64 0),(.s []),(.i .i64 0),(.i .i64 0),.ns]),w (.store 5 (t 6) (t 29))] [2,3,4,6,14,15,24,25,26]) (.region [m 30 2,m 31 3,m 32 4,o 33 (X 5 31 32),n 34 5 33,n 35 5 6,o 36 (.build [(.i .i64 0),(.b false),(.i .i64 0),(.s []),(.i .i64 0),(.i .i64 0),.ns,(.i .i64 0),(.s []),(.i .i64 0),(.i .i64 0),.ns,.ns,(.s []),(.s []),(.s [])] [(0,1,k 3),(2,5,t 34),(7,5,t 35)]),o 37 (.bsl false bG 16 1 [(.i .i64 0),(.b false),(.i .i64 0),(.s []),(.i .i64 0),(.i .i64 0),.ns,(.i .i64 0),(.s []),(.i .i64 0),(.i .i64 0),.ns,.ns,(.s []),(.s []),(.s [])] [(0,t 36)]),o 38 (.app bG 16 (t 30) (t 37)),a 2 38] (some ([0,1,2,3,4,5,6,7,8,9],[])) [2,3,4,14,15,24,25,26]))) (r [o 39 (B .add 26 1),m 26 39] [2,3,4,14,15,24,25,26]))))
def jE:bH:=(q (r [o 16 (D .lss 15 14)] [2,3,14,15,16]) (q (y 16 0) (q (.block 1 (q (r [m 17 15,a 4 17] [2,3,4,14,15]) (q (q (r [m 18 2,o 19 (E 0 18),o 20 (B .gtr 19 1024)] [2,3,4,14,15,20]) (u 20 (.exit 0))) (q (r [m 21 3,m 22 4,o 23 (B .add 22 1),o 24 (.slc 5 (t 21) (some (t 23)) none),o 25 (E 0 24),o 26 (.mov (k 0))] [2,3,4,14,15,24,25,26]) (.block 2 (.loop [2,3,4,14,15,24,25,26] lI)))))) (r [o 40 (B .add 15 1),m 15 40] [2,3,14,15]))))
def jy:bU:=⟨1,[.tmp 2],false,false,(q (r [o 2 (.nbuf bG 16)] [0,2]) (q (r [m 7 0,c 8 dS [t 7]] [0,2]) (q (r [m 9 0,m 10 0,o 11 (.mkfn (.func aU) [t 10] []),c 12 iL [t 9,k 2,t 11],a 3 12] [2,3]) (q (q (r [m 13 3,o 14 (E 0 13),o 15 (.mov (k 0))] [2,3,14,15]) (.block 0 (.loop [2,3,14,15] jE))) (q (r [m 41 2,a 2 41] [2]) .ret)))))⟩
def jm:bU:=⟨1,[.tmp 2],false,false,(q (r [o 2 (.asg (.c .ns))] [0]) (q (r [m 4 0,c 5 dS [t 4]] [0]) (q (r [m 6 0,c 7 aP [t 6],a 3 7] [0,3]) (q (r [m 8 3,m 9 0,c 10 aU [t 9],o 11 (.build [(.i .i64 0),(.b false),(.i .i64 0),(.s []),(.i .i64 0),(.i .i64 0),.ns,(.i .i64 0),(.s []),(.i .i64 0),(.i .i64 0),.ns,.ns,(.s []),(.s []),(.s [])] [(0,1,k 4),(13,1,t 8),(7,5,t 10)]),o 12 (.bsl false bG 16 1 [(.i .i64 0),(.b false),(.i .i64 0),(.s []),(.i .i64 0),(.i .i64 0),.ns,(.i .i64 0),(.s []),(.i .i64 0),(.i .i64 0),.ns,.ns,(.s []),(.s []),(.s [])] [(0,t 11)]),a 2 12] [2]) .ret))))⟩
def dG:bU:=⟨1,[.tmp 2],false,false,(q (r [o 2 (.asg (.c .ns))] [0]) (q (r [m 5 0,c 6 dS [t 5]] [0]) (q (q (r [m 7 0,c 8 bK [t 7,s wA2],o 9 (N 8)] [0,9]) (u 9 (q (r [m 10 0,c 11 aP [t 10],a 3 11] [0,3]) (q (r [m 12 3,o 13 (.bsl false au 1 1 [(.s [])] [(0,t 12)]),m 14 0,c 15 aP [t 14],o 16 (.build [(.i .i64 0),(.b false),(.i .i64 0),(.s []),(.i .i64 0),(.i .i64 0),.ns,(.i .i64 0),(.s []),(.i .i64 0),(.i .i64 0),.ns,.ns,(.s []),(.s []),(.s [])] [(0,1,k 5),(12,1,t 13),(13,1,t 15)]),o 17 (.bsl false bG 16 1 [(.i .i64 0),(.b false),(.i .i64 0),(.s []),(.i .i64 0),(.i .i64 0),.ns,(.i .i64 0),(.s []),(.i .i64 0),(.i .i64 0),.ns,.ns,(.s []),(.s []),(.s [])] [(0,t 16)]),a 2 17] [2]) .ret)))) (q (r [m 18 0,c 19 aN [t 18]] [0]) (q (r [m 20 0,c 21 aH [t 20,s [40]]] [0]) (q (r [m 22 0,m 23 0,o 24 (.mkfn (.func aP) [t 23] []),c 25 pG [t 22,k 2,t 24],a 4 25] [0,4]) (q (r [m 26 0,c 27 aH [t 26,s [41]]] [0,4]) (q (r [m 28 4,m 29 0,c 30 aP [t 29],o 31 (.build [(.i .i64 0),(.b false),(.i .i64 0),(.s []),(.i .i64 0),(.i .i64 0),.ns,(.i .i64 0),(.s []),(.i .i64 0),(.i .i64 0),.ns,.ns,(.s []),(.s []),(.s [])] [(0,1,k 6),(12,1,t 28),(13,1,t 30)]),o 32 (.bsl false bG 16 1 [(.i .i64 0),(.b false),(.i .i64 0),(.s []),(.i .i64 0),(.i .i64 0),.ns,(.i .i64 0),(.s []),(.i .i64 0),(.i .i64 0),.ns,.ns,(.s []),(.s []),(.s [])] [(0,t 31)]),a 2 32] [2]) .ret))))))))⟩
def dD:bH:=(q (q (r [m 7 6,o 8 (E 0 7),m 9 1,o 10 (D .lss 8 9),m 11 10,h 12 11 (M 0),h 13 11 (.call (f bK) [t 12,s [41]]),h 14 11 (N 13),o 15 (U 11 14)] [0,1,2,6,15]) (y 15 0)) (.block 1 (r [m 16 6,m 17 2,o 18 (.call (t 17) []),o 19 (.bsl false au 1 1 [(.s [])] [(0,t 18)]),o 20 (.app au 1 (t 16) (t 19)),a 6 20] [0,1,2,6])))
def ou:bU:=⟨3,[.tmp 6],false,false,(q (r [o 6 (.nbuf au 1)] [0,1,2,6]) (q (.block 0 (.loop [0,1,2,6] dD)) (q (r [m 21 6,a 6 21] [6]) .ret)))⟩
def jg:bU:=⟨1,[.tmp 2],false,false,(q (r [o 2 (.asg (.c .ns))] [0]) (q (r [m 3 0,c 4 dS [t 3]] [0]) (q (r [m 5 0,c 6 aP [t 5],o 7 (.build [(.i .i64 0),(.b false),(.i .i64 0),(.s []),(.i .i64 0),(.i .i64 0),.ns,(.i .i64 0),(.s []),(.i .i64 0),(.i .i64 0),.ns,.ns,(.s []),(.s []),(.s [])] [(0,1,k 7),(13,1,t 6)]),o 8 (.bsl false bG 16 1 [(.i .i64 0),(.b false),(.i .i64 0),(.s []),(.i .i64 0),(.i .i64 0),.ns,(.i .i64 0),(.s []),(.i .i64 0),(.i .i64 0),.ns,.ns,(.s []),(.s []),(.s [])] [(0,t 7)]),a 2 8] [2]) .ret)))⟩
def ji:bU:=⟨1,[.tmp 2],false,false,(q (r [o 2 (.asg (.c .ns))] [0]) (q (r [m 4 0,c 5 dS [t 4]] [0]) (q (r [m 6 0,c 7 aU [t 6],o 3 (.lalloc [(.i .i64 0),(.s []),(.i .i64 0),(.i .i64 0),.ns]),w (.store 5 (t 3) (t 7))] [0,3]) (q (.region [m 8 0,o 9 (.callh 9 (f aP) [t 8] none),o 10 (.loadl (some 5) (t 3)),o 11 (.build [(.i .i64 0),(.b false),(.i .i64 0),(.s []),(.i .i64 0),(.i .i64 0),.ns,(.i .i64 0),(.s []),(.i .i64 0),(.i .i64 0),.ns,.ns,(.s []),(.s []),(.s [])] [(0,1,k 8),(14,1,t 9),(7,5,t 10)]),o 12 (.bsl false bG 16 1 [(.i .i64 0),(.b false),(.i .i64 0),(.s []),(.i .i64 0),(.i .i64 0),.ns,(.i .i64 0),(.s []),(.i .i64 0),(.i .i64 0),.ns,.ns,(.s []),(.s []),(.s [])] [(0,t 11)]),o 2 (.cpy (t 12))] (some ([0,1,2,3,4,5],[])) [2]) .ret))))⟩
def jl:bU:=⟨1,[.tmp 2],false,false,(q (r [o 2 (.asg (.c .ns))] [0]) (q (r [m 5 0,c 6 dS [t 5]] [0]) (q (r [m 7 0,c 8 aP [t 7],a 3 8] [0,3]) (q (r [m 9 0,c 10 aP [t 9],a 4 10] [0,3,4]) (q (r [m 11 3,m 12 4,m 13 0,c 14 aP [t 13],o 15 (.build [(.i .i64 0),(.b false),(.i .i64 0),(.s []),(.i .i64 0),(.i .i64 0),.ns,(.i .i64 0),(.s []),(.i .i64 0),(.i .i64 0),.ns,.ns,(.s []),(.s []),(.s [])] [(0,1,k 9),(13,1,t 11),(14,1,t 12),(15,1,t 14)]),o 16 (.bsl false bG 16 1 [(.i .i64 0),(.b false),(.i .i64 0),(.s []),(.i .i64 0),(.i .i64 0),.ns,(.i .i64 0),(.s []),(.i .i64 0),(.i .i64 0),.ns,.ns,(.s []),(.s []),(.s [])] [(0,t 15)]),a 2 16] [2]) .ret)))))⟩
def oZ:bU:=⟨1,[.cell 2 (some 5)],false,false,(q (r [o 2 (.lalloc [(.i .i64 0),(.s []),(.i .i64 0),(.i .i64 0),.ns])] [0,2]) (q (r [m 3 0,c 4 gK [t 3,s wB4,s [111,119,108,58]]] [2]) (q (r [o 5 (.build [(.i .i64 0),(.s []),(.i .i64 0),(.i .i64 0),.ns] [(0,1,k 1)]),w (.store 5 (t 2) (t 5))] [2]) .ret)))⟩
def dX:bU:=⟨3,[],false,false,(q (r [m 6 0,m 7 0,m 8 1,c 9 bK [t 7,t 8],m 10 9,g 11 10 (M 0),g 12 10 (H 11),g 13 10 (G 3 12),g 14 10 (L 13),g 15 10 (M 2),g 16 10 (.look 1 (.b false) false (t 14) (t 15)),o 17 (V 10 16),c 18 bQ [t 6,t 17]] [0]) (r [m 19 0,c 20 aN [t 19]] []))⟩
def mF:bU:=⟨1,[.cell 2 (some 5)],false,false,(q (r [o 2 (.lalloc [(.i .i64 0),(.s []),(.i .i64 0),(.i .i64 0),.ns])] [0,2]) (q (r [m 3 0,c 4 gK [t 3,s wB1,s [111,119,108,58]]] [2]) (q (r [o 5 (.build [(.i .i64 0),(.s []),(.i .i64 0),(.i .i64 0),.ns] [(0,1,k 2)]),w (.store 5 (t 2) (t 5))] [2]) .ret)))⟩
def kY:bU:=⟨1,[.cell 2 (some 5)],false,false,(q (r [o 2 (.lalloc [(.i .i64 0),(.s []),(.i .i64 0),(.i .i64 0),.ns])] [0,2]) (q (r [m 4 0,c 5 aN [t 4]] [0,2]) (q (r [m 6 0,c 7 aH [t 6,s [40]]] [0,2]) (q (r [m 8 0,m 9 0,o 10 (.mkfn (.func aU) [t 9] []),c 11 iL [t 8,k 2,t 10],a 3 11] [0,2,3]) (q (r [m 12 0,c 13 aH [t 12,s [41]]] [2,3]) (q (r [m 14 3,o 15 (.build [(.i .i64 0),(.s []),(.i .i64 0),(.i .i64 0),.ns] [(0,1,k 5),(4,1,t 14)]),w (.store 5 (t 2) (t 15))] [2]) .ret))))))⟩
def jk:bU:=⟨1,[.cell 2 (some 5)],false,false,(q (r [o 2 (.lalloc [(.i .i64 0),(.s []),(.i .i64 0),(.i .i64 0),.ns])] [0,2]) (q (r [m 5 0,c 6 aN [t 5]] [0,2]) (q (r [m 7 0,c 8 aH [t 7,s [40]]] [0,2]) (q (r [m 9 0,c 10 aP [t 9],a 3 10] [0,2,3]) (q (r [m 11 0,c 12 aU [t 11],o 4 (.lalloc [(.i .i64 0),(.s []),(.i .i64 0),(.i .i64 0),.ns]),w (.store 5 (t 4) (t 12))] [0,2,3,4]) (q (r [m 13 0,c 14 aH [t 13,s [41]]] [2,3,4]) (q (r [m 15 3,n 16 5 4,o 17 (.bsl false eU 5 1 [(.i .i64 0),(.s []),(.i .i64 0),(.i .i64 0),.ns] [(0,t 16)]),o 18 (.build [(.i .i64 0),(.s []),(.i .i64 0),(.i .i64 0),.ns] [(0,1,k 6),(1,1,t 15),(4,1,t 17)]),w (.store 5 (t 2) (t 18))] [2]) .ret)))))))⟩
def iZ:bU:=⟨1,[.cell 2 (some 5)],false,false,(q (r [o 2 (.lalloc [(.i .i64 0),(.s []),(.i .i64 0),(.i .i64 0),.ns])] [0,2]) (q (r [m 4 0,c 5 aN [t 4]] [0,2]) (q (r [m 6 0,c 7 aH [t 6,s [40]]] [0,2]) (q (r [m 8 0,c 9 aP [t 8],a 3 9] [0,2,3]) (q (r [m 10 0,c 11 aH [t 10,s [41]]] [2,3]) (q (r [m 12 3,o 13 (.build [(.i .i64 0),(.s []),(.i .i64 0),(.i .i64 0),.ns] [(0,1,k 4),(1,1,t 12)]),w (.store 5 (t 2) (t 13))] [2]) .ret))))))⟩
def aS:bU:=⟨1,[.cell 2 (some 5)],false,false,(q (r [o 2 (.lalloc [(.i .i64 0),(.s []),(.i .i64 0),(.i .i64 0),.ns])] [0,2]) (q (r [m 5 0,c 6 aN [t 5]] [0,2]) (q (r [m 7 0,c 8 aH [t 7,s [40]]] [0,2]) (q (r [m 9 0,c 10 aP [t 9],o 11 (.build [(.i .i64 0),(.s []),(.i .i64 0),(.i .i64 0),.ns] [(0,1,k 7),(1,1,t 10),(2,1,(.c (.i .i64 (-1099511627776)))),(3,1,k 1099511627776)]),o 3 (.halloc [(.i .i64 0),(.s []),(.i .i64 0),(.i .i64 0),.ns]),w (.store 5 (t 3) (t 11))] [0,2,3]) (q (q (r [m 12 0,c 13 bK [t 12,s wA7]] [0,2,3,13]) (.cond (t 13) (q (r [m 14 0,c 15 aN [t 14]] [0,2,3]) (q (r [m 16 0,c 17 aH [t 16,s [40]]] [0,2,3]) (q (r [m 18 0,c 19 gK [t 18,s wA0,s [120,115,100,58]]] [0,2,3]) (q (r [m 20 0,c 21 lY [t 20,t 3,s []],a 4 21] [0,2,3,4]) (q (q (r [m 22 0,c 23 bK [t 22,s [41]],o 24 (N 23)] [0,2,3,4,24]) (u 24 (r [m 25 0,m 26 4,c 27 lY [t 25,t 3,t 26]] [0,2,3]))) (r [m 28 0,c 29 aH [t 28,s [41]]] [0,2,3])))))) (r [m 30 0,c 31 gK [t 30,s wA0,s [120,115,100,58]]] [0,2,3]))) (q (r [m 32 0,c 33 aH [t 32,s [41]]] [2,3]) (q (r [n 34 5 3,w (.store 5 (t 2) (t 34))] [2]) .ret)))))))⟩
def dh:bU:=⟨3,[.tmp 6],false,false,(q (r [o 6 (.asg (s []))] [0,1,2]) (q (r [m 9 0,c 10 aO [t 9],o 11 (.getf 1 none (t 10)),a 6 11] [0,1,2,6]) (q (r [m 12 0,m 13 6,o 14 (.bin .eql (t 13) (s wA1)),m 15 14,h 16 15 (M 6),h 17 15 (.bin .eql (t 16) (s wA4)),o 18 (U 15 17),m 19 18,g 20 19 (M 6),g 21 19 (M 2),g 22 19 (D .neq 20 21),o 23 (V 19 22),c 24 bQ [t 12,t 23]] [0,1,6]) (q (r [m 25 0,m 26 6,c 27 gK [t 25,t 26,s [120,115,100,58]]] [0,1,6]) (q (r [m 29 0,c 30 aO [t 29],c 31 vV [t 30],m 28 31,e 32 28 0,e 33 28 1,a 7 32,a 8 33] [0,1,6,7,8]) (q (r [m 34 0,m 35 8,c 36 bQ [t 34,t 35]] [0,1,6,7]) (q (r [m 37 0,c 38 aN [t 37]] [0,1,6,7]) (q (r [m 39 0,c 40 aH [t 39,s [94,94]]] [0,1,6,7]) (q (r [m 41 0,c 42 gK [t 41,s wA0,s [120,115,100,58]]] [1,6,7]) (q (q (r [m 43 6,o 44 (.bin .eql (t 43) (s wA1))] [1,6,7,44]) (.cond (t 44) (r [m 45 1,m 46 7,o 47 (H 45),d 48 2 47,w (.store 1 (t 48) (t 46))] [6]) (r [m 49 1,m 50 7,o 51 (H 49),d 52 3 51,w (.store 1 (t 52) (t 50))] [6]))) (q (r [m 53 6,a 6 53] [6]) .ret)))))))))))⟩
def mP:bH:=(q (r [o 42 (D .lss 41 40)] [4,39,40,41,42]) (q (y 42 0) (q (.block 1 (q (r [o 43 (X 1 39 41),l 44 43,a 7 44] [4,7,39,40,41]) (q (r [m 45 7,o 46 (.bin .lss (t 45) (b 48)),m 47 46,h 48 47 (M 7),h 49 47 (.bin .gtr (t 48) (b 57)),o 50 (U 47 49)] [4,39,40,41,50]) (u 50 (q (r [i 2 0,j 3 false] [2,3]) .ret))))) (r [o 51 (B .add 41 1),m 41 51] [4,39,40,41]))))
def iQ:bU:=⟨1,[.tmp 2,.tmp 3],true,false,(q (r [o 1 (.lbox (t 0)),i 2 0,j 3 false] [1]) (q (q (r [d 9 0 1,l 10 9,o 11 (B .neq 10 3)] [1,11]) (u 11 (q (r [i 2 0,j 3 false] [2,3]) .ret))) (q (r [d 12 1 1,l 13 12,d 14 1 1,l 15 14,o 16 (E 1 15),o 17 (B .sub 16 1),o 18 (.slcs (t 13) (some (k 1)) (some (t 17))),a 4 18] [4]) (q (r [m 19 4,c 20 kM [t 19,s [45]],a 5 20] [4,5]) (q (q (r [m 21 5,o 22 (E 1 21),o 23 (B .lss 22 1),m 24 23,h 25 24 (M 5),h 26 24 (E 1 25),h 27 24 (B .gtr 26 18),o 28 (U 24 27),m 29 28,h 30 29 (M 5),h 31 29 (.idxs (t 30) (k 0)),h 32 29 (.bin .eql (t 31) (b 48)),h 33 29 (M 32),g 34 33 (M 4),g 35 33 (.bin .neq (t 34) (s [48])),h 36 29 (V 33 35),o 37 (U 29 36)] [4,5,37]) (u 37 (q (r [i 2 0,j 3 false] [2,3]) .ret))) (q (q (r [m 38 5,o 39 (.s2b (t 38)),o 40 (E 0 39),o 41 (.mov (k 0))] [4,39,40,41]) (.block 0 (.loop [4,39,40,41] mP))) (q (r [m 53 4,c 54 AY [t 53],m 52 54,e 55 52 0,e 56 52 1,a 2 55,a 8 56] [2,8]) (q (.region [m 57 2,m 58 8,o 59 (.nileq false 4 (t 58)),o 2 (.cpy (t 57)),o 3 (.cpy (t 59))] (some ([0,1,2,3,4],[])) [2,3]) .ret))))))))⟩
def iF:bH:=(q (q (r [m 3 0,c 4 bK [t 3,s wC0]] [0,4]) (y 4 0)) (.block 1 (r [m 5 0,c 6 nD [t 5]] [0])))
def iE:bH:=(q (q (r [m 22 2,o 23 (B .lss 22 2),m 24 23,g 25 24 (M 0),g 26 24 (.call (f aO) [t 25]),g 27 24 (.getf 0 none (t 26)),g 28 24 (B .eql 27 2),o 29 (V 24 28)] [0,2,29]) (y 29 2)) (q (.block 3 (r [m 32 0,c 33 aN [t 32]] [0,2])) (r [m 30 2,o 31 (B .add 30 1),a 2 31] [0,2])))
def fJ:bH:=(q (q (r [m 34 0,c 35 bK [t 34,s [41]],o 36 (N 35)] [0,36]) (y 36 4)) (.block 5 (r [m 37 0,c 38 pF [t 37]] [0])))
def aY:bU:=⟨1,[],false,true,(q (.block 0 (.loop [0] iF)) (q (r [m 7 0,m 8 0,c 9 bK [t 8,s wC3],m 10 9,g 11 10 (M 0),g 12 10 (H 11),g 13 10 (G 3 12),g 14 10 (L 13),g 15 10 (.look 1 (.b false) false (t 14) (s [58])),o 16 (V 10 15),c 17 bQ [t 7,t 16]] [0]) (q (r [m 18 0,c 19 aN [t 18]] [0]) (q (r [m 20 0,c 21 aH [t 20,s [40]]] [0]) (q (q (r [i 2 0] [0,2]) (.block 2 (.loop [0,2] iE))) (q (.block 4 (.loop [0] fJ)) (q (r [m 39 0,c 40 aN [t 39]] [0]) (r [m 41 0,m 42 0,c 43 aO [t 42],o 44 (.getf 0 none (t 43)),o 45 (B .eql 44 5),c 46 bQ [t 41,t 45]] []))))))))⟩
def ay:bU:=⟨1,[],false,false,(q (r [m 4 0,c 5 aH [t 4,s wC0]] [0]) (q (r [m 6 0,c 7 aH [t 6,s [40]]] [0]) (q (r [m 8 0,c 9 aO [t 8],o 10 (.getf 1 none (t 9)),a 2 10] [0,2]) (q (r [m 11 0,m 12 0,c 13 aO [t 12],o 14 (.getf 0 none (t 13)),o 15 (B .eql 14 4),m 16 15,g 17 16 (M 2),g 18 16 (.call (f oP) [t 17,s [58]]),g 19 16 (M 2),g 20 16 (E 1 19),g 21 16 (B .sub 20 1),g 22 16 (D .eql 18 21),o 23 (V 16 22),m 24 23,g 25 24 (M 2),g 26 24 (.bin .eql (t 25) (s [58])),g 27 24 (M 26),h 28 27 (M 2),h 29 27 (.idxs (t 28) (k 0)),h 30 27 (.call (f qM) [t 29]),g 31 24 (U 27 30),o 32 (V 24 31),m 33 32,g 34 33 (M 0),g 35 33 (H 34),g 36 33 (G 3 35),g 37 33 (L 36),g 38 33 (M 2),g 39 33 (.look 1 (.b false) false (t 37) (t 38)),g 40 33 (N 39),o 41 (V 33 40),c 42 bQ [t 11,t 41]] [0,2]) (q (r [m 43 0,c 44 aN [t 43]] [0,2]) (q (r [m 45 0,c 46 aH [t 45,s [61]]] [0,2]) (q (r [m 47 0,c 48 aO [t 47],o 49 (.getf 1 none (t 48)),a 3 49] [0,2,3]) (q (r [m 50 0,m 51 0,c 52 aO [t 51],o 53 (.getf 0 none (t 52)),o 54 (B .eql 53 2),m 55 54,g 56 55 (M 2),g 57 55 (.bin .neq (t 56) (s [111,119,108,58])),g 58 55 (M 57),h 59 58 (M 3),h 60 58 (.bin .eql (t 59) (s wC1)),g 61 55 (U 58 60),o 62 (V 55 61),m 63 62,g 64 63 (M 2),g 65 63 (.bin .neq (t 64) (s [120,115,100,58])),g 66 63 (M 65),h 67 66 (M 3),h 68 66 (.bin .eql (t 67) (s wB8)),g 69 63 (U 66 68),o 70 (V 63 69),c 71 bQ [t 50,t 70]] [0,2,3]) (q (r [m 72 0,c 73 aN [t 72]] [0,2,3]) (q (r [m 74 0,c 75 aH [t 74,s [41]]] [0,2,3]) (q (r [m 76 0,o 77 (H 76),d 78 3 77,l 79 78,m 80 2,w (.hins 1 (t 79) (t 80) T)] [0,2,3]) (q (r [m 81 2,o 82 (.bin .eql (t 81) (s [58]))] [0,3,82]) (u 82 (r [m 83 0,m 84 3,m 85 3,o 86 (E 1 85),o 87 (B .sub 86 1),o 88 (.slcs (t 84) (some (k 1)) (some (t 87))),o 89 (H 83),d 90 4 89,w (.store 1 (t 90) (t 88))] []))))))))))))))⟩
def gW:bH:=(q (r [o 38 (D .lss 37 36)] [0,2,35,36,37,38]) (q (y 38 0) (q (.block 1 (q (r [o 39 (X 16 35 37),n 40 16 39,o 7 (.lalloc [(.i .i64 0),(.b false),(.i .i64 0),(.s []),(.i .i64 0),(.i .i64 0),.ns,(.i .i64 0),(.s []),(.i .i64 0),(.i .i64 0),.ns,.ns,(.s []),(.s []),(.s [])]),w (.store 16 (t 7) (t 40))] [0,2,7,35,36,37]) (q (r [m 41 0,o 42 (H 41),d 43 5 42,l 44 43,d 45 1 7,w (.store 1 (t 45) (t 44))] [0,2,7,35,36,37]) (q (q (r [n 46 16 7,c 47 iJ [t 46],a 8 47] [0,2,7,8,35,36,37]) (q (r [m 48 8,o 49 (B .neq 48 0)] [0,2,7,8,35,36,37,49]) (u 49 (r [d 50 2 2,l 51 50,m 52 8,o 53 (.build [(.i .i64 0),(.i .i64 0)] [(0,1,t 51),(1,1,t 52)]),o 54 (.mkif qX (t 53)),w (.panic (t 54))] [0,2,7,35,36,37])))) (.region [m 55 0,m 56 0,o 57 (H 56),d 58 6 57,l 59 58,n 60 16 7,o 61 (.bsl false bG 16 1 [(.i .i64 0),(.b false),(.i .i64 0),(.s []),(.i .i64 0),(.i .i64 0),.ns,(.i .i64 0),(.s []),(.i .i64 0),(.i .i64 0),.ns,.ns,(.s []),(.s []),(.s [])] [(0,t 60)]),o 62 (.apprp 62 bG 16 (t 59) (t 61)),o 63 (H 55),d 64 6 63,w (.store 1 (t 64) (t 62))] (some ([1,2,3,4,5,6,7,0,8,9,10],[])) [0,2,35,36,37]))))) (r [o 65 (B .add 37 1),m 37 65] [0,2,35,36,37]))))
def dH:bU:=⟨1,[],false,true,(q (r [m 9 0,c 10 aO [t 9],o 2 (.lalloc [(.i .i64 0),(.s []),(.i .i64 0)]),w (.store 3 (t 2) (t 10))] [0,2]) (q (.region [m 12 0,o 13 (H 12),d 14 7 13,l 15 14,d 16 1 2,l 17 16,o 18 (.look 1 .nf true (t 15) (t 17)),m 11 18,e 19 11 0,e 20 11 1,o 3 (.cpy (t 19)),o 4 (.cpy (t 20))] (some ([0,1,2,3,4,5,6,7,8,9,10,11],[])) [0,2,3,4]) (q (r [m 21 0,m 22 4,c 23 bQ [t 21,t 22]] [0,2,3]) (q (r [m 24 0,c 25 aN [t 24]] [0,2,3]) (q (r [m 26 0,c 27 aH [t 26,s [40]]] [0,2,3]) (q (r [m 28 0,o 29 (H 28),d 30 5 29,w (.store 1 (t 30) F)] [0,2,3]) (q (r [m 31 3,o 32 (.call (t 31) []),a 5 32] [0,2,5]) (q (r [m 33 0,c 34 aH [t 33,s [41]]] [0,2,5]) (q (q (r [m 35 5,o 36 (E 0 35),o 37 (.mov (k 0))] [0,2,35,36,37]) (.block 0 (.loop [0,2,35,36,37] gW))) (q (r [m 66 0,o 67 (H 66),d 68 6 67,l 69 68,o 70 (E 0 69),o 71 (B .gtr 70 1024)] [2,71]) (u 71 (r [d 72 2 2,l 73 72,o 74 (.build [(.i .i64 0),(.i .i64 0)] [(0,1,t 73),(1,1,k 2)]),o 75 (.mkif qX (t 74)),w (.panic (t 75))] []))))))))))))⟩
def lm:bU:=⟨1,[.tmp 2],true,false,(q (r [o 1 (.lbox (t 0)),i 2 0] [1]) (q (q (r [n 6 16 1,c 7 qK [t 6],o 8 (N 7)] [1,8]) (u 8 (q (r [i 2 22] [2]) .ret))) (q (r [d 9 0 1,l 10 9,o 11 (.idxa 10 7 (.g xQ) (t 10)),n 12 7 11,o 3 (.lalloc [(.b false),(.b false),(.b false),(.b false),(.b false),(.i .i64 0),(.i .i64 0)]),w (.store 7 (t 3) (t 12))] [1,3]) (q (q (r [n 13 16 1,n 14 7 3,c 15 sK [t 13,t 14],o 16 (N 15)] [1,3,16]) (u 16 (q (r [i 2 20] [2]) .ret))) (q (q (r [d 17 0 3,l 18 17] [1,3,18]) (u 18 (q (r [d 19 2 1,n 20 5 19,c 21 kL [t 20],a 4 21] [1,3,4]) (q (r [m 22 4,o 23 (B .neq 22 0)] [1,3,4,23]) (u 23 (q (r [m 24 4,a 2 24] [2]) .ret)))))) (q (q (r [d 25 1 3,l 26 25] [1,26]) (u 26 (q (r [d 27 7 1,n 28 5 27,c 29 kL [t 28],a 5 29] [1,5]) (q (r [m 30 5,o 31 (B .neq 30 0)] [1,5,31]) (u 31 (q (r [m 32 5,a 2 32] [2]) .ret)))))) (q (q (r [d 33 0 1,l 34 33] [1,34]) (.block 0 (q (r [o 36 (B .eql 34 2),a 35 36] [1,34,35]) (.cond (t 35) (q (r [d 37 2 1,n 38 5 37,c 39 fU [t 38],m 40 39,h 41 40 (G 7 1),h 42 40 (.load (some 5) (t 41)),h 43 40 (.call (f fU) [t 42]),o 44 (U 40 43)] [44]) (u 44 (q (r [i 2 22] [2]) .ret))) (q (q (r [o 46 (B .eql 34 1),a 45 46] [1,34,45]) (.cond (t 45) .skip (q (r [o 47 (B .eql 34 4),a 45 47] [1,34,45]) (.cond (t 45) .skip (r [o 48 (B .eql 34 8),a 45 48] [1,45]))))) (u 45 (q (r [d 49 7 1,n 50 5 49,c 51 fU [t 50]] [51]) (u 51 (q (r [i 2 22] [2]) .ret))))))))) (q (r [i 2 0] [2]) .ret))))))))⟩
def mO:bU:=⟨1,[.tmp 2],true,false,(q (r [o 1 (.lbox (t 0)),j 2 false] [1]) (q (q (r [d 4 0 1,l 5 4,o 6 (B .lss 5 1),m 7 6,h 8 7 (G 0 1),h 9 7 (L 8),h 10 7 (B .gtr 9 9),o 11 (U 7 10)] [1,11]) (z 11 2 false)) (q (r [d 12 0 1,l 13 12,o 14 (.idxa 10 7 (.g xQ) (t 13)),n 15 7 14,o 3 (.lalloc [(.b false),(.b false),(.b false),(.b false),(.b false),(.i .i64 0),(.i .i64 0)]),w (.store 7 (t 3) (t 15))] [1,3]) (q (r [d 16 0 3,l 17 16,m 18 17,h 19 18 (G 2 1),h 20 18 (.load (some 5) (t 19)),h 21 18 (.call (f oO) [t 20]),o 22 (U 18 21),m 23 22,g 24 23 (G 1 3),g 25 23 (L 24),g 26 23 (M 25),h 27 26 (G 7 1),h 28 26 (.load (some 5) (t 27)),h 29 26 (.call (f oO) [t 28]),g 30 23 (U 26 29),o 31 (V 23 30),m 32 31,g 33 32 (G 2 3),g 34 32 (L 33),g 35 32 (M 34),h 36 35 (G 13 1),h 37 35 (L 36),h 38 35 (.bin .eql (t 37) (s [])),g 39 32 (U 35 38),o 40 (V 32 39),m 41 40,g 42 41 (G 3 3),g 43 41 (L 42),g 44 41 (M 43),h 45 44 (G 14 1),h 46 44 (L 45),h 47 44 (.bin .eql (t 46) (s [])),g 48 41 (U 44 47),o 49 (V 41 48),m 50 49,g 51 50 (G 4 3),g 52 50 (L 51),g 53 50 (M 52),h 54 53 (G 15 1),h 55 53 (L 54),h 56 53 (.bin .eql (t 55) (s [])),g 57 50 (U 53 56),o 58 (V 50 57),m 59 58,g 60 59 (G 12 1),g 61 59 (L 60),g 62 59 (E 0 61),g 63 59 (G 5 3),g 64 59 (L 63),g 65 59 (D .geq 62 64),o 66 (V 59 65),m 67 66,g 68 67 (G 12 1),g 69 67 (L 68),g 70 67 (E 0 69),g 71 67 (G 6 3),g 72 67 (L 71),g 73 67 (D .leq 70 72),o 74 (V 67 73),a 2 74] [2]) .ret))))⟩
def uP:bU:=⟨1,[.tmp 2],true,false,(q (r [o 1 (.lbox (t 0)),j 2 false] [1]) (q (r [d 3 0 1,l 4 3,o 5 (B .eql 4 0),m 6 5,g 7 6 (G 1 1),g 8 6 (L 7),g 9 6 (.bin .eql (t 8) (s [])),o 10 (V 6 9),m 11 10,g 12 11 (G 2 1),g 13 11 (L 12),g 14 11 (B .eql 13 0),o 15 (V 11 14),m 16 15,g 17 16 (G 3 1),g 18 16 (L 17),g 19 16 (B .eql 18 0),o 20 (V 16 19),m 21 20,g 22 21 (G 4 1),g 23 21 (L 22),g 24 21 (E 0 23),g 25 21 (B .eql 24 0),o 26 (V 21 25),a 2 26] [2]) .ret))⟩
def qc:bH:=(q (r [o 39 (D .lss 38 37)] [36,37,38,39]) (q (y 39 0) (q (.block 1 (q (r [o 40 (X 1 36 38),l 41 40,a 6 41] [6,36,37,38]) (q (r [m 42 6,c 43 lF [t 42],o 44 (N 43)] [36,37,38,44]) (z 44 4 false)))) (r [o 45 (B .add 38 1),m 38 45] [36,37,38]))))
def qy:bU:=⟨2,[.tmp 4],true,false,(q (r [o 2 (.lbox (t 0)),o 3 (.lbox (t 1)),j 4 false] [2,3]) (q (q (r [d 7 2 3,l 8 7,m 9 8,g 10 9 (G 13 2),g 11 9 (L 10),g 12 9 (.call (f lF) [t 11]),g 13 9 (N 12),o 14 (V 9 13),m 15 14,h 16 15 (G 3 3),h 17 15 (L 16),h 18 15 (M 17),g 19 18 (G 14 2),g 20 18 (L 19),g 21 18 (.call (f jL) [t 20]),g 22 18 (B .neq 21 0),h 23 15 (V 18 22),o 24 (U 15 23),m 25 24,h 26 25 (G 4 3),h 27 25 (L 26),h 28 25 (M 27),g 29 28 (G 15 2),g 30 28 (L 29),g 31 28 (.call (f jL) [t 30]),g 32 28 (B .neq 31 0),h 33 25 (V 28 32),o 34 (U 25 33)] [2,34]) (z 34 4 false)) (q (q (r [d 35 12 2,l 36 35,o 37 (E 0 36),o 38 (.mov (k 0))] [36,37,38]) (.block 0 (.loop [36,37,38] qc))) (q (r [j 4 true] [4]) .ret))))⟩
def nP:bU:=⟨1,[.tmp 2],true,false,(q (r [j 2 false] [0]) (q (q (r [m 6 0,o 7 (E 1 6),o 8 (B .gtr 7 24)] [0,8]) (z 8 2 false)) (q (r [m 10 0,c 11 pV [t 10,s [58]],m 9 11,e 12 9 0,e 13 9 1,e 14 9 2,a 3 12,a 4 13,a 5 14] [3,4,5]) (q (r [m 15 3,c 16 qI [t 15],m 17 16,g 18 17 (M 5),g 19 17 (N 18),g 20 17 (M 19),h 21 20 (M 4),h 22 20 (.call (f qI) [t 21]),g 23 17 (U 20 22),o 24 (V 17 23),a 2 24] [2]) .ret))))⟩
def sG:bU:=⟨1,[.tmp 2],true,false,(q (r [j 2 false] [0]) (q (r [m 3 0,o 4 (.bin .neq (t 3) (s [])),m 5 4,g 6 5 (M 0),g 7 5 (.idxs (t 6) (k 0)),g 8 5 (.call (f nS) [t 7]),o 9 (V 5 8),m 10 9,g 11 10 (M 0),g 12 10 (.call (f qJ) [t 11]),o 13 (V 10 12),m 14 13,g 15 14 (M 0),g 16 14 (.call (f sQ) [t 15]),g 17 14 (N 16),o 18 (V 14 17),a 2 18] [2]) .ret))⟩
def tN:bU:=⟨1,[.tmp 2],true,false,(q (r [j 2 false] [0]) (q (r [m 3 0,o 4 (.bin .leq (b 97) (t 3)),m 5 4,g 6 5 (M 0),g 7 5 (.bin .leq (t 6) (b 122)),o 8 (V 5 7),m 9 8,h 10 9 (M 0),h 11 9 (.bin .leq (b 65) (t 10)),h 12 9 (M 11),g 13 12 (M 0),g 14 12 (.bin .leq (t 13) (b 90)),h 15 9 (V 12 14),o 16 (U 9 15),a 2 16] [2]) .ret))⟩
def rJ:bH:=(q (r [o 9 (D .lss 8 7)] [6,7,8,9]) (q (y 9 0) (q (.block 1 (q (r [o 10 (X 1 6 8),l 11 10,a 4 11] [4,6,7,8]) (q (r [m 12 4,c 13 nS [t 12],o 14 (N 13),m 15 14,g 16 15 (M 4),g 17 15 (.bin .neq (t 16) (b 95)),o 18 (V 15 17),m 19 18,g 20 19 (M 4),g 21 19 (.bin .lss (t 20) (b 48)),g 22 19 (M 21),h 23 22 (M 4),h 24 22 (.bin .gtr (t 23) (b 57)),g 25 19 (U 22 24),o 26 (V 19 25)] [6,7,8,26]) (z 26 2 false)))) (r [o 27 (B .add 8 1),m 8 27] [6,7,8]))))
def vZ:bU:=⟨1,[.tmp 2],true,false,(q (r [j 2 false] [0]) (q (q (r [m 5 0,o 6 (.s2b (t 5)),o 7 (E 0 6),o 8 (.mov (k 0))] [6,7,8]) (.block 0 (.loop [6,7,8] rJ))) (q (r [j 2 true] [2]) .ret)))⟩
def uX:bU:=⟨1,[.tmp 2],true,false,(q (r [j 2 false] [0]) (q (q (r [m 3 0] [3]) (.block 0 (q (q (r [o 5 (.bin .eql (t 3) (s [97,110,100])),a 4 5] [3,4]) (.cond (t 4) .skip (q (r [o 6 (.bin .eql (t 3) (s [115,111,109,101])),a 4 6] [3,4]) (.cond (t 4) .skip (q (r [o 7 (.bin .eql (t 3) (s [105,110])),a 4 7] [3,4]) (.cond (t 4) .skip (q (r [o 8 (.bin .eql (t 3) (s [116,111])),a 4 8] [3,4]) (.cond (t 4) .skip (q (r [o 9 (.bin .eql (t 3) (s [110,111,116,104,105,110,103])),a 4 9] [3,4]) (.cond (t 4) .skip (q (r [o 10 (.bin .eql (t 3) (s wD3)),a 4 10] [3,4]) (.cond (t 4) .skip (q (r [o 11 (.bin .eql (t 3) (s [111,110,101])),a 4 11] [3,4]) (.cond (t 4) .skip (q (r [o 12 (.bin .eql (t 3) (s [111,102])),a 4 12] [3,4]) (.cond (t 4) .skip (q (r [o 13 (.bin .eql (t 3) (s [111,112,101,110])),a 4 13] [3,4]) (.cond (t 4) .skip (q (r [o 14 (.bin .eql (t 3) (s [112,114,105,118,97,116,101])),a 4 14] [3,4]) (.cond (t 4) .skip (q (r [o 15 (.bin .eql (t 3) (s [115,117,98])),a 4 15] [3,4]) (.cond (t 4) .skip (q (r [o 16 (.bin .eql (t 3) (s [115,97,109,101])),a 4 16] [3,4]) (.cond (t 4) .skip (q (r [o 17 (.bin .eql (t 3) (s [100,105,115,106,111,105,110,116])),a 4 17] [3,4]) (.cond (t 4) .skip (q (r [o 18 (.bin .eql (t 3) (s [100,111,109,97,105,110])),a 4 18] [3,4]) (.cond (t 4) .skip (q (r [o 19 (.bin .eql (t 3) (s [114,111,108,101])),a 4 19] [3,4]) (.cond (t 4) .skip (q (r [o 20 (.bin .eql (t 3) (s [99,104,97,105,110])),a 4 20] [3,4]) (.cond (t 4) .skip (q (r [o 21 (.bin .eql (t 3) (s [114,101,102,108,101,120,105,118,101])),a 4 21] [3,4]) (.cond (t 4) .skip (q (r [o 22 (.bin .eql (t 3) (s [116,121,112,101])),a 4 22] [3,4]) (.cond (t 4) .skip (q (r [o 23 (.bin .eql (t 3) (s [108,105,110,107])),a 4 23] [3,4]) (.cond (t 4) .skip (q (r [o 24 (.bin .eql (t 3) (s [115,101,108,101,99,116])),a 4 24] [3,4]) (.cond (t 4) .skip (q (r [o 25 (.bin .eql (t 3) (s [119,104,101,114,101])),a 4 25] [3,4]) (.cond (t 4) .skip (r [o 26 (.bin .eql (t 3) (s [111,114])),a 4 26] [4]))))))))))))))))))))))))))))))))))))))))))) (z 4 2 true)))) (q (r [j 2 false] [2]) .ret)))⟩
def rM:bU:=⟨1,[.tmp 2],true,false,(q (r [i 2 0] [0]) (q (q (r [m 3 0,c 4 lF [t 3],m 5 4,h 6 5 (M 0),h 7 5 (.call (f lU) [t 6]),o 8 (U 5 7)] [8]) (u 8 (q (r [i 2 0] [2]) .ret))) (q (r [i 2 20] [2]) .ret)))⟩
def mY:bU:=⟨1,[.tmp 2],true,false,(q (r [j 2 false] [0]) (q (r [m 3 0,o 4 (E 1 3),o 5 (B .geq 4 2),m 6 5,g 7 6 (M 0),g 8 6 (E 1 7),g 9 6 (B .leq 8 24),o 10 (V 6 9),m 11 10,g 12 11 (M 0),g 13 11 (.idxs (t 12) (k 0)),g 14 11 (.bin .eql (t 13) (b 95)),o 15 (V 11 14),m 16 15,g 17 16 (M 0),g 18 16 (.call (f qJ) [t 17]),o 19 (V 16 18),a 2 19] [2]) .ret))⟩
def l7:bH:=(.block 1 (q (r [n 12 5 4,c 13 nC [t 12],a 5 13] [2,5]) (q (r [m 14 5,o 15 (B .neq 14 0)] [2,5,15]) (u 15 (q (r [m 16 5,w (.store 1 (t 2) (t 16))] []) .ret)))))
def l9:bH:=(r [o 4 (.halloc [(.i .i64 0),(.s []),(.i .i64 0),(.i .i64 0),.ns]),w (.store 5 (t 4) (t 11))] [2,4])
def jT:bU:=⟨1,[.cell 2 none],true,false,(q (r [o 1 (.lbox (t 0)),o 2 (.halloc [(.i .i64 0)])] [1,2]) (q (r [o 3 (.halloc [(.i .i64 0)]),w (.store 1 (t 3) (k 0))] [1,2,3]) (q (q (r [n 6 5 1,c 7 su [t 6,k 0,t 3],o 8 (N 7)] [1,2,8]) (u 8 (q (r [w (.store 1 (t 2) (k 21))] [2]) .ret))) (q (q (r [n 9 5 1,c 10 ve [t 9]] [2,10]) (.block 0 (.range (t 10) [11] l9 l7))) (q (r [w (.store 1 (t 2) (k 0))] [2]) .ret)))))⟩
def qA:bH:=(q (r [o 26 (D .lss 25 24)] [1,2,23,24,25,26]) (q (y 26 0) (q (.block 1 (q (r [o 27 (X 5 23 25),n 28 5 27,o 8 (.lalloc [(.i .i64 0),(.s []),(.i .i64 0),(.i .i64 0),.ns]),w (.store 5 (t 8) (t 28))] [1,2,8,23,24,25]) (q (r [n 29 5 8,m 30 1,o 31 (B .add 30 1),m 32 2,c 33 su [t 29,t 31,t 32],o 34 (N 33)] [1,2,23,24,25,34]) (z 34 6 false)))) (r [o 35 (B .add 25 1),m 25 35] [1,2,23,24,25]))))
def sV:bU:=⟨3,[.tmp 6],false,false,(q (r [o 3 (.lbox (t 0)),j 6 false] [1,2,3]) (q (r [m 9 2,o 10 (H 9),l 11 10,o 12 (B .add 11 1),o 13 (H 9),w (.store 1 (t 13) (t 12))] [1,2,3]) (q (q (r [m 14 1,o 15 (B .gtr 14 8),m 16 15,h 17 16 (M 2),h 18 16 (H 17),h 19 16 (L 18),h 20 16 (B .gtr 19 64),o 21 (U 16 20)] [1,2,3,21]) (z 21 6 false)) (q (q (r [d 22 4 3,l 23 22,o 24 (E 0 23),o 25 (.mov (k 0))] [1,2,23,24,25]) (.block 0 (.loop [1,2,23,24,25] qA))) (q (r [j 6 true] [6]) .ret)))))⟩
def yS:bU:=⟨1,[.tmp 2],true,false,(q (r [o 1 (.hbox (t 0)),o 2 (.asg (.c .nf))] [1]) (q (r [o 3 (.mkfn (.func jq) [] [t 1]),a 2 3] [2]) .ret))⟩
def sF:bU:=⟨2,[],false,false,(r [n 3 5 1,m 4 0,c 5 mr [t 3,t 4]] [])⟩
def jJ:bH:=(q (r [o 15 (D .lss 14 13)] [1,12,13,14,15]) (q (y 15 0) (q (.block 1 (q (r [o 16 (X 5 12 14),n 17 5 16,o 6 (.lalloc [(.i .i64 0),(.s []),(.i .i64 0),(.i .i64 0),.ns]),w (.store 5 (t 6) (t 17))] [1,6,12,13,14]) (q (r [n 18 5 6,m 19 1,c 20 mr [t 18,t 19],o 21 (N 20)] [1,12,13,14,21]) (z 21 4 false)))) (r [o 22 (B .add 14 1),m 14 22] [1,12,13,14]))))
def oh:bU:=⟨2,[.tmp 4],false,false,(q (r [o 2 (.lbox (t 0)),j 4 false] [1,2]) (q (q (r [m 7 1,n 8 5 2,o 9 (.call (t 7) [t 8]),o 10 (N 9)] [1,2,10]) (z 10 4 false)) (q (q (r [d 11 4 2,l 12 11,o 13 (E 0 12),o 14 (.mov (k 0))] [1,12,13,14]) (.block 0 (.loop [1,12,13,14] jJ))) (q (r [j 4 true] [4]) .ret))))⟩
def kH:bU:=⟨1,[.tmp 2],true,false,(q (r [o 1 (.lbox (t 0)),i 2 0] [1]) (q (q (r [d 4 0 1,l 5 4,o 6 (B .lss 5 1),m 7 6,h 8 7 (G 0 1),h 9 7 (L 8),h 10 7 (B .gtr 9 7),o 11 (U 7 10)] [1,11]) (u 11 (q (r [i 2 21] [2]) .ret))) (q (r [d 12 0 1,l 13 12,o 14 (.idxa 8 4 (.g BX) (t 13)),n 15 4 14,o 3 (.lalloc [(.i .i64 0),(.i .i64 0),(.i .i64 0),(.b false)]),w (.store 4 (t 3) (t 15))] [1,3]) (q (q (r [d 16 4 1,l 17 16,o 18 (E 0 17),d 19 1 3,l 20 19,o 21 (D .lss 18 20),m 22 21,h 23 22 (G 4 1),h 24 22 (L 23),h 25 22 (E 0 24),h 26 22 (G 2 3),h 27 22 (L 26),h 28 22 (D .gtr 25 27),o 29 (U 22 28),m 30 29,h 31 30 (G 0 3),h 32 30 (L 31),h 33 30 (B .eql 32 0),h 34 30 (M 33),g 35 34 (G 1 1),g 36 34 (L 35),g 37 34 (.bin .neq (t 36) (s [])),h 38 30 (V 34 37),o 39 (U 30 38)] [1,3,39]) (u 39 (q (r [i 2 21] [2]) .ret))) (q (q (r [d 40 3 3,l 41 40] [1,3,41]) (.cond (t 41) (q (r [d 42 2 1,l 43 42,o 44 (.bin .lss (t 43) (.c (.i .i64 (-1099511627776)))),m 45 44,h 46 45 (G 2 1),h 47 45 (L 46),h 48 45 (G 3 1),h 49 45 (L 48),h 50 45 (D .gtr 47 49),o 51 (U 45 50),m 52 51,h 53 52 (G 3 1),h 54 52 (L 53),h 55 52 (B .gtr 54 1099511627776),o 56 (U 52 55)] [1,3,56]) (u 56 (q (r [i 2 21] [2]) .ret))) (q (r [d 57 2 1,l 58 57,o 59 (B .neq 58 0),m 60 59,h 61 60 (G 3 1),h 62 60 (L 61),h 63 60 (B .neq 62 0),o 64 (U 60 63)] [1,3,64]) (u 64 (q (r [i 2 21] [2]) .ret))))) (q (q (r [d 65 0 3,l 66 65,o 67 (B .eql 66 0),m 68 67,h 69 68 (G 1 1),h 70 68 (L 69),h 71 68 (.call (f lF) [t 70]),o 72 (U 68 71),m 73 72,h 74 73 (G 0 3),h 75 73 (L 74),h 76 73 (B .eql 75 2),h 77 73 (M 76),g 78 77 (G 1 1),g 79 77 (L 78),g 80 77 (.call (f lU) [t 79]),h 81 73 (V 77 80),o 82 (U 73 81)] [82]) (u 82 (q (r [i 2 0] [2]) .ret))) (q (r [i 2 20] [2]) .ret)))))))⟩
def oM:bU:=⟨1,[.tmp 2],true,false,(q (r [o 1 (.lbox (t 0)),j 2 false] [1]) (q (q (r [d 3 0 1,l 4 3] [1,4]) (.block 0 (q (r [o 6 (B .eql 4 4),a 5 6] [1,4,5]) (.cond (t 5) (q (r [j 2 true] [2]) .ret) (q (r [o 8 (B .eql 4 5),a 7 8] [1,7]) (u 7 (q (r [d 9 4 1,l 10 9,c 11 bP [t 10,f fU],a 2 11] [2]) .ret))))))) (q (r [j 2 false] [2]) .ret)))⟩
def dJ:bU:=⟨2,[.tmp 4],false,false,(q (r [j 4 false] [0,1]) (q (r [m 5 0,m 6 1,c 7 cO [t 5,t 6],o 8 (B .geq 7 0),a 4 8] [4]) .ret))⟩
def bI:bH:=(q (r [o 9 (D .lss 8 7)] [0,1,7,8,9]) (q (y 9 0) (q (.block 1 (q (r [m 10 8,a 5 10] [0,1,5,7,8]) (q (r [m 11 1,m 12 0,m 13 5,o 14 (X 5 12 13),n 15 5 14,o 16 (.call (t 11) [t 15])] [0,1,5,7,8,16]) (u 16 (q (r [m 17 5,a 4 17] [4]) .ret))))) (r [o 18 (B .add 8 1),m 8 18] [0,1,7,8]))))
def dV:bU:=⟨2,[.tmp 4],false,false,(q (r [i 4 0] [0,1]) (q (q (r [m 6 0,o 7 (E 0 6),o 8 (.mov (k 0))] [0,1,7,8]) (.block 0 (.loop [0,1,7,8] bI))) (q (r [o 4 (.asg (.c (.i .i64 (-1))))] [4]) .ret)))⟩
def sH:bH:=(q (r [o 26 (D .lss 25 24)] [0,1,23,24,25,26]) (q (y 26 0) (q (.block 1 (q (r [o 27 (X 1 23 25),l 28 27,a 7 28] [0,1,7,23,24,25]) (q (r [m 29 7,c 30 uH [t 29],o 31 (N 30)] [0,1,23,24,25,31]) (u 31 (q (r [o 4 (.asg (.c .ns)),i 5 50] [4,5]) .ret))))) (r [o 32 (B .add 25 1),m 25 32] [0,1,23,24,25]))))
def wB:bH:=(q (r [o 56 (D .lss 55 54)] [0,1,10,53,54,55,56]) (q (y 56 2) (q (.block 3 (q (r [o 57 (X 1 53 55),l 58 57,a 12 58] [0,1,10,12,53,54,55]) (r [m 59 10,m 60 12,o 61 (.bin .add (s wC6) (t 60)),o 62 (.bin .add (t 61) (s [58,61,60])),m 63 1,o 64 (D .add 62 63),m 65 12,o 66 (D .add 64 65),o 67 (.bin .add (t 66) (s [47,62,41])),o 68 (.bsl false au 1 1 [(.s [])] [(0,t 67)]),o 69 (.app au 1 (t 59) (t 68)),a 10 69] [0,1,10,53,54,55]))) (r [o 70 (B .add 55 1),m 55 70] [0,1,10,53,54,55]))))
def wz:bH:=(q (r [o 77 (D .lss 76 75)] [10,74,75,76,77]) (q (y 77 4) (q (.block 5 (q (r [o 78 (X 16 74 76),n 79 16 78,o 14 (.lalloc [(.i .i64 0),(.b false),(.i .i64 0),(.s []),(.i .i64 0),(.i .i64 0),.ns,(.i .i64 0),(.s []),(.i .i64 0),(.i .i64 0),.ns,.ns,(.s []),(.s []),(.s [])]),w (.store 16 (t 14) (t 79))] [10,14,74,75,76]) (r [m 80 10,n 81 16 14,c 82 jP [t 81],o 83 (.bsl false au 1 1 [(.s [])] [(0,t 82)]),o 84 (.app au 1 (t 80) (t 83)),a 10 84] [10,74,75,76]))) (r [o 85 (B .add 76 1),m 76 85] [10,74,75,76]))))
def mg:bU:=⟨2,[.tmp 4,.tmp 5],true,false,(q (r [o 4 (.asg (.c .ns)),i 5 0] [0,1]) (q (q (r [m 16 0,o 17 (E 0 16),o 18 (B .gtr 17 1024)] [0,1,18]) (u 18 (q (r [o 4 (.asg (.c .ns)),i 5 2] [4,5]) .ret))) (q (q (r [m 19 1,o 20 (E 1 19),o 21 (B .gtr 20 200)] [0,1,21]) (u 21 (q (r [o 4 (.asg (.c .ns)),i 5 50] [4,5]) .ret))) (q (q (r [m 22 1,o 23 (.s2b (t 22)),o 24 (E 0 23),o 25 (.mov (k 0))] [0,1,23,24,25]) (.block 0 (.loop [0,1,23,24,25] sH))) (q (r [m 34 0,c 35 lV [t 34],m 33 35,e 36 33 0,e 37 33 1,o 8 (.lalloc [.ns,.ns,.ns,.ns]),w (.store 4 (t 8) (t 36)),a 5 37] [0,1,5,8]) (q (q (r [m 38 5,o 39 (B .neq 38 0)] [0,1,5,8,39]) (u 39 (q (r [m 40 5,o 4 (.asg (.c .ns)),a 5 40] [4,5]) .ret))) (q (r [n 41 4 8,c 42 vW [t 41],a 9 42] [0,1,9]) (q (q (r [m 43 9,c 44 dY [t 43,s [111,119,108]],m 45 44,h 46 45 (M 9),h 47 45 (.call (f dY) [t 46,s [120,115,100]]),o 48 (U 45 47)] [0,1,9,48]) (u 48 (q (r [o 4 (.asg (.c .ns)),i 5 50] [4,5]) .ret))) (q (r [m 49 1,o 50 (.bin .add (s [80,114,101,102,105,120,40,58,61,60]) (t 49)),o 51 (.bin .add (t 50) (s [62,41])),o 52 (.bsl true au 1 3 [(.s [])] [(0,t 51),(1,s [80,114,101,102,105,120,40,111,119,108,58,61,60,104,116,116,112,58,47,47,119,119,119,46,119,51,46,111,114,103,47,50,48,48,50,47,48,55,47,111,119,108,35,62,41]),(2,s [80,114,101,102,105,120,40,120,115,100,58,61,60,104,116,116,112,58,47,47,119,119,119,46,119,51,46,111,114,103,47,50,48,48,49,47,88,77,76,83,99,104,101,109,97,35,62,41])]),a 10 52] [0,1,9,10]) (q (q (r [m 53 9,o 54 (E 0 53),o 55 (.mov (k 0))] [0,1,10,53,54,55]) (.block 2 (.loop [0,1,10,53,54,55] wB))) (q (r [m 71 10,o 72 (.bsl false au 1 1 [(.s [])] [(0,s [79,110,116,111,108,111,103,121,40])]),o 73 (.app au 1 (t 71) (t 72)),a 10 73] [0,10]) (q (q (r [m 74 0,o 75 (E 0 74),o 76 (.mov (k 0))] [10,74,75,76]) (.block 4 (.loop [10,74,75,76] wz))) (q (r [m 86 10,o 87 (.bsl false au 1 2 [(.s [])] [(0,s [41]),(1,s [])]),o 88 (.app au 1 (t 86) (t 87)),a 10 88] [10]) (q (r [m 89 10,c 90 xR [t 89,s [10]],a 15 90] [15]) (q (q (r [m 91 15,o 92 (E 1 91),o 93 (B .gtr 92 65536)] [15,93]) (u 93 (q (r [o 4 (.asg (.c .ns)),i 5 2] [4,5]) .ret))) (q (r [m 94 15,o 95 (.s2b (t 94)),a 4 95,i 5 0] [4,5]) .ret))))))))))))))))⟩
def iG:bH:=(q (r [o 24 (D .lss 23 22)] [0,2,3,21,22,23,24]) (q (y 24 0) (q (.block 1 (q (r [o 25 (X 16 21 23),n 26 16 25,o 5 (.lalloc [(.i .i64 0),(.b false),(.i .i64 0),(.s []),(.i .i64 0),(.i .i64 0),.ns,(.i .i64 0),(.s []),(.i .i64 0),(.i .i64 0),.ns,.ns,(.s []),(.s []),(.s [])]),w (.store 16 (t 5) (t 26))] [0,2,3,5,21,22,23]) (q (r [n 27 16 5,c 28 iJ [t 27],a 6 28] [0,2,3,6,21,22,23]) (q (r [m 29 6,o 30 (B .neq 29 0)] [0,2,3,6,21,22,23,30]) (u 30 (q (r [o 31 (.build [.ns,.ns,.ns,.ns] []),m 32 6,w (.store 4 (t 2) (t 31)),a 3 32] [2,3]) .ret)))))) (r [o 33 (B .add 23 1),m 23 33] [0,2,3,21,22,23]))))
def fO:bH:=(.block 7 (q (r [l 64 11,d 65 0 16,l 66 65,o 67 (.look 0 .nm true (t 64) (t 66)),m 63 67,e 68 63 0,e 69 63 1,a 17 68,a 18 69] [16,17,18]) (q (r [m 70 18] [16,17,70]) (u 70 (r [m 71 17,d 72 1 16,l 73 72,w (.hins 1 (t 71) (t 73) T)] [])))))
def nI:bH:=(r [o 16 (.halloc [(.i .i64 0),(.s []),(.i .i64 0),(.i .i64 0),.ns]),w (.store 5 (t 16) (t 62))] [11,16])
def kW:bH:=(q (r [o 57 (D .lss 56 55)] [2,3,7,8,9,10,11,13,44,45,46,54,55,56,57]) (q (y 57 4) (q (.block 5 (q (r [o 58 (X 5 54 56),n 59 5 58,o 15 (.lalloc [(.i .i64 0),(.s []),(.i .i64 0),(.i .i64 0),.ns]),w (.store 5 (t 15) (t 59))] [2,3,7,8,9,10,11,13,15,44,45,46,54,55,56]) (q (r [n 60 5 15,c 61 ve [t 60]] [2,3,7,8,9,10,11,13,44,45,46,54,55,56,61]) (.block 6 (.range (t 61) [62] nI fO))))) (r [o 74 (B .add 56 1),m 56 74] [2,3,7,8,9,10,11,13,44,45,46,54,55,56]))))
def nG:bH:=(q (r [o 79 (D .lss 78 77)] [2,3,7,8,9,10,11,13,44,45,46,76,77,78,79]) (q (y 79 8) (q (.block 9 (q (r [o 80 (X 1 76 78),l 81 80,a 20 81] [2,3,7,8,9,10,11,13,20,44,45,46,76,77,78]) (r [m 82 8,m 83 20,w (.hins 1 (t 82) (t 83) T)] [2,3,7,8,9,10,11,13,44,45,46,76,77,78]))) (r [o 84 (B .add 78 1),m 78 84] [2,3,7,8,9,10,11,13,44,45,46,76,77,78]))))
def nH:bH:=(q (r [o 47 (D .lss 46 45)] [2,3,7,8,9,10,11,44,45,46,47]) (q (y 47 2) (q (.block 3 (q (r [o 48 (X 16 44 46),n 49 16 48,o 13 (.lalloc [(.i .i64 0),(.b false),(.i .i64 0),(.s []),(.i .i64 0),(.i .i64 0),.ns,(.i .i64 0),(.s []),(.i .i64 0),(.i .i64 0),.ns,.ns,(.s []),(.s []),(.s [])]),w (.store 16 (t 13) (t 49))] [2,3,7,8,9,10,11,13,44,45,46]) (q (q (r [d 50 2 13,n 51 5 50,d 52 7 13,n 53 5 52,o 54 (.bsl false eU 5 2 [(.i .i64 0),(.s []),(.i .i64 0),(.i .i64 0),.ns] [(0,t 51),(1,t 53)]),o 55 (E 0 54),o 56 (.mov (k 0))] [2,3,7,8,9,10,11,13,44,45,46,54,55,56]) (.block 4 (.loop [2,3,7,8,9,10,11,13,44,45,46,54,55,56] kW))) (q (q (r [d 75 12 13,l 76 75,o 77 (E 0 76),o 78 (.mov (k 0))] [2,3,7,8,9,10,11,13,44,45,46,76,77,78]) (.block 8 (.loop [2,3,7,8,9,10,11,13,44,45,46,76,77,78] nG))) (q (r [m 85 8,d 86 13 13,l 87 86,w (.hins 1 (t 85) (t 87) T)] [2,3,7,8,9,10,11,13,44,45,46]) (q (r [m 88 10,d 89 14 13,l 90 89,w (.hins 1 (t 88) (t 90) T)] [2,3,7,8,9,10,11,13,44,45,46]) (r [m 91 10,d 92 15 13,l 93 92,w (.hins 1 (t 91) (t 93) T)] [2,3,7,8,9,10,11,44,45,46]))))))) (r [o 94 (B .add 46 1),m 46 94] [2,3,7,8,9,10,11,44,45,46]))))
def mZ:bU:=⟨1,[.cell 2 (some 4),.tmp 3],true,false,(q (r [o 2 (.lalloc [.ns,.ns,.ns,.ns]),i 3 0] [0,2,3]) (q (q (r [m 21 0,o 22 (E 0 21),o 23 (.mov (k 0))] [0,2,3,21,22,23]) (.block 0 (.loop [0,2,3,21,22,23] iG))) (q (r [o 34 .hmap,o 35 .hmap,a 7 34,a 8 35] [0,2,3,7,8]) (q (r [o 36 .hmap,o 37 .hmap,a 9 36,a 10 37] [0,2,3,7,8,9,10]) (q (r [o 38 .hmap,m 39 7,w (.hins 0 (t 38) (k 3) (t 39)),m 40 8,w (.hins 0 (t 38) (k 6) (t 40)),m 41 9,w (.hins 0 (t 38) (k 7) (t 41)),m 42 10,w (.hins 0 (t 38) (k 4) (t 42)),m 43 38,o 11 (.halloc [.nm]),w (.store 1 (t 11) (t 43))] [0,2,3,7,8,9,10,11]) (q (q (r [m 44 0,o 45 (E 0 44),o 46 (.mov (k 0))] [2,3,7,8,9,10,11,44,45,46]) (.block 2 (.loop [2,3,7,8,9,10,11,44,45,46] nH))) (q (r [m 95 8,w (.hdel 1 (t 95) (s []))] [2,7,8,9,10]) (q (r [m 96 10,w (.hdel 1 (t 96) (s []))] [2,7,8,9,10]) (q (r [m 97 7,c 98 bM [t 97],c 99 jC [t 98],m 100 8,c 101 bM [t 100],c 102 jC [t 101],m 103 9,c 104 bM [t 103],c 105 jC [t 104],m 106 10,c 107 bM [t 106],c 108 jC [t 107],o 109 (.build [.ns,.ns,.ns,.ns] [(0,1,t 99),(1,1,t 102),(2,1,t 105),(3,1,t 108)]),w (.store 4 (t 2) (t 109)),i 3 0] [2,3]) .ret)))))))))⟩
def mQ:bH:=(q (r [o 20 (D .lss 19 18)] [2,17,18,19,20]) (q (y 20 0) (q (.block 1 (q (r [o 21 (X 1 17 19),l 22 21,a 4 22] [2,4,17,18,19]) (q (r [m 24 4,c 25 pV [t 24,s [58]],m 23 25,e 26 23 0,e 27 23 1,e 28 23 2,a 5 26,a 6 27,a 7 28] [2,5,7,17,18,19]) (q (r [m 29 7] [2,5,17,18,19,29]) (u 29 (r [m 30 2,m 31 5,o 32 (.bsl false au 1 1 [(.s [])] [(0,t 31)]),o 33 (.appk au 1 (t 30) (t 32)),a 2 33] [2,17,18,19])))))) (r [o 34 (B .add 19 1),m 19 34] [2,17,18,19]))))
def uy:bU:=⟨1,[.tmp 2],true,false,(q (r [o 1 (.lbox (t 0)),o 2 (.asg (.c .ns))] [1,2]) (q (q (r [d 8 0 1,l 9 8,d 10 1 1,l 11 10,d 12 2 1,l 13 12,d 14 3 1,l 15 14,o 16 (.bsl false Zp 1 4 [.ns] [(0,t 9),(1,t 11),(2,t 13),(3,t 15)]),c 17 iC [t 16],o 18 (E 0 17),o 19 (.mov (k 0))] [2,17,18,19]) (.block 0 (.loop [2,17,18,19] mQ))) (q (r [m 35 2,c 36 kR [t 35]] [2]) (q (r [m 37 2,c 38 eP [t 37],a 2 38] [2]) .ret))))⟩
def iV:bH:=(q (r [o 12 (D .lss 11 10)] [0,3,9,10,11,12]) (q (y 12 0) (q (.block 1 (q (r [o 13 (X 1 9 11),l 14 13,a 5 14] [0,3,5,9,10,11]) (q (r [m 15 3,m 16 5,o 17 (E 0 16),o 18 (D .add 15 17),a 3 18] [0,3,9,10,11]) (q (r [m 19 3,o 20 (B .lss 19 0)] [0,3,9,10,11,20]) (u 20 (r [o 21 (.mkif au (s [108,101,110,32,111,117,116,32,111,102,32,114,97,110,103,101])),w (.panic (t 21))] [0,3,9,10,11])))))) (r [o 22 (B .add 11 1),m 11 22] [0,3,9,10,11]))))
def bC:bH:=(q (r [o 28 (D .lss 27 26)] [6,25,26,27,28]) (q (y 28 2) (q (.block 3 (q (r [o 29 (X 1 25 27),l 30 29,a 8 30] [6,8,25,26,27]) (r [m 31 6,m 32 8,o 33 (.appe au 1 (t 31) (t 32)),a 6 33] [6,25,26,27]))) (r [o 34 (B .add 27 1),m 27 34] [6,25,26,27]))))
def gX:bU:=⟨1,[.tmp 2],false,false,(q (r [o 2 (.asg (.c .ns))] [0]) (q (r [i 3 0] [0,3]) (q (q (r [m 9 0,o 10 (E 0 9),o 11 (.mov (k 0))] [0,3,9,10,11]) (.block 0 (.loop [0,3,9,10,11] iV))) (q (r [m 23 3,c 24 gV [(.c .ns),t 23],a 6 24] [0,6]) (q (q (r [m 25 0,o 26 (E 0 25),o 27 (.mov (k 0))] [6,25,26,27]) (.block 2 (.loop [6,25,26,27] bC))) (q (r [m 35 6,a 2 35] [2]) .ret))))))⟩
def iO:bU:=⟨2,[.tmp 4],false,true,(q (r [o 4 (.asg (.c .ns))] [0,1]) (q (q (r [m 5 1,o 6 (B .lss 5 0)] [0,1,6]) (u 6 (r [o 7 (.mkif au (s [99,97,110,110,111,116,32,98,101,32,110,101,103,97,116,105,118,101])),w (.panic (t 7))] [0,1]))) (q (q (r [m 8 1,m 9 0,o 10 (.capn (t 9)),m 11 0,o 12 (E 0 11),o 13 (D .sub 10 12),o 14 (D .sub 8 13),a 1 14] [0,1]) (q (r [m 15 1,o 16 (B .gtr 15 0)] [0,1,16]) (u 16 (r [m 17 0,m 18 0,o 19 (.capn (t 18)),o 20 (.slc 1 (t 17) none (some (t 19))),m 21 1,o 22 (.appz au 1 [(.s [])] (t 20) (t 21)),m 23 0,o 24 (E 0 23),o 25 (.slc 1 (t 22) none (some (t 24))),a 0 25] [0])))) (q (r [m 26 0,a 4 26] [4]) .ret))))⟩
def eX:bH:=(q (q (r [m 29 5,m 30 4,o 31 (E 0 30),o 32 (D .lss 29 31)] [0,3,4,5,32]) (y 32 2)) (q (.block 3 (q (.region [m 35 4,m 36 5,o 37 (X 1 35 36),l 38 37,m 39 4,m 40 5,o 41 (B .sub 40 1),o 42 (X 1 39 41),l 43 42,o 44 (D .neq 38 43)] (some ([0,1,2,3,4,5,6,7,8,9],[])) [0,3,4,5,44]) (u 44 (q (r [m 45 0,m 46 3,m 47 4,m 48 5,o 49 (X 1 47 48),l 50 49,o 51 (X 1 45 46),w (.store 1 (t 51) (t 50))] [0,3,4,5]) (r [m 52 3,o 53 (B .add 52 1),a 3 53] [0,3,4,5]))))) (r [m 33 5,o 34 (B .add 33 1),a 5 34] [0,3,4,5])))
def eY:bH:=(q (q (r [m 10 3,m 11 0,o 12 (E 0 11),o 13 (D .lss 10 12)] [0,3,13]) (y 13 0)) (q (.block 1 (q (.region [m 16 0,m 17 3,o 18 (X 1 16 17),l 19 18,m 20 0,m 21 3,o 22 (B .sub 21 1),o 23 (X 1 20 22),l 24 23,o 25 (D .eql 19 24)] (some ([0,1,2,3,4,5,6,7,8,9],[])) [0,3,25]) (u 25 (q (r [m 26 0,m 27 3,o 28 (.slc 1 (t 26) (some (t 27)) none),a 4 28] [0,3,4]) (q (q (r [i 5 1] [0,3,4,5]) (.block 2 (.loop [0,3,4,5] eX))) (q (r [m 54 0,m 55 3,o 56 (.slc 1 (t 54) (some (t 55)) none),w (.clrk [(.s [])] (t 56))] [0,3]) (q (r [m 57 0,m 58 3,o 59 (.slc 1 (t 57) none (some (t 58))),a 2 59] [2]) .ret))))))) (r [m 14 3,o 15 (B .add 14 1),a 3 15] [0,3])))
def bJ:bU:=⟨1,[.tmp 2],false,true,(q (r [o 2 (.asg (.c .ns))] [0]) (q (q (r [m 6 0,o 7 (E 0 6),o 8 (B .lss 7 2)] [0,8]) (u 8 (q (r [m 9 0,a 2 9] [2]) .ret))) (q (q (r [i 3 1] [0,3]) (.block 0 (.loop [0,3] eY))) (q (r [m 60 0,a 2 60] [2]) .ret))))⟩
def fQ:bU:=⟨2,[.tmp 4],true,false,(q (r [j 4 false] [0,1]) (q (r [m 5 0,m 6 1,c 7 iT [t 5,t 6],o 8 (B .geq 7 0),a 4 8] [4]) .ret))⟩
def fP:bH:=(q (r [o 9 (D .lss 8 7)] [0,1,7,8,9]) (q (y 9 0) (q (.block 1 (q (r [m 10 8,a 5 10] [0,1,5,7,8]) (q (r [m 11 1,m 12 0,m 13 5,o 14 (X 1 12 13),l 15 14,o 16 (D .eql 11 15)] [0,1,5,7,8,16]) (u 16 (q (r [m 17 5,a 4 17] [4]) .ret))))) (r [o 18 (B .add 8 1),m 8 18] [0,1,7,8]))))
def fC:bU:=⟨2,[.tmp 4],true,false,(q (r [i 4 0] [0,1]) (q (q (r [m 6 0,o 7 (E 0 6),o 8 (.mov (k 0))] [0,1,7,8]) (.block 0 (.loop [0,1,7,8] fP))) (q (r [o 4 (.asg (.c (.i .i64 (-1))))] [4]) .ret)))⟩
def wu:bH:=(q (r [o 78 (D .lss 77 76)] [1,4,5,75,76,77,78]) (q (y 78 1) (q (.block 2 (q (r [o 79 (X 1 75 77),l 80 79,a 7 80] [1,4,5,7,75,76,77]) (r [m 81 5,m 82 7,c 83 jb [t 82],o 84 (.bsl false au 1 1 [(.s [])] [(0,t 83)]),o 85 (.app au 1 (t 81) (t 84)),a 5 85] [1,4,5,75,76,77]))) (r [o 86 (B .add 77 1),m 77 86] [1,4,5,75,76,77]))))
def dK:bU:=⟨1,[.tmp 2],true,false,(q (r [o 1 (.lbox (t 0)),o 2 (.asg (s []))] [1]) (q (r [o 3 (.asg (s []))] [1,3]) (q (r [o 4 (.nbuf au 1)] [1,3,4]) (q (q (r [d 8 1 1,l 9 8] [1,3,4,9]) (u 9 (r [m 10 4,o 11 (.bsl false au 1 1 [(.s [])] [(0,s wD1)]),o 12 (.app au 1 (t 10) (t 11)),a 4 12] [1,3,4]))) (q (q (r [d 13 0 1,l 14 13] [1,3,4,14]) (.block 0 (q (r [o 16 (B .eql 14 1),a 15 16] [1,3,4,14,15]) (.cond (t 15) (.region [m 17 4,d 18 2 1,n 19 5 18,c 20 fE [t 19],d 21 7 1,n 22 5 21,c 23 fE [t 22],o 24 (.bsl false au 1 2 [(.s [])] [(0,t 20),(1,t 23)]),o 25 (.app au 1 (t 17) (t 24)),o 3 (.asg (s wC2)),a 4 25] (some ([0,1,2,3,4,5,6,7,8,9,10],[])) [3,4]) (q (r [o 27 (B .eql 14 2),a 26 27] [1,3,4,14,26]) (.cond (t 26) (.region [m 28 4,d 29 2 1,n 30 5 29,c 31 fE [t 30],d 32 7 1,n 33 5 32,c 34 fE [t 33],o 35 (.bsl false au 1 2 [(.s [])] [(0,t 31),(1,t 34)]),o 36 (.app au 1 (t 28) (t 35)),o 3 (.asg (s wB3)),a 4 36] (some ([0,1,2,3,4,5,6,7,8,9,10],[])) [3,4]) (q (r [o 38 (B .eql 14 3),a 37 38] [1,3,4,14,37]) (.cond (t 37) (.region [m 39 4,d 40 2 1,n 41 5 40,c 42 fE [t 41],d 43 7 1,n 44 5 43,c 45 fE [t 44],o 46 (.bsl false au 1 2 [(.s [])] [(0,t 42),(1,t 45)]),o 47 (.app au 1 (t 39) (t 46)),o 3 (.asg (s wB5)),a 4 47] (some ([0,1,2,3,4,5,6,7,8,9,10],[])) [3,4]) (q (r [o 49 (B .eql 14 4),a 48 49] [1,3,4,14,48]) (.cond (t 48) (.region [m 50 4,d 51 13 1,l 52 51,c 53 jb [t 52],d 54 7 1,n 55 5 54,c 56 fE [t 55],o 57 (.bsl false au 1 2 [(.s [])] [(0,t 53),(1,t 56)]),o 58 (.app au 1 (t 50) (t 57)),o 3 (.asg (s wB2)),a 4 58] (some ([0,1,2,3,4,5,6,7,8,9,10],[])) [3,4]) (q (r [o 60 (B .eql 14 5),a 59 60] [1,3,4,14,59]) (.cond (t 59) (.region [m 61 4,d 62 12 1,l 63 62,o 64 (.idx 1 (t 63) (k 0)),l 65 64,c 66 jb [t 65],d 67 13 1,l 68 67,c 69 jb [t 68],o 70 (.bsl false au 1 2 [(.s [])] [(0,t 66),(1,t 69)]),o 71 (.app au 1 (t 61) (t 70)),o 3 (.asg (s wA3)),a 4 71] (some ([0,1,2,3,4,5,6,7,8,9,10,11,12],[])) [3,4]) (q (r [o 73 (B .eql 14 6),a 72 73] [1,3,4,14,72]) (.cond (t 72) (q (r [o 5 (.nbuf au 1)] [1,4,5]) (q (q (r [d 74 12 1,l 75 74,o 76 (E 0 75),o 77 (.mov (k 0))] [1,4,5,75,76,77]) (.block 1 (.loop [1,4,5,75,76,77] wu))) (.region [m 87 4,m 88 5,c 89 oD [s wA2,t 88],d 90 13 1,l 91 90,c 92 jb [t 91],o 93 (.bsl false au 1 2 [(.s [])] [(0,t 89),(1,t 92)]),o 94 (.app au 1 (t 87) (t 93)),o 3 (.asg (s wA3)),a 4 94] (some ([0,1,2,3,4,5,6,7,8,9],[5])) [3,4]))) (q (r [o 96 (B .eql 14 7),a 95 96] [1,3,4,14,95]) (.cond (t 95) (r [m 97 4,d 98 13 1,l 99 98,c 100 jb [t 99],o 101 (.bsl false au 1 1 [(.s [])] [(0,t 100)]),o 102 (.app au 1 (t 97) (t 101)),o 3 (.asg (s wA9)),a 4 102] [3,4]) (q (r [o 104 (B .eql 14 8),a 103 104] [1,3,4,14,103]) (.cond (t 103) (.region [m 105 4,d 106 7 1,n 107 5 106,c 108 fE [t 107],d 109 14 1,l 110 109,c 111 jb [t 110],o 112 (.bsl false au 1 2 [(.s [])] [(0,t 108),(1,t 111)]),o 113 (.app au 1 (t 105) (t 112)),o 3 (.asg (s wB7)),a 4 113] (some ([0,1,2,3,4,5,6,7,8,9,10],[])) [3,4]) (q (r [o 115 (B .eql 14 9),a 114 115] [1,3,4,114]) (u 114 (.region [m 116 4,d 117 13 1,l 118 117,c 119 jb [t 118],d 120 14 1,l 121 120,c 122 jb [t 121],d 123 15 1,l 124 123,c 125 jb [t 124],o 126 (.bsl false au 1 3 [(.s [])] [(0,t 119),(1,t 122),(2,t 125)]),o 127 (.app au 1 (t 116) (t 126)),o 3 (.asg (s wB0)),a 4 127] (some ([0,1,2,3,4,5,6,7,8,9,10,11,12,13],[])) [3,4]))))))))))))))))))))) (q (r [m 128 3,m 129 4,c 130 oD [t 128,t 129],a 2 130] [2]) .ret))))))⟩
def tX:bH:=(q (r [o 26 (D .lss 25 24)] [3,23,24,25,26]) (q (y 26 1) (q (.block 2 (q (r [o 27 (X 5 23 25),n 28 5 27,o 5 (.lalloc [(.i .i64 0),(.s []),(.i .i64 0),(.i .i64 0),.ns]),w (.store 5 (t 5) (t 28))] [3,5,23,24,25]) (r [m 29 3,n 30 5 5,c 31 fE [t 30],o 32 (.bsl false au 1 1 [(.s [])] [(0,t 31)]),o 33 (.app au 1 (t 29) (t 32)),a 3 33] [3,23,24,25]))) (r [o 34 (B .add 25 1),m 25 34] [3,23,24,25]))))
def jX:bU:=⟨1,[.tmp 2],true,false,(q (r [o 1 (.lbox (t 0)),o 2 (.asg (s []))] [1]) (q (q (r [d 7 0 1,l 8 7] [1,8]) (.block 0 (q (r [o 10 (B .eql 8 1),a 9 10] [1,8,9]) (.cond (t 9) (q (r [o 2 (.asg (s wB4))] [2]) .ret) (q (r [o 12 (B .eql 8 2),a 11 12] [1,8,11]) (.cond (t 11) (q (r [o 2 (.asg (s wB1))] [2]) .ret) (q (r [o 14 (B .eql 8 4),a 13 14] [1,8,13]) (.cond (t 13) (q (r [d 15 1 1,l 16 15,c 17 jb [t 16],o 18 (.bsl false au 1 1 [(.s [])] [(0,t 17)]),c 19 oD [s wB6,t 18],a 2 19] [2]) .ret) (q (r [o 21 (B .eql 8 5),a 20 21] [1,8,20]) (.cond (t 20) (q (r [o 3 (.nbuf au 1)] [1,3]) (q (q (r [d 22 4 1,l 23 22,o 24 (E 0 23),o 25 (.mov (k 0))] [3,23,24,25]) (.block 1 (.loop [3,23,24,25] tX))) (q (r [m 35 3,c 36 oD [s wA5,t 35],a 2 36] [2]) .ret))) (q (r [o 38 (B .eql 8 6),a 37 38] [1,8,37]) (.cond (t 37) (q (.region [d 39 1 1,l 40 39,c 41 jb [t 40],d 42 4 1,l 43 42,o 44 (.idx 5 (t 43) (k 0)),n 45 5 44,c 46 fE [t 45],o 47 (.bsl false au 1 2 [(.s [])] [(0,t 41),(1,t 46)]),c 48 oD [s wA6,t 47],a 2 48] (some ([0,1,2,3,4,5,6,7,8,9,10],[])) [2]) .ret) (q (r [o 50 (B .eql 8 7),a 49 50] [1,49]) (u 49 (q (.region [d 51 2 1,l 52 51,c 53 wY [s wA1,t 52],d 54 3 1,l 55 54,c 56 wY [s wA4,t 55],o 57 (.bsl false au 1 3 [(.s [])] [(0,s wA0),(1,t 53),(2,t 56)]),c 58 oD [s wA7,t 57],a 6 58] (some ([0,1,2,3,4,5,6,7,8],[])) [1,6]) (q (r [d 59 1 1,l 60 59,c 61 jb [t 60],m 62 6,o 63 (.bsl false au 1 2 [(.s [])] [(0,t 61),(1,t 62)]),c 64 oD [s wA8,t 63],a 2 64] [2]) .ret)))))))))))))))) (q (r [d 65 1 1,l 66 65,c 67 jb [t 66],a 2 67] [2]) .ret)))⟩
def BA:bU:=⟨1,[.tmp 2],true,false,(q (r [o 2 (.asg (s []))] [0]) (q (q (r [m 3 0,c 4 lW [t 3,s [58]]] [0,4]) (u 4 (q (r [m 5 0,a 2 5] [2]) .ret))) (q (r [m 6 0,o 7 (.bin .add (s [58]) (t 6)),a 2 7] [2]) .ret)))⟩
def BB:bU:=⟨2,[.tmp 4],true,false,(q (r [o 4 (.asg (s []))] [0,1]) (q (r [m 5 0,o 6 (.bin .add (t 5) (s [40])),m 7 1,c 8 xR [t 7,s [32]],o 9 (D .add 6 8),o 10 (.bin .add (t 9) (s [41])),a 4 10] [4]) .ret))⟩
def zT:bU:=⟨2,[.tmp 4],true,false,(q (r [o 4 (.asg (s []))] [0,1]) (q (r [m 5 0,o 6 (.bin .add (t 5) (s [32,34])),m 7 1,c 8 AX [t 7],o 9 (D .add 6 8),o 10 (.bin .add (t 9) (s [34,94,94,120,115,100,58,105,110,116,101,103,101,114])),a 4 10] [4]) .ret))⟩
def nJ:bH:=(q (q (r [m 11 5,m 12 0,o 13 (E 0 12),o 14 (D .lss 11 13)] [0,1,5,14]) (y 14 0)) (q (.block 1 (q (.region [m 17 0,m 18 5,o 19 (X 16 17 18),n 20 16 19,m 21 1,m 22 5,o 23 (X 16 21 22),n 24 16 23,c 25 o9 [t 20,t 24],o 26 (N 25)] (some ([0,1,2,3,4,5,6,7,8,9],[])) [0,1,5,26]) (z 26 4 false))) (r [m 15 5,o 16 (B .add 15 1),a 5 16] [0,1,5])))
def qf:bU:=⟨2,[.tmp 4],true,false,(q (r [j 4 false] [0,1]) (q (q (r [m 6 0,o 7 (E 0 6),m 8 1,o 9 (E 0 8),o 10 (D .neq 7 9)] [0,1,10]) (z 10 4 false)) (q (q (r [i 5 0] [0,1,5]) (.block 0 (.loop [0,1,5] nJ))) (q (r [j 4 true] [4]) .ret))))⟩
def rP:bU:=⟨2,[.tmp 4],true,false,(q (r [o 2 (.lbox (t 0)),o 3 (.lbox (t 1)),j 4 false] [2,3]) (q (r [d 5 1 2,l 6 5,d 7 1 3,l 8 7,o 9 (.beq false (t 6) (t 8)),m 10 9,g 11 10 (G 0 2),g 12 10 (L 11),g 13 10 (G 0 3),g 14 10 (L 13),g 15 10 (D .eql 12 14),o 16 (V 10 15),m 17 16,g 18 17 (G 2 2),g 19 17 (.load (some 5) (t 18)),g 20 17 (G 2 3),g 21 17 (.load (some 5) (t 20)),g 22 17 (.call (f pq) [t 19,t 21]),o 23 (V 17 22),m 24 23,g 25 24 (G 7 2),g 26 24 (.load (some 5) (t 25)),g 27 24 (G 7 3),g 28 24 (.load (some 5) (t 27)),g 29 24 (.call (f pq) [t 26,t 28]),o 30 (V 24 29),m 31 30,g 32 31 (G 12 2),g 33 31 (L 32),g 34 31 (G 12 3),g 35 31 (L 34),g 36 31 (.call (f qL) [t 33,t 35]),o 37 (V 31 36),m 38 37,g 39 38 (G 13 2),g 40 38 (L 39),g 41 38 (G 13 3),g 42 38 (L 41),g 43 38 (D .eql 40 42),o 44 (V 38 43),m 45 44,g 46 45 (G 14 2),g 47 45 (L 46),g 48 45 (G 14 3),g 49 45 (L 48),g 50 45 (D .eql 47 49),o 51 (V 45 50),m 52 51,g 53 52 (G 15 2),g 54 52 (L 53),g 55 52 (G 15 3),g 56 52 (L 55),g 57 52 (D .eql 54 56),o 58 (V 52 57),a 4 58] [4]) .ret))⟩
def uU:bH:=(q (q (r [m 41 5,d 42 4 2,l 43 42,o 44 (E 0 43),o 45 (D .lss 41 44)] [2,3,5,45]) (y 45 0)) (q (.block 1 (q (.region [d 48 4 2,l 49 48,m 50 5,o 51 (X 5 49 50),n 52 5 51,d 53 4 3,l 54 53,m 55 5,o 56 (X 5 54 55),n 57 5 56,c 58 pq [t 52,t 57],o 59 (N 58)] (some ([0,1,2,3,4,5,6,7,8,9,10,11],[])) [2,3,5,59]) (z 59 4 false))) (r [m 46 5,o 47 (B .add 46 1),a 5 47] [2,3,5])))
def yT:bU:=⟨2,[.tmp 4],true,false,(q (r [o 2 (.lbox (t 0)),o 3 (.lbox (t 1)),j 4 false] [2,3]) (q (q (r [d 6 0 2,l 7 6,d 8 0 3,l 9 8,o 10 (D .neq 7 9),m 11 10,h 12 11 (G 1 2),h 13 11 (L 12),h 14 11 (G 1 3),h 15 11 (L 14),h 16 11 (D .neq 13 15),o 17 (U 11 16),m 18 17,h 19 18 (G 2 2),h 20 18 (L 19),h 21 18 (G 2 3),h 22 18 (L 21),h 23 18 (D .neq 20 22),o 24 (U 18 23),m 25 24,h 26 25 (G 3 2),h 27 25 (L 26),h 28 25 (G 3 3),h 29 25 (L 28),h 30 25 (D .neq 27 29),o 31 (U 25 30),m 32 31,h 33 32 (G 4 2),h 34 32 (L 33),h 35 32 (E 0 34),h 36 32 (G 4 3),h 37 32 (L 36),h 38 32 (E 0 37),h 39 32 (D .neq 35 38),o 40 (U 32 39)] [2,3,40]) (z 40 4 false)) (q (q (r [i 5 0] [2,3,5]) (.block 0 (.loop [2,3,5] uU))) (q (r [j 4 true] [4]) .ret))))⟩
def oW:bH:=(q (q (r [m 11 5,m 12 0,o 13 (E 0 12),o 14 (D .lss 11 13)] [0,1,5,14]) (y 14 0)) (q (.block 1 (q (.region [m 17 0,m 18 5,o 19 (X 1 17 18),l 20 19,m 21 1,m 22 5,o 23 (X 1 21 22),l 24 23,o 25 (D .neq 20 24)] (some ([0,1,2,3,4,5,6,7,8],[])) [0,1,5,25]) (z 25 4 false))) (r [m 15 5,o 16 (B .add 15 1),a 5 16] [0,1,5])))
def tV:bU:=⟨2,[.tmp 4],true,false,(q (r [j 4 false] [0,1]) (q (q (r [m 6 0,o 7 (E 0 6),m 8 1,o 9 (E 0 8),o 10 (D .neq 7 9)] [0,1,10]) (z 10 4 false)) (q (q (r [i 5 0] [0,1,5]) (.block 0 (.loop [0,1,5] oW))) (q (r [j 4 true] [4]) .ret))))⟩
end
def QV:List (Nat×bU):=
 [(oI,iH),
  (xU,Ib),
  (sO,uV),
  (gQ,aA),
  (bK,qB),
  (aO,kD),
  (pz,oq),
  (wQ,Bz),
  (lu,o7),
  (vU,iP),
  (qP,oN),
  (uH,nK),
  (qO,mX),
  (vg,jW),
  (qM,wo),
  (bQ,lS),
  (aN,rQ),
  (aH,lQ),
  (aP,dR),
  (pV,uq),
  (jr,je),
  (lW,ng),
  (oP,uQ),
  (kM,oH),
  (fH,dI),
  (fV,fF),
  (lX,kX),
  (dS,ny),
  (aU,dQ),
  (gY,iW),
  (iL,kJ),
  (ja,jy),
  (jH,jm),
  (kZ,dG),
  (pG,ou),
  (iK,jg),
  (jG,ji),
  (lg,jl),
  (kN,oZ),
  (gK,dX),
  (iY,mF),
  (kP,kY),
  (jM,jk),
  (iD,iZ),
  (jO,aS),
  (lY,dh),
  (vV,iQ),
  (lN,aY),
  (nD,ay),
  (pF,dH),
  (iJ,lm),
  (qK,mO),
  (oO,uP),
  (sK,qy),
  (lF,nP),
  (qI,sG),
  (nS,tN),
  (qJ,vZ),
  (sQ,uX),
  (jL,rM),
  (lU,mY),
  (kL,jT),
  (su,sV),
  (ve,yS),
  (jq,sF),
  (mr,oh),
  (nC,kH),
  (fU,oM),
  (bP,dJ),
  (cO,dV),
  (wZ,mg),
  (lV,mZ),
  (vW,uy),
  (iC,gX),
  (gV,iO),
  (eP,bJ),
  (dY,fQ),
  (iT,fC),
  (jP,dK),
  (fE,jX),
  (jb,BA),
  (oD,BB),
  (wY,zT),
  (oC,qf),
  (o9,rP),
  (pq,yT),
  (qL,tV)]
def KI:List (Nat×List AV):=
 [(BX,[.i .i64 0,.i .i64 0,.i .i64 0,.b false,.i .i64 0,.i .i64 0,.i .i64 0,.b false,.i .i64 0,.i .i64 0,.i .i64 0,.b false,.i .i64 1,.i .i64 0,.i .i64 0,.b false,.i .i64 2,.i .i64 0,.i .i64 0,.b false,.i .i64 0,.i .i64 2,.i .i64 8,.b false,.i .i64 1,.i .i64 1,.i .i64 1,.b false,.i .i64 1,.i .i64 0,.i .i64 0,.b true]),
(xQ,[.b false,.b false,.b false,.b false,.b false,.i .i64 0,.i .i64 0,
   .b true,.b true,.b false,.b false,.b false,.i .i64 0,.i .i64 0,
   .b true,.b true,.b false,.b false,.b false,.i .i64 0,.i .i64 0,
   .b true,.b true,.b false,.b false,.b false,.i .i64 0,.i .i64 0,
   .b false,.b true,.b true,.b false,.b false,.i .i64 0,.i .i64 0,
   .b false,.b false,.b true,.b false,.b false,.i .i64 1,.i .i64 1,
   .b false,.b false,.b true,.b false,.b false,.i .i64 2,.i .i64 4,
   .b false,.b false,.b true,.b false,.b false,.i .i64 0,.i .i64 0,
   .b false,.b true,.b false,.b true,.b false,.i .i64 0,.i .i64 0,
   .b false,.b false,.b true,.b true,.b true,.i .i64 0,.i .i64 0]),
(yO,[.i .u64 1,.i .u64 10,.i .u64 100,.i .u64 1000,.i .u64 10000,.i .u64 100000,.i .u64 1000000,.i .u64 10000000,.i .u64 100000000,.i .u64 1000000000,.i .u64 10000000000,.i .u64 100000000000,.i .u64 1000000000000,.i .u64 10000000000000,.i .u64 100000000000000,.i .u64 1000000000000000,.i .u64 10000000000000000,.i .u64 100000000000000000,.i .u64 1000000000000000000,.i .u64 10000000000000000000])]
def FH:List (Nat×(List AV→St→Option AV)):=
 [(xR,H6 Xj),(AX,H6 Xk),(jZ,H6 Vm),(AY,H6 Xl),(bM,Xi 91),(jC,Gw [91])]
def QF:List (Nat×HiK):=
 [(kR,.sortS)]
def abf:List (Nat×(List AV→St→Option AV)):=
 []
def uY:AV→Option (List (List AV)):=fun | .ifc t (.ag [.i .i64 a,.i .i64 c])=>if t=qX then some [[.ns],[.s []],[.i .i64 a],[.i .i64 c]] else none | _=>none
def rH:Gl:=zh uY
def KW:List (Nat×Gl):=
 [(oG,rH)]
def P0:uJ:=⟨fun f=>QV.lookup f,fun k=>KI.lookup k,fun f=>FH.lookup f,fun f=>QF.lookup f,fun f=>abf.lookup f,fun f=>KW.lookup f⟩
theorem go {f:Nat} {fn:bU} (hi:FH.lookup f=none) (hh:QF.lookup f=none) (hd:KW.lookup f=none) (hf:QV.lookup f=some fn) {as cs args:List AV} {s:St} {cx:Ctx} {o:CO} (ho:o≠.fail)
  (h:af P0.glob (aj P0) fn (as++args++cs) s cx=o):aj P0 (.fn (.func f) as cs) args s cx=o:=UE hi hh hd hf ho h
def Go1 (A:uJ) (f:Nat) (fn:bU):Prop:=∀{as cs args:List AV} {s:St} {cx:Ctx} {o:CO},o≠.fail→af A.glob (aj A) fn (as++args++cs) s cx=o→aj A (.fn (.func f) as cs) args s cx=o
theorem go1 {f:Nat} {fn:bU} (hi:FH.lookup f=none) (hh:QF.lookup f=none) (hd:KW.lookup f=none) (hf:QV.lookup f=some fn):Go1 P0 f fn:=fun ho h=>go hi hh hd hf ho h
theorem D5:Go1 P0 oI iH:=go1 rfl rfl rfl rfl
theorem MJ:Go1 P0 sO uV:=go1 rfl rfl rfl rfl
theorem A8:Go1 P0 gQ aA:=go1 rfl rfl rfl rfl
theorem MI:Go1 P0 bK qB:=go1 rfl rfl rfl rfl
theorem Jh:Go1 P0 aO kD:=go1 rfl rfl rfl rfl
theorem Jf:Go1 P0 pz oq:=go1 rfl rfl rfl rfl
theorem Xq:Go1 P0 wQ Bz:=go1 rfl rfl rfl rfl
theorem FP:Go1 P0 lu o7:=go1 rfl rfl rfl rfl
theorem QM:Go1 P0 vU iP:=go1 rfl rfl rfl rfl
theorem OO:Go1 P0 qP oN:=go1 rfl rfl rfl rfl
theorem Vo:Go1 P0 uH nK:=go1 rfl rfl rfl rfl
theorem OM:Go1 P0 qO mX:=go1 rfl rfl rfl rfl
theorem SI:Go1 P0 vg jW:=go1 rfl rfl rfl rfl
theorem OL:Go1 P0 qM wo:=go1 rfl rfl rfl rfl
theorem Jl:Go1 P0 bQ lS:=go1 rfl rfl rfl rfl
theorem Ji:Go1 P0 aN rQ:=go1 rfl rfl rfl rfl
theorem Jd:Go1 P0 aH lQ:=go1 rfl rfl rfl rfl
theorem Jj:Go1 P0 aP dR:=go1 rfl rfl rfl rfl
theorem QL:Go1 P0 pV uq:=go1 rfl rfl rfl rfl
theorem zU:Go1 P0 jr je:=go1 rfl rfl rfl rfl
theorem G8:Go1 P0 lW ng:=go1 rfl rfl rfl rfl
theorem MH:Go1 P0 oP uQ:=go1 rfl rfl rfl rfl
theorem EK:Go1 P0 kM oH:=go1 rfl rfl rfl rfl
theorem wJ:Go1 P0 fH dI:=go1 rfl rfl rfl rfl
theorem xu:Go1 P0 fV fF:=go1 rfl rfl rfl rfl
theorem KG:Go1 P0 lX kX:=go1 rfl rfl rfl rfl
theorem He:Go1 P0 dS ny:=go1 rfl rfl rfl rfl
theorem EM:Go1 P0 aU dQ:=go1 rfl rfl rfl rfl
theorem BV:Go1 P0 gY iW:=go1 rfl rfl rfl rfl
theorem Dh:Go1 P0 iL kJ:=go1 rfl rfl rfl rfl
theorem DZ:Go1 P0 ja jy:=go1 rfl rfl rfl rfl
theorem FT:Go1 P0 jH jm:=go1 rfl rfl rfl rfl
theorem Jg:Go1 P0 kZ dG:=go1 rfl rfl rfl rfl
theorem Jo:Go1 P0 pG ou:=go1 rfl rfl rfl rfl
theorem Df:Go1 P0 iK jg:=go1 rfl rfl rfl rfl
theorem FO:Go1 P0 jG ji:=go1 rfl rfl rfl rfl
theorem Jk:Go1 P0 lg jl:=go1 rfl rfl rfl rfl
theorem KF:Go1 P0 kN oZ:=go1 rfl rfl rfl rfl
theorem Hf:Go1 P0 gK dX:=go1 rfl rfl rfl rfl
theorem FU:Go1 P0 iY mF:=go1 rfl rfl rfl rfl
theorem KH:Go1 P0 kP kY:=go1 rfl rfl rfl rfl
theorem Je:Go1 P0 jM jk:=go1 rfl rfl rfl rfl
theorem EL:Go1 P0 iD iZ:=go1 rfl rfl rfl rfl
theorem Jm:Go1 P0 jO aS:=go1 rfl rfl rfl rfl
theorem Hg:Go1 P0 lY dh:=go1 rfl rfl rfl rfl
theorem QN:Go1 P0 vV iQ:=go1 rfl rfl rfl rfl
theorem eu:Go1 P0 lN aY:=go1 rfl rfl rfl rfl
theorem FQ:Go1 P0 nD ay:=go1 rfl rfl rfl rfl
theorem gI:Go1 P0 pF dH:=go1 rfl rfl rfl rfl
theorem G7:Go1 P0 iJ lm:=go1 rfl rfl rfl rfl
theorem KC:Go1 P0 qK mO:=go1 rfl rfl rfl rfl
theorem MG:Go1 P0 oO uP:=go1 rfl rfl rfl rfl
theorem MF:Go1 P0 sK qy:=go1 rfl rfl rfl rfl
theorem MC:Go1 P0 lF nP:=go1 rfl rfl rfl rfl
theorem OH:Go1 P0 qI sG:=go1 rfl rfl rfl rfl
theorem KD:Go1 P0 nS tN:=go1 rfl rfl rfl rfl
theorem OI:Go1 P0 qJ vZ:=go1 rfl rfl rfl rfl
theorem MK:Go1 P0 sQ uX:=go1 rfl rfl rfl rfl
theorem Jb:Go1 P0 jL rM:=go1 rfl rfl rfl rfl
theorem G6:Go1 P0 lU mY:=go1 rfl rfl rfl rfl
theorem EJ:Go1 P0 kL jT:=go1 rfl rfl rfl rfl
theorem SG:Go1 P0 su sV:=go1 rfl rfl rfl rfl
theorem SE:Go1 P0 ve yS:=go1 rfl rfl rfl rfl
theorem Et:Go1 P0 jq sF:=go1 rfl rfl rfl rfl
theorem FM:Go1 P0 mr oh:=go1 rfl rfl rfl rfl
theorem FN:Go1 P0 nC kH:=go1 rfl rfl rfl rfl
theorem OJ:Go1 P0 fU oM:=go1 rfl rfl rfl rfl
theorem pR:Go1 P0 bP dJ:=go1 rfl rfl rfl rfl
theorem qR:Go1 P0 cO dV:=go1 rfl rfl rfl rfl
theorem Vq:Go1 P0 wZ mg:=go1 rfl rfl rfl rfl
theorem zG:Go1 P0 lV mZ:=go1 rfl rfl rfl rfl
theorem FV:Go1 P0 vW uy:=go1 rfl rfl rfl rfl
theorem yG:Go1 P0 iC gX:=go1 rfl rfl rfl rfl
theorem sJ:Go1 P0 gV iO:=go1 rfl rfl rfl rfl
theorem pW:Go1 P0 eP bJ:=go1 rfl rfl rfl rfl
theorem xC:Go1 P0 dY fQ:=go1 rfl rfl rfl rfl
theorem qU:Go1 P0 iT fC:=go1 rfl rfl rfl rfl
theorem fB:Go1 P0 jP dK:=go1 rfl rfl rfl rfl
theorem QO:Go1 P0 fE jX:=go1 rfl rfl rfl rfl
theorem Xr:Go1 P0 jb BA:=go1 rfl rfl rfl rfl
theorem Xt:Go1 P0 oD BB:=go1 rfl rfl rfl rfl
theorem Vp:Go1 P0 wY zT:=go1 rfl rfl rfl rfl
theorem G9:Go1 P0 oC qf:=go1 rfl rfl rfl rfl
theorem Jc:Go1 P0 o9 rP:=go1 rfl rfl rfl rfl
theorem SH:Go1 P0 pq yT:=go1 rfl rfl rfl rfl
theorem KE:Go1 P0 qL tV:=go1 rfl rfl rfl rfl
end Go.Ai.Z
