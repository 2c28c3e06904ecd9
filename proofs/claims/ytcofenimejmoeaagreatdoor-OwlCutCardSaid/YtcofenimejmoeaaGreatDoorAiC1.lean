/-
 Functions whose answer is known.
-/
import Derived.Test.YtcofenimejmoeaaGreatDoorAiA1
import Derived.Lib.ItoaLen
import Derived.Lib.Bytealg
import Derived.Lib.Atoi
import Derived.Test.YtcofenimejmoeaaGreatDoorAiDf
set_option maxRecDepth 100000
set_option linter.unusedSimpArgs false
set_option linter.unusedVariables false
set_option linter.unusedSectionVars false
namespace Go.Ai
def joinL (sep:Rl):List Rl→Rl
 | []=>[]
 | x::r=>x++r.flatMap fun y=>sep++y
def YG:List AV→Option AV
 | [.sl es,.s sep]=>(es.mapM strOf).bind fun l=>if (joinL sep l).length≤1073741824∧l.length≤1073741824 then some (.s (joinL sep l)) else none
 | _=>none
def YH:List AV→Option AV
 | [.i .i64 n]=>if -9223372036854775808≤n∧n≤9223372036854775807 then some (.s (Lib.itoa n)) else none
 | _=>none
def YI:List AV→Option AV
 | [.s l]=>if l.length≤18∨(l.length=19∧l.head?=some 45) then (Lib.atoi l).map fun n=>.tu [.i .i64 n,.ni] else none
 | _=>none
def lH (b:UInt8):Rl→Option (Rl×Rl)
 | []=>none
 | x::r=>if x=b then some ([],r) else (lH b r).map fun p=>(x::p.1,p.2)
def Xc:List AV→Option AV
 | [.s l,.s [b]]=>some (.i .i64 (Lib.indexByte l b))
 | _=>none
def aar (x:Rl):List Rl→List Rl
 | []=>[x]
 | y::r=>if y<x then y::aar x r else x::y::r
def wH:List Rl→List Rl
 | []=>[]
 | x::r=>aar x (wH r)
def H6:List Rl→Bool
 | a::b::r=>decide (a<b) && H6 (b::r)
 | _=>true
theorem NV (x:Rl):∀l,(aar x l).Perm (x::l)
 | []=>.refl _
 | y::r=>by
  simp only [aar];split
  ·exact (List.Perm.cons y (NV x r)).trans (List.Perm.swap x y r)
  ·exact .refl _
theorem uV:∀l,(wH l).Perm l
 | []=>.refl _
 | x::r=>(NV x _).trans (List.Perm.cons x (uV r))
theorem Pg (x:Rl):∀l:List Rl,l.Pairwise (fun a b=>a≤b)→(aar x l).Pairwise (fun a b=>a≤b)
 | [],_=>by simp [aar]
 | y::r,h=>by
  obtain ⟨h1,h2⟩:=List.pairwise_cons.1 h;simp only [aar];split
  ·rename_i I;refine List.pairwise_cons.2 ⟨fun z hz=>?_,Pg x r h2⟩;rcases List.mem_cons.1 ((NV x r).mem_iff.1 hz) with rfl|hz
   ·exact List.le_of_lt I
   ·exact h1 z hz
  ·rename_i A;have p:x≤y:=List.not_lt.1 A;refine List.pairwise_cons.2 ⟨fun z hz=>?_,h⟩;rcases List.mem_cons.1 hz with rfl|hz
   ·exact p
   ·exact List.le_trans p (h1 z hz)
theorem ER:∀l:List Rl,(wH l).Pairwise (fun a b=>a≤b)
 | []=>.nil
 | x::r=>Pg x _ (ER r)
theorem I7:∀l:List Rl,H6 l=true→l.Pairwise (fun a b=>a<b)
 | [],_=>.nil
 | [a],_=>by simp
 | a::b::r,h=>by
  simp only [H6,Bool.and_eq_true,decide_eq_true_eq] at h;have ih:=I7 (b::r) h.2;refine List.pairwise_cons.2 ⟨fun z hz=>?_,ih⟩;rcases List.mem_cons.1 hz with rfl|hz
  ·exact h.1
  ·exact List.lt_trans h.1 ((List.pairwise_cons.1 ih).1 z hz)
def Yy (s:St):AV→Option (List Rl)
 | .im es=>es.mapM fun p=>strOf p.1
 | .mp l=>match s[l]? with
  | some (.map es)=>es.mapM fun p=>strOf p.1
  | some (.umap es)=>some (es.map (·.1))
  | _=>none
 | .nm=>some []
 | _=>none
def aap:AV→Bool
 | .im _ | .mp _ | .nm=>true
 | _=>false
def YF (f:Nat):List AV→St→Option AV
 | [m],_=>if aap m then some (.fn (.func f) [] [.kb m]) else none
 | _,_=>none
def slS (l:List Rl):AV:=match l with | []=>.ns|l=>.sl (l.map .s)
def Ic (ks:List Nat):List AV→St→Option AV
 | [.fn (.func f) [] [.kb m]],s=>if ks.contains f then (Yy s m).bind fun l=>if H6 (wH l)∧l.length≤1048576∧(∀x∈l,x.length≤1048576) then some (slS (wH l)) else none else none
 | _,_=>none
end Go.Ai
namespace Go.Ai.Z
abbrev yK:Nat:=6
abbrev yJ:Nat:=9
abbrev qc:Nat:=10
abbrev xR:Nat:=11
abbrev mg:Nat:=13
abbrev oO:Nat:=14
abbrev Fv:Nat:=31
abbrev tY:Nat:=32
abbrev lQ:Nat:=33
abbrev gV:Nat:=60
abbrev lY:Nat:=61
abbrev iq:Nat:=62
abbrev ja:Nat:=63
abbrev jL:Nat:=64
abbrev lC:Nat:=65
abbrev iJ:Nat:=66
abbrev jK:Nat:=67
abbrev lD:Nat:=68
abbrev kQ:Nat:=69
abbrev iY:Nat:=70
abbrev kR:Nat:=71
abbrev jR:Nat:=72
abbrev iE:Nat:=73
abbrev jS:Nat:=74
abbrev bK:Nat:=75
abbrev bV:Nat:=77
abbrev aN:Nat:=78
abbrev aH:Nat:=79
abbrev aQ:Nat:=107
abbrev aP:Nat:=80
abbrev qf:Nat:=116
abbrev wP:Nat:=117
abbrev xH:Nat:=144
abbrev lG:Nat:=145
abbrev rH:Nat:=146
abbrev vH:Nat:=20
abbrev rG:Nat:=147
abbrev vX:Nat:=148
abbrev rF:Nat:=115
abbrev qC:Nat:=46
abbrev lX:Nat:=97
abbrev kP:Nat:=142
abbrev jy:Nat:=93
abbrev kD:Nat:=122
abbrev pF:Nat:=114
abbrev fG:Nat:=167
abbrev gm:Nat:=173
abbrev dS:Nat:=108
abbrev aV:Nat:=109
abbrev iK:Nat:=110
abbrev qj:Nat:=111
abbrev gU:Nat:=112
abbrev lZ:Nat:=113
abbrev wQ:Nat:=143
abbrev BL:Nat:=168
abbrev nO:Nat:=76
abbrev qg:Nat:=81
abbrev jw:Nat:=15
abbrev rC:Nat:=34
abbrev tX:Nat:=35
abbrev kN:Nat:=17
abbrev fZ:Nat:=36
abbrev pz:Nat:=82
abbrev lI:Nat:=83
abbrev jQ:Nat:=84
abbrev qZ:Nat:=118
abbrev oq:Nat:=149
abbrev rq:Nat:=120
abbrev tZ:Nat:=150
abbrev lV:Nat:=88
abbrev tq:Nat:=37
abbrev vW:Nat:=38
abbrev nN:Nat:=39
abbrev jv:Nat:=86
abbrev mJ:Nat:=87
abbrev bU:Nat:=85
abbrev cO:Nat:=119
abbrev lW:Nat:=21
abbrev wR:Nat:=22
abbrev dY:Nat:=23
abbrev jT:Nat:=24
abbrev yI:Nat:=25
abbrev bP:Nat:=44
abbrev jF:Nat:=43
abbrev iD:Nat:=45
abbrev kT:Nat:=47
abbrev eH:Nat:=48
abbrev gX:Nat:=92
abbrev iR:Nat:=49
abbrev fD:Nat:=50
abbrev jb:Nat:=51
abbrev oP:Nat:=52
abbrev xQ:Nat:=96
abbrev BK:Nat:=134
abbrev rE:Nat:=19
abbrev xP:Nat:=42
abbrev qE:Nat:=89
abbrev pX:Nat:=18
abbrev pY:Nat:=40
abbrev rD:Nat:=41
abbrev Ew:Nat:=5
abbrev eP:Nat:=36
abbrev bH:Nat:=39
abbrev rV:Nat:=62
abbrev U0:Nat:=112
abbrev au:Nat:=9
abbrev aaX:Nat:=37
abbrev yH:Nat:=0
abbrev Dv:Nat:=1
abbrev zn:Nat:=3
end Go.Ai.Z
namespace Go.Ai.Zi
abbrev o (d:Nat) (p:AOp):aI:=⟨some d,none,p⟩
abbrev w (p:AOp):aI:=⟨none,none,p⟩
abbrev t (n:Nat):IX:=.t n
abbrev m (d x:Nat):aI:=⟨some d,none,.mov (.t x)⟩
abbrev a (d x:Nat):aI:=⟨some d,none,.asg (.t x)⟩
abbrev l (d x:Nat):aI:=⟨some d,none,.load none (.t x)⟩
abbrev n (d s x:Nat):aI:=⟨some d,none,.load (some s) (.t x)⟩
abbrev d (d s x:Nat):aI:=⟨some d,none,.fld s (.t x)⟩
abbrev e (d x i:Nat):aI:=⟨some d,none,.ext (.t x) i⟩
abbrev c (d f:Nat) (l:List IX):aI:=⟨some d,none,.call (.c (.fn (.func f) [] [])) l⟩
abbrev g (d x:Nat) (p:AOp):aI:=⟨some d,some (x,true),p⟩
abbrev h (d x:Nat) (p:AOp):aI:=⟨some d,some (x,false),p⟩
abbrev r (l:List aI) (k:List Nat):bF:=.region l none k
abbrev q (x y:bF):bF:=.seq x y
abbrev V (x y:Nat):AOp:=.pick (.t x) (.t y) (.c (.b false))
abbrev U (x y:Nat):AOp:=.pick (.t x) (.c (.b true)) (.t y)
abbrev N (x:Nat):AOp:=.un .not (.t x)
abbrev B (o:BinOp) (x:Nat) (n:Int):AOp:=.bin o (.t x) (.c (.i .i64 n))
abbrev D (o:BinOp) (x y:Nat):AOp:=.bin o (.t x) (.t y)
abbrev M (x:Nat):AOp:=.mov (.t x)
abbrev L (x:Nat):AOp:=.load none (.t x)
abbrev E (c x:Nat):AOp:=.len c (.t x)
abbrev H (x:Nat):AOp:=.nilchk (.t x)
abbrev X (c x y:Nat):AOp:=.idx c (.t x) (.t y)
abbrev G (c x:Nat):AOp:=.fld c (.t x)
abbrev j (d:Nat) (x:Bool):aI:=⟨some d,none,.asg (.c (.b x))⟩
abbrev i (d:Nat) (x:Int):aI:=⟨some d,none,.asg (.c (.i .i64 x))⟩
abbrev y (x n:Nat):bF:=.cond (.t x) .skip (.exit n)
abbrev u (x:Nat) (c:bF):bF:=.cond (.t x) c .skip
abbrev z (x d:Nat) (b:Bool):bF:=.cond (.t x) (.seq (.region [⟨some d,none,.asg (.c (.b b))⟩] none [d]) .ret) .skip
abbrev s (x:Rl):IX:=.c (.s x)
abbrev b (n:Int):IX:=.c (.i .u8 n)
abbrev T:IX:=.c (.b true)
abbrev F:IX:=.c (.b false)
def v (l:List Int):List (Nat×IX):=(List.range l.length).zip (l.map b)
abbrev k (n:Int):IX:=.c (.i .i64 n)
abbrev f (n:Nat):IX:=.c (.fn (.func n) [] [])
end Go.Ai.Zi
namespace Go.Ai.Z
section
open Zi
def nD:bM:=⟨3,[.tmp 6],true,false,(q (r [j 6 false] [0,1,2]) (q (q (r [c 18 yJ [],o 19 (N 18)] [0,1,2,19]) (z 19 6 false)) (q (q (r [m 20 0,c 21 qc [t 20,k 8],o 22 (N 21),m 23 22,h 24 23 (M 1),h 25 23 (E 1 24),h 26 23 (B .gtr 25 400),o 27 (U 23 26)] [0,1,2,27]) (z 27 6 true)) (q (r [m 29 0,m 30 1,c 31 xR [t 29,t 30],m 28 31,e 32 28 0,e 33 28 1,a 7 32,a 8 33] [0,2,7,8]) (q (q (r [m 34 8,o 35 (B .neq 34 0),m 36 35,h 37 36 (M 7),h 38 36 (E 0 37),h 39 36 (B .lss 38 2),o 40 (U 36 39)] [0,2,7,8,40]) (u 40 (q (r [m 41 8,o 42 (B .neq 41 0),a 6 42] [6]) .ret))) (q (r [m 43 2,m 44 7,o 45 (E 0 44),o 46 (B .sub 45 1),o 47 (.toInt .u64 (t 46)),o 48 (D .rem 43 47),o 49 (.toInt .i64 (t 48)),a 9 49] [0,7,9]) (q (r [m 51 7,m 52 9,m 53 9,o 54 (.slc3 1 (t 51) (t 52) (t 53)),c 55 mg [t 54],m 50 55,e 56 50 0,e 57 50 1,e 58 50 2,e 59 50 3,a 10 56,a 11 57,a 12 58,a 13 59] [0,7,9,12,13]) (q (r [m 61 7,m 62 7,o 63 (E 0 62),o 64 (B .sub 63 1),m 65 7,o 66 (E 0 65),o 67 (B .sub 66 1),o 68 (.slc3 1 (t 61) (t 64) (t 67)),c 69 mg [t 68],m 60 69,e 70 60 0,e 71 60 1,e 72 60 2,e 73 60 3,a 14 70,a 15 71,a 16 72,a 17 73] [0,9,12,13,14,17]) (q (r [m 74 13,o 75 (B .eql 74 50),m 76 75,g 77 76 (M 12),g 78 76 (B .geq 77 0),o 79 (V 76 78),m 80 79,g 81 80 (M 12),g 82 80 (M 9),g 83 80 (D .leq 81 82),o 84 (V 80 83),m 85 84,g 86 85 (M 17),g 87 85 (B .eql 86 0),o 88 (V 85 87),m 89 88,g 90 89 (M 0),g 91 89 (M 14),g 92 89 (.call (f oO) [t 90,t 91]),o 93 (V 89 92),a 6 93] [6]) .ret)))))))))⟩
def Je:bM:=⟨0,[.tmp 0],true,false,(q (r [j 0 false] []) (q (r [o 25 (.bsl true Ew 1 24 [(.i .u8 0)] (v [80,114,101,102,105,120,40,58,61,60,120,62,41,32,79,110,116,111,108,111,103,121,40,41])),o 26 (.mark (t 25)),c 27 mg [t 26],m 24 27,e 28 24 0,e 29 24 1,e 30 24 2,e 31 24 3,a 1 28,a 2 29,a 3 30,a 4 31] [2,3,4]) (q (r [o 33 (.bsl true Ew 1 49 [(.i .u8 0)] (v [80,114,101,102,105,120,40,58,61,60,120,62,41,32,79,110,116,111,108,111,103,121,40,68,105,115,106,111,105,110,116,67,108,97,115,115,101,115,40,58,65,32,58,66,32,58,67,41,41])),o 34 (.mark (t 33)),c 35 mg [t 34],m 32 35,e 36 32 0,e 37 32 1,e 38 32 2,e 39 32 3,a 5 36,a 6 37,a 7 38,a 8 39] [2,3,4,5,8]) (q (r [o 41 (.bsl true Ew 1 48 [(.i .u8 0)] (v [80,114,101,102,105,120,40,58,61,60,120,62,41,32,79,110,116,111,108,111,103,121,40,83,117,98,67,108,97,115,115,79,102,40,58,65,32,111,119,108,58,84,104,105,110,103,41,41])),o 42 (.mark (t 41)),c 43 mg [t 42],m 40 43,e 44 40 0,e 45 40 1,e 46 40 2,e 47 40 3,a 9 44,a 10 45,a 11 46,a 12 47] [2,3,4,5,8,11,12]) (q (r [o 49 (.bsl true Ew 1 58 [(.i .u8 0)] (v [80,114,101,102,105,120,40,58,61,60,120,62,41,32,79,110,116,111,108,111,103,121,40,67,108,97,115,115,65,115,115,101,114,116,105,111,110,40,79,98,106,101,99,116,79,110,101,79,102,40,58,97,41,32,58,98,41,41])),o 50 (.mark (t 49)),c 51 mg [t 50],m 48 51,e 52 48 0,e 53 48 1,e 54 48 2,e 55 48 3,a 13 52,a 14 53,a 15 54,a 16 55] [2,3,4,5,8,11,12,15,16]) (q (r [o 57 (.bsl true Ew 1 10 [(.i .u8 0)] [(0,b 79),(1,b 110),(2,b 116),(3,b 111),(4,b 108),(5,b 111),(6,b 103),(7,b 121),(8,b 40),(9,b 41)]),o 58 (.mark (t 57)),c 59 mg [t 58],m 56 59,e 60 56 0,e 61 56 1,e 62 56 2,e 63 56 3,a 17 60,a 18 61,a 19 62,a 20 63] [2,3,4,5,8,11,12,15,16,19,20]) (q (q (r [m 64 2,o 65 (.bin .neq (t 64) (s [120])),m 66 65,h 67 66 (M 3),h 68 66 (B .neq 67 0),o 69 (U 66 68),m 70 69,h 71 70 (M 4),h 72 70 (B .neq 71 0),o 73 (U 70 72),m 74 73,h 75 74 (M 8),h 76 74 (B .neq 75 0),o 77 (U 74 76),m 78 77,h 79 78 (M 5),h 80 78 (E 0 79),h 81 78 (B .neq 80 3),o 82 (U 78 81),m 83 82,h 84 83 (M 11),h 85 83 (B .neq 84 37),o 86 (U 83 85),m 87 86,h 88 87 (M 12),h 89 87 (B .neq 88 50),o 90 (U 87 89),m 91 90,h 92 91 (M 15),h 93 91 (B .neq 92 23),o 94 (U 91 93),m 95 94,h 96 95 (M 16),h 97 95 (B .neq 96 22),o 98 (U 95 97),m 99 98,h 100 99 (M 19),h 101 99 (B .neq 100 0),o 102 (U 99 101),m 103 102,h 104 103 (M 20),h 105 103 (B .neq 104 50),o 106 (U 103 105)] [5,106]) (z 106 0 false)) (q (q (r [m 107 5,o 108 (.idx 16 (t 107) (k 0)),d 109 0 108,l 110 109,o 111 (B .neq 110 3),m 112 111,h 113 112 (M 5),h 114 112 (.idx 16 (t 113) (k 0)),h 115 112 (G 2 114),h 116 112 (G 1 115),h 117 112 (L 116),h 118 112 (.bin .neq (t 117) (s [65])),o 119 (U 112 118),m 120 119,h 121 120 (M 5),h 122 120 (.idx 16 (t 121) (k 0)),h 123 120 (G 7 122),h 124 120 (G 1 123),h 125 120 (L 124),h 126 120 (.bin .neq (t 125) (s [66])),o 127 (U 120 126),m 128 127,h 129 128 (M 5),h 130 128 (.idx 16 (t 129) (k 1)),h 131 128 (G 2 130),h 132 128 (G 1 131),h 133 128 (L 132),h 134 128 (.bin .neq (t 133) (s [65])),o 135 (U 128 134),m 136 135,h 137 136 (M 5),h 138 136 (.idx 16 (t 137) (k 1)),h 139 136 (G 7 138),h 140 136 (G 1 139),h 141 136 (L 140),h 142 136 (.bin .neq (t 141) (s [67])),o 143 (U 136 142),m 144 143,h 145 144 (M 5),h 146 144 (.idx 16 (t 145) (k 2)),h 147 144 (G 2 146),h 148 144 (G 1 147),h 149 144 (L 148),h 150 144 (.bin .neq (t 149) (s [66])),o 151 (U 144 150),m 152 151,h 153 152 (M 5),h 154 152 (.idx 16 (t 153) (k 2)),h 155 152 (G 7 154),h 156 152 (G 1 155),h 157 152 (L 156),h 158 152 (.bin .neq (t 157) (s [67])),o 159 (U 152 158)] [159]) (z 159 0 false)) (q (r [o 160 (.build [(.i .i64 0),(.s []),(.i .i64 0),(.i .i64 0),.ns] [(0,1,k 3),(1,1,s [66])]),o 161 (.bsl false eP 5 1 [(.i .i64 0),(.s []),(.i .i64 0),(.i .i64 0),.ns] [(0,t 160)]),o 162 (.build [(.i .i64 0),(.s []),(.i .i64 0),(.i .i64 0),.ns] [(0,1,k 6),(1,1,s [114]),(4,1,t 161)]),o 21 (.lalloc [(.i .i64 0),(.s []),(.i .i64 0),(.i .i64 0),.ns]),w (.store 5 (t 21) (t 162))] [21]) (q (r [o 164 (.build [(.i .i64 0),(.s []),(.i .i64 0),(.i .i64 0),.ns] [(0,1,k 3),(1,1,s [65])]),n 165 5 21,o 166 (.build [(.i .i64 0),(.b false),(.i .i64 0),(.s []),(.i .i64 0),(.i .i64 0),.ns,(.i .i64 0),(.s []),(.i .i64 0),(.i .i64 0),.ns,.ns,(.s []),(.s []),(.s [])] [(0,1,k 1),(1,1,T),(2,5,t 164),(7,5,t 165)]),o 167 (.bsl false bH 16 1 [(.i .i64 0),(.b false),(.i .i64 0),(.s []),(.i .i64 0),(.i .i64 0),.ns,(.i .i64 0),(.s []),(.i .i64 0),(.i .i64 0),.ns,.ns,(.s []),(.s []),(.s [])] [(0,t 166)]),c 168 xR [t 167,s [120]],m 163 168,e 169 163 0,e 170 163 1,a 22 169,a 23 170] [22,23]) (q (r [m 171 23,o 172 (B .eql 171 0),m 173 172,g 174 173 (M 22),g 175 173 (.b2s (t 174)),g 176 173 (.bin .eql (t 175) (s [80,114,101,102,105,120,40,58,61,60,120,62,41,10,80,114,101,102,105,120,40,111,119,108,58,61,60,104,116,116,112,58,47,47,119,119,119,46,119,51,46,111,114,103,47,50,48,48,50,47,48,55,47,111,119,108,35,62,41,10,80,114,101,102,105,120,40,120,115,100,58,61,60,104,116,116,112,58,47,47,119,119,119,46,119,51,46,111,114,103,47,50,48,48,49,47,88,77,76,83,99,104,101,109,97,35,62,41,10,79,110,116,111,108,111,103,121,40,10,83,117,98,67,108,97,115,115,79,102,40,65,110,110,111,116,97,116,105,111,110,40,58,111,112,101,110,32,34,116,114,117,101,34,41,32,58,65,32,79,98,106,101,99,116,83,111,109,101,86,97,108,117,101,115,70,114,111,109,40,58,114,32,58,66,41,41,10,41,10])),o 177 (V 173 176),a 0 177] [0]) .ret)))))))))))⟩
def zN (hnd:AV→Option (List (List AV))):Hz:=⟨1,6,[o 2 (.halloc [.ns]),o 3 (.halloc [(.s [])]),o 4 (.halloc [(.i .i64 0)]),o 5 (.halloc [(.i .i64 0)])],o 10 (.mkfn (.func Fv) [] [t 2,t 3,t 4,t 5]),10,Fv,[2,3,4,5],(q (r [m 11 0,c 12 tY [t 11],a 6 12] [2,3,4,5,6]) (q (r [m 13 6,c 14 lQ [t 13]] [2,3,4,5,6]) (q (.region [m 15 6,o 16 (H 15),d 17 6 16,o 18 (.loadw none (t 17) [2,3,4,5]),m 19 6,o 20 (H 19),d 21 4 20,o 22 (.loadw none (t 21) [2,3,4,5]),w (.storep 1 (t 2) (t 18)),w (.storep 1 (t 3) (t 22)),w (.storep 1 (t 4) (k 0)),w (.storep 1 (t 5) (k 0))] (some ([0,1,2,3,4,5,6,7,8,9,10,11],[])) [2,3,4,5]) .ret))),[.cell 2 none,.cell 3 none,.cell 4 none,.cell 5 none],hnd,(some (q (r [m 7 0,o 8 (E 0 7),o 9 (B .gtr 8 65536)] [0,2,3,4,5,9]) (u 9 (q (r [w (.store 1 (t 2) (.c .ns)),w (.store 1 (t 3) (s [])),w (.store 1 (t 4) (k 0)),w (.store 1 (t 5) (k 2))] [2,3,4,5]) .ret))))⟩
def vT:bM:=⟨1,[.tmp 2],false,true,(q (r [o 2 (.asg (.c .np))] [0]) (q (r [m 4 0,o 5 .hmap,o 6 (.build [.ns,(.i .i64 0),.ns,.nm,(.s []),(.b false),.ns,.nm,.nm] [(0,1,t 4),(3,1,t 5)]),o 7 (.hbox (t 6)),a 3 7] [3]) (q (r [m 8 3,o 9 .hmap,m 10 3,o 11 (.mkfn (.func gV) [t 10] []),w (.hins 1 (t 9) (s wC9) (t 11)),m 12 3,o 13 (.mkfn (.func lY) [t 12] []),w (.hins 1 (t 9) (s wC3) (t 13)),m 14 3,o 15 (.mkfn (.func iq) [t 14] []),w (.hins 1 (t 9) (s wB3) (t 15)),m 16 3,o 17 (.mkfn (.func ja) [t 16] []),w (.hins 1 (t 9) (s wB6) (t 17)),m 18 3,o 19 (.mkfn (.func jL) [t 18] []),w (.hins 1 (t 9) (s wB2) (t 19)),m 20 3,o 21 (.mkfn (.func lC) [t 20] []),w (.hins 1 (t 9) (s wA4) (t 21)),m 22 3,o 23 (.mkfn (.func iJ) [t 22] []),w (.hins 1 (t 9) (s wA9) (t 23)),m 24 3,o 25 (.mkfn (.func jK) [t 24] []),w (.hins 1 (t 9) (s wB9) (t 25)),m 26 3,o 27 (.mkfn (.func lD) [t 26] []),w (.hins 1 (t 9) (s wB0) (t 27)),m 28 9,o 29 (H 8),d 30 7 29,w (.store 1 (t 30) (t 28))] [3]) (q (r [m 31 3,o 32 .hmap,m 33 3,o 34 (.mkfn (.func kQ) [t 33] []),w (.hins 1 (t 32) (s wB4) (t 34)),m 35 3,o 36 (.mkfn (.func iY) [t 35] []),w (.hins 1 (t 32) (s wB1) (t 36)),m 37 3,o 38 (.mkfn (.func kR) [t 37] []),w (.hins 1 (t 32) (s wA6) (t 38)),m 39 3,o 40 (.mkfn (.func jR) [t 39] []),w (.hins 1 (t 32) (s wA7) (t 40)),m 41 3,o 42 (.mkfn (.func iE) [t 41] []),w (.hins 1 (t 32) (s wB8) (t 42)),m 43 3,o 44 (.mkfn (.func jS) [t 43] []),w (.hins 1 (t 32) (s wA8) (t 44)),m 45 32,o 46 (H 31),d 47 8 46,w (.store 1 (t 47) (t 45))] [3]) (q (r [m 48 3,a 2 48] [2]) .ret)))))⟩
def aA:bM:=⟨1,[.tmp 2],false,false,(q (r [o 2 (.asg (.c .ns))] [0]) (q (r [m 3 0,m 4 0,c 5 bK [t 4,s [67,108,97,115,115]],m 6 5,h 7 6 (M 0),h 8 6 (.call (f bK) [t 7,s wC7]),o 9 (U 6 8),m 10 9,h 11 10 (M 0),h 12 10 (.call (f bK) [t 11,s wD1]),o 13 (U 10 12),m 14 13,h 15 14 (M 0),h 16 14 (.call (f bK) [t 15,s wC4]),o 17 (U 14 16),c 18 bV [t 3,t 17]] [0]) (q (r [m 19 0,c 20 aN [t 19]] [0]) (q (r [m 21 0,c 22 aH [t 21,s [40]]] [0]) (q (r [m 23 0,c 24 aQ [t 23]] [0]) (q (r [m 25 0,c 26 aH [t 25,s [41]]] []) (q (r [o 2 (.asg (.c .ns))] [2]) .ret)))))))⟩
def qV:bM:=⟨2,[.tmp 4],false,false,(q (r [j 4 false] [0,1]) (q (r [m 5 0,c 6 aP [t 5],o 7 (.getf 1 none (t 6)),m 8 1,o 9 (D .eql 7 8),a 4 9] [4]) .ret))⟩
def kG:bM:=⟨1,[.cell 2 (some 3)],false,false,(q (r [o 2 (.halloc [(.i .i64 0),(.s []),(.i .i64 0)])] [0,2]) (q (q (r [m 7 0,o 8 (H 7),d 9 2 8,l 10 9,o 11 (E 0 10),o 12 (B .eql 11 0)] [0,2,12]) (u 12 (q (r [m 13 0,c 14 qf [t 13]] [0,2]) (q (r [m 15 0,o 16 (H 15),d 17 1 16,l 18 17,o 19 (.build [(.i .i64 0),(.s []),(.i .i64 0)] [(0,1,k 5),(2,1,t 18)]),o 3 (.halloc [(.i .i64 0),(.s []),(.i .i64 0)]),w (.store 3 (t 3) (t 19))] [0,2,3]) (q (q (.region [m 20 0,o 21 (H 20),d 22 0 21,l 23 22,m 24 0,o 25 (H 24),d 26 1 25,l 27 26,o 28 (.slc 1 (t 23) (some (t 27)) none),a 4 28] (some ([0,1,2,3,4,5,6,7,8,9],[])) [0,2,3,4]) (q (r [m 29 4,o 30 (E 0 29),o 31 (B .gtr 30 0)] [0,2,3,4,31]) (u 31 (q (r [m 33 4,c 34 wP [t 33],m 32 34,e 35 32 0,e 36 32 1,a 5 35,a 6 36] [0,2,3,4,5,6]) (q (q (r [m 37 6,o 38 (B .eql 37 0)] [0,2,3,4,5,6,38]) (u 38 (r [m 39 0,o 40 (H 39),d 41 1 40,l 42 41,o 43 (.build [(.i .i64 0),(.i .i64 0)] [(0,1,t 42),(1,1,k 50)]),o 44 (.mkif rV (t 43)),w (.panic (t 44))] [0,2,3,4,5,6]))) (q (.region [m 45 5,m 46 4,m 47 6,o 48 (.slc 1 (t 46) none (some (t 47))),o 49 (.b2s (t 48)),d 50 0 3,w (.storep 1 (t 50) (t 45)),d 51 1 3,w (.storep 1 (t 51) (t 49))] (some ([0,1,2,3,4,5,6,7,8],[])) [0,2,3,6]) (r [m 52 0,o 53 (H 52),d 54 1 53,l 55 54,m 56 6,o 57 (D .add 55 56),o 58 (H 52),d 59 1 58,w (.store 1 (t 59) (t 57))] [0,2,3]))))))) (r [m 60 0,n 61 3 3,o 62 (.bsl false U0 3 1 [(.i .i64 0),(.s []),(.i .i64 0)] [(0,t 61)]),o 63 (H 60),d 64 2 63,w (.store 1 (t 64) (t 62))] [0,2])))))) (q (r [m 65 0,o 66 (H 65),d 67 2 66,l 68 67,o 69 (.idx 3 (t 68) (k 0)),n 70 3 69,w (.store 3 (t 2) (t 70))] [2]) .ret)))⟩
def dO:bF:=(q (q (.region [m 2 0,o 3 (H 2),d 4 1 3,l 5 4,m 6 0,o 7 (H 6),d 8 0 7,l 9 8,o 10 (E 0 9),o 11 (D .lss 5 10)] (some ([0,1,2,3,4,5,6,7,8,9],[])) [0,11]) (y 11 0)) (.block 1 (q (.region [m 12 0,o 13 (H 12),d 14 0 13,l 15 14,m 16 0,o 17 (H 16),d 18 1 17,l 19 18,o 20 (X 1 15 19),l 21 20] (some ([0,1,2,3,4,5,6,7,8,9],[])) [0,21]) (.block 2 (q (q (r [o 23 (.bin .eql (t 21) (b 9)),a 22 23] [0,21,22]) (.cond (t 22) .skip (q (r [o 24 (.bin .eql (t 21) (b 10)),a 22 24] [0,21,22]) (.cond (t 22) .skip (q (r [o 25 (.bin .eql (t 21) (b 13)),a 22 25] [0,21,22]) (.cond (t 22) .skip (r [o 26 (.bin .eql (t 21) (b 32)),a 22 26] [0,21,22]))))))) (.cond (t 22) (r [m 27 0,o 28 (H 27),d 29 1 28,l 30 29,o 31 (B .add 30 1),o 32 (H 27),d 33 1 32,w (.store 1 (t 33) (t 31))] [0]) (q (r [o 35 (.bin .eql (t 21) (b 35)),a 34 35] [0,34]) (.cond (t 34) (.region [m 36 0,o 37 (H 36),d 38 1 37,l 39 38,m 40 0,o 41 (H 40),d 42 0 41,l 43 42,m 44 0,o 45 (H 44),d 46 1 45,l 47 46,o 48 (.slc 1 (t 43) (some (t 47)) none),c 49 xH [t 48,f lG],o 50 (D .add 39 49),o 51 (H 36),d 52 1 51,w (.store 1 (t 52) (t 50))] (some ([0,1,2,3,4,5,6,7,8,9,10,11,12,13,14,15,16,17],[])) [0]) .ret))))))))
def oK:bM:=⟨1,[],false,false,(.block 0 (.loop [0] dO))⟩
def ve:bF:=(q (q (r [m 5 4,m 6 0,o 7 (E 0 6),o 8 (D .lss 5 7),m 9 8,g 10 9 (M 1),g 11 9 (M 0),g 12 9 (M 4),g 13 9 (X 1 11 12),g 14 9 (L 13),g 15 9 (.call (t 10) [t 14]),o 16 (V 9 15)] [0,1,4,16]) (y 16 0)) (.block 1 (r [m 17 4,o 18 (B .add 17 1),a 4 18] [0,1,4])))
def CG:bM:=⟨2,[.tmp 4],false,false,(q (r [i 4 0] [0,1,4]) (q (.block 0 (.loop [0,1,4] ve)) (q (r [m 19 4,a 4 19] [4]) .ret)))⟩
def pW:bM:=⟨1,[.tmp 2],true,false,(q (r [j 2 false] [0]) (q (r [m 3 0,o 4 (.bin .neq (t 3) (b 10)),a 2 4] [2]) .ret))⟩
def iO:bM:=⟨1,[.tmp 2,.tmp 3],true,false,(q (r [i 2 0,i 3 0] [0]) (q (q (r [m 4 0,o 5 (.idx 1 (t 4) (k 0)),l 6 5] [0,6]) (.block 0 (q (q (r [o 8 (.bin .eql (t 6) (b 40)),a 7 8] [0,6,7]) (.cond (t 7) .skip (q (r [o 9 (.bin .eql (t 6) (b 41)),a 7 9] [0,6,7]) (.cond (t 7) .skip (r [o 10 (.bin .eql (t 6) (b 61)),a 7 10] [0,6,7]))))) (.cond (t 7) (q (r [i 2 1,i 3 1] [2,3]) .ret) (q (r [o 12 (.bin .eql (t 6) (b 94)),a 11 12] [0,6,11]) (.cond (t 11) (q (q (r [m 13 0,o 14 (E 0 13),o 15 (B .gtr 14 1),m 16 15,g 17 16 (M 0),g 18 16 (.idx 1 (t 17) (k 1)),g 19 16 (L 18),g 20 16 (.bin .eql (t 19) (b 94)),o 21 (V 16 20)] [21]) (u 21 (q (r [i 2 1,i 3 2] [2,3]) .ret))) (q (r [i 2 1,i 3 0] [2,3]) .ret)) (q (r [o 23 (.bin .eql (t 6) (b 60)),a 22 23] [0,6,22]) (.cond (t 22) (q (r [m 24 0,c 25 rH [t 24,f vH,b 62],i 2 2,a 3 25] [2,3]) .ret) (q (r [o 27 (.bin .eql (t 6) (b 34)),a 26 27] [0,26]) (u 26 (q (r [m 28 0,c 29 rH [t 28,f rG,b 34],i 2 3,a 3 29] [2,3]) .ret))))))))))) (q (r [m 30 0,c 31 xH [t 30,f vX],i 2 4,a 3 31] [2,3]) .ret)))⟩
def o9:bM:=⟨3,[.tmp 6],false,false,(q (r [i 6 0] [0,1,2]) (q (r [m 8 0,o 9 (.slc 1 (t 8) (some (k 1)) none),m 10 1,c 11 xH [t 9,t 10],o 12 (.bin .add (k 1) (t 11)),a 7 12] [0,2,7]) (q (q (r [m 13 7,m 14 0,o 15 (E 0 14),o 16 (D .eql 13 15),m 17 16,h 18 17 (M 0),h 19 17 (M 7),h 20 17 (X 1 18 19),h 21 17 (L 20),h 22 17 (M 2),h 23 17 (D .neq 21 22),o 24 (U 17 23)] [7,24]) (u 24 (q (r [i 6 0] [6]) .ret))) (q (r [m 25 7,o 26 (B .add 25 1),a 6 26] [6]) .ret))))⟩
def nV:bM:=⟨1,[.tmp 2],true,false,(q (r [j 2 false] [0]) (q (r [m 3 0,o 4 (.bin .geq (t 3) (b 33)),m 5 4,g 6 5 (M 0),g 7 5 (.bin .leq (t 6) (b 126)),o 8 (V 5 7),m 9 8,g 10 9 (M 0),g 11 9 (.bin .neq (t 10) (b 60)),o 12 (V 9 11),m 13 12,g 14 13 (M 0),g 15 13 (.bin .neq (t 14) (b 62)),o 16 (V 13 15),m 17 16,g 18 17 (M 0),g 19 17 (.bin .neq (t 18) (b 34)),o 20 (V 17 19),a 2 20] [2]) .ret))⟩
def nC:bM:=⟨1,[.tmp 2],true,false,(q (r [j 2 false] [0]) (q (r [m 3 0,o 4 (.bin .geq (t 3) (b 32)),m 5 4,g 6 5 (M 0),g 7 5 (.bin .leq (t 6) (b 126)),o 8 (V 5 7),m 9 8,g 10 9 (M 0),g 11 9 (.bin .neq (t 10) (b 34)),o 12 (V 9 11),a 2 12] [2]) .ret))⟩
def jZ:bM:=⟨1,[.tmp 2],true,false,(q (r [j 2 false] [0]) (q (r [m 3 0,c 4 rF [t 3],m 5 4,h 6 5 (M 0),h 7 5 (.bin .leq (b 48) (t 6)),h 8 5 (M 7),g 9 8 (M 0),g 10 8 (.bin .leq (t 9) (b 57)),h 11 5 (V 8 10),o 12 (U 5 11),m 13 12,h 14 13 (M 0),h 15 13 (.bin .eql (t 14) (b 95)),o 16 (U 13 15),m 17 16,h 18 17 (M 0),h 19 17 (.bin .eql (t 18) (b 58)),o 20 (U 17 19),a 2 20] [2]) .ret))⟩
def wX:bM:=⟨1,[.tmp 2],true,false,(q (r [j 2 false] [0]) (q (r [m 3 0,o 4 (.bin .leq (b 97) (t 3)),m 5 4,g 6 5 (M 0),g 7 5 (.bin .leq (t 6) (b 122)),o 8 (V 5 7),m 9 8,h 10 9 (M 0),h 11 9 (.bin .leq (b 65) (t 10)),h 12 9 (M 11),g 13 12 (M 0),g 14 12 (.bin .leq (t 13) (b 90)),h 15 9 (V 12 14),o 16 (U 9 15),a 2 16] [2]) .ret))⟩
def lT:bM:=⟨2,[],false,false,(q (r [m 4 1,o 5 (N 4)] [0,5]) (u 5 (r [m 6 0,c 7 aP [t 6],o 8 (.getf 2 none (t 7)),o 9 (.build [(.i .i64 0),(.i .i64 0)] [(0,1,t 8),(1,1,k 50)]),o 10 (.mkif rV (t 9)),w (.panic (t 10))] [])))⟩
def sO:bM:=⟨1,[],false,false,(r [m 2 0,o 3 (H 2),d 4 2 3,w (.store 1 (t 4) (.c .ns))] [])⟩
def lS:bM:=⟨2,[],false,false,(q (r [m 4 0,m 5 0,m 6 1,c 7 bK [t 5,t 6],c 8 bV [t 4,t 7]] [0]) (r [m 9 0,c 10 aN [t 9]] []))⟩
def dQ:bM:=⟨1,[.tmp 2],false,false,(q (r [o 2 (.asg (s []))] [0]) (q (r [m 7 0,c 8 aP [t 7],o 9 (.getf 1 none (t 8)),a 3 9] [0,3]) (q (r [m 11 3,c 12 qC [t 11,s [58]],m 10 12,e 13 10 0,e 14 10 1,e 15 10 2,a 4 13,a 5 14,a 6 15] [0,3,4,5,6]) (q (r [m 16 0,m 17 0,c 18 aP [t 17],o 19 (.getf 0 none (t 18)),o 20 (B .eql 19 4),m 21 20,g 22 21 (M 6),o 23 (V 21 22),m 24 23,g 25 24 (M 5),g 26 24 (.bin .neq (t 25) (s [])),o 27 (V 24 26),m 28 27,g 29 28 (M 5),g 30 28 (.call (f lX) [t 29,s [58]]),g 31 28 (N 30),o 32 (V 28 31),m 33 32,g 34 33 (M 0),g 35 33 (H 34),g 36 33 (G 3 35),g 37 33 (L 36),g 38 33 (M 4),g 39 33 (.bin .add (t 38) (s [58])),g 40 33 (.look 1 (.b false) false (t 37) (t 39)),o 41 (V 33 40),m 42 41,g 43 42 (M 4),g 44 42 (.bin .neq (t 43) (s [111,119,108])),o 45 (V 42 44),m 46 45,g 47 46 (M 4),g 48 46 (.bin .neq (t 47) (s [120,115,100])),o 49 (V 46 48),c 50 bV [t 16,t 49]] [0,3]) (q (r [m 51 0,c 52 aN [t 51]] [3]) (q (r [m 53 3,c 54 kP [t 53,s [58]],a 2 54] [2]) .ret))))))⟩
def uX:bM:=⟨2,[.tmp 4,.tmp 5,.tmp 6],true,false,(q (r [o 4 (.asg (s [])),o 5 (.asg (s [])),j 6 false] [0,1]) (q (r [m 7 0,m 8 1,c 9 jy [t 7,t 8],e 10 9 0,e 11 9 1,e 12 9 2,a 4 10,a 5 11,a 6 12] [4,5,6]) .ret))⟩
def jg:bM:=⟨2,[.tmp 4,.tmp 5,.tmp 6],true,false,(q (r [o 4 (.asg (s [])),o 5 (.asg (s [])),j 6 false] [0,1]) (q (q (r [m 8 0,m 9 1,c 10 kD [t 8,t 9],a 7 10] [0,1,7]) (q (r [m 11 7,o 12 (B .geq 11 0)] [0,1,7,12]) (u 12 (q (.region [m 13 0,m 14 7,o 15 (.slcs (t 13) none (some (t 14))),m 16 0,m 17 7,m 18 1,o 19 (E 1 18),o 20 (D .add 17 19),o 21 (.slcs (t 16) (some (t 20)) none),o 4 (.cpy (t 15)),o 5 (.cpy (t 21)),o 6 (.cpy T)] (some ([0,1,2,3,4,5,6,7,8,9,10,11],[])) [4,5,6]) .ret)))) (q (r [m 22 0,a 4 22,o 5 (.asg (s [])),j 6 false] [4,5,6]) .ret)))⟩
def nJ:bM:=⟨2,[.tmp 4],true,false,(q (r [j 4 false] [0,1]) (q (r [m 5 0,m 6 1,c 7 pF [t 5,t 6],o 8 (B .geq 7 0),a 4 8] [4]) .ret))⟩
def vP:bM:=⟨2,[.tmp 4],true,false,(q (r [i 4 0] [0,1]) (q (r [m 5 0,m 6 1,c 7 kD [t 5,t 6],a 4 7] [4]) .ret))⟩
def oQ:bM:=⟨2,[.tmp 4],true,false,(q (r [o 4 (.asg (s []))] [0,1]) (q (r [m 5 0,m 6 1,c 7 fG [t 5,t 6],a 4 7] [4]) .ret))⟩
def dH:bM:=⟨2,[.tmp 4],true,false,(q (r [o 4 (.asg (s []))] [0,1]) (q (q (r [m 5 0,m 6 1,c 7 gm [t 5,t 6]] [0,1,7]) (u 7 (q (r [m 8 0,m 9 1,o 10 (E 1 9),o 11 (.slcs (t 8) (some (t 10)) none),a 4 11] [4]) .ret))) (q (r [m 12 0,a 4 12] [4]) .ret)))⟩
def fE:bM:=⟨2,[.tmp 4],true,false,(q (r [j 4 false] [0,1]) (q (r [m 5 0,o 6 (E 1 5),m 7 1,o 8 (E 1 7),o 9 (D .geq 6 8),m 10 9,g 11 10 (M 0),g 12 10 (M 1),g 13 10 (E 1 12),g 14 10 (.slcs (t 11) none (some (t 13))),g 15 10 (M 1),g 16 10 (D .eql 14 15),o 17 (V 10 16),a 4 17] [4]) .ret))⟩
def lg:bM:=⟨1,[.tmp 2],false,false,(q (r [o 2 (.asg (.c .ns))] [0]) (q (r [m 4 0,c 5 dS [t 4]] [0]) (q (r [m 6 0,c 7 aV [t 6],o 3 (.lalloc [(.i .i64 0),(.s []),(.i .i64 0),(.i .i64 0),.ns]),w (.store 5 (t 3) (t 7))] [0,3]) (q (.region [o 8 (.loadl (some 5) (t 3)),m 9 0,o 10 (.callh 10 (f aV) [t 9] none),o 11 (.build [(.i .i64 0),(.b false),(.i .i64 0),(.s []),(.i .i64 0),(.i .i64 0),.ns,(.i .i64 0),(.s []),(.i .i64 0),(.i .i64 0),.ns,.ns,(.s []),(.s []),(.s [])] [(0,1,k 1),(2,5,t 8),(7,5,t 10)]),o 12 (.bsl false bH 16 1 [(.i .i64 0),(.b false),(.i .i64 0),(.s []),(.i .i64 0),(.i .i64 0),.ns,(.i .i64 0),(.s []),(.i .i64 0),(.i .i64 0),.ns,.ns,(.s []),(.s []),(.s [])] [(0,t 11)]),o 2 (.cpy (t 12))] (some ([0,1,2,3,4,5],[])) [2]) .ret))))⟩
def bg:bF:=(q (q (r [m 4 0,c 5 bK [t 4,s wC1]] [0,5]) (y 5 0)) (.block 1 (q (r [m 6 0,c 7 aN [t 6]] [0]) (q (r [m 8 0,c 9 aH [t 8,s [40]]] [0]) (q (r [m 10 0,c 11 aQ [t 10],a 2 11] [0,2]) (q (r [m 12 0,c 13 aP [t 12],o 14 (.getf 1 none (t 13)),a 3 14] [0,2,3]) (q (r [m 15 0,m 16 0,c 17 aP [t 16],o 18 (.getf 0 none (t 17)),o 19 (B .eql 18 3),c 20 bV [t 15,t 19]] [0,2,3]) (q (r [m 21 0,c 22 aN [t 21]] [0,2,3]) (q (r [m 23 0,c 24 aH [t 23,s [41]]] [0,2,3]) (r [m 25 0,m 26 0,o 27 (H 26),d 28 5 27,l 29 28,m 30 29,h 31 30 (M 2),h 32 30 (.bin .eql (t 31) (s [111,112,101,110])),h 33 30 (M 32),g 34 33 (M 3),g 35 33 (.bin .eql (t 34) (s wD0)),h 36 30 (V 33 35),o 37 (U 30 36),o 38 (H 25),d 39 5 38,w (.store 1 (t 39) (t 37))] [0]))))))))))
def nK:bM:=⟨1,[],false,false,(.block 0 (.loop [0] bg))⟩
def dP:bM:=⟨1,[.cell 2 (some 5)],false,false,(q (r [o 2 (.lalloc [(.i .i64 0),(.s []),(.i .i64 0),(.i .i64 0),.ns])] [0,2]) (q (q (.region [m 6 0,o 7 (H 6),d 8 8 7,o 9 (.loadv (t 8) 0 8),m 10 0,o 11 (.callh 11 (f aP) [t 10] (some (0,8))),o 12 (.getf 1 none (t 11)),o 13 (.look 1 .nf true (t 9) (t 12)),m 5 13,e 14 5 0,e 15 5 1,o 3 (.cpy (t 14)),o 4 (.cpy (t 15))] (some ([0,1,2,3,4,5,6,7,8,9,10,11,12],[])) [0,2,3,4]) (q (r [m 16 4] [0,2,3,16]) (u 16 (q (r [m 17 3,o 18 (.call (t 17) []),w (.store 5 (t 2) (t 18))] [2]) .ret)))) (q (r [m 19 0,c 20 aQ [t 19],o 21 (.build [(.i .i64 0),(.s []),(.i .i64 0),(.i .i64 0),.ns] [(0,1,k 3),(1,1,t 20)]),w (.store 5 (t 2) (t 21))] [2]) .ret)))⟩
def kS:bF:=(q (r [o 16 (D .lss 15 14)] [2,3,13,14,15,16]) (q (y 16 0) (q (.block 1 (q (r [m 17 15,o 18 (X 5 13 15),n 19 5 18,o 5 (.lalloc [(.i .i64 0),(.s []),(.i .i64 0),(.i .i64 0),.ns]),a 4 17,w (.store 5 (t 5) (t 19))] [2,3,4,5,13,14,15]) (.region [m 20 2,m 21 3,m 22 4,o 23 (X 5 21 22),n 24 5 23,n 25 5 5,o 26 (.build [(.i .i64 0),(.b false),(.i .i64 0),(.s []),(.i .i64 0),(.i .i64 0),.ns,(.i .i64 0),(.s []),(.i .i64 0),(.i .i64 0),.ns,.ns,(.s []),(.s []),(.s [])] [(0,1,k 2),(2,5,t 24),(7,5,t 25)]),o 27 (.bsl false bH 16 1 [(.i .i64 0),(.b false),(.i .i64 0),(.s []),(.i .i64 0),(.i .i64 0),.ns,(.i .i64 0),(.s []),(.i .i64 0),(.i .i64 0),.ns,.ns,(.s []),(.s []),(.s [])] [(0,t 26)]),o 28 (.app bH 16 (t 20) (t 27)),a 2 28] (some ([0,1,2,3,4,5,6,7,8,9],[])) [2,3,13,14,15]))) (r [o 29 (B .add 15 1),m 15 29] [2,3,13,14,15]))))
def iV:bM:=⟨1,[.tmp 2],false,false,(q (r [o 2 (.nbuf bH 16)] [0,2]) (q (r [m 6 0,c 7 dS [t 6]] [0,2]) (q (r [m 8 0,m 9 0,o 10 (.mkfn (.func aV) [t 9] []),c 11 iK [t 8,k 2,t 10],a 3 11] [2,3]) (q (q (r [m 12 3,o 13 (.slc 5 (t 12) (some (k 1)) none),o 14 (E 0 13),o 15 (.mov (k 0))] [2,3,13,14,15]) (.block 0 (.loop [2,3,13,14,15] kS))) (q (r [m 30 2,a 2 30] [2]) .ret)))))⟩
def bf:bF:=(q (q (r [m 7 6,o 8 (E 0 7),m 9 1,o 10 (D .lss 8 9),m 11 10,h 12 11 (M 0),h 13 11 (.call (f bK) [t 12,s [41]]),h 14 11 (N 13),o 15 (U 11 14)] [0,1,2,6,15]) (y 15 0)) (.block 1 (r [m 16 6,m 17 2,o 18 (.call (t 17) []),o 19 (.bsl false eP 5 1 [(.i .i64 0),(.s []),(.i .i64 0),(.i .i64 0),.ns] [(0,t 18)]),o 20 (.app eP 5 (t 16) (t 19)),a 6 20] [0,1,2,6])))
def kL:bM:=⟨3,[.tmp 6],false,false,(q (r [o 6 (.nbuf eP 5)] [0,1,2,6]) (q (.block 0 (.loop [0,1,2,6] bf)) (q (r [m 21 6,a 6 21] [6]) .ret)))⟩
def lK:bF:=(q (r [o 27 (D .lss 26 25)] [2,3,4,14,15,24,25,26,27]) (q (y 27 2) (q (.block 3 (q (r [o 28 (X 5 24 26),n 29 5 28,o 6 (.lalloc [(.i .i64 0),(.s []),(.i .i64 0),(.i .i64 0),.ns]),w (.store 5 (t 6) (t 29))] [2,3,4,6,14,15,24,25,26]) (.region [m 30 2,m 31 3,m 32 4,o 33 (X 5 31 32),n 34 5 33,n 35 5 6,o 36 (.build [(.i .i64 0),(.b false),(.i .i64 0),(.s []),(.i .i64 0),(.i .i64 0),.ns,(.i .i64 0),(.s []),(.i .i64 0),(.i .i64 0),.ns,.ns,(.s []),(.s []),(.s [])] [(0,1,k 3),(2,5,t 34),(7,5,t 35)]),o 37 (.bsl false bH 16 1 [(.i .i64 0),(.b false),(.i .i64 0),(.s []),(.i .i64 0),(.i .i64 0),.ns,(.i .i64 0),(.s []),(.i .i64 0),(.i .i64 0),.ns,.ns,(.s []),(.s []),(.s [])] [(0,t 36)]),o 38 (.app bH 16 (t 30) (t 37)),a 2 38] (some ([0,1,2,3,4,5,6,7,8,9],[])) [2,3,4,14,15,24,25,26]))) (r [o 39 (B .add 26 1),m 26 39] [2,3,4,14,15,24,25,26]))))
def jI:bF:=(q (r [o 16 (D .lss 15 14)] [2,3,14,15,16]) (q (y 16 0) (q (.block 1 (q (r [m 17 15,a 4 17] [2,3,4,14,15]) (q (q (r [m 18 2,o 19 (E 0 18),o 20 (B .gtr 19 1024)] [2,3,4,14,15,20]) (u 20 (.exit 0))) (q (r [m 21 3,m 22 4,o 23 (B .add 22 1),o 24 (.slc 5 (t 21) (some (t 23)) none),o 25 (E 0 24),o 26 (.mov (k 0))] [2,3,4,14,15,24,25,26]) (.block 2 (.loop [2,3,4,14,15,24,25,26] lK)))))) (r [o 40 (B .add 15 1),m 15 40] [2,3,14,15]))))
def jD:bM:=⟨1,[.tmp 2],false,false,(q (r [o 2 (.nbuf bH 16)] [0,2]) (q (r [m 7 0,c 8 dS [t 7]] [0,2]) (q (r [m 9 0,m 10 0,o 11 (.mkfn (.func aV) [t 10] []),c 12 iK [t 9,k 2,t 11],a 3 12] [2,3]) (q (q (r [m 13 3,o 14 (E 0 13),o 15 (.mov (k 0))] [2,3,14,15]) (.block 0 (.loop [2,3,14,15] jI))) (q (r [m 41 2,a 2 41] [2]) .ret)))))⟩
def jq:bM:=⟨1,[.tmp 2],false,false,(q (r [o 2 (.asg (.c .ns))] [0]) (q (r [m 4 0,c 5 dS [t 4]] [0]) (q (r [m 6 0,c 7 aQ [t 6],a 3 7] [0,3]) (q (r [m 8 3,m 9 0,c 10 aV [t 9],o 11 (.build [(.i .i64 0),(.b false),(.i .i64 0),(.s []),(.i .i64 0),(.i .i64 0),.ns,(.i .i64 0),(.s []),(.i .i64 0),(.i .i64 0),.ns,.ns,(.s []),(.s []),(.s [])] [(0,1,k 4),(13,1,t 8),(7,5,t 10)]),o 12 (.bsl false bH 16 1 [(.i .i64 0),(.b false),(.i .i64 0),(.s []),(.i .i64 0),(.i .i64 0),.ns,(.i .i64 0),(.s []),(.i .i64 0),(.i .i64 0),.ns,.ns,(.s []),(.s []),(.s [])] [(0,t 11)]),a 2 12] [2]) .ret))))⟩
def dF:bM:=⟨1,[.tmp 2],false,false,(q (r [o 2 (.asg (.c .ns))] [0]) (q (r [m 5 0,c 6 dS [t 5]] [0]) (q (q (r [m 7 0,c 8 bK [t 7,s wA2],o 9 (N 8)] [0,9]) (u 9 (q (r [m 10 0,c 11 aQ [t 10],a 3 11] [0,3]) (q (r [m 12 3,o 13 (.bsl false au 1 1 [(.s [])] [(0,t 12)]),m 14 0,c 15 aQ [t 14],o 16 (.build [(.i .i64 0),(.b false),(.i .i64 0),(.s []),(.i .i64 0),(.i .i64 0),.ns,(.i .i64 0),(.s []),(.i .i64 0),(.i .i64 0),.ns,.ns,(.s []),(.s []),(.s [])] [(0,1,k 5),(12,1,t 13),(13,1,t 15)]),o 17 (.bsl false bH 16 1 [(.i .i64 0),(.b false),(.i .i64 0),(.s []),(.i .i64 0),(.i .i64 0),.ns,(.i .i64 0),(.s []),(.i .i64 0),(.i .i64 0),.ns,.ns,(.s []),(.s []),(.s [])] [(0,t 16)]),a 2 17] [2]) .ret)))) (q (r [m 18 0,c 19 aN [t 18]] [0]) (q (r [m 20 0,c 21 aH [t 20,s [40]]] [0]) (q (r [m 22 0,m 23 0,o 24 (.mkfn (.func aQ) [t 23] []),c 25 qj [t 22,k 2,t 24],a 4 25] [0,4]) (q (r [m 26 0,c 27 aH [t 26,s [41]]] [0,4]) (q (r [m 28 4,m 29 0,c 30 aQ [t 29],o 31 (.build [(.i .i64 0),(.b false),(.i .i64 0),(.s []),(.i .i64 0),(.i .i64 0),.ns,(.i .i64 0),(.s []),(.i .i64 0),(.i .i64 0),.ns,.ns,(.s []),(.s []),(.s [])] [(0,1,k 6),(12,1,t 28),(13,1,t 30)]),o 32 (.bsl false bH 16 1 [(.i .i64 0),(.b false),(.i .i64 0),(.s []),(.i .i64 0),(.i .i64 0),.ns,(.i .i64 0),(.s []),(.i .i64 0),(.i .i64 0),.ns,.ns,(.s []),(.s []),(.s [])] [(0,t 31)]),a 2 32] [2]) .ret))))))))⟩
def dB:bF:=(q (q (r [m 7 6,o 8 (E 0 7),m 9 1,o 10 (D .lss 8 9),m 11 10,h 12 11 (M 0),h 13 11 (.call (f bK) [t 12,s [41]]),h 14 11 (N 13),o 15 (U 11 14)] [0,1,2,6,15]) (y 15 0)) (.block 1 (r [m 16 6,m 17 2,o 18 (.call (t 17) []),o 19 (.bsl false au 1 1 [(.s [])] [(0,t 18)]),o 20 (.app au 1 (t 16) (t 19)),a 6 20] [0,1,2,6])))
def oL:bM:=⟨3,[.tmp 6],false,false,(q (r [o 6 (.nbuf au 1)] [0,1,2,6]) (q (.block 0 (.loop [0,1,2,6] dB)) (q (r [m 21 6,a 6 21] [6]) .ret)))⟩
def jh:bM:=⟨1,[.tmp 2],false,false,(q (r [o 2 (.asg (.c .ns))] [0]) (q (r [m 3 0,c 4 dS [t 3]] [0]) (q (r [m 5 0,c 6 aQ [t 5],o 7 (.build [(.i .i64 0),(.b false),(.i .i64 0),(.s []),(.i .i64 0),(.i .i64 0),.ns,(.i .i64 0),(.s []),(.i .i64 0),(.i .i64 0),.ns,.ns,(.s []),(.s []),(.s [])] [(0,1,k 7),(13,1,t 6)]),o 8 (.bsl false bH 16 1 [(.i .i64 0),(.b false),(.i .i64 0),(.s []),(.i .i64 0),(.i .i64 0),.ns,(.i .i64 0),(.s []),(.i .i64 0),(.i .i64 0),.ns,.ns,(.s []),(.s []),(.s [])] [(0,t 7)]),a 2 8] [2]) .ret)))⟩
def jl:bM:=⟨1,[.tmp 2],false,false,(q (r [o 2 (.asg (.c .ns))] [0]) (q (r [m 4 0,c 5 dS [t 4]] [0]) (q (r [m 6 0,c 7 aV [t 6],o 3 (.lalloc [(.i .i64 0),(.s []),(.i .i64 0),(.i .i64 0),.ns]),w (.store 5 (t 3) (t 7))] [0,3]) (q (.region [m 8 0,o 9 (.callh 9 (f aQ) [t 8] none),o 10 (.loadl (some 5) (t 3)),o 11 (.build [(.i .i64 0),(.b false),(.i .i64 0),(.s []),(.i .i64 0),(.i .i64 0),.ns,(.i .i64 0),(.s []),(.i .i64 0),(.i .i64 0),.ns,.ns,(.s []),(.s []),(.s [])] [(0,1,k 8),(14,1,t 9),(7,5,t 10)]),o 12 (.bsl false bH 16 1 [(.i .i64 0),(.b false),(.i .i64 0),(.s []),(.i .i64 0),(.i .i64 0),.ns,(.i .i64 0),(.s []),(.i .i64 0),(.i .i64 0),.ns,.ns,(.s []),(.s []),(.s [])] [(0,t 11)]),o 2 (.cpy (t 12))] (some ([0,1,2,3,4,5],[])) [2]) .ret))))⟩
def jo:bM:=⟨1,[.tmp 2],false,false,(q (r [o 2 (.asg (.c .ns))] [0]) (q (r [m 5 0,c 6 dS [t 5]] [0]) (q (r [m 7 0,c 8 aQ [t 7],a 3 8] [0,3]) (q (r [m 9 0,c 10 aQ [t 9],a 4 10] [0,3,4]) (q (r [m 11 3,m 12 4,m 13 0,c 14 aQ [t 13],o 15 (.build [(.i .i64 0),(.b false),(.i .i64 0),(.s []),(.i .i64 0),(.i .i64 0),.ns,(.i .i64 0),(.s []),(.i .i64 0),(.i .i64 0),.ns,.ns,(.s []),(.s []),(.s [])] [(0,1,k 9),(13,1,t 11),(14,1,t 12),(15,1,t 14)]),o 16 (.bsl false bH 16 1 [(.i .i64 0),(.b false),(.i .i64 0),(.s []),(.i .i64 0),(.i .i64 0),.ns,(.i .i64 0),(.s []),(.i .i64 0),(.i .i64 0),.ns,.ns,(.s []),(.s []),(.s [])] [(0,t 15)]),a 2 16] [2]) .ret)))))⟩
def pV:bM:=⟨1,[.cell 2 (some 5)],false,false,(q (r [o 2 (.lalloc [(.i .i64 0),(.s []),(.i .i64 0),(.i .i64 0),.ns])] [0,2]) (q (r [m 3 0,c 4 gU [t 3,s wB4,s [111,119,108,58]]] [2]) (q (r [o 5 (.build [(.i .i64 0),(.s []),(.i .i64 0),(.i .i64 0),.ns] [(0,1,k 1)]),w (.store 5 (t 2) (t 5))] [2]) .ret)))⟩
def dX:bM:=⟨3,[],false,false,(q (r [m 6 0,m 7 0,m 8 1,c 9 bK [t 7,t 8],m 10 9,g 11 10 (M 0),g 12 10 (H 11),g 13 10 (G 3 12),g 14 10 (L 13),g 15 10 (M 2),g 16 10 (.look 1 (.b false) false (t 14) (t 15)),o 17 (V 10 16),c 18 bV [t 6,t 17]] [0]) (r [m 19 0,c 20 aN [t 19]] []))⟩
def mP:bM:=⟨1,[.cell 2 (some 5)],false,false,(q (r [o 2 (.lalloc [(.i .i64 0),(.s []),(.i .i64 0),(.i .i64 0),.ns])] [0,2]) (q (r [m 3 0,c 4 gU [t 3,s wB1,s [111,119,108,58]]] [2]) (q (r [o 5 (.build [(.i .i64 0),(.s []),(.i .i64 0),(.i .i64 0),.ns] [(0,1,k 2)]),w (.store 5 (t 2) (t 5))] [2]) .ret)))⟩
def lm:bM:=⟨1,[.cell 2 (some 5)],false,false,(q (r [o 2 (.lalloc [(.i .i64 0),(.s []),(.i .i64 0),(.i .i64 0),.ns])] [0,2]) (q (r [m 4 0,c 5 aN [t 4]] [0,2]) (q (r [m 6 0,c 7 aH [t 6,s [40]]] [0,2]) (q (r [m 8 0,m 9 0,o 10 (.mkfn (.func aV) [t 9] []),c 11 iK [t 8,k 2,t 10],a 3 11] [0,2,3]) (q (r [m 12 0,c 13 aH [t 12,s [41]]] [2,3]) (q (r [m 14 3,o 15 (.build [(.i .i64 0),(.s []),(.i .i64 0),(.i .i64 0),.ns] [(0,1,k 5),(4,1,t 14)]),w (.store 5 (t 2) (t 15))] [2]) .ret))))))⟩
def jm:bM:=⟨1,[.cell 2 (some 5)],false,false,(q (r [o 2 (.lalloc [(.i .i64 0),(.s []),(.i .i64 0),(.i .i64 0),.ns])] [0,2]) (q (r [m 5 0,c 6 aN [t 5]] [0,2]) (q (r [m 7 0,c 8 aH [t 7,s [40]]] [0,2]) (q (r [m 9 0,c 10 aQ [t 9],a 3 10] [0,2,3]) (q (r [m 11 0,c 12 aV [t 11],o 4 (.lalloc [(.i .i64 0),(.s []),(.i .i64 0),(.i .i64 0),.ns]),w (.store 5 (t 4) (t 12))] [0,2,3,4]) (q (r [m 13 0,c 14 aH [t 13,s [41]]] [2,3,4]) (q (r [m 15 3,n 16 5 4,o 17 (.bsl false eP 5 1 [(.i .i64 0),(.s []),(.i .i64 0),(.i .i64 0),.ns] [(0,t 16)]),o 18 (.build [(.i .i64 0),(.s []),(.i .i64 0),(.i .i64 0),.ns] [(0,1,k 6),(1,1,t 15),(4,1,t 17)]),w (.store 5 (t 2) (t 18))] [2]) .ret)))))))⟩
def iZ:bM:=⟨1,[.cell 2 (some 5)],false,false,(q (r [o 2 (.lalloc [(.i .i64 0),(.s []),(.i .i64 0),(.i .i64 0),.ns])] [0,2]) (q (r [m 4 0,c 5 aN [t 4]] [0,2]) (q (r [m 6 0,c 7 aH [t 6,s [40]]] [0,2]) (q (r [m 8 0,c 9 aQ [t 8],a 3 9] [0,2,3]) (q (r [m 10 0,c 11 aH [t 10,s [41]]] [2,3]) (q (r [m 12 3,o 13 (.build [(.i .i64 0),(.s []),(.i .i64 0),(.i .i64 0),.ns] [(0,1,k 4),(1,1,t 12)]),w (.store 5 (t 2) (t 13))] [2]) .ret))))))⟩
def aT:bM:=⟨1,[.cell 2 (some 5)],false,false,(q (r [o 2 (.lalloc [(.i .i64 0),(.s []),(.i .i64 0),(.i .i64 0),.ns])] [0,2]) (q (r [m 5 0,c 6 aN [t 5]] [0,2]) (q (r [m 7 0,c 8 aH [t 7,s [40]]] [0,2]) (q (r [m 9 0,c 10 aQ [t 9],o 11 (.build [(.i .i64 0),(.s []),(.i .i64 0),(.i .i64 0),.ns] [(0,1,k 7),(1,1,t 10),(2,1,(.c (.i .i64 (-1099511627776)))),(3,1,k 1099511627776)]),o 3 (.halloc [(.i .i64 0),(.s []),(.i .i64 0),(.i .i64 0),.ns]),w (.store 5 (t 3) (t 11))] [0,2,3]) (q (q (r [m 12 0,c 13 bK [t 12,s wA5]] [0,2,3,13]) (.cond (t 13) (q (r [m 14 0,c 15 aN [t 14]] [0,2,3]) (q (r [m 16 0,c 17 aH [t 16,s [40]]] [0,2,3]) (q (r [m 18 0,c 19 gU [t 18,s wA1,s [120,115,100,58]]] [0,2,3]) (q (r [m 20 0,c 21 lZ [t 20,t 3,s []],a 4 21] [0,2,3,4]) (q (q (r [m 22 0,c 23 bK [t 22,s [41]],o 24 (N 23)] [0,2,3,4,24]) (u 24 (r [m 25 0,m 26 4,c 27 lZ [t 25,t 3,t 26]] [0,2,3]))) (r [m 28 0,c 29 aH [t 28,s [41]]] [0,2,3])))))) (r [m 30 0,c 31 gU [t 30,s wA1,s [120,115,100,58]]] [0,2,3]))) (q (r [m 32 0,c 33 aH [t 32,s [41]]] [2,3]) (q (r [n 34 5 3,w (.store 5 (t 2) (t 34))] [2]) .ret)))))))⟩
def dh:bM:=⟨3,[.tmp 6],false,false,(q (r [o 6 (.asg (s []))] [0,1,2]) (q (r [m 9 0,c 10 aP [t 9],o 11 (.getf 1 none (t 10)),a 6 11] [0,1,2,6]) (q (r [m 12 0,m 13 6,o 14 (.bin .eql (t 13) (s wA0)),m 15 14,h 16 15 (M 6),h 17 15 (.bin .eql (t 16) (s wA3)),o 18 (U 15 17),m 19 18,g 20 19 (M 6),g 21 19 (M 2),g 22 19 (D .neq 20 21),o 23 (V 19 22),c 24 bV [t 12,t 23]] [0,1,6]) (q (r [m 25 0,m 26 6,c 27 gU [t 25,t 26,s [120,115,100,58]]] [0,1,6]) (q (r [m 29 0,c 30 aP [t 29],c 31 wQ [t 30],m 28 31,e 32 28 0,e 33 28 1,a 7 32,a 8 33] [0,1,6,7,8]) (q (r [m 34 0,m 35 8,c 36 bV [t 34,t 35]] [0,1,6,7]) (q (r [m 37 0,c 38 aN [t 37]] [0,1,6,7]) (q (r [m 39 0,c 40 aH [t 39,s [94,94]]] [0,1,6,7]) (q (r [m 41 0,c 42 gU [t 41,s wA1,s [120,115,100,58]]] [1,6,7]) (q (q (r [m 43 6,o 44 (.bin .eql (t 43) (s wA0))] [1,6,7,44]) (.cond (t 44) (r [m 45 1,m 46 7,o 47 (H 45),d 48 2 47,w (.store 1 (t 48) (t 46))] [6]) (r [m 49 1,m 50 7,o 51 (H 49),d 52 3 51,w (.store 1 (t 52) (t 50))] [6]))) (q (r [m 53 6,a 6 53] [6]) .ret)))))))))))⟩
def mY:bF:=(q (r [o 42 (D .lss 41 40)] [4,39,40,41,42]) (q (y 42 0) (q (.block 1 (q (r [o 43 (X 1 39 41),l 44 43,a 7 44] [4,7,39,40,41]) (q (r [m 45 7,o 46 (.bin .lss (t 45) (b 48)),m 47 46,h 48 47 (M 7),h 49 47 (.bin .gtr (t 48) (b 57)),o 50 (U 47 49)] [4,39,40,41,50]) (u 50 (q (r [i 2 0,j 3 false] [2,3]) .ret))))) (r [o 51 (B .add 41 1),m 41 51] [4,39,40,41]))))
def iP:bM:=⟨1,[.tmp 2,.tmp 3],true,false,(q (r [o 1 (.lbox (t 0)),i 2 0,j 3 false] [1]) (q (q (r [d 9 0 1,l 10 9,o 11 (B .neq 10 3)] [1,11]) (u 11 (q (r [i 2 0,j 3 false] [2,3]) .ret))) (q (r [d 12 1 1,l 13 12,d 14 1 1,l 15 14,o 16 (E 1 15),o 17 (B .sub 16 1),o 18 (.slcs (t 13) (some (k 1)) (some (t 17))),a 4 18] [4]) (q (r [m 19 4,c 20 kP [t 19,s [45]],a 5 20] [4,5]) (q (q (r [m 21 5,o 22 (E 1 21),o 23 (B .lss 22 1),m 24 23,h 25 24 (M 5),h 26 24 (E 1 25),h 27 24 (B .gtr 26 18),o 28 (U 24 27),m 29 28,h 30 29 (M 5),h 31 29 (.idxs (t 30) (k 0)),h 32 29 (.bin .eql (t 31) (b 48)),h 33 29 (M 32),g 34 33 (M 4),g 35 33 (.bin .neq (t 34) (s [48])),h 36 29 (V 33 35),o 37 (U 29 36)] [4,5,37]) (u 37 (q (r [i 2 0,j 3 false] [2,3]) .ret))) (q (q (r [m 38 5,o 39 (.s2b (t 38)),o 40 (E 0 39),o 41 (.mov (k 0))] [4,39,40,41]) (.block 0 (.loop [4,39,40,41] mY))) (q (r [m 53 4,c 54 BL [t 53],m 52 54,e 55 52 0,e 56 52 1,a 2 55,a 8 56] [2,8]) (q (.region [m 57 2,m 58 8,o 59 (.nileq false 4 (t 58)),o 2 (.cpy (t 57)),o 3 (.cpy (t 59))] (some ([0,1,2,3,4],[])) [2,3]) .ret))))))))⟩
def iG:bF:=(q (q (r [m 3 0,c 4 bK [t 3,s wB7]] [0,4]) (y 4 0)) (.block 1 (r [m 5 0,c 6 nO [t 5]] [0])))
def iF:bF:=(q (q (r [m 22 2,o 23 (B .lss 22 2),m 24 23,g 25 24 (M 0),g 26 24 (.call (f aP) [t 25]),g 27 24 (.getf 0 none (t 26)),g 28 24 (B .eql 27 2),o 29 (V 24 28)] [0,2,29]) (y 29 2)) (q (.block 3 (r [m 32 0,c 33 aN [t 32]] [0,2])) (r [m 30 2,o 31 (B .add 30 1),a 2 31] [0,2])))
def fJ:bF:=(q (q (r [m 34 0,c 35 bK [t 34,s [41]],o 36 (N 35)] [0,36]) (y 36 4)) (.block 5 (r [m 37 0,c 38 qg [t 37]] [0])))
def aY:bM:=⟨1,[],false,true,(q (.block 0 (.loop [0] iG)) (q (r [m 7 0,m 8 0,c 9 bK [t 8,s wB5],m 10 9,g 11 10 (M 0),g 12 10 (H 11),g 13 10 (G 3 12),g 14 10 (L 13),g 15 10 (.look 1 (.b false) false (t 14) (s [58])),o 16 (V 10 15),c 17 bV [t 7,t 16]] [0]) (q (r [m 18 0,c 19 aN [t 18]] [0]) (q (r [m 20 0,c 21 aH [t 20,s [40]]] [0]) (q (q (r [i 2 0] [0,2]) (.block 2 (.loop [0,2] iF))) (q (.block 4 (.loop [0] fJ)) (q (r [m 39 0,c 40 aN [t 39]] [0]) (r [m 41 0,m 42 0,c 43 aP [t 42],o 44 (.getf 0 none (t 43)),o 45 (B .eql 44 5),c 46 bV [t 41,t 45]] []))))))))⟩
def ay:bM:=⟨1,[],false,false,(q (r [m 4 0,c 5 aH [t 4,s wB7]] [0]) (q (r [m 6 0,c 7 aH [t 6,s [40]]] [0]) (q (r [m 8 0,c 9 aP [t 8],o 10 (.getf 1 none (t 9)),a 2 10] [0,2]) (q (r [m 11 0,m 12 0,c 13 aP [t 12],o 14 (.getf 0 none (t 13)),o 15 (B .eql 14 4),m 16 15,g 17 16 (M 2),g 18 16 (.call (f pF) [t 17,s [58]]),g 19 16 (M 2),g 20 16 (E 1 19),g 21 16 (B .sub 20 1),g 22 16 (D .eql 18 21),o 23 (V 16 22),m 24 23,g 25 24 (M 2),g 26 24 (.bin .eql (t 25) (s [58])),g 27 24 (M 26),h 28 27 (M 2),h 29 27 (.idxs (t 28) (k 0)),h 30 27 (.call (f rF) [t 29]),g 31 24 (U 27 30),o 32 (V 24 31),m 33 32,g 34 33 (M 0),g 35 33 (H 34),g 36 33 (G 3 35),g 37 33 (L 36),g 38 33 (M 2),g 39 33 (.look 1 (.b false) false (t 37) (t 38)),g 40 33 (N 39),o 41 (V 33 40),c 42 bV [t 11,t 41]] [0,2]) (q (r [m 43 0,c 44 aN [t 43]] [0,2]) (q (r [m 45 0,c 46 aH [t 45,s [61]]] [0,2]) (q (r [m 47 0,c 48 aP [t 47],o 49 (.getf 1 none (t 48)),a 3 49] [0,2,3]) (q (r [m 50 0,m 51 0,c 52 aP [t 51],o 53 (.getf 0 none (t 52)),o 54 (B .eql 53 2),m 55 54,g 56 55 (M 2),g 57 55 (.bin .neq (t 56) (s [111,119,108,58])),g 58 55 (M 57),h 59 58 (M 3),h 60 58 (.bin .eql (t 59) (s wC2)),g 61 55 (U 58 60),o 62 (V 55 61),m 63 62,g 64 63 (M 2),g 65 63 (.bin .neq (t 64) (s [120,115,100,58])),g 66 63 (M 65),h 67 66 (M 3),h 68 66 (.bin .eql (t 67) (s wC0)),g 69 63 (U 66 68),o 70 (V 63 69),c 71 bV [t 50,t 70]] [0,2,3]) (q (r [m 72 0,c 73 aN [t 72]] [0,2,3]) (q (r [m 74 0,c 75 aH [t 74,s [41]]] [0,2,3]) (q (r [m 76 0,o 77 (H 76),d 78 3 77,l 79 78,m 80 2,w (.hins 1 (t 79) (t 80) T)] [0,2,3]) (q (r [m 81 2,o 82 (.bin .eql (t 81) (s [58]))] [0,3,82]) (u 82 (r [m 83 0,m 84 3,m 85 3,o 86 (E 1 85),o 87 (B .sub 86 1),o 88 (.slcs (t 84) (some (k 1)) (some (t 87))),o 89 (H 83),d 90 4 89,w (.store 1 (t 90) (t 88))] []))))))))))))))⟩
def gZ:bF:=(q (r [o 38 (D .lss 37 36)] [0,2,35,36,37,38]) (q (y 38 0) (q (.block 1 (q (r [o 39 (X 16 35 37),n 40 16 39,o 7 (.lalloc [(.i .i64 0),(.b false),(.i .i64 0),(.s []),(.i .i64 0),(.i .i64 0),.ns,(.i .i64 0),(.s []),(.i .i64 0),(.i .i64 0),.ns,.ns,(.s []),(.s []),(.s [])]),w (.store 16 (t 7) (t 40))] [0,2,7,35,36,37]) (q (r [m 41 0,o 42 (H 41),d 43 5 42,l 44 43,d 45 1 7,w (.store 1 (t 45) (t 44))] [0,2,7,35,36,37]) (q (q (r [n 46 16 7,c 47 jw [t 46],a 8 47] [0,2,7,8,35,36,37]) (q (r [m 48 8,o 49 (B .neq 48 0)] [0,2,7,8,35,36,37,49]) (u 49 (r [d 50 2 2,l 51 50,m 52 8,o 53 (.build [(.i .i64 0),(.i .i64 0)] [(0,1,t 51),(1,1,t 52)]),o 54 (.mkif rV (t 53)),w (.panic (t 54))] [0,2,7,35,36,37])))) (.region [m 55 0,m 56 0,o 57 (H 56),d 58 6 57,l 59 58,n 60 16 7,o 61 (.bsl false bH 16 1 [(.i .i64 0),(.b false),(.i .i64 0),(.s []),(.i .i64 0),(.i .i64 0),.ns,(.i .i64 0),(.s []),(.i .i64 0),(.i .i64 0),.ns,.ns,(.s []),(.s []),(.s [])] [(0,t 60)]),o 62 (.apprp 62 bH 16 (t 59) (t 61)),o 63 (H 55),d 64 6 63,w (.store 1 (t 64) (t 62))] (some ([1,2,3,4,5,6,7,0,8,9,10],[])) [0,2,35,36,37]))))) (r [o 65 (B .add 37 1),m 37 65] [0,2,35,36,37]))))
def dG:bM:=⟨1,[],false,true,(q (r [m 9 0,c 10 aP [t 9],o 2 (.lalloc [(.i .i64 0),(.s []),(.i .i64 0)]),w (.store 3 (t 2) (t 10))] [0,2]) (q (.region [m 12 0,o 13 (H 12),d 14 7 13,l 15 14,d 16 1 2,l 17 16,o 18 (.look 1 .nf true (t 15) (t 17)),m 11 18,e 19 11 0,e 20 11 1,o 3 (.cpy (t 19)),o 4 (.cpy (t 20))] (some ([0,1,2,3,4,5,6,7,8,9,10,11],[])) [0,2,3,4]) (q (r [m 21 0,m 22 4,c 23 bV [t 21,t 22]] [0,2,3]) (q (r [m 24 0,c 25 aN [t 24]] [0,2,3]) (q (r [m 26 0,c 27 aH [t 26,s [40]]] [0,2,3]) (q (r [m 28 0,o 29 (H 28),d 30 5 29,w (.store 1 (t 30) F)] [0,2,3]) (q (r [m 31 3,o 32 (.call (t 31) []),a 5 32] [0,2,5]) (q (r [m 33 0,c 34 aH [t 33,s [41]]] [0,2,5]) (q (q (r [m 35 5,o 36 (E 0 35),o 37 (.mov (k 0))] [0,2,35,36,37]) (.block 0 (.loop [0,2,35,36,37] gZ))) (q (r [m 66 0,o 67 (H 66),d 68 6 67,l 69 68,o 70 (E 0 69),o 71 (B .gtr 70 1024)] [2,71]) (u 71 (r [d 72 2 2,l 73 72,o 74 (.build [(.i .i64 0),(.i .i64 0)] [(0,1,t 73),(1,1,k 2)]),o 75 (.mkif rV (t 74)),w (.panic (t 75))] []))))))))))))⟩
def lF:bM:=⟨1,[.tmp 2],true,false,(q (r [o 1 (.lbox (t 0)),i 2 0] [1]) (q (q (r [n 6 16 1,c 7 rC [t 6],o 8 (N 7)] [1,8]) (u 8 (q (r [i 2 22] [2]) .ret))) (q (r [d 9 0 1,l 10 9,o 11 (.idxa 10 7 (.g yH) (t 10)),n 12 7 11,o 3 (.lalloc [(.b false),(.b false),(.b false),(.b false),(.b false),(.i .i64 0),(.i .i64 0)]),w (.store 7 (t 3) (t 12))] [1,3]) (q (q (r [n 13 16 1,n 14 7 3,c 15 tX [t 13,t 14],o 16 (N 15)] [1,3,16]) (u 16 (q (r [i 2 20] [2]) .ret))) (q (q (r [d 17 0 3,l 18 17] [1,3,18]) (u 18 (q (r [d 19 2 1,n 20 5 19,c 21 kN [t 20],a 4 21] [1,3,4]) (q (r [m 22 4,o 23 (B .neq 22 0)] [1,3,4,23]) (u 23 (q (r [m 24 4,a 2 24] [2]) .ret)))))) (q (q (r [d 25 1 3,l 26 25] [1,26]) (u 26 (q (r [d 27 7 1,n 28 5 27,c 29 kN [t 28],a 5 29] [1,5]) (q (r [m 30 5,o 31 (B .neq 30 0)] [1,5,31]) (u 31 (q (r [m 32 5,a 2 32] [2]) .ret)))))) (q (q (r [d 33 0 1,l 34 33] [1,34]) (.block 0 (q (r [o 36 (B .eql 34 2),a 35 36] [1,34,35]) (.cond (t 35) (q (r [d 37 2 1,n 38 5 37,c 39 fZ [t 38],m 40 39,h 41 40 (G 7 1),h 42 40 (.load (some 5) (t 41)),h 43 40 (.call (f fZ) [t 42]),o 44 (U 40 43)] [44]) (u 44 (q (r [i 2 22] [2]) .ret))) (q (q (r [o 46 (B .eql 34 1),a 45 46] [1,34,45]) (.cond (t 45) .skip (q (r [o 47 (B .eql 34 4),a 45 47] [1,34,45]) (.cond (t 45) .skip (r [o 48 (B .eql 34 8),a 45 48] [1,45]))))) (u 45 (q (r [d 49 7 1,n 50 5 49,c 51 fZ [t 50]] [51]) (u 51 (q (r [i 2 22] [2]) .ret))))))))) (q (r [i 2 0] [2]) .ret))))))))⟩
def mX:bM:=⟨1,[.tmp 2],true,false,(q (r [o 1 (.lbox (t 0)),j 2 false] [1]) (q (q (r [d 4 0 1,l 5 4,o 6 (B .lss 5 1),m 7 6,h 8 7 (G 0 1),h 9 7 (L 8),h 10 7 (B .gtr 9 9),o 11 (U 7 10)] [1,11]) (z 11 2 false)) (q (r [d 12 0 1,l 13 12,o 14 (.idxa 10 7 (.g yH) (t 13)),n 15 7 14,o 3 (.lalloc [(.b false),(.b false),(.b false),(.b false),(.b false),(.i .i64 0),(.i .i64 0)]),w (.store 7 (t 3) (t 15))] [1,3]) (q (r [d 16 0 3,l 17 16,m 18 17,h 19 18 (G 2 1),h 20 18 (.load (some 5) (t 19)),h 21 18 (.call (f pz) [t 20]),o 22 (U 18 21),m 23 22,g 24 23 (G 1 3),g 25 23 (L 24),g 26 23 (M 25),h 27 26 (G 7 1),h 28 26 (.load (some 5) (t 27)),h 29 26 (.call (f pz) [t 28]),g 30 23 (U 26 29),o 31 (V 23 30),m 32 31,g 33 32 (G 2 3),g 34 32 (L 33),g 35 32 (M 34),h 36 35 (G 13 1),h 37 35 (L 36),h 38 35 (.bin .eql (t 37) (s [])),g 39 32 (U 35 38),o 40 (V 32 39),m 41 40,g 42 41 (G 3 3),g 43 41 (L 42),g 44 41 (M 43),h 45 44 (G 14 1),h 46 44 (L 45),h 47 44 (.bin .eql (t 46) (s [])),g 48 41 (U 44 47),o 49 (V 41 48),m 50 49,g 51 50 (G 4 3),g 52 50 (L 51),g 53 50 (M 52),h 54 53 (G 15 1),h 55 53 (L 54),h 56 53 (.bin .eql (t 55) (s [])),g 57 50 (U 53 56),o 58 (V 50 57),m 59 58,g 60 59 (G 12 1),g 61 59 (L 60),g 62 59 (E 0 61),g 63 59 (G 5 3),g 64 59 (L 63),g 65 59 (D .geq 62 64),o 66 (V 59 65),m 67 66,g 68 67 (G 12 1),g 69 67 (L 68),g 70 67 (E 0 69),g 71 67 (G 6 3),g 72 67 (L 71),g 73 67 (D .leq 70 72),o 74 (V 67 73),a 2 74] [2]) .ret))))⟩
def vO:bM:=⟨1,[.tmp 2],true,false,(q (r [o 1 (.lbox (t 0)),j 2 false] [1]) (q (r [d 3 0 1,l 4 3,o 5 (B .eql 4 0),m 6 5,g 7 6 (G 1 1),g 8 6 (L 7),g 9 6 (.bin .eql (t 8) (s [])),o 10 (V 6 9),m 11 10,g 12 11 (G 2 1),g 13 11 (L 12),g 14 11 (B .eql 13 0),o 15 (V 11 14),m 16 15,g 17 16 (G 3 1),g 18 16 (L 17),g 19 16 (B .eql 18 0),o 20 (V 16 19),m 21 20,g 22 21 (G 4 1),g 23 21 (L 22),g 24 21 (E 0 23),g 25 21 (B .eql 24 0),o 26 (V 21 25),a 2 26] [2]) .ret))⟩
def qK:bF:=(q (r [o 39 (D .lss 38 37)] [36,37,38,39]) (q (y 39 0) (q (.block 1 (q (r [o 40 (X 1 36 38),l 41 40,a 6 41] [6,36,37,38]) (q (r [m 42 6,c 43 lI [t 42],o 44 (N 43)] [36,37,38,44]) (z 44 4 false)))) (r [o 45 (B .add 38 1),m 38 45] [36,37,38]))))
def qR:bM:=⟨2,[.tmp 4],true,false,(q (r [o 2 (.lbox (t 0)),o 3 (.lbox (t 1)),j 4 false] [2,3]) (q (q (r [d 7 2 3,l 8 7,m 9 8,g 10 9 (G 13 2),g 11 9 (L 10),g 12 9 (.call (f lI) [t 11]),g 13 9 (N 12),o 14 (V 9 13),m 15 14,h 16 15 (G 3 3),h 17 15 (L 16),h 18 15 (M 17),g 19 18 (G 14 2),g 20 18 (L 19),g 21 18 (.call (f jQ) [t 20]),g 22 18 (B .neq 21 0),h 23 15 (V 18 22),o 24 (U 15 23),m 25 24,h 26 25 (G 4 3),h 27 25 (L 26),h 28 25 (M 27),g 29 28 (G 15 2),g 30 28 (L 29),g 31 28 (.call (f jQ) [t 30]),g 32 28 (B .neq 31 0),h 33 25 (V 28 32),o 34 (U 25 33)] [2,34]) (z 34 4 false)) (q (q (r [d 35 12 2,l 36 35,o 37 (E 0 36),o 38 (.mov (k 0))] [36,37,38]) (.block 0 (.loop [36,37,38] qK))) (q (r [j 4 true] [4]) .ret))))⟩
def nZ:bM:=⟨1,[.tmp 2],true,false,(q (r [j 2 false] [0]) (q (q (r [m 6 0,o 7 (E 1 6),o 8 (B .gtr 7 24)] [0,8]) (z 8 2 false)) (q (r [m 10 0,c 11 qC [t 10,s [58]],m 9 11,e 12 9 0,e 13 9 1,e 14 9 2,a 3 12,a 4 13,a 5 14] [3,4,5]) (q (r [m 15 3,c 16 qZ [t 15],m 17 16,g 18 17 (M 5),g 19 17 (N 18),g 20 17 (M 19),h 21 20 (M 4),h 22 20 (.call (f qZ) [t 21]),g 23 17 (U 20 22),o 24 (V 17 23),a 2 24] [2]) .ret))))⟩
def tJ:bM:=⟨1,[.tmp 2],true,false,(q (r [j 2 false] [0]) (q (r [m 3 0,o 4 (.bin .neq (t 3) (s [])),m 5 4,g 6 5 (M 0),g 7 5 (.idxs (t 6) (k 0)),g 8 5 (.call (f oq) [t 7]),o 9 (V 5 8),m 10 9,g 11 10 (M 0),g 12 10 (.call (f rq) [t 11]),o 13 (V 10 12),m 14 13,g 15 14 (M 0),g 16 14 (.call (f tZ) [t 15]),g 17 14 (N 16),o 18 (V 14 17),a 2 18] [2]) .ret))⟩
def uF:bM:=⟨1,[.tmp 2],true,false,(q (r [j 2 false] [0]) (q (r [m 3 0,o 4 (.bin .leq (b 97) (t 3)),m 5 4,g 6 5 (M 0),g 7 5 (.bin .leq (t 6) (b 122)),o 8 (V 5 7),m 9 8,h 10 9 (M 0),h 11 9 (.bin .leq (b 65) (t 10)),h 12 9 (M 11),g 13 12 (M 0),g 14 12 (.bin .leq (t 13) (b 90)),h 15 9 (V 12 14),o 16 (U 9 15),a 2 16] [2]) .ret))⟩
def sH:bF:=(q (r [o 9 (D .lss 8 7)] [6,7,8,9]) (q (y 9 0) (q (.block 1 (q (r [o 10 (X 1 6 8),l 11 10,a 4 11] [4,6,7,8]) (q (r [m 12 4,c 13 oq [t 12],o 14 (N 13),m 15 14,g 16 15 (M 4),g 17 15 (.bin .neq (t 16) (b 95)),o 18 (V 15 17),m 19 18,g 20 19 (M 4),g 21 19 (.bin .lss (t 20) (b 48)),g 22 19 (M 21),h 23 22 (M 4),h 24 22 (.bin .gtr (t 23) (b 57)),g 25 19 (U 22 24),o 26 (V 19 25)] [6,7,8,26]) (z 26 2 false)))) (r [o 27 (B .add 8 1),m 8 27] [6,7,8]))))
def wV:bM:=⟨1,[.tmp 2],true,false,(q (r [j 2 false] [0]) (q (q (r [m 5 0,o 6 (.s2b (t 5)),o 7 (E 0 6),o 8 (.mov (k 0))] [6,7,8]) (.block 0 (.loop [6,7,8] sH))) (q (r [j 2 true] [2]) .ret)))⟩
def vU:bM:=⟨1,[.tmp 2],true,false,(q (r [j 2 false] [0]) (q (q (r [m 3 0] [3]) (.block 0 (q (q (r [o 5 (.bin .eql (t 3) (s [97,110,100])),a 4 5] [3,4]) (.cond (t 4) .skip (q (r [o 6 (.bin .eql (t 3) (s [115,111,109,101])),a 4 6] [3,4]) (.cond (t 4) .skip (q (r [o 7 (.bin .eql (t 3) (s [105,110])),a 4 7] [3,4]) (.cond (t 4) .skip (q (r [o 8 (.bin .eql (t 3) (s [116,111])),a 4 8] [3,4]) (.cond (t 4) .skip (q (r [o 9 (.bin .eql (t 3) (s [110,111,116,104,105,110,103])),a 4 9] [3,4]) (.cond (t 4) .skip (q (r [o 10 (.bin .eql (t 3) (s wD3)),a 4 10] [3,4]) (.cond (t 4) .skip (q (r [o 11 (.bin .eql (t 3) (s [111,110,101])),a 4 11] [3,4]) (.cond (t 4) .skip (q (r [o 12 (.bin .eql (t 3) (s [111,102])),a 4 12] [3,4]) (.cond (t 4) .skip (q (r [o 13 (.bin .eql (t 3) (s [111,112,101,110])),a 4 13] [3,4]) (.cond (t 4) .skip (q (r [o 14 (.bin .eql (t 3) (s [112,114,105,118,97,116,101])),a 4 14] [3,4]) (.cond (t 4) .skip (q (r [o 15 (.bin .eql (t 3) (s [115,117,98])),a 4 15] [3,4]) (.cond (t 4) .skip (q (r [o 16 (.bin .eql (t 3) (s [115,97,109,101])),a 4 16] [3,4]) (.cond (t 4) .skip (q (r [o 17 (.bin .eql (t 3) (s [100,105,115,106,111,105,110,116])),a 4 17] [3,4]) (.cond (t 4) .skip (q (r [o 18 (.bin .eql (t 3) (s [100,111,109,97,105,110])),a 4 18] [3,4]) (.cond (t 4) .skip (q (r [o 19 (.bin .eql (t 3) (s [114,111,108,101])),a 4 19] [3,4]) (.cond (t 4) .skip (q (r [o 20 (.bin .eql (t 3) (s [99,104,97,105,110])),a 4 20] [3,4]) (.cond (t 4) .skip (q (r [o 21 (.bin .eql (t 3) (s [114,101,102,108,101,120,105,118,101])),a 4 21] [3,4]) (.cond (t 4) .skip (q (r [o 22 (.bin .eql (t 3) (s [116,121,112,101])),a 4 22] [3,4]) (.cond (t 4) .skip (q (r [o 23 (.bin .eql (t 3) (s [108,105,110,107])),a 4 23] [3,4]) (.cond (t 4) .skip (q (r [o 24 (.bin .eql (t 3) (s [115,101,108,101,99,116])),a 4 24] [3,4]) (.cond (t 4) .skip (q (r [o 25 (.bin .eql (t 3) (s [119,104,101,114,101])),a 4 25] [3,4]) (.cond (t 4) .skip (r [o 26 (.bin .eql (t 3) (s [111,114])),a 4 26] [4]))))))))))))))))))))))))))))))))))))))))))) (z 4 2 true)))) (q (r [j 2 false] [2]) .ret)))⟩
def sJ:bM:=⟨1,[.tmp 2],true,false,(q (r [i 2 0] [0]) (q (q (r [m 3 0,c 4 lI [t 3],m 5 4,h 6 5 (M 0),h 7 5 (.call (f lV) [t 6]),o 8 (U 5 7)] [8]) (u 8 (q (r [i 2 0] [2]) .ret))) (q (r [i 2 20] [2]) .ret)))⟩
def nH:bM:=⟨1,[.tmp 2],true,false,(q (r [j 2 false] [0]) (q (r [m 3 0,o 4 (E 1 3),o 5 (B .geq 4 2),m 6 5,g 7 6 (M 0),g 8 6 (E 1 7),g 9 6 (B .leq 8 24),o 10 (V 6 9),m 11 10,g 12 11 (M 0),g 13 11 (.idxs (t 12) (k 0)),g 14 11 (.bin .eql (t 13) (b 95)),o 15 (V 11 14),m 16 15,g 17 16 (M 0),g 18 16 (.call (f rq) [t 17]),o 19 (V 16 18),a 2 19] [2]) .ret))⟩
def mD:bF:=(.block 1 (q (r [n 12 5 4,c 13 nN [t 12],a 5 13] [2,5]) (q (r [m 14 5,o 15 (B .neq 14 0)] [2,5,15]) (u 15 (q (r [m 16 5,w (.store 1 (t 2) (t 16))] []) .ret)))))
def mF:bF:=(r [o 4 (.halloc [(.i .i64 0),(.s []),(.i .i64 0),(.i .i64 0),.ns]),w (.store 5 (t 4) (t 11))] [2,4])
def jW:bM:=⟨1,[.cell 2 none],true,false,(q (r [o 1 (.lbox (t 0)),o 2 (.halloc [(.i .i64 0)])] [1,2]) (q (r [o 3 (.halloc [(.i .i64 0)]),w (.store 1 (t 3) (k 0))] [1,2,3]) (q (q (r [n 6 5 1,c 7 tq [t 6,k 0,t 3],o 8 (N 7)] [1,2,8]) (u 8 (q (r [w (.store 1 (t 2) (k 21))] [2]) .ret))) (q (q (r [n 9 5 1,c 10 vW [t 9]] [2,10]) (.block 0 (.range (t 10) [11] mF mD))) (q (r [w (.store 1 (t 2) (k 0))] [2]) .ret)))))⟩
def qU:bF:=(q (r [o 26 (D .lss 25 24)] [1,2,23,24,25,26]) (q (y 26 0) (q (.block 1 (q (r [o 27 (X 5 23 25),n 28 5 27,o 8 (.lalloc [(.i .i64 0),(.s []),(.i .i64 0),(.i .i64 0),.ns]),w (.store 5 (t 8) (t 28))] [1,2,8,23,24,25]) (q (r [n 29 5 8,m 30 1,o 31 (B .add 30 1),m 32 2,c 33 tq [t 29,t 31,t 32],o 34 (N 33)] [1,2,23,24,25,34]) (z 34 6 false)))) (r [o 35 (B .add 25 1),m 25 35] [1,2,23,24,25]))))
def uh:bM:=⟨3,[.tmp 6],false,false,(q (r [o 3 (.lbox (t 0)),j 6 false] [1,2,3]) (q (r [m 9 2,o 10 (H 9),l 11 10,o 12 (B .add 11 1),o 13 (H 9),w (.store 1 (t 13) (t 12))] [1,2,3]) (q (q (r [m 14 1,o 15 (B .gtr 14 8),m 16 15,h 17 16 (M 2),h 18 16 (H 17),h 19 16 (L 18),h 20 16 (B .gtr 19 64),o 21 (U 16 20)] [1,2,3,21]) (z 21 6 false)) (q (q (r [d 22 4 3,l 23 22,o 24 (E 0 23),o 25 (.mov (k 0))] [1,2,23,24,25]) (.block 0 (.loop [1,2,23,24,25] qU))) (q (r [j 6 true] [6]) .ret)))))⟩
def zx:bM:=⟨1,[.tmp 2],true,false,(q (r [o 1 (.hbox (t 0)),o 2 (.asg (.c .nf))] [1]) (q (r [o 3 (.mkfn (.func jv) [] [t 1]),a 2 3] [2]) .ret))⟩
def tH:bM:=⟨2,[],false,false,(r [n 3 5 1,m 4 0,c 5 mJ [t 3,t 4]] [])⟩
def jP:bF:=(q (r [o 15 (D .lss 14 13)] [1,12,13,14,15]) (q (y 15 0) (q (.block 1 (q (r [o 16 (X 5 12 14),n 17 5 16,o 6 (.lalloc [(.i .i64 0),(.s []),(.i .i64 0),(.i .i64 0),.ns]),w (.store 5 (t 6) (t 17))] [1,6,12,13,14]) (q (r [n 18 5 6,m 19 1,c 20 mJ [t 18,t 19],o 21 (N 20)] [1,12,13,14,21]) (z 21 4 false)))) (r [o 22 (B .add 14 1),m 14 22] [1,12,13,14]))))
def oI:bM:=⟨2,[.tmp 4],false,false,(q (r [o 2 (.lbox (t 0)),j 4 false] [1,2]) (q (q (r [m 7 1,n 8 5 2,o 9 (.call (t 7) [t 8]),o 10 (N 9)] [1,2,10]) (z 10 4 false)) (q (q (r [d 11 4 2,l 12 11,o 13 (E 0 12),o 14 (.mov (k 0))] [1,12,13,14]) (.block 0 (.loop [1,12,13,14] jP))) (q (r [j 4 true] [4]) .ret))))⟩
def kK:bM:=⟨1,[.tmp 2],true,false,(q (r [o 1 (.lbox (t 0)),i 2 0] [1]) (q (q (r [d 4 0 1,l 5 4,o 6 (B .lss 5 1),m 7 6,h 8 7 (G 0 1),h 9 7 (L 8),h 10 7 (B .gtr 9 7),o 11 (U 7 10)] [1,11]) (u 11 (q (r [i 2 21] [2]) .ret))) (q (r [d 12 0 1,l 13 12,o 14 (.idxa 8 4 (.g Dv) (t 13)),n 15 4 14,o 3 (.lalloc [(.i .i64 0),(.i .i64 0),(.i .i64 0),(.b false)]),w (.store 4 (t 3) (t 15))] [1,3]) (q (q (r [d 16 4 1,l 17 16,o 18 (E 0 17),d 19 1 3,l 20 19,o 21 (D .lss 18 20),m 22 21,h 23 22 (G 4 1),h 24 22 (L 23),h 25 22 (E 0 24),h 26 22 (G 2 3),h 27 22 (L 26),h 28 22 (D .gtr 25 27),o 29 (U 22 28),m 30 29,h 31 30 (G 0 3),h 32 30 (L 31),h 33 30 (B .eql 32 0),h 34 30 (M 33),g 35 34 (G 1 1),g 36 34 (L 35),g 37 34 (.bin .neq (t 36) (s [])),h 38 30 (V 34 37),o 39 (U 30 38)] [1,3,39]) (u 39 (q (r [i 2 21] [2]) .ret))) (q (q (r [d 40 3 3,l 41 40] [1,3,41]) (.cond (t 41) (q (r [d 42 2 1,l 43 42,o 44 (.bin .lss (t 43) (.c (.i .i64 (-1099511627776)))),m 45 44,h 46 45 (G 2 1),h 47 45 (L 46),h 48 45 (G 3 1),h 49 45 (L 48),h 50 45 (D .gtr 47 49),o 51 (U 45 50),m 52 51,h 53 52 (G 3 1),h 54 52 (L 53),h 55 52 (B .gtr 54 1099511627776),o 56 (U 52 55)] [1,3,56]) (u 56 (q (r [i 2 21] [2]) .ret))) (q (r [d 57 2 1,l 58 57,o 59 (B .neq 58 0),m 60 59,h 61 60 (G 3 1),h 62 60 (L 61),h 63 60 (B .neq 62 0),o 64 (U 60 63)] [1,3,64]) (u 64 (q (r [i 2 21] [2]) .ret))))) (q (q (r [d 65 0 3,l 66 65,o 67 (B .eql 66 0),m 68 67,h 69 68 (G 1 1),h 70 68 (L 69),h 71 68 (.call (f lI) [t 70]),o 72 (U 68 71),m 73 72,h 74 73 (G 0 3),h 75 73 (L 74),h 76 73 (B .eql 75 2),h 77 73 (M 76),g 78 77 (G 1 1),g 79 77 (L 78),g 80 77 (.call (f lV) [t 79]),h 81 73 (V 77 80),o 82 (U 73 81)] [82]) (u 82 (q (r [i 2 0] [2]) .ret))) (q (r [i 2 20] [2]) .ret)))))))⟩
def o8:bM:=⟨1,[.tmp 2],true,false,(q (r [o 1 (.lbox (t 0)),j 2 false] [1]) (q (q (r [d 3 0 1,l 4 3] [1,4]) (.block 0 (q (r [o 6 (B .eql 4 4),a 5 6] [1,4,5]) (.cond (t 5) (q (r [j 2 true] [2]) .ret) (q (r [o 8 (B .eql 4 5),a 7 8] [1,7]) (u 7 (q (r [d 9 4 1,l 10 9,c 11 bU [t 10,f fZ],a 2 11] [2]) .ret))))))) (q (r [j 2 false] [2]) .ret)))⟩
def dJ:bM:=⟨2,[.tmp 4],false,false,(q (r [j 4 false] [0,1]) (q (r [m 5 0,m 6 1,c 7 cO [t 5,t 6],o 8 (B .geq 7 0),a 4 8] [4]) .ret))⟩
def bI:bF:=(q (r [o 9 (D .lss 8 7)] [0,1,7,8,9]) (q (y 9 0) (q (.block 1 (q (r [m 10 8,a 5 10] [0,1,5,7,8]) (q (r [m 11 1,m 12 0,m 13 5,o 14 (X 5 12 13),n 15 5 14,o 16 (.call (t 11) [t 15])] [0,1,5,7,8,16]) (u 16 (q (r [m 17 5,a 4 17] [4]) .ret))))) (r [o 18 (B .add 8 1),m 8 18] [0,1,7,8]))))
def dW:bM:=⟨2,[.tmp 4],false,false,(q (r [i 4 0] [0,1]) (q (q (r [m 6 0,o 7 (E 0 6),o 8 (.mov (k 0))] [0,1,7,8]) (.block 0 (.loop [0,1,7,8] bI))) (q (r [o 4 (.asg (.c (.i .i64 (-1))))] [4]) .ret)))⟩
def tK:bF:=(q (r [o 26 (D .lss 25 24)] [0,1,23,24,25,26]) (q (y 26 0) (q (.block 1 (q (r [o 27 (X 1 23 25),l 28 27,a 7 28] [0,1,7,23,24,25]) (q (r [m 29 7,c 30 vH [t 29],o 31 (N 30)] [0,1,23,24,25,31]) (u 31 (q (r [o 4 (.asg (.c .ns)),i 5 50] [4,5]) .ret))))) (r [o 32 (B .add 25 1),m 25 32] [0,1,23,24,25]))))
def xg:bF:=(q (r [o 56 (D .lss 55 54)] [0,1,10,53,54,55,56]) (q (y 56 2) (q (.block 3 (q (r [o 57 (X 1 53 55),l 58 57,a 12 58] [0,1,10,12,53,54,55]) (r [m 59 10,m 60 12,o 61 (.bin .add (s wC6) (t 60)),o 62 (.bin .add (t 61) (s [58,61,60])),m 63 1,o 64 (D .add 62 63),m 65 12,o 66 (D .add 64 65),o 67 (.bin .add (t 66) (s [47,62,41])),o 68 (.bsl false au 1 1 [(.s [])] [(0,t 67)]),o 69 (.app au 1 (t 59) (t 68)),a 10 69] [0,1,10,53,54,55]))) (r [o 70 (B .add 55 1),m 55 70] [0,1,10,53,54,55]))))
def wZ:bF:=(q (r [o 77 (D .lss 76 75)] [10,74,75,76,77]) (q (y 77 4) (q (.block 5 (q (r [o 78 (X 16 74 76),n 79 16 78,o 14 (.lalloc [(.i .i64 0),(.b false),(.i .i64 0),(.s []),(.i .i64 0),(.i .i64 0),.ns,(.i .i64 0),(.s []),(.i .i64 0),(.i .i64 0),.ns,.ns,(.s []),(.s []),(.s [])]),w (.store 16 (t 14) (t 79))] [10,14,74,75,76]) (r [m 80 10,n 81 16 14,c 82 jT [t 81],o 83 (.bsl false au 1 1 [(.s [])] [(0,t 82)]),o 84 (.app au 1 (t 80) (t 83)),a 10 84] [10,74,75,76]))) (r [o 85 (B .add 76 1),m 76 85] [10,74,75,76]))))
def mG:bM:=⟨2,[.tmp 4,.tmp 5],true,false,(q (r [o 4 (.asg (.c .ns)),i 5 0] [0,1]) (q (q (r [m 16 0,o 17 (E 0 16),o 18 (B .gtr 17 1024)] [0,1,18]) (u 18 (q (r [o 4 (.asg (.c .ns)),i 5 2] [4,5]) .ret))) (q (q (r [m 19 1,o 20 (E 1 19),o 21 (B .gtr 20 200)] [0,1,21]) (u 21 (q (r [o 4 (.asg (.c .ns)),i 5 50] [4,5]) .ret))) (q (q (r [m 22 1,o 23 (.s2b (t 22)),o 24 (E 0 23),o 25 (.mov (k 0))] [0,1,23,24,25]) (.block 0 (.loop [0,1,23,24,25] tK))) (q (r [m 34 0,c 35 lW [t 34],m 33 35,e 36 33 0,e 37 33 1,o 8 (.lalloc [.ns,.ns,.ns,.ns]),w (.store 4 (t 8) (t 36)),a 5 37] [0,1,5,8]) (q (q (r [m 38 5,o 39 (B .neq 38 0)] [0,1,5,8,39]) (u 39 (q (r [m 40 5,o 4 (.asg (.c .ns)),a 5 40] [4,5]) .ret))) (q (r [n 41 4 8,c 42 wR [t 41],a 9 42] [0,1,9]) (q (q (r [m 43 9,c 44 dY [t 43,s [111,119,108]],m 45 44,h 46 45 (M 9),h 47 45 (.call (f dY) [t 46,s [120,115,100]]),o 48 (U 45 47)] [0,1,9,48]) (u 48 (q (r [o 4 (.asg (.c .ns)),i 5 50] [4,5]) .ret))) (q (r [m 49 1,o 50 (.bin .add (s [80,114,101,102,105,120,40,58,61,60]) (t 49)),o 51 (.bin .add (t 50) (s [62,41])),o 52 (.bsl true au 1 3 [(.s [])] [(0,t 51),(1,s [80,114,101,102,105,120,40,111,119,108,58,61,60,104,116,116,112,58,47,47,119,119,119,46,119,51,46,111,114,103,47,50,48,48,50,47,48,55,47,111,119,108,35,62,41]),(2,s [80,114,101,102,105,120,40,120,115,100,58,61,60,104,116,116,112,58,47,47,119,119,119,46,119,51,46,111,114,103,47,50,48,48,49,47,88,77,76,83,99,104,101,109,97,35,62,41])]),a 10 52] [0,1,9,10]) (q (q (r [m 53 9,o 54 (E 0 53),o 55 (.mov (k 0))] [0,1,10,53,54,55]) (.block 2 (.loop [0,1,10,53,54,55] xg))) (q (r [m 71 10,o 72 (.bsl false au 1 1 [(.s [])] [(0,s [79,110,116,111,108,111,103,121,40])]),o 73 (.app au 1 (t 71) (t 72)),a 10 73] [0,10]) (q (q (r [m 74 0,o 75 (E 0 74),o 76 (.mov (k 0))] [10,74,75,76]) (.block 4 (.loop [10,74,75,76] wZ))) (q (r [m 86 10,o 87 (.bsl false au 1 2 [(.s [])] [(0,s [41]),(1,s [])]),o 88 (.app au 1 (t 86) (t 87)),a 10 88] [10]) (q (r [m 89 10,c 90 yI [t 89,s [10]],a 15 90] [15]) (q (q (r [m 91 15,o 92 (E 1 91),o 93 (B .gtr 92 65536)] [15,93]) (u 93 (q (r [o 4 (.asg (.c .ns)),i 5 2] [4,5]) .ret))) (q (r [m 94 15,o 95 (.s2b (t 94)),a 4 95,i 5 0] [4,5]) .ret))))))))))))))))⟩
def iH:bF:=(q (r [o 24 (D .lss 23 22)] [0,2,3,21,22,23,24]) (q (y 24 0) (q (.block 1 (q (r [o 25 (X 16 21 23),n 26 16 25,o 5 (.lalloc [(.i .i64 0),(.b false),(.i .i64 0),(.s []),(.i .i64 0),(.i .i64 0),.ns,(.i .i64 0),(.s []),(.i .i64 0),(.i .i64 0),.ns,.ns,(.s []),(.s []),(.s [])]),w (.store 16 (t 5) (t 26))] [0,2,3,5,21,22,23]) (q (r [n 27 16 5,c 28 jw [t 27],a 6 28] [0,2,3,6,21,22,23]) (q (r [m 29 6,o 30 (B .neq 29 0)] [0,2,3,6,21,22,23,30]) (u 30 (q (r [o 31 (.build [.ns,.ns,.ns,.ns] []),m 32 6,w (.store 4 (t 2) (t 31)),a 3 32] [2,3]) .ret)))))) (r [o 33 (B .add 23 1),m 23 33] [0,2,3,21,22,23]))))
def fP:bF:=(.block 7 (q (r [l 64 11,d 65 0 16,l 66 65,o 67 (.look 0 .nm true (t 64) (t 66)),m 63 67,e 68 63 0,e 69 63 1,a 17 68,a 18 69] [16,17,18]) (q (r [m 70 18] [16,17,70]) (u 70 (r [m 71 17,d 72 1 16,l 73 72,w (.hins 1 (t 71) (t 73) T)] [])))))
def nT:bF:=(r [o 16 (.halloc [(.i .i64 0),(.s []),(.i .i64 0),(.i .i64 0),.ns]),w (.store 5 (t 16) (t 62))] [11,16])
def kZ:bF:=(q (r [o 57 (D .lss 56 55)] [2,3,7,8,9,10,11,13,44,45,46,54,55,56,57]) (q (y 57 4) (q (.block 5 (q (r [o 58 (X 5 54 56),n 59 5 58,o 15 (.lalloc [(.i .i64 0),(.s []),(.i .i64 0),(.i .i64 0),.ns]),w (.store 5 (t 15) (t 59))] [2,3,7,8,9,10,11,13,15,44,45,46,54,55,56]) (q (r [n 60 5 15,c 61 vW [t 60]] [2,3,7,8,9,10,11,13,44,45,46,54,55,56,61]) (.block 6 (.range (t 61) [62] nT fP))))) (r [o 74 (B .add 56 1),m 56 74] [2,3,7,8,9,10,11,13,44,45,46,54,55,56]))))
def nR:bF:=(q (r [o 79 (D .lss 78 77)] [2,3,7,8,9,10,11,13,44,45,46,76,77,78,79]) (q (y 79 8) (q (.block 9 (q (r [o 80 (X 1 76 78),l 81 80,a 20 81] [2,3,7,8,9,10,11,13,20,44,45,46,76,77,78]) (r [m 82 8,m 83 20,w (.hins 1 (t 82) (t 83) T)] [2,3,7,8,9,10,11,13,44,45,46,76,77,78]))) (r [o 84 (B .add 78 1),m 78 84] [2,3,7,8,9,10,11,13,44,45,46,76,77,78]))))
def nS:bF:=(q (r [o 47 (D .lss 46 45)] [2,3,7,8,9,10,11,44,45,46,47]) (q (y 47 2) (q (.block 3 (q (r [o 48 (X 16 44 46),n 49 16 48,o 13 (.lalloc [(.i .i64 0),(.b false),(.i .i64 0),(.s []),(.i .i64 0),(.i .i64 0),.ns,(.i .i64 0),(.s []),(.i .i64 0),(.i .i64 0),.ns,.ns,(.s []),(.s []),(.s [])]),w (.store 16 (t 13) (t 49))] [2,3,7,8,9,10,11,13,44,45,46]) (q (q (r [d 50 2 13,n 51 5 50,d 52 7 13,n 53 5 52,o 54 (.bsl false eP 5 2 [(.i .i64 0),(.s []),(.i .i64 0),(.i .i64 0),.ns] [(0,t 51),(1,t 53)]),o 55 (E 0 54),o 56 (.mov (k 0))] [2,3,7,8,9,10,11,13,44,45,46,54,55,56]) (.block 4 (.loop [2,3,7,8,9,10,11,13,44,45,46,54,55,56] kZ))) (q (q (r [d 75 12 13,l 76 75,o 77 (E 0 76),o 78 (.mov (k 0))] [2,3,7,8,9,10,11,13,44,45,46,76,77,78]) (.block 8 (.loop [2,3,7,8,9,10,11,13,44,45,46,76,77,78] nR))) (q (r [m 85 8,d 86 13 13,l 87 86,w (.hins 1 (t 85) (t 87) T)] [2,3,7,8,9,10,11,13,44,45,46]) (q (r [m 88 10,d 89 14 13,l 90 89,w (.hins 1 (t 88) (t 90) T)] [2,3,7,8,9,10,11,13,44,45,46]) (r [m 91 10,d 92 15 13,l 93 92,w (.hins 1 (t 91) (t 93) T)] [2,3,7,8,9,10,11,44,45,46]))))))) (r [o 94 (B .add 46 1),m 46 94] [2,3,7,8,9,10,11,44,45,46]))))
def nI:bM:=⟨1,[.cell 2 (some 4),.tmp 3],true,false,(q (r [o 2 (.lalloc [.ns,.ns,.ns,.ns]),i 3 0] [0,2,3]) (q (q (r [m 21 0,o 22 (E 0 21),o 23 (.mov (k 0))] [0,2,3,21,22,23]) (.block 0 (.loop [0,2,3,21,22,23] iH))) (q (r [o 34 .hmap,o 35 .hmap,a 7 34,a 8 35] [0,2,3,7,8]) (q (r [o 36 .hmap,o 37 .hmap,a 9 36,a 10 37] [0,2,3,7,8,9,10]) (q (r [o 38 .hmap,m 39 7,w (.hins 0 (t 38) (k 3) (t 39)),m 40 8,w (.hins 0 (t 38) (k 6) (t 40)),m 41 9,w (.hins 0 (t 38) (k 7) (t 41)),m 42 10,w (.hins 0 (t 38) (k 4) (t 42)),m 43 38,o 11 (.halloc [.nm]),w (.store 1 (t 11) (t 43))] [0,2,3,7,8,9,10,11]) (q (q (r [m 44 0,o 45 (E 0 44),o 46 (.mov (k 0))] [2,3,7,8,9,10,11,44,45,46]) (.block 2 (.loop [2,3,7,8,9,10,11,44,45,46] nS))) (q (r [m 95 8,w (.hdel 1 (t 95) (s []))] [2,7,8,9,10]) (q (r [m 96 10,w (.hdel 1 (t 96) (s []))] [2,7,8,9,10]) (q (r [m 97 7,c 98 bP [t 97],c 99 jF [t 98],m 100 8,c 101 bP [t 100],c 102 jF [t 101],m 103 9,c 104 bP [t 103],c 105 jF [t 104],m 106 10,c 107 bP [t 106],c 108 jF [t 107],o 109 (.build [.ns,.ns,.ns,.ns] [(0,1,t 99),(1,1,t 102),(2,1,t 105),(3,1,t 108)]),w (.store 4 (t 2) (t 109)),i 3 0] [2,3]) .ret)))))))))⟩
def mZ:bF:=(q (r [o 20 (D .lss 19 18)] [2,17,18,19,20]) (q (y 20 0) (q (.block 1 (q (r [o 21 (X 1 17 19),l 22 21,a 4 22] [2,4,17,18,19]) (q (r [m 24 4,c 25 qC [t 24,s [58]],m 23 25,e 26 23 0,e 27 23 1,e 28 23 2,a 5 26,a 6 27,a 7 28] [2,5,7,17,18,19]) (q (r [m 29 7] [2,5,17,18,19,29]) (u 29 (r [m 30 2,m 31 5,o 32 (.bsl false au 1 1 [(.s [])] [(0,t 31)]),o 33 (.appk au 1 (t 30) (t 32)),a 2 33] [2,17,18,19])))))) (r [o 34 (B .add 19 1),m 19 34] [2,17,18,19]))))
def vg:bM:=⟨1,[.tmp 2],true,false,(q (r [o 1 (.lbox (t 0)),o 2 (.asg (.c .ns))] [1,2]) (q (q (r [d 8 0 1,l 9 8,d 10 1 1,l 11 10,d 12 2 1,l 13 12,d 14 3 1,l 15 14,o 16 (.bsl false aaX 1 4 [.ns] [(0,t 9),(1,t 11),(2,t 13),(3,t 15)]),c 17 iD [t 16],o 18 (E 0 17),o 19 (.mov (k 0))] [2,17,18,19]) (.block 0 (.loop [2,17,18,19] mZ))) (q (r [m 35 2,c 36 kT [t 35]] [2]) (q (r [m 37 2,c 38 eH [t 37],a 2 38] [2]) .ret))))⟩
def iU:bF:=(q (r [o 12 (D .lss 11 10)] [0,3,9,10,11,12]) (q (y 12 0) (q (.block 1 (q (r [o 13 (X 1 9 11),l 14 13,a 5 14] [0,3,5,9,10,11]) (q (r [m 15 3,m 16 5,o 17 (E 0 16),o 18 (D .add 15 17),a 3 18] [0,3,9,10,11]) (q (r [m 19 3,o 20 (B .lss 19 0)] [0,3,9,10,11,20]) (u 20 (r [o 21 (.mkif au (s [108,101,110,32,111,117,116,32,111,102,32,114,97,110,103,101])),w (.panic (t 21))] [0,3,9,10,11])))))) (r [o 22 (B .add 11 1),m 11 22] [0,3,9,10,11]))))
def bC:bF:=(q (r [o 28 (D .lss 27 26)] [6,25,26,27,28]) (q (y 28 2) (q (.block 3 (q (r [o 29 (X 1 25 27),l 30 29,a 8 30] [6,8,25,26,27]) (r [m 31 6,m 32 8,o 33 (.appe au 1 (t 31) (t 32)),a 6 33] [6,25,26,27]))) (r [o 34 (B .add 27 1),m 27 34] [6,25,26,27]))))
def ig:bM:=⟨1,[.tmp 2],false,false,(q (r [o 2 (.asg (.c .ns))] [0]) (q (r [i 3 0] [0,3]) (q (q (r [m 9 0,o 10 (E 0 9),o 11 (.mov (k 0))] [0,3,9,10,11]) (.block 0 (.loop [0,3,9,10,11] iU))) (q (r [m 23 3,c 24 gX [(.c .ns),t 23],a 6 24] [0,6]) (q (q (r [m 25 0,o 26 (E 0 25),o 27 (.mov (k 0))] [6,25,26,27]) (.block 2 (.loop [6,25,26,27] bC))) (q (r [m 35 6,a 2 35] [2]) .ret))))))⟩
def iM:bM:=⟨2,[.tmp 4],false,true,(q (r [o 4 (.asg (.c .ns))] [0,1]) (q (q (r [m 5 1,o 6 (B .lss 5 0)] [0,1,6]) (u 6 (r [o 7 (.mkif au (s [99,97,110,110,111,116,32,98,101,32,110,101,103,97,116,105,118,101])),w (.panic (t 7))] [0,1]))) (q (q (r [m 8 1,m 9 0,o 10 (.capn (t 9)),m 11 0,o 12 (E 0 11),o 13 (D .sub 10 12),o 14 (D .sub 8 13),a 1 14] [0,1]) (q (r [m 15 1,o 16 (B .gtr 15 0)] [0,1,16]) (u 16 (r [m 17 0,m 18 0,o 19 (.capn (t 18)),o 20 (.slc 1 (t 17) none (some (t 19))),m 21 1,o 22 (.appz au 1 [(.s [])] (t 20) (t 21)),m 23 0,o 24 (E 0 23),o 25 (.slc 1 (t 22) none (some (t 24))),a 0 25] [0])))) (q (r [m 26 0,a 4 26] [4]) .ret))))⟩
def eU:bF:=(q (q (r [m 29 5,m 30 4,o 31 (E 0 30),o 32 (D .lss 29 31)] [0,3,4,5,32]) (y 32 2)) (q (.block 3 (q (.region [m 35 4,m 36 5,o 37 (X 1 35 36),l 38 37,m 39 4,m 40 5,o 41 (B .sub 40 1),o 42 (X 1 39 41),l 43 42,o 44 (D .neq 38 43)] (some ([0,1,2,3,4,5,6,7,8,9],[])) [0,3,4,5,44]) (u 44 (q (r [m 45 0,m 46 3,m 47 4,m 48 5,o 49 (X 1 47 48),l 50 49,o 51 (X 1 45 46),w (.store 1 (t 51) (t 50))] [0,3,4,5]) (r [m 52 3,o 53 (B .add 52 1),a 3 53] [0,3,4,5]))))) (r [m 33 5,o 34 (B .add 33 1),a 5 34] [0,3,4,5])))
def eX:bF:=(q (q (r [m 10 3,m 11 0,o 12 (E 0 11),o 13 (D .lss 10 12)] [0,3,13]) (y 13 0)) (q (.block 1 (q (.region [m 16 0,m 17 3,o 18 (X 1 16 17),l 19 18,m 20 0,m 21 3,o 22 (B .sub 21 1),o 23 (X 1 20 22),l 24 23,o 25 (D .eql 19 24)] (some ([0,1,2,3,4,5,6,7,8,9],[])) [0,3,25]) (u 25 (q (r [m 26 0,m 27 3,o 28 (.slc 1 (t 26) (some (t 27)) none),a 4 28] [0,3,4]) (q (q (r [i 5 1] [0,3,4,5]) (.block 2 (.loop [0,3,4,5] eU))) (q (r [m 54 0,m 55 3,o 56 (.slc 1 (t 54) (some (t 55)) none),w (.clrk [(.s [])] (t 56))] [0,3]) (q (r [m 57 0,m 58 3,o 59 (.slc 1 (t 57) none (some (t 58))),a 2 59] [2]) .ret))))))) (r [m 14 3,o 15 (B .add 14 1),a 3 15] [0,3])))
def bJ:bM:=⟨1,[.tmp 2],false,true,(q (r [o 2 (.asg (.c .ns))] [0]) (q (q (r [m 6 0,o 7 (E 0 6),o 8 (B .lss 7 2)] [0,8]) (u 8 (q (r [m 9 0,a 2 9] [2]) .ret))) (q (q (r [i 3 1] [0,3]) (.block 0 (.loop [0,3] eX))) (q (r [m 60 0,a 2 60] [2]) .ret))))⟩
def fU:bM:=⟨2,[.tmp 4],true,false,(q (r [j 4 false] [0,1]) (q (r [m 5 0,m 6 1,c 7 iR [t 5,t 6],o 8 (B .geq 7 0),a 4 8] [4]) .ret))⟩
def fQ:bF:=(q (r [o 9 (D .lss 8 7)] [0,1,7,8,9]) (q (y 9 0) (q (.block 1 (q (r [m 10 8,a 5 10] [0,1,5,7,8]) (q (r [m 11 1,m 12 0,m 13 5,o 14 (X 1 12 13),l 15 14,o 16 (D .eql 11 15)] [0,1,5,7,8,16]) (u 16 (q (r [m 17 5,a 4 17] [4]) .ret))))) (r [o 18 (B .add 8 1),m 8 18] [0,1,7,8]))))
def fB:bM:=⟨2,[.tmp 4],true,false,(q (r [i 4 0] [0,1]) (q (q (r [m 6 0,o 7 (E 0 6),o 8 (.mov (k 0))] [0,1,7,8]) (.block 0 (.loop [0,1,7,8] fQ))) (q (r [o 4 (.asg (.c (.i .i64 (-1))))] [4]) .ret)))⟩
def wY:bF:=(q (r [o 78 (D .lss 77 76)] [1,4,5,75,76,77,78]) (q (y 78 1) (q (.block 2 (q (r [o 79 (X 1 75 77),l 80 79,a 7 80] [1,4,5,7,75,76,77]) (r [m 81 5,m 82 7,c 83 jb [t 82],o 84 (.bsl false au 1 1 [(.s [])] [(0,t 83)]),o 85 (.app au 1 (t 81) (t 84)),a 5 85] [1,4,5,75,76,77]))) (r [o 86 (B .add 77 1),m 77 86] [1,4,5,75,76,77]))))
def dK:bM:=⟨1,[.tmp 2],true,false,(q (r [o 1 (.lbox (t 0)),o 2 (.asg (s []))] [1]) (q (r [o 3 (.asg (s []))] [1,3]) (q (r [o 4 (.nbuf au 1)] [1,3,4]) (q (q (r [d 8 1 1,l 9 8] [1,3,4,9]) (u 9 (r [m 10 4,o 11 (.bsl false au 1 1 [(.s [])] [(0,s wD2)]),o 12 (.app au 1 (t 10) (t 11)),a 4 12] [1,3,4]))) (q (q (r [d 13 0 1,l 14 13] [1,3,4,14]) (.block 0 (q (r [o 16 (B .eql 14 1),a 15 16] [1,3,4,14,15]) (.cond (t 15) (.region [m 17 4,d 18 2 1,n 19 5 18,c 20 fD [t 19],d 21 7 1,n 22 5 21,c 23 fD [t 22],o 24 (.bsl false au 1 2 [(.s [])] [(0,t 20),(1,t 23)]),o 25 (.app au 1 (t 17) (t 24)),o 3 (.asg (s wC3)),a 4 25] (some ([0,1,2,3,4,5,6,7,8,9,10],[])) [3,4]) (q (r [o 27 (B .eql 14 2),a 26 27] [1,3,4,14,26]) (.cond (t 26) (.region [m 28 4,d 29 2 1,n 30 5 29,c 31 fD [t 30],d 32 7 1,n 33 5 32,c 34 fD [t 33],o 35 (.bsl false au 1 2 [(.s [])] [(0,t 31),(1,t 34)]),o 36 (.app au 1 (t 28) (t 35)),o 3 (.asg (s wB3)),a 4 36] (some ([0,1,2,3,4,5,6,7,8,9,10],[])) [3,4]) (q (r [o 38 (B .eql 14 3),a 37 38] [1,3,4,14,37]) (.cond (t 37) (.region [m 39 4,d 40 2 1,n 41 5 40,c 42 fD [t 41],d 43 7 1,n 44 5 43,c 45 fD [t 44],o 46 (.bsl false au 1 2 [(.s [])] [(0,t 42),(1,t 45)]),o 47 (.app au 1 (t 39) (t 46)),o 3 (.asg (s wB6)),a 4 47] (some ([0,1,2,3,4,5,6,7,8,9,10],[])) [3,4]) (q (r [o 49 (B .eql 14 4),a 48 49] [1,3,4,14,48]) (.cond (t 48) (.region [m 50 4,d 51 13 1,l 52 51,c 53 jb [t 52],d 54 7 1,n 55 5 54,c 56 fD [t 55],o 57 (.bsl false au 1 2 [(.s [])] [(0,t 53),(1,t 56)]),o 58 (.app au 1 (t 50) (t 57)),o 3 (.asg (s wB2)),a 4 58] (some ([0,1,2,3,4,5,6,7,8,9,10],[])) [3,4]) (q (r [o 60 (B .eql 14 5),a 59 60] [1,3,4,14,59]) (.cond (t 59) (.region [m 61 4,d 62 12 1,l 63 62,o 64 (.idx 1 (t 63) (k 0)),l 65 64,c 66 jb [t 65],d 67 13 1,l 68 67,c 69 jb [t 68],o 70 (.bsl false au 1 2 [(.s [])] [(0,t 66),(1,t 69)]),o 71 (.app au 1 (t 61) (t 70)),o 3 (.asg (s wA4)),a 4 71] (some ([0,1,2,3,4,5,6,7,8,9,10,11,12],[])) [3,4]) (q (r [o 73 (B .eql 14 6),a 72 73] [1,3,4,14,72]) (.cond (t 72) (q (r [o 5 (.nbuf au 1)] [1,4,5]) (q (q (r [d 74 12 1,l 75 74,o 76 (E 0 75),o 77 (.mov (k 0))] [1,4,5,75,76,77]) (.block 1 (.loop [1,4,5,75,76,77] wY))) (.region [m 87 4,m 88 5,c 89 oP [s wA2,t 88],d 90 13 1,l 91 90,c 92 jb [t 91],o 93 (.bsl false au 1 2 [(.s [])] [(0,t 89),(1,t 92)]),o 94 (.app au 1 (t 87) (t 93)),o 3 (.asg (s wA4)),a 4 94] (some ([0,1,2,3,4,5,6,7,8,9],[5])) [3,4]))) (q (r [o 96 (B .eql 14 7),a 95 96] [1,3,4,14,95]) (.cond (t 95) (r [m 97 4,d 98 13 1,l 99 98,c 100 jb [t 99],o 101 (.bsl false au 1 1 [(.s [])] [(0,t 100)]),o 102 (.app au 1 (t 97) (t 101)),o 3 (.asg (s wA9)),a 4 102] [3,4]) (q (r [o 104 (B .eql 14 8),a 103 104] [1,3,4,14,103]) (.cond (t 103) (.region [m 105 4,d 106 7 1,n 107 5 106,c 108 fD [t 107],d 109 14 1,l 110 109,c 111 jb [t 110],o 112 (.bsl false au 1 2 [(.s [])] [(0,t 108),(1,t 111)]),o 113 (.app au 1 (t 105) (t 112)),o 3 (.asg (s wB9)),a 4 113] (some ([0,1,2,3,4,5,6,7,8,9,10],[])) [3,4]) (q (r [o 115 (B .eql 14 9),a 114 115] [1,3,4,114]) (u 114 (.region [m 116 4,d 117 13 1,l 118 117,c 119 jb [t 118],d 120 14 1,l 121 120,c 122 jb [t 121],d 123 15 1,l 124 123,c 125 jb [t 124],o 126 (.bsl false au 1 3 [(.s [])] [(0,t 119),(1,t 122),(2,t 125)]),o 127 (.app au 1 (t 116) (t 126)),o 3 (.asg (s wB0)),a 4 127] (some ([0,1,2,3,4,5,6,7,8,9,10,11,12,13],[])) [3,4]))))))))))))))))))))) (q (r [m 128 3,m 129 4,c 130 oP [t 128,t 129],a 2 130] [2]) .ret))))))⟩
def uJ:bF:=(q (r [o 26 (D .lss 25 24)] [3,23,24,25,26]) (q (y 26 1) (q (.block 2 (q (r [o 27 (X 5 23 25),n 28 5 27,o 5 (.lalloc [(.i .i64 0),(.s []),(.i .i64 0),(.i .i64 0),.ns]),w (.store 5 (t 5) (t 28))] [3,5,23,24,25]) (r [m 29 3,n 30 5 5,c 31 fD [t 30],o 32 (.bsl false au 1 1 [(.s [])] [(0,t 31)]),o 33 (.app au 1 (t 29) (t 32)),a 3 33] [3,23,24,25]))) (r [o 34 (B .add 25 1),m 25 34] [3,23,24,25]))))
def kz:bM:=⟨1,[.tmp 2],true,false,(q (r [o 1 (.lbox (t 0)),o 2 (.asg (s []))] [1]) (q (q (r [d 7 0 1,l 8 7] [1,8]) (.block 0 (q (r [o 10 (B .eql 8 1),a 9 10] [1,8,9]) (.cond (t 9) (q (r [o 2 (.asg (s wB4))] [2]) .ret) (q (r [o 12 (B .eql 8 2),a 11 12] [1,8,11]) (.cond (t 11) (q (r [o 2 (.asg (s wB1))] [2]) .ret) (q (r [o 14 (B .eql 8 4),a 13 14] [1,8,13]) (.cond (t 13) (q (r [d 15 1 1,l 16 15,c 17 jb [t 16],o 18 (.bsl false au 1 1 [(.s [])] [(0,t 17)]),c 19 oP [s wB8,t 18],a 2 19] [2]) .ret) (q (r [o 21 (B .eql 8 5),a 20 21] [1,8,20]) (.cond (t 20) (q (r [o 3 (.nbuf au 1)] [1,3]) (q (q (r [d 22 4 1,l 23 22,o 24 (E 0 23),o 25 (.mov (k 0))] [3,23,24,25]) (.block 1 (.loop [3,23,24,25] uJ))) (q (r [m 35 3,c 36 oP [s wA6,t 35],a 2 36] [2]) .ret))) (q (r [o 38 (B .eql 8 6),a 37 38] [1,8,37]) (.cond (t 37) (q (.region [d 39 1 1,l 40 39,c 41 jb [t 40],d 42 4 1,l 43 42,o 44 (.idx 5 (t 43) (k 0)),n 45 5 44,c 46 fD [t 45],o 47 (.bsl false au 1 2 [(.s [])] [(0,t 41),(1,t 46)]),c 48 oP [s wA7,t 47],a 2 48] (some ([0,1,2,3,4,5,6,7,8,9,10],[])) [2]) .ret) (q (r [o 50 (B .eql 8 7),a 49 50] [1,49]) (u 49 (q (.region [d 51 2 1,l 52 51,c 53 xQ [s wA0,t 52],d 54 3 1,l 55 54,c 56 xQ [s wA3,t 55],o 57 (.bsl false au 1 3 [(.s [])] [(0,s wA1),(1,t 53),(2,t 56)]),c 58 oP [s wA5,t 57],a 6 58] (some ([0,1,2,3,4,5,6,7,8],[])) [1,6]) (q (r [d 59 1 1,l 60 59,c 61 jb [t 60],m 62 6,o 63 (.bsl false au 1 2 [(.s [])] [(0,t 61),(1,t 62)]),c 64 oP [s wA8,t 63],a 2 64] [2]) .ret)))))))))))))))) (q (r [d 65 1 1,l 66 65,c 67 jb [t 66],a 2 67] [2]) .ret)))⟩
def CJ:bM:=⟨1,[.tmp 2],true,false,(q (r [o 2 (.asg (s []))] [0]) (q (q (r [m 3 0,c 4 lX [t 3,s [58]]] [0,4]) (u 4 (q (r [m 5 0,a 2 5] [2]) .ret))) (q (r [m 6 0,o 7 (.bin .add (s [58]) (t 6)),a 2 7] [2]) .ret)))⟩
def CP:bM:=⟨2,[.tmp 4],true,false,(q (r [o 4 (.asg (s []))] [0,1]) (q (r [m 5 0,o 6 (.bin .add (t 5) (s [40])),m 7 1,c 8 yI [t 7,s [32]],o 9 (D .add 6 8),o 10 (.bin .add (t 9) (s [41])),a 4 10] [4]) .ret))⟩
def AA:bM:=⟨2,[.tmp 4],true,false,(q (r [o 4 (.asg (s []))] [0,1]) (q (r [m 5 0,o 6 (.bin .add (t 5) (s [32,34])),m 7 1,c 8 BK [t 7],o 9 (D .add 6 8),o 10 (.bin .add (t 9) (s [34,94,94,120,115,100,58,105,110,116,101,103,101,114])),a 4 10] [4]) .ret))⟩
def lM:bF:=(q (q (r [m 10 5,m 11 0,o 12 (E 0 11),o 13 (D .lss 10 12)] [0,5,13]) (y 13 0)) (q (.block 1 (q (r [m 16 0,m 17 5,o 18 (X 16 16 17),n 19 16 18,c 20 rE [t 19],o 21 (N 20)] [0,5,21]) (z 21 4 false))) (r [m 14 5,o 15 (B .add 14 1),a 5 15] [0,5])))
def oJ:bM:=⟨2,[.tmp 4],true,false,(q (r [j 4 false] [0,1]) (q (q (r [m 6 0,o 7 (E 0 6),m 8 1,o 9 (D .gtr 7 8)] [0,9]) (z 9 4 false)) (q (q (r [i 5 0] [0,5]) (.block 0 (.loop [0,5] lM))) (q (r [j 4 true] [4]) .ret))))⟩
def mO:bF:=(q (q (r [m 21 4,d 22 12 1,l 23 22,o 24 (E 0 23),o 25 (D .lss 21 24),m 26 25,g 27 26 (M 4),g 28 26 (B .lss 27 100),o 29 (V 26 28)] [1,3,4,29]) (y 29 0)) (q (.block 1 (r [m 32 3,d 33 12 1,l 34 33,m 35 4,o 36 (X 1 34 35),l 37 36,o 38 (E 1 37),o 39 (D .add 32 38),a 3 39] [1,3,4])) (r [m 30 4,o 31 (B .add 30 1),a 4 31] [1,3,4])))
def uH:bM:=⟨1,[.tmp 2],true,false,(q (r [o 1 (.lbox (t 0)),j 2 false] [1]) (q (r [d 5 13 1,l 6 5,o 7 (E 1 6),d 8 14 1,l 9 8,o 10 (E 1 9),o 11 (D .add 7 10),d 12 15 1,l 13 12,o 14 (E 1 13),o 15 (D .add 11 14),d 16 12 1,l 17 16,o 18 (E 0 17),o 19 (.bin .mul (k 10) (t 18)),o 20 (D .add 15 19),a 3 20] [1,3]) (q (q (r [i 4 0] [1,3,4]) (.block 0 (.loop [1,3,4] mO))) (q (r [m 40 3,o 41 (B .leq 40 600),m 42 41,g 43 42 (G 2 1),g 44 42 (.load (some 5) (t 43)),g 45 42 (.call (f xP) [t 44]),o 46 (V 42 45),m 47 46,g 48 47 (G 7 1),g 49 47 (.load (some 5) (t 48)),g 50 47 (.call (f xP) [t 49]),o 51 (V 47 50),a 2 51] [2]) .ret))))⟩
def Az:bM:=⟨1,[.tmp 2],true,false,(q (r [o 1 (.lbox (t 0)),j 2 false] [1]) (q (r [n 3 5 1,c 4 qE [t 3,k 40,k 150],o 5 (B .leq 4 150),a 2 5] [2]) .ret))⟩
def pR:bF:=(q (q (r [m 18 8,d 19 4 3,l 20 19,o 21 (E 0 20),o 22 (D .lss 18 21),m 23 22,g 24 23 (M 7),g 25 23 (M 2),g 26 23 (D .leq 24 25),o 27 (V 23 26)] [1,2,3,7,8,27]) (y 27 0)) (q (.block 1 (r [m 30 7,d 31 4 3,l 32 31,m 33 8,o 34 (X 5 32 33),n 35 5 34,m 36 1,o 37 (B .sub 36 1),m 38 2,m 39 7,o 40 (D .sub 38 39),c 41 qE [t 35,t 37,t 40],o 42 (D .add 30 41),a 7 42] [1,2,3,7,8])) (r [m 28 8,o 29 (B .add 28 1),a 8 29] [1,2,3,7,8])))
def uY:bM:=⟨3,[.tmp 6],true,false,(q (r [o 3 (.lbox (t 0)),i 6 0] [1,2,3]) (q (q (r [m 9 1,o 10 (B .leq 9 0)] [1,2,3,10]) (u 10 (q (r [m 11 2,o 12 (B .add 11 1),a 6 12] [6]) .ret))) (q (r [d 13 1 3,l 14 13,o 15 (E 1 14),o 16 (B .quo 15 40),o 17 (.bin .add (k 1) (t 16)),a 7 17] [1,2,3,7]) (q (q (r [i 8 0] [1,2,3,7,8]) (.block 0 (.loop [1,2,3,7,8] pR))) (q (r [m 43 7,a 6 43] [6]) .ret)))))⟩
def nU:bF:=(q (q (r [m 11 5,m 12 0,o 13 (E 0 12),o 14 (D .lss 11 13)] [0,1,5,14]) (y 14 0)) (q (.block 1 (q (.region [m 17 0,m 18 5,o 19 (X 16 17 18),n 20 16 19,m 21 1,m 22 5,o 23 (X 16 21 22),n 24 16 23,c 25 pX [t 20,t 24],o 26 (N 25)] (some ([0,1,2,3,4,5,6,7,8,9],[])) [0,1,5,26]) (z 26 4 false))) (r [m 15 5,o 16 (B .add 15 1),a 5 16] [0,1,5])))
def qL:bM:=⟨2,[.tmp 4],true,false,(q (r [j 4 false] [0,1]) (q (q (r [m 6 0,o 7 (E 0 6),m 8 1,o 9 (E 0 8),o 10 (D .neq 7 9)] [0,1,10]) (z 10 4 false)) (q (q (r [i 5 0] [0,1,5]) (.block 0 (.loop [0,1,5] nU))) (q (r [j 4 true] [4]) .ret))))⟩
def sK:bM:=⟨2,[.tmp 4],true,false,(q (r [o 2 (.lbox (t 0)),o 3 (.lbox (t 1)),j 4 false] [2,3]) (q (r [d 5 1 2,l 6 5,d 7 1 3,l 8 7,o 9 (.beq false (t 6) (t 8)),m 10 9,g 11 10 (G 0 2),g 12 10 (L 11),g 13 10 (G 0 3),g 14 10 (L 13),g 15 10 (D .eql 12 14),o 16 (V 10 15),m 17 16,g 18 17 (G 2 2),g 19 17 (.load (some 5) (t 18)),g 20 17 (G 2 3),g 21 17 (.load (some 5) (t 20)),g 22 17 (.call (f pY) [t 19,t 21]),o 23 (V 17 22),m 24 23,g 25 24 (G 7 2),g 26 24 (.load (some 5) (t 25)),g 27 24 (G 7 3),g 28 24 (.load (some 5) (t 27)),g 29 24 (.call (f pY) [t 26,t 28]),o 30 (V 24 29),m 31 30,g 32 31 (G 12 2),g 33 31 (L 32),g 34 31 (G 12 3),g 35 31 (L 34),g 36 31 (.call (f rD) [t 33,t 35]),o 37 (V 31 36),m 38 37,g 39 38 (G 13 2),g 40 38 (L 39),g 41 38 (G 13 3),g 42 38 (L 41),g 43 38 (D .eql 40 42),o 44 (V 38 43),m 45 44,g 46 45 (G 14 2),g 47 45 (L 46),g 48 45 (G 14 3),g 49 45 (L 48),g 50 45 (D .eql 47 49),o 51 (V 45 50),m 52 51,g 53 52 (G 15 2),g 54 52 (L 53),g 55 52 (G 15 3),g 56 52 (L 55),g 57 52 (D .eql 54 56),o 58 (V 52 57),a 4 58] [4]) .ret))⟩
def vS:bF:=(q (q (r [m 41 5,d 42 4 2,l 43 42,o 44 (E 0 43),o 45 (D .lss 41 44)] [2,3,5,45]) (y 45 0)) (q (.block 1 (q (.region [d 48 4 2,l 49 48,m 50 5,o 51 (X 5 49 50),n 52 5 51,d 53 4 3,l 54 53,m 55 5,o 56 (X 5 54 55),n 57 5 56,c 58 pY [t 52,t 57],o 59 (N 58)] (some ([0,1,2,3,4,5,6,7,8,9,10,11],[])) [2,3,5,59]) (z 59 4 false))) (r [m 46 5,o 47 (B .add 46 1),a 5 47] [2,3,5])))
def zy:bM:=⟨2,[.tmp 4],true,false,(q (r [o 2 (.lbox (t 0)),o 3 (.lbox (t 1)),j 4 false] [2,3]) (q (q (r [d 6 0 2,l 7 6,d 8 0 3,l 9 8,o 10 (D .neq 7 9),m 11 10,h 12 11 (G 1 2),h 13 11 (L 12),h 14 11 (G 1 3),h 15 11 (L 14),h 16 11 (D .neq 13 15),o 17 (U 11 16),m 18 17,h 19 18 (G 2 2),h 20 18 (L 19),h 21 18 (G 2 3),h 22 18 (L 21),h 23 18 (D .neq 20 22),o 24 (U 18 23),m 25 24,h 26 25 (G 3 2),h 27 25 (L 26),h 28 25 (G 3 3),h 29 25 (L 28),h 30 25 (D .neq 27 29),o 31 (U 25 30),m 32 31,h 33 32 (G 4 2),h 34 32 (L 33),h 35 32 (E 0 34),h 36 32 (G 4 3),h 37 32 (L 36),h 38 32 (E 0 37),h 39 32 (D .neq 35 38),o 40 (U 32 39)] [2,3,40]) (z 40 4 false)) (q (q (r [i 5 0] [2,3,5]) (.block 0 (.loop [2,3,5] vS))) (q (r [j 4 true] [4]) .ret))))⟩
def pU:bF:=(q (q (r [m 11 5,m 12 0,o 13 (E 0 12),o 14 (D .lss 11 13)] [0,1,5,14]) (y 14 0)) (q (.block 1 (q (.region [m 17 0,m 18 5,o 19 (X 1 17 18),l 20 19,m 21 1,m 22 5,o 23 (X 1 21 22),l 24 23,o 25 (D .neq 20 24)] (some ([0,1,2,3,4,5,6,7,8],[])) [0,1,5,25]) (z 25 4 false))) (r [m 15 5,o 16 (B .add 15 1),a 5 16] [0,1,5])))
def uG:bM:=⟨2,[.tmp 4],true,false,(q (r [j 4 false] [0,1]) (q (q (r [m 6 0,o 7 (E 0 6),m 8 1,o 9 (E 0 8),o 10 (D .neq 7 9)] [0,1,10]) (z 10 4 false)) (q (q (r [i 5 0] [0,1,5]) (.block 0 (.loop [0,1,5] pU))) (q (r [j 4 true] [4]) .ret))))⟩
end
def Tv:List (Nat×bM):=
 [(yK,nD),
  (yJ,Je),
  (tY,vT),
  (gV,aA),
  (bK,qV),
  (aP,kG),
  (qf,oK),
  (xH,CG),
  (lG,pW),
  (wP,iO),
  (rH,o9),
  (vH,nV),
  (rG,nC),
  (vX,jZ),
  (rF,wX),
  (bV,lT),
  (aN,sO),
  (aH,lS),
  (aQ,dQ),
  (qC,uX),
  (jy,jg),
  (lX,nJ),
  (pF,vP),
  (kP,oQ),
  (fG,dH),
  (gm,fE),
  (lY,lg),
  (dS,nK),
  (aV,dP),
  (iq,iV),
  (iK,kL),
  (ja,jD),
  (jL,jq),
  (lC,dF),
  (qj,oL),
  (iJ,jh),
  (jK,jl),
  (lD,jo),
  (kQ,pV),
  (gU,dX),
  (iY,mP),
  (kR,lm),
  (jR,jm),
  (iE,iZ),
  (jS,aT),
  (lZ,dh),
  (wQ,iP),
  (lQ,aY),
  (nO,ay),
  (qg,dG),
  (jw,lF),
  (rC,mX),
  (pz,vO),
  (tX,qR),
  (lI,nZ),
  (qZ,tJ),
  (oq,uF),
  (rq,wV),
  (tZ,vU),
  (jQ,sJ),
  (lV,nH),
  (kN,jW),
  (tq,uh),
  (vW,zx),
  (jv,tH),
  (mJ,oI),
  (nN,kK),
  (fZ,o8),
  (bU,dJ),
  (cO,dW),
  (xR,mG),
  (lW,nI),
  (wR,vg),
  (iD,ig),
  (gX,iM),
  (eH,bJ),
  (dY,fU),
  (iR,fB),
  (jT,dK),
  (fD,kz),
  (jb,CJ),
  (oP,CP),
  (xQ,AA),
  (qc,oJ),
  (rE,uH),
  (xP,Az),
  (qE,uY),
  (oO,qL),
  (pX,sK),
  (pY,zy),
  (rD,uG)]
def MC:List (Nat×List AV):=
 [(Dv,[.i .i64 0,.i .i64 0,.i .i64 0,.b false,.i .i64 0,.i .i64 0,.i .i64 0,.b false,.i .i64 0,.i .i64 0,.i .i64 0,.b false,.i .i64 1,.i .i64 0,.i .i64 0,.b false,.i .i64 2,.i .i64 0,.i .i64 0,.b false,.i .i64 0,.i .i64 2,.i .i64 8,.b false,.i .i64 1,.i .i64 1,.i .i64 1,.b false,.i .i64 1,.i .i64 0,.i .i64 0,.b true]),
(yH,[.b false,.b false,.b false,.b false,.b false,.i .i64 0,.i .i64 0,
   .b true,.b true,.b false,.b false,.b false,.i .i64 0,.i .i64 0,
   .b true,.b true,.b false,.b false,.b false,.i .i64 0,.i .i64 0,
   .b true,.b true,.b false,.b false,.b false,.i .i64 0,.i .i64 0,
   .b false,.b true,.b true,.b false,.b false,.i .i64 0,.i .i64 0,
   .b false,.b false,.b true,.b false,.b false,.i .i64 1,.i .i64 1,
   .b false,.b false,.b true,.b false,.b false,.i .i64 2,.i .i64 4,
   .b false,.b false,.b true,.b false,.b false,.i .i64 0,.i .i64 0,
   .b false,.b true,.b false,.b true,.b false,.i .i64 0,.i .i64 0,
   .b false,.b false,.b true,.b true,.b true,.i .i64 0,.i .i64 0]),
(zn,[.i .u64 1,.i .u64 10,.i .u64 100,.i .u64 1000,.i .u64 10000,.i .u64 100000,.i .u64 1000000,.i .u64 10000000,.i .u64 100000000,.i .u64 1000000000,.i .u64 10000000000,.i .u64 100000000000,.i .u64 1000000000000,.i .u64 10000000000000,.i .u64 100000000000000,.i .u64 1000000000000000,.i .u64 10000000000000000,.i .u64 100000000000000000,.i .u64 1000000000000000000,.i .u64 10000000000000000000])]
def GL:List (Nat×(List AV→St→Option AV)):=
 [(yI,I9 YG),(BK,I9 YH),(kD,I9 Xc),(BL,I9 YI),(bP,YF 91),(jF,Ic [91])]
def SX:List (Nat×HiK):=
 [(kT,.sortS)]
def acW:List (Nat×(List AV→St→Option AV)):=
 []
def vV:AV→Option (List (List AV)):=fun | .ifc t (.ag [.i .i64 a,.i .i64 c])=>if t=rV then some [[.ns],[.s []],[.i .i64 a],[.i .i64 c]] else none | _=>none
def sG:Hz:=zN vV
def MO:List (Nat×Hz):=
 [(mg,sG)]
def P0:vJ:=⟨fun f=>Tv.lookup f,fun k=>MC.lookup k,fun f=>GL.lookup f,fun f=>SX.lookup f,fun f=>acW.lookup f,fun f=>MO.lookup f⟩
theorem go {f:Nat} {fn:bM} (hi:GL.lookup f=none) (hh:SX.lookup f=none) (hd:MO.lookup f=none) (hf:Tv.lookup f=some fn) {as cs args:List AV} {s:St} {cx:Ctx} {o:CO} (ho:o≠.fail)
  (h:af P0.glob (aj P0) fn (as++args++cs) s cx=o):aj P0 (.fn (.func f) as cs) args s cx=o:=V7 hi hh hd hf ho h
def Go1 (A:vJ) (f:Nat) (fn:bM):Prop:=∀{as cs args:List AV} {s:St} {cx:Ctx} {o:CO},o≠.fail→af A.glob (aj A) fn (as++args++cs) s cx=o→aj A (.fn (.func f) as cs) args s cx=o
theorem go1 {f:Nat} {fn:bM} (hi:GL.lookup f=none) (hh:SX.lookup f=none) (hd:MO.lookup f=none) (hf:Tv.lookup f=some fn):Go1 P0 f fn:=fun ho h=>go hi hh hd hf ho h
theorem Ql:Go1 P0 yK nD:=go1 rfl rfl rfl rfl
theorem Oc:Go1 P0 tY vT:=go1 rfl rfl rfl rfl
theorem BO:Go1 P0 gV aA:=go1 rfl rfl rfl rfl
theorem Ob:Go1 P0 bK qV:=go1 rfl rfl rfl rfl
theorem J5:Go1 P0 aP kG:=go1 rfl rfl rfl rfl
theorem J3:Go1 P0 qf oK:=go1 rfl rfl rfl rfl
theorem YN:Go1 P0 xH CG:=go1 rfl rfl rfl rfl
theorem GY:Go1 P0 lG pW:=go1 rfl rfl rfl rfl
theorem Ti:Go1 P0 wP iO:=go1 rfl rfl rfl rfl
theorem Qk:Go1 P0 rH o9:=go1 rfl rfl rfl rfl
theorem Xe:Go1 P0 vH nV:=go1 rfl rfl rfl rfl
theorem Qj:Go1 P0 rG nC:=go1 rfl rfl rfl rfl
theorem UJ:Go1 P0 vX jZ:=go1 rfl rfl rfl rfl
theorem Qi:Go1 P0 rF wX:=go1 rfl rfl rfl rfl
theorem J9:Go1 P0 bV lT:=go1 rfl rfl rfl rfl
theorem J6:Go1 P0 aN sO:=go1 rfl rfl rfl rfl
theorem JY:Go1 P0 aH lS:=go1 rfl rfl rfl rfl
theorem J7:Go1 P0 aQ dQ:=go1 rfl rfl rfl rfl
theorem Tf:Go1 P0 qC uX:=go1 rfl rfl rfl rfl
theorem AB:Go1 P0 jy jg:=go1 rfl rfl rfl rfl
theorem IC:Go1 P0 lX nJ:=go1 rfl rfl rfl rfl
theorem Oa:Go1 P0 pF vP:=go1 rfl rfl rfl rfl
theorem FV:Go1 P0 kP oQ:=go1 rfl rfl rfl rfl
theorem xA:Go1 P0 fG dH:=go1 rfl rfl rfl rfl
theorem xZ:Go1 P0 gm fE:=go1 rfl rfl rfl rfl
theorem Me:Go1 P0 lY lg:=go1 rfl rfl rfl rfl
theorem IG:Go1 P0 dS nK:=go1 rfl rfl rfl rfl
theorem FX:Go1 P0 aV dP:=go1 rfl rfl rfl rfl
theorem Dt:Go1 P0 iq iV:=go1 rfl rfl rfl rfl
theorem Ee:Go1 P0 iK kL:=go1 rfl rfl rfl rfl
theorem EU:Go1 P0 ja jD:=go1 rfl rfl rfl rfl
theorem G5:Go1 P0 jL jq:=go1 rfl rfl rfl rfl
theorem J4:Go1 P0 lC dF:=go1 rfl rfl rfl rfl
theorem Kq:Go1 P0 qj oL:=go1 rfl rfl rfl rfl
theorem Ed:Go1 P0 iJ jh:=go1 rfl rfl rfl rfl
theorem GX:Go1 P0 jK jl:=go1 rfl rfl rfl rfl
theorem J8:Go1 P0 lD jo:=go1 rfl rfl rfl rfl
theorem Md:Go1 P0 kQ pV:=go1 rfl rfl rfl rfl
theorem II:Go1 P0 gU dX:=go1 rfl rfl rfl rfl
theorem G6:Go1 P0 iY mP:=go1 rfl rfl rfl rfl
theorem MB:Go1 P0 kR lm:=go1 rfl rfl rfl rfl
theorem JZ:Go1 P0 jR jm:=go1 rfl rfl rfl rfl
theorem FW:Go1 P0 iE iZ:=go1 rfl rfl rfl rfl
theorem Ko:Go1 P0 jS aT:=go1 rfl rfl rfl rfl
theorem IJ:Go1 P0 lZ dh:=go1 rfl rfl rfl rfl
theorem Tj:Go1 P0 wQ iP:=go1 rfl rfl rfl rfl
theorem eu:Go1 P0 lQ aY:=go1 rfl rfl rfl rfl
theorem GZ:Go1 P0 nO ay:=go1 rfl rfl rfl rfl
theorem gK:Go1 P0 qg dG:=go1 rfl rfl rfl rfl
theorem IB:Go1 P0 jw lF:=go1 rfl rfl rfl rfl
theorem L6:Go1 P0 rC mX:=go1 rfl rfl rfl rfl
theorem N9:Go1 P0 pz vO:=go1 rfl rfl rfl rfl
theorem N8:Go1 P0 tX qR:=go1 rfl rfl rfl rfl
theorem N7:Go1 P0 lI nZ:=go1 rfl rfl rfl rfl
theorem Qe:Go1 P0 qZ tJ:=go1 rfl rfl rfl rfl
theorem L8:Go1 P0 oq uF:=go1 rfl rfl rfl rfl
theorem Qg:Go1 P0 rq wV:=go1 rfl rfl rfl rfl
theorem Oe:Go1 P0 tZ vU:=go1 rfl rfl rfl rfl
theorem JW:Go1 P0 jQ sJ:=go1 rfl rfl rfl rfl
theorem IA:Go1 P0 lV nH:=go1 rfl rfl rfl rfl
theorem FU:Go1 P0 kN jW:=go1 rfl rfl rfl rfl
theorem UH:Go1 P0 tq uh:=go1 rfl rfl rfl rfl
theorem UG:Go1 P0 vW zx:=go1 rfl rfl rfl rfl
theorem FI:Go1 P0 jv tH:=go1 rfl rfl rfl rfl
theorem GR:Go1 P0 mJ oI:=go1 rfl rfl rfl rfl
theorem GU:Go1 P0 nN kK:=go1 rfl rfl rfl rfl
theorem Qh:Go1 P0 fZ o8:=go1 rfl rfl rfl rfl
theorem qA:Go1 P0 bU dJ:=go1 rfl rfl rfl rfl
theorem rP:Go1 P0 cO dW:=go1 rfl rfl rfl rfl
theorem Xg:Go1 P0 xR mG:=go1 rfl rfl rfl rfl
theorem Af:Go1 P0 lW nI:=go1 rfl rfl rfl rfl
theorem G7:Go1 P0 wR vg:=go1 rfl rfl rfl rfl
theorem y8:Go1 P0 iD ig:=go1 rfl rfl rfl rfl
theorem tN:Go1 P0 gX iM:=go1 rfl rfl rfl rfl
theorem qF:Go1 P0 eH bJ:=go1 rfl rfl rfl rfl
theorem yt:Go1 P0 dY fU:=go1 rfl rfl rfl rfl
theorem rQ:Go1 P0 iR fB:=go1 rfl rfl rfl rfl
theorem fA:Go1 P0 jT dK:=go1 rfl rfl rfl rfl
theorem Tm:Go1 P0 fD kz:=go1 rfl rfl rfl rfl
theorem YO:Go1 P0 jb CJ:=go1 rfl rfl rfl rfl
theorem YP:Go1 P0 oP CP:=go1 rfl rfl rfl rfl
theorem Xf:Go1 P0 xQ AA:=go1 rfl rfl rfl rfl
theorem Bq:Go1 P0 qc oJ:=go1 rfl rfl rfl rfl
theorem Mc:Go1 P0 rE uH:=go1 rfl rfl rfl rfl
theorem Xd:Go1 P0 xP Az:=go1 rfl rfl rfl rfl
theorem GV:Go1 P0 qE uY:=go1 rfl rfl rfl rfl
theorem IE:Go1 P0 oO qL:=go1 rfl rfl rfl rfl
theorem JX:Go1 P0 pX sK:=go1 rfl rfl rfl rfl
theorem UI:Go1 P0 pY zy:=go1 rfl rfl rfl rfl
theorem L9:Go1 P0 rD uG:=go1 rfl rfl rfl rfl
end Go.Ai.Z
