/-
 Names: what the program's and the reference's functions on them answer.
-/
import Derived.Test.YtcofenimejmoeaaGreatDoorAiC1
import Derived.Test.YtcofenimejmoeaaGreatDoorAiDf
import Derived.KernelRfl
set_option maxRecDepth 100000
set_option linter.unusedSimpArgs false
set_option linter.unusedVariables false
set_option linter.unusedSectionVars false
namespace Go.Ai.Z
def lH (b:UInt8):Rl→Option (Rl×Rl)
 | []=>none
 | x::r=>if x=b then some ([],r) else (lH b r).map fun p=>(x::p.1,p.2)
theorem zi {b:UInt8}:∀{l:Rl},lH b l=none ↔ b ∉ l
 | []=>by simp [lH]
 | x::r=>by
  by_cases h:x=b
  ·simp [lH,h]
  ·have:=zi (b:=b) (l:=r)
   simp [lH,h,this,Ne.symm h]
theorem wM {b:UInt8}:∀{l x y:Rl},lH b l=some (x,y)→l=x++b::y
 | [],_,_,h=>by simp [lH] at h
 | c::r,x,y,h=>by
  by_cases hc:c=b
  ·simp [lH,hc] at h;obtain ⟨rfl,rfl⟩:=h;simp [hc]
  ·simp [lH,hc] at h;obtain ⟨p,q,rfl⟩:=h;simp [wM q]
theorem index_none {b:UInt8}:∀{l:Rl},lH b l=none→Go.Lib.indexByte l b=-1
 | [],_=>rfl
 | c::r,h=>by
  by_cases hc:c=b
  ·simp [lH,hc] at h
  ·simp [lH,hc] at h;simp [Go.Lib.indexByte,hc,index_none h]
theorem ET {b:UInt8}:∀{l x y:Rl},lH b l=some (x,y)→Go.Lib.indexByte l b=x.length
 | [],_,_,h=>by simp [lH] at h
 | c::r,x,y,h=>by
  by_cases hc:c=b
  ·simp [lH,hc] at h;obtain ⟨rfl,rfl⟩:=h;simp [Go.Lib.indexByte,hc]
  ·simp [lH,hc] at h;obtain ⟨p,q,rfl⟩:=h
   have:=ET q
   have h1:¬((p.length:Int)=-1):=by omega
   simp [Go.Lib.indexByte,hc,this,h1]
theorem Xx (l:Rl) (b:UInt8) (s:St) (cx:Ctx):aj P0 (.fn (.func kD) [] []) [.s l,.s [b]] s cx=.ret (.i .i64 (Go.Lib.indexByte l b)) s:=
 sW (h:=I9 Xc) rfl rfl
theorem MS (l:Rl) (b:UInt8) (hl:l.length≤1152921504606846976) (s:St) (cx:Ctx):aj P0 (.fn (.func jy) [] []) [.s l,.s [b]] s cx=
  .ret (match lH b l with|some (x,y)=>.tu [.s x,.s y,.b true] | none=>.tu [.s l,.s [],.b false]) s:=by
 refine AB (by simp) ?_
 cases hc:lH b l with
 | none=>simp [af,jg,Xx,index_none hc]
 | some p=>
  obtain ⟨x,y⟩:=p;have hi:=ET hc;have he:=wM hc;have A:l.length=x.length+(y.length+1):=by rw [he];simp
  have w1:IntKind.i64.wrap ((x.length:Int)+1)=(x.length:Int)+1:=w64 (by omega) (by omega);have e1:l.take x.length=x:=by rw [he];simp
  have e2:(l.drop (x.length+1)).take (l.length - (x.length+1))=y:=by
   rw [A,he,show x.length+1=(x++[b]).length from by simp,show x++b::y=(x++[b])++y from by simp,List.drop_left];exact List.take_of_length_le (by simp;omega)
  clear he;have hn:((x.length:Int)+1).toNat=x.length+1:=by omega
  have h0:(0:Int)≤(x.length:Int)+1:=by omega
  have g1:x.length≤l.length:=by omega
  have g2:x.length+1≤l.length:=by omega
  simp [af,jg,Xx,hi,w1,hn,h0,g1,g2,e1,e2]
theorem zD (l:Rl) (b:UInt8) (hl:l.length≤1152921504606846976) (s:St) (cx:Ctx):aj P0 (.fn (.func qC) [] []) [.s l,.s [b]] s cx=
  .ret (match lH b l with|some (x,y)=>.tu [.s x,.s y,.b true] | none=>.tu [.s l,.s [],.b false]) s:=by
 refine Tf (by simp) ?_;have e1:=MS l b hl
 cases hc:lH b l with
 | none=>rw [hc] at e1;simp [af,uX,e1]
 | some p=>obtain ⟨x,y⟩:=p;rw [hc] at e1;simp [af,uX,e1]
def acL (k:Int):Bool:=decide (97≤k) && decide (k≤122) || decide (65≤k) && decide (k≤90)
def aje (k:Int):Bool:=acL k || decide (48≤k) && decide (k≤57) || decide (k=95)
def alG (b:UInt8):Bool:=acL b.toNat
def aas (b:UInt8):Bool:=aje b.toNat
def I5:Rl→Bool
 | []=>true
 | b::r=>aas b && I5 r
theorem acd:I5 []=true:=rfl
theorem Jq (b:UInt8) (r:Rl):I5 (b::r)=(aas b && I5 r):=rfl
def keywords:List Rl:=
 [[97,110,100],[115,111,109,101],[105,110],[116,111],[110,111,116,104,105,110,103],wD3,[111,110,101],[111,102],
  [111,112,101,110],[112,114,105,118,97,116,101],[115,117,98],[115,97,109,101],[100,105,115,106,111,105,110,116],[100,111,109,97,105,110],[114,111,108,101],
  [99,104,97,105,110],[114,101,102,108,101,120,105,118,101],[116,121,112,101],[108,105,110,107],[115,101,108,101,99,116],[119,104,101,114,101],[111,114]]
def kwS (l:Rl):Bool:=keywords.contains l
def Ba (l:Rl):Bool:=(match l with | []=>false|b::_=>alG b) && I5 l && !kwS l
def oV (l:Rl):Bool:=decide (l.length≤24) && (match lH 58 l with|some (x,y)=>Ba x && Ba y|none=>Ba l)
def Ny (l:Rl):Bool:=decide (2≤l.length) && decide (l.length≤24) && (match l with | []=>false|b::_=>decide ((b.toNat:Int)=95)) && I5 l
@[simp] theorem adG (k:Int) (s:St) (cx:Ctx):aj P0 (.fn (.func oq) [] []) [.i .u8 k] s cx=.ret (.b (acL k)) s:=by
 refine L8 (by simp) ?_;simp [af,uF,acL]
 repeat' (split<;>simp only [gG,gI,gQ]<;>simp [*])
theorem GI (s:St) (cx:Ctx) (l:Rl) (hl:l.length≤1152921504606846976):∀(x:Rl) (i:Nat),l.drop i=x→
  ∃j:Int,gY (aB P0.glob (aj P0) cx false sH) [6,7,8] [(6,.v (.sl (aC l))),(7,.v (.i .i64 l.length)),(8,.v (.i .i64 i))] s=
   if I5 x=true then .exit 0 [(6,.v (.sl (aC l))),(7,.v (.i .i64 l.length)),(8,.v (.i .i64 j)),(9,.v (.b false))] s else .ret [(2,.v (.b false))] s
 | [],i,h=>by
  have h1:¬i<l.length:=Nat.not_lt.2 (drop_nil h);refine ⟨i,ak fun K hK=>?_⟩;simp [sH,h1,acd]
 | b::r,i,h=>by
  obtain ⟨h1,h2,h3,h4⟩:=drop_cons h;have h5:=h4 h3;have hb:(aC l)[i]?=some (.i .u8 b.toNat):=by simp [aC,h1]
  have hw:=wI (i:=i) (by omega);obtain ⟨j,ih⟩:=GI s cx l hl r (i+1) h2;refine ⟨j,ak fun K hK=>?_⟩;rw [←hK,show ((i+1:Nat):Int)=(i:Int)+1 from rfl] at ih;clear hK
  rcases Bool.eq_false_or_eq_true (aas b) with hin|hin<;>rcases Bool.eq_false_or_eq_true (acL b.toNat) with hlt|hlt <;>
  ·have p:=hin;simp [aas,aje,hlt] at p
   try simp [sH,h3,hb,Jq,hin,hlt,hw,ih]
   repeat' (first | (split<;>(try simp only [gG,gI,gQ,kE,kF])<;>(try simp [*])) | (simp only [gG,gI,gQ,kE,kF]<;>(try simp [*]))|omega)
theorem Hr (l:Rl) (hl:l.length≤1152921504606846976) (s:St) (cx:Ctx):aj P0 (.fn (.func rq) [] []) [.s l] s cx=.ret (.b (I5 l)) s:=by
 refine Qg (by simp) ?_;obtain ⟨j,h⟩:=GI s ⟨s.length,s.length⟩ l hl l 0 rfl;have hb:(aC l).length=l.length:=by simp [aC]
 simp at h;simp [af,wV,hb,h]
 repeat' (first | (split<;>(try simp only [gG,gI,gQ,kE,kF])<;>(try simp [*])) | (simp only [gG,gI,gQ,kE,kF]<;>(try simp [*]))|omega)
@[simp] theorem adN (l:Rl) (s:St) (cx:Ctx):aj P0 (.fn (.func tZ) [] []) [.s l] s cx=.ret (.b (kwS l)) s:=by
 refine Oe (by simp) ?_;simp [af,vU]
 repeat' (first | (split<;>(try simp only [gG,gI,gQ,kE,kF])<;>(try simp [*])) | (simp only [gG,gI,gQ,kE,kF]<;>(try simp [*]))|omega)
 all_goals first|rfl|simp [kwS,keywords, *]
theorem BA (l:Rl) (hl:l.length≤1152921504606846976) (s:St) (cx:Ctx):aj P0 (.fn (.func qZ) [] []) [.s l] s cx=.ret (.b (Ba l)) s:=by
 refine Qe (by simp) ?_
 cases l with
 | nil=>simp [af,tJ,Ba]
 | cons b r=>
  have e1:=Hr _ hl;simp [af,tJ,e1,Ba,alG]
  repeat' (first | (split<;>(try simp only [gG,gI,gQ,kE,kF])<;>(try simp [*])) | (simp only [gG,gI,gQ,kE,kF]<;>(try simp [*]))|omega)
theorem BB (l:Rl) (hl:l.length≤1152921504606846976) (s:St) (cx:Ctx):aj P0 (.fn (.func lV) [] []) [.s l] s cx=.ret (.b (Ny l)) s:=by
 refine IA (by simp) ?_
 cases l with
 | nil=>simp [af,nH,Ny]
 | cons b r=>
  have e1:=Hr _ hl;simp [af,nH,e1,Ny]
  repeat' (first | (split<;>(try simp only [gG,gI,gQ,kE,kF])<;>(try simp [*])) | (simp only [gG,gI,gQ,kE,kF]<;>(try simp [*]))|omega)
@[simp] theorem adL (l:Rl) (s:St) (cx:Ctx):aj P0 (.fn (.func lI) [] []) [.s l] s cx=.ret (.b (oV l)) s:=by
 refine N7 (by simp) ?_;by_cases hl:l.length≤24
 ·have hn:¬((24:Int)<l.length):=by omega
  cases hc:lH 58 l with
  | none=>
   have A:=zD l 58 (by omega);rw [hc] at A;simp only [] at A;have e1:=BA l (by omega);simp [af,nZ,A,hn,e1,oV,hc,hl]
   repeat' (first | (split<;>(try simp only [gG,gI,gQ,kE,kF])<;>(try simp [*])) | (simp only [gG,gI,gQ,kE,kF]<;>(try simp [*]))|omega)
  | some p=>
   obtain ⟨x,y⟩:=p;have A:=zD l 58 (by omega);rw [hc] at A;simp only [] at A
   have:=wM hc
   have hx:x.length≤1152921504606846976:=by have:=congrArg List.length this;simp at this;omega
   have hy:y.length≤1152921504606846976:=by have:=congrArg List.length this;simp at this;omega
   clear this;have e1:=BA x hx;have e2:=BA y hy;simp [af,nZ,A,hn,e1,e2,oV,hc,hl]
   repeat' (first | (split<;>(try simp only [gG,gI,gQ,kE,kF])<;>(try simp [*])) | (simp only [gG,gI,gQ,kE,kF]<;>(try simp [*]))|omega)
 ·have hn:(24:Int)<l.length:=by omega
  simp [af,nZ,hn,oV,hl]
theorem Jc (c:C) (I:c.parts.length≤1152921504606846976) (d m:Int) (hd:d≤1000) (J:-1000≤d) (hm:0≤m) (A:m≤100000)
  (ih:∀p∈c.parts,∀(d m:Int),d≤1000→-1001≤d→0≤m→m≤100000→
   ∃v:Int,(∀s cx,aj P0 (.fn (.func qE) [] []) [aJ p,.i .i64 d,.i .i64 m] s cx=.ret (.i .i64 v) s)∧1≤v∧v≤m+1152921504606846976∧(v≤m→wC p≤v)):
  ∀(O:List C) (i:Nat) (n:Int),c.parts.drop i=O→1≤n→n≤m+1152921504606846976→
  ∃v j:Int,(∀s cx,gY (aB P0.glob (aj P0) cx false pR) [1,2,3,7,8] [(1,.v (.i .i64 d)),(2,.v (.i .i64 m)),(3,.bx (aJ c).cells),(7,.v (.i .i64 n)),(8,.v (.i .i64 i))] s=
   .exit 0 [(1,.v (.i .i64 d)),(2,.v (.i .i64 m)),(3,.bx (aJ c).cells),(7,.v (.i .i64 v)),(8,.v (.i .i64 j)),(27,.v (.b false))] s)∧
   1≤v∧v≤m+1152921504606846976∧(v≤m→n+wL O≤v)
 | [],i,n,h,hn,hn'=>by
  have h1:¬i<c.parts.length:=Nat.not_lt.2 (drop_nil h);refine ⟨n,i,fun s cx=>ak fun K hK=>?_,hn,hn',fun _=>by simp [wL]⟩;simp [pR,h1]
 | p::r,i,n,h,hn,hn'=>by
  obtain ⟨h1,h2,h3,h4⟩:=drop_cons h;have h5:=h4 h3;have hp:p∈c.parts:=by rw [←h5];exact List.getElem_mem h3
  have hw:=wI (i:=i) (by omega);by_cases hnm:n≤m
  ·obtain ⟨v',e1,q1,q2,q3⟩:=ih p hp (d - 1) (m - n) (by omega) (by omega) (by omega) (by omega);obtain ⟨v,j,x,r1,r2,r3⟩:=Jc c I d m hd J hm A ih r (i+1) (n+v') h2 (by omega) (by omega);refine ⟨v,j,fun s cx=>ak fun K hK=>?_,r1,r2,fun hv=>?_⟩
   ·have x:=x s cx;rw [←hK,show ((i+1:Nat):Int)=(i:Int)+1 from rfl] at x;clear hK h4 ih;have w1:IntKind.i64.wrap (d - 1)=d - 1:=w64 (by omega) (by omega);have w2:IntKind.i64.wrap (m - n)=m - n:=w64 (by omega) (by omega);have w3:IntKind.i64.wrap (n+v')=n+v':=w64 (by omega) (by omega);simp at x;simp [pR,h3,h5,hnm,w1,w2,w3,hw,e1,x]
   ·have:=r3 hv;simp only [wL];have:=q3 (by omega);omega
  ·refine ⟨n,i,fun s cx=>ak fun K hK=>?_,hn,hn',fun hv=>by omega⟩;simp [pR,h3,hnm]
theorem UU:∀(c:C),c.Ok→∀(d m:Int),d≤1000→-1001≤d→0≤m→m≤100000→
  ∃v:Int,(∀s cx,aj P0 (.fn (.func qE) [] []) [aJ c,.i .i64 d,.i .i64 m] s cx=.ret (.i .i64 v) s)∧1≤v∧v≤m+1152921504606846976∧(v≤m→wC c≤v):=by
 refine C.ind' fun c ih I d m hd K hm J=>?_
 cases I with
 | mk _ hn hps hk hl hh hp=>
  by_cases h0:d≤0
  ·have w1:IntKind.i64.wrap (m+1)=m+1:=w64 (by omega) (by omega);refine ⟨m+1,fun s cx=>GV (by simp) ?_,by omega,by omega,by omega⟩;simp [af,uY,h0,w1]
  ·have x:((c.name.length:Int).tdiv 40)=((c.name.length / 40:Nat):Int):=by rw [Int.tdiv_eq_ediv_of_nonneg (by omega)];omega
   have w1:IntKind.i64.wrap ((c.name.length / 40:Nat):Int)=((c.name.length / 40:Nat):Int):=w64 (by omega) (by omega);have w2:IntKind.i64.wrap (1+((c.name.length / 40:Nat):Int))=1+((c.name.length / 40:Nat):Int):=w64 (by omega) (by omega);obtain ⟨v,j,h,r1,r2,r3⟩:=Jc c hps d m hd (by omega) hm J (fun p A=>ih p A (hp p A)) c.parts 0 (1+((c.name.length / 40:Nat):Int)) rfl (by omega) (by omega);refine ⟨v,fun s cx=>GV (by simp) ?_,r1,r2,fun hv=>?_⟩
   ·simp at h;rw [show ((c.name.length / 40:Nat):Int)=(c.name.length:Int) / 40 from by omega] at x w1 w2;simp [af,uY,h0,x,w1,w2,h]
   ·have:=r3 hv;rw [FC];omega
theorem PG (c:C) (h:c.Ok):∃b:Bool,(∀s cx,aj P0 (.fn (.func xP) [] []) [aJ c] s cx=.ret (.b b) s)∧(b=true→wC c≤150):=by
 obtain ⟨v,e,r1,r2,r3⟩:=UU c h 40 150 (by omega) (by omega) (by omega) (by omega);refine ⟨decide (v≤150),fun s cx=>?_,fun hv=>by simp at hv;have:=r3 hv;omega⟩;refine Xd (by simp) ?_;simp [af,Az,e]
def kU (c:C):Bool:=
 let plain:=decide (c.lo=0) && decide (c.hi=0)
 if c.kind=1 then plain && decide (c.name=[]) && decide ((c.parts.length:Int)=0)
 else if c.kind=2 then plain && decide (c.name=[]) && decide ((c.parts.length:Int)=0)
 else if c.kind=3 then plain && decide ((c.parts.length:Int)=0)
 else if c.kind=4 then plain && decide ((c.parts.length:Int)=0)
 else if c.kind=5 then plain && decide (c.name=[]) && decide ((2:Int)≤c.parts.length) && decide ((c.parts.length:Int)≤8)
 else if c.kind=6 then plain && decide ((c.parts.length:Int)=1)
 else if c.kind=7 then decide ((c.parts.length:Int)=0) && decide (-1099511627776≤c.lo) && decide (c.lo≤c.hi) && decide (c.hi≤1099511627776)
 else false
def uq (c:C):Bool:=
 if c.kind=3 then oV c.name
 else if c.kind=6 then oV c.name
 else if c.kind=7 then oV c.name
 else if c.kind=4 then oV c.name || Ny c.name
 else true
mutual
def iL:C→Int
 | .mk k n l h z ps=>if kU (.mk k n l h z ps)=false then 21 else if uq (.mk k n l h z ps)=false then 20 else rW ps
def rW:List C→Int
 | []=>0
 | p::r=>if iL p=0 then rW r else iL p
end
theorem Dx (c:C):iL c=if kU c=false then 21 else if uq c=false then 20 else rW c.parts:=by cases c;simp [iL]
def vz (c:C):Int:=if 8<zh c∨64<oD c then 21 else iL c
def sQ (c:C):Int:=if kU c=false then 21 else if uq c=false then 20 else 0
theorem aay:P0.glob Dv=some [.i .i64 0,.i .i64 0,.i .i64 0,.b false,.i .i64 0,.i .i64 0,.i .i64 0,.b false,.i .i64 0,.i .i64 0,.i .i64 0,.b false,.i .i64 1,.i .i64 0,.i .i64 0,.b false,.i .i64 2,.i .i64 0,.i .i64 0,.b false,.i .i64 0,.i .i64 2,.i .i64 8,.b false,.i .i64 1,.i .i64 1,.i .i64 1,.b false,.i .i64 1,.i .i64 0,.i .i64 0,.b true]:=rfl
theorem IV (c:C) (hn:c.name.length≤1152921504606846976) (s:St) (cx:Ctx):aj P0 (.fn (.func nN) [] []) [aJ c] s cx=.ret (.i .i64 (sQ c)) s:=by
 refine GU (by simp) ?_;have e1:=BB c.name hn;by_cases h0:c.kind<1
 ·have:kU c=false:=by simp [kU,show ¬c.kind=1 by omega,show ¬c.kind=2 by omega,show ¬c.kind=3 by omega,show ¬c.kind=4 by omega,show ¬c.kind=5 by omega,show ¬c.kind=6 by omega,show ¬c.kind=7 by omega]
  simp [af,kK,h0,sQ,this]
 by_cases h8:7<c.kind
 ·have:kU c=false:=by simp [kU,show ¬c.kind=1 by omega,show ¬c.kind=2 by omega,show ¬c.kind=3 by omega,show ¬c.kind=4 by omega,show ¬c.kind=5 by omega,show ¬c.kind=6 by omega,show ¬c.kind=7 by omega]
  simp [af,kK,h0,h8,sQ,this]
 have hk:c.kind=1∨c.kind=2∨c.kind=3∨c.kind=4∨c.kind=5∨c.kind=6∨c.kind=7:=by omega
 rcases hps:c.parts with _|⟨a,_|⟨b,r⟩⟩<;>rcases hk with hk|hk|hk|hk|hk|hk|hk
 all_goals
  clear h0 h8;simp [af,kK,hk,aay,sQ,kU,uq,hps]
  repeat' (first | (split<;>(try simp only [gG,gI,gQ,kE,kF])<;>(try simp [*])) | (simp only [gG,gI,gQ,kE,kF]<;>(try simp [*]))|omega)
mutual
def yN:C→Nat→Nat→Bool×Nat
 | .mk _ _ _ _ _ ps,d,n=>if 8<d∨64<n+1 then (false,n+1) else EX ps d (n+1)
def EX:List C→Nat→Nat→Bool×Nat
 | [],_,n=>(true,n)
 | p::r,d,n=>if (yN p (d+1) n).1=true then EX r d (yN p (d+1) n).2 else (false,(yN p (d+1) n).2)
end
theorem MH (c:C) (d n:Nat):yN c d n=if 8<d∨64<n+1 then (false,n+1) else EX c.parts d (n+1):=by cases c;simp [yN]
theorem ahs:∀(c:C) (d n:Nat),n≤64→(yN c d n).2≤65∧((yN c d n).1=true→(yN c d n).2≤64):=by
 refine C.ind' fun c ih d n hn=>?_
 have hL:∀(l:List C),(∀p∈l,∀(d n:Nat),n≤64→(yN p d n).2≤65∧((yN p d n).1=true→(yN p d n).2≤64))→∀n,n≤64→(EX l d n).2≤65∧((EX l d n).1=true→(EX l d n).2≤64):=by
  intro l
  induction l with
  | nil=>intro _ n hn;simp [EX];omega
  | cons p r ih=>
   intro h n hn;have h1:=h p (by simp) (d+1) n hn;simp only [EX];split
   ·rename_i ht;exact ih (fun q hq=>h q (by simp [hq])) _ (h1.2 ht)
   ·exact ⟨h1.1,by simp⟩
 rw [MH];split
 ·exact ⟨by simp;omega,by simp⟩
 ·exact hL c.parts ih _ (by omega)
theorem aht:∀(c:C) (d n:Nat),n≤64→((yN c d n).1=true ↔ d+zh c≤8∧n+oD c≤64)∧((yN c d n).1=true→(yN c d n).2=n+oD c):=by
 refine C.ind' fun c ih d n hn=>?_
 have hL:∀(l:List C),(∀p∈l,∀(d n:Nat),n≤64→((yN p d n).1=true ↔ d+zh p≤8∧n+oD p≤64)∧((yN p d n).1=true→(yN p d n).2=n+oD p))→∀n,n≤64→d≤8→
   ((EX l d n).1=true ↔ d+EZ l≤8∧n+Ac l≤64)∧((EX l d n).1=true→(EX l d n).2=n+Ac l):=by
  intro l
  induction l with
  | nil=>intro _ n hn hd;simp [EX,EZ,Ac];omega
  | cons p r ih=>
   intro h n hn hd;have h1:=h p (by simp) (d+1) n hn;simp only [EX,EZ,Ac];by_cases ht:(yN p (d+1) n).1=true
   ·have h2:=h1.2 ht;have h3:=h1.1.1 ht;rw [if_pos ht];have h4:=ih (fun q hq=>h q (by simp [hq])) (yN p (d+1) n).2 (by omega) hd;rw [h2] at h4 ⊢;refine ⟨h4.1.trans ⟨fun h=>⟨by omega,by omega⟩,fun h=>⟨by omega,by omega⟩⟩,fun h=>by rw [h4.2 h];omega⟩
   ·rw [if_neg ht];refine ⟨⟨fun h=>by simp at h,fun h=>absurd (h1.1.2 ⟨by omega,by omega⟩) ht⟩,fun h=>by simp at h⟩
 rw [MH,Oi,DC];have hL:=hL c.parts ih;split
 ·rename_i h;refine ⟨⟨fun h=>by simp at h,fun h=>by omega⟩,fun h=>by simp at h⟩
 ·have:=hL (n+1) (by omega) (by omega)
  refine ⟨this.1.trans ⟨fun h=>⟨by omega,by omega⟩,fun h=>⟨by omega,by omega⟩⟩,fun h=>by rw [this.2 h];omega⟩
theorem Q8 {T:St} {l:Nat} {v:gq} (h:T[l]?=some v):T.set l v=T:=by
 obtain ⟨h1,h2⟩:=List.getElem?_eq_some_iff.1 h;rw [←h2];exact List.set_getElem_self h1
inductive C.Lng:C→Prop where
 | mk (c:C) (hn:c.name.length≤1152921504606846976) (hps:c.parts.length≤1152921504606846976) (hp:∀p∈c.parts,C.Lng p):C.Lng c
theorem C.Lng.n {c:C} (h:C.Lng c):c.name.length≤1152921504606846976:=by cases h;assumption
theorem C.Lng.ps {c:C} (h:C.Lng c):c.parts.length≤1152921504606846976:=by cases h;assumption
theorem C.Lng.sub {c:C} (h:C.Lng c):∀p∈c.parts,C.Lng p:=by cases h;assumption
theorem C.Ok.lng {c:C} (h:C.Ok c):C.Lng c:=by
 induction h with
 | mk c hn hps _ _ _ _ ih=>exact .mk c hn hps ih
theorem aik:∀c:C,wC c≤100000→C.Lng c:=by
 refine C.ind' fun c ih hw=>?_;have hl:=QU c.parts;rw [FC] at hw;exact .mk c (by omega) (by omega) fun p hp=>ih p hp (by have:=Nl hp;omega)
theorem LU (c:C) (hw:C.Lng c) (cx:Ctx) (l:Nat) (J:cx.lim≤l) (d:Nat) (hd:d≤8)
  (ih:∀p∈c.parts,∀(d n:Nat) (s:St) (cx:Ctx),d≤100→n≤64→cx.lim≤l→s[l]?=some (.cells [.i .i64 n])→
   aj P0 (.fn (.func tq) [] []) [aJ p,.i .i64 d,.pt l 0] s cx=.ret (.b (yN p d n).1) (s.set l (.cells [.i .i64 (yN p d n).2]))):
  ∀(P:List C) (i:Nat) (n:Nat) (s:St),n≤64→s[l]?=some (.cells [.i .i64 n])→c.parts.drop i=P→
  ∃j:Int,gY (aB P0.glob (aj P0) cx false qU) [1,2,23,24,25] [(1,.v (.i .i64 d)),(2,.v (.pt l 0)),(23,.v (slf c.z (c.parts.map aJ))),(24,.v (.i .i64 c.parts.length)),(25,.v (.i .i64 i))] s=
   if (EX P d n).1=true then .exit 0 [(1,.v (.i .i64 d)),(2,.v (.pt l 0)),(23,.v (slf c.z (c.parts.map aJ))),(24,.v (.i .i64 c.parts.length)),(25,.v (.i .i64 j)),(26,.v (.b false))] (s.set l (.cells [.i .i64 (EX P d n).2]))
   else .ret [(6,.v (.b false))] (s.set l (.cells [.i .i64 (EX P d n).2]))
 | [],i,n,s,hn,hs,h=>by
  have h1:¬i<c.parts.length:=Nat.not_lt.2 (drop_nil h);refine ⟨i,ak fun K hK=>?_⟩;simp [qU,h1,EX,Q8 hs]
 | p::r,i,n,s,hn,hs,h=>by
  obtain ⟨h1,h2,h3,h4⟩:=drop_cons h;have h5:=h4 h3;have hp:p∈c.parts:=by rw [←h5];exact List.getElem_mem h3
  have A:=wI (i:=i) (by have:=hw.ps;omega);have O:l<s.length:=(List.getElem?_eq_some_iff.1 hs).1;have e1:=ih p hp (d+1) n s cx (by omega) hn J hs;have w1:IntKind.i64.wrap ((d:Int)+1)=(d:Int)+1:=w64 (by omega) (by omega);simp at e1;by_cases ht:(yN p (d+1) n).1=true
  ·have I:=(ahs p (d+1) n hn).2 ht;obtain ⟨j,x⟩:=LU c hw cx l J d hd ih r (i+1) (yN p (d+1) n).2 (s.set l (.cells [.i .i64 (yN p (d+1) n).2])) I (by simp [O]) h2;refine ⟨j,ak fun K hK=>?_⟩;rw [←hK] at x;clear hK h4 ih;simp at x;simp [qU,h3,h5,A,w1,e1,x,EX,ht]
  ·refine ⟨i,ak fun K hK=>?_⟩;clear hK h4 ih;simp [qU,h3,h5,A,w1,e1,EX,ht]
theorem Xu (l:Nat):∀(c:C),C.Lng c→∀(d n:Nat) (s:St) (cx:Ctx),d≤100→n≤64→cx.lim≤l→s[l]?=some (.cells [.i .i64 n])→
   aj P0 (.fn (.func tq) [] []) [aJ c,.i .i64 d,.pt l 0] s cx=.ret (.b (yN c d n).1) (s.set l (.cells [.i .i64 (yN c d n).2])):=by
 refine C.ind' fun c ih hw d n s cx hd hn x hs=>?_;have A:l<s.length:=(List.getElem?_eq_some_iff.1 hs).1;have w1:IntKind.i64.wrap ((n:Int)+1)=(n:Int)+1:=w64 (by omega) (by omega);have J:s[l]=.cells [.i .i64 n]:=(List.getElem?_eq_some_iff.1 hs).2;refine UH (by simp) ?_;by_cases h8:(8:Int)<d
 ·simp [af,uh,J,A,x,w1,h8,MH c,show 8<d by omega]
 by_cases h64:(64:Int)<(n:Int)+1
 ·simp [af,uh,J,A,x,w1,h8,h64,MH c,show 64<n+1 by omega]
 ·obtain ⟨j,h⟩:=LU c hw ⟨cx.lim,s.length⟩ l x d (by omega) (fun p hp=>ih p hp (hw.sub p hp)) c.parts 0 (n+1) (s.set l (.cells [.i .i64 (n+1:Nat)])) (by omega) (by simp [A]) rfl;simp at h;have I:¬(8<d∨64<n+1):=by omega
  simp [af,uh,J,A,x,w1,h8,h64,MH c,I,h]
  repeat' (first | (split<;>(try simp only [gG,gI,gQ,kE,kF])<;>(try simp [*])) | (simp only [gG,gI,gQ,kE,kF]<;>(try simp [*]))|omega)
def TU (a:Nat) (c:C):Env:=[(2,.v (.pt a 0)),(10,.v (.fn (.func jv) [] [.ip (aJ c).cells]))]
def sU (a:Nat) (c:C) (p:OB):gq:=.loop (TU a c) [11] mF mD p
theorem Nj (x:C) (a:Nat) {e':AV} (T:St) (cx:Ctx) (hb:cx.base≤T.length) (p:cx.lim≤T.length):
  aB P0.glob (aj P0) cx true mF [(11,.v (aJ x)),(2,.v (.pt a 0)),(10,.v e')] T=.norm [(2,.v (.pt a 0)),(4,.v (.pt T.length 0))] (T++[.cells (aJ x).cells]):=by
 simp [mF,hb,p]
theorem Nh (x:C) (hx:x.name.length≤1152921504606846976) (a m:Nat) (v:AV) (S:St) (cx:Ctx) (hm:S[m]?=some (.cells (aJ x).cells)) (ha:S[a]?=some (.cells [v])) (p:cx.lim≤a):
  aB P0.glob (aj P0) cx true mD [(2,.v (.pt a 0)),(4,.v (.pt m 0))] S=
   if sQ x=0 then .norm [(2,.v (.pt a 0)),(5,.v (.i .i64 (sQ x))),(15,.v (.b false))] S else .ret [] (S.set a (.cells [.i .i64 (sQ x)])):=by
 have e1:=IV x hx;simp at hm
 by_cases h0:sQ x=0<;>simp [mD,hm,ha,p,e1,h0]
theorem QN (c x:C) (hx:x.name.length≤1152921504606846976) (a l:Nat) (v:AV) (T:St) (cx:Ctx) (hl:T[l]?=some (sU a c .ready)) (ha:T[a]?=some (.cells [v])) (O:cx.lim≤l) (Q:cx.lim≤a) (hb:cx.base≤T.length) (P:cx.lim≤T.length):
  aj P0 (.yl l) [aJ x] T cx=if sQ x=0 then .ret (.b true) (T++[.cells (aJ x).cells])
   else .ret (.b false) ((T.set a (.cells [.i .i64 (sQ x)])).set l (sU a c .ret)++[.cells (aJ x).cells]):=by
 have K:l<T.length:=(List.getElem?_eq_some_iff.1 hl).1;have J:a<T.length:=(List.getElem?_eq_some_iff.1 ha).1;have A:¬l=a:=by intro e;subst e;rw [hl] at ha;simp [sU] at ha
 have I:T[l]=sU a c .ready:=(List.getElem?_eq_some_iff.1 hl).2;have hA:=Nj (e':=.fn (.func jv) [] [.ip (aJ c).cells]) x a T cx hb P;have hR:=Nh x hx a T.length v (T.set l (sU a c .busy)++[.cells (aJ x).cells]) cx (by rw [List.getElem?_append_right (by simp)];simp) (by rw [List.getElem?_append_left (by simpa using J)];rw [List.getElem?_set_ne A];exact ha) Q
 refine Oz (by split<;>simp) ?_
 unfold Jl;rw [hl];simp only [sU,TU,DF,put,lk];simp at hA hR;have p:=Q8 hl;simp only [sU,TU] at p hR;simp at p hR;by_cases h0:sQ x=0
 ·simp [hA,O,K,hR,h0,sS,p,List.getElem?_append_left,I,sU,TU]
 ·simp [hA,O,K,hR,h0,sS,List.getElem?_append_left,I,sU,TU,J,Ne.symm A,A];rw [List.set_comm _ _ A,List.set_set]
theorem V9 (x:C):iL x=if sQ x=0 then rW x.parts else sQ x:=by
 rw [Dx];unfold sQ
 by_cases h1:kU x=false<;>by_cases h2:uq x=false<;>simp [h1,h2]
theorem Jb (c x:C) (hw:C.Lng x) (a l:Nat) (v:AV) (cx:Ctx) (T:St) (hl:T[l]?=some (sU a c .ready)) (ha:T[a]?=some (.cells [v])) (J:cx.lim≤l) (O:cx.lim≤a)
  (ih:∀p∈x.parts,∀(T:St) (cx:Ctx),T[l]?=some (sU a c .ready)→T[a]?=some (.cells [v])→cx.lim≤l→cx.lim≤a→
   aj P0 (.fn (.func mJ) [] []) [aJ p,.yl l] T cx=if iL p=0 then .ret (.b true) T else .ret (.b false) ((T.set a (.cells [.i .i64 (iL p)])).set l (sU a c .ret))):
  ∀(P:List C) (i:Nat),x.parts.drop i=P→
  ∃j:Int,gY (aB P0.glob (aj P0) cx false jP) [1,12,13,14] [(1,.v (.yl l)),(12,.v (slf x.z (x.parts.map aJ))),(13,.v (.i .i64 x.parts.length)),(14,.v (.i .i64 i))] T=
   if rW P=0 then .exit 0 [(1,.v (.yl l)),(12,.v (slf x.z (x.parts.map aJ))),(13,.v (.i .i64 x.parts.length)),(14,.v (.i .i64 j)),(15,.v (.b false))] T
   else .ret [(4,.v (.b false))] ((T.set a (.cells [.i .i64 (rW P)])).set l (sU a c .ret))
 | [],i,h=>by
  have h1:¬i<x.parts.length:=Nat.not_lt.2 (drop_nil h);refine ⟨i,ak fun K hK=>?_⟩;simp [jP,h1,rW]
 | p::r,i,h=>by
  obtain ⟨h1,h2,h3,h4⟩:=drop_cons h;have h5:=h4 h3;have hp:p∈x.parts:=by rw [←h5];exact List.getElem_mem h3
  have I:=wI (i:=i) (by have:=hw.ps;omega);have e1:=ih p hp T cx hl ha J O;by_cases h0:iL p=0
  ·obtain ⟨j,A⟩:=Jb c x hw a l v cx T hl ha J O ih r (i+1) h2;refine ⟨j,ak fun K hK=>?_⟩;rw [←hK] at A;clear hK h4 ih;simp at A;simp [jP,h3,h5,I,e1,A,rW,h0]
  ·refine ⟨i,ak fun K hK=>?_⟩;clear hK h4 ih;simp [jP,h3,h5,I,e1,rW,h0]
theorem UQ (c:C) (a l:Nat) (v:AV):∀(x:C),C.Lng x→∀(T:St) (cx:Ctx),T[l]?=some (sU a c .ready)→T[a]?=some (.cells [v])→cx.lim≤l→cx.lim≤a→
   aj P0 (.fn (.func mJ) [] []) [aJ x,.yl l] T cx=if iL x=0 then .ret (.b true) T else .ret (.b false) ((T.set a (.cells [.i .i64 (iL x)])).set l (sU a c .ret)):=by
 refine C.ind' fun x ih hw T cx hl ha I K=>?_;have J:l<T.length:=(List.getElem?_eq_some_iff.1 hl).1;have A:a<T.length:=(List.getElem?_eq_some_iff.1 ha).1;have hy:=QN c x hw.n a l v T ⟨cx.lim,T.length⟩ hl ha I K (Nat.le_refl _) (by simp;omega)
 refine GR (by split<;>simp) ?_
 simp at hy;by_cases h0:sQ x=0
 ·obtain ⟨j,h⟩:=Jb c x hw a l v ⟨cx.lim,T.length⟩ (T++[.cells (aJ x).cells]) (by rw [List.getElem?_append_left J];exact hl) (by rw [List.getElem?_append_left A];exact ha) I K
   (fun p hp T cx=>ih p hp (hw.sub p hp) T cx) x.parts 0 rfl
  simp at h;by_cases hz:rW x.parts=0
  ·simp [af,oI,hy,h0,h,hz,V9 x,frz,AV.under]
  ·simp [af,oI,hy,h0,h,hz,V9 x,frz,AV.under,A,J,List.set_append_left]
 ·simp [af,oI,hy,h0,V9 x,frz,AV.under,List.take_append_of_le_length]
theorem abJ (s r:St) (k:Nat):(s++r)[s.length+k]?=r[k]?:=by rw [List.getElem?_append_right (by omega)];congr 1;omega
theorem abb (s r:St) (k:Nat) (v:gq):(s++r).set (s.length+k) v=s++r.set k v:=by rw [List.set_append_right _ _ (by omega)];congr 2;omega
@[simp] theorem ahH (c:C) (s:St) (cx:Ctx):aj P0 (.fn (.func vW) [] []) [aJ c] s cx=.ret (.fn (.func jv) [] [.ip (aJ c).cells]) s:=by
 refine UG (by simp) ?_;simp [af,zx,frz,AL]
theorem yP (c:C) (hw:C.Lng c) (s:St) (cx:Ctx):aj P0 (.fn (.func kN) [] []) [aJ c] s cx=.ret (.i .i64 (vz c)) s:=by
 refine FU (by simp) ?_;have e1:=Xu (s.length+1) c hw 0 0 (s++[.cells [.i .i64 0],.cells [.i .i64 0]]) ⟨s.length,s.length⟩ (by omega) (by omega) (by simp) (by simp);have hf:=aht c 0 0 (by omega);simp at e1;by_cases hfit:(yN c 0 0).1=true
 ·have p:¬(8<zh c∨64<oD c):=by have:=hf.1.1 hfit;omega
  let T:St:=s++[.cells [.i .i64 0],.cells [.i .i64 (yN c 0 0).2],.dfr,sU s.length c .ready]
  have hv:=UQ c s.length (s.length+3) (.i .i64 0) c hw T ⟨s.length,T.length⟩ (by simp [T]) (by simp [T]) (by simp) (by simp)
  have x:aj P0 (.fn (.func jv) [] [.ip (aJ c).cells]) [.yl (s.length+3)] T ⟨s.length,s.length⟩=
    if iL c=0 then .ret (.tu []) T else .ret (.tu []) ((T.set s.length (.cells [.i .i64 (iL c)])).set (s.length+3) (sU s.length c .ret)):=by
   refine FI (by split<;>simp) ?_
   by_cases h0:iL c=0<;>simp [h0] at hv<;>simp [af,tH,hv,h0]
  simp [T] at x;by_cases h0:iL c=0
  ·simp [h0,sU,TU] at x;simp [af,jW,e1,hfit,Gf,x,vz,p,h0,EJ,show s.length+2+1=s.length+3 from rfl,abJ,abb]
  ·simp [h0,sU,TU] at x;simp [af,jW,e1,hfit,Gf,x,vz,p,h0,EJ,show s.length+2+1=s.length+3 from rfl,abJ,abb]
 ·have p:(8<zh c∨64<oD c):=by
   rcases Nat.lt_or_ge 8 (zh c) with h|h
   ·exact .inl h
   ·rcases Nat.lt_or_ge 64 (oD c) with h' | h'
    ·exact .inr h'
    ·exact absurd (hf.1.2 ⟨by omega,by omega⟩) hfit
  simp [af,jW,e1,hfit,vz,p]
end Go.Ai.Z
namespace Go.Ai.Z
open Go.Lib (itoa decDigits)
def anQ:Rl:=[32,97,110,100,32]
mutual
def textS:C→Rl
 | .mk k n lo hi _ ps=>
  if k=1 then wD3
  else if k=2 then [110,111,116,104,105,110,103]
  else if k=3 then n
  else if k=4 then 123::(n++[125])
  else if k=7 then n++[32,105,110,32]++itoa lo++[32,116,111,32]++itoa hi
  else if k=6 then [115,111,109,101,32]++n++[32]++(ai3 ps).headD []
  else joinL anQ (ai3 ps)
def ai3:List C→List Rl
 | []=>[]
 | .mk k n lo hi z ps::r=>(if k=5 then 40::(textS (.mk k n lo hi z ps)++[41]) else textS (.mk k n lo hi z ps))::ai3 r
end
theorem KJ {c:C} (h:iL c=0):kU c=true∧uq c=true∧∀p∈c.parts,iL p=0:=by
 rw [Dx] at h;by_cases h1:kU c=true
 ·by_cases h2:uq c=true
  ·simp [h1,h2] at h;refine ⟨h1,h2, ?_⟩;generalize c.parts=l at h
   induction l with
   | nil=>intro p hp;cases hp
   | cons a r ih=>
    simp only [rW] at h;intro p hp;by_cases h0:iL a=0
    ·rw [if_pos h0] at h;rcases List.mem_cons.1 hp with rfl|hp
     ·exact h0
     ·exact ih h p hp
    ·rw [if_neg h0] at h;exact absurd h h0
  ·simp [h1,h2] at h
 ·simp [h1] at h
theorem Jr {c:C} (h:kU c=true):c.kind=1∨c.kind=2∨c.kind=3∨c.kind=4∨c.kind=7∧-1099511627776≤c.lo∧c.lo≤c.hi∧c.hi≤1099511627776∨c.kind=6∧c.parts.length=1∨c.kind=5∧2≤c.parts.length:=by
 unfold kU at h;by_cases k1:c.kind=1
 ·exact .inl k1
 by_cases k2:c.kind=2
 ·exact .inr (.inl k2)
 by_cases k3:c.kind=3
 ·exact .inr (.inr (.inl k3))
 by_cases k4:c.kind=4
 ·exact .inr (.inr (.inr (.inl k4)))
 by_cases k5:c.kind=5
 ·simp [k5] at h;exact .inr (.inr (.inr (.inr (.inr (.inr ⟨k5,by omega⟩)))))
 by_cases k6:c.kind=6
 ·simp [k6] at h;exact .inr (.inr (.inr (.inr (.inr (.inl ⟨k6,by omega⟩)))))
 by_cases k7:c.kind=7
 ·simp [k7] at h;exact .inr (.inr (.inr (.inr (.inl ⟨k7,by omega,by omega,by omega⟩))))
 ·simp [k1,k2,k3,k4,k5,k6,k7] at h
theorem D5 (l:List Rl) (p:Rl):(joinL p l).length≤(l.map fun x=>x.length+p.length).sum:=by
 cases l with
 | nil=>simp [joinL]
 | cons x r=>
  simp only [joinL,List.length_append,List.length_flatMap,List.map_cons,List.sum_cons]
  have:(r.map fun y=>p.length+y.length)=r.map fun x=>x.length+p.length:=by
   apply List.map_congr_left;intro y _;omega
  rw [this];omega
end Go.Ai.Z
namespace Go.Ai.Z
open Go.Lib (itoa)
theorem kd {x j:Int} (k:x=j):decide (x=j)=true:=by simp [k]
theorem kn {x j:Int} (i:Int) (k:x=j) (h:decide (j=i)=false):decide (x=i)=false:=by rw [k];exact h
end Go.Ai.Z
namespace Go.Ai.Z
open Go.Lib (itoa)
attribute [local simp] find jH uN
theorem alq (l:List Rl):l.mapM (strOf ∘ AV.s)=some l:=by
 induction l with
 | nil=>rfl
 | cons a r ih=>simp [strOf,ih]
theorem Ht (l:List Rl) (p:Rl) (h:(joinL p l).length≤1073741824) (h':l.length≤1073741824) (s:St) (cx:Ctx):aj P0 (.fn (.func yI) [] []) [.sl (l.map .s),.s p] s cx=.ret (.s (joinL p l)) s:=
 sW (h:=I9 YG) rfl (by simp [YG,alq,h,h'])
theorem Ua (n:Int) (h:-9223372036854775808≤n) (h':n≤9223372036854775807) (s:St) (cx:Ctx):aj P0 (.fn (.func BK) [] []) [.i .i64 n] s cx=.ret (.s (itoa n)) s:=
 sW (h:=I9 YH) rfl (by simp [YH,h,h'])
end Go.Ai.Z
namespace Go.Ai.Z
structure Ax where
 kind:Int
 op:Bool
 left:C
 right:C
 z:Bool
 roles:List Rl
 role:Rl
 a:Rl
 b:Rl
def cellsA (x:Ax):List AV:=[.i .i64 x.kind,.b x.op,.i .i64 x.left.kind,.s x.left.name,.i .i64 x.left.lo,.i .i64 x.left.hi,slf x.left.z (x.left.parts.map aJ),
 .i .i64 x.right.kind,.s x.right.name,.i .i64 x.right.lo,.i .i64 x.right.hi,slf x.right.z (x.right.parts.map aJ),slf x.z (x.roles.map .s),.s x.role,.s x.a,.s x.b]
def cu (x:Ax):AV:=.ag (cellsA x)
@[simp] theorem aiY (x:Ax):(cu x).plain=cu x:=by simp [cu,cellsA]
@[simp] theorem ajr (x:Ax):(cu x).cells=[.i .i64 x.kind,.b x.op,.i .i64 x.left.kind,.s x.left.name,.i .i64 x.left.lo,.i .i64 x.left.hi,slf x.left.z (x.left.parts.map aJ),
 .i .i64 x.right.kind,.s x.right.name,.i .i64 x.right.lo,.i .i64 x.right.hi,slf x.right.z (x.right.parts.map aJ),slf x.z (x.roles.map .s),.s x.role,.s x.a,.s x.b]:=rfl
@[simp] theorem adu (x:Ax):AV.ag [.i .i64 x.kind,.b x.op,.i .i64 x.left.kind,.s x.left.name,.i .i64 x.left.lo,.i .i64 x.left.hi,slf x.left.z (x.left.parts.map aJ),
 .i .i64 x.right.kind,.s x.right.name,.i .i64 x.right.lo,.i .i64 x.right.hi,slf x.right.z (x.right.parts.map aJ),slf x.z (x.roles.map .s),.s x.role,.s x.a,.s x.b]=cu x:=rfl
def emptyS (c:C):Bool:=decide (c.kind=0) && decide (c.name=[]) && decide (c.lo=0) && decide (c.hi=0) && decide ((c.parts.length:Int)=0)
@[simp] theorem adM (c:C) (s:St) (cx:Ctx):aj P0 (.fn (.func pz) [] []) [aJ c] s cx=.ret (.b (emptyS c)) s:=by
 refine N9 (by simp) ?_;simp [af,vO,emptyS]
 repeat' (first | (split<;>(try simp only [gG,gI,gQ,kE,kF])<;>(try simp [*])) | (simp only [gG,gI,gQ,kE,kF]<;>(try simp [*]))|omega)
theorem CW (l:Rl) (hl:l.length≤1152921504606846976) (s:St) (cx:Ctx):aj P0 (.fn (.func jQ) [] []) [.s l] s cx=.ret (.i .i64 (if (oV l || Ny l)=true then 0 else 20)) s:=by
 refine JW (by simp) ?_;have e1:=BB l hl
 rcases Bool.eq_false_or_eq_true (oV l) with h1|h1<;>rcases Bool.eq_false_or_eq_true (Ny l) with h2|h2<;>simp [af,sJ,e1,h1,h2]
structure Use where
 l:Bool
 r:Bool
 role:Bool
 a:Bool
 b:Bool
 lo:Int
 hi:Int
def kJ (k:Int):Use:=
 if k=1 then ⟨true,true,false,false,false,0,0⟩ else if k=2 then ⟨true,true,false,false,false,0,0⟩ else if k=3 then ⟨true,true,false,false,false,0,0⟩
 else if k=4 then ⟨false,true,true,false,false,0,0⟩ else if k=5 then ⟨false,false,true,false,false,1,1⟩ else if k=6 then ⟨false,false,true,false,false,2,4⟩
 else if k=7 then ⟨false,false,true,false,false,0,0⟩ else if k=8 then ⟨false,true,false,true,false,0,0⟩ else if k=9 then ⟨false,false,true,true,true,0,0⟩ else ⟨false,false,false,false,false,0,0⟩
def aaD (u:Use):AV:=.ag [.b u.l,.b u.r,.b u.role,.b u.a,.b u.b,.i .i64 u.lo,.i .i64 u.hi]
@[simp] theorem aiW (u:Use):(aaD u).plain=aaD u:=by simp [aaD]
@[simp] theorem ajp (u:Use):(aaD u).cells=[.b u.l,.b u.r,.b u.role,.b u.a,.b u.b,.i .i64 u.lo,.i .i64 u.hi]:=rfl
@[simp] theorem aj3 (u:Use):AV.ag [.b u.l,.b u.r,.b u.role,.b u.a,.b u.b,.i .i64 u.lo,.i .i64 u.hi]=aaD u:=rfl
def ZG:List AV:=(P0.glob yH).getD []
theorem Og:P0.glob yH=some ZG:=rfl
theorem QV:ZG.length=70:=rfl
theorem aa6 {k:Int} (h1:1≤k) (h9:k≤9):(ZG.drop (k.toNat * 7)).take 7=[.b (kJ k).l,.b (kJ k).r,.b (kJ k).role,.b (kJ k).a,.b (kJ k).b,.i .i64 (kJ k).lo,.i .i64 (kJ k).hi]:=by
 have:k=1∨k=2∨k=3∨k=4∨k=5∨k=6∨k=7∨k=8∨k=9:=by omega
 rcases this with rfl|rfl|rfl|rfl|rfl|rfl|rfl|rfl|rfl<;>rfl
def Dp (x:Ax):Bool:=decide (1≤x.kind) && decide (x.kind≤9)
def pJ (x:Ax):Bool:=Dp x && ((kJ x.kind).l || emptyS x.left) && ((kJ x.kind).r || emptyS x.right) && ((kJ x.kind).role || decide (x.role=[])) && ((kJ x.kind).a || decide (x.a=[])) && ((kJ x.kind).b || decide (x.b=[])) &&
 decide ((kJ x.kind).lo≤x.roles.length) && decide ((x.roles.length:Int)≤(kJ x.kind).hi)
set_option maxHeartbeats 2000000 in
@[simp] theorem adF (x:Ax) (s:St) (cx:Ctx):aj P0 (.fn (.func rC) [] []) [cu x] s cx=.ret (.b (pJ x)) s:=by
 refine L6 (by simp) ?_;by_cases h1:x.kind<1
 ·simp [af,mX,h1,pJ,Dp,show ¬(1≤x.kind) by omega]
 by_cases h9:9<x.kind
 ·simp [af,mX,h1,h9,pJ,Dp,show ¬(x.kind≤9) by omega]
 have b1:0≤x.kind:=by omega
 have b2:x.kind.toNat<10:=by omega
 have b3:7≤70 - x.kind.toNat * 7:=by omega
 have hu:=aa6 (k:=x.kind) (by omega) (by omega);have hk:Dp x=true:=by simp [Dp];omega
 unfold pJ;rw [hk];have p:x.kind=1∨x.kind=2∨x.kind=3∨x.kind=4∨x.kind=5∨x.kind=6∨x.kind=7∨x.kind=8∨x.kind=9:=by omega
 clear hk;rcases p with k|k|k|k|k|k|k|k|k
 all_goals
  have ku:=congrArg kJ k;rw [ku] at hu ⊢;clear ku k;simp [kJ] at hu ⊢;simp [af,mX,h1,h9,b1,b2,b3,Og,QV,hu];clear hu b1 b2 b3 h1 h9
  repeat' (first | (split<;>(try simp only [gG,gI,gQ,kE,kF])<;>(try simp [*])) | (simp only [gG,gI,gQ,kE,kF]<;>(try simp [*]))|omega)
def allPlain:List Rl→Bool
 | []=>true
 | r::l=>oV r && allPlain l
def zo (l:Rl):Bool:=oV l || Ny l
def Dl (x:Ax) (u:Use):Bool:=(!u.role || oV x.role) && (!u.a || zo x.a) && (!u.b || zo x.b) && allPlain x.roles
theorem FH (s:St) (cx:Ctx) (z:Bool) (l:List Rl) (hl:l.length≤1152921504606846976):∀(p:List Rl) (i:Nat),l.drop i=p→
  ∃j:Int,gY (aB P0.glob (aj P0) cx false qK) [36,37,38] [(36,.v (slf z (l.map .s))),(37,.v (.i .i64 l.length)),(38,.v (.i .i64 i))] s=
   if allPlain p=true then .exit 0 [(36,.v (slf z (l.map .s))),(37,.v (.i .i64 l.length)),(38,.v (.i .i64 j)),(39,.v (.b false))] s else .ret [(4,.v (.b false))] s
 | [],i,h=>by
  have h1:¬i<l.length:=Nat.not_lt.2 (drop_nil h);refine ⟨i,ak fun K hK=>?_⟩;simp [qK,h1,allPlain]
 | b::r,i,h=>by
  obtain ⟨h1,h2,h3,h4⟩:=drop_cons h;have h5:=h4 h3;have hw:=wI (i:=i) (by omega);obtain ⟨j,ih⟩:=FH s cx z l hl r (i+1) h2;refine ⟨j,ak fun K hK=>?_⟩;rw [←hK,show ((i+1:Nat):Int)=(i:Int)+1 from rfl] at ih;clear hK h4
  rcases Bool.eq_false_or_eq_true (oV b) with hin|hin <;>
   simp [qK,h3,h5,hw,ih,allPlain,hin]
set_option maxHeartbeats 1000000 in
theorem Qo (x:Ax) (u:Use) (hl:x.roles.length≤1152921504606846976) (ha:x.a.length≤1152921504606846976) (hb:x.b.length≤1152921504606846976) (s:St) (cx:Ctx):
  aj P0 (.fn (.func tX) [] []) [cu x,aaD u] s cx=.ret (.b (Dl x u)) s:=by
 refine N8 (by simp) ?_;obtain ⟨j,h⟩:=FH s ⟨s.length,s.length⟩ x.z x.roles hl x.roles 0 rfl;have e1:∀(s:St) (cx:Ctx),aj P0 (.fn (.func jQ) [] []) [.s x.a] s cx=.ret (.i .i64 (if zo x.a=true then 0 else 20)) s:=CW x.a ha;have e2:∀(s:St) (cx:Ctx),aj P0 (.fn (.func jQ) [] []) [.s x.b] s cx=.ret (.i .i64 (if zo x.b=true then 0 else 20)) s:=CW x.b hb;simp at h;unfold Dl;generalize zo x.a=pa at e1 ⊢;generalize zo x.b=pb at e2 ⊢
 cases pa<;>cases pb<;>simp only [if_true,Bool.false_eq_true,if_false] at e1 e2
 all_goals
  rcases Bool.eq_false_or_eq_true (allPlain x.roles) with hp|hp
  ·rw [hp,if_pos rfl] at h;rw [hp];clear hp;simp [af,qR,e1,e2]
   repeat' (first | (split<;>(try simp only [gG,gI,gQ,kE,kF])<;>(try simp [*])) | (simp only [gG,gI,gQ,kE,kF]<;>(try simp [*]))|omega)
  ·rw [hp,if_neg (by simp)] at h;rw [hp];clear hp;simp [af,qR,e1,e2]
   repeat' (first | (split<;>(try simp only [gG,gI,gQ,kE,kF])<;>(try simp [*])) | (simp only [gG,gI,gQ,kE,kF]<;>(try simp [*]))|omega)
mutual
def BF:C→Bool
 | .mk k _ _ _ _ ps=>if k=4 then true else if k=5 then yG ps else false
def yG:List C→Bool
 | []=>false
 | p::r=>BF p || yG r
end
theorem Uf (c:C):BF c=if c.kind=4 then true else if c.kind=5 then yG c.parts else false:=by cases c;simp only [BF,C.LW,C.Gh];rfl
theorem O8 (s:St) (cx:Ctx) (z:Bool) (ps:List C) (A:ps.length≤1152921504606846976)
  (ih:∀p∈ps,∀(s:St) (cx:Ctx),aj P0 (.fn (.func fZ) [] []) [aJ p] s cx=.ret (.b (BF p)) s):∀(I:List C) (i:Nat),ps.drop i=I→
  ∃j:Int,0≤j∧gY (aB P0.glob (aj P0) cx false bI) [0,1,7,8] [(0,.v (slf z (ps.map aJ))),(1,.v (.fn (.func fZ) [] [])),(7,.v (.i .i64 ps.length)),(8,.v (.i .i64 i))] s=
   if yG I=true then .ret [(4,.v (.i .i64 j))] s else .exit 0 [(0,.v (slf z (ps.map aJ))),(1,.v (.fn (.func fZ) [] [])),(7,.v (.i .i64 ps.length)),(8,.v (.i .i64 j)),(9,.v (.b false))] s
 | [],i,h=>by
  have h1:¬i<ps.length:=Nat.not_lt.2 (drop_nil h);refine ⟨i,by omega,ak fun K hK=>?_⟩;simp [bI,h1,yG]
 | p::r,i,h=>by
  obtain ⟨h1,h2,h3,h4⟩:=drop_cons h;have h5:=h4 h3;have hp:p∈ps:=by rw [←h5];exact List.getElem_mem h3
  have hw:=wI (i:=i) (by omega);have e1:=ih p hp;rcases Bool.eq_false_or_eq_true (BF p) with hb|hb
  ·refine ⟨i,by omega,ak fun K hK=>?_⟩;clear hK h4 ih;simp [bI,h3,h5,hw,e1,yG,hb]
  ·obtain ⟨j,hj,x⟩:=O8 s cx z ps A ih r (i+1) h2;refine ⟨j,hj,ak fun K hK=>?_⟩;rw [←hK,show ((i+1:Nat):Int)=(i:Int)+1 from rfl] at x;clear hK h4 ih;simp [bI,h3,h5,hw,e1,yG,hb,x]
theorem FN:∀(c:C),C.Lng c→∀(s:St) (cx:Ctx),aj P0 (.fn (.func fZ) [] []) [aJ c] s cx=.ret (.b (BF c)) s:=by
 refine C.ind' fun c ih hw s cx=>?_;have A:=hw;have x:∀p∈c.parts,∀(s:St) (cx:Ctx),aj P0 (.fn (.func fZ) [] []) [aJ p] s cx=.ret (.b (BF p)) s:=fun p hp=>ih p hp (hw.sub p hp)
 have hI:∀(s:St) (cx:Ctx),∃j:Int,aj P0 (.fn (.func cO) [] []) [slf c.z (c.parts.map aJ),.fn (.func fZ) [] []] s cx=.ret (.i .i64 (if yG c.parts=true then j else -1)) s∧0≤j:=by
  intro s cx;obtain ⟨j,hj,h⟩:=O8 s ⟨cx.lim,s.length⟩ c.z c.parts (by have:=hw.ps;omega) x c.parts 0 rfl;refine ⟨j,rP (by simp) ?_,hj⟩;simp at h
  rcases Bool.eq_false_or_eq_true (yG c.parts) with hb|hb<;>simp [af,dW,h,hb]
 have hC:∀(s:St) (cx:Ctx),aj P0 (.fn (.func bU) [] []) [slf c.z (c.parts.map aJ),.fn (.func fZ) [] []] s cx=.ret (.b (yG c.parts)) s:=by
  intro s cx;obtain ⟨j,e1,hj⟩:=hI s ⟨cx.lim,s.length⟩;refine qA (by simp) ?_
  rcases Bool.eq_false_or_eq_true (yG c.parts) with hb|hb<;>simp [hb] at e1<;>simp [af,dJ,e1,hb,hj]
 refine Qh (by simp) ?_;rw [Uf];by_cases k4:c.kind=4
 ·rw [if_pos k4];simp [af,o8,kd k4]
 ·by_cases k5:c.kind=5
  ·rw [if_neg k4,if_pos k5];simp [af,o8,k4,kd k5,hC]
  ·rw [if_neg k4,if_neg k5];simp [af,o8,k4,k5]
def U9 (k cl cr:Int) (bl br:Bool):Int:=
 if (kJ k).l=true∧cl≠0 then cl else if (kJ k).r=true∧cr≠0 then cr
 else if (k=2∧(bl=true∨br=true))∨((k=1∨k=4∨k=8)∧br=true) then 22 else 0
def fH (x:Ax):Int:=
 if pJ x=false then 22 else if Dl x (kJ x.kind)=false then 20 else U9 x.kind (vz x.left) (vz x.right) (BF x.left) (BF x.right)
structure Ax.Few (x:Ax):Prop where
 l:wC x.left≤150
 r:wC x.right≤150
 roles:x.roles.length≤600
 rs:∀r∈x.roles,r.length≤600
 role:x.role.length≤600
 a:x.a.length≤600
 b:x.b.length≤600
structure Ax.Mid (x:Ax):Prop where
 l:wC x.left≤100000
 r:wC x.right≤100000
 roles:x.roles.length≤600
 a:x.a.length≤600
 b:x.b.length≤600
theorem Ax.Few.mid {x:Ax} (h:x.Few):x.Mid:=⟨by have:=h.l;omega,by have:=h.r;omega,h.roles,h.a,h.b⟩
structure Ax.Lng (x:Ax):Prop where
 l:C.Lng x.left
 r:C.Lng x.right
 roles:x.roles.length≤1152921504606846976
 a:x.a.length≤1152921504606846976
 b:x.b.length≤1152921504606846976
theorem Ax.Mid.lng {x:Ax} (h:x.Mid):x.Lng:=⟨aik _ h.l,aik _ h.r,by have:=h.roles;omega,by have:=h.a;omega,by have:=h.b;omega⟩
theorem dk {x j:Int} (i:Int) (k:x=j):decide (x=i)=decide (j=i):=by subst k;rfl
set_option maxHeartbeats 2000000 in
theorem Ah (x:Ax) (hx:x.Lng) (s:St) (cx:Ctx):aj P0 (.fn (.func jw) [] []) [cu x] s cx=.ret (.i .i64 (fH x)) s:=by
 refine IB (by simp) ?_;unfold fH;rcases Bool.eq_false_or_eq_true (pJ x) with hs|hs
 ·have hk:1≤x.kind∧x.kind≤9:=by simp [pJ,Dp] at hs;omega
  have b1:0≤x.kind:=by omega
  have b2:x.kind.toNat<10:=by omega
  have b3:7≤70 - x.kind.toNat * 7:=by omega
  have hu:=aa6 (k:=x.kind) (by omega) (by omega);have e1:=Qo x (kJ x.kind) (by have:=hx.roles;omega) (by have:=hx.a;omega) (by have:=hx.b;omega);have e2:=yP x.left hx.l;have e3:=yP x.right hx.r;have e4:=FN x.left hx.l;have e5:=FN x.right hx.r;have p:x.kind=1∨x.kind=2∨x.kind=3∨x.kind=4∨x.kind=5∨x.kind=6∨x.kind=7∨x.kind=8∨x.kind=9:=by omega
  rw [hs,if_neg (by simp)];rcases Bool.eq_false_or_eq_true (Dl x (kJ x.kind)) with hn|hn
  ·rw [hn] at e1;rw [hn,if_neg (by simp)];clear hn;generalize hL:vz x.left=cl at e2 ⊢;generalize hR:vz x.right=cr at e3 ⊢;generalize BF x.left=bl at e4 ⊢;generalize BF x.right=br at e5 ⊢;clear hL hR hx hk;rcases p with k|k|k|k|k|k|k|k|k
   all_goals
    have d1:=dk 1 k;have d2:=dk 2 k;have d4:=dk 4 k;have d8:=dk 8 k;have kt:=congrArg (fun i=>U9 i cl cr bl br) k;rw [kt];have ku:=congrArg kJ k;rw [ku] at hu e1;clear ku k kt;simp [kJ] at hu;simp [kJ,aaD] at e1;simp [U9,kJ];simp [af,lF,hs,b1,b2,b3,Og,QV,hu,e1,e2,e3,e4,e5,d1,d2,d4,d8]
    repeat' (first | (split<;>(try simp only [gG,gI,gQ,kE,kF])<;>(try simp [*])) | (simp only [gG,gI,gQ,kE,kF]<;>(try simp [*]))|omega)
  ·rw [hn] at e1;rw [hn,if_pos rfl];generalize kJ x.kind=u at hu e1;simp [af,lF,hs,b1,b2,b3,Og,QV,hu,e1]
 ·rw [hs,if_pos rfl];simp [af,lF,hs]
theorem IZ (x:Ax) (hx:x.Mid) (s:St) (cx:Ctx):aj P0 (.fn (.func jw) [] []) [cu x] s cx=.ret (.i .i64 (fH x)) s:=Ah x hx.lng s cx
theorem BD (x:Ax) (hx:x.Few) (s:St) (cx:Ctx):aj P0 (.fn (.func jw) [] []) [cu x] s cx=.ret (.i .i64 (fH x)) s:=IZ x hx.mid s cx
end Go.Ai.Z
namespace Go.Ai.Z
attribute [local simp] List.length_pos_iff
end Go.Ai.Z
namespace Go.Ai.Z
structure Ax.Ok (x:Ax):Prop where
 l:x.left.Ok
 r:x.right.Ok
 roles:x.roles.length≤1125899906842624
 rs:∀r∈x.roles,r.length≤1125899906842624
 role:x.role.length≤1125899906842624
 a:x.a.length≤1125899906842624
 b:x.b.length≤1125899906842624
theorem DZ (z:Bool) (x:List Rl) (cs:List AV) (A:cs[12]?=some (slf z (x.map .s))) (hb:∀r∈x,r.length≤1125899906842624):
  ∀(J:List Rl) (i n:Nat),x.drop i=J→n≤20 * 1125899906842624+i * 1125899906842624→i≤100→
  ∃(v:Nat) (j:Int),(∀s cx,gY (aB P0.glob (aj P0) cx false mO) [1,3,4] [(1,.bx cs),(3,.v (.i .i64 n)),(4,.v (.i .i64 i))] s=
    .exit 0 [(1,.bx cs),(3,.v (.i .i64 v)),(4,.v (.i .i64 j)),(29,.v (.b false))] s)∧n≤v∧(x.length≤100→∀r∈J,r.length≤v)
 | [],i,n,h,hn,hi=>by
  have h1:¬i<x.length:=Nat.not_lt.2 (drop_nil h);refine ⟨n,i,fun s cx=>ak fun K hK=>?_,Nat.le_refl _,fun _ r hr=>by cases hr⟩;simp [mO,A,h1]
 | p::r,i,n,h,hn,hi=>by
  obtain ⟨h1,h2,h3,h4⟩:=drop_cons h;have h5:=h4 h3;have hp:p∈x:=by rw [←h5];exact List.getElem_mem h3
  have I:=hb p hp;have hw:=wI (i:=i) (by omega);by_cases hi':i<100
  ·obtain ⟨v,j,ih,q1,q2⟩:=DZ z x cs A hb r (i+1) (n+p.length) h2 (by omega) (by omega);refine ⟨v,j,fun s cx=>ak fun K hK=>?_,by omega,fun hl y hy=>?_⟩
   ·have ih:=ih s cx;rw [←hK,show ((i+1:Nat):Int)=(i:Int)+1 from rfl] at ih;clear hK h4;have w3:IntKind.i64.wrap ((n:Int)+p.length)=(n:Int)+p.length:=w64 (by omega) (by omega);have c1:((i:Int)<100):=by omega
    simp at ih;simp [mO,A,h3,h5,hw,w3,c1,ih]
   ·rcases List.mem_cons.1 hy with rfl|hy
    ·omega
    ·exact q2 hl y hy
  ·have c1:¬((i:Int)<100):=by omega
   refine ⟨n,i,fun s cx=>ak fun K hK=>?_,Nat.le_refl _,fun hl=>by omega⟩;simp [mO,A,h3,c1]
theorem Oq (x:Ax) (hx:x.Ok):∃b:Bool,(∀s cx,aj P0 (.fn (.func rE) [] []) [cu x] s cx=.ret (.b b) s)∧(b=true→x.Few):=by
 obtain ⟨ol,or,o1,o2,o3,o4,o5⟩:=hx;obtain ⟨bl,el,p⟩:=PG x.left ol;obtain ⟨br,er,A⟩:=PG x.right or;obtain ⟨v,j,h,q1,q2⟩:=DZ x.z x.roles (cellsA x) rfl o2 x.roles 0 (x.role.length+x.a.length+x.b.length+10 * x.roles.length) rfl (by omega) (by omega);refine ⟨decide (v≤600) && bl && br,fun s cx=>Mc (by simp) ?_,fun hb=>?_⟩
 ·have h:=h s ⟨s.length,s.length⟩;have w1:IntKind.i64.wrap ((x.role.length:Int)+x.a.length)=(x.role.length:Int)+x.a.length:=w64 (by omega) (by omega);have w2:IntKind.i64.wrap ((x.role.length:Int)+x.a.length+x.b.length)=(x.role.length:Int)+x.a.length+x.b.length:=w64 (by omega) (by omega);have w3:IntKind.i64.wrap (10 * (x.roles.length:Int))=10 * (x.roles.length:Int):=w64 (by omega) (by omega);have w4:IntKind.i64.wrap ((x.role.length:Int)+x.a.length+x.b.length+10 * x.roles.length)=(x.role.length:Int)+x.a.length+x.b.length+10 * x.roles.length:=w64 (by omega) (by omega);have c1:((v:Int)≤600)=(v≤600):=by simp;omega
  simp [cellsA] at h
  by_cases hv:v≤600<;>cases bl<;>cases br<;>simp [af,uH,w1,w2,w3,w4,h,el,er,c1,hv]
 ·simp only [Bool.and_eq_true,decide_eq_true_eq] at hb;obtain ⟨⟨hv,h1⟩,h2⟩:=hb;exact ⟨p h1,A h2,by omega,fun r hr=>by have:=q2 (by omega) r hr;omega,by omega,by omega,by omega⟩
theorem Cm (z:Bool) (l:List Ax) (hl:l.length≤1000) (hx:∀x∈l,x.Ok):
  ∀(A:List Ax) (i:Nat),l.drop i=A→
  ∃(b:Bool) (j:Int),(∀s cx,gY (aB P0.glob (aj P0) cx false lM) [0,5] [(0,.v (slf z (l.map cu))),(5,.v (.i .i64 i))] s=
    if b=true then .exit 0 [(0,.v (slf z (l.map cu))),(5,.v (.i .i64 j)),(13,.v (.b false))] s else .ret [(4,.v (.b false))] s)∧(b=true→∀x∈A,x.Few)
 | [],i,h=>by
  have h1:¬i<l.length:=Nat.not_lt.2 (drop_nil h);refine ⟨true,i,fun s cx=>ak fun K hK=>?_,fun _ r hr=>by cases hr⟩;simp [lM,h1]
 | p::r,i,h=>by
  obtain ⟨h1,h2,h3,h4⟩:=drop_cons h;have h5:=h4 h3;have hp:p∈l:=by rw [←h5];exact List.getElem_mem h3
  have hw:=wI (i:=i) (by omega);obtain ⟨b1,e1,f1⟩:=Oq p (hx p hp)
  cases b1 with
  | false=>
   refine ⟨false,i,fun s cx=>ak fun K hK=>?_,fun h=>by cases h⟩;clear h4;simp [lM,h3,h5,hw,e1]
  | true=>
   obtain ⟨b,j,ih,q⟩:=Cm z l hl hx r (i+1) h2;refine ⟨b,j,fun s cx=>ak fun K hK=>?_,fun hb y hy=>?_⟩
   ·have ih:=ih s cx;rw [←hK,show ((i+1:Nat):Int)=(i:Int)+1 from rfl] at ih;clear hK h4;simp [lM,h3,h5,hw,e1,ih]
   ·rcases List.mem_cons.1 hy with rfl|hy
    ·exact f1 rfl
    ·exact q hb y hy
theorem KC (m:Nat) (hm:m≤1000) (z:Bool) (l:List Ax) (hl:l.length≤1125899906842624) (hx:∀x∈l,x.Ok):∃b:Bool,(∀s cx,aj P0 (.fn (.func qc) [] []) [slf z (l.map cu),.i .i64 m] s cx=.ret (.b b) s)∧(b=true→l.length≤m∧∀x∈l,x.Few):=by
 by_cases h:l.length≤m
 ·have c1:¬((m:Int)<l.length):=by omega
  obtain ⟨b,j,e,q⟩:=Cm z l (by omega) hx l 0 rfl;refine ⟨b,fun s cx=>Bq (by simp) ?_,fun hb=>⟨h,q hb⟩⟩;simp at e
  cases b<;>simp [af,oJ,c1,h,e]
 ·have c1:(m:Int)<l.length:=by omega
  refine ⟨false,fun s cx=>Bq (by simp) ?_,fun h=>by cases h⟩;have c2:m<l.length:=by omega
  simp [af,oJ,c1,c2]
end Go.Ai.Z
