/-
 Names: what the program's and the reference's functions on them answer.
-/
import Derived.Test.YtcofenimejmoeaaGreatDoorAiC2
import Derived.Test.YtcofenimejmoeaaGreatDoorAiSxD
set_option maxRecDepth 100000
set_option linter.unusedSimpArgs false
set_option linter.unusedVariables false
set_option linter.unusedSectionVars false
namespace Go.Ai.Z
def lC (b:UInt8):Rl→Option (Rl×Rl)
 | []=>none
 | x::r=>if x=b then some ([],r) else (lC b r).map fun p=>(x::p.1,p.2)
theorem yU {b:UInt8}:∀{l:Rl},lC b l=none ↔ b ∉ l
 | []=>by simp [lC]
 | x::r=>by
  by_cases h:x=b
  ·simp [lC,h]
  ·have:=yU (b:=b) (l:=r)
   simp [lC,h,this,Ne.symm h]
theorem wu {b:UInt8}:∀{l x y:Rl},lC b l=some (x,y)→l=x++b::y
 | [],_,_,h=>by simp [lC] at h
 | c::r,x,y,h=>by
  by_cases hc:c=b
  ·simp [lC,hc] at h;obtain ⟨rfl,rfl⟩:=h;simp [hc]
  ·simp [lC,hc] at h;obtain ⟨p,q,rfl⟩:=h;simp [wu q]
theorem index_none {b:UInt8}:∀{l:Rl},lC b l=none→Go.Lib.indexByte l b=-1
 | [],_=>rfl
 | c::r,h=>by
  by_cases hc:c=b
  ·simp [lC,hc] at h
  ·simp [lC,hc] at h;simp [Go.Lib.indexByte,hc,index_none h]
theorem Eg {b:UInt8}:∀{l x y:Rl},lC b l=some (x,y)→Go.Lib.indexByte l b=x.length
 | [],_,_,h=>by simp [lC] at h
 | c::r,x,y,h=>by
  by_cases hc:c=b
  ·simp [lC,hc] at h;obtain ⟨rfl,rfl⟩:=h;simp [Go.Lib.indexByte,hc]
  ·simp [lC,hc] at h;obtain ⟨p,q,rfl⟩:=h
   have:=Eg q
   have h1:¬((p.length:Int)=-1):=by omega
   simp [Go.Lib.indexByte,hc,this,h1]
theorem Wx (l:Rl) (b:UInt8) (s:St) (cx:Ctx):aj P0 (.fn (.func jZ) [] []) [.s l,.s [b]] s cx=.ret (.i .i64 (Go.Lib.indexByte l b)) s:=
 sH (h:=Ip VT) rfl rfl
theorem LH (l:Rl) (b:UInt8) (hl:l.length≤1152921504606846976) (s:St) (cx:Ctx):aj P0 (.fn (.func jr) [] []) [.s l,.s [b]] s cx=
  .ret (match lC b l with|some (x,y)=>.tu [.s x,.s y,.b true] | none=>.tu [.s l,.s [],.b false]) s:=by
 refine Ag (by simp) ?_
 cases hc:lC b l with
 | none=>simp [af,jc,Wx,index_none hc]
 | some p=>
  obtain ⟨x,y⟩:=p;have hi:=Eg hc;have he:=wu hc;have hlen:l.length=x.length+(y.length+1):=by rw [he];simp
  have w1:IntKind.i64.wrap ((x.length:Int)+1)=(x.length:Int)+1:=w64 (by omega) (by omega);have e1:l.take x.length=x:=by rw [he];simp
  have e2:(l.drop (x.length+1)).take (l.length - (x.length+1))=y:=by
   rw [hlen,he,show x.length+1=(x++[b]).length from by simp,show x++b::y=(x++[b])++y from by simp,List.drop_left];exact List.take_of_length_le (by simp;omega)
  clear he;have hn:((x.length:Int)+1).toNat=x.length+1:=by omega
  have h0:(0:Int)≤(x.length:Int)+1:=by omega
  have g1:x.length≤l.length:=by omega
  have g2:x.length+1≤l.length:=by omega
  simp [af,jc,Wx,hi,w1,hn,h0,g1,g2,e1,e2]
theorem zk (l:Rl) (b:UInt8) (hl:l.length≤1152921504606846976) (s:St) (cx:Ctx):aj P0 (.fn (.func qc) [] []) [.s l,.s [b]] s cx=
  .ret (match lC b l with|some (x,y)=>.tu [.s x,.s y,.b true] | none=>.tu [.s l,.s [],.b false]) s:=by
 refine Ri (by simp) ?_;have e1:=LH l b hl
 cases hc:lC b l with
 | none=>rw [hc] at e1;simp [af,uH,e1]
 | some p=>obtain ⟨x,y⟩:=p;rw [hc] at e1;simp [af,uH,e1]
def abx (k:Int):Bool:=decide (97≤k) && decide (k≤122) || decide (65≤k) && decide (k≤90)
def ah2 (k:Int):Bool:=abx k || decide (48≤k) && decide (k≤57) || decide (k=95)
def akq (b:UInt8):Bool:=abx b.toNat
def Zj (b:UInt8):Bool:=ah2 b.toNat
def Ik:Rl→Bool
 | []=>true
 | b::r=>Zj b && Ik r
theorem aaY:Ik []=true:=rfl
theorem IV (b:UInt8) (r:Rl):Ik (b::r)=(Zj b && Ik r):=rfl
def keywords:List Rl:=
 [[97,110,100],[115,111,109,101],[105,110],[116,111],[110,111,116,104,105,110,103],wD3,[111,110,101],[111,102],
  [111,112,101,110],[112,114,105,118,97,116,101],[115,117,98],[115,97,109,101],[100,105,115,106,111,105,110,116],[100,111,109,97,105,110],[114,111,108,101],
  [99,104,97,105,110],[114,101,102,108,101,120,105,118,101],[116,121,112,101],[108,105,110,107],[115,101,108,101,99,116],[119,104,101,114,101],[111,114]]
def kwS (l:Rl):Bool:=keywords.contains l
def AB (l:Rl):Bool:=(match l with | []=>false|b::_=>akq b) && Ik l && !kwS l
def oJ (l:Rl):Bool:=decide (l.length≤24) && (match lC 58 l with|some (x,y)=>AB x && AB y|none=>AB l)
def L6 (l:Rl):Bool:=decide (2≤l.length) && decide (l.length≤24) && (match l with | []=>false|b::_=>decide ((b.toNat:Int)=95)) && Ik l
@[simp] theorem acB (k:Int) (s:St) (cx:Ctx):aj P0 (.fn (.func nT) [] []) [.i .u8 k] s cx=.ret (.b (abx k)) s:=by
 refine KW (by simp) ?_;simp [af,ug,abx]
 repeat' (split<;>simp only [fZ,gm,gy]<;>simp [*])
theorem FU (s:St) (cx:Ctx) (l:Rl) (hl:l.length≤1152921504606846976):∀(rest:Rl) (i:Nat),l.drop i=rest→
  ∃j:Int,gQ (aB P0.glob (aj P0) cx false rW) [6,7,8] [(6,.v (.sl (aC l))),(7,.v (.i .i64 l.length)),(8,.v (.i .i64 i))] s=
   if Ik rest=true then .exit 0 [(6,.v (.sl (aC l))),(7,.v (.i .i64 l.length)),(8,.v (.i .i64 j)),(9,.v (.b false))] s else .ret [(2,.v (.b false))] s
 | [],i,h=>by
  have h1:¬i<l.length:=Nat.not_lt.2 (drop_nil h);refine ⟨i,ak fun K hK=>?_⟩;simp [rW,h1,aaY]
 | b::r,i,h=>by
  obtain ⟨h1,h2,h3,h4⟩:=drop_cons h;have h5:=h4 h3;have hb:(aC l)[i]?=some (.i .u8 b.toNat):=by simp [aC,h1]
  have hw:=wI (i:=i) (by omega);obtain ⟨j,ih⟩:=FU s cx l hl r (i+1) h2;refine ⟨j,ak fun K hK=>?_⟩;rw [←hK,show ((i+1:Nat):Int)=(i:Int)+1 from rfl] at ih;clear hK
  rcases Bool.eq_false_or_eq_true (Zj b) with hin|hin<;>rcases Bool.eq_false_or_eq_true (abx b.toNat) with hlt|hlt <;>
  ·have hin':=hin;simp [Zj,ah2,hlt] at hin'
   try simp [rW,h3,hb,IV,hin,hlt,hw,ih]
   repeat' (first | (split<;>(try simp only [fZ,gm,gy,kz,kC])<;>(try simp [*])) | (simp only [fZ,gm,gy,kz,kC]<;>(try simp [*]))|omega)
theorem Gu (l:Rl) (hl:l.length≤1152921504606846976) (s:St) (cx:Ctx):aj P0 (.fn (.func qQ) [] []) [.s l] s cx=.ret (.b (Ik l)) s:=by
 refine O8 (by simp) ?_;obtain ⟨j,h⟩:=FU s ⟨s.length,s.length⟩ l hl l 0 rfl;have hb:(aC l).length=l.length:=by simp [aC]
 simp at h;simp [af,wJ,hb,h]
 repeat' (first | (split<;>(try simp only [fZ,gm,gy,kz,kC])<;>(try simp [*])) | (simp only [fZ,gm,gy,kz,kC]<;>(try simp [*]))|omega)
@[simp] theorem acI (l:Rl) (s:St) (cx:Ctx):aj P0 (.fn (.func tq) [] []) [.s l] s cx=.ret (.b (kwS l)) s:=by
 refine Nh (by simp) ?_;simp [af,vG]
 repeat' (first | (split<;>(try simp only [fZ,gm,gy,kz,kC])<;>(try simp [*])) | (simp only [fZ,gm,gy,kz,kC]<;>(try simp [*]))|omega)
 all_goals first|rfl|simp [kwS,keywords, *]
theorem Ba (l:Rl) (hl:l.length≤1152921504606846976) (s:St) (cx:Ctx):aj P0 (.fn (.func qP) [] []) [.s l] s cx=.ret (.b (AB l)) s:=by
 refine O7 (by simp) ?_
 cases l with
 | nil=>simp [af,sS,AB]
 | cons b r=>
  have e1:=Gu _ hl;simp [af,sS,e1,AB,akq]
  repeat' (first | (split<;>(try simp only [fZ,gm,gy,kz,kC])<;>(try simp [*])) | (simp only [fZ,gm,gy,kz,kC]<;>(try simp [*]))|omega)
theorem Bc (l:Rl) (hl:l.length≤1152921504606846976) (s:St) (cx:Ctx):aj P0 (.fn (.func lT) [] []) [.s l] s cx=.ret (.b (L6 l)) s:=by
 refine Hz (by simp) ?_
 cases l with
 | nil=>simp [af,ng,L6]
 | cons b r=>
  have e1:=Gu _ hl;simp [af,ng,e1,L6]
  repeat' (first | (split<;>(try simp only [fZ,gm,gy,kz,kC])<;>(try simp [*])) | (simp only [fZ,gm,gy,kz,kC]<;>(try simp [*]))|omega)
@[simp] theorem acG (l:Rl) (s:St) (cx:Ctx):aj P0 (.fn (.func lD) [] []) [.s l] s cx=.ret (.b (oJ l)) s:=by
 refine MW (by simp) ?_;by_cases hl:l.length≤24
 ·have hn:¬((24:Int)<l.length):=by omega
  cases hc:lC 58 l with
  | none=>
   have hcut:=zk l 58 (by omega);rw [hc] at hcut;simp only [] at hcut;have e1:=Ba l (by omega);simp [af,nR,hcut,hn,e1,oJ,hc,hl]
   repeat' (first | (split<;>(try simp only [fZ,gm,gy,kz,kC])<;>(try simp [*])) | (simp only [fZ,gm,gy,kz,kC]<;>(try simp [*]))|omega)
  | some p=>
   obtain ⟨x,y⟩:=p;have hcut:=zk l 58 (by omega);rw [hc] at hcut;simp only [] at hcut
   have:=wu hc
   have hx:x.length≤1152921504606846976:=by have:=congrArg List.length this;simp at this;omega
   have hy:y.length≤1152921504606846976:=by have:=congrArg List.length this;simp at this;omega
   clear this;have e1:=Ba x hx;have e2:=Ba y hy;simp [af,nR,hcut,hn,e1,e2,oJ,hc,hl]
   repeat' (first | (split<;>(try simp only [fZ,gm,gy,kz,kC])<;>(try simp [*])) | (simp only [fZ,gm,gy,kz,kC]<;>(try simp [*]))|omega)
 ·have hn:(24:Int)<l.length:=by omega
  simp [af,nR,hn,oJ,hl]
end Go.Ai.Z
namespace Go.Ai.Z
theorem Iu (c:C) (hps:c.parts.length≤1152921504606846976) (d m:Int) (hd:d≤1000) (hd':-1000≤d) (hm:0≤m) (hm':m≤100000)
  (ih:∀p∈c.parts,∀(d m:Int),d≤1000→-1001≤d→0≤m→m≤100000→
   ∃v:Int,(∀s cx,aj P0 (.fn (.func qf) [] []) [aJ p,.i .i64 d,.i .i64 m] s cx=.ret (.i .i64 v) s)∧1≤v∧v≤m+1152921504606846976∧(v≤m→wC p≤v)):
  ∀(rest:List C) (i:Nat) (n:Int),c.parts.drop i=rest→1≤n→n≤m+1152921504606846976→
  ∃v j:Int,(∀s cx,gQ (aB P0.glob (aj P0) cx false oW) [1,2,3,7,8] [(1,.v (.i .i64 d)),(2,.v (.i .i64 m)),(3,.bx (aJ c).cells),(7,.v (.i .i64 n)),(8,.v (.i .i64 i))] s=
   .exit 0 [(1,.v (.i .i64 d)),(2,.v (.i .i64 m)),(3,.bx (aJ c).cells),(7,.v (.i .i64 v)),(8,.v (.i .i64 j)),(27,.v (.b false))] s)∧
   1≤v∧v≤m+1152921504606846976∧(v≤m→n+wL rest≤v)
 | [],i,n,h,hn,hn'=>by
  have h1:¬i<c.parts.length:=Nat.not_lt.2 (drop_nil h);refine ⟨n,i,fun s cx=>ak fun K hK=>?_,hn,hn',fun _=>by simp [wL]⟩;simp [oW,h1]
 | p::r,i,n,h,hn,hn'=>by
  obtain ⟨h1,h2,h3,h4⟩:=drop_cons h;have h5:=h4 h3;have hp:p∈c.parts:=by rw [←h5];exact List.getElem_mem h3
  have hw:=wI (i:=i) (by omega);by_cases hnm:n≤m
  ·obtain ⟨v',e1,q1,q2,q3⟩:=ih p hp (d - 1) (m - n) (by omega) (by omega) (by omega) (by omega);obtain ⟨v,j,ih2,r1,r2,r3⟩:=Iu c hps d m hd hd' hm hm' ih r (i+1) (n+v') h2 (by omega) (by omega);refine ⟨v,j,fun s cx=>ak fun K hK=>?_,r1,r2,fun hv=>?_⟩
   ·have ih2:=ih2 s cx;rw [←hK,show ((i+1:Nat):Int)=(i:Int)+1 from rfl] at ih2;clear hK h4 ih;have w1:IntKind.i64.wrap (d - 1)=d - 1:=w64 (by omega) (by omega);have w2:IntKind.i64.wrap (m - n)=m - n:=w64 (by omega) (by omega);have w3:IntKind.i64.wrap (n+v')=n+v':=w64 (by omega) (by omega);simp at ih2;simp [oW,h3,h5,hnm,w1,w2,w3,hw,e1,ih2]
   ·have:=r3 hv;simp only [wL];have:=q3 (by omega);omega
  ·refine ⟨n,i,fun s cx=>ak fun K hK=>?_,hn,hn',fun hv=>by omega⟩;simp [oW,h3,hnm]
theorem TM:∀(c:C),c.Ok→∀(d m:Int),d≤1000→-1001≤d→0≤m→m≤100000→
  ∃v:Int,(∀s cx,aj P0 (.fn (.func qf) [] []) [aJ c,.i .i64 d,.i .i64 m] s cx=.ret (.i .i64 v) s)∧1≤v∧v≤m+1152921504606846976∧(v≤m→wC c≤v):=by
 refine C.ind' fun c ih hok d m hd hd' hm hm'=>?_
 cases hok with
 | mk _ hn hps hk hl hh hp=>
  by_cases h0:d≤0
  ·have w1:IntKind.i64.wrap (m+1)=m+1:=w64 (by omega) (by omega);refine ⟨m+1,fun s cx=>F8 (by simp) ?_,by omega,by omega,by omega⟩;simp [af,uJ,h0,w1]
  ·have hdiv:((c.name.length:Int).tdiv 40)=((c.name.length / 40:Nat):Int):=by rw [Int.tdiv_eq_ediv_of_nonneg (by omega)];omega
   have w1:IntKind.i64.wrap ((c.name.length / 40:Nat):Int)=((c.name.length / 40:Nat):Int):=w64 (by omega) (by omega);have w2:IntKind.i64.wrap (1+((c.name.length / 40:Nat):Int))=1+((c.name.length / 40:Nat):Int):=w64 (by omega) (by omega);obtain ⟨v,j,h,r1,r2,r3⟩:=Iu c hps d m hd (by omega) hm hm' (fun p hp'=>ih p hp' (hp p hp')) c.parts 0 (1+((c.name.length / 40:Nat):Int)) rfl (by omega) (by omega);refine ⟨v,fun s cx=>F8 (by simp) ?_,r1,r2,fun hv=>?_⟩
   ·simp at h;rw [show ((c.name.length / 40:Nat):Int)=(c.name.length:Int) / 40 from by omega] at hdiv w1 w2;simp [af,uJ,h0,hdiv,w1,w2,h]
   ·have:=r3 hv;rw [Bz];omega
theorem OD (c:C) (h:c.Ok):∃b:Bool,(∀s cx,aj P0 (.fn (.func xB) [] []) [aJ c] s cx=.ret (.b b) s)∧(b=true→wC c≤150):=by
 obtain ⟨v,e,r1,r2,r3⟩:=TM c h 40 150 (by omega) (by omega) (by omega) (by omega);refine ⟨decide (v≤150),fun s cx=>?_,fun hv=>by simp at hv;have:=r3 hv;omega⟩;refine VU (by simp) ?_;simp [af,Ae,e]
def kQ (c:C):Bool:=
 let plain:=decide (c.lo=0) && decide (c.hi=0)
 if c.kind=1 then plain && decide (c.name=[]) && decide ((c.parts.length:Int)=0)
 else if c.kind=2 then plain && decide (c.name=[]) && decide ((c.parts.length:Int)=0)
 else if c.kind=3 then plain && decide ((c.parts.length:Int)=0)
 else if c.kind=4 then plain && decide ((c.parts.length:Int)=0)
 else if c.kind=5 then plain && decide (c.name=[]) && decide ((2:Int)≤c.parts.length) && decide ((c.parts.length:Int)≤8)
 else if c.kind=6 then plain && decide ((c.parts.length:Int)=1)
 else if c.kind=7 then decide ((c.parts.length:Int)=0) && decide (-1099511627776≤c.lo) && decide (c.lo≤c.hi) && decide (c.hi≤1099511627776)
 else false
def tX (c:C):Bool:=
 if c.kind=3 then oJ c.name
 else if c.kind=6 then oJ c.name
 else if c.kind=7 then oJ c.name
 else if c.kind=4 then oJ c.name || L6 c.name
 else true
mutual
def iG:C→Int
 | .mk k n l h z ps=>if kQ (.mk k n l h z ps)=false then 21 else if tX (.mk k n l h z ps)=false then 20 else rG ps
def rG:List C→Int
 | []=>0
 | p::r=>if iG p=0 then rG r else iG p
end
theorem CU (c:C):iG c=if kQ c=false then 21 else if tX c=false then 20 else rG c.parts:=by cases c;simp [iG]
def uP (c:C):Int:=if 8<yT c∨64<nV c then 21 else iG c
end Go.Ai.Z
namespace Go.Ai.Z
def su (c:C):Int:=if kQ c=false then 21 else if tX c=false then 20 else 0
theorem Zo:P0.glob CQ=some [.i .i64 0,.i .i64 0,.i .i64 0,.b false,.i .i64 0,.i .i64 0,.i .i64 0,.b false,.i .i64 0,.i .i64 0,.i .i64 0,.b false,.i .i64 1,.i .i64 0,.i .i64 0,.b false,.i .i64 2,.i .i64 0,.i .i64 0,.b false,.i .i64 0,.i .i64 2,.i .i64 8,.b false,.i .i64 1,.i .i64 1,.i .i64 1,.b false,.i .i64 1,.i .i64 0,.i .i64 0,.b true]:=rfl
theorem Ig (c:C) (hn:c.name.length≤1152921504606846976) (s:St) (cx:Ctx):aj P0 (.fn (.func nG) [] []) [aJ c] s cx=.ret (.i .i64 (su c)) s:=by
 refine F7 (by simp) ?_;have e1:=Bc c.name hn;by_cases h0:c.kind<1
 ·have:kQ c=false:=by simp [kQ,show ¬c.kind=1 by omega,show ¬c.kind=2 by omega,show ¬c.kind=3 by omega,show ¬c.kind=4 by omega,show ¬c.kind=5 by omega,show ¬c.kind=6 by omega,show ¬c.kind=7 by omega]
  simp [af,kG,h0,su,this]
 by_cases h8:7<c.kind
 ·have:kQ c=false:=by simp [kQ,show ¬c.kind=1 by omega,show ¬c.kind=2 by omega,show ¬c.kind=3 by omega,show ¬c.kind=4 by omega,show ¬c.kind=5 by omega,show ¬c.kind=6 by omega,show ¬c.kind=7 by omega]
  simp [af,kG,h0,h8,su,this]
 have hk:c.kind=1∨c.kind=2∨c.kind=3∨c.kind=4∨c.kind=5∨c.kind=6∨c.kind=7:=by omega
 rcases hps:c.parts with _|⟨a,_|⟨b,r⟩⟩<;>rcases hk with hk|hk|hk|hk|hk|hk|hk
 all_goals
  clear h0 h8;simp [af,kG,hk,Zo,su,kQ,tX,hps]
  repeat' (first | (split<;>(try simp only [fZ,gm,gy,kz,kC])<;>(try simp [*])) | (simp only [fZ,gm,gy,kz,kC]<;>(try simp [*]))|omega)
end Go.Ai.Z
namespace Go.Ai.Z
mutual
def yu:C→Nat→Nat→Bool×Nat
 | .mk _ _ _ _ _ ps,d,n=>if 8<d∨64<n+1 then (false,n+1) else Ej ps d (n+1)
def Ej:List C→Nat→Nat→Bool×Nat
 | [],_,n=>(true,n)
 | p::r,d,n=>if (yu p (d+1) n).1=true then Ej r d (yu p (d+1) n).2 else (false,(yu p (d+1) n).2)
end
theorem Ll (c:C) (d n:Nat):yu c d n=if 8<d∨64<n+1 then (false,n+1) else Ej c.parts d (n+1):=by cases c;simp [yu]
theorem agd:∀(c:C) (d n:Nat),n≤64→(yu c d n).2≤65∧((yu c d n).1=true→(yu c d n).2≤64):=by
 refine C.ind' fun c ih d n hn=>?_
 have hL:∀(l:List C),(∀p∈l,∀(d n:Nat),n≤64→(yu p d n).2≤65∧((yu p d n).1=true→(yu p d n).2≤64))→∀n,n≤64→(Ej l d n).2≤65∧((Ej l d n).1=true→(Ej l d n).2≤64):=by
  intro l
  induction l with
  | nil=>intro _ n hn;simp [Ej];omega
  | cons p r ih=>
   intro h n hn;have h1:=h p (by simp) (d+1) n hn;simp only [Ej];split
   ·rename_i ht;exact ih (fun q hq=>h q (by simp [hq])) _ (h1.2 ht)
   ·exact ⟨h1.1,by simp⟩
 rw [Ll];split
 ·exact ⟨by simp;omega,by simp⟩
 ·exact hL c.parts ih _ (by omega)
theorem agf:∀(c:C) (d n:Nat),n≤64→((yu c d n).1=true ↔ d+yT c≤8∧n+nV c≤64)∧((yu c d n).1=true→(yu c d n).2=n+nV c):=by
 refine C.ind' fun c ih d n hn=>?_
 have hL:∀(l:List C),(∀p∈l,∀(d n:Nat),n≤64→((yu p d n).1=true ↔ d+yT p≤8∧n+nV p≤64)∧((yu p d n).1=true→(yu p d n).2=n+nV p))→∀n,n≤64→d≤8→
   ((Ej l d n).1=true ↔ d+En l≤8∧n+zN l≤64)∧((Ej l d n).1=true→(Ej l d n).2=n+zN l):=by
  intro l
  induction l with
  | nil=>intro _ n hn hd;simp [Ej,En,zN];omega
  | cons p r ih=>
   intro h n hn hd;have h1:=h p (by simp) (d+1) n hn;simp only [Ej,En,zN];by_cases ht:(yu p (d+1) n).1=true
   ·have h2:=h1.2 ht;have h3:=h1.1.1 ht;rw [if_pos ht];have h4:=ih (fun q hq=>h q (by simp [hq])) (yu p (d+1) n).2 (by omega) hd;rw [h2] at h4 ⊢;refine ⟨h4.1.trans ⟨fun h=>⟨by omega,by omega⟩,fun h=>⟨by omega,by omega⟩⟩,fun h=>by rw [h4.2 h];omega⟩
   ·rw [if_neg ht];refine ⟨⟨fun h=>by simp at h,fun h=>absurd (h1.1.2 ⟨by omega,by omega⟩) ht⟩,fun h=>by simp at h⟩
 rw [Ll,Nl,CX];have hL:=hL c.parts ih;split
 ·rename_i h;refine ⟨⟨fun h=>by simp at h,fun h=>by omega⟩,fun h=>by simp at h⟩
 ·have:=hL (n+1) (by omega) (by omega)
  refine ⟨this.1.trans ⟨fun h=>⟨by omega,by omega⟩,fun h=>⟨by omega,by omega⟩⟩,fun h=>by rw [this.2 h];omega⟩
theorem Qc {T:St} {l:Nat} {v:fP} (h:T[l]?=some v):T.set l v=T:=by
 obtain ⟨h1,h2⟩:=List.getElem?_eq_some_iff.1 h;rw [←h2];exact List.set_getElem_self h1
inductive C.Lng:C→Prop where
 | mk (c:C) (hn:c.name.length≤1152921504606846976) (hps:c.parts.length≤1152921504606846976) (hp:∀p∈c.parts,C.Lng p):C.Lng c
theorem C.Lng.n {c:C} (h:C.Lng c):c.name.length≤1152921504606846976:=by cases h;assumption
theorem C.Lng.ps {c:C} (h:C.Lng c):c.parts.length≤1152921504606846976:=by cases h;assumption
theorem C.Lng.sub {c:C} (h:C.Lng c):∀p∈c.parts,C.Lng p:=by cases h;assumption
theorem C.Ok.lng {c:C} (h:C.Ok c):C.Lng c:=by
 induction h with
 | mk c hn hps _ _ _ _ ih=>exact .mk c hn hps ih
theorem ag2:∀c:C,wC c≤100000→C.Lng c:=by
 refine C.ind' fun c ih hw=>?_;have hl:=PZ c.parts;rw [Bz] at hw;exact .mk c (by omega) (by omega) fun p hp=>ih p hp (by have:=LW hp;omega)
theorem KO (c:C) (hw:C.Lng c) (cx:Ctx) (l:Nat) (hcl:cx.lim≤l) (d:Nat) (hd:d≤8)
  (ih:∀p∈c.parts,∀(d n:Nat) (s:St) (cx:Ctx),d≤100→n≤64→cx.lim≤l→s[l]?=some (.cells [.i .i64 n])→
   aj P0 (.fn (.func sK) [] []) [aJ p,.i .i64 d,.pt l 0] s cx=.ret (.b (yu p d n).1) (s.set l (.cells [.i .i64 (yu p d n).2]))):
  ∀(rest:List C) (i:Nat) (n:Nat) (s:St),n≤64→s[l]?=some (.cells [.i .i64 n])→c.parts.drop i=rest→
  ∃j:Int,gQ (aB P0.glob (aj P0) cx false qH) [1,2,23,24,25] [(1,.v (.i .i64 d)),(2,.v (.pt l 0)),(23,.v (slf c.z (c.parts.map aJ))),(24,.v (.i .i64 c.parts.length)),(25,.v (.i .i64 i))] s=
   if (Ej rest d n).1=true then .exit 0 [(1,.v (.i .i64 d)),(2,.v (.pt l 0)),(23,.v (slf c.z (c.parts.map aJ))),(24,.v (.i .i64 c.parts.length)),(25,.v (.i .i64 j)),(26,.v (.b false))] (s.set l (.cells [.i .i64 (Ej rest d n).2]))
   else .ret [(6,.v (.b false))] (s.set l (.cells [.i .i64 (Ej rest d n).2]))
 | [],i,n,s,hn,hs,h=>by
  have h1:¬i<c.parts.length:=Nat.not_lt.2 (drop_nil h);refine ⟨i,ak fun K hK=>?_⟩;simp [qH,h1,Ej,Qc hs]
 | p::r,i,n,s,hn,hs,h=>by
  obtain ⟨h1,h2,h3,h4⟩:=drop_cons h;have h5:=h4 h3;have hp:p∈c.parts:=by rw [←h5];exact List.getElem_mem h3
  have hwi:=wI (i:=i) (by have:=hw.ps;omega);have hlt:l<s.length:=(List.getElem?_eq_some_iff.1 hs).1;have e1:=ih p hp (d+1) n s cx (by omega) hn hcl hs;have w1:IntKind.i64.wrap ((d:Int)+1)=(d:Int)+1:=w64 (by omega) (by omega);simp at e1;by_cases ht:(yu p (d+1) n).1=true
  ·have hle:=(agd p (d+1) n hn).2 ht;obtain ⟨j,ih2⟩:=KO c hw cx l hcl d hd ih r (i+1) (yu p (d+1) n).2 (s.set l (.cells [.i .i64 (yu p (d+1) n).2])) hle (by simp [hlt]) h2;refine ⟨j,ak fun K hK=>?_⟩;rw [←hK] at ih2;clear hK h4 ih;simp at ih2;simp [qH,h3,h5,hwi,w1,e1,ih2,Ej,ht]
  ·refine ⟨i,ak fun K hK=>?_⟩;clear hK h4 ih;simp [qH,h3,h5,hwi,w1,e1,Ej,ht]
theorem Ws (l:Nat):∀(c:C),C.Lng c→∀(d n:Nat) (s:St) (cx:Ctx),d≤100→n≤64→cx.lim≤l→s[l]?=some (.cells [.i .i64 n])→
   aj P0 (.fn (.func sK) [] []) [aJ c,.i .i64 d,.pt l 0] s cx=.ret (.b (yu c d n).1) (s.set l (.cells [.i .i64 (yu c d n).2])):=by
 refine C.ind' fun c ih hw d n s cx hd hn hcl hs=>?_;have hlt:l<s.length:=(List.getElem?_eq_some_iff.1 hs).1;have w1:IntKind.i64.wrap ((n:Int)+1)=(n:Int)+1:=w64 (by omega) (by omega);have hs':s[l]=.cells [.i .i64 n]:=(List.getElem?_eq_some_iff.1 hs).2;refine Tq (by simp) ?_;by_cases h8:(8:Int)<d
 ·simp [af,tJ,hs',hlt,hcl,w1,h8,Ll c,show 8<d by omega]
 by_cases h64:(64:Int)<(n:Int)+1
 ·simp [af,tJ,hs',hlt,hcl,w1,h8,h64,Ll c,show 64<n+1 by omega]
 ·obtain ⟨j,h⟩:=KO c hw ⟨cx.lim,s.length⟩ l hcl d (by omega) (fun p hp=>ih p hp (hw.sub p hp)) c.parts 0 (n+1) (s.set l (.cells [.i .i64 (n+1:Nat)])) (by omega) (by simp [hlt]) rfl;simp at h;have hcond:¬(8<d∨64<n+1):=by omega
  simp [af,tJ,hs',hlt,hcl,w1,h8,h64,Ll c,hcond,h]
  repeat' (first | (split<;>(try simp only [fZ,gm,gy,kz,kC])<;>(try simp [*])) | (simp only [fZ,gm,gy,kz,kC]<;>(try simp [*]))|omega)
def RU (a:Nat) (c:C):Env:=[(2,.v (.pt a 0)),(10,.v (.fn (.func jo) [] [.ip (aJ c).cells]))]
def sF (a:Nat) (c:C) (p:NG):fP:=.loop (RU a c) [11] l7 lZ p
theorem LV (x:C) (a:Nat) {e':AV} (T:St) (cx:Ctx) (hb:cx.base≤T.length) (hlt:cx.lim≤T.length):
  aB P0.glob (aj P0) cx true l7 [(11,.v (aJ x)),(2,.v (.pt a 0)),(10,.v e')] T=.norm [(2,.v (.pt a 0)),(4,.v (.pt T.length 0))] (T++[.cells (aJ x).cells]):=by
 simp [l7,hb,hlt]
theorem LU (x:C) (hx:x.name.length≤1152921504606846976) (a m:Nat) (v:AV) (S:St) (cx:Ctx) (hm:S[m]?=some (.cells (aJ x).cells)) (ha:S[a]?=some (.cells [v])) (hca:cx.lim≤a):
  aB P0.glob (aj P0) cx true lZ [(2,.v (.pt a 0)),(4,.v (.pt m 0))] S=
   if su x=0 then .norm [(2,.v (.pt a 0)),(5,.v (.i .i64 (su x))),(15,.v (.b false))] S else .ret [] (S.set a (.cells [.i .i64 (su x)])):=by
 have e1:=Ig x hx;simp at hm
 by_cases h0:su x=0<;>simp [lZ,hm,ha,hca,e1,h0]
theorem PW (c x:C) (hx:x.name.length≤1152921504606846976) (a l:Nat) (v:AV) (T:St) (cx:Ctx) (hl:T[l]?=some (sF a c .ready)) (ha:T[a]?=some (.cells [v])) (hcl:cx.lim≤l) (hca:cx.lim≤a) (hb:cx.base≤T.length) (hlt:cx.lim≤T.length):
  aj P0 (.yl l) [aJ x] T cx=if su x=0 then .ret (.b true) (T++[.cells (aJ x).cells])
   else .ret (.b false) ((T.set a (.cells [.i .i64 (su x)])).set l (sF a c .ret)++[.cells (aJ x).cells]):=by
 have hl1:l<T.length:=(List.getElem?_eq_some_iff.1 hl).1;have ha1:a<T.length:=(List.getElem?_eq_some_iff.1 ha).1;have hal:¬l=a:=by intro e;subst e;rw [hl] at ha;simp [sF] at ha
 have hl2:T[l]=sF a c .ready:=(List.getElem?_eq_some_iff.1 hl).2;have hA:=LV (e':=.fn (.func jo) [] [.ip (aJ c).cells]) x a T cx hb hlt;have hR:=LU x hx a T.length v (T.set l (sF a c .busy)++[.cells (aJ x).cells]) cx (by rw [List.getElem?_append_right (by simp)];simp) (by rw [List.getElem?_append_left (by simpa using ha1)];rw [List.getElem?_set_ne hal];exact ha) hca
 refine ND (by split<;>simp) ?_
 unfold IK;rw [hl];simp only [sF,RU,CY,put,lk];simp at hA hR;have hset:=Qc hl;simp only [sF,RU] at hset hR;simp at hset hR;by_cases h0:su x=0
 ·simp [hA,hcl,hl1,hR,h0,sD,hset,List.getElem?_append_left,hl2,sF,RU]
 ·simp [hA,hcl,hl1,hR,h0,sD,List.getElem?_append_left,hl2,sF,RU,ha1,Ne.symm hal,hal];rw [List.set_comm _ _ hal,List.set_set]
theorem Va (x:C):iG x=if su x=0 then rG x.parts else su x:=by
 rw [CU];unfold su
 by_cases h1:kQ x=false<;>by_cases h2:tX x=false<;>simp [h1,h2]
theorem Ir (c x:C) (hw:C.Lng x) (a l:Nat) (v:AV) (cx:Ctx) (T:St) (hl:T[l]?=some (sF a c .ready)) (ha:T[a]?=some (.cells [v])) (hcl:cx.lim≤l) (hca:cx.lim≤a)
  (ih:∀p∈x.parts,∀(T:St) (cx:Ctx),T[l]?=some (sF a c .ready)→T[a]?=some (.cells [v])→cx.lim≤l→cx.lim≤a→
   aj P0 (.fn (.func mg) [] []) [aJ p,.yl l] T cx=if iG p=0 then .ret (.b true) T else .ret (.b false) ((T.set a (.cells [.i .i64 (iG p)])).set l (sF a c .ret))):
  ∀(rest:List C) (i:Nat),x.parts.drop i=rest→
  ∃j:Int,gQ (aB P0.glob (aj P0) cx false jI) [1,12,13,14] [(1,.v (.yl l)),(12,.v (slf x.z (x.parts.map aJ))),(13,.v (.i .i64 x.parts.length)),(14,.v (.i .i64 i))] T=
   if rG rest=0 then .exit 0 [(1,.v (.yl l)),(12,.v (slf x.z (x.parts.map aJ))),(13,.v (.i .i64 x.parts.length)),(14,.v (.i .i64 j)),(15,.v (.b false))] T
   else .ret [(4,.v (.b false))] ((T.set a (.cells [.i .i64 (rG rest)])).set l (sF a c .ret))
 | [],i,h=>by
  have h1:¬i<x.parts.length:=Nat.not_lt.2 (drop_nil h);refine ⟨i,ak fun K hK=>?_⟩;simp [jI,h1,rG]
 | p::r,i,h=>by
  obtain ⟨h1,h2,h3,h4⟩:=drop_cons h;have h5:=h4 h3;have hp:p∈x.parts:=by rw [←h5];exact List.getElem_mem h3
  have hwi:=wI (i:=i) (by have:=hw.ps;omega);have e1:=ih p hp T cx hl ha hcl hca;by_cases h0:iG p=0
  ·obtain ⟨j,ih2⟩:=Ir c x hw a l v cx T hl ha hcl hca ih r (i+1) h2;refine ⟨j,ak fun K hK=>?_⟩;rw [←hK] at ih2;clear hK h4 ih;simp at ih2;simp [jI,h3,h5,hwi,e1,ih2,rG,h0]
  ·refine ⟨i,ak fun K hK=>?_⟩;clear hK h4 ih;simp [jI,h3,h5,hwi,e1,rG,h0]
theorem TK (c:C) (a l:Nat) (v:AV):∀(x:C),C.Lng x→∀(T:St) (cx:Ctx),T[l]?=some (sF a c .ready)→T[a]?=some (.cells [v])→cx.lim≤l→cx.lim≤a→
   aj P0 (.fn (.func mg) [] []) [aJ x,.yl l] T cx=if iG x=0 then .ret (.b true) T else .ret (.b false) ((T.set a (.cells [.i .i64 (iG x)])).set l (sF a c .ret)):=by
 refine C.ind' fun x ih hw T cx hl ha hcl hca=>?_;have hl1:l<T.length:=(List.getElem?_eq_some_iff.1 hl).1;have ha1:a<T.length:=(List.getElem?_eq_some_iff.1 ha).1;have hy:=PW c x hw.n a l v T ⟨cx.lim,T.length⟩ hl ha hcl hca (Nat.le_refl _) (by simp;omega)
 refine F6 (by split<;>simp) ?_
 simp at hy;by_cases h0:su x=0
 ·obtain ⟨j,h⟩:=Ir c x hw a l v ⟨cx.lim,T.length⟩ (T++[.cells (aJ x).cells]) (by rw [List.getElem?_append_left hl1];exact hl) (by rw [List.getElem?_append_left ha1];exact ha) hcl hca
   (fun p hp T cx=>ih p hp (hw.sub p hp) T cx) x.parts 0 rfl
  simp at h;by_cases hz:rG x.parts=0
  ·simp [af,oh,hy,h0,h,hz,Va x,frz,AV.under]
  ·simp [af,oh,hy,h0,h,hz,Va x,frz,AV.under,ha1,hl1,List.set_append_left]
 ·simp [af,oh,hy,h0,Va x,frz,AV.under,List.take_append_of_le_length]
theorem aaD (s r:St) (k:Nat):(s++r)[s.length+k]?=r[k]?:=by rw [List.getElem?_append_right (by omega)];congr 1;omega
theorem Z7 (s r:St) (k:Nat) (v:fP):(s++r).set (s.length+k) v=s++r.set k v:=by rw [List.set_append_right _ _ (by omega)];congr 2;omega
@[simp] theorem agu (c:C) (s:St) (cx:Ctx):aj P0 (.fn (.func vJ) [] []) [aJ c] s cx=.ret (.fn (.func jo) [] [.ip (aJ c).cells]) s:=by
 refine Tn (by simp) ?_;simp [af,y9,frz,Ah]
theorem yC (c:C) (hw:C.Lng c) (s:St) (cx:Ctx):aj P0 (.fn (.func kJ) [] []) [aJ c] s cx=.ret (.i .i64 (uP c)) s:=by
 refine EW (by simp) ?_;have e1:=Ws (s.length+1) c hw 0 0 (s++[.cells [.i .i64 0],.cells [.i .i64 0]]) ⟨s.length,s.length⟩ (by omega) (by omega) (by simp) (by simp);have hf:=agf c 0 0 (by omega);simp at e1;by_cases hfit:(yu c 0 0).1=true
 ·have hcond:¬(8<yT c∨64<nV c):=by have:=hf.1.1 hfit;omega
  let T:St:=s++[.cells [.i .i64 0],.cells [.i .i64 (yu c 0 0).2],.dfr,sF s.length c .ready]
  have hv:=TK c s.length (s.length+3) (.i .i64 0) c hw T ⟨s.length,T.length⟩ (by simp [T]) (by simp [T]) (by simp) (by simp)
  have hw1:aj P0 (.fn (.func jo) [] [.ip (aJ c).cells]) [.yl (s.length+3)] T ⟨s.length,s.length⟩=
    if iG c=0 then .ret (.tu []) T else .ret (.tu []) ((T.set s.length (.cells [.i .i64 (iG c)])).set (s.length+3) (sF s.length c .ret)):=by
   refine EK (by split<;>simp) ?_
   by_cases h0:iG c=0<;>simp [h0] at hv<;>simp [af,sQ,hv,h0]
  simp [T] at hw1;by_cases h0:iG c=0
  ·simp [h0,sF,RU] at hw1;simp [af,jS,e1,hfit,Fj,hw1,uP,hcond,h0,D8,show s.length+2+1=s.length+3 from rfl,aaD,Z7]
  ·simp [h0,sF,RU] at hw1;simp [af,jS,e1,hfit,Fj,hw1,uP,hcond,h0,D8,show s.length+2+1=s.length+3 from rfl,aaD,Z7]
 ·have hcond:(8<yT c∨64<nV c):=by
   rcases Nat.lt_or_ge 8 (yT c) with h|h
   ·exact .inl h
   ·rcases Nat.lt_or_ge 64 (nV c) with h' | h'
    ·exact .inr h'
    ·exact absurd (hf.1.2 ⟨by omega,by omega⟩) hfit
  simp [af,jS,e1,hfit,uP,hcond]
end Go.Ai.Z
