/-
 Names: what the program's and the reference's functions on them answer.
-/
import Derived.Test.YtcofenimejmoeaaGreatDoorAiC2
import Derived.Test.YtcofenimejmoeaaGreatDoorAiSxD
import Derived.KernelRfl
set_option maxRecDepth 100000
set_option linter.unusedSimpArgs false
set_option linter.unusedVariables false
set_option linter.unusedSectionVars false
namespace Go.Ai.Z
def lN (b:UInt8):Rl→Option (Rl×Rl)
 | []=>none
 | x::r=>if x=b then some ([],r) else (lN b r).map fun p=>(x::p.1,p.2)
theorem vP {b:UInt8}:∀{l:Rl},lN b l=none ↔ b ∉ l
 | []=>by simp [lN]
 | x::r=>by
  by_cases h:x=b
  ·simp [lN,h]
  ·have:=vP (b:=b) (l:=r)
   simp [lN,h,this,Ne.symm h]
theorem uO {b:UInt8}:∀{l x y:Rl},lN b l=some (x,y)→l=x++b::y
 | [],_,_,h=>by simp [lN] at h
 | c::r,x,y,h=>by
  by_cases hc:c=b
  ·simp [lN,hc] at h;obtain ⟨rfl,rfl⟩:=h;simp [hc]
  ·simp [lN,hc] at h;obtain ⟨p,q,rfl⟩:=h;simp [uO q]
theorem index_none {b:UInt8}:∀{l:Rl},lN b l=none→Go.Lib.indexByte l b=-1
 | [],_=>rfl
 | c::r,h=>by
  by_cases hc:c=b
  ·simp [lN,hc] at h
  ·simp [lN,hc] at h;simp [Go.Lib.indexByte,hc,index_none h]
theorem Fj {b:UInt8}:∀{l x y:Rl},lN b l=some (x,y)→Go.Lib.indexByte l b=x.length
 | [],_,_,h=>by simp [lN] at h
 | c::r,x,y,h=>by
  by_cases hc:c=b
  ·simp [lN,hc] at h;obtain ⟨rfl,rfl⟩:=h;simp [Go.Lib.indexByte,hc]
  ·simp [lN,hc] at h;obtain ⟨p,q,rfl⟩:=h
   have:=Fj q
   have h1:¬((p.length:Int)=-1):=by omega
   simp [Go.Lib.indexByte,hc,this,h1]
theorem QZ (l:Rl) (b:UInt8) (s:St) (cx:Ctx):aj P0 (.fn (.func jc) [] []) [.s l,.s [b]] s cx=.ret (.i .i64 (Go.Lib.indexByte l b)) s:=
 AX (h:=Jv QF) rfl rfl
theorem Ia (l:Rl) (b:UInt8) (hl:l.length≤1152921504606846976) (s:St) (cx:Ctx):aj P0 (.fn (.func iq) [] []) [.s l,.s [b]] s cx=
  .ret (match lN b l with|some (x,y)=>.tu [.s x,.s y,.b true] | none=>.tu [.s l,.s [],.b false]) s:=by
 refine xu (by simp) ?_
 cases hc:lN b l with
 | none=>simp [af,gI,QZ,index_none hc]
 | some p=>
  obtain ⟨x,y⟩:=p;have hi:=Fj hc;have he:=uO hc;have hlen:l.length=x.length+(y.length+1):=by rw [he];simp
  have w1:IntKind.i64.wrap ((x.length:Int)+1)=(x.length:Int)+1:=w64 (by omega) (by omega);have e1:l.take x.length=x:=by rw [he];simp
  have e2:(l.drop (x.length+1)).take (l.length - (x.length+1))=y:=by
   rw [hlen,he,show x.length+1=(x++[b]).length from by simp,show x++b::y=(x++[b])++y from by simp,List.drop_left];exact List.take_of_length_le (by simp;omega)
  clear he;have hn:((x.length:Int)+1).toNat=x.length+1:=by omega
  have h0:(0:Int)≤(x.length:Int)+1:=by omega
  have g1:x.length≤l.length:=by omega
  have g2:x.length+1≤l.length:=by omega
  simp [af,gI,QZ,hi,w1,hn,h0,g1,g2,e1,e2]
theorem yY (l:Rl) (b:UInt8) (hl:l.length≤1152921504606846976) (s:St) (cx:Ctx):aj P0 (.fn (.func nI) [] []) [.s l,.s [b]] s cx=
  .ret (match lN b l with|some (x,y)=>.tu [.s x,.s y,.b true] | none=>.tu [.s l,.s [],.b false]) s:=by
 refine Ns (by simp) ?_;have e1:=Ia l b hl
 cases hc:lN b l with
 | none=>rw [hc] at e1;simp [af,qL,e1]
 | some p=>obtain ⟨x,y⟩:=p;rw [hc] at e1;simp [af,qL,e1]
def Xo (k:Int):Bool:=decide (97≤k) && decide (k≤122) || decide (65≤k) && decide (k≤90)
def acU (k:Int):Bool:=Xo k || decide (48≤k) && decide (k≤57) || decide (k=95)
def afi (b:UInt8):Bool:=Xo b.toNat
def U6 (b:UInt8):Bool:=acU b.toNat
def Ed:Rl→Bool
 | []=>true
 | b::r=>U6 b && Ed r
theorem WS:Ed []=true:=rfl
theorem EG (b:UInt8) (r:Rl):Ed (b::r)=(U6 b && Ed r):=rfl
def keywords:List Rl:=
 [[97,110,100],[115,111,109,101],[105,110],[116,111],[110,111,116,104,105,110,103],wD1,[111,110,101],[111,102],
  [111,112,101,110],[112,114,105,118,97,116,101],[115,117,98],[115,97,109,101],[100,105,115,106,111,105,110,116],[100,111,109,97,105,110],[114,111,108,101],
  [99,104,97,105,110],[114,101,102,108,101,120,105,118,101],[116,121,112,101],[108,105,110,107],[115,101,108,101,99,116],[119,104,101,114,101],[111,114]]
def kwS (l:Rl):Bool:=keywords.contains l
def Ba (l:Rl):Bool:=(match l with | []=>false|b::_=>afi b) && Ed l && !kwS l
def iZ (l:Rl):Bool:=decide (l.length≤24) && (match lN 58 l with|some (x,y)=>Ba x && Ba y|none=>Ba l)
def J7 (l:Rl):Bool:=decide (2≤l.length) && decide (l.length≤24) && (match l with | []=>false|b::_=>decide ((b.toNat:Int)=95)) && Ed l
@[simp] theorem Yj (k:Int) (s:St) (cx:Ctx):aj P0 (.fn (.func lH) [] []) [.i .u8 k] s cx=.ret (.b (Xo k)) s:=by
 refine G9 (by simp) ?_;simp [af,qA,Xo]
 repeat' (split<;>simp only [jq,jr,jD]<;>simp [*])
theorem Ce (s:St) (cx:Ctx) (l:Rl) (hl:l.length≤1152921504606846976):∀(rest:Rl) (i:Nat),l.drop i=rest→
  ∃j:Int,jw (aA P0.glob (aj P0) cx false oZ) [6,7,8] [(6,.v (.sl (aF l))),(7,.v (.i .i64 l.length)),(8,.v (.i .i64 i))] s=
   if Ed rest=true then .exit 0 [(6,.v (.sl (aF l))),(7,.v (.i .i64 l.length)),(8,.v (.i .i64 j)),(9,.v (.b false))] s else .ret [(2,.v (.b false))] s
 | [],i,h=>by
  have h1:¬i<l.length:=Nat.not_lt.2 (drop_nil h);refine ⟨i,ay fun K hK=>?_⟩;simp [oZ,h1,WS]
 | b::r,i,h=>by
  obtain ⟨h1,h2,h3,h4⟩:=drop_cons h;have h5:=h4 h3;have hb:(aF l)[i]?=some (.i .u8 b.toNat):=by simp [aF,h1]
  have hw:=wI (i:=i) (by omega);obtain ⟨j,ih⟩:=Ce s cx l hl r (i+1) h2;refine ⟨j,ay fun K hK=>?_⟩;rw [←hK,show ((i+1:Nat):Int)=(i:Int)+1 from rfl] at ih;clear hK
  rcases Bool.eq_false_or_eq_true (U6 b) with hin|hin<;>rcases Bool.eq_false_or_eq_true (Xo b.toNat) with hlt|hlt <;>
  ·have hin':=hin;simp [U6,acU,hlt] at hin'
   try simp [oZ,h3,hb,EG,hin,hlt,hw,ih]
   repeat' (first | (split<;>(try simp only [jq,jr,jD,nJ,nK])<;>(try simp [*])) | (simp only [jq,jr,jD,nJ,nK]<;>(try simp [*]))|omega)
theorem Di (l:Rl) (hl:l.length≤1152921504606846976) (s:St) (cx:Ctx):aj P0 (.fn (.func oz) [] []) [.s l] s cx=.ret (.b (Ed l)) s:=by
 refine KG (by simp) ?_;obtain ⟨j,h⟩:=Ce s ⟨s.length,s.length⟩ l hl l 0 rfl;have hb:(aF l).length=l.length:=by simp [aF]
 simp at h;simp [af,sJ,hb,h]
 repeat' (first | (split<;>(try simp only [jq,jr,jD,nJ,nK])<;>(try simp [*])) | (simp only [jq,jr,jD,nJ,nK]<;>(try simp [*]))|omega)
@[simp] theorem Yt (l:Rl) (s:St) (cx:Ctx):aj P0 (.fn (.func pW) [] []) [.s l] s cx=.ret (.b (kwS l)) s:=by
 refine Ja (by simp) ?_;simp [af,rE]
 repeat' (first | (split<;>(try simp only [jq,jr,jD,nJ,nK])<;>(try simp [*])) | (simp only [jq,jr,jD,nJ,nK]<;>(try simp [*]))|omega)
 all_goals first|rfl|simp [kwS,keywords, *]
theorem xU (l:Rl) (hl:l.length≤1152921504606846976) (s:St) (cx:Ctx):aj P0 (.fn (.func ou) [] []) [.s l] s cx=.ret (.b (Ba l)) s:=by
 refine KF (by simp) ?_
 cases l with
 | nil=>simp [af,pK,Ba]
 | cons b r=>
  have e1:=Di _ hl;simp [af,pK,e1,Ba,afi]
  repeat' (first | (split<;>(try simp only [jq,jr,jD,nJ,nK])<;>(try simp [*])) | (simp only [jq,jr,jD,nJ,nK]<;>(try simp [*]))|omega)
theorem xW (l:Rl) (hl:l.length≤1152921504606846976) (s:St) (cx:Ctx):aj P0 (.fn (.func jU) [] []) [.s l] s cx=.ret (.b (J7 l)) s:=by
 refine DZ (by simp) ?_
 cases l with
 | nil=>simp [af,kW,J7]
 | cons b r=>
  have e1:=Di _ hl;simp [af,kW,e1,J7]
  repeat' (first | (split<;>(try simp only [jq,jr,jD,nJ,nK])<;>(try simp [*])) | (simp only [jq,jr,jD,nJ,nK]<;>(try simp [*]))|omega)
@[simp] theorem Yq (l:Rl) (s:St) (cx:Ctx):aj P0 (.fn (.func jL) [] []) [.s l] s cx=.ret (.b (iZ l)) s:=by
 refine IZ (by simp) ?_;by_cases hl:l.length≤24
 ·have hn:¬((24:Int)<l.length):=by omega
  cases hc:lN 58 l with
  | none=>
   have hcut:=yY l 58 (by omega);rw [hc] at hcut;simp only [] at hcut;have e1:=xU l (by omega);simp [af,lF,hcut,hn,e1,iZ,hc,hl]
   repeat' (first | (split<;>(try simp only [jq,jr,jD,nJ,nK])<;>(try simp [*])) | (simp only [jq,jr,jD,nJ,nK]<;>(try simp [*]))|omega)
  | some p=>
   obtain ⟨x,y⟩:=p;have hcut:=yY l 58 (by omega);rw [hc] at hcut;simp only [] at hcut
   have:=uO hc
   have hx:x.length≤1152921504606846976:=by have:=congrArg List.length this;simp at this;omega
   have hy:y.length≤1152921504606846976:=by have:=congrArg List.length this;simp at this;omega
   clear this;have e1:=xU x hx;have e2:=xU y hy;simp [af,lF,hcut,hn,e1,e2,iZ,hc,hl]
   repeat' (first | (split<;>(try simp only [jq,jr,jD,nJ,nK])<;>(try simp [*])) | (simp only [jq,jr,jD,nJ,nK]<;>(try simp [*]))|omega)
 ·have hn:(24:Int)<l.length:=by omega
  simp [af,lF,hn,iZ,hl]
end Go.Ai.Z
namespace Go.Ai.Z
def wJ (c:C):Bool:=
 let plain:=decide (c.lo=0) && decide (c.hi=0)
 if c.kind=1 then plain && decide (c.name=[]) && decide ((c.parts.length:Int)=0)
 else if c.kind=2 then plain && decide (c.name=[]) && decide ((c.parts.length:Int)=0)
 else if c.kind=3 then plain && decide ((c.parts.length:Int)=0)
 else if c.kind=4 then plain && decide ((c.parts.length:Int)=0)
 else if c.kind=5 then plain && decide (c.name=[]) && decide ((2:Int)≤c.parts.length) && decide ((c.parts.length:Int)≤8)
 else if c.kind=6 then plain && decide ((c.parts.length:Int)=1)
 else if c.kind=7 then decide ((c.parts.length:Int)=0) && decide (-1099511627776≤c.lo) && decide (c.lo≤c.hi) && decide (c.hi≤1099511627776)
 else false
def yT (c:C):Bool:=
 if c.kind=3 then iZ c.name
 else if c.kind=6 then iZ c.name
 else if c.kind=7 then iZ c.name
 else if c.kind=4 then iZ c.name || J7 c.name
 else true
mutual
def rM:C→Int
 | .mk k n l h z ps=>if wJ (.mk k n l h z ps)=false then 21 else if yT (.mk k n l h z ps)=false then 20 else xJ ps
def xJ:List C→Int
 | []=>0
 | p::r=>if rM p=0 then xJ r else rM p
end
theorem Lu (c:C):rM c=if wJ c=false then 21 else if yT c=false then 20 else xJ c.parts:=by cases c;simp [rM]
def qQ (c:C):Int:=if 8<yX c∨64<wR c then 21 else rM c
end Go.Ai.Z
namespace Go.Ai.Z
def o8 (c:C):Int:=if wJ c=false then 21 else if yT c=false then 20 else 0
theorem Vb:P0.glob yZ=some [.i .i64 0,.i .i64 0,.i .i64 0,.b false,.i .i64 0,.i .i64 0,.i .i64 0,.b false,.i .i64 0,.i .i64 0,.i .i64 0,.b false,.i .i64 1,.i .i64 0,.i .i64 0,.b false,.i .i64 2,.i .i64 0,.i .i64 0,.b false,.i .i64 0,.i .i64 2,.i .i64 8,.b false,.i .i64 1,.i .i64 1,.i .i64 1,.b false,.i .i64 1,.i .i64 0,.i .i64 0,.b true]:=rfl
theorem Eb (c:C) (hn:c.name.length≤1152921504606846976) (s:St) (cx:Ctx):aj P0 (.fn (.func kZ) [] []) [aK c] s cx=.ret (.i .i64 (o8 c)) s:=by
 refine CP (by simp) ?_;have e1:=xW c.name hn;by_cases h0:c.kind<1
 ·have:wJ c=false:=by simp [wJ,show ¬c.kind=1 by omega,show ¬c.kind=2 by omega,show ¬c.kind=3 by omega,show ¬c.kind=4 by omega,show ¬c.kind=5 by omega,show ¬c.kind=6 by omega,show ¬c.kind=7 by omega]
  simp [af,jg,h0,o8,this]
 by_cases h8:7<c.kind
 ·have:wJ c=false:=by simp [wJ,show ¬c.kind=1 by omega,show ¬c.kind=2 by omega,show ¬c.kind=3 by omega,show ¬c.kind=4 by omega,show ¬c.kind=5 by omega,show ¬c.kind=6 by omega,show ¬c.kind=7 by omega]
  simp [af,jg,h0,h8,o8,this]
 have hk:c.kind=1∨c.kind=2∨c.kind=3∨c.kind=4∨c.kind=5∨c.kind=6∨c.kind=7:=by omega
 rcases hps:c.parts with _|⟨a,_|⟨b,r⟩⟩<;>rcases hk with hk|hk|hk|hk|hk|hk|hk
 all_goals
  clear h0 h8;simp [af,jg,hk,Vb,o8,wJ,yT,hps]
  repeat' (first | (split<;>(try simp only [jq,jr,jD,nJ,nK])<;>(try simp [*])) | (simp only [jq,jr,jD,nJ,nK]<;>(try simp [*]))|omega)
end Go.Ai.Z
namespace Go.Ai.Z
mutual
def uY:C→Nat→Nat→Bool×Nat
 | .mk _ _ _ _ _ ps,d,n=>if 8<d∨64<n+1 then (false,n+1) else AA ps d (n+1)
def AA:List C→Nat→Nat→Bool×Nat
 | [],_,n=>(true,n)
 | p::r,d,n=>if (uY p (d+1) n).1=true then AA r d (uY p (d+1) n).2 else (false,(uY p (d+1) n).2)
end
theorem Hu (c:C) (d n:Nat):uY c d n=if 8<d∨64<n+1 then (false,n+1) else AA c.parts d (n+1):=by cases c;simp [uY]
theorem aa7:∀(c:C) (d n:Nat),n≤64→(uY c d n).2≤65∧((uY c d n).1=true→(uY c d n).2≤64):=by
 refine C.ind' fun c ih d n hn=>?_
 have hL:∀(l:List C),(∀p∈l,∀(d n:Nat),n≤64→(uY p d n).2≤65∧((uY p d n).1=true→(uY p d n).2≤64))→∀n,n≤64→(AA l d n).2≤65∧((AA l d n).1=true→(AA l d n).2≤64):=by
  intro l
  induction l with
  | nil=>intro _ n hn;simp [AA];omega
  | cons p r ih=>
   intro h n hn;have h1:=h p (by simp) (d+1) n hn;simp only [AA];split
   ·rename_i ht;exact ih (fun q hq=>h q (by simp [hq])) _ (h1.2 ht)
   ·exact ⟨h1.1,by simp⟩
 rw [Hu];split
 ·exact ⟨by simp;omega,by simp⟩
 ·exact hL c.parts ih _ (by omega)
theorem aa8:∀(c:C) (d n:Nat),n≤64→((uY c d n).1=true ↔ d+yX c≤8∧n+wR c≤64)∧((uY c d n).1=true→(uY c d n).2=n+wR c):=by
 refine C.ind' fun c ih d n hn=>?_
 have hL:∀(l:List C),(∀p∈l,∀(d n:Nat),n≤64→((uY p d n).1=true ↔ d+yX p≤8∧n+wR p≤64)∧((uY p d n).1=true→(uY p d n).2=n+wR p))→∀n,n≤64→d≤8→
   ((AA l d n).1=true ↔ d+FX l≤8∧n+Jq l≤64)∧((AA l d n).1=true→(AA l d n).2=n+Jq l):=by
  intro l
  induction l with
  | nil=>intro _ n hn hd;simp [AA,FX,Jq];omega
  | cons p r ih=>
   intro h n hn hd;have h1:=h p (by simp) (d+1) n hn;simp only [AA,FX,Jq];by_cases ht:(uY p (d+1) n).1=true
   ·have h2:=h1.2 ht;have h3:=h1.1.1 ht;rw [if_pos ht];have h4:=ih (fun q hq=>h q (by simp [hq])) (uY p (d+1) n).2 (by omega) hd;rw [h2] at h4 ⊢;refine ⟨h4.1.trans ⟨fun h=>⟨by omega,by omega⟩,fun h=>⟨by omega,by omega⟩⟩,fun h=>by rw [h4.2 h];omega⟩
   ·rw [if_neg ht];refine ⟨⟨fun h=>by simp at h,fun h=>absurd (h1.1.2 ⟨by omega,by omega⟩) ht⟩,fun h=>by simp at h⟩
 rw [Hu,Yb,YI];have hL:=hL c.parts ih;split
 ·rename_i h;refine ⟨⟨fun h=>by simp at h,fun h=>by omega⟩,fun h=>by simp at h⟩
 ·have:=hL (n+1) (by omega) (by omega)
  refine ⟨this.1.trans ⟨fun h=>⟨by omega,by omega⟩,fun h=>⟨by omega,by omega⟩⟩,fun h=>by rw [this.2 h];omega⟩
theorem RF {T:St} {l:Nat} {v:fE} (h:T[l]?=some v):T.set l v=T:=by
 obtain ⟨h1,h2⟩:=List.getElem?_eq_some_iff.1 h;rw [←h2];exact List.set_getElem_self h1
inductive C.Lng:C→Prop where
 | mk (c:C) (hn:c.name.length≤1152921504606846976) (hps:c.parts.length≤1152921504606846976) (hp:∀p∈c.parts,C.Lng p):C.Lng c
theorem C.Lng.n {c:C} (h:C.Lng c):c.name.length≤1152921504606846976:=by cases h;assumption
theorem C.Lng.ps {c:C} (h:C.Lng c):c.parts.length≤1152921504606846976:=by cases h;assumption
theorem C.Lng.sub {c:C} (h:C.Lng c):∀p∈c.parts,C.Lng p:=by cases h;assumption
theorem C.Ok.lng {c:C} (h:C.Ok c):C.Lng c:=by
 induction h with
 | mk c hn hps _ _ _ _ ih=>exact .mk c hn hps ih
theorem abU:∀c:C,wC c≤100000→C.Lng c:=by
 refine C.ind' fun c ih hw=>?_;have hl:=Yx c.parts;rw [abJ] at hw;exact .mk c (by omega) (by omega) fun p hp=>ih p hp (by have:=Yw hp;omega)
theorem GL (c:C) (hw:C.Lng c) (cx:Ctx) (l:Nat) (hcl:cx.lim≤l) (d:Nat) (hd:d≤8)
  (ih:∀p∈c.parts,∀(d n:Nat) (s:St) (cx:Ctx),d≤100→n≤64→cx.lim≤l→s[l]?=some (.cells [.i .i64 n])→
   aj P0 (.fn (.func pG) [] []) [aK p,.i .i64 d,.pt l 0] s cx=.ret (.b (uY p d n).1) (s.set l (.cells [.i .i64 (uY p d n).2]))):
  ∀(rest:List C) (i:Nat) (n:Nat) (s:St),n≤64→s[l]?=some (.cells [.i .i64 n])→c.parts.drop i=rest→
  ∃j:Int,jw (aA P0.glob (aj P0) cx false nU) [1,2,23,24,25] [(1,.v (.i .i64 d)),(2,.v (.pt l 0)),(23,.v (slf c.z (c.parts.map aK))),(24,.v (.i .i64 c.parts.length)),(25,.v (.i .i64 i))] s=
   if (AA rest d n).1=true then .exit 0 [(1,.v (.i .i64 d)),(2,.v (.pt l 0)),(23,.v (slf c.z (c.parts.map aK))),(24,.v (.i .i64 c.parts.length)),(25,.v (.i .i64 j)),(26,.v (.b false))] (s.set l (.cells [.i .i64 (AA rest d n).2]))
   else .ret [(6,.v (.b false))] (s.set l (.cells [.i .i64 (AA rest d n).2]))
 | [],i,n,s,hn,hs,h=>by
  have h1:¬i<c.parts.length:=Nat.not_lt.2 (drop_nil h);refine ⟨i,ay fun K hK=>?_⟩;simp [nU,h1,AA,RF hs]
 | p::r,i,n,s,hn,hs,h=>by
  obtain ⟨h1,h2,h3,h4⟩:=drop_cons h;have h5:=h4 h3;have hp:p∈c.parts:=by rw [←h5];exact List.getElem_mem h3
  have hwi:=wI (i:=i) (by have:=hw.ps;omega);have hlt:l<s.length:=(List.getElem?_eq_some_iff.1 hs).1;have e1:=ih p hp (d+1) n s cx (by omega) hn hcl hs;have w1:IntKind.i64.wrap ((d:Int)+1)=(d:Int)+1:=w64 (by omega) (by omega);simp at e1;by_cases ht:(uY p (d+1) n).1=true
  ·have hle:=(aa7 p (d+1) n hn).2 ht;obtain ⟨j,ih2⟩:=GL c hw cx l hcl d hd ih r (i+1) (uY p (d+1) n).2 (s.set l (.cells [.i .i64 (uY p (d+1) n).2])) hle (by simp [hlt]) h2;refine ⟨j,ay fun K hK=>?_⟩;rw [←hK] at ih2;clear hK h4 ih;simp at ih2;simp [nU,h3,h5,hwi,w1,e1,ih2,AA,ht]
  ·refine ⟨i,ay fun K hK=>?_⟩;clear hK h4 ih;simp [nU,h3,h5,hwi,w1,e1,AA,ht]
theorem QW (l:Nat):∀(c:C),C.Lng c→∀(d n:Nat) (s:St) (cx:Ctx),d≤100→n≤64→cx.lim≤l→s[l]?=some (.cells [.i .i64 n])→
   aj P0 (.fn (.func pG) [] []) [aK c,.i .i64 d,.pt l 0] s cx=.ret (.b (uY c d n).1) (s.set l (.cells [.i .i64 (uY c d n).2])):=by
 refine C.ind' fun c ih hw d n s cx hd hn hcl hs=>?_;have hlt:l<s.length:=(List.getElem?_eq_some_iff.1 hs).1;have w1:IntKind.i64.wrap ((n:Int)+1)=(n:Int)+1:=w64 (by omega) (by omega);have hs':s[l]=.cells [.i .i64 n]:=(List.getElem?_eq_some_iff.1 hs).2;refine OA (by simp) ?_;by_cases h8:(8:Int)<d
 ·simp [af,pY,hs',hlt,hcl,w1,h8,Hu c,show 8<d by omega]
 by_cases h64:(64:Int)<(n:Int)+1
 ·simp [af,pY,hs',hlt,hcl,w1,h8,h64,Hu c,show 64<n+1 by omega]
 ·obtain ⟨j,h⟩:=GL c hw ⟨cx.lim,s.length⟩ l hcl d (by omega) (fun p hp=>ih p hp (hw.sub p hp)) c.parts 0 (n+1) (s.set l (.cells [.i .i64 (n+1:Nat)])) (by omega) (by simp [hlt]) rfl;simp at h;have hcond:¬(8<d∨64<n+1):=by omega
  simp [af,pY,hs',hlt,hcl,w1,h8,h64,Hu c,hcond,h]
  repeat' (first | (split<;>(try simp only [jq,jr,jD,nJ,nK])<;>(try simp [*])) | (simp only [jq,jr,jD,nJ,nK]<;>(try simp [*]))|omega)
def NM (a:Nat) (c:C):Env:=[(2,.v (.pt a 0)),(10,.v (.fn (.func kL) [] [.ip (aK c).cells]))]
def o9 (a:Nat) (c:C) (p:KQ):fE:=.loop (NM a c) [11] kD kC p
theorem Ik (x:C) (a:Nat) {e':AV} (T:St) (cx:Ctx) (hb:cx.base≤T.length) (hlt:cx.lim≤T.length):
  aA P0.glob (aj P0) cx true kD [(11,.v (aK x)),(2,.v (.pt a 0)),(10,.v e')] T=.norm [(2,.v (.pt a 0)),(4,.v (.pt T.length 0))] (T++[.cells (aK x).cells]):=by
 simp [kD,hb,hlt]
theorem Ij (x:C) (hx:x.name.length≤1152921504606846976) (a m:Nat) (v:AV) (S:St) (cx:Ctx) (hm:S[m]?=some (.cells (aK x).cells)) (ha:S[a]?=some (.cells [v])) (hca:cx.lim≤a):
  aA P0.glob (aj P0) cx true kC [(2,.v (.pt a 0)),(4,.v (.pt m 0))] S=
   if o8 x=0 then .norm [(2,.v (.pt a 0)),(5,.v (.i .i64 (o8 x))),(15,.v (.b false))] S else .ret [] (S.set a (.cells [.i .i64 (o8 x)])):=by
 have e1:=Eb x hx;simp at hm
 by_cases h0:o8 x=0<;>simp [kC,hm,ha,hca,e1,h0]
theorem Lp (c x:C) (hx:x.name.length≤1152921504606846976) (a l:Nat) (v:AV) (T:St) (cx:Ctx) (hl:T[l]?=some (o9 a c .ready)) (ha:T[a]?=some (.cells [v])) (hcl:cx.lim≤l) (hca:cx.lim≤a) (hb:cx.base≤T.length) (hlt:cx.lim≤T.length):
  aj P0 (.yl l) [aK x] T cx=if o8 x=0 then .ret (.b true) (T++[.cells (aK x).cells])
   else .ret (.b false) ((T.set a (.cells [.i .i64 (o8 x)])).set l (o9 a c .ret)++[.cells (aK x).cells]):=by
 have hl1:l<T.length:=(List.getElem?_eq_some_iff.1 hl).1;have ha1:a<T.length:=(List.getElem?_eq_some_iff.1 ha).1;have hal:¬l=a:=by intro e;subst e;rw [hl] at ha;simp [o9] at ha
 have hl2:T[l]=o9 a c .ready:=(List.getElem?_eq_some_iff.1 hl).2;have hA:=Ik (e':=.fn (.func kL) [] [.ip (aK c).cells]) x a T cx hb hlt;have hR:=Ij x hx a T.length v (T.set l (o9 a c .busy)++[.cells (aK x).cells]) cx (by rw [List.getElem?_append_right (by simp)];simp) (by rw [List.getElem?_append_left (by simpa using ha1)];rw [List.getElem?_set_ne hal];exact ha) hca
 refine P7 (by split<;>simp) ?_
 unfold Ii;rw [hl];simp only [o9,NM,BK,put,lk];simp at hA hR;have hset:=RF hl;simp only [o9,NM] at hset hR;simp at hset hR;by_cases h0:o8 x=0
 ·simp [hA,hcl,hl1,hR,h0,qm,hset,List.getElem?_append_left,hl2,o9,NM]
 ·simp [hA,hcl,hl1,hR,h0,qm,List.getElem?_append_left,hl2,o9,NM,ha1,Ne.symm hal,hal];rw [List.set_comm _ _ hal,List.set_set]
theorem P9 (x:C):rM x=if o8 x=0 then xJ x.parts else o8 x:=by
 rw [Lu];unfold o8
 by_cases h1:wJ x=false<;>by_cases h2:yT x=false<;>simp [h1,h2]
theorem Em (c x:C) (hw:C.Lng x) (a l:Nat) (v:AV) (cx:Ctx) (T:St) (hl:T[l]?=some (o9 a c .ready)) (ha:T[a]?=some (.cells [v])) (hcl:cx.lim≤l) (hca:cx.lim≤a)
  (ih:∀p∈x.parts,∀(T:St) (cx:Ctx),T[l]?=some (o9 a c .ready)→T[a]?=some (.cells [v])→cx.lim≤l→cx.lim≤a→
   aj P0 (.fn (.func nH) [] []) [aK p,.yl l] T cx=if rM p=0 then .ret (.b true) T else .ret (.b false) ((T.set a (.cells [.i .i64 (rM p)])).set l (o9 a c .ret))):
  ∀(rest:List C) (i:Nat),x.parts.drop i=rest→
  ∃j:Int,jw (aA P0.glob (aj P0) cx false mD) [1,12,13,14] [(1,.v (.yl l)),(12,.v (slf x.z (x.parts.map aK))),(13,.v (.i .i64 x.parts.length)),(14,.v (.i .i64 i))] T=
   if xJ rest=0 then .exit 0 [(1,.v (.yl l)),(12,.v (slf x.z (x.parts.map aK))),(13,.v (.i .i64 x.parts.length)),(14,.v (.i .i64 j)),(15,.v (.b false))] T
   else .ret [(4,.v (.b false))] ((T.set a (.cells [.i .i64 (xJ rest)])).set l (o9 a c .ret))
 | [],i,h=>by
  have h1:¬i<x.parts.length:=Nat.not_lt.2 (drop_nil h);refine ⟨i,ay fun K hK=>?_⟩;simp [mD,h1,xJ]
 | p::r,i,h=>by
  obtain ⟨h1,h2,h3,h4⟩:=drop_cons h;have h5:=h4 h3;have hp:p∈x.parts:=by rw [←h5];exact List.getElem_mem h3
  have hwi:=wI (i:=i) (by have:=hw.ps;omega);have e1:=ih p hp T cx hl ha hcl hca;by_cases h0:rM p=0
  ·obtain ⟨j,ih2⟩:=Em c x hw a l v cx T hl ha hcl hca ih r (i+1) h2;refine ⟨j,ay fun K hK=>?_⟩;rw [←hK] at ih2;clear hK h4 ih;simp at ih2;simp [mD,h3,h5,hwi,e1,ih2,xJ,h0]
  ·refine ⟨i,ay fun K hK=>?_⟩;clear hK h4 ih;simp [mD,h3,h5,hwi,e1,xJ,h0]
theorem OJ (c:C) (a l:Nat) (v:AV):∀(x:C),C.Lng x→∀(T:St) (cx:Ctx),T[l]?=some (o9 a c .ready)→T[a]?=some (.cells [v])→cx.lim≤l→cx.lim≤a→
   aj P0 (.fn (.func nH) [] []) [aK x,.yl l] T cx=if rM x=0 then .ret (.b true) T else .ret (.b false) ((T.set a (.cells [.i .i64 (rM x)])).set l (o9 a c .ret)):=by
 refine C.ind' fun x ih hw T cx hl ha hcl hca=>?_;have hl1:l<T.length:=(List.getElem?_eq_some_iff.1 hl).1;have ha1:a<T.length:=(List.getElem?_eq_some_iff.1 ha).1;have hy:=Lp c x hw.n a l v T ⟨cx.lim,T.length⟩ hl ha hcl hca (Nat.le_refl _) (by simp;omega)
 refine Nr (by split<;>simp) ?_
 simp at hy;by_cases h0:o8 x=0
 ·obtain ⟨j,h⟩:=Em c x hw a l v ⟨cx.lim,T.length⟩ (T++[.cells (aK x).cells]) (by rw [List.getElem?_append_left hl1];exact hl) (by rw [List.getElem?_append_left ha1];exact ha) hcl hca
   (fun p hp T cx=>ih p hp (hw.sub p hp) T cx) x.parts 0 rfl
  simp at h;by_cases hz:xJ x.parts=0
  ·simp [af,nS,hy,h0,h,hz,P9 x,frz,AV.under]
  ·simp [af,nS,hy,h0,h,hz,P9 x,frz,AV.under,ha1,hl1,List.set_append_left]
 ·simp [af,nS,hy,h0,P9 x,frz,AV.under,List.take_append_of_le_length]
theorem Wn (s r:St) (k:Nat):(s++r)[s.length+k]?=r[k]?:=by rw [List.getElem?_append_right (by omega)];congr 1;omega
theorem VK (s r:St) (k:Nat) (v:fE):(s++r).set (s.length+k) v=s++r.set k v:=by rw [List.set_append_right _ _ (by omega)];congr 2;omega
@[simp] theorem abn (c:C) (s:St) (cx:Ctx):aj P0 (.fn (.func rG) [] []) [aK c] s cx=.ret (.fn (.func kL) [] [.ip (aK c).cells]) s:=by
 refine Oz (by simp) ?_;simp [af,vY,frz,zD]
theorem qw (c:C) (hw:C.Lng c) (s:St) (cx:Ctx):aj P0 (.fn (.func fF) [] []) [aK c] s cx=.ret (.i .i64 (qQ c)) s:=by
 refine BA (by simp) ?_;have e1:=QW (s.length+1) c hw 0 0 (s++[.cells [.i .i64 0],.cells [.i .i64 0]]) ⟨s.length,s.length⟩ (by omega) (by omega) (by simp) (by simp);have hf:=aa8 c 0 0 (by omega);simp at e1;by_cases hfit:(uY c 0 0).1=true
 ·have hcond:¬(8<yX c∨64<wR c):=by have:=hf.1.1 hfit;omega
  let T:St:=s++[.cells [.i .i64 0],.cells [.i .i64 (uY c 0 0).2],.dfr,o9 s.length c .ready]
  have hv:=OJ c s.length (s.length+3) (.i .i64 0) c hw T ⟨s.length,T.length⟩ (by simp [T]) (by simp [T]) (by simp) (by simp)
  have hw1:aj P0 (.fn (.func kL) [] [.ip (aK c).cells]) [.yl (s.length+3)] T ⟨s.length,s.length⟩=
    if rM c=0 then .ret (.tu []) T else .ret (.tu []) ((T.set s.length (.cells [.i .i64 (rM c)])).set (s.length+3) (o9 s.length c .ret)):=by
   refine KE (by split<;>simp) ?_
   by_cases h0:rM c=0<;>simp [h0] at hv<;>simp [af,sH,hv,h0]
  simp [T] at hw1;by_cases h0:rM c=0
  ·simp [h0,o9,NM] at hw1;simp [af,iV,e1,hfit,Ip,hw1,qQ,hcond,h0,EK,show s.length+2+1=s.length+3 from rfl,Wn,VK]
  ·simp [h0,o9,NM] at hw1;simp [af,iV,e1,hfit,Ip,hw1,qQ,hcond,h0,EK,show s.length+2+1=s.length+3 from rfl,Wn,VK]
 ·have hcond:(8<yX c∨64<wR c):=by
   rcases Nat.lt_or_ge 8 (yX c) with h|h
   ·exact .inl h
   ·rcases Nat.lt_or_ge 64 (wR c) with h' | h'
    ·exact .inr h'
    ·exact absurd (hf.1.2 ⟨by omega,by omega⟩) hfit
  simp [af,iV,e1,hfit,qQ,hcond]
end Go.Ai.Z
namespace Go.Ai.Z
open Go.Lib (itoa decDigits)
def ahD:Rl:=[32,97,110,100,32]
mutual
def textS:C→Rl
 | .mk k n lo hi _ ps=>
  if k=1 then wD1
  else if k=2 then [110,111,116,104,105,110,103]
  else if k=3 then n
  else if k=4 then 123::(n++[125])
  else if k=7 then n++[32,105,110,32]++itoa lo++[32,116,111,32]++itoa hi
  else if k=6 then [115,111,109,101,32]++n++[32]++(acJ ps).headD []
  else joinL ahD (acJ ps)
def acJ:List C→List Rl
 | []=>[]
 | .mk k n lo hi z ps::r=>(if k=5 then 40::(textS (.mk k n lo hi z ps)++[41]) else textS (.mk k n lo hi z ps))::acJ r
end
end Go.Ai.Z
namespace Go.Ai.Z
open Go.Lib (itoa)
theorem kd {x j:Int} (k:x=j):decide (x=j)=true:=by simp [k]
end Go.Ai.Z
namespace Go.Ai.Z
open Go.Lib (itoa)
attribute [local simp] find jQ uX
end Go.Ai.Z
