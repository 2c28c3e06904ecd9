/-
 Names: what the program's and the reference's functions on them answer.
-/
import Derived.Test.YtdjjghikaijfpaaGreatDoorAiC2
import Derived.Test.YtdjjghikaijfpaaGreatDoorAiSxD
set_option maxRecDepth 100000
set_option linter.unusedSimpArgs false
set_option linter.unusedVariables false
set_option linter.unusedSectionVars false
namespace Go.Ai.Z
def mJ (b:UInt8):List UInt8→Option (List UInt8×List UInt8)
 | []=>none
 | x::r=>if x=b then some ([],r) else (mJ b r).map fun p=>(x::p.1,p.2)
theorem Jp {b:UInt8}:∀{l:List UInt8},mJ b l=none ↔ b ∉ l
 | []=>by simp [mJ]
 | x::r=>by
  by_cases h:x=b
  ·simp [mJ,h]
  ·have:=Jp (b:=b) (l:=r)
   simp [mJ,h,this,Ne.symm h]
theorem nM {b:UInt8}:∀{l x y:List UInt8},mJ b l=some (x,y)→l=x++b::y
 | [],_,_,h=>by simp [mJ] at h
 | c::r,x,y,h=>by
  by_cases hc:c=b
  ·simp [mJ,hc] at h;obtain ⟨rfl,rfl⟩:=h;simp [hc]
  ·simp [mJ,hc] at h
   obtain ⟨p,q,rfl⟩:=h
   simp [nM q]
theorem index_none {b:UInt8}:∀{l:List UInt8},mJ b l=none→Go.Lib.indexByte l b=-1
 | [],_=>rfl
 | c::r,h=>by
  by_cases hc:c=b
  ·simp [mJ,hc] at h
  ·simp [mJ,hc] at h
   simp [Go.Lib.indexByte,hc,index_none h]
theorem BA {b:UInt8}:∀{l x y:List UInt8},mJ b l=some (x,y)→Go.Lib.indexByte l b=x.length
 | [],_,_,h=>by simp [mJ] at h
 | c::r,x,y,h=>by
  by_cases hc:c=b
  ·simp [mJ,hc] at h;obtain ⟨rfl,rfl⟩:=h;simp [Go.Lib.indexByte,hc]
  ·simp [mJ,hc] at h
   obtain ⟨p,q,rfl⟩:=h
   have:=BA q
   have h1:¬((p.length:Int)=-1):=by omega
   simp [Go.Lib.indexByte,hc,this,h1]
theorem RH (l:List UInt8) (b:UInt8) (s:St) (cx:Ctx):aj P0 (.fn (.func jb) [] []) [.s l,.s [b]] s cx=.ret (.i .i64 (Go.Lib.indexByte l b)) s:=
 rE (h:=Bj XG) rfl rfl
theorem ND (l:List UInt8) (b:UInt8) (hl:l.length≤1152921504606846976) (s:St) (cx:Ctx):aj P0 (.fn (.func iq) [] []) [.s l,.s [b]] s cx=
  .ret (match mJ b l with|some (x,y)=>.tu [.s x,.s y,.b true] | none=>.tu [.s l,.s [],.b false]) s:=by
 refine Ar (by simp) ?_
 cases hc:mJ b l with
 | none=>simp [af,gI,RH,index_none hc]
 | some p=>
  obtain ⟨x,y⟩:=p
  have hi:=BA hc
  have he:=nM hc
  have hlen:l.length=x.length+(y.length+1):=by rw [he];simp
  have w1:IntKind.i64.wrap ((x.length:Int)+1)=(x.length:Int)+1:=w64 (by omega) (by omega)
  have e1:l.take x.length=x:=by rw [he];simp
  have e2:(l.drop (x.length+1)).take (l.length - (x.length+1))=y:=by
   rw [hlen,he,show x.length+1=(x++[b]).length from by simp,show x++b::y=(x++[b])++y from by simp,List.drop_left]
   exact List.take_of_length_le (by simp;omega)
  clear he
  have hn:((x.length:Int)+1).toNat=x.length+1:=by omega
  have h0:(0:Int)≤(x.length:Int)+1:=by omega
  have g1:x.length≤l.length:=by omega
  have g2:x.length+1≤l.length:=by omega
  simp [af,gI,RH,hi,w1,hn,h0,g1,g2,e1,e2]
theorem zh (l:List UInt8) (b:UInt8) (hl:l.length≤1152921504606846976) (s:St) (cx:Ctx):aj P0 (.fn (.func pU) [] []) [.s l,.s [b]] s cx=
  .ret (match mJ b l with|some (x,y)=>.tu [.s x,.s y,.b true] | none=>.tu [.s l,.s [],.b false]) s:=by
 refine Ur (by simp) ?_
 have e1:=ND l b hl
 cases hc:mJ b l with
 | none=>rw [hc] at e1;simp [af,uf,e1]
 | some p=>obtain ⟨x,y⟩:=p;rw [hc] at e1;simp [af,uf,e1]
def YS (k:Int):Bool:=decide (97≤k) && decide (k≤122) || decide (65≤k) && decide (k≤90)
def aik (k:Int):Bool:=YS k || decide (48≤k) && decide (k≤57) || decide (k=95)
def YT (b:UInt8):Bool:=YS b.toNat
def QO (b:UInt8):Bool:=aik b.toNat
def JY:List UInt8→Bool
 | []=>true
 | b::r=>QO b && JY r
theorem acg:JY []=true:=rfl
theorem Si (b:UInt8) (r:List UInt8):JY (b::r)=(QO b && JY r):=rfl
def keywords:List (List UInt8):=
 [[97,110,100],[115,111,109,101],[105,110],[116,111],[110,111,116,104,105,110,103],[101,118,101,114,121,116,104,105,110,103],[111,110,101],[111,102],
  [111,112,101,110],[112,114,105,118,97,116,101],[115,117,98],[115,97,109,101],[100,105,115,106,111,105,110,116],[100,111,109,97,105,110],[114,111,108,101],
  [99,104,97,105,110],[114,101,102,108,101,120,105,118,101],[116,121,112,101],[108,105,110,107],[115,101,108,101,99,116],[119,104,101,114,101],[111,114]]
def kwS (l:List UInt8):Bool:=keywords.contains l
def CJ (l:List UInt8):Bool:=(match l with | []=>false|b::_=>YT b) && JY l && !kwS l
def jc (l:List UInt8):Bool:=decide (l.length≤24) && (match mJ 58 l with|some (x,y)=>CJ x && CJ y|none=>CJ l)
def Gg (l:List UInt8):Bool:=decide (2≤l.length) && decide (l.length≤24) && (match l with | []=>false|b::_=>decide ((b.toNat:Int)=95)) && JY l
@[simp] theorem adF (k:Int) (s:St) (cx:Ctx):aj P0 (.fn (.func nD) [] []) [.i .u8 k] s cx=.ret (.b (YS k)) s:=by
 refine MQ (by simp) ?_
 simp [af,sO,YS]
 repeat' (split<;>simp only [dG,dH,dI]<;>simp [*])
theorem H6 (s:St) (cx:Ctx) (l:List UInt8) (hl:l.length≤1152921504606846976):∀(rest:List UInt8) (i:Nat),l.drop i=rest→
  ∃j:Int,bF (ay P0.glob (aj P0) cx false qX) [6,7,8] [(6,.v (.sl (ai l))),(7,.v (.i .i64 l.length)),(8,.v (.i .i64 i))] s=
   if JY rest=true then .exit 0 [(6,.v (.sl (ai l))),(7,.v (.i .i64 l.length)),(8,.v (.i .i64 j)),(9,.v (.b false))] s else .ret [(2,.v (.b false))] s
 | [],i,h=>by
  have h1:¬i<l.length:=Nat.not_lt.2 (drop_nil h)
  refine ⟨i,ak fun K hK=>?_⟩
  simp [qX,h1,acg]
 | b::r,i,h=>by
  obtain ⟨h1,h2,h3,h4⟩:=drop_cons h
  have h5:=h4 h3
  have hb:(ai l)[i]?=some (.i .u8 b.toNat):=by simp [ai,h1]
  have hw:=wI (i:=i) (by omega)
  obtain ⟨j,ih⟩:=H6 s cx l hl r (i+1) h2
  refine ⟨j,ak fun K hK=>?_⟩
  rw [←hK,show ((i+1:Nat):Int)=(i:Int)+1 from rfl] at ih
  clear hK
  rcases Bool.eq_false_or_eq_true (QO b) with hin|hin<;>rcases Bool.eq_false_or_eq_true (YS b.toNat) with hlt|hlt <;>
  ·have hin':=hin
   simp [QO,aik,hlt] at hin'
   try simp [qX,h3,hb,Si,hin,hlt,hw,ih]
   repeat' (first | (split<;>(try simp only [dG,dH,dI,gQ,gU])<;>(try simp [*])) | (simp only [dG,dH,dI,gQ,gU]<;>(try simp [*]))|omega)
theorem IK (l:List UInt8) (hl:l.length≤1152921504606846976) (s:St) (cx:Ctx):aj P0 (.fn (.func qG) [] []) [.s l] s cx=.ret (.b (JY l)) s:=by
 refine QU (by simp) ?_
 obtain ⟨j,h⟩:=H6 s ⟨s.length,s.length⟩ l hl l 0 rfl
 have hb:(ai l).length=l.length:=by simp [ai]
 simp at h
 simp [af,vT,hb,h]
 repeat' (first | (split<;>(try simp only [dG,dH,dI,gQ,gU])<;>(try simp [*])) | (simp only [dG,dH,dI,gQ,gU]<;>(try simp [*]))|omega)
@[simp] theorem adP (l:List UInt8) (s:St) (cx:Ctx):aj P0 (.fn (.func oH) [] []) [.s l] s cx=.ret (.b (kwS l)) s:=by
 refine O4 (by simp) ?_
 simp [af,uP]
 repeat' (first | (split<;>(try simp only [dG,dH,dI,gQ,gU])<;>(try simp [*])) | (simp only [dG,dH,dI,gQ,gU]<;>(try simp [*]))|omega)
 all_goals first|rfl|simp [kwS,keywords, *]
theorem BL (l:List UInt8) (hl:l.length≤1152921504606846976) (s:St) (cx:Ctx):aj P0 (.fn (.func qF) [] []) [.s l] s cx=.ret (.b (CJ l)) s:=by
 refine QT (by simp) ?_
 cases l with
 | nil=>simp [af,rM,CJ]
 | cons b r=>
  have e1:=IK _ hl
  simp [af,rM,e1,CJ,YT]
  repeat' (first | (split<;>(try simp only [dG,dH,dI,gQ,gU])<;>(try simp [*])) | (simp only [dG,dH,dI,gQ,gU]<;>(try simp [*]))|omega)
theorem BM (l:List UInt8) (hl:l.length≤1152921504606846976) (s:St) (cx:Ctx):aj P0 (.fn (.func kL) [] []) [.s l] s cx=.ret (.b (Gg l)) s:=by
 refine JL (by simp) ?_
 cases l with
 | nil=>simp [af,lY,Gg]
 | cons b r=>
  have e1:=IK _ hl
  simp [af,lY,e1,Gg]
  repeat' (first | (split<;>(try simp only [dG,dH,dI,gQ,gU])<;>(try simp [*])) | (simp only [dG,dH,dI,gQ,gU]<;>(try simp [*]))|omega)
@[simp] theorem adM (l:List UInt8) (s:St) (cx:Ctx):aj P0 (.fn (.func jU) [] []) [.s l] s cx=.ret (.b (jc l)) s:=by
 refine OU (by simp) ?_
 by_cases hl:l.length≤24
 ·have hn:¬((24:Int)<l.length):=by omega
  cases hc:mJ 58 l with
  | none=>
   have hcut:=zh l 58 (by omega)
   rw [hc] at hcut
   simp only [] at hcut
   have e1:=BL l (by omega)
   simp [af,ng,hcut,hn,e1,jc,hc,hl]
   repeat' (first | (split<;>(try simp only [dG,dH,dI,gQ,gU])<;>(try simp [*])) | (simp only [dG,dH,dI,gQ,gU]<;>(try simp [*]))|omega)
  | some p=>
   obtain ⟨x,y⟩:=p
   have hcut:=zh l 58 (by omega)
   rw [hc] at hcut
   simp only [] at hcut
   have:=nM hc
   have hx:x.length≤1152921504606846976:=by have:=congrArg List.length this;simp at this;omega
   have hy:y.length≤1152921504606846976:=by have:=congrArg List.length this;simp at this;omega
   clear this
   have e1:=BL x hx
   have e2:=BL y hy
   simp [af,ng,hcut,hn,e1,e2,jc,hc,hl]
   repeat' (first | (split<;>(try simp only [dG,dH,dI,gQ,gU])<;>(try simp [*])) | (simp only [dG,dH,dI,gQ,gU]<;>(try simp [*]))|omega)
 ·have hn:(24:Int)<l.length:=by omega
  simp [af,ng,hn,jc,hl]
end Go.Ai.Z
namespace Go.Ai.Z
def EG (c:C):Bool:=
 let plain:=decide (c.lo=0) && decide (c.hi=0)
 if c.kind=1 then plain && decide (c.name=[]) && decide ((c.parts.length:Int)=0)
 else if c.kind=2 then plain && decide (c.name=[]) && decide ((c.parts.length:Int)=0)
 else if c.kind=3 then plain && decide ((c.parts.length:Int)=0)
 else if c.kind=4 then plain && decide ((c.parts.length:Int)=0)
 else if c.kind=5 then plain && decide (c.name=[]) && decide ((2:Int)≤c.parts.length) && decide ((c.parts.length:Int)≤8)
 else if c.kind=6 then plain && decide ((c.parts.length:Int)=1)
 else if c.kind=7 then decide ((c.parts.length:Int)=0) && decide (-1099511627776≤c.lo) && decide (c.lo≤c.hi) && decide (c.hi≤1099511627776)
 else false
def TK (c:C):Bool:=
 if c.kind=3 then jc c.name
 else if c.kind=6 then jc c.name
 else if c.kind=7 then jc c.name
 else if c.kind=4 then jc c.name || Gg c.name
 else true
mutual
def Ba:C→Int
 | .mk k n l h z ps=>if EG (.mk k n l h z ps)=false then 21 else if TK (.mk k n l h z ps)=false then 20 else C9 ps
def C9:List C→Int
 | []=>0
 | p::r=>if Ba p=0 then C9 r else Ba p
end
theorem adU (c:C):Ba c=if EG c=false then 21 else if TK c=false then 20 else C9 c.parts:=by cases c;simp [Ba]
def IA (c:C):Int:=if 8<FB c∨64<zY c then 21 else Ba c
end Go.Ai.Z
namespace Go.Ai.Z
def rC (c:C):Int:=if EG c=false then 21 else if TK c=false then 20 else 0
theorem aaJ:P0.glob Dv=some [.i .i64 0,.i .i64 0,.i .i64 0,.b false,.i .i64 0,.i .i64 0,.i .i64 0,.b false,.i .i64 0,.i .i64 0,.i .i64 0,.b false,.i .i64 1,.i .i64 0,.i .i64 0,.b false,.i .i64 2,.i .i64 0,.i .i64 0,.b false,.i .i64 0,.i .i64 2,.i .i64 8,.b false,.i .i64 1,.i .i64 1,.i .i64 1,.b false,.i .i64 1,.i .i64 0,.i .i64 0,.b true]:=rfl
theorem JX (c:C) (hn:c.name.length≤1152921504606846976) (s:St) (cx:Ctx):aj P0 (.fn (.func mr) [] []) [jR c] s cx=.ret (.i .i64 (rC c)) s:=by
 refine Ig (by simp) ?_
 have e1:=BM c.name hn
 by_cases h0:c.kind<1
 ·have:EG c=false:=by simp [EG,show ¬c.kind=1 by omega,show ¬c.kind=2 by omega,show ¬c.kind=3 by omega,show ¬c.kind=4 by omega,show ¬c.kind=5 by omega,show ¬c.kind=6 by omega,show ¬c.kind=7 by omega]
  simp [af,jh,h0,rC,this]
 by_cases h8:7<c.kind
 ·have:EG c=false:=by simp [EG,show ¬c.kind=1 by omega,show ¬c.kind=2 by omega,show ¬c.kind=3 by omega,show ¬c.kind=4 by omega,show ¬c.kind=5 by omega,show ¬c.kind=6 by omega,show ¬c.kind=7 by omega]
  simp [af,jh,h0,h8,rC,this]
 have hk:c.kind=1∨c.kind=2∨c.kind=3∨c.kind=4∨c.kind=5∨c.kind=6∨c.kind=7:=by omega
 rcases hps:c.parts with _|⟨a,_|⟨b,r⟩⟩<;>rcases hk with hk|hk|hk|hk|hk|hk|hk
 all_goals
  clear h0 h8
  simp [af,jh,hk,aaJ,rC,EG,TK,hps]
  repeat' (first | (split<;>(try simp only [dG,dH,dI,gQ,gU])<;>(try simp [*])) | (simp only [dG,dH,dI,gQ,gU]<;>(try simp [*]))|omega)
end Go.Ai.Z
namespace Go.Ai.Z
mutual
def yu:C→Nat→Nat→Bool×Nat
 | .mk _ _ _ _ _ ps,d,n=>if 8<d∨64<n+1 then (false,n+1) else Fv ps d (n+1)
def Fv:List C→Nat→Nat→Bool×Nat
 | [],_,n=>(true,n)
 | p::r,d,n=>if (yu p (d+1) n).1=true then Fv r d (yu p (d+1) n).2 else (false,(yu p (d+1) n).2)
end
theorem Na (c:C) (d n:Nat):yu c d n=if 8<d∨64<n+1 then (false,n+1) else Fv c.parts d (n+1):=by cases c;simp [yu]
theorem agA:∀(c:C) (d n:Nat),n≤64→(yu c d n).2≤65∧((yu c d n).1=true→(yu c d n).2≤64):=by
 refine C.ind' fun c ih d n hn=>?_
 have hL:∀(l:List C),(∀p∈l,∀(d n:Nat),n≤64→(yu p d n).2≤65∧((yu p d n).1=true→(yu p d n).2≤64))→∀n,n≤64→(Fv l d n).2≤65∧((Fv l d n).1=true→(Fv l d n).2≤64):=by
  intro l
  induction l with
  | nil=>intro _ n hn;simp [Fv];omega
  | cons p r ih=>
   intro h n hn
   have h1:=h p (by simp) (d+1) n hn
   simp only [Fv]
   split
   ·rename_i ht;exact ih (fun q hq=>h q (by simp [hq])) _ (h1.2 ht)
   ·exact ⟨h1.1,by simp⟩
 rw [Na]
 split
 ·exact ⟨by simp;omega,by simp⟩
 ·exact hL c.parts ih _ (by omega)
theorem agB:∀(c:C) (d n:Nat),n≤64→((yu c d n).1=true ↔ d+FB c≤8∧n+zY c≤64)∧((yu c d n).1=true→(yu c d n).2=n+zY c):=by
 refine C.ind' fun c ih d n hn=>?_
 have hL:∀(l:List C),(∀p∈l,∀(d n:Nat),n≤64→((yu p d n).1=true ↔ d+FB p≤8∧n+zY p≤64)∧((yu p d n).1=true→(yu p d n).2=n+zY p))→∀n,n≤64→d≤8→
   ((Fv l d n).1=true ↔ d+O7 l≤8∧n+LQ l≤64)∧((Fv l d n).1=true→(Fv l d n).2=n+LQ l):=by
  intro l
  induction l with
  | nil=>intro _ n hn hd;simp [Fv,O7,LQ];omega
  | cons p r ih=>
   intro h n hn hd
   have h1:=h p (by simp) (d+1) n hn
   simp only [Fv,O7,LQ]
   by_cases ht:(yu p (d+1) n).1=true
   ·have h2:=h1.2 ht
    have h3:=h1.1.1 ht
    rw [if_pos ht]
    have h4:=ih (fun q hq=>h q (by simp [hq])) (yu p (d+1) n).2 (by omega) hd
    rw [h2] at h4 ⊢
    refine ⟨h4.1.trans ⟨fun h=>⟨by omega,by omega⟩,fun h=>⟨by omega,by omega⟩⟩,fun h=>by rw [h4.2 h];omega⟩
   ·rw [if_neg ht]
    refine ⟨⟨fun h=>by simp at h,fun h=>absurd (h1.1.2 ⟨by omega,by omega⟩) ht⟩,fun h=>by simp at h⟩
 rw [Na,adt,ad8]
 have hL:=hL c.parts ih
 split
 ·rename_i h;refine ⟨⟨fun h=>by simp at h,fun h=>by omega⟩,fun h=>by simp at h⟩
 ·have:=hL (n+1) (by omega) (by omega)
  refine ⟨this.1.trans ⟨fun h=>⟨by omega,by omega⟩,fun h=>⟨by omega,by omega⟩⟩,fun h=>by rw [this.2 h];omega⟩
theorem Yq {T:St} {l:Nat} {v:dJ} (h:T[l]?=some v):T.set l v=T:=by
 obtain ⟨h1,h2⟩:=List.getElem?_eq_some_iff.1 h
 rw [←h2];exact List.set_getElem_self h1
inductive C.Lng:C→Prop where
 | mk (c:C) (hn:c.name.length≤1152921504606846976) (hps:c.parts.length≤1152921504606846976) (hp:∀p∈c.parts,C.Lng p):C.Lng c
theorem C.Lng.n {c:C} (h:C.Lng c):c.name.length≤1152921504606846976:=by cases h;assumption
theorem C.Lng.ps {c:C} (h:C.Lng c):c.parts.length≤1152921504606846976:=by cases h;assumption
theorem C.Lng.sub {c:C} (h:C.Lng c):∀p∈c.parts,C.Lng p:=by cases h;assumption
theorem C.Ok.lng {c:C} (h:C.Ok c):C.Lng c:=by
 induction h with
 | mk c hn hps _ _ _ _ ih=>exact .mk c hn hps ih
theorem ahi:∀c:C,wC c≤100000→C.Lng c:=by
 refine C.ind' fun c ih hw=>?_
 have hl:=adW c.parts
 rw [ag7] at hw
 exact .mk c (by omega) (by omega) fun p hp=>ih p hp (by have:=adV hp;omega)
theorem MI (c:C) (hw:C.Lng c) (cx:Ctx) (l:Nat) (hcl:cx.lim≤l) (d:Nat) (hd:d≤8)
  (ih:∀p∈c.parts,∀(d n:Nat) (s:St) (cx:Ctx),d≤100→n≤64→cx.lim≤l→s[l]?=some (.cells [.i .i64 n])→
   aj P0 (.fn (.func rG) [] []) [jR p,.i .i64 d,.pt l 0] s cx=.ret (.b (yu p d n).1) (s.set l (.cells [.i .i64 (yu p d n).2]))):
  ∀(rest:List C) (i:Nat) (n:Nat) (s:St),n≤64→s[l]?=some (.cells [.i .i64 n])→c.parts.drop i=rest→
  ∃j:Int,bF (ay P0.glob (aj P0) cx false qy) [1,2,23,24,25] [(1,.v (.i .i64 d)),(2,.v (.pt l 0)),(23,.v (slf c.z (c.parts.map jR))),(24,.v (.i .i64 c.parts.length)),(25,.v (.i .i64 i))] s=
   if (Fv rest d n).1=true then .exit 0 [(1,.v (.i .i64 d)),(2,.v (.pt l 0)),(23,.v (slf c.z (c.parts.map jR))),(24,.v (.i .i64 c.parts.length)),(25,.v (.i .i64 j)),(26,.v (.b false))] (s.set l (.cells [.i .i64 (Fv rest d n).2]))
   else .ret [(6,.v (.b false))] (s.set l (.cells [.i .i64 (Fv rest d n).2]))
 | [],i,n,s,hn,hs,h=>by
  have h1:¬i<c.parts.length:=Nat.not_lt.2 (drop_nil h)
  refine ⟨i,ak fun K hK=>?_⟩
  simp [qy,h1,Fv,Yq hs]
 | p::r,i,n,s,hn,hs,h=>by
  obtain ⟨h1,h2,h3,h4⟩:=drop_cons h
  have h5:=h4 h3
  have hp:p∈c.parts:=by rw [←h5];exact List.getElem_mem h3
  have hwi:=wI (i:=i) (by have:=hw.ps;omega)
  have hlt:l<s.length:=(List.getElem?_eq_some_iff.1 hs).1
  have e1:=ih p hp (d+1) n s cx (by omega) hn hcl hs
  have w1:IntKind.i64.wrap ((d:Int)+1)=(d:Int)+1:=w64 (by omega) (by omega)
  simp at e1
  by_cases ht:(yu p (d+1) n).1=true
  ·have hle:=(agA p (d+1) n hn).2 ht
   obtain ⟨j,ih2⟩:=MI c hw cx l hcl d hd ih r (i+1) (yu p (d+1) n).2 (s.set l (.cells [.i .i64 (yu p (d+1) n).2])) hle (by simp [hlt]) h2
   refine ⟨j,ak fun K hK=>?_⟩
   rw [←hK] at ih2
   clear hK h4 ih
   simp at ih2
   simp [qy,h3,h5,hwi,w1,e1,ih2,Fv,ht]
  ·refine ⟨i,ak fun K hK=>?_⟩
   clear hK h4 ih
   simp [qy,h3,h5,hwi,w1,e1,Fv,ht]
theorem X4 (l:Nat):∀(c:C),C.Lng c→∀(d n:Nat) (s:St) (cx:Ctx),d≤100→n≤64→cx.lim≤l→s[l]?=some (.cells [.i .i64 n])→
   aj P0 (.fn (.func rG) [] []) [jR c,.i .i64 d,.pt l 0] s cx=.ret (.b (yu c d n).1) (s.set l (.cells [.i .i64 (yu c d n).2])):=by
 refine C.ind' fun c ih hw d n s cx hd hn hcl hs=>?_
 have hlt:l<s.length:=(List.getElem?_eq_some_iff.1 hs).1
 have w1:IntKind.i64.wrap ((n:Int)+1)=(n:Int)+1:=w64 (by omega) (by omega)
 have hs':s[l]=.cells [.i .i64 n]:=(List.getElem?_eq_some_iff.1 hs).2
 refine VE (by simp) ?_
 by_cases h8:(8:Int)<d
 ·simp [af,sF,hs',hlt,hcl,w1,h8,Na c,show 8<d by omega]
 by_cases h64:(64:Int)<(n:Int)+1
 ·simp [af,sF,hs',hlt,hcl,w1,h8,h64,Na c,show 64<n+1 by omega]
 ·obtain ⟨j,h⟩:=MI c hw ⟨cx.lim,s.length⟩ l hcl d (by omega) (fun p hp=>ih p hp (hw.sub p hp)) c.parts 0 (n+1) (s.set l (.cells [.i .i64 (n+1:Nat)])) (by omega) (by simp [hlt]) rfl
  simp at h
  have hcond:¬(8<d∨64<n+1):=by omega
  simp [af,sF,hs',hlt,hcl,w1,h8,h64,Na c,hcond,h]
  repeat' (first | (split<;>(try simp only [dG,dH,dI,gQ,gU])<;>(try simp [*])) | (simp only [dG,dH,dI,gQ,gU]<;>(try simp [*]))|omega)
def UQ (a:Nat) (c:C):Env:=[(2,.v (.pt a 0)),(10,.v (.fn (.func lI) [] [.ip (jR c).cells]))]
def rD (a:Nat) (c:C) (p:Rl):dJ:=.loop (UQ a c) [11] kU kT p
theorem NY (x:C) (a:Nat) {e':AV} (T:St) (cx:Ctx) (hb:cx.base≤T.length) (hlt:cx.lim≤T.length):
  ay P0.glob (aj P0) cx true kU [(11,.v (jR x)),(2,.v (.pt a 0)),(10,.v e')] T=.norm [(2,.v (.pt a 0)),(4,.v (.pt T.length 0))] (T++[.cells (jR x).cells]):=by
 simp [kU,hb,hlt]
theorem NW (x:C) (hx:x.name.length≤1152921504606846976) (a m:Nat) (v:AV) (S:St) (cx:Ctx) (hm:S[m]?=some (.cells (jR x).cells)) (ha:S[a]?=some (.cells [v])) (hca:cx.lim≤a):
  ay P0.glob (aj P0) cx true kT [(2,.v (.pt a 0)),(4,.v (.pt m 0))] S=
   if rC x=0 then .norm [(2,.v (.pt a 0)),(5,.v (.i .i64 (rC x))),(15,.v (.b false))] S else .ret [] (S.set a (.cells [.i .i64 (rC x)])):=by
 have e1:=JX x hx
 simp at hm
 by_cases h0:rC x=0<;>simp [kT,hm,ha,hca,e1,h0]
theorem RN (c x:C) (hx:x.name.length≤1152921504606846976) (a l:Nat) (v:AV) (T:St) (cx:Ctx) (hl:T[l]?=some (rD a c .ready)) (ha:T[a]?=some (.cells [v])) (hcl:cx.lim≤l) (hca:cx.lim≤a) (hb:cx.base≤T.length) (hlt:cx.lim≤T.length):
  aj P0 (.yl l) [jR x] T cx=if rC x=0 then .ret (.b true) (T++[.cells (jR x).cells])
   else .ret (.b false) ((T.set a (.cells [.i .i64 (rC x)])).set l (rD a c .ret)++[.cells (jR x).cells]):=by
 have hl1:l<T.length:=(List.getElem?_eq_some_iff.1 hl).1
 have ha1:a<T.length:=(List.getElem?_eq_some_iff.1 ha).1
 have hal:¬l=a:=by intro e;subst e;rw [hl] at ha;simp [rD] at ha
 have hl2:T[l]=rD a c .ready:=(List.getElem?_eq_some_iff.1 hl).2
 have hA:=NY (e':=.fn (.func lI) [] [.ip (jR c).cells]) x a T cx hb hlt
 have hR:=NW x hx a T.length v (T.set l (rD a c .busy)++[.cells (jR x).cells]) cx (by rw [List.getElem?_append_right (by simp)];simp) (by rw [List.getElem?_append_left (by simpa using ha1)];rw [List.getElem?_set_ne hal];exact ha) hca
 refine WW (by split<;>simp) ?_
 unfold NV
 rw [hl]
 simp only [rD,UQ,GR,put,lk]
 simp at hA hR
 have hset:=Yq hl
 simp only [rD,UQ] at hset hR
 simp at hset hR
 by_cases h0:rC x=0
 ·simp [hA,hcl,hl1,hR,h0,sK,hset,List.getElem?_append_left,hl2,rD,UQ]
 ·simp [hA,hcl,hl1,hR,h0,sK,List.getElem?_append_left,hl2,rD,UQ,ha1,Ne.symm hal,hal]
  rw [List.set_comm _ _ hal,List.set_set]
theorem WY (x:C):Ba x=if rC x=0 then C9 x.parts else rC x:=by
 rw [adU];unfold rC
 by_cases h1:EG x=false<;>by_cases h2:TK x=false<;>simp [h1,h2]
theorem J4 (c x:C) (hw:C.Lng x) (a l:Nat) (v:AV) (cx:Ctx) (T:St) (hl:T[l]?=some (rD a c .ready)) (ha:T[a]?=some (.cells [v])) (hcl:cx.lim≤l) (hca:cx.lim≤a)
  (ih:∀p∈x.parts,∀(T:St) (cx:Ctx),T[l]?=some (rD a c .ready)→T[a]?=some (.cells [v])→cx.lim≤l→cx.lim≤a→
   aj P0 (.fn (.func pR) [] []) [jR p,.yl l] T cx=if Ba p=0 then .ret (.b true) T else .ret (.b false) ((T.set a (.cells [.i .i64 (Ba p)])).set l (rD a c .ret))):
  ∀(rest:List C) (i:Nat),x.parts.drop i=rest→
  ∃j:Int,bF (ay P0.glob (aj P0) cx false oK) [1,12,13,14] [(1,.v (.yl l)),(12,.v (slf x.z (x.parts.map jR))),(13,.v (.i .i64 x.parts.length)),(14,.v (.i .i64 i))] T=
   if C9 rest=0 then .exit 0 [(1,.v (.yl l)),(12,.v (slf x.z (x.parts.map jR))),(13,.v (.i .i64 x.parts.length)),(14,.v (.i .i64 j)),(15,.v (.b false))] T
   else .ret [(4,.v (.b false))] ((T.set a (.cells [.i .i64 (C9 rest)])).set l (rD a c .ret))
 | [],i,h=>by
  have h1:¬i<x.parts.length:=Nat.not_lt.2 (drop_nil h)
  refine ⟨i,ak fun K hK=>?_⟩
  simp [oK,h1,C9]
 | p::r,i,h=>by
  obtain ⟨h1,h2,h3,h4⟩:=drop_cons h
  have h5:=h4 h3
  have hp:p∈x.parts:=by rw [←h5];exact List.getElem_mem h3
  have hwi:=wI (i:=i) (by have:=hw.ps;omega)
  have e1:=ih p hp T cx hl ha hcl hca
  by_cases h0:Ba p=0
  ·obtain ⟨j,ih2⟩:=J4 c x hw a l v cx T hl ha hcl hca ih r (i+1) h2
   refine ⟨j,ak fun K hK=>?_⟩
   rw [←hK] at ih2
   clear hK h4 ih
   simp at ih2
   simp [oK,h3,h5,hwi,e1,ih2,C9,h0]
  ·refine ⟨i,ak fun K hK=>?_⟩
   clear hK h4 ih
   simp [oK,h3,h5,hwi,e1,C9,h0]
theorem VP (c:C) (a l:Nat) (v:AV):∀(x:C),C.Lng x→∀(T:St) (cx:Ctx),T[l]?=some (rD a c .ready)→T[a]?=some (.cells [v])→cx.lim≤l→cx.lim≤a→
   aj P0 (.fn (.func pR) [] []) [jR x,.yl l] T cx=if Ba x=0 then .ret (.b true) T else .ret (.b false) ((T.set a (.cells [.i .i64 (Ba x)])).set l (rD a c .ret)):=by
 refine C.ind' fun x ih hw T cx hl ha hcl hca=>?_
 have hl1:l<T.length:=(List.getElem?_eq_some_iff.1 hl).1
 have ha1:a<T.length:=(List.getElem?_eq_some_iff.1 ha).1
 have hy:=RN c x hw.n a l v T ⟨cx.lim,T.length⟩ hl ha hcl hca (Nat.le_refl _) (by simp;omega)
 refine Uo (by split<;>simp) ?_
 simp at hy
 by_cases h0:rC x=0
 ·obtain ⟨j,h⟩:=J4 c x hw a l v ⟨cx.lim,T.length⟩ (T++[.cells (jR x).cells]) (by rw [List.getElem?_append_left hl1];exact hl) (by rw [List.getElem?_append_left ha1];exact ha) hcl hca
   (fun p hp T cx=>ih p hp (hw.sub p hp) T cx) x.parts 0 rfl
  simp at h
  by_cases hz:C9 x.parts=0
  ·simp [af,qw,hy,h0,h,hz,WY x,frz,AV.under]
  ·simp [af,qw,hy,h0,h,hz,WY x,frz,AV.under,ha1,hl1,List.set_append_left]
 ·simp [af,qw,hy,h0,WY x,frz,AV.under,List.take_append_of_le_length]
theorem abL (s r:St) (k:Nat):(s++r)[s.length+k]?=r[k]?:=by rw [List.getElem?_append_right (by omega)];congr 1;omega
theorem abf (s r:St) (k:Nat) (v:dJ):(s++r).set (s.length+k) v=s++r.set k v:=by rw [List.set_append_right _ _ (by omega)];congr 2;omega
@[simp] theorem agO (c:C) (s:St) (cx:Ctx):aj P0 (.fn (.func xY) [] []) [jR c] s cx=.ret (.fn (.func lI) [] [.ip (jR c).cells]) s:=by
 refine VD (by simp) ?_
 simp [af,y9,frz,rQ]
theorem yC (c:C) (hw:C.Lng c) (s:St) (cx:Ctx):aj P0 (.fn (.func jq) [] []) [jR c] s cx=.ret (.i .i64 (IA c)) s:=by
 refine Gw (by simp) ?_
 have e1:=X4 (s.length+1) c hw 0 0 (s++[.cells [.i .i64 0],.cells [.i .i64 0]]) ⟨s.length,s.length⟩ (by omega) (by omega) (by simp) (by simp)
 have hf:=agB c 0 0 (by omega)
 simp at e1
 by_cases hfit:(yu c 0 0).1=true
 ·have hcond:¬(8<FB c∨64<zY c):=by have:=hf.1.1 hfit;omega
  let T:St:=s++[.cells [.i .i64 0],.cells [.i .i64 (yu c 0 0).2],.dfr,rD s.length c .ready]
  have hv:=VP c s.length (s.length+3) (.i .i64 0) c hw T ⟨s.length,T.length⟩ (by simp [T]) (by simp [T]) (by simp) (by simp)
  have hw1:aj P0 (.fn (.func lI) [] [.ip (jR c).cells]) [.yl (s.length+3)] T ⟨s.length,s.length⟩=
    if Ba c=0 then .ret (.tu []) T else .ret (.tu []) ((T.set s.length (.cells [.i .i64 (Ba c)])).set (s.length+3) (rD s.length c .ret)):=by
   refine QS (by split<;>simp) ?_
   by_cases h0:Ba c=0<;>simp [h0] at hv<;>simp [af,vS,hv,h0]
  simp [T] at hw1
  by_cases h0:Ba c=0
  ·simp [h0,rD,UQ] at hw1
   simp [af,iM,e1,hfit,Oh,hw1,IA,hcond,h0,KH,show s.length+2+1=s.length+3 from rfl,abL,abf]
  ·simp [h0,rD,UQ] at hw1
   simp [af,iM,e1,hfit,Oh,hw1,IA,hcond,h0,KH,show s.length+2+1=s.length+3 from rfl,abL,abf]
 ·have hcond:(8<FB c∨64<zY c):=by
   rcases Nat.lt_or_ge 8 (FB c) with h|h
   ·exact .inl h
   ·rcases Nat.lt_or_ge 64 (zY c) with h' | h'
    ·exact .inr h'
    ·exact absurd (hf.1.2 ⟨by omega,by omega⟩) hfit
  simp [af,iM,e1,hfit,IA,hcond]
end Go.Ai.Z
