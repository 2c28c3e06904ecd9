/-
 Names: what the program's and the reference's functions on them answer.
-/
import Derived.Test.YtcofenimejmoeaaGreatDoorAiC1
import Derived.Test.YtcofenimejmoeaaGreatDoorAiDf
import Derived.KernelRfl
set_option maxRecDepth 100000
set_option linter.unusedSimpArgs false
set_option linter.unusedVariables false
set_option linter.unusedSectionVars false
namespace Go.Ai.Z
def lD (b:UInt8):Rl→Option (Rl×Rl)
 | []=>none
 | x::r=>if x=b then some ([],r) else (lD b r).map fun p=>(x::p.1,p.2)
theorem yK {b:UInt8}:∀{l:Rl},lD b l=none ↔ b ∉ l
 | []=>by simp [lD]
 | x::r=>by
  by_cases h:x=b
  ·simp [lD,h]
  ·have:=yK (b:=b) (l:=r)
   simp [lD,h,this,Ne.symm h]
theorem vS {b:UInt8}:∀{l x y:Rl},lD b l=some (x,y)→l=x++b::y
 | [],_,_,h=>by simp [lD] at h
 | c::r,x,y,h=>by
  by_cases hc:c=b
  ·simp [lD,hc] at h;obtain ⟨rfl,rfl⟩:=h;simp [hc]
  ·simp [lD,hc] at h;obtain ⟨p,q,rfl⟩:=h;simp [vS q]
theorem index_none {b:UInt8}:∀{l:Rl},lD b l=none→Go.Lib.indexByte l b=-1
 | [],_=>rfl
 | c::r,h=>by
  by_cases hc:c=b
  ·simp [lD,hc] at h
  ·simp [lD,hc] at h;simp [Go.Lib.indexByte,hc,index_none h]
theorem DY {b:UInt8}:∀{l x y:Rl},lD b l=some (x,y)→Go.Lib.indexByte l b=x.length
 | [],_,_,h=>by simp [lD] at h
 | c::r,x,y,h=>by
  by_cases hc:c=b
  ·simp [lD,hc] at h;obtain ⟨rfl,rfl⟩:=h;simp [Go.Lib.indexByte,hc]
  ·simp [lD,hc] at h;obtain ⟨p,q,rfl⟩:=h
   have:=DY q
   have h1:¬((p.length:Int)=-1):=by omega
   simp [Go.Lib.indexByte,hc,this,h1]
theorem VJ (l:Rl) (b:UInt8) (s:St) (cx:Ctx):aj P0 (.fn (.func jZ) [] []) [.s l,.s [b]] s cx=.ret (.i .i64 (Go.Lib.indexByte l b)) s:=
 rY (h:=H6 Vm) rfl rfl
theorem La (l:Rl) (b:UInt8) (hl:l.length≤1152921504606846976) (s:St) (cx:Ctx):aj P0 (.fn (.func jr) [] []) [.s l,.s [b]] s cx=
  .ret (match lD b l with|some (x,y)=>.tu [.s x,.s y,.b true] | none=>.tu [.s l,.s [],.b false]) s:=by
 refine zU (by simp) ?_
 cases hc:lD b l with
 | none=>simp [af,je,VJ,index_none hc]
 | some p=>
  obtain ⟨x,y⟩:=p;have hi:=DY hc;have he:=vS hc;have hlen:l.length=x.length+(y.length+1):=by rw [he];simp
  have w1:IntKind.i64.wrap ((x.length:Int)+1)=(x.length:Int)+1:=w64 (by omega) (by omega);have e1:l.take x.length=x:=by rw [he];simp
  have e2:(l.drop (x.length+1)).take (l.length - (x.length+1))=y:=by
   rw [hlen,he,show x.length+1=(x++[b]).length from by simp,show x++b::y=(x++[b])++y from by simp,List.drop_left];exact List.take_of_length_le (by simp;omega)
  clear he;have hn:((x.length:Int)+1).toNat=x.length+1:=by omega
  have h0:(0:Int)≤(x.length:Int)+1:=by omega
  have g1:x.length≤l.length:=by omega
  have g2:x.length+1≤l.length:=by omega
  simp [af,je,VJ,hi,w1,hn,h0,g1,g2,e1,e2]
theorem yX (l:Rl) (b:UInt8) (hl:l.length≤1152921504606846976) (s:St) (cx:Ctx):aj P0 (.fn (.func pV) [] []) [.s l,.s [b]] s cx=
  .ret (match lD b l with|some (x,y)=>.tu [.s x,.s y,.b true] | none=>.tu [.s l,.s [],.b false]) s:=by
 refine QL (by simp) ?_;have e1:=La l b hl
 cases hc:lD b l with
 | none=>rw [hc] at e1;simp [af,uq,e1]
 | some p=>obtain ⟨x,y⟩:=p;rw [hc] at e1;simp [af,uq,e1]
def aa3 (k:Int):Bool:=decide (97≤k) && decide (k≤122) || decide (65≤k) && decide (k≤90)
def ahD (k:Int):Bool:=aa3 k || decide (48≤k) && decide (k≤57) || decide (k=95)
def ajZ (b:UInt8):Bool:=aa3 b.toNat
def YT (b:UInt8):Bool:=ahD b.toNat
def Hy:Rl→Bool
 | []=>true
 | b::r=>YT b && Hy r
theorem aaB:Hy []=true:=rfl
theorem Ir (b:UInt8) (r:Rl):Hy (b::r)=(YT b && Hy r):=rfl
def keywords:List Rl:=
 [[97,110,100],[115,111,109,101],[105,110],[116,111],[110,111,116,104,105,110,103],wD3,[111,110,101],[111,102],
  [111,112,101,110],[112,114,105,118,97,116,101],[115,117,98],[115,97,109,101],[100,105,115,106,111,105,110,116],[100,111,109,97,105,110],[114,111,108,101],
  [99,104,97,105,110],[114,101,102,108,101,120,105,118,101],[116,121,112,101],[108,105,110,107],[115,101,108,101,99,116],[119,104,101,114,101],[111,114]]
def kwS (l:Rl):Bool:=keywords.contains l
def Ak (l:Rl):Bool:=(match l with | []=>false|b::_=>ajZ b) && Hy l && !kwS l
def oJ (l:Rl):Bool:=decide (l.length≤24) && (match lD 58 l with|some (x,y)=>Ak x && Ak y|none=>Ak l)
def LD (l:Rl):Bool:=decide (2≤l.length) && decide (l.length≤24) && (match l with | []=>false|b::_=>decide ((b.toNat:Int)=95)) && Hy l
@[simp] theorem ab2 (k:Int) (s:St) (cx:Ctx):aj P0 (.fn (.func nS) [] []) [.i .u8 k] s cx=.ret (.b (aa3 k)) s:=by
 refine KD (by simp) ?_;simp [af,tN,aa3]
 repeat' (split<;>simp only [gy,gB,gJ]<;>simp [*])
theorem FB (s:St) (cx:Ctx) (l:Rl) (hl:l.length≤1152921504606846976):∀(rest:Rl) (i:Nat),l.drop i=rest→
  ∃j:Int,ig (aC P0.glob (aj P0) cx false rJ) [6,7,8] [(6,.v (.sl (aF l))),(7,.v (.i .i64 l.length)),(8,.v (.i .i64 i))] s=
   if Hy rest=true then .exit 0 [(6,.v (.sl (aF l))),(7,.v (.i .i64 l.length)),(8,.v (.i .i64 j)),(9,.v (.b false))] s else .ret [(2,.v (.b false))] s
 | [],i,h=>by
  have h1:¬i<l.length:=Nat.not_lt.2 (drop_nil h);refine ⟨i,ak fun K hK=>?_⟩;simp [rJ,h1,aaB]
 | b::r,i,h=>by
  obtain ⟨h1,h2,h3,h4⟩:=drop_cons h;have h5:=h4 h3;have hb:(aF l)[i]?=some (.i .u8 b.toNat):=by simp [aF,h1]
  have hw:=wI (i:=i) (by omega);obtain ⟨j,ih⟩:=FB s cx l hl r (i+1) h2;refine ⟨j,ak fun K hK=>?_⟩;rw [←hK,show ((i+1:Nat):Int)=(i:Int)+1 from rfl] at ih;clear hK
  rcases Bool.eq_false_or_eq_true (YT b) with hin|hin<;>rcases Bool.eq_false_or_eq_true (aa3 b.toNat) with hlt|hlt <;>
  ·have hin':=hin;simp [YT,ahD,hlt] at hin'
   try simp [rJ,h3,hb,Ir,hin,hlt,hw,ih]
   repeat' (first | (split<;>(try simp only [gy,gB,gJ,kz,kC])<;>(try simp [*])) | (simp only [gy,gB,gJ,kz,kC]<;>(try simp [*]))|omega)
theorem F8 (l:Rl) (hl:l.length≤1152921504606846976) (s:St) (cx:Ctx):aj P0 (.fn (.func qJ) [] []) [.s l] s cx=.ret (.b (Hy l)) s:=by
 refine OI (by simp) ?_;obtain ⟨j,h⟩:=FB s ⟨s.length,s.length⟩ l hl l 0 rfl;have hb:(aF l).length=l.length:=by simp [aF]
 simp at h;simp [af,vZ,hb,h]
 repeat' (first | (split<;>(try simp only [gy,gB,gJ,kz,kC])<;>(try simp [*])) | (simp only [gy,gB,gJ,kz,kC]<;>(try simp [*]))|omega)
@[simp] theorem ab9 (l:Rl) (s:St) (cx:Ctx):aj P0 (.fn (.func sQ) [] []) [.s l] s cx=.ret (.b (kwS l)) s:=by
 refine MK (by simp) ?_;simp [af,uX]
 repeat' (first | (split<;>(try simp only [gy,gB,gJ,kz,kC])<;>(try simp [*])) | (simp only [gy,gB,gJ,kz,kC]<;>(try simp [*]))|omega)
 all_goals first|rfl|simp [kwS,keywords, *]
theorem AL (l:Rl) (hl:l.length≤1152921504606846976) (s:St) (cx:Ctx):aj P0 (.fn (.func qI) [] []) [.s l] s cx=.ret (.b (Ak l)) s:=by
 refine OH (by simp) ?_
 cases l with
 | nil=>simp [af,sG,Ak]
 | cons b r=>
  have e1:=F8 _ hl;simp [af,sG,e1,Ak,ajZ]
  repeat' (first | (split<;>(try simp only [gy,gB,gJ,kz,kC])<;>(try simp [*])) | (simp only [gy,gB,gJ,kz,kC]<;>(try simp [*]))|omega)
theorem AO (l:Rl) (hl:l.length≤1152921504606846976) (s:St) (cx:Ctx):aj P0 (.fn (.func lU) [] []) [.s l] s cx=.ret (.b (LD l)) s:=by
 refine G6 (by simp) ?_
 cases l with
 | nil=>simp [af,mY,LD]
 | cons b r=>
  have e1:=F8 _ hl;simp [af,mY,e1,LD]
  repeat' (first | (split<;>(try simp only [gy,gB,gJ,kz,kC])<;>(try simp [*])) | (simp only [gy,gB,gJ,kz,kC]<;>(try simp [*]))|omega)
@[simp] theorem ab7 (l:Rl) (s:St) (cx:Ctx):aj P0 (.fn (.func lF) [] []) [.s l] s cx=.ret (.b (oJ l)) s:=by
 refine MC (by simp) ?_;by_cases hl:l.length≤24
 ·have hn:¬((24:Int)<l.length):=by omega
  cases hc:lD 58 l with
  | none=>
   have hcut:=yX l 58 (by omega);rw [hc] at hcut;simp only [] at hcut;have e1:=AL l (by omega);simp [af,nP,hcut,hn,e1,oJ,hc,hl]
   repeat' (first | (split<;>(try simp only [gy,gB,gJ,kz,kC])<;>(try simp [*])) | (simp only [gy,gB,gJ,kz,kC]<;>(try simp [*]))|omega)
  | some p=>
   obtain ⟨x,y⟩:=p;have hcut:=yX l 58 (by omega);rw [hc] at hcut;simp only [] at hcut
   have:=vS hc
   have hx:x.length≤1152921504606846976:=by have:=congrArg List.length this;simp at this;omega
   have hy:y.length≤1152921504606846976:=by have:=congrArg List.length this;simp at this;omega
   clear this;have e1:=AL x hx;have e2:=AL y hy;simp [af,nP,hcut,hn,e1,e2,oJ,hc,hl]
   repeat' (first | (split<;>(try simp only [gy,gB,gJ,kz,kC])<;>(try simp [*])) | (simp only [gy,gB,gJ,kz,kC]<;>(try simp [*]))|omega)
 ·have hn:(24:Int)<l.length:=by omega
  simp [af,nP,hn,oJ,hl]
def kS (c:C):Bool:=
 let plain:=decide (c.lo=0) && decide (c.hi=0)
 if c.kind=1 then plain && decide (c.name=[]) && decide ((c.parts.length:Int)=0)
 else if c.kind=2 then plain && decide (c.name=[]) && decide ((c.parts.length:Int)=0)
 else if c.kind=3 then plain && decide ((c.parts.length:Int)=0)
 else if c.kind=4 then plain && decide ((c.parts.length:Int)=0)
 else if c.kind=5 then plain && decide (c.name=[]) && decide ((2:Int)≤c.parts.length) && decide ((c.parts.length:Int)≤8)
 else if c.kind=6 then plain && decide ((c.parts.length:Int)=1)
 else if c.kind=7 then decide ((c.parts.length:Int)=0) && decide (-1099511627776≤c.lo) && decide (c.lo≤c.hi) && decide (c.hi≤1099511627776)
 else false
def tC (c:C):Bool:=
 if c.kind=3 then oJ c.name
 else if c.kind=6 then oJ c.name
 else if c.kind=7 then oJ c.name
 else if c.kind=4 then oJ c.name || LD c.name
 else true
mutual
def iq:C→Int
 | .mk k n l h z ps=>if kS (.mk k n l h z ps)=false then 21 else if tC (.mk k n l h z ps)=false then 20 else qZ ps
def qZ:List C→Int
 | []=>0
 | p::r=>if iq p=0 then qZ r else iq p
end
theorem Cb (c:C):iq c=if kS c=false then 21 else if tC c=false then 20 else qZ c.parts:=by cases c;simp [iq]
def uF (c:C):Int:=if 8<yJ c∨64<nN c then 21 else iq c
def rU (c:C):Int:=if kS c=false then 21 else if tC c=false then 20 else 0
theorem YZ:P0.glob BX=some [.i .i64 0,.i .i64 0,.i .i64 0,.b false,.i .i64 0,.i .i64 0,.i .i64 0,.b false,.i .i64 0,.i .i64 0,.i .i64 0,.b false,.i .i64 1,.i .i64 0,.i .i64 0,.b false,.i .i64 2,.i .i64 0,.i .i64 0,.b false,.i .i64 0,.i .i64 2,.i .i64 8,.b false,.i .i64 1,.i .i64 1,.i .i64 1,.b false,.i .i64 1,.i .i64 0,.i .i64 0,.b true]:=rfl
theorem Hr (c:C) (hn:c.name.length≤1152921504606846976) (s:St) (cx:Ctx):aj P0 (.fn (.func nC) [] []) [aK c] s cx=.ret (.i .i64 (rU c)) s:=by
 refine FN (by simp) ?_;have e1:=AO c.name hn;by_cases h0:c.kind<1
 ·have:kS c=false:=by simp [kS,show ¬c.kind=1 by omega,show ¬c.kind=2 by omega,show ¬c.kind=3 by omega,show ¬c.kind=4 by omega,show ¬c.kind=5 by omega,show ¬c.kind=6 by omega,show ¬c.kind=7 by omega]
  simp [af,kH,h0,rU,this]
 by_cases h8:7<c.kind
 ·have:kS c=false:=by simp [kS,show ¬c.kind=1 by omega,show ¬c.kind=2 by omega,show ¬c.kind=3 by omega,show ¬c.kind=4 by omega,show ¬c.kind=5 by omega,show ¬c.kind=6 by omega,show ¬c.kind=7 by omega]
  simp [af,kH,h0,h8,rU,this]
 have hk:c.kind=1∨c.kind=2∨c.kind=3∨c.kind=4∨c.kind=5∨c.kind=6∨c.kind=7:=by omega
 rcases hps:c.parts with _|⟨a,_|⟨b,r⟩⟩<;>rcases hk with hk|hk|hk|hk|hk|hk|hk
 all_goals
  clear h0 h8;simp [af,kH,hk,YZ,rU,kS,tC,hps]
  repeat' (first | (split<;>(try simp only [gy,gB,gJ,kz,kC])<;>(try simp [*])) | (simp only [gy,gB,gJ,kz,kC]<;>(try simp [*]))|omega)
mutual
def xY:C→Nat→Nat→Bool×Nat
 | .mk _ _ _ _ _ ps,d,n=>if 8<d∨64<n+1 then (false,n+1) else D7 ps d (n+1)
def D7:List C→Nat→Nat→Bool×Nat
 | [],_,n=>(true,n)
 | p::r,d,n=>if (xY p (d+1) n).1=true then D7 r d (xY p (d+1) n).2 else (false,(xY p (d+1) n).2)
end
theorem KO (c:C) (d n:Nat):xY c d n=if 8<d∨64<n+1 then (false,n+1) else D7 c.parts d (n+1):=by cases c;simp [xY]
theorem afP:∀(c:C) (d n:Nat),n≤64→(xY c d n).2≤65∧((xY c d n).1=true→(xY c d n).2≤64):=by
 refine C.ind' fun c ih d n hn=>?_
 have hL:∀(l:List C),(∀p∈l,∀(d n:Nat),n≤64→(xY p d n).2≤65∧((xY p d n).1=true→(xY p d n).2≤64))→∀n,n≤64→(D7 l d n).2≤65∧((D7 l d n).1=true→(D7 l d n).2≤64):=by
  intro l
  induction l with
  | nil=>intro _ n hn;simp [D7];omega
  | cons p r ih=>
   intro h n hn;have h1:=h p (by simp) (d+1) n hn;simp only [D7];split
   ·rename_i ht;exact ih (fun q hq=>h q (by simp [hq])) _ (h1.2 ht)
   ·exact ⟨h1.1,by simp⟩
 rw [KO];split
 ·exact ⟨by simp;omega,by simp⟩
 ·exact hL c.parts ih _ (by omega)
theorem afQ:∀(c:C) (d n:Nat),n≤64→((xY c d n).1=true ↔ d+yJ c≤8∧n+nN c≤64)∧((xY c d n).1=true→(xY c d n).2=n+nN c):=by
 refine C.ind' fun c ih d n hn=>?_
 have hL:∀(l:List C),(∀p∈l,∀(d n:Nat),n≤64→((xY p d n).1=true ↔ d+yJ p≤8∧n+nN p≤64)∧((xY p d n).1=true→(xY p d n).2=n+nN p))→∀n,n≤64→d≤8→
   ((D7 l d n).1=true ↔ d+D9 l≤8∧n+zy l≤64)∧((D7 l d n).1=true→(D7 l d n).2=n+zy l):=by
  intro l
  induction l with
  | nil=>intro _ n hn hd;simp [D7,D9,zy];omega
  | cons p r ih=>
   intro h n hn hd;have h1:=h p (by simp) (d+1) n hn;simp only [D7,D9,zy];by_cases ht:(xY p (d+1) n).1=true
   ·have h2:=h1.2 ht;have h3:=h1.1.1 ht;rw [if_pos ht];have h4:=ih (fun q hq=>h q (by simp [hq])) (xY p (d+1) n).2 (by omega) hd;rw [h2] at h4 ⊢;refine ⟨h4.1.trans ⟨fun h=>⟨by omega,by omega⟩,fun h=>⟨by omega,by omega⟩⟩,fun h=>by rw [h4.2 h];omega⟩
   ·rw [if_neg ht];refine ⟨⟨fun h=>by simp at h,fun h=>absurd (h1.1.2 ⟨by omega,by omega⟩) ht⟩,fun h=>by simp at h⟩
 rw [KO,MO,Ci];have hL:=hL c.parts ih;split
 ·rename_i h;refine ⟨⟨fun h=>by simp at h,fun h=>by omega⟩,fun h=>by simp at h⟩
 ·have:=hL (n+1) (by omega) (by omega)
  refine ⟨this.1.trans ⟨fun h=>⟨by omega,by omega⟩,fun h=>⟨by omega,by omega⟩⟩,fun h=>by rw [this.2 h];omega⟩
theorem PL {T:St} {l:Nat} {v:fZ} (h:T[l]?=some v):T.set l v=T:=by
 obtain ⟨h1,h2⟩:=List.getElem?_eq_some_iff.1 h;rw [←h2];exact List.set_getElem_self h1
inductive C.Lng:C→Prop where
 | mk (c:C) (hn:c.name.length≤1152921504606846976) (hps:c.parts.length≤1152921504606846976) (hp:∀p∈c.parts,C.Lng p):C.Lng c
theorem C.Lng.n {c:C} (h:C.Lng c):c.name.length≤1152921504606846976:=by cases h;assumption
theorem C.Lng.ps {c:C} (h:C.Lng c):c.parts.length≤1152921504606846976:=by cases h;assumption
theorem C.Lng.sub {c:C} (h:C.Lng c):∀p∈c.parts,C.Lng p:=by cases h;assumption
theorem C.Ok.lng {c:C} (h:C.Ok c):C.Lng c:=by
 induction h with
 | mk c hn hps _ _ _ _ ih=>exact .mk c hn hps ih
theorem agG:∀c:C,wC c≤100000→C.Lng c:=by
 refine C.ind' fun c ih hw=>?_;have hl:=Pv c.parts;rw [Eo] at hw;exact .mk c (by omega) (by omega) fun p hp=>ih p hp (by have:=Lp hp;omega)
theorem Kt (c:C) (hw:C.Lng c) (cx:Ctx) (l:Nat) (hcl:cx.lim≤l) (d:Nat) (hd:d≤8)
  (ih:∀p∈c.parts,∀(d n:Nat) (s:St) (cx:Ctx),d≤100→n≤64→cx.lim≤l→s[l]?=some (.cells [.i .i64 n])→
   aj P0 (.fn (.func su) [] []) [aK p,.i .i64 d,.pt l 0] s cx=.ret (.b (xY p d n).1) (s.set l (.cells [.i .i64 (xY p d n).2]))):
  ∀(rest:List C) (i:Nat) (n:Nat) (s:St),n≤64→s[l]?=some (.cells [.i .i64 n])→c.parts.drop i=rest→
  ∃j:Int,ig (aC P0.glob (aj P0) cx false qA) [1,2,23,24,25] [(1,.v (.i .i64 d)),(2,.v (.pt l 0)),(23,.v (slf c.z (c.parts.map aK))),(24,.v (.i .i64 c.parts.length)),(25,.v (.i .i64 i))] s=
   if (D7 rest d n).1=true then .exit 0 [(1,.v (.i .i64 d)),(2,.v (.pt l 0)),(23,.v (slf c.z (c.parts.map aK))),(24,.v (.i .i64 c.parts.length)),(25,.v (.i .i64 j)),(26,.v (.b false))] (s.set l (.cells [.i .i64 (D7 rest d n).2]))
   else .ret [(6,.v (.b false))] (s.set l (.cells [.i .i64 (D7 rest d n).2]))
 | [],i,n,s,hn,hs,h=>by
  have h1:¬i<c.parts.length:=Nat.not_lt.2 (drop_nil h);refine ⟨i,ak fun K hK=>?_⟩;simp [qA,h1,D7,PL hs]
 | p::r,i,n,s,hn,hs,h=>by
  obtain ⟨h1,h2,h3,h4⟩:=drop_cons h;have h5:=h4 h3;have hp:p∈c.parts:=by rw [←h5];exact List.getElem_mem h3
  have hwi:=wI (i:=i) (by have:=hw.ps;omega);have hlt:l<s.length:=(List.getElem?_eq_some_iff.1 hs).1;have e1:=ih p hp (d+1) n s cx (by omega) hn hcl hs;have w1:IntKind.i64.wrap ((d:Int)+1)=(d:Int)+1:=w64 (by omega) (by omega);simp at e1;by_cases ht:(xY p (d+1) n).1=true
  ·have hle:=(afP p (d+1) n hn).2 ht;obtain ⟨j,ih2⟩:=Kt c hw cx l hcl d hd ih r (i+1) (xY p (d+1) n).2 (s.set l (.cells [.i .i64 (xY p (d+1) n).2])) hle (by simp [hlt]) h2;refine ⟨j,ak fun K hK=>?_⟩;rw [←hK] at ih2;clear hK h4 ih;simp at ih2;simp [qA,h3,h5,hwi,w1,e1,ih2,D7,ht]
  ·refine ⟨i,ak fun K hK=>?_⟩;clear hK h4 ih;simp [qA,h3,h5,hwi,w1,e1,D7,ht]
theorem VG (l:Nat):∀(c:C),C.Lng c→∀(d n:Nat) (s:St) (cx:Ctx),d≤100→n≤64→cx.lim≤l→s[l]?=some (.cells [.i .i64 n])→
   aj P0 (.fn (.func su) [] []) [aK c,.i .i64 d,.pt l 0] s cx=.ret (.b (xY c d n).1) (s.set l (.cells [.i .i64 (xY c d n).2])):=by
 refine C.ind' fun c ih hw d n s cx hd hn hcl hs=>?_;have hlt:l<s.length:=(List.getElem?_eq_some_iff.1 hs).1;have w1:IntKind.i64.wrap ((n:Int)+1)=(n:Int)+1:=w64 (by omega) (by omega);have hs':s[l]=.cells [.i .i64 n]:=(List.getElem?_eq_some_iff.1 hs).2;refine SG (by simp) ?_;by_cases h8:(8:Int)<d
 ·simp [af,sV,hs',hlt,hcl,w1,h8,KO c,show 8<d by omega]
 by_cases h64:(64:Int)<(n:Int)+1
 ·simp [af,sV,hs',hlt,hcl,w1,h8,h64,KO c,show 64<n+1 by omega]
 ·obtain ⟨j,h⟩:=Kt c hw ⟨cx.lim,s.length⟩ l hcl d (by omega) (fun p hp=>ih p hp (hw.sub p hp)) c.parts 0 (n+1) (s.set l (.cells [.i .i64 (n+1:Nat)])) (by omega) (by simp [hlt]) rfl;simp at h;have hcond:¬(8<d∨64<n+1):=by omega
  simp [af,sV,hs',hlt,hcl,w1,h8,h64,KO c,hcond,h]
  repeat' (first | (split<;>(try simp only [gy,gB,gJ,kz,kC])<;>(try simp [*])) | (simp only [gy,gB,gJ,kz,kC]<;>(try simp [*]))|omega)
def Rn (a:Nat) (c:C):Env:=[(2,.v (.pt a 0)),(10,.v (.fn (.func jq) [] [.ip (aK c).cells]))]
def rW (a:Nat) (c:C) (p:Nc):fZ:=.loop (Rn a c) [11] l9 l7 p
theorem Lm (x:C) (a:Nat) {e':AV} (T:St) (cx:Ctx) (hb:cx.base≤T.length) (hlt:cx.lim≤T.length):
  aC P0.glob (aj P0) cx true l9 [(11,.v (aK x)),(2,.v (.pt a 0)),(10,.v e')] T=.norm [(2,.v (.pt a 0)),(4,.v (.pt T.length 0))] (T++[.cells (aK x).cells]):=by
 simp [l9,hb,hlt]
theorem Ll (x:C) (hx:x.name.length≤1152921504606846976) (a m:Nat) (v:AV) (S:St) (cx:Ctx) (hm:S[m]?=some (.cells (aK x).cells)) (ha:S[a]?=some (.cells [v])) (hca:cx.lim≤a):
  aC P0.glob (aj P0) cx true l7 [(2,.v (.pt a 0)),(4,.v (.pt m 0))] S=
   if rU x=0 then .norm [(2,.v (.pt a 0)),(5,.v (.i .i64 (rU x))),(15,.v (.b false))] S else .ret [] (S.set a (.cells [.i .i64 (rU x)])):=by
 have e1:=Hr x hx;simp at hm
 by_cases h0:rU x=0<;>simp [l7,hm,ha,hca,e1,h0]
theorem Pn (c x:C) (hx:x.name.length≤1152921504606846976) (a l:Nat) (v:AV) (T:St) (cx:Ctx) (hl:T[l]?=some (rW a c .ready)) (ha:T[a]?=some (.cells [v])) (hcl:cx.lim≤l) (hca:cx.lim≤a) (hb:cx.base≤T.length) (hlt:cx.lim≤T.length):
  aj P0 (.yl l) [aK x] T cx=if rU x=0 then .ret (.b true) (T++[.cells (aK x).cells])
   else .ret (.b false) ((T.set a (.cells [.i .i64 (rU x)])).set l (rW a c .ret)++[.cells (aK x).cells]):=by
 have hl1:l<T.length:=(List.getElem?_eq_some_iff.1 hl).1;have ha1:a<T.length:=(List.getElem?_eq_some_iff.1 ha).1;have hal:¬l=a:=by intro e;subst e;rw [hl] at ha;simp [rW] at ha
 have hl2:T[l]=rW a c .ready:=(List.getElem?_eq_some_iff.1 hl).2;have hA:=Lm (e':=.fn (.func jq) [] [.ip (aK c).cells]) x a T cx hb hlt;have hR:=Ll x hx a T.length v (T.set l (rW a c .busy)++[.cells (aK x).cells]) cx (by rw [List.getElem?_append_right (by simp)];simp) (by rw [List.getElem?_append_left (by simpa using ha1)];rw [List.getElem?_set_ne hal];exact ha) hca
 refine Na (by split<;>simp) ?_
 unfold Il;rw [hl];simp only [rW,Rn,Cj,put,lk];simp at hA hR;have hset:=PL hl;simp only [rW,Rn] at hset hR;simp at hset hR;by_cases h0:rU x=0
 ·simp [hA,hcl,hl1,hR,h0,rV,hset,List.getElem?_append_left,hl2,rW,Rn]
 ·simp [hA,hcl,hl1,hR,h0,rV,List.getElem?_append_left,hl2,rW,Rn,ha1,Ne.symm hal,hal];rw [List.set_comm _ _ hal,List.set_set]
theorem UG (x:C):iq x=if rU x=0 then qZ x.parts else rU x:=by
 rw [Cb];unfold rU
 by_cases h1:kS x=false<;>by_cases h2:tC x=false<;>simp [h1,h2]
theorem H9 (c x:C) (hw:C.Lng x) (a l:Nat) (v:AV) (cx:Ctx) (T:St) (hl:T[l]?=some (rW a c .ready)) (ha:T[a]?=some (.cells [v])) (hcl:cx.lim≤l) (hca:cx.lim≤a)
  (ih:∀p∈x.parts,∀(T:St) (cx:Ctx),T[l]?=some (rW a c .ready)→T[a]?=some (.cells [v])→cx.lim≤l→cx.lim≤a→
   aj P0 (.fn (.func mr) [] []) [aK p,.yl l] T cx=if iq p=0 then .ret (.b true) T else .ret (.b false) ((T.set a (.cells [.i .i64 (iq p)])).set l (rW a c .ret))):
  ∀(rest:List C) (i:Nat),x.parts.drop i=rest→
  ∃j:Int,ig (aC P0.glob (aj P0) cx false jJ) [1,12,13,14] [(1,.v (.yl l)),(12,.v (slf x.z (x.parts.map aK))),(13,.v (.i .i64 x.parts.length)),(14,.v (.i .i64 i))] T=
   if qZ rest=0 then .exit 0 [(1,.v (.yl l)),(12,.v (slf x.z (x.parts.map aK))),(13,.v (.i .i64 x.parts.length)),(14,.v (.i .i64 j)),(15,.v (.b false))] T
   else .ret [(4,.v (.b false))] ((T.set a (.cells [.i .i64 (qZ rest)])).set l (rW a c .ret))
 | [],i,h=>by
  have h1:¬i<x.parts.length:=Nat.not_lt.2 (drop_nil h);refine ⟨i,ak fun K hK=>?_⟩;simp [jJ,h1,qZ]
 | p::r,i,h=>by
  obtain ⟨h1,h2,h3,h4⟩:=drop_cons h;have h5:=h4 h3;have hp:p∈x.parts:=by rw [←h5];exact List.getElem_mem h3
  have hwi:=wI (i:=i) (by have:=hw.ps;omega);have e1:=ih p hp T cx hl ha hcl hca;by_cases h0:iq p=0
  ·obtain ⟨j,ih2⟩:=H9 c x hw a l v cx T hl ha hcl hca ih r (i+1) h2;refine ⟨j,ak fun K hK=>?_⟩;rw [←hK] at ih2;clear hK h4 ih;simp at ih2;simp [jJ,h3,h5,hwi,e1,ih2,qZ,h0]
  ·refine ⟨i,ak fun K hK=>?_⟩;clear hK h4 ih;simp [jJ,h3,h5,hwi,e1,qZ,h0]
theorem SX (c:C) (a l:Nat) (v:AV):∀(x:C),C.Lng x→∀(T:St) (cx:Ctx),T[l]?=some (rW a c .ready)→T[a]?=some (.cells [v])→cx.lim≤l→cx.lim≤a→
   aj P0 (.fn (.func mr) [] []) [aK x,.yl l] T cx=if iq x=0 then .ret (.b true) T else .ret (.b false) ((T.set a (.cells [.i .i64 (iq x)])).set l (rW a c .ret)):=by
 refine C.ind' fun x ih hw T cx hl ha hcl hca=>?_;have hl1:l<T.length:=(List.getElem?_eq_some_iff.1 hl).1;have ha1:a<T.length:=(List.getElem?_eq_some_iff.1 ha).1;have hy:=Pn c x hw.n a l v T ⟨cx.lim,T.length⟩ hl ha hcl hca (Nat.le_refl _) (by simp;omega)
 refine FM (by split<;>simp) ?_
 simp at hy;by_cases h0:rU x=0
 ·obtain ⟨j,h⟩:=H9 c x hw a l v ⟨cx.lim,T.length⟩ (T++[.cells (aK x).cells]) (by rw [List.getElem?_append_left hl1];exact hl) (by rw [List.getElem?_append_left ha1];exact ha) hcl hca
   (fun p hp T cx=>ih p hp (hw.sub p hp) T cx) x.parts 0 rfl
  simp at h;by_cases hz:qZ x.parts=0
  ·simp [af,oh,hy,h0,h,hz,UG x,frz,AV.under]
  ·simp [af,oh,hy,h0,h,hz,UG x,frz,AV.under,ha1,hl1,List.set_append_left]
 ·simp [af,oh,hy,h0,UG x,frz,AV.under,List.take_append_of_le_length]
theorem aac (s r:St) (k:Nat):(s++r)[s.length+k]?=r[k]?:=by rw [List.getElem?_append_right (by omega)];congr 1;omega
theorem ZB (s r:St) (k:Nat) (v:fZ):(s++r).set (s.length+k) v=s++r.set k v:=by rw [List.set_append_right _ _ (by omega)];congr 2;omega
@[simp] theorem af5 (c:C) (s:St) (cx:Ctx):aj P0 (.fn (.func ve) [] []) [aK c] s cx=.ret (.fn (.func jq) [] [.ip (aK c).cells]) s:=by
 refine SE (by simp) ?_;simp [af,yS,frz,zV]
theorem yg (c:C) (hw:C.Lng c) (s:St) (cx:Ctx):aj P0 (.fn (.func kL) [] []) [aK c] s cx=.ret (.i .i64 (uF c)) s:=by
 refine EJ (by simp) ?_;have e1:=VG (s.length+1) c hw 0 0 (s++[.cells [.i .i64 0],.cells [.i .i64 0]]) ⟨s.length,s.length⟩ (by omega) (by omega) (by simp) (by simp);have hf:=afQ c 0 0 (by omega);simp at e1;by_cases hfit:(xY c 0 0).1=true
 ·have hcond:¬(8<yJ c∨64<nN c):=by have:=hf.1.1 hfit;omega
  let T:St:=s++[.cells [.i .i64 0],.cells [.i .i64 (xY c 0 0).2],.dfr,rW s.length c .ready]
  have hv:=SX c s.length (s.length+3) (.i .i64 0) c hw T ⟨s.length,T.length⟩ (by simp [T]) (by simp [T]) (by simp) (by simp)
  have hw1:aj P0 (.fn (.func jq) [] [.ip (aK c).cells]) [.yl (s.length+3)] T ⟨s.length,s.length⟩=
    if iq c=0 then .ret (.tu []) T else .ret (.tu []) ((T.set s.length (.cells [.i .i64 (iq c)])).set (s.length+3) (rW s.length c .ret)):=by
   refine Et (by split<;>simp) ?_
   by_cases h0:iq c=0<;>simp [h0] at hv<;>simp [af,sF,hv,h0]
  simp [T] at hw1;by_cases h0:iq c=0
  ·simp [h0,rW,Rn] at hw1;simp [af,jT,e1,hfit,ES,hw1,uF,hcond,h0,DL,show s.length+2+1=s.length+3 from rfl,aac,ZB]
  ·simp [h0,rW,Rn] at hw1;simp [af,jT,e1,hfit,ES,hw1,uF,hcond,h0,DL,show s.length+2+1=s.length+3 from rfl,aac,ZB]
 ·have hcond:(8<yJ c∨64<nN c):=by
   rcases Nat.lt_or_ge 8 (yJ c) with h|h
   ·exact .inl h
   ·rcases Nat.lt_or_ge 64 (nN c) with h' | h'
    ·exact .inr h'
    ·exact absurd (hf.1.2 ⟨by omega,by omega⟩) hfit
  simp [af,jT,e1,hfit,uF,hcond]
end Go.Ai.Z
namespace Go.Ai.Z
open Go.Lib (itoa decDigits)
def ama:Rl:=[32,97,110,100,32]
mutual
def textS:C→Rl
 | .mk k n lo hi _ ps=>
  if k=1 then wD3
  else if k=2 then [110,111,116,104,105,110,103]
  else if k=3 then n
  else if k=4 then 123::(n++[125])
  else if k=7 then n++[32,105,110,32]++itoa lo++[32,116,111,32]++itoa hi
  else if k=6 then [115,111,109,101,32]++n++[32]++(ahq ps).headD []
  else joinL ama (ahq ps)
def ahq:List C→List Rl
 | []=>[]
 | .mk k n lo hi z ps::r=>(if k=5 then 40::(textS (.mk k n lo hi z ps)++[41]) else textS (.mk k n lo hi z ps))::ahq r
end
theorem JC {c:C} (h:iq c=0):kS c=true∧tC c=true∧∀p∈c.parts,iq p=0:=by
 rw [Cb] at h;by_cases h1:kS c=true
 ·by_cases h2:tC c=true
  ·simp [h1,h2] at h;refine ⟨h1,h2, ?_⟩;generalize c.parts=l at h
   induction l with
   | nil=>intro p hp;cases hp
   | cons a r ih=>
    simp only [qZ] at h;intro p hp;by_cases h0:iq a=0
    ·rw [if_pos h0] at h;rcases List.mem_cons.1 hp with rfl|hp
     ·exact h0
     ·exact ih h p hp
    ·rw [if_neg h0] at h;exact absurd h h0
  ·simp [h1,h2] at h
 ·simp [h1] at h
theorem Iu {c:C} (h:kS c=true):c.kind=1∨c.kind=2∨c.kind=3∨c.kind=4∨c.kind=7∧-1099511627776≤c.lo∧c.lo≤c.hi∧c.hi≤1099511627776∨c.kind=6∧c.parts.length=1∨c.kind=5∧2≤c.parts.length:=by
 unfold kS at h;by_cases k1:c.kind=1
 ·exact .inl k1
 by_cases k2:c.kind=2
 ·exact .inr (.inl k2)
 by_cases k3:c.kind=3
 ·exact .inr (.inr (.inl k3))
 by_cases k4:c.kind=4
 ·exact .inr (.inr (.inr (.inl k4)))
 by_cases k5:c.kind=5
 ·simp [k5] at h;exact .inr (.inr (.inr (.inr (.inr (.inr ⟨k5,by omega⟩)))))
 by_cases k6:c.kind=6
 ·simp [k6] at h;exact .inr (.inr (.inr (.inr (.inr (.inl ⟨k6,by omega⟩)))))
 by_cases k7:c.kind=7
 ·simp [k7] at h;exact .inr (.inr (.inr (.inr (.inl ⟨k7,by omega,by omega,by omega⟩))))
 ·simp [k1,k2,k3,k4,k5,k6,k7] at h
theorem CZ (l:List Rl) (sep:Rl):(joinL sep l).length≤(l.map fun x=>x.length+sep.length).sum:=by
 cases l with
 | nil=>simp [joinL]
 | cons x r=>
  simp only [joinL,List.length_append,List.length_flatMap,List.map_cons,List.sum_cons]
  have:(r.map fun y=>sep.length+y.length)=r.map fun x=>x.length+sep.length:=by
   apply List.map_congr_left;intro y _;omega
  rw [this];omega
end Go.Ai.Z
namespace Go.Ai.Z
open Go.Lib (itoa)
theorem kd {x j:Int} (k:x=j):decide (x=j)=true:=by simp [k]
theorem kn {x j:Int} (i:Int) (k:x=j) (h:decide (j=i)=false):decide (x=i)=false:=by rw [k];exact h
end Go.Ai.Z
namespace Go.Ai.Z
open Go.Lib (itoa)
attribute [local simp] find jD uf
theorem ajK (l:List Rl):l.mapM (strOf ∘ AV.s)=some l:=by
 induction l with
 | nil=>rfl
 | cons a r ih=>simp [strOf,ih]
theorem F9 (l:List Rl) (sep:Rl) (h:(joinL sep l).length≤1073741824) (h':l.length≤1073741824) (s:St) (cx:Ctx):aj P0 (.fn (.func xR) [] []) [.sl (l.map .s),.s sep] s cx=.ret (.s (joinL sep l)) s:=
 rY (h:=H6 Xj) rfl (by simp [Xj,ajK,h,h'])
theorem Ru (n:Int) (h:-9223372036854775808≤n) (h':n≤9223372036854775807) (s:St) (cx:Ctx):aj P0 (.fn (.func AX) [] []) [.i .i64 n] s cx=.ret (.s (itoa n)) s:=
 rY (h:=H6 Xk) rfl (by simp [Xk,h,h'])
end Go.Ai.Z
namespace Go.Ai.Z
structure Ax where
 kind:Int
 op:Bool
 left:C
 right:C
 z:Bool
 roles:List Rl
 role:Rl
 a:Rl
 b:Rl
def cellsA (x:Ax):List AV:=[.i .i64 x.kind,.b x.op,.i .i64 x.left.kind,.s x.left.name,.i .i64 x.left.lo,.i .i64 x.left.hi,slf x.left.z (x.left.parts.map aK),
 .i .i64 x.right.kind,.s x.right.name,.i .i64 x.right.lo,.i .i64 x.right.hi,slf x.right.z (x.right.parts.map aK),slf x.z (x.roles.map .s),.s x.role,.s x.a,.s x.b]
def bY (x:Ax):AV:=.ag (cellsA x)
@[simp] theorem ahl (x:Ax):(bY x).plain=bY x:=by simp [bY,cellsA]
@[simp] theorem ahO (x:Ax):(bY x).cells=[.i .i64 x.kind,.b x.op,.i .i64 x.left.kind,.s x.left.name,.i .i64 x.left.lo,.i .i64 x.left.hi,slf x.left.z (x.left.parts.map aK),
 .i .i64 x.right.kind,.s x.right.name,.i .i64 x.right.lo,.i .i64 x.right.hi,slf x.right.z (x.right.parts.map aK),slf x.z (x.roles.map .s),.s x.role,.s x.a,.s x.b]:=rfl
@[simp] theorem abL (x:Ax):AV.ag [.i .i64 x.kind,.b x.op,.i .i64 x.left.kind,.s x.left.name,.i .i64 x.left.lo,.i .i64 x.left.hi,slf x.left.z (x.left.parts.map aK),
 .i .i64 x.right.kind,.s x.right.name,.i .i64 x.right.lo,.i .i64 x.right.hi,slf x.right.z (x.right.parts.map aK),slf x.z (x.roles.map .s),.s x.role,.s x.a,.s x.b]=bY x:=rfl
def emptyS (c:C):Bool:=decide (c.kind=0) && decide (c.name=[]) && decide (c.lo=0) && decide (c.hi=0) && decide ((c.parts.length:Int)=0)
@[simp] theorem ab8 (c:C) (s:St) (cx:Ctx):aj P0 (.fn (.func oO) [] []) [aK c] s cx=.ret (.b (emptyS c)) s:=by
 refine MG (by simp) ?_;simp [af,uP,emptyS]
 repeat' (first | (split<;>(try simp only [gy,gB,gJ,kz,kC])<;>(try simp [*])) | (simp only [gy,gB,gJ,kz,kC]<;>(try simp [*]))|omega)
theorem BH (l:Rl) (hl:l.length≤1152921504606846976) (s:St) (cx:Ctx):aj P0 (.fn (.func jL) [] []) [.s l] s cx=.ret (.i .i64 (if (oJ l || LD l)=true then 0 else 20)) s:=by
 refine Jb (by simp) ?_;have e1:=AO l hl
 rcases Bool.eq_false_or_eq_true (oJ l) with h1|h1<;>rcases Bool.eq_false_or_eq_true (LD l) with h2|h2<;>simp [af,rM,e1,h1,h2]
structure Use where
 l:Bool
 r:Bool
 role:Bool
 a:Bool
 b:Bool
 lo:Int
 hi:Int
def kG (k:Int):Use:=
 if k=1 then ⟨true,true,false,false,false,0,0⟩ else if k=2 then ⟨true,true,false,false,false,0,0⟩ else if k=3 then ⟨true,true,false,false,false,0,0⟩
 else if k=4 then ⟨false,true,true,false,false,0,0⟩ else if k=5 then ⟨false,false,true,false,false,1,1⟩ else if k=6 then ⟨false,false,true,false,false,2,4⟩
 else if k=7 then ⟨false,false,true,false,false,0,0⟩ else if k=8 then ⟨false,true,false,true,false,0,0⟩ else if k=9 then ⟨false,false,true,true,true,0,0⟩ else ⟨false,false,false,false,false,0,0⟩
def Y4 (u:Use):AV:=.ag [.b u.l,.b u.r,.b u.role,.b u.a,.b u.b,.i .i64 u.lo,.i .i64 u.hi]
@[simp] theorem ahj (u:Use):(Y4 u).plain=Y4 u:=by simp [Y4]
@[simp] theorem ahM (u:Use):(Y4 u).cells=[.b u.l,.b u.r,.b u.role,.b u.a,.b u.b,.i .i64 u.lo,.i .i64 u.hi]:=rfl
@[simp] theorem aiu (u:Use):AV.ag [.b u.l,.b u.r,.b u.role,.b u.a,.b u.b,.i .i64 u.lo,.i .i64 u.hi]=Y4 u:=rfl
def Yi:List AV:=(P0.glob xQ).getD []
theorem ML:P0.glob xQ=some Yi:=rfl
theorem Px:Yi.length=70:=rfl
theorem Zx {k:Int} (h1:1≤k) (h9:k≤9):(Yi.drop (k.toNat * 7)).take 7=[.b (kG k).l,.b (kG k).r,.b (kG k).role,.b (kG k).a,.b (kG k).b,.i .i64 (kG k).lo,.i .i64 (kG k).hi]:=by
 have:k=1∨k=2∨k=3∨k=4∨k=5∨k=6∨k=7∨k=8∨k=9:=by omega
 rcases this with rfl|rfl|rfl|rfl|rfl|rfl|rfl|rfl|rfl<;>rfl
def BU (x:Ax):Bool:=decide (1≤x.kind) && decide (x.kind≤9)
def oV (x:Ax):Bool:=BU x && ((kG x.kind).l || emptyS x.left) && ((kG x.kind).r || emptyS x.right) && ((kG x.kind).role || decide (x.role=[])) && ((kG x.kind).a || decide (x.a=[])) && ((kG x.kind).b || decide (x.b=[])) &&
 decide ((kG x.kind).lo≤x.roles.length) && decide ((x.roles.length:Int)≤(kG x.kind).hi)
set_option maxHeartbeats 2000000 in
@[simp] theorem ab1 (x:Ax) (s:St) (cx:Ctx):aj P0 (.fn (.func qK) [] []) [bY x] s cx=.ret (.b (oV x)) s:=by
 refine KC (by simp) ?_;by_cases h1:x.kind<1
 ·simp [af,mO,h1,oV,BU,show ¬(1≤x.kind) by omega]
 by_cases h9:9<x.kind
 ·simp [af,mO,h1,h9,oV,BU,show ¬(x.kind≤9) by omega]
 have b1:0≤x.kind:=by omega
 have b2:x.kind.toNat<10:=by omega
 have b3:7≤70 - x.kind.toNat * 7:=by omega
 have hu:=Zx (k:=x.kind) (by omega) (by omega);have hk:BU x=true:=by simp [BU];omega
 unfold oV;rw [hk];have hk9:x.kind=1∨x.kind=2∨x.kind=3∨x.kind=4∨x.kind=5∨x.kind=6∨x.kind=7∨x.kind=8∨x.kind=9:=by omega
 clear hk;rcases hk9 with k|k|k|k|k|k|k|k|k
 all_goals
  have ku:=congrArg kG k;rw [ku] at hu ⊢;clear ku k;simp [kG] at hu ⊢;simp [af,mO,h1,h9,b1,b2,b3,ML,Px,hu];clear hu b1 b2 b3 h1 h9
  repeat' (first | (split<;>(try simp only [gy,gB,gJ,kz,kC])<;>(try simp [*])) | (simp only [gy,gB,gJ,kz,kC]<;>(try simp [*]))|omega)
def allPlain:List Rl→Bool
 | []=>true
 | r::l=>oJ r && allPlain l
def yP (l:Rl):Bool:=oJ l || LD l
def BQ (x:Ax) (u:Use):Bool:=(!u.role || oJ x.role) && (!u.a || yP x.a) && (!u.b || yP x.b) && allPlain x.roles
theorem Es (s:St) (cx:Ctx) (z:Bool) (l:List Rl) (hl:l.length≤1152921504606846976):∀(rest:List Rl) (i:Nat),l.drop i=rest→
  ∃j:Int,ig (aC P0.glob (aj P0) cx false qc) [36,37,38] [(36,.v (slf z (l.map .s))),(37,.v (.i .i64 l.length)),(38,.v (.i .i64 i))] s=
   if allPlain rest=true then .exit 0 [(36,.v (slf z (l.map .s))),(37,.v (.i .i64 l.length)),(38,.v (.i .i64 j)),(39,.v (.b false))] s else .ret [(4,.v (.b false))] s
 | [],i,h=>by
  have h1:¬i<l.length:=Nat.not_lt.2 (drop_nil h);refine ⟨i,ak fun K hK=>?_⟩;simp [qc,h1,allPlain]
 | b::r,i,h=>by
  obtain ⟨h1,h2,h3,h4⟩:=drop_cons h;have h5:=h4 h3;have hw:=wI (i:=i) (by omega);obtain ⟨j,ih⟩:=Es s cx z l hl r (i+1) h2;refine ⟨j,ak fun K hK=>?_⟩;rw [←hK,show ((i+1:Nat):Int)=(i:Int)+1 from rfl] at ih;clear hK h4
  rcases Bool.eq_false_or_eq_true (oJ b) with hin|hin <;>
   simp [qc,h3,h5,hw,ih,allPlain,hin]
set_option maxHeartbeats 1000000 in
theorem OQ (x:Ax) (u:Use) (hl:x.roles.length≤1152921504606846976) (ha:x.a.length≤1152921504606846976) (hb:x.b.length≤1152921504606846976) (s:St) (cx:Ctx):
  aj P0 (.fn (.func sK) [] []) [bY x,Y4 u] s cx=.ret (.b (BQ x u)) s:=by
 refine MF (by simp) ?_;obtain ⟨j,h⟩:=Es s ⟨s.length,s.length⟩ x.z x.roles hl x.roles 0 rfl;have e1:∀(s:St) (cx:Ctx),aj P0 (.fn (.func jL) [] []) [.s x.a] s cx=.ret (.i .i64 (if yP x.a=true then 0 else 20)) s:=BH x.a ha;have e2:∀(s:St) (cx:Ctx),aj P0 (.fn (.func jL) [] []) [.s x.b] s cx=.ret (.i .i64 (if yP x.b=true then 0 else 20)) s:=BH x.b hb;simp at h;unfold BQ;generalize yP x.a=pa at e1 ⊢;generalize yP x.b=pb at e2 ⊢
 cases pa<;>cases pb<;>simp only [if_true,Bool.false_eq_true,if_false] at e1 e2
 all_goals
  rcases Bool.eq_false_or_eq_true (allPlain x.roles) with hp|hp
  ·rw [hp,if_pos rfl] at h;rw [hp];clear hp;simp [af,qy,e1,e2]
   repeat' (first | (split<;>(try simp only [gy,gB,gJ,kz,kC])<;>(try simp [*])) | (simp only [gy,gB,gJ,kz,kC]<;>(try simp [*]))|omega)
  ·rw [hp,if_neg (by simp)] at h;rw [hp];clear hp;simp [af,qy,e1,e2]
   repeat' (first | (split<;>(try simp only [gy,gB,gJ,kz,kC])<;>(try simp [*])) | (simp only [gy,gB,gJ,kz,kC]<;>(try simp [*]))|omega)
mutual
def AP:C→Bool
 | .mk k _ _ _ _ ps=>if k=4 then true else if k=5 then xP ps else false
def xP:List C→Bool
 | []=>false
 | p::r=>AP p || xP r
end
theorem RD (c:C):AP c=if c.kind=4 then true else if c.kind=5 then xP c.parts else false:=by cases c;simp only [AP,C.Kv,C.EU];rfl
theorem NR (s:St) (cx:Ctx) (z:Bool) (ps:List C) (hps:ps.length≤1152921504606846976)
  (ih:∀p∈ps,∀(s:St) (cx:Ctx),aj P0 (.fn (.func fU) [] []) [aK p] s cx=.ret (.b (AP p)) s):∀(rest:List C) (i:Nat),ps.drop i=rest→
  ∃j:Int,0≤j∧ig (aC P0.glob (aj P0) cx false bI) [0,1,7,8] [(0,.v (slf z (ps.map aK))),(1,.v (.fn (.func fU) [] [])),(7,.v (.i .i64 ps.length)),(8,.v (.i .i64 i))] s=
   if xP rest=true then .ret [(4,.v (.i .i64 j))] s else .exit 0 [(0,.v (slf z (ps.map aK))),(1,.v (.fn (.func fU) [] [])),(7,.v (.i .i64 ps.length)),(8,.v (.i .i64 j)),(9,.v (.b false))] s
 | [],i,h=>by
  have h1:¬i<ps.length:=Nat.not_lt.2 (drop_nil h);refine ⟨i,by omega,ak fun K hK=>?_⟩;simp [bI,h1,xP]
 | p::r,i,h=>by
  obtain ⟨h1,h2,h3,h4⟩:=drop_cons h;have h5:=h4 h3;have hp:p∈ps:=by rw [←h5];exact List.getElem_mem h3
  have hw:=wI (i:=i) (by omega);have e1:=ih p hp;rcases Bool.eq_false_or_eq_true (AP p) with hb|hb
  ·refine ⟨i,by omega,ak fun K hK=>?_⟩;clear hK h4 ih;simp [bI,h3,h5,hw,e1,xP,hb]
  ·obtain ⟨j,hj,ih2⟩:=NR s cx z ps hps ih r (i+1) h2;refine ⟨j,hj,ak fun K hK=>?_⟩;rw [←hK,show ((i+1:Nat):Int)=(i:Int)+1 from rfl] at ih2;clear hK h4 ih;simp [bI,h3,h5,hw,e1,xP,hb,ih2]
theorem Ey:∀(c:C),C.Lng c→∀(s:St) (cx:Ctx),aj P0 (.fn (.func fU) [] []) [aK c] s cx=.ret (.b (AP c)) s:=by
 refine C.ind' fun c ih hw s cx=>?_;have hw':=hw;have ihp:∀p∈c.parts,∀(s:St) (cx:Ctx),aj P0 (.fn (.func fU) [] []) [aK p] s cx=.ret (.b (AP p)) s:=fun p hp=>ih p hp (hw.sub p hp)
 have hI:∀(s:St) (cx:Ctx),∃j:Int,aj P0 (.fn (.func cO) [] []) [slf c.z (c.parts.map aK),.fn (.func fU) [] []] s cx=.ret (.i .i64 (if xP c.parts=true then j else -1)) s∧0≤j:=by
  intro s cx;obtain ⟨j,hj,h⟩:=NR s ⟨cx.lim,s.length⟩ c.z c.parts (by have:=hw.ps;omega) ihp c.parts 0 rfl;refine ⟨j,qR (by simp) ?_,hj⟩;simp at h
  rcases Bool.eq_false_or_eq_true (xP c.parts) with hb|hb<;>simp [af,dV,h,hb]
 have hC:∀(s:St) (cx:Ctx),aj P0 (.fn (.func bP) [] []) [slf c.z (c.parts.map aK),.fn (.func fU) [] []] s cx=.ret (.b (xP c.parts)) s:=by
  intro s cx;obtain ⟨j,e1,hj⟩:=hI s ⟨cx.lim,s.length⟩;refine pR (by simp) ?_
  rcases Bool.eq_false_or_eq_true (xP c.parts) with hb|hb<;>simp [hb] at e1<;>simp [af,dJ,e1,hb,hj]
 refine OJ (by simp) ?_;rw [RD];by_cases k4:c.kind=4
 ·rw [if_pos k4];simp [af,oM,kd k4]
 ·by_cases k5:c.kind=5
  ·rw [if_neg k4,if_pos k5];simp [af,oM,k4,kd k5,hC]
  ·rw [if_neg k4,if_neg k5];simp [af,oM,k4,k5]
def TB (k cl cr:Int) (bl br:Bool):Int:=
 if (kG k).l=true∧cl≠0 then cl else if (kG k).r=true∧cr≠0 then cr
 else if (k=2∧(bl=true∨br=true))∨((k=1∨k=4∨k=8)∧br=true) then 22 else 0
def dW (x:Ax):Int:=
 if oV x=false then 22 else if BQ x (kG x.kind)=false then 20 else TB x.kind (uF x.left) (uF x.right) (AP x.left) (AP x.right)
structure Ax.Few (x:Ax):Prop where
 l:wC x.left≤150
 r:wC x.right≤150
 roles:x.roles.length≤600
 rs:∀r∈x.roles,r.length≤600
 role:x.role.length≤600
 a:x.a.length≤600
 b:x.b.length≤600
structure Ax.Mid (x:Ax):Prop where
 l:wC x.left≤100000
 r:wC x.right≤100000
 roles:x.roles.length≤600
 a:x.a.length≤600
 b:x.b.length≤600
theorem Ax.Few.mid {x:Ax} (h:x.Few):x.Mid:=⟨by have:=h.l;omega,by have:=h.r;omega,h.roles,h.a,h.b⟩
structure Ax.Lng (x:Ax):Prop where
 l:C.Lng x.left
 r:C.Lng x.right
 roles:x.roles.length≤1152921504606846976
 a:x.a.length≤1152921504606846976
 b:x.b.length≤1152921504606846976
theorem Ax.Mid.lng {x:Ax} (h:x.Mid):x.Lng:=⟨agG _ h.l,agG _ h.r,by have:=h.roles;omega,by have:=h.a;omega,by have:=h.b;omega⟩
theorem dk {x j:Int} (i:Int) (k:x=j):decide (x=i)=decide (j=i):=by subst k;rfl
set_option maxHeartbeats 2000000 in
theorem zI (x:Ax) (hx:x.Lng) (s:St) (cx:Ctx):aj P0 (.fn (.func iJ) [] []) [bY x] s cx=.ret (.i .i64 (dW x)) s:=by
 refine G7 (by simp) ?_;unfold dW;rcases Bool.eq_false_or_eq_true (oV x) with hs|hs
 ·have hk:1≤x.kind∧x.kind≤9:=by simp [oV,BU] at hs;omega
  have b1:0≤x.kind:=by omega
  have b2:x.kind.toNat<10:=by omega
  have b3:7≤70 - x.kind.toNat * 7:=by omega
  have hu:=Zx (k:=x.kind) (by omega) (by omega);have e1:=OQ x (kG x.kind) (by have:=hx.roles;omega) (by have:=hx.a;omega) (by have:=hx.b;omega);have e2:=yg x.left hx.l;have e3:=yg x.right hx.r;have e4:=Ey x.left hx.l;have e5:=Ey x.right hx.r;have hk9:x.kind=1∨x.kind=2∨x.kind=3∨x.kind=4∨x.kind=5∨x.kind=6∨x.kind=7∨x.kind=8∨x.kind=9:=by omega
  rw [hs,if_neg (by simp)];rcases Bool.eq_false_or_eq_true (BQ x (kG x.kind)) with hn|hn
  ·rw [hn] at e1;rw [hn,if_neg (by simp)];clear hn;generalize hL:uF x.left=cl at e2 ⊢;generalize hR:uF x.right=cr at e3 ⊢;generalize AP x.left=bl at e4 ⊢;generalize AP x.right=br at e5 ⊢;clear hL hR hx hk;rcases hk9 with k|k|k|k|k|k|k|k|k
   all_goals
    have d1:=dk 1 k;have d2:=dk 2 k;have d4:=dk 4 k;have d8:=dk 8 k;have kt:=congrArg (fun i=>TB i cl cr bl br) k;rw [kt];have ku:=congrArg kG k;rw [ku] at hu e1;clear ku k kt;simp [kG] at hu;simp [kG,Y4] at e1;simp [TB,kG];simp [af,lm,hs,b1,b2,b3,ML,Px,hu,e1,e2,e3,e4,e5,d1,d2,d4,d8]
    repeat' (first | (split<;>(try simp only [gy,gB,gJ,kz,kC])<;>(try simp [*])) | (simp only [gy,gB,gJ,kz,kC]<;>(try simp [*]))|omega)
  ·rw [hn] at e1;rw [hn,if_pos rfl];generalize kG x.kind=u at hu e1;simp [af,lm,hs,b1,b2,b3,ML,Px,hu,e1]
 ·rw [hs,if_pos rfl];simp [af,lm,hs]
theorem Hw (x:Ax) (hx:x.Mid) (s:St) (cx:Ctx):aj P0 (.fn (.func iJ) [] []) [bY x] s cx=.ret (.i .i64 (dW x)) s:=zI x hx.lng s cx
theorem wP (x:Ax) (hx:x.Few) (s:St) (cx:Ctx):aj P0 (.fn (.func iJ) [] []) [bY x] s cx=.ret (.i .i64 (dW x)) s:=Hw x hx.mid s cx
end Go.Ai.Z
namespace Go.Ai.Z
attribute [local simp] List.length_pos_iff
end Go.Ai.Z
namespace Go.Ai.Z
structure Ax.Ok (x:Ax):Prop where
 l:x.left.Ok
 r:x.right.Ok
 roles:x.roles.length≤1125899906842624
 rs:∀r∈x.roles,r.length≤1125899906842624
 role:x.role.length≤1125899906842624
 a:x.a.length≤1125899906842624
 b:x.b.length≤1125899906842624
end Go.Ai.Z
