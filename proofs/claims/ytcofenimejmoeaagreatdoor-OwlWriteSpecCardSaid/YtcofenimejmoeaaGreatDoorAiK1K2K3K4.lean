/-
 Names: what the program's and the reference's functions on them answer.
-/
import Derived.Test.YtcofenimejmoeaaGreatDoorAiC2
import Derived.Test.YtcofenimejmoeaaGreatDoorAiSxD
set_option maxRecDepth 100000
set_option linter.unusedSimpArgs false
set_option linter.unusedVariables false
set_option linter.unusedSectionVars false
namespace Go.Ai.Z
def kZ (b:UInt8):List UInt8→Option (List UInt8×List UInt8)
 | []=>none
 | x::r=>if x=b then some ([],r) else (kZ b r).map fun p=>(x::p.1,p.2)
theorem Cb {b:UInt8}:∀{l:List UInt8},kZ b l=none ↔ b ∉ l
 | []=>by simp [kZ]
 | x::r=>by
  by_cases h:x=b
  ·simp [kZ,h]
  ·have:=Cb (b:=b) (l:=r)
   simp [kZ,h,this,Ne.symm h]
theorem yg {b:UInt8}:∀{l x y:List UInt8},kZ b l=some (x,y)→l=x++b::y
 | [],_,_,h=>by simp [kZ] at h
 | c::r,x,y,h=>by
  by_cases hc:c=b
  ·simp [kZ,hc] at h;obtain ⟨rfl,rfl⟩:=h;simp [hc]
  ·simp [kZ,hc] at h
   obtain ⟨p,q,rfl⟩:=h
   simp [yg q]
theorem index_none {b:UInt8}:∀{l:List UInt8},kZ b l=none→Go.Lib.indexByte l b=-1
 | [],_=>rfl
 | c::r,h=>by
  by_cases hc:c=b
  ·simp [kZ,hc] at h
  ·simp [kZ,hc] at h
   simp [Go.Lib.indexByte,hc,index_none h]
theorem Iq {b:UInt8}:∀{l x y:List UInt8},kZ b l=some (x,y)→Go.Lib.indexByte l b=x.length
 | [],_,_,h=>by simp [kZ] at h
 | c::r,x,y,h=>by
  by_cases hc:c=b
  ·simp [kZ,hc] at h;obtain ⟨rfl,rfl⟩:=h;simp [Go.Lib.indexByte,hc]
  ·simp [kZ,hc] at h
   obtain ⟨p,q,rfl⟩:=h
   have:=Iq q
   have h1:¬((p.length:Int)=-1):=by omega
   simp [Go.Lib.indexByte,hc,this,h1]
theorem UN (l:List UInt8) (b:UInt8) (s:St) (cx:Ctx):ai P0 (.fn (.func iJ) [] []) [.s l,.s [b]] s cx=.ret (.i .i64 (Go.Lib.indexByte l b)) s:=
 rU (h:=LQ Uw) rfl rfl
theorem JR (l:List UInt8) (b:UInt8) (hl:l.length≤1152921504606846976) (s:St) (cx:Ctx):ai P0 (.fn (.func gQ) [] []) [.s l,.s [b]] s cx=
  .ret (match kZ b l with|some (x,y)=>.tu [.s x,.s y,.b true] | none=>.tu [.s l,.s [],.b false]) s:=by
 refine yV (by simp) ?_
 cases hc:kZ b l with
 | none=>simp [af,gu,UN,index_none hc]
 | some p=>
  obtain ⟨x,y⟩:=p
  have hi:=Iq hc
  have he:=yg hc
  have hlen:l.length=x.length+(y.length+1):=by rw [he];simp
  have w1:IntKind.i64.wrap ((x.length:Int)+1)=(x.length:Int)+1:=w64 (by omega) (by omega)
  have e1:l.take x.length=x:=by rw [he];simp
  have e2:(l.drop (x.length+1)).take (l.length - (x.length+1))=y:=by
   rw [hlen,he,show x.length+1=(x++[b]).length from by simp,show x++b::y=(x++[b])++y from by simp,List.drop_left]
   exact List.take_of_length_le (by simp;omega)
  clear he
  have hn:((x.length:Int)+1).toNat=x.length+1:=by omega
  have h0:(0:Int)≤(x.length:Int)+1:=by omega
  have g1:x.length≤l.length:=by omega
  have g2:x.length+1≤l.length:=by omega
  simp [af,gu,UN,hi,w1,hn,h0,g1,g2,e1,e2]
theorem Bj (l:List UInt8) (b:UInt8) (hl:l.length≤1152921504606846976) (s:St) (cx:Ctx):ai P0 (.fn (.func mO) [] []) [.s l,.s [b]] s cx=
  .ret (match kZ b l with|some (x,y)=>.tu [.s x,.s y,.b true] | none=>.tu [.s l,.s [],.b false]) s:=by
 refine PK (by simp) ?_
 have e1:=JR l b hl
 cases hc:kZ b l with
 | none=>rw [hc] at e1;simp [af,qP,e1]
 | some p=>obtain ⟨x,y⟩:=p;rw [hc] at e1;simp [af,qP,e1]
def VA (k:Int):Bool:=decide (97≤k) && decide (k≤122) || decide (65≤k) && decide (k≤90)
def Xn (k:Int):Bool:=VA k || decide (48≤k) && decide (k≤57) || decide (k=95)
def adE (b:UInt8):Bool:=VA b.toNat
def Pz (b:UInt8):Bool:=Xn b.toNat
def BD:List UInt8→Bool
 | []=>true
 | b::r=>Pz b && BD r
theorem J5:BD []=true:=rfl
theorem zk (b:UInt8) (r:List UInt8):BD (b::r)=(Pz b && BD r):=rfl
def keywords:List (List UInt8):=
 [[97,110,100],[115,111,109,101],[105,110],[116,111],[110,111,116,104,105,110,103],[101,118,101,114,121,116,104,105,110,103],[111,110,101],[111,102],
  [111,112,101,110],[112,114,105,118,97,116,101],[115,117,98],[115,97,109,101],[100,105,115,106,111,105,110,116],[100,111,109,97,105,110],[114,111,108,101],
  [99,104,97,105,110],[114,101,102,108,101,120,105,118,101],[116,121,112,101],[108,105,110,107],[115,101,108,101,99,116],[119,104,101,114,101],[111,114]]
def kwS (l:List UInt8):Bool:=keywords.contains l
def DN (l:List UInt8):Bool:=(match l with | []=>false|b::_=>adE b) && BD l && !kwS l
def kC (l:List UInt8):Bool:=decide (l.length≤24) && (match kZ 58 l with|some (x,y)=>DN x && DN y|none=>DN l)
def En (l:List UInt8):Bool:=decide (2≤l.length) && decide (l.length≤24) && (match l with | []=>false|b::_=>decide ((b.toNat:Int)=95)) && BD l
@[simp] theorem ZB (k:Int) (s:St) (cx:Ctx):ai P0 (.fn (.func kR) [] []) [.i .u8 k] s cx=.ret (.b (VA k)) s:=by
 refine Jz (by simp) ?_
 simp [af,qm,VA]
 repeat' (split<;>simp only [ay,aA,aB]<;>simp [*])
@[simp] theorem Fp (k:Int) (s:St) (cx:Ctx):ai P0 (.fn (.func nR) [] []) [.i .u8 k] s cx=.ret (.b (VA k)) s:=by
 refine NH (by simp) ?_
 simp [af,tJ,VA]
 repeat' (split<;>simp only [ay,aA,aB]<;>simp [*])
@[simp] theorem abp (k:Int) (s:St) (cx:Ctx):ai P0 (.fn (.func pW) [] []) [.i .u8 k] s cx=.ret (.b (Xn k)) s:=by
 refine PU (by simp) ?_
 simp [af,vG,Fp,Xn]
 repeat' (split<;>simp only [ay,aA,aB]<;>simp [*])
theorem EH (s:St) (cx:Ctx) (l:List UInt8) (hl:l.length≤1152921504606846976):∀(rest:List UInt8) (i:Nat),l.drop i=rest→
  ∃j:Int,eX (au P0.glob (ai P0) cx false oD) [6,7,8] [(6,.v (.sl (eu l))),(7,.v (.i .i64 l.length)),(8,.v (.i .i64 i))] s=
   if BD rest=true then .exit 0 [(6,.v (.sl (eu l))),(7,.v (.i .i64 l.length)),(8,.v (.i .i64 j)),(9,.v (.b false))] s else .ret [(2,.v (.b false))] s
 | [],i,h=>by
  have h1:¬i<l.length:=Nat.not_lt.2 (drop_nil h)
  refine ⟨i,aj fun K hK=>?_⟩
  simp [oD,h1,J5]
 | b::r,i,h=>by
  obtain ⟨h1,h2,h3,h4⟩:=drop_cons h
  have h5:=h4 h3
  have hb:(eu l)[i]?=some (.i .u8 b.toNat):=by simp [eu,h1]
  have hw:=wI (i:=i) (by omega)
  obtain ⟨j,ih⟩:=EH s cx l hl r (i+1) h2
  refine ⟨j,aj fun K hK=>?_⟩
  rw [←hK,show ((i+1:Nat):Int)=(i:Int)+1 from rfl] at ih
  clear hK
  rcases Bool.eq_false_or_eq_true (Pz b) with hin|hin<;>rcases Bool.eq_false_or_eq_true (VA b.toNat) with hlt|hlt <;>
  ·have hin':=hin
   simp [Pz,Xn,hlt] at hin'
   try simp [oD,h3,hb,zk,hin,hlt,hw,ih]
   repeat' (first | (split<;>(try simp only [ay,aA,aB,aI,aJ])<;>(try simp [*])) | (simp only [ay,aA,aB,aI,aJ]<;>(try simp [*]))|omega)
theorem Fg (l:List UInt8) (hl:l.length≤1152921504606846976) (s:St) (cx:Ctx):ai P0 (.fn (.func nN) [] []) [.s l] s cx=.ret (.b (BD l)) s:=by
 refine ND (by simp) ?_
 obtain ⟨j,h⟩:=EH s ⟨s.length,s.length⟩ l hl l 0 rfl
 have hb:(eu l).length=l.length:=by simp [eu]
 simp at h
 simp [af,tH,hb,h]
 repeat' (first | (split<;>(try simp only [ay,aA,aB,aI,aJ])<;>(try simp [*])) | (simp only [ay,aA,aB,aI,aJ]<;>(try simp [*]))|omega)
@[simp] theorem ZI (l:List UInt8) (s:St) (cx:Ctx):ai P0 (.fn (.func pO) [] []) [.s l] s cx=.ret (.b (kwS l)) s:=by
 refine KR (by simp) ?_
 simp [af,rM]
 repeat' (first | (split<;>(try simp only [ay,aA,aB,aI,aJ])<;>(try simp [*])) | (simp only [ay,aA,aB,aI,aJ]<;>(try simp [*]))|omega)
 all_goals first|rfl|simp [kwS,keywords, *]
@[simp] theorem NM (l:List UInt8) (s:St) (cx:Ctx):ai P0 (.fn (.func pK) [] []) [.s l] s cx=.ret (.b (kwS l)) s:=by
 refine KQ (by simp) ?_
 simp [af,rF]
 repeat' (first | (split<;>(try simp only [ay,aA,aB,aI,aJ])<;>(try simp [*])) | (simp only [ay,aA,aB,aI,aJ]<;>(try simp [*]))|omega)
 all_goals first|rfl|simp [kwS,keywords, *]
theorem zT (l:List UInt8) (hl:l.length≤1152921504606846976) (s:St) (cx:Ctx):ai P0 (.fn (.func nM) [] []) [.s l] s cx=.ret (.b (DN l)) s:=by
 refine NC (by simp) ?_
 cases l with
 | nil=>simp [af,pz,DN]
 | cons b r=>
  have e1:=Fg _ hl
  simp [af,pz,e1,DN,adE]
  repeat' (first | (split<;>(try simp only [ay,aA,aB,aI,aJ])<;>(try simp [*])) | (simp only [ay,aA,aB,aI,aJ]<;>(try simp [*]))|omega)
theorem Jr (s:St) (cx:Ctx) (l:List UInt8) (hl:l.length≤1152921504606846976):∀(rest:List UInt8) (i:Nat),l.drop i=rest→
  ∃j:Int,eX (au P0.glob (ai P0) cx false rH) [0,3] [(0,.v (.s l)),(3,.v (.i .i64 i))] s=
   if BD rest=true then .exit 0 [(0,.v (.s l)),(3,.v (.i .i64 j)),(20,.v (.b false))] s else .ret [(2,.v (.b false))] s
 | [],i,h=>by
  have h1:¬i<l.length:=Nat.not_lt.2 (drop_nil h)
  refine ⟨i,aj fun K hK=>?_⟩
  simp [rH,h1,J5]
 | b::r,i,h=>by
  obtain ⟨h1,h2,h3,h4⟩:=drop_cons h
  have h5:=h4 h3
  have hw:=wI (i:=i) (by omega)
  obtain ⟨j,ih⟩:=Jr s cx l hl r (i+1) h2
  refine ⟨j,aj fun K hK=>?_⟩
  rw [←hK,show ((i+1:Nat):Int)=(i:Int)+1 from rfl] at ih
  clear hK
  rcases Bool.eq_false_or_eq_true (Pz b) with hin|hin <;>
   simp [rH,h3,h5,show Xn b.toNat=Pz b from rfl,zk,hin,hw,ih]
theorem Dz (l:List UInt8) (hl:l.length≤1152921504606846976) (s:St) (cx:Ctx):ai P0 (.fn (.func oP) [] []) [.s l] s cx=.ret (.b (DN l)) s:=by
 refine Rf (by simp) ?_
 obtain ⟨j,h⟩:=Jr s ⟨s.length,s.length⟩ l hl l 0 rfl
 cases l with
 | nil=>simp [af,sQ,DN]
 | cons b r=>
  simp at h
  rcases Bool.eq_false_or_eq_true (BD (b::r)) with ht|ht<;>rcases Bool.eq_false_or_eq_true (VA b.toNat) with hb|hb<;>rcases Bool.eq_false_or_eq_true (kwS (b::r)) with hk|hk <;>
  ·have hz:¬((r.length:Int)+1=0):=by omega
   simp [af,sQ,Fp,NM,DN,adE,ht,hb,hk,hz,h]
theorem zU (l:List UInt8) (hl:l.length≤1152921504606846976) (s:St) (cx:Ctx):ai P0 (.fn (.func jv) [] []) [.s l] s cx=.ret (.b (En l)) s:=by
 refine Gj (by simp) ?_
 cases l with
 | nil=>simp [af,jU,En]
 | cons b r=>
  have e1:=Fg _ hl
  simp [af,jU,e1,En]
  repeat' (first | (split<;>(try simp only [ay,aA,aB,aI,aJ])<;>(try simp [*])) | (simp only [ay,aA,aB,aI,aJ]<;>(try simp [*]))|omega)
@[simp] theorem ZF (l:List UInt8) (s:St) (cx:Ctx):ai P0 (.fn (.func jl) [] []) [.s l] s cx=.ret (.b (kC l)) s:=by
 refine KJ (by simp) ?_
 by_cases hl:l.length≤24
 ·have hn:¬((24:Int)<l.length):=by omega
  cases hc:kZ 58 l with
  | none=>
   have hcut:=Bj l 58 (by omega)
   rw [hc] at hcut
   simp only [] at hcut
   have e1:=zT l (by omega)
   simp [af,kP,hcut,hn,e1,kC,hc,hl]
   repeat' (first | (split<;>(try simp only [ay,aA,aB,aI,aJ])<;>(try simp [*])) | (simp only [ay,aA,aB,aI,aJ]<;>(try simp [*]))|omega)
  | some p=>
   obtain ⟨x,y⟩:=p
   have hcut:=Bj l 58 (by omega)
   rw [hc] at hcut
   simp only [] at hcut
   have:=yg hc
   have hx:x.length≤1152921504606846976:=by have:=congrArg List.length this;simp at this;omega
   have hy:y.length≤1152921504606846976:=by have:=congrArg List.length this;simp at this;omega
   clear this
   have e1:=zT x hx
   have e2:=zT y hy
   simp [af,kP,hcut,hn,e1,e2,kC,hc,hl]
   repeat' (first | (split<;>(try simp only [ay,aA,aB,aI,aJ])<;>(try simp [*])) | (simp only [ay,aA,aB,aI,aJ]<;>(try simp [*]))|omega)
 ·have hn:(24:Int)<l.length:=by omega
  simp [af,kP,hn,kC,hl]
theorem V3 {b:UInt8}:∀{l m:List UInt8},b ∉ l→kZ b (l++m)=(kZ b m).map fun p=>(l++p.1,p.2)
 | [],m,_=>by cases h:kZ b m<;>simp [h]
 | c::r,m,h=>by
  have hc:¬c=b:=fun e=>h (by simp [e])
  have hr:b ∉ r:=fun e=>h (by simp [e])
  have ih:=V3 (m:=m) hr
  cases hm:kZ b m<;>simp [kZ,hc,ih,hm]
theorem GV (s:St) (cx:Ctx) (l:List UInt8) (hl:l.length≤24):∀(rest:List UInt8) (i:Nat),l.drop i=rest→58 ∉ l.take i→
  ∃j:Int,eX (au P0.glob (ai P0) cx false lY) [0,3] [(0,.v (.s l)),(3,.v (.i .i64 i))] s=
   match kZ 58 l with
   | some (x,y)=>.ret [(2,.v (.b (DN x && DN y)))] s
   | none=>.exit 0 [(0,.v (.s l)),(3,.v (.i .i64 j)),(10,.v (.b false))] s
 | [],i,h,hn=>by
  have h0:=drop_nil h
  have h1:¬i<l.length:=Nat.not_lt.2 h0
  rw [List.take_of_length_le h0] at hn
  refine ⟨i,aj fun K hK=>?_⟩
  simp [lY,h1,Cb.2 hn]
 | b::r,i,h,hn=>by
  obtain ⟨h1,h2,h3,h4⟩:=drop_cons h
  have h5:=h4 h3
  have hw:=wI (i:=i) (by omega)
  by_cases hb:b=58
  ·have hcut:kZ 58 l=some (l.take i,r):=by
    conv=>lhs;rw [←List.take_append_drop i l,h]
    rw [V3 hn];simp [kZ,hb]
   have e1:=Dz (l.take i) (by simp;omega)
   have e2:=Dz r (by have:=congrArg List.length h2;simp at this;omega)
   have hj:((b.toNat:Int)=58):=by simp [hb]
   have h6:i≤l.length:=by omega
   have h7:i+1≤l.length:=by omega
   have hr:r.take (l.length - (i+1))=r:=List.take_of_length_le (by rw [←h2];simp)
   refine ⟨i,aj fun K hK=>?_⟩
   clear hK h4
   have hcast:(((i:Int)+1).toNat)=i+1:=by omega
   have hpos:(0:Int)≤(i:Int)+1:=by omega
   simp [lY,h3,h5,hj,hw,hcut,h6,h7,h2,e1,e2,hr,hcast,hpos]
   repeat' (first | (split<;>(try simp only [ay,aA,aB,aI,aJ])<;>(try simp [*])) | (simp only [ay,aA,aB,aI,aJ]<;>(try simp [*]))|omega)
  ·obtain ⟨j,ih⟩:=GV s cx l hl r (i+1) h2 (by
    rw [List.take_add_one,h1];simp;exact ⟨hn,Ne.symm hb⟩)
   refine ⟨j,aj fun K hK=>?_⟩
   rw [←hK,show ((i+1:Nat):Int)=(i:Int)+1 from rfl] at ih
   clear hK h4
   have hj:¬((b.toNat:Int)=58):=fun e=>hb (by
    have:b.toNat=58:=by omega
    exact UInt8.toNat.inj (by simpa using this))
   simp [lY,h3,h5,hj,hw,ih]
@[simp] theorem abq (l:List UInt8) (s:St) (cx:Ctx):ai P0 (.fn (.func kN) [] []) [.s l] s cx=.ret (.b (kC l)) s:=by
 refine PV (by simp) ?_
 by_cases hl:l.length≤24
 ·have hn:¬((24:Int)<l.length):=by omega
  obtain ⟨j,h⟩:=GV s ⟨s.length,s.length⟩ l hl l 0 rfl (by simp)
  simp at h
  have e1:=Dz l (by omega)
  cases hc:kZ 58 l with
  | none=>rw [hc] at h;simp [af,nH,hn,h,e1,kC,hc,hl]
  | some p=>rw [hc] at h;simp [af,nH,hn,h,kC,hc,hl]
 ·have hn:(24:Int)<l.length:=by omega
  simp [af,nH,hn,kC,hl]
theorem BO (s:St) (cx:Ctx) (l:List UInt8) (hl:l.length≤24):∀(rest:List UInt8) (i:Nat),l.drop i=rest→
  ∃j:Int,eX (au P0.glob (ai P0) cx false lX) [0,3] [(0,.v (.s l)),(3,.v (.i .i64 i))] s=
   if BD rest=true then .exit 0 [(0,.v (.s l)),(3,.v (.i .i64 j)),(20,.v (.b false))] s else .ret [(2,.v (.b false))] s
 | [],i,h=>by
  have h1:¬i<l.length:=Nat.not_lt.2 (drop_nil h)
  refine ⟨i,aj fun K hK=>?_⟩
  simp [lX,h1,J5]
 | b::r,i,h=>by
  obtain ⟨h1,h2,h3,h4⟩:=drop_cons h
  have h5:=h4 h3
  have hw:=wI (i:=i) (by omega)
  obtain ⟨j,ih⟩:=BO s cx l hl r (i+1) h2
  refine ⟨j,aj fun K hK=>?_⟩
  rw [←hK,show ((i+1:Nat):Int)=(i:Int)+1 from rfl] at ih
  clear hK
  rcases Bool.eq_false_or_eq_true (Pz b) with hin|hin <;>
   simp [lX,h3,h5,show Xn b.toNat=Pz b from rfl,zk,hin,hw,ih]
@[simp] theorem ZC (l:List UInt8) (s:St) (cx:Ctx):ai P0 (.fn (.func nS) [] []) [.s l] s cx=.ret (.b (En l)) s:=by
 refine JB (by simp) ?_
 by_cases hl:l.length≤24
 ·match l with
  | []=>simp [af,iw,En]
  | [b]=>simp [af,iw,En]
  | b::c::r=>
   obtain ⟨j,h⟩:=BO s ⟨s.length,s.length⟩ (b::c::r) hl (c::r) 1 rfl
   simp at h hl
   have h1:¬((r.length:Int)+1+1<2):=by omega
   have h2:¬((24:Int)<(r.length:Int)+1+1):=by omega
   by_cases hb:(b.toNat:Int)=95
   ·have:Pz b=true:=by simp [Pz,Xn,hb]
    rcases Bool.eq_false_or_eq_true (BD (c::r)) with ht|ht <;>
     simp [af,iw,En,h1,h2,h,hl,hb,ht,zk b,this]
   ·simp [af,iw,En,h1,h2,hb]
 ·have h1:¬((l.length:Int)<2):=by omega
  have h2:((24:Int)<l.length):=by omega
  simp [af,iw,En,h1,h2,hl]
@[simp] theorem Fq (l:List UInt8) (s:St) (cx:Ctx):ai P0 (.fn (.func jL) [] []) [.s l] s cx=.ret (.b (kC l || En l)) s:=by
 refine NJ (by simp) ?_
 simp [af,tN]
 repeat' (first | (split<;>(try simp only [ay,aA,aB,aI,aJ])<;>(try simp [*])) | (simp only [ay,aA,aB,aI,aJ]<;>(try simp [*]))|omega)
end Go.Ai.Z
namespace Go.Ai.Z
theorem GU (c:C) (hps:c.parts.length≤1152921504606846976) (d m:Int) (hd:d≤1000) (hd':-1000≤d) (hm:0≤m) (hm':m≤100000)
  (ih:∀p∈c.parts,∀(d m:Int),d≤1000→-1001≤d→0≤m→m≤100000→
   ∃v:Int,(∀s cx,ai P0 (.fn (.func mP) [] []) [bn p,.i .i64 d,.i .i64 m] s cx=.ret (.i .i64 v) s)∧1≤v∧v≤m+1152921504606846976∧(v≤m→wC p≤v)):
  ∀(rest:List C) (i:Nat) (n:Int),c.parts.drop i=rest→1≤n→n≤m+1152921504606846976→
  ∃v j:Int,(∀s cx,eX (au P0.glob (ai P0) cx false lW) [1,2,3,7,8] [(1,.v (.i .i64 d)),(2,.v (.i .i64 m)),(3,.bx (bn c).cells),(7,.v (.i .i64 n)),(8,.v (.i .i64 i))] s=
   .exit 0 [(1,.v (.i .i64 d)),(2,.v (.i .i64 m)),(3,.bx (bn c).cells),(7,.v (.i .i64 v)),(8,.v (.i .i64 j)),(27,.v (.b false))] s)∧
   1≤v∧v≤m+1152921504606846976∧(v≤m→n+wL rest≤v)
 | [],i,n,h,hn,hn'=>by
  have h1:¬i<c.parts.length:=Nat.not_lt.2 (drop_nil h)
  refine ⟨n,i,fun s cx=>aj fun K hK=>?_,hn,hn',fun _=>by simp [wL]⟩
  simp [lW,h1]
 | p::r,i,n,h,hn,hn'=>by
  obtain ⟨h1,h2,h3,h4⟩:=drop_cons h
  have h5:=h4 h3
  have hp:p∈c.parts:=by rw [←h5];exact List.getElem_mem h3
  have hw:=wI (i:=i) (by omega)
  by_cases hnm:n≤m
  ·obtain ⟨v',e1,q1,q2,q3⟩:=ih p hp (d - 1) (m - n) (by omega) (by omega) (by omega) (by omega)
   obtain ⟨v,j,ih2,r1,r2,r3⟩:=GU c hps d m hd hd' hm hm' ih r (i+1) (n+v') h2 (by omega) (by omega)
   refine ⟨v,j,fun s cx=>aj fun K hK=>?_,r1,r2,fun hv=>?_⟩
   ·have ih2:=ih2 s cx
    rw [←hK,show ((i+1:Nat):Int)=(i:Int)+1 from rfl] at ih2
    clear hK h4 ih
    have w1:IntKind.i64.wrap (d - 1)=d - 1:=w64 (by omega) (by omega)
    have w2:IntKind.i64.wrap (m - n)=m - n:=w64 (by omega) (by omega)
    have w3:IntKind.i64.wrap (n+v')=n+v':=w64 (by omega) (by omega)
    simp at ih2
    simp [lW,h3,h5,hnm,w1,w2,w3,hw,e1,ih2]
   ·have:=r3 hv;simp only [wL];have:=q3 (by omega);omega
  ·refine ⟨n,i,fun s cx=>aj fun K hK=>?_,hn,hn',fun hv=>by omega⟩
   simp [lW,h3,hnm]
theorem Rz:∀(c:C),c.Ok→∀(d m:Int),d≤1000→-1001≤d→0≤m→m≤100000→
  ∃v:Int,(∀s cx,ai P0 (.fn (.func mP) [] []) [bn c,.i .i64 d,.i .i64 m] s cx=.ret (.i .i64 v) s)∧1≤v∧v≤m+1152921504606846976∧(v≤m→wC c≤v):=by
 refine C.ind' fun c ih hok d m hd hd' hm hm'=>?_
 cases hok with
 | mk _ hn hps hk hl hh hp=>
  by_cases h0:d≤0
  ·have w1:IntKind.i64.wrap (m+1)=m+1:=w64 (by omega) (by omega)
   refine ⟨m+1,fun s cx=>EU (by simp) ?_,by omega,by omega,by omega⟩
   simp [af,qQ,h0,w1]
  ·have hdiv:((c.name.length:Int).tdiv 40)=((c.name.length / 40:Nat):Int):=by rw [Int.tdiv_eq_ediv_of_nonneg (by omega)];omega
   have w1:IntKind.i64.wrap ((c.name.length / 40:Nat):Int)=((c.name.length / 40:Nat):Int):=w64 (by omega) (by omega)
   have w2:IntKind.i64.wrap (1+((c.name.length / 40:Nat):Int))=1+((c.name.length / 40:Nat):Int):=w64 (by omega) (by omega)
   obtain ⟨v,j,h,r1,r2,r3⟩:=GU c hps d m hd (by omega) hm hm' (fun p hp'=>ih p hp' (hp p hp')) c.parts 0 (1+((c.name.length / 40:Nat):Int)) rfl (by omega) (by omega)
   refine ⟨v,fun s cx=>EU (by simp) ?_,r1,r2,fun hv=>?_⟩
   ·simp at h
    rw [show ((c.name.length / 40:Nat):Int)=(c.name.length:Int) / 40 from by omega] at hdiv w1 w2
    simp [af,qQ,h0,hdiv,w1,w2,h]
   ·have:=r3 hv;rw [nY];omega
theorem MQ (c:C) (h:c.Ok):∃b:Bool,(∀s cx,ai P0 (.fn (.func uO) [] []) [bn c] s cx=.ret (.b b) s)∧(b=true→wC c≤150):=by
 obtain ⟨v,e,r1,r2,r3⟩:=Rz c h 40 150 (by omega) (by omega) (by omega) (by omega)
 refine ⟨decide (v≤150),fun s cx=>?_,fun hv=>by simp at hv;have:=r3 hv;omega⟩
 refine Ux (by simp) ?_
 simp [af,yS,e]
theorem Js (s:St) (cx:Ctx) (c:C) (hw:wC c≤100000)
  (ih:∀p∈c.parts,∀(s:St) (cx:Ctx),ai P0 (.fn (.func oQ) [] []) [bn p] s cx=.ret (.i .i64 (jG p)) s):
  ∀(rest:List C) (i:Nat) (n:Nat),c.parts.drop i=rest→n+qK rest≤100000→i≤c.parts.length→
  eX (au P0.glob (ai P0) cx false rJ) [1,3,4] [(1,.bx (bn c).cells),(3,.v (.i .i64 n)),(4,.v (.i .i64 i))] s=
   .exit 0 [(1,.bx (bn c).cells),(3,.v (.i .i64 (n+qK rest:Nat))),(4,.v (.i .i64 c.parts.length)),(9,.v (.b false))] s
 | [],i,n,h,hn,hi=>by
  have h0:=drop_nil h
  obtain rfl:i=c.parts.length:=by omega
  refine aj fun K hK=>?_
  simp [rJ,qK]
 | p::r,i,n,h,hn,hi=>by
  obtain ⟨h1,h2,h3,h4⟩:=drop_cons h
  have h5:=h4 h3
  have hp:p∈c.parts:=by rw [←h5];exact List.getElem_mem h3
  have hl:=Ba c.parts
  rw [nY] at hw
  have hwi:=wI (i:=i) (by omega)
  simp only [qK] at hn
  have ih2:=Js s cx c (by rw [nY];exact hw) ih r (i+1) (n+jG p) h2 (by omega) (by omega)
  refine aj fun K hK=>?_
  rw [←hK] at ih2
  have e1:=ih p hp
  clear hK h4 ih
  have w3:IntKind.i64.wrap ((n:Int)+jG p)=(n:Int)+jG p:=w64 (by omega) (by omega)
  simp at ih2
  simp [rJ,h3,h5,w3,hwi,e1,ih2,qK]
  omega
theorem UM:∀(c:C),wC c≤100000→∀(s:St) (cx:Ctx),ai P0 (.fn (.func oQ) [] []) [bn c] s cx=.ret (.i .i64 (jG c)) s:=by
 refine C.ind' fun c ih hw s cx=>?_
 have hs:=U7 c
 have hw':=hw
 rw [nY] at hw'
 rw [xM] at hs
 have h:=Js s ⟨s.length,s.length⟩ c hw (fun p hp=>ih p hp (by have:=wS hp;omega)) c.parts 0 1 rfl (by omega) (by omega)
 refine Ri (by simp) ?_
 simp at h
 simp [af,xK,h,xM c]
theorem GX (s:St) (cx:Ctx) (c:C) (hw:wC c≤100000)
  (ih:∀p∈c.parts,∀(s:St) (cx:Ctx),ai P0 (.fn (.func mQ) [] []) [bn p] s cx=.ret (.i .i64 (jq p)) s):
  ∀(rest:List C) (i:Nat) (n:Nat),c.parts.drop i=rest→i≤c.parts.length→
  eX (au P0.glob (ai P0) cx false qB) [1,3,4] [(1,.bx (bn c).cells),(3,.v (.i .i64 n)),(4,.v (.i .i64 i))] s=
   .exit 0 [(1,.bx (bn c).cells),(3,.v (.i .i64 (max n (vT rest):Nat))),(4,.v (.i .i64 c.parts.length)),(9,.v (.b false))] s
 | [],i,n,h,hi=>by
  have h0:=drop_nil h
  obtain rfl:i=c.parts.length:=by omega
  refine aj fun K hK=>?_
  simp [qB,vT]
 | p::r,i,n,h,hi=>by
  obtain ⟨h1,h2,h3,h4⟩:=drop_cons h
  have h5:=h4 h3
  have hp:p∈c.parts:=by rw [←h5];exact List.getElem_mem h3
  have hl:=Ba c.parts
  have hd:jq p≤100000:=by have:=Zq p;have:=U7 p;have:=wS hp;rw [nY] at hw;omega
  rw [nY] at hw
  have hwi:=wI (i:=i) (by omega)
  have ih2:=GX s cx c (by rw [nY];exact hw) ih r (i+1) (max n (1+jq p)) h2 (by omega)
  refine aj fun K hK=>?_
  rw [←hK] at ih2
  have e1:=ih p hp
  clear hK h4 ih
  have w3:IntKind.i64.wrap (1+(jq p:Int))=((1+jq p:Nat):Int):=by rw [w64]<;>omega
  have hmx:(if ((1+jq p:Nat):Int) > (n:Int) then ((1+jq p:Nat):Int) else (n:Int))=((max n (1+jq p):Nat):Int):=by split<;>omega
  have hass:max (max n (1+jq p)) (vT r)=max n (vT (p::r)):=by simp only [vT];omega
  rw [hass] at ih2
  simp only [show ((i+1:Nat):Int)=(i:Int)+1 from rfl] at ih2
  simp [qB,h3,h5,hwi,e1,-Int.natCast_add,w3]
  rw [show (if n<1+jq p then ((1+jq p:Nat):Int) else (n:Int))=((max n (1+jq p):Nat):Int) from by split<;>omega]
  simp only [XB] at ih2
  exact ih2
theorem RD:∀(c:C),wC c≤100000→∀(s:St) (cx:Ctx),ai P0 (.fn (.func mQ) [] []) [bn c] s cx=.ret (.i .i64 (jq c)) s:=by
 refine C.ind' fun c ih hw s cx=>?_
 have hw':=hw
 rw [nY] at hw'
 have h:=GX s ⟨s.length,s.length⟩ c hw (fun p hp=>ih p hp (by have:=wS hp;omega)) c.parts 0 0 rfl (by omega)
 refine PX (by simp) ?_
 simp at h
 simp [af,vJ,h,KX c]
def qf (c:C):Bool:=
 let plain:=decide (c.lo=0) && decide (c.hi=0)
 if c.kind=1 then plain && decide (c.name=[]) && decide ((c.parts.length:Int)=0)
 else if c.kind=2 then plain && decide (c.name=[]) && decide ((c.parts.length:Int)=0)
 else if c.kind=3 then plain && decide ((c.parts.length:Int)=0)
 else if c.kind=4 then plain && decide ((c.parts.length:Int)=0)
 else if c.kind=5 then plain && decide (c.name=[]) && decide ((2:Int)≤c.parts.length) && decide ((c.parts.length:Int)≤8)
 else if c.kind=6 then plain && decide ((c.parts.length:Int)=1)
 else if c.kind=7 then decide ((c.parts.length:Int)=0) && decide (-1099511627776≤c.lo) && decide (c.lo≤c.hi) && decide (c.hi≤1099511627776)
 else false
def uj (c:C):Bool:=
 if c.kind=3 then kC c.name
 else if c.kind=6 then kC c.name
 else if c.kind=7 then kC c.name
 else if c.kind=4 then kC c.name || En c.name
 else true
@[simp] theorem abn (c:C) (s:St) (cx:Ctx):ai P0 (.fn (.func sW) [] []) [bn c] s cx=.ret (.b (qf c)) s:=by
 refine PN (by simp) ?_
 simp [af,vz,qf]
 repeat' (first | (split<;>(try simp only [ay,aA,aB,aI,aJ])<;>(try simp [*])) | (simp only [ay,aA,aB,aI,aJ]<;>(try simp [*]))|omega)
@[simp] theorem abo (c:C) (s:St) (cx:Ctx):ai P0 (.fn (.func sZ) [] []) [bn c] s cx=.ret (.b (uj c)) s:=by
 refine PS (by simp) ?_
 simp [af,vC,uj]
 repeat' (first | (split<;>(try simp only [ay,aA,aB,aI,aJ])<;>(try simp [*])) | (simp only [ay,aA,aB,aI,aJ]<;>(try simp [*]))|omega)
mutual
def ji:C→Int
 | .mk k n l h z ps=>if qf (.mk k n l h z ps)=false then 21 else if uj (.mk k n l h z ps)=false then 20 else rY ps
def rY:List C→Int
 | []=>0
 | p::r=>if ji p=0 then rY r else ji p
end
theorem N9 (c:C):ji c=if qf c=false then 21 else if uj c=false then 20 else rY c.parts:=by cases c;simp [ji]
def lI (c:C):Int:=if 8<jq c∨64<jG c then 21 else ji c
theorem Jp (s:St) (cx:Ctx) (c:C) (hw:wC c≤100000)
  (ih:∀p∈c.parts,∀(s:St) (cx:Ctx),ai P0 (.fn (.func oO) [] []) [bn p] s cx=.ret (.i .i64 (ji p)) s):
  ∀(rest:List C) (i:Nat),c.parts.drop i=rest→
  ∃j:Int,eX (au P0.glob (ai P0) cx false rE) [1,3] [(1,.bx (bn c).cells),(3,.v (.i .i64 i))] s=
   if rY rest=0 then .exit 0 [(1,.bx (bn c).cells),(3,.v (.i .i64 j)),(15,.v (.b false))] s else .ret [(2,.v (.i .i64 (rY rest)))] s
 | [],i,h=>by
  have h1:¬i<c.parts.length:=Nat.not_lt.2 (drop_nil h)
  refine ⟨i,aj fun K hK=>?_⟩
  simp [rE,h1,rY]
 | p::r,i,h=>by
  obtain ⟨h1,h2,h3,h4⟩:=drop_cons h
  have h5:=h4 h3
  have hp:p∈c.parts:=by rw [←h5];exact List.getElem_mem h3
  have hl:=Ba c.parts
  have hwi:=wI (i:=i) (by rw [nY] at hw;omega)
  obtain ⟨j,ih2⟩:=Jp s cx c hw ih r (i+1) h2
  refine ⟨j,aj fun K hK=>?_⟩
  rw [←hK] at ih2
  have e1:=ih p hp
  clear hK h4 ih
  simp at ih2
  by_cases h0:ji p=0<;>simp [rE,h3,h5,hwi,e1,ih2,rY,h0]
theorem UL:∀(c:C),wC c≤100000→∀(s:St) (cx:Ctx),ai P0 (.fn (.func oO) [] []) [bn c] s cx=.ret (.i .i64 (ji c)) s:=by
 refine C.ind' fun c ih hw s cx=>?_
 have hw':=hw
 rw [nY] at hw'
 obtain ⟨j,h⟩:=Jp s ⟨s.length,s.length⟩ c hw (fun p hp=>ih p hp (by have:=wS hp;omega)) c.parts 0 rfl
 refine Q8 (by simp) ?_
 simp at h
 by_cases h1:qf c=true<;>by_cases h2:uj c=true<;>by_cases h3:rY c.parts=0 <;>
  simp [af,xJ,h,N9 c,h1,h2,h3]
theorem yj (c:C) (hw:wC c≤100000) (s:St) (cx:Ctx):ai P0 (.fn (.func iQ) [] []) [bn c] s cx=.ret (.i .i64 (lI c)) s:=by
 refine Eg (by simp) ?_
 have e1:=RD c hw
 have e2:=UM c hw
 have e3:=UL c hw
 have d1:((8:Int)<jq c)=(8<jq c):=by simp;omega
 have d2:((64:Int)<jG c)=(64<jG c):=by simp;omega
 by_cases h1:8<jq c<;>by_cases h2:64<jG c <;>
  simp [af,lD,e1,e2,e3,lI,h1,h2,d1,d2]
end Go.Ai.Z
namespace Go.Ai.Z
def oI (c:C):Int:=if qf c=false then 21 else if uj c=false then 20 else 0
theorem Xt:P0.glob Bo=some [.i .i64 0,.i .i64 0,.i .i64 0,.b false,.i .i64 0,.i .i64 0,.i .i64 0,.b false,.i .i64 0,.i .i64 0,.i .i64 0,.b false,.i .i64 1,.i .i64 0,.i .i64 0,.b false,.i .i64 2,.i .i64 0,.i .i64 0,.b false,.i .i64 0,.i .i64 2,.i .i64 8,.b false,.i .i64 1,.i .i64 1,.i .i64 1,.b false,.i .i64 1,.i .i64 0,.i .i64 0,.b true]:=rfl
theorem Gu (c:C) (hn:c.name.length≤1152921504606846976) (s:St) (cx:Ctx):ai P0 (.fn (.func jZ) [] []) [bn c] s cx=.ret (.i .i64 (oI c)) s:=by
 refine ET (by simp) ?_
 have e1:=zU c.name hn
 by_cases h0:c.kind<1
 ·have:qf c=false:=by simp [qf,show ¬c.kind=1 by omega,show ¬c.kind=2 by omega,show ¬c.kind=3 by omega,show ¬c.kind=4 by omega,show ¬c.kind=5 by omega,show ¬c.kind=6 by omega,show ¬c.kind=7 by omega]
  simp [af,iM,h0,oI,this]
 by_cases h8:7<c.kind
 ·have:qf c=false:=by simp [qf,show ¬c.kind=1 by omega,show ¬c.kind=2 by omega,show ¬c.kind=3 by omega,show ¬c.kind=4 by omega,show ¬c.kind=5 by omega,show ¬c.kind=6 by omega,show ¬c.kind=7 by omega]
  simp [af,iM,h0,h8,oI,this]
 have hk:c.kind=1∨c.kind=2∨c.kind=3∨c.kind=4∨c.kind=5∨c.kind=6∨c.kind=7:=by omega
 rcases hps:c.parts with _|⟨a,_|⟨b,r⟩⟩<;>rcases hk with hk|hk|hk|hk|hk|hk|hk
 all_goals
  clear h0 h8
  simp [af,iM,hk,Xt,oI,qf,uj,hps]
  repeat' (first | (split<;>(try simp only [ay,aA,aB,aI,aJ])<;>(try simp [*])) | (simp only [ay,aA,aB,aI,aJ]<;>(try simp [*]))|omega)
end Go.Ai.Z
namespace Go.Ai.Z
mutual
def wM:C→Nat→Nat→Bool×Nat
 | .mk _ _ _ _ _ ps,d,n=>if 8<d∨64<n+1 then (false,n+1) else Dt ps d (n+1)
def Dt:List C→Nat→Nat→Bool×Nat
 | [],_,n=>(true,n)
 | p::r,d,n=>if (wM p (d+1) n).1=true then Dt r d (wM p (d+1) n).2 else (false,(wM p (d+1) n).2)
end
theorem JG (c:C) (d n:Nat):wM c d n=if 8<d∨64<n+1 then (false,n+1) else Dt c.parts d (n+1):=by cases c;simp [wM]
theorem aci:∀(c:C) (d n:Nat),n≤64→(wM c d n).2≤65∧((wM c d n).1=true→(wM c d n).2≤64):=by
 refine C.ind' fun c ih d n hn=>?_
 have hL:∀(l:List C),(∀p∈l,∀(d n:Nat),n≤64→(wM p d n).2≤65∧((wM p d n).1=true→(wM p d n).2≤64))→∀n,n≤64→(Dt l d n).2≤65∧((Dt l d n).1=true→(Dt l d n).2≤64):=by
  intro l
  induction l with
  | nil=>intro _ n hn;simp [Dt];omega
  | cons p r ih=>
   intro h n hn
   have h1:=h p (by simp) (d+1) n hn
   simp only [Dt]
   split
   ·rename_i ht;exact ih (fun q hq=>h q (by simp [hq])) _ (h1.2 ht)
   ·exact ⟨h1.1,by simp⟩
 rw [JG]
 split
 ·exact ⟨by simp;omega,by simp⟩
 ·exact hL c.parts ih _ (by omega)
theorem acj:∀(c:C) (d n:Nat),n≤64→((wM c d n).1=true ↔ d+jq c≤8∧n+jG c≤64)∧((wM c d n).1=true→(wM c d n).2=n+jG c):=by
 refine C.ind' fun c ih d n hn=>?_
 have hL:∀(l:List C),(∀p∈l,∀(d n:Nat),n≤64→((wM p d n).1=true ↔ d+jq p≤8∧n+jG p≤64)∧((wM p d n).1=true→(wM p d n).2=n+jG p))→∀n,n≤64→d≤8→
   ((Dt l d n).1=true ↔ d+vT l≤8∧n+qK l≤64)∧((Dt l d n).1=true→(Dt l d n).2=n+qK l):=by
  intro l
  induction l with
  | nil=>intro _ n hn hd;simp [Dt,vT,qK];omega
  | cons p r ih=>
   intro h n hn hd
   have h1:=h p (by simp) (d+1) n hn
   simp only [Dt,vT,qK]
   by_cases ht:(wM p (d+1) n).1=true
   ·have h2:=h1.2 ht
    have h3:=h1.1.1 ht
    rw [if_pos ht]
    have h4:=ih (fun q hq=>h q (by simp [hq])) (wM p (d+1) n).2 (by omega) hd
    rw [h2] at h4 ⊢
    refine ⟨h4.1.trans ⟨fun h=>⟨by omega,by omega⟩,fun h=>⟨by omega,by omega⟩⟩,fun h=>by rw [h4.2 h];omega⟩
   ·rw [if_neg ht]
    refine ⟨⟨fun h=>by simp at h,fun h=>absurd (h1.1.2 ⟨by omega,by omega⟩) ht⟩,fun h=>by simp at h⟩
 rw [JG,KX,xM]
 have hL:=hL c.parts ih
 split
 ·rename_i h;refine ⟨⟨fun h=>by simp at h,fun h=>by omega⟩,fun h=>by simp at h⟩
 ·have:=hL (n+1) (by omega) (by omega)
  refine ⟨this.1.trans ⟨fun h=>⟨by omega,by omega⟩,fun h=>⟨by omega,by omega⟩⟩,fun h=>by rw [this.2 h];omega⟩
theorem Oi {T:St} {l:Nat} {v:gG} (h:T[l]?=some v):T.set l v=T:=by
 obtain ⟨h1,h2⟩:=List.getElem?_eq_some_iff.1 h
 rw [←h2];exact List.set_getElem_self h1
inductive C.Lng:C→Prop where
 | mk (c:C) (hn:c.name.length≤1152921504606846976) (hps:c.parts.length≤1152921504606846976) (hp:∀p∈c.parts,C.Lng p):C.Lng c
theorem C.Lng.n {c:C} (h:C.Lng c):c.name.length≤1152921504606846976:=by cases h;assumption
theorem C.Lng.ps {c:C} (h:C.Lng c):c.parts.length≤1152921504606846976:=by cases h;assumption
theorem C.Lng.sub {c:C} (h:C.Lng c):∀p∈c.parts,C.Lng p:=by cases h;assumption
theorem C.Ok.lng {c:C} (h:C.Ok c):C.Lng c:=by
 induction h with
 | mk c hn hps _ _ _ _ ih=>exact .mk c hn hps ih
theorem acW:∀c:C,wC c≤100000→C.Lng c:=by
 refine C.ind' fun c ih hw=>?_
 have hl:=Ba c.parts
 rw [nY] at hw
 exact .mk c (by omega) (by omega) fun p hp=>ih p hp (by have:=wS hp;omega)
theorem Jo (c:C) (hw:C.Lng c) (cx:Ctx) (l:Nat) (hcl:cx.lim≤l) (d:Nat) (hd:d≤8)
  (ih:∀p∈c.parts,∀(d n:Nat) (s:St) (cx:Ctx),d≤100→n≤64→cx.lim≤l→s[l]?=some (.cells [.i .i64 n])→
   ai P0 (.fn (.func oN) [] []) [bn p,.i .i64 d,.pt l 0] s cx=.ret (.b (wM p d n).1) (s.set l (.cells [.i .i64 (wM p d n).2]))):
  ∀(rest:List C) (i:Nat) (n:Nat) (s:St),n≤64→s[l]?=some (.cells [.i .i64 n])→c.parts.drop i=rest→
  ∃j:Int,eX (au P0.glob (ai P0) cx false nG) [1,2,23,24,25] [(1,.v (.i .i64 d)),(2,.v (.pt l 0)),(23,.v (slf c.z (c.parts.map bn))),(24,.v (.i .i64 c.parts.length)),(25,.v (.i .i64 i))] s=
   if (Dt rest d n).1=true then .exit 0 [(1,.v (.i .i64 d)),(2,.v (.pt l 0)),(23,.v (slf c.z (c.parts.map bn))),(24,.v (.i .i64 c.parts.length)),(25,.v (.i .i64 j)),(26,.v (.b false))] (s.set l (.cells [.i .i64 (Dt rest d n).2]))
   else .ret [(6,.v (.b false))] (s.set l (.cells [.i .i64 (Dt rest d n).2]))
 | [],i,n,s,hn,hs,h=>by
  have h1:¬i<c.parts.length:=Nat.not_lt.2 (drop_nil h)
  refine ⟨i,aj fun K hK=>?_⟩
  simp [nG,h1,Dt,Oi hs]
 | p::r,i,n,s,hn,hs,h=>by
  obtain ⟨h1,h2,h3,h4⟩:=drop_cons h
  have h5:=h4 h3
  have hp:p∈c.parts:=by rw [←h5];exact List.getElem_mem h3
  have hwi:=wI (i:=i) (by have:=hw.ps;omega)
  have hlt:l<s.length:=(List.getElem?_eq_some_iff.1 hs).1
  have e1:=ih p hp (d+1) n s cx (by omega) hn hcl hs
  have w1:IntKind.i64.wrap ((d:Int)+1)=(d:Int)+1:=w64 (by omega) (by omega)
  simp at e1
  by_cases ht:(wM p (d+1) n).1=true
  ·have hle:=(aci p (d+1) n hn).2 ht
   obtain ⟨j,ih2⟩:=Jo c hw cx l hcl d hd ih r (i+1) (wM p (d+1) n).2 (s.set l (.cells [.i .i64 (wM p (d+1) n).2])) hle (by simp [hlt]) h2
   refine ⟨j,aj fun K hK=>?_⟩
   rw [←hK] at ih2
   clear hK h4 ih
   simp at ih2
   simp [nG,h3,h5,hwi,w1,e1,ih2,Dt,ht]
  ·refine ⟨i,aj fun K hK=>?_⟩
   clear hK h4 ih
   simp [nG,h3,h5,hwi,w1,e1,Dt,ht]
theorem UK (l:Nat):∀(c:C),C.Lng c→∀(d n:Nat) (s:St) (cx:Ctx),d≤100→n≤64→cx.lim≤l→s[l]?=some (.cells [.i .i64 n])→
   ai P0 (.fn (.func oN) [] []) [bn c,.i .i64 d,.pt l 0] s cx=.ret (.b (wM c d n).1) (s.set l (.cells [.i .i64 (wM c d n).2])):=by
 refine C.ind' fun c ih hw d n s cx hd hn hcl hs=>?_
 have hlt:l<s.length:=(List.getElem?_eq_some_iff.1 hs).1
 have w1:IntKind.i64.wrap ((n:Int)+1)=(n:Int)+1:=w64 (by omega) (by omega)
 have hs':s[l]=.cells [.i .i64 n]:=(List.getElem?_eq_some_iff.1 hs).2
 refine Q5 (by simp) ?_
 by_cases h8:(8:Int)<d
 ·simp [af,pU,hs',hlt,hcl,w1,h8,JG c,show 8<d by omega]
 by_cases h64:(64:Int)<(n:Int)+1
 ·simp [af,pU,hs',hlt,hcl,w1,h8,h64,JG c,show 64<n+1 by omega]
 ·obtain ⟨j,h⟩:=Jo c hw ⟨cx.lim,s.length⟩ l hcl d (by omega) (fun p hp=>ih p hp (hw.sub p hp)) c.parts 0 (n+1) (s.set l (.cells [.i .i64 (n+1:Nat)])) (by omega) (by simp [hlt]) rfl
  simp at h
  have hcond:¬(8<d∨64<n+1):=by omega
  simp [af,pU,hs',hlt,hcl,w1,h8,h64,JG c,hcond,h]
  repeat' (first | (split<;>(try simp only [ay,aA,aB,aI,aJ])<;>(try simp [*])) | (simp only [ay,aA,aB,aI,aJ]<;>(try simp [*]))|omega)
def Qi (a:Nat) (c:C):Env:=[(2,.v (.pt a 0)),(10,.v (.fn (.func gI) [] [.ip (bn c).cells]))]
def oK (a:Nat) (c:C) (p:Lp):gG:=.loop (Qi a c) [11] jC jB p
theorem J3 (x:C) (a:Nat) {e':AV} (T:St) (cx:Ctx) (hb:cx.base≤T.length) (hlt:cx.lim≤T.length):
  au P0.glob (ai P0) cx true jC [(11,.v (bn x)),(2,.v (.pt a 0)),(10,.v e')] T=.norm [(2,.v (.pt a 0)),(4,.v (.pt T.length 0))] (T++[.cells (bn x).cells]):=by
 simp [jC,hb,hlt]
theorem JZ (x:C) (hx:x.name.length≤1152921504606846976) (a m:Nat) (v:AV) (S:St) (cx:Ctx) (hm:S[m]?=some (.cells (bn x).cells)) (ha:S[a]?=some (.cells [v])) (hca:cx.lim≤a):
  au P0.glob (ai P0) cx true jB [(2,.v (.pt a 0)),(4,.v (.pt m 0))] S=
   if oI x=0 then .norm [(2,.v (.pt a 0)),(5,.v (.i .i64 (oI x))),(15,.v (.b false))] S else .ret [] (S.set a (.cells [.i .i64 (oI x)])):=by
 have e1:=Gu x hx
 simp at hm
 by_cases h0:oI x=0<;>simp [jB,hm,ha,hca,e1,h0]
theorem N7 (c x:C) (hx:x.name.length≤1152921504606846976) (a l:Nat) (v:AV) (T:St) (cx:Ctx) (hl:T[l]?=some (oK a c .ready)) (ha:T[a]?=some (.cells [v])) (hcl:cx.lim≤l) (hca:cx.lim≤a) (hb:cx.base≤T.length) (hlt:cx.lim≤T.length):
  ai P0 (.yl l) [bn x] T cx=if oI x=0 then .ret (.b true) (T++[.cells (bn x).cells])
   else .ret (.b false) ((T.set a (.cells [.i .i64 (oI x)])).set l (oK a c .ret)++[.cells (bn x).cells]):=by
 have hl1:l<T.length:=(List.getElem?_eq_some_iff.1 hl).1
 have ha1:a<T.length:=(List.getElem?_eq_some_iff.1 ha).1
 have hal:¬l=a:=by intro e;subst e;rw [hl] at ha;simp [oK] at ha
 have hl2:T[l]=oK a c .ready:=(List.getElem?_eq_some_iff.1 hl).2
 have hA:=J3 (e':=.fn (.func gI) [] [.ip (bn c).cells]) x a T cx hb hlt
 have hR:=JZ x hx a T.length v (T.set l (oK a c .busy)++[.cells (bn x).cells]) cx (by rw [List.getElem?_append_right (by simp)];simp) (by rw [List.getElem?_append_left (by simpa using ha1)];rw [List.getElem?_set_ne hal];exact ha) hca
 refine Ll (by split<;>simp) ?_
 unfold Ho
 rw [hl]
 simp only [oK,Qi,BF,put,lk]
 simp at hA hR
 have hset:=Oi hl
 simp only [oK,Qi] at hset hR
 simp at hset hR
 by_cases h0:oI x=0
 ·simp [hA,hcl,hl1,hR,h0,oJ,hset,List.getElem?_append_left,hl2,oK,Qi]
 ·simp [hA,hcl,hl1,hR,h0,oJ,List.getElem?_append_left,hl2,oK,Qi,ha1,Ne.symm hal,hal]
  rw [List.set_comm _ _ hal,List.set_set]
theorem TQ (x:C):ji x=if oI x=0 then rY x.parts else oI x:=by
 rw [N9];unfold oI
 by_cases h1:qf x=false<;>by_cases h2:uj x=false<;>simp [h1,h2]
theorem GN (c x:C) (hw:C.Lng x) (a l:Nat) (v:AV) (cx:Ctx) (T:St) (hl:T[l]?=some (oK a c .ready)) (ha:T[a]?=some (.cells [v])) (hcl:cx.lim≤l) (hca:cx.lim≤a)
  (ih:∀p∈x.parts,∀(T:St) (cx:Ctx),T[l]?=some (oK a c .ready)→T[a]?=some (.cells [v])→cx.lim≤l→cx.lim≤a→
   ai P0 (.fn (.func jE) [] []) [bn p,.yl l] T cx=if ji p=0 then .ret (.b true) T else .ret (.b false) ((T.set a (.cells [.i .i64 (ji p)])).set l (oK a c .ret))):
  ∀(rest:List C) (i:Nat),x.parts.drop i=rest→
  ∃j:Int,eX (au P0.glob (ai P0) cx false ig) [1,12,13,14] [(1,.v (.yl l)),(12,.v (slf x.z (x.parts.map bn))),(13,.v (.i .i64 x.parts.length)),(14,.v (.i .i64 i))] T=
   if rY rest=0 then .exit 0 [(1,.v (.yl l)),(12,.v (slf x.z (x.parts.map bn))),(13,.v (.i .i64 x.parts.length)),(14,.v (.i .i64 j)),(15,.v (.b false))] T
   else .ret [(4,.v (.b false))] ((T.set a (.cells [.i .i64 (rY rest)])).set l (oK a c .ret))
 | [],i,h=>by
  have h1:¬i<x.parts.length:=Nat.not_lt.2 (drop_nil h)
  refine ⟨i,aj fun K hK=>?_⟩
  simp [ig,h1,rY]
 | p::r,i,h=>by
  obtain ⟨h1,h2,h3,h4⟩:=drop_cons h
  have h5:=h4 h3
  have hp:p∈x.parts:=by rw [←h5];exact List.getElem_mem h3
  have hwi:=wI (i:=i) (by have:=hw.ps;omega)
  have e1:=ih p hp T cx hl ha hcl hca
  by_cases h0:ji p=0
  ·obtain ⟨j,ih2⟩:=GN c x hw a l v cx T hl ha hcl hca ih r (i+1) h2
   refine ⟨j,aj fun K hK=>?_⟩
   rw [←hK] at ih2
   clear hK h4 ih
   simp at ih2
   simp [ig,h3,h5,hwi,e1,ih2,rY,h0]
  ·refine ⟨i,aj fun K hK=>?_⟩
   clear hK h4 ih
   simp [ig,h3,h5,hwi,e1,rY,h0]
theorem Ru (c:C) (a l:Nat) (v:AV):∀(x:C),C.Lng x→∀(T:St) (cx:Ctx),T[l]?=some (oK a c .ready)→T[a]?=some (.cells [v])→cx.lim≤l→cx.lim≤a→
   ai P0 (.fn (.func jE) [] []) [bn x,.yl l] T cx=if ji x=0 then .ret (.b true) T else .ret (.b false) ((T.set a (.cells [.i .i64 (ji x)])).set l (oK a c .ret)):=by
 refine C.ind' fun x ih hw T cx hl ha hcl hca=>?_
 have hl1:l<T.length:=(List.getElem?_eq_some_iff.1 hl).1
 have ha1:a<T.length:=(List.getElem?_eq_some_iff.1 ha).1
 have hy:=N7 c x hw.n a l v T ⟨cx.lim,T.length⟩ hl ha hcl hca (Nat.le_refl _) (by simp;omega)
 refine ES (by split<;>simp) ?_
 simp at hy
 by_cases h0:oI x=0
 ·obtain ⟨j,h⟩:=GN c x hw a l v ⟨cx.lim,T.length⟩ (T++[.cells (bn x).cells]) (by rw [List.getElem?_append_left hl1];exact hl) (by rw [List.getElem?_append_left ha1];exact ha) hcl hca
   (fun p hp T cx=>ih p hp (hw.sub p hp) T cx) x.parts 0 rfl
  simp at h
  by_cases hz:rY x.parts=0
  ·simp [af,kW,hy,h0,h,hz,TQ x,frz,AV.under]
  ·simp [af,kW,hy,h0,h,hz,TQ x,frz,AV.under,ha1,hl1,List.set_append_left]
 ·simp [af,kW,hy,h0,TQ x,frz,AV.under,List.take_append_of_le_length]
theorem Yf (s r:St) (k:Nat):(s++r)[s.length+k]?=r[k]?:=by rw [List.getElem?_append_right (by omega)];congr 1;omega
theorem XZ (s r:St) (k:Nat) (v:gG):(s++r).set (s.length+k) v=s++r.set k v:=by rw [List.set_append_right _ _ (by omega)];congr 2;omega
@[simp] theorem acz (c:C) (s:St) (cx:Ctx):ai P0 (.fn (.func rV) [] []) [bn c] s cx=.ret (.fn (.func gI) [] [.ip (bn c).cells]) s:=by
 refine QZ (by simp) ?_
 simp [af,xI,frz,Ap]
theorem wR (c:C) (hw:C.Lng c) (s:St) (cx:Ctx):ai P0 (.fn (.func iP) [] []) [bn c] s cx=.ret (.i .i64 (lI c)) s:=by
 refine Ef (by simp) ?_
 have e1:=UK (s.length+1) c hw 0 0 (s++[.cells [.i .i64 0],.cells [.i .i64 0]]) ⟨s.length,s.length⟩ (by omega) (by omega) (by simp) (by simp)
 have hf:=acj c 0 0 (by omega)
 simp at e1
 by_cases hfit:(wM c 0 0).1=true
 ·have hcond:¬(8<jq c∨64<jG c):=by have:=hf.1.1 hfit;omega
  let T:St:=s++[.cells [.i .i64 0],.cells [.i .i64 (wM c 0 0).2],.dfr,oK s.length c .ready]
  have hv:=Ru c s.length (s.length+3) (.i .i64 0) c hw T ⟨s.length,T.length⟩ (by simp [T]) (by simp [T]) (by simp) (by simp)
  have hw1:ai P0 (.fn (.func gI) [] [.ip (bn c).cells]) [.yl (s.length+3)] T ⟨s.length,s.length⟩=
    if ji c=0 then .ret (.tu []) T else .ret (.tu []) ((T.set s.length (.cells [.i .i64 (ji c)])).set (s.length+3) (oK s.length c .ret)):=by
   refine DY (by split<;>simp) ?_
   by_cases h0:ji c=0<;>simp [h0] at hv<;>simp [af,pq,hv,h0]
  simp [T] at hw1
  by_cases h0:ji c=0
  ·simp [h0,oK,Qi] at hw1
   simp [af,iF,e1,hfit,Ep,hw1,lI,hcond,h0,CX,show s.length+2+1=s.length+3 from rfl,Yf,XZ]
  ·simp [h0,oK,Qi] at hw1
   simp [af,iF,e1,hfit,Ep,hw1,lI,hcond,h0,CX,show s.length+2+1=s.length+3 from rfl,Yf,XZ]
 ·have hcond:(8<jq c∨64<jG c):=by
   rcases Nat.lt_or_ge 8 (jq c) with h|h
   ·exact .inl h
   ·rcases Nat.lt_or_ge 64 (jG c) with h' | h'
    ·exact .inr h'
    ·exact absurd (hf.1.2 ⟨by omega,by omega⟩) hfit
  simp [af,iF,e1,hfit,lI,hcond]
end Go.Ai.Z
