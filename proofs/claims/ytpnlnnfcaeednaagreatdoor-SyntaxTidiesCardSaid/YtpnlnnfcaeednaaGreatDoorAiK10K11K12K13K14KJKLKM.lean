/-
 Axioms: the checks, whole.
-/
import Derived.Test.YtpnlnnfcaeednaaGreatDoorAiK8K9
import Derived.Test.YtpnlnnfcaeednaaGreatDoorAiK5K6K7InjInj2Inj3Inj4KI
set_option maxRecDepth 100000
set_option linter.unusedSimpArgs false
set_option linter.unusedVariables false
set_option linter.unusedSectionVars false
namespace Go.Ai.Z
def Nh (k cl cr:Int) (bl br:Bool):Int:=
 if (iG k).l=true∧cl≠0 then cl else if (iG k).r=true∧cr≠0 then cr
 else if (k=2∧(bl=true∨br=true))∨((k=1∨k=4∨k=8)∧br=true) then 22 else 0
def jZ (x:Ax):Int:=
 if tY x=false then 22 else if FQ x (iG x.kind)=false then 20 else Nh x.kind (jl x.left) (jl x.right) (ng x.left) (ng x.right)
structure Ax.Few (x:Ax):Prop where
 l:wC x.left≤150
 r:wC x.right≤150
 roles:x.roles.length≤600
 rs:∀r∈x.roles,r.length≤600
 role:x.role.length≤600
 a:x.a.length≤600
 b:x.b.length≤600
structure Ax.Mid (x:Ax):Prop where
 l:wC x.left≤100000
 r:wC x.right≤100000
 roles:x.roles.length≤600
 a:x.a.length≤600
 b:x.b.length≤600
theorem Ax.Few.mid {x:Ax} (h:x.Few):x.Mid:=⟨by have:=h.l;omega,by have:=h.r;omega,h.roles,h.a,h.b⟩
theorem pk {x j:Int} (i:Int) (k:x=j):(x=i)=(j=i):=by rw [k]
theorem dk {x j:Int} (i:Int) (k:x=j):decide (x=i)=decide (j=i):=by subst k;rfl
set_option maxHeartbeats 2000000 in
theorem zn (x:Ax) (hx:x.Mid) (s:St) (cx:Ctx):ah P0 (.fn (.func mF) [] []) [iq x] s cx=.ret (.i .i64 (jZ x)) s:=by
 refine Ib (by simp) ?_
 unfold jZ
 rcases Bool.eq_false_or_eq_true (tY x) with hs|hs
 ·have hk:1≤x.kind∧x.kind≤9:=by simp [tY,BI] at hs;omega
  have b1:0≤x.kind:=by omega
  have b2:x.kind.toNat<10:=by omega
  have b3:7≤70 - x.kind.toNat * 7:=by omega
  have hu:=UG (k:=x.kind) (by omega) (by omega)
  have e1:=OU x (iG x.kind) (by have:=hx.roles;omega) (by have:=hx.a;omega) (by have:=hx.b;omega)
  have e2:=y5 x.left (by have:=hx.l;omega)
  have e3:=y5 x.right (by have:=hx.r;omega)
  have e4:=Gn x.left (by have:=hx.l;omega)
  have e5:=Gn x.right (by have:=hx.r;omega)
  have hk9:x.kind=1∨x.kind=2∨x.kind=3∨x.kind=4∨x.kind=5∨x.kind=6∨x.kind=7∨x.kind=8∨x.kind=9:=by omega
  rw [hs,if_neg (by simp)]
  rcases Bool.eq_false_or_eq_true (FQ x (iG x.kind)) with hn|hn
  ·rw [hn] at e1
   rw [hn,if_neg (by simp)]
   clear hn
   generalize hL:jl x.left=cl at e2 ⊢
   generalize hR:jl x.right=cr at e3 ⊢
   generalize ng x.left=bl at e4 ⊢
   generalize ng x.right=br at e5 ⊢
   clear hL hR hx hk
   rcases hk9 with k|k|k|k|k|k|k|k|k
   all_goals
    have d1:=dk 1 k
    have d2:=dk 2 k
    have d4:=dk 4 k
    have d8:=dk 8 k
    have kt:=congrArg (fun i=>Nh i cl cr bl br) k
    rw [kt]
    have ku:=congrArg iG k
    rw [ku] at hu e1
    clear ku k kt
    simp [iG] at hu
    simp [iG,YZ] at e1
    simp [Nh,iG]
    simp [af,lH,hs,b1,b2,b3,pY,sQ,hu,e1,e2,e3,e4,e5,d1,d2,d4,d8]
    repeat' (first | (split<;>(try simp only [kD,kE,jW,pO,pR])<;>(try simp [*])) | (simp only [kD,kE,jW,pO,pR]<;>(try simp [*]))|omega)
  ·rw [hn] at e1
   rw [hn,if_pos rfl]
   generalize iG x.kind=u at hu e1
   simp [af,lH,hs,b1,b2,b3,pY,sQ,hu,e1]
 ·rw [hs,if_pos rfl]
  simp [af,lH,hs]
theorem Ju (x:Ax) (hx:x.Few) (s:St) (cx:Ctx):ah P0 (.fn (.func mF) [] []) [iq x] s cx=.ret (.i .i64 (jZ x)) s:=zn x hx.mid s cx
end Go.Ai.Z
namespace Go.Ai.Z
attribute [local simp] List.length_pos_iff
end Go.Ai.Z
namespace Go.Ai.Z
structure Ax.Ok (x:Ax):Prop where
 l:x.left.Ok
 r:x.right.Ok
 roles:x.roles.length≤1125899906842624
 rs:∀r∈x.roles,r.length≤1125899906842624
 role:x.role.length≤1125899906842624
 a:x.a.length≤1125899906842624
 b:x.b.length≤1125899906842624
end Go.Ai.Z
namespace Go.Ai.Z
structure Ax.Good (x:Ax):Prop where
 k:x.kind=1∨x.kind=2∨x.kind=3∨x.kind=4∨x.kind=5∨x.kind=6∨x.kind=7∨x.kind=8∨x.kind=9
 l:x.kind=1∨x.kind=2∨x.kind=3→iJ x.left=0
 r:x.kind=1∨x.kind=2∨x.kind=3∨x.kind=4∨x.kind=8→iJ x.right=0
 r5:x.kind=5→x.roles.length=1
 r6:x.kind=6→2≤x.roles.length∧x.roles.length≤4
theorem Zr {c:C} (h:jl c=0):iJ c=0:=by
 unfold jl at h;split at h
 ·cases h
 ·exact h
theorem good {x:Ax} (h:jZ x=0):x.Good:=by
 unfold jZ at h
 split at h
 ·cases h
 split at h
 ·cases h
 rename_i hs hn
 have hs:tY x=true:=by simpa using hs
 unfold Nh at h
 split at h
 ·rename_i q;exact absurd h q.2
 split at h
 ·rename_i q;exact absurd h q.2
 rename_i ql qr
 have hk:1≤x.kind∧x.kind≤9:=by simp [tY,BI] at hs;omega
 have hr:(iG x.kind).lo≤x.roles.length∧(x.roles.length:Int)≤(iG x.kind).hi:=by
  simp only [tY,Bool.and_eq_true,decide_eq_true_eq] at hs;exact ⟨hs.1.2,hs.2⟩
 have hk9:x.kind=1∨x.kind=2∨x.kind=3∨x.kind=4∨x.kind=5∨x.kind=6∨x.kind=7∨x.kind=8∨x.kind=9:=by omega
 refine ⟨hk9,fun q=>?_,fun q=>?_,fun q=>?_,fun q=>?_⟩
 ·have hu:(iG x.kind).l=true:=by rcases q with q|q|q<;>rw [q]<;>rfl
  exact Zr (Classical.not_not.1 fun e=>ql ⟨hu,e⟩)
 ·have hu:(iG x.kind).r=true:=by rcases q with q|q|q|q|q<;>rw [q]<;>rfl
  exact Zr (Classical.not_not.1 fun e=>qr ⟨hu,e⟩)
 ·rw [q] at hr;simp [iG] at hr;omega
 ·rw [q] at hr;simp [iG] at hr;omega
end Go.Ai.Z
namespace Go.Ai.Z
theorem ZT {x:Ax} {b:Bool} (h:x.op=b):AV.ag [.i .i64 x.kind,.b b,.i .i64 x.left.kind,.s x.left.name,.i .i64 x.left.lo,.i .i64 x.left.hi,slf x.left.z (x.left.parts.map bF),
 .i .i64 x.right.kind,.s x.right.name,.i .i64 x.right.lo,.i .i64 x.right.hi,slf x.right.z (x.right.parts.map bF),slf x.z (x.roles.map .s),.s x.role,.s x.a,.s x.b]=iq x:=by subst h;rfl
end Go.Ai.Z
namespace Go.Ai.Z
open Go.Lib (compareBytes)
theorem ab8 {T:St} {l a:Nat} {X Y Z:dW} (hl:T[l]?=some Z) (hal:l≠a):((T.set l X).set a Y).set l Z=T.set a Y:=by
 rw [List.set_comm _ _ (Ne.symm hal),List.set_set]
 have h:=Fz hl
 rw [h]
def Wq (a:Nat) (c:C):Env:=[(2,.v (.pt a 0)),(4,.v (.fn (.func jY) [] [.ip (bF c).cells]))]
def yx (a:Nat) (c:C) (p:MV):dW:=.loop (Wq a c) [5] uX uV p
theorem afn (c x:C) (a l n:Nat) (T:St) (cx:Ctx) (hl:T[l]?=some (yx a c .ready)) (ha:T[a]?=some (.cells [.i .i64 (n:Int)])) (hcl:cx.lim≤l) (hca:cx.lim≤a) (hn:n≤1000000):
  ah P0 (.yl l) [bF x] T cx=.ret (.b true) (T.set a (.cells [.i .i64 ((n+1:Nat):Int)])):=by
 have hl1:l<T.length:=(List.getElem?_eq_some_iff.1 hl).1
 have ha1:a<T.length:=(List.getElem?_eq_some_iff.1 ha).1
 have hal:¬l=a:=by intro e;subst e;rw [hl] at ha;simp [yx] at ha
 have hl2:T[l]=yx a c .ready:=(List.getElem?_eq_some_iff.1 hl).2
 have ha2:T[a]=.cells [.i .i64 (n:Int)]:=(List.getElem?_eq_some_iff.1 ha).2
 have w1:IntKind.i64.wrap ((n:Int)+1)=(n:Int)+1:=w64 (by omega) (by omega)
 refine MR (by simp) ?_
 unfold IJ
 rw [hl]
 simp only [yx,Wq,Em,put,lk]
 have hset:=Fz hl
 simp only [yx,Wq] at hset hl2
 simp [uX,hcl,hl1,hl2,uV,ha2,ha1,hca,w1,sG,hal,Ne.symm hal]
 exact ab8 (by simpa [uX,uV,yx,Wq] using hl) hal
theorem J9 (c x:C) (hw:wC x≤1000) (a l:Nat) (cx:Ctx) (hcl:cx.lim≤l) (hca:cx.lim≤a)
  (ih:∀p∈x.parts,∀(n:Nat) (T:St) (cx:Ctx),n+dH p≤1000000→T[l]?=some (yx a c .ready)→T[a]?=some (.cells [.i .i64 (n:Int)])→cx.lim≤l→cx.lim≤a→
   ah P0 (.fn (.func mW) [] []) [bF p,.yl l] T cx=.ret (.b true) (T.set a (.cells [.i .i64 ((n+dH p:Nat):Int)]))):
  ∀(rest:List C) (i n:Nat) (T:St),n+dY rest≤1000000→T[l]?=some (yx a c .ready)→T[a]?=some (.cells [.i .i64 (n:Int)])→x.parts.drop i=rest→
  ∃j:Int,fC (aB P0.glob (ah P0) cx false jM) [1,12,13,14] [(1,.v (.yl l)),(12,.v (slf x.z (x.parts.map bF))),(13,.v (.i .i64 x.parts.length)),(14,.v (.i .i64 i))] T=
   .exit 0 [(1,.v (.yl l)),(12,.v (slf x.z (x.parts.map bF))),(13,.v (.i .i64 x.parts.length)),(14,.v (.i .i64 j)),(15,.v (.b false))] (T.set a (.cells [.i .i64 ((n+dY rest:Nat):Int)]))
 | [],i,n,T,hn,hl,ha,h=>by
  have h1:¬i<x.parts.length:=Nat.not_lt.2 (drop_nil h)
  refine ⟨i,ak fun K hK=>?_⟩
  simp [jM,h1,dY,Fz ha]
 | p::r,i,n,T,hn,hl,ha,h=>by
  obtain ⟨h1,h2,h3,h4⟩:=drop_cons h
  have h5:=h4 h3
  have hp:p∈x.parts:=by rw [←h5];exact List.getElem_mem h3
  have hlen:=y8 x.parts
  have hwi:=wI (i:=i) (by rw [rV] at hw;omega)
  simp only [dY] at hn
  have ha1:a<T.length:=(List.getElem?_eq_some_iff.1 ha).1
  have hal:l≠a:=by intro e;subst e;rw [hl] at ha;simp [yx] at ha
  have e1:=ih p hp n T cx (by omega) hl ha hcl hca
  obtain ⟨j,ih2⟩:=J9 c x hw a l cx hcl hca ih r (i+1) (n+dH p) (T.set a (.cells [.i .i64 ((n+dH p:Nat):Int)])) (by omega) (by rw [List.getElem?_set_ne (Ne.symm hal)];exact hl) (by simp [ha1]) h2
  refine ⟨j,ak fun K hK=>?_⟩
  rw [←hK] at ih2
  clear hK h4 ih
  simp at ih2 e1
  have hadd:((n:Int)+(dH p:Int)+(dY r:Int))=(n:Int)+((dH p:Int)+(dY r:Int)):=by omega
  simp [jM,h3,h5,hwi,e1,ih2,dY,hadd]
theorem VD (c:C) (a l:Nat):∀(x:C),wC x≤1000→∀(n:Nat) (T:St) (cx:Ctx),n+dH x≤1000000→T[l]?=some (yx a c .ready)→T[a]?=some (.cells [.i .i64 (n:Int)])→cx.lim≤l→cx.lim≤a→
   ah P0 (.fn (.func mW) [] []) [bF x,.yl l] T cx=.ret (.b true) (T.set a (.cells [.i .i64 ((n+dH x:Nat):Int)])):=by
 refine C.ind' fun x ih hw n T cx hn hl ha hcl hca=>?_
 have hl1:l<T.length:=(List.getElem?_eq_some_iff.1 hl).1
 have ha1:a<T.length:=(List.getElem?_eq_some_iff.1 ha).1
 have hal:l≠a:=by intro e;subst e;rw [hl] at ha;simp [yx] at ha
 have hw':=hw
 rw [rV] at hw'
 have hs:=oN x
 have hy:=afn c x a l n T ⟨cx.lim,T.length⟩ hl ha hcl hca (by omega)
 obtain ⟨j,h⟩:=J9 c x hw a l ⟨cx.lim,T.length⟩ hcl hca (fun p hp n T cx=>ih p hp (by have:=xB hp;omega) n T cx) x.parts 0 (n+1) (T.set a (.cells [.i .i64 ((n+1:Nat):Int)])) (by omega)
  (by rw [List.getElem?_set_ne (Ne.symm hal)];exact hl) (by simp [ha1]) rfl
 refine F6 (by simp) ?_
 simp at hy h
 have hadd:((n:Int)+1+(dY x.parts:Int))=(n:Int)+(1+(dY x.parts:Int)):=by omega
 simp [af,oZ,hy,h,hs,hadd]
theorem VG (c:C) (hw:wC c≤1000) (s:St) (cx:Ctx):ah P0 (.fn (.func xQ) [] []) [bF c] s cx=.ret (.i .i64 (dH c:Int)) s:=by
 refine SI (by simp) ?_
 have h1:=Fv c
 let T:St:=s++[.cells [.i .i64 0],.dfr,yx s.length c .ready]
 have hv:=VD c s.length (s.length+2) c hw 0 T ⟨s.length,T.length⟩ (by omega) (by simp [T]) (by simp [T]) (by simp) (by simp)
 have hw1:ah P0 (.fn (.func jY) [] [.ip (bF c).cells]) [.yl (s.length+2)] T ⟨s.length,s.length⟩=.ret (.tu []) (T.set s.length (.cells [.i .i64 (dH c:Int)])):=by
  refine Ew (by simp) ?_
  simp at hv
  simp [af,sU,hv]
 simp [T,yx,Wq] at hw1
 simp [af,yQ,I7,hw1,FM,show s.length+1+1=s.length+2 from rfl,Vr,UO]
end Go.Ai.Z
namespace Go.Ai.Z
open Go.Lib (compareBytes)
def Oo (c:C):Nat:=if c.kind=0 then 0 else dH c
def A8:List C→Nat
 | []=>0
 | c::r=>Oo c+A8 r
def Xa:List (List UInt8)→Nat
 | []=>0
 | a::r=>(if a=[] then 0 else 1)+Xa r
theorem TW (cs:List AV) (ps:List C) (hps:ps.length≤2) (hw:∀p∈ps,wC p≤1000) (s:St) (cx:Ctx):∀(rest:List C) (i n:Nat),ps.drop i=rest→n+1000 * rest.length≤5000→
  ∃j:Int,fC (aB P0.glob (ah P0) cx false oW) [1,2,11,12,13] [(1,.bx cs),(2,.v (.i .i64 (n:Int))),(11,.v (.sl (ps.map bF))),(12,.v (.i .i64 ps.length)),(13,.v (.i .i64 i))] s=
   .exit 0 [(1,.bx cs),(2,.v (.i .i64 ((n+A8 rest:Nat):Int))),(11,.v (.sl (ps.map bF))),(12,.v (.i .i64 ps.length)),(13,.v (.i .i64 j)),(14,.v (.b false))] s
 | [],i,n,h,hn=>by
  have h1:¬i<ps.length:=Nat.not_lt.2 (drop_nil h)
  refine ⟨i,ak fun K hK=>?_⟩
  simp [oW,h1,A8]
 | p::r,i,n,h,hn=>by
  obtain ⟨h1,h2,h3,h4⟩:=drop_cons h
  have h5:=h4 h3
  have hp:p∈ps:=by rw [←h5];exact List.getElem_mem h3
  have hwi:=wI (i:=i) (by omega)
  have e1:=VG p (hw p hp)
  have hsz:=Fv p
  have hwp:=hw p hp
  simp only [List.length_cons] at hn
  have hle:Oo p≤1000:=by unfold Oo;split<;>omega
  obtain ⟨j,ih⟩:=TW cs ps hps hw s cx r (i+1) (n+Oo p) h2 (by omega)
  refine ⟨j,ak fun K hK=>?_⟩
  rw [←hK] at ih
  clear hK h4
  have w1:IntKind.i64.wrap ((n:Int)+(dH p:Int))=(n:Int)+(dH p:Int):=w64 (by omega) (by omega)
  by_cases hk:p.kind=0
  ·simp [Oo,hk] at ih
   simp [oW,h3,h5,hwi,e1,ih,A8,Oo,hk]
  ·have hadd:((n:Int)+(dH p:Int)+(A8 r:Int))=(n:Int)+((dH p:Int)+(A8 r:Int)):=by omega
   simp [Oo,hk] at ih
   simp [oW,h3,h5,hwi,e1,w1,ih,A8,Oo,hk,hadd]
theorem TV (ps:List (List UInt8)) (hps:ps.length≤3) (s:St) (cx:Ctx):∀(rest:List (List UInt8)) (i n:Nat),ps.drop i=rest→n+rest.length≤5000→
  ∃j:Int,fC (aB P0.glob (ah P0) cx false oV) [2,36,37,38] [(2,.v (.i .i64 (n:Int))),(36,.v (.sl (ps.map .s))),(37,.v (.i .i64 ps.length)),(38,.v (.i .i64 i))] s=
   .exit 2 [(2,.v (.i .i64 ((n+Xa rest:Nat):Int))),(36,.v (.sl (ps.map .s))),(37,.v (.i .i64 ps.length)),(38,.v (.i .i64 j)),(39,.v (.b false))] s
 | [],i,n,h,hn=>by
  have h1:¬i<ps.length:=Nat.not_lt.2 (drop_nil h)
  refine ⟨i,ak fun K hK=>?_⟩
  simp [oV,h1,Xa]
 | p::r,i,n,h,hn=>by
  obtain ⟨h1,h2,h3,h4⟩:=drop_cons h
  have h5:=h4 h3
  have hwi:=wI (i:=i) (by omega)
  simp only [List.length_cons] at hn
  obtain ⟨j,ih⟩:=TV ps hps s cx r (i+1) (n+if p=[] then 0 else 1) h2 (by split<;>omega)
  refine ⟨j,ak fun K hK=>?_⟩
  rw [←hK] at ih
  clear hK h4
  have w1:IntKind.i64.wrap ((n:Int)+1)=(n:Int)+1:=w64 (by omega) (by omega)
  by_cases hk:p=[]
  ·subst hk
   simp at ih
   simp [oV,h3,h5,hwi,ih,Xa]
  ·have hadd:((n:Int)+1+(Xa r:Int))=(n:Int)+(1+(Xa r:Int)):=by omega
   simp [hk] at ih
   simp [oV,h3,h5,hwi,w1,ih,Xa,hk,hadd,jW]
def xA (x:Ax):Nat:=A8 [x.left,x.right]+x.roles.length+Xa [x.role,x.a,x.b]
theorem Gl (x:Ax) (hl:wC x.left≤1000) (hr:wC x.right≤1000) (hn:x.roles.length≤1000) (s:St) (cx:Ctx):ah P0 (.fn (.func rG) [] []) [iq x] s cx=.ret (.i .i64 (xA x:Int)) s:=by
 refine OI (by simp) ?_
 have hs1:A8 [x.left,x.right]≤2000:=by
  have h1:=Fv x.left;have h2:=Fv x.right
  simp only [A8,Oo];split<;>split<;>omega
 obtain ⟨j,e1⟩:=TW (iq x).cells [x.left,x.right] (by simp) (by simp;exact ⟨hl,hr⟩) s ⟨s.length,s.length⟩ [x.left,x.right] 0 0 rfl (by simp)
 obtain ⟨j',e2⟩:=TV [x.role,x.a,x.b] (by simp) s ⟨s.length,s.length⟩ [x.role,x.a,x.b] 0 (A8 [x.left,x.right]+x.roles.length) rfl (by simp;omega)
 have w1:IntKind.i64.wrap ((A8 [x.left,x.right]:Int)+(x.roles.length:Int))=(A8 [x.left,x.right]:Int)+(x.roles.length:Int):=w64 (by omega) (by omega)
 simp at e1 e2
 simp [af,wu,e1,e2,w1,xA,List.range_succ]
end Go.Ai.Z
namespace Go.Ai.Z
open Go.Lib (compareBytes)
@[simp] theorem Zg (a:List UInt8) (s:St) (cx:Ctx):ah P0 (.fn (.func mG) [] []) [.s a] s cx=.ret (.b false) s:=by
 refine Ig (by simp) ?_
 simp [af,qO]
theorem Xh (a:List UInt8):Op.bytesLess a a=false:=by
 induction a with
 | nil=>rfl
 | cons x r ih=>simp [Op.bytesLess,ih]
def XL (a b:List UInt8):Int:=if Op.bytesLess a b=true then -1 else if a=b then 0 else 1
@[simp] theorem XT (a b:List UInt8) (s:St) (cx:Ctx):ah P0 (.fn (.func nG) [] []) [.s a,.s b] s cx=.ret (.i .i64 (XL a b)) s:=by
 refine E8 (by simp) ?_
 unfold XL
 by_cases h1:Op.bytesLess a b=true
 ·simp [af,jS,h1]
 ·by_cases h2:a=b
  ·subst h2;simp [af,jS,Xh]
  ·simp [af,jS,h1,h2]
theorem Us {a b:List UInt8}:XL a b=0 ↔ a=b:=by
 unfold XL
 by_cases h:a=b
 ·subst h;simp [Xh]
 ·by_cases h1:Op.bytesLess a b=true<;>simp [h,h1]
def uK:List (List UInt8)→List (List UInt8)→Option Int
 | [],_=>none
 | _::_,[]=>some 1
 | a::r,b::q=>if XL a b=0 then uK r q else some (XL a b)
def KO (x y:List (List UInt8)):Int:=(uK x y).getD (if x.length<y.length then -1 else 0)
theorem Ru:∀{x y:List (List UInt8)},KO x y=0 ↔ x=y
 | [],[]=>by simp [KO,uK]
 | [],_::_=>by simp [KO,uK]
 | _::_,[]=>by simp [KO,uK]
 | a::r,b::q=>by
  have ih:=Ru (x:=r) (y:=q)
  unfold KO at ih ⊢
  by_cases h:XL a b=0
  ·have he:=Us.1 h
   subst he
   rw [uK,if_pos h]
   simp only [List.length_cons,Nat.add_lt_add_iff_right,List.cons.injEq,true_and]
   exact ih
  ·have hne:¬a=b:=fun e=>h (Us.2 e)
   simp [uK,h,hne]
theorem Ua (zx zy:Bool) (x y:List (List UInt8)) (hx:x.length≤100000) (hy:y.length≤100000) (s:St) (cx:Ctx):∀(rest:List (List UInt8)) (i:Nat),x.drop i=rest→
  ∃j:Int,fC (aB P0.glob (ah P0) cx false dR) [0,1,9,10,11]
   [(0,.v (slf zx (x.map .s))),(1,.v (slf zy (y.map .s))),(9,.v (slf zx (x.map .s))),(10,.v (.i .i64 x.length)),(11,.v (.i .i64 i))] s=
   match uK rest (y.drop i) with
   | none=>.exit 0 [(0,.v (slf zx (x.map .s))),(1,.v (slf zy (y.map .s))),(9,.v (slf zx (x.map .s))),(10,.v (.i .i64 x.length)),(11,.v (.i .i64 j)),(12,.v (.b false))] s
   | some v=>.ret [(4,.v (.i .i64 v))] s
 | [],i,h=>by
  have h1:¬i<x.length:=Nat.not_lt.2 (drop_nil h)
  refine ⟨i,ak fun K hK=>?_⟩
  simp [dR,h1,uK]
 | p::r,i,h=>by
  obtain ⟨h1,h2,h3,h4⟩:=drop_cons h
  have h5:=h4 h3
  have hwi:=wI (i:=i) (by omega)
  cases hq:y.drop i with
  | nil=>
   have h6:y.length≤i:=drop_nil hq
   refine ⟨0,ak fun K hK=>?_⟩
   clear hK h4
   simp [dR,h3,h5,h6,uK]
  | cons q t=>
   obtain ⟨g1,g2,g3,g4⟩:=drop_cons hq
   have g5:=g4 g3
   have g6:¬y.length≤i:=by omega
   obtain ⟨j,ih2⟩:=Ua zx zy x y hx hy s cx r (i+1) h2
   refine ⟨j,ak fun K hK=>?_⟩
   rw [←hK] at ih2
   clear hK h4 g4
   rw [g2] at ih2
   simp at ih2
   by_cases hz:XL p q=0
   ·simp [dR,h3,h5,hwi,g3,g5,g6,ih2,uK,hz]
   ·simp [dR,h3,h5,hwi,g3,g5,g6,uK,hz]
theorem MN (zx zy:Bool) (x y:List (List UInt8)) (hx:x.length≤100000) (hy:y.length≤100000) (s:St) (cx:Ctx):
  ah P0 (.fn (.func iF) [] []) [slf zx (x.map .s),slf zy (y.map .s)] s cx=.ret (.i .i64 (KO x y)) s:=by
 refine yg (by simp) ?_
 obtain ⟨j,h⟩:=Ua zx zy x y hx hy s ⟨s.length,s.length⟩ x 0 rfl
 unfold KO
 simp at h
 cases hc:uK x y with
 | none=>
  simp [hc] at h
  by_cases hl:x.length<y.length
  ·simp [af,fD,h,hl]
  ·simp [af,fD,h,hl]
 | some v=>
  simp [hc] at h
  simp [af,fD,h]
def headA (x y:Ax):Int:=orI [wO (xA x:Int) (xA y:Int),wO x.kind y.kind]
def tailA (x y:Ax):Int:=orI [KO x.roles y.roles,compareBytes x.role y.role,compareBytes x.a y.a,compareBytes x.b y.b]
def adA (x y:Ax):Int:=
 if headA x y=0 then (if jB x.left y.left=0 then (if jB x.right y.right=0 then tailA x y else jB x.right y.right) else jB x.left y.left) else headA x y
theorem Gp (x y:Ax) (hl:wC x.left≤1000) (hr:wC x.right≤1000) (hn:x.roles.length≤1000) (hl':wC y.left≤1000) (hr':wC y.right≤1000) (hn':y.roles.length≤1000) (s:St) (cx:Ctx):
  ah P0 (.fn (.func nC) [] []) [iq x,iq y] s cx=.ret (.i .i64 (adA x y)) s:=by
 refine ET (by simp) ?_
 have e1:=Gl x hl hr hn
 have e2:=Gl y hl' hr' hn'
 have e3:=zh x.left y.left hl hl'
 have e4:=zh x.right y.right hr hr'
 have e5:=MN x.z y.z x.roles y.roles (by omega) (by omega)
 have e6:=Eg [wO (xA x:Int) (xA y:Int),wO x.kind y.kind] (by simp)
 have e7:=Eg [KO x.roles y.roles,compareBytes x.role y.role,compareBytes x.a y.a,compareBytes x.b y.b] (by simp)
 change ∀(s:St) (cx:Ctx),_=CO.ret (.i .i64 (headA x y)) s at e6
 change ∀(s:St) (cx:Ctx),_=CO.ret (.i .i64 (tailA x y)) s at e7
 simp at e6 e7
 unfold adA
 by_cases h1:headA x y=0
 ·by_cases h2:jB x.left y.left=0
  ·by_cases h3:jB x.right y.right=0
   ·simp [af,iZ,e1,e2,e3,e4,e5,e6,e7,h1,h2,h3,List.range_succ]
   ·simp [af,iZ,e1,e2,e3,e4,e6,h1,h2,h3,List.range_succ]
  ·simp [af,iZ,e1,e2,e3,e6,h1,h2,List.range_succ]
 ·simp [af,iZ,e1,e2,e6,h1,List.range_succ]
theorem abk {x y:Ax}:adA x y=0 ↔ xA x=xA y∧x.kind=y.kind∧nz x.left=nz y.left∧nz x.right=nz y.right∧x.roles=y.roles∧x.role=y.role∧x.a=y.a∧x.b=y.b:=by
 have h1:headA x y=0 ↔ xA x=xA y∧x.kind=y.kind:=by unfold headA;rw [JO];simp [Ut];intros;omega
 have h2:tailA x y=0 ↔ x.roles=y.roles∧x.role=y.role∧x.a=y.a∧x.b=y.b:=by unfold tailA;rw [JO];simp [Ru,uf]
 have h3:=zW x.left y.left
 have h4:=zW x.right y.right
 unfold adA
 by_cases a1:headA x y=0
 ·by_cases a2:jB x.left y.left=0
  ·by_cases a3:jB x.right y.right=0
   ·rw [if_pos a1,if_pos a2,if_pos a3,h2]
    constructor
    ·intro h;exact ⟨(h1.1 a1).1,(h1.1 a1).2,h3.1 a2,h4.1 a3,h⟩
    ·intro h;exact h.2.2.2.2
   ·rw [if_pos a1,if_pos a2,if_neg a3]
    exact ⟨fun h=>absurd h a3,fun h=>absurd (h4.2 h.2.2.2.1) a3⟩
  ·rw [if_pos a1,if_neg a2]
   exact ⟨fun h=>absurd h a2,fun h=>absurd (h3.2 h.2.2.1) a2⟩
 ·rw [if_neg a1]
  exact ⟨fun h=>absurd h a1,fun h=>absurd (h1.2 ⟨h.1,h.2.1⟩) a1⟩
end Go.Ai.Z
