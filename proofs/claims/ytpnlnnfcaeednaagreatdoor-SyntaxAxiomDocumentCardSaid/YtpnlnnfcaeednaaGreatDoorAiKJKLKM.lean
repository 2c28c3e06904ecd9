/-
 terms.Size, terms.weight, slices.Compare, terms.CompareAxiom.
-/
import Derived.Test.YtpnlnnfcaeednaaGreatDoorAiK5K6K7InjInj2Inj3Inj4KI
import Derived.Test.YtpnlnnfcaeednaaGreatDoorAiK10K11K12K13K14
set_option maxRecDepth 100000
set_option linter.unusedSimpArgs false
set_option linter.unusedVariables false
set_option linter.unusedSectionVars false
namespace Go.Ai.Z
open Go.Lib (compareBytes)
theorem abt {T:St} {l a:Nat} {X Y Z:dS} (hl:T[l]?=some Z) (hal:l≠a):((T.set l X).set a Y).set l Z=T.set a Y:=by
 rw [List.set_comm _ _ (Ne.symm hal),List.set_set]
 have h:=EY hl
 rw [h]
def V3 (a:Nat) (c:C):Env:=[(2,.v (.pt a 0)),(4,.v (.fn (.func jW) [] [.ip (bG c).cells]))]
def yt (a:Nat) (c:C) (p:MJ):dS:=.loop (V3 a c) [5] uU uQ p
theorem aeD (c x:C) (a l n:Nat) (T:St) (cx:Ctx) (hl:T[l]?=some (yt a c .ready)) (ha:T[a]?=some (.cells [.i .i64 (n:Int)])) (hcl:cx.lim≤l) (hca:cx.lim≤a) (hn:n≤1000000):
  ah P0 (.yl l) [bG x] T cx=.ret (.b true) (T.set a (.cells [.i .i64 ((n+1:Nat):Int)])):=by
 have hl1:l<T.length:=(List.getElem?_eq_some_iff.1 hl).1
 have ha1:a<T.length:=(List.getElem?_eq_some_iff.1 ha).1
 have hal:¬l=a:=by intro e;subst e;rw [hl] at ha;simp [yt] at ha
 have hl2:T[l]=yt a c .ready:=(List.getElem?_eq_some_iff.1 hl).2
 have ha2:T[a]=.cells [.i .i64 (n:Int)]:=(List.getElem?_eq_some_iff.1 ha).2
 have w1:IntKind.i64.wrap ((n:Int)+1)=(n:Int)+1:=w64 (by omega) (by omega)
 refine MH (by simp) ?_
 unfold Iy
 rw [hl]
 simp only [yt,V3,Ec,put,lk]
 have hset:=EY hl
 simp only [yt,V3] at hset hl2
 simp [uU,hcl,hl1,hl2,uQ,ha2,ha1,hca,w1,rU,hal,Ne.symm hal]
 exact abt (by simpa [uU,uQ,yt,V3] using hl) hal
theorem JS (c x:C) (hw:wC x≤1000) (a l:Nat) (cx:Ctx) (hcl:cx.lim≤l) (hca:cx.lim≤a)
  (ih:∀p∈x.parts,∀(n:Nat) (T:St) (cx:Ctx),n+dX p≤1000000→T[l]?=some (yt a c .ready)→T[a]?=some (.cells [.i .i64 (n:Int)])→cx.lim≤l→cx.lim≤a→
   ah P0 (.fn (.func mO) [] []) [bG p,.yl l] T cx=.ret (.b true) (T.set a (.cells [.i .i64 ((n+dX p:Nat):Int)]))):
  ∀(rest:List C) (i n:Nat) (T:St),n+jH rest≤1000000→T[l]?=some (yt a c .ready)→T[a]?=some (.cells [.i .i64 (n:Int)])→x.parts.drop i=rest→
  ∃j:Int,fH (aB P0.glob (ah P0) cx false jJ) [1,12,13,14] [(1,.v (.yl l)),(12,.v (slf x.z (x.parts.map bG))),(13,.v (.i .i64 x.parts.length)),(14,.v (.i .i64 i))] T=
   .exit 0 [(1,.v (.yl l)),(12,.v (slf x.z (x.parts.map bG))),(13,.v (.i .i64 x.parts.length)),(14,.v (.i .i64 j)),(15,.v (.b false))] (T.set a (.cells [.i .i64 ((n+jH rest:Nat):Int)]))
 | [],i,n,T,hn,hl,ha,h=>by
  have h1:¬i<x.parts.length:=Nat.not_lt.2 (drop_nil h)
  refine ⟨i,ak fun K hK=>?_⟩
  simp [jJ,h1,jH,EY ha]
 | p::r,i,n,T,hn,hl,ha,h=>by
  obtain ⟨h1,h2,h3,h4⟩:=drop_cons h
  have h5:=h4 h3
  have hp:p∈x.parts:=by rw [←h5];exact List.getElem_mem h3
  have hlen:=yX x.parts
  have hwi:=wI (i:=i) (by rw [sD] at hw;omega)
  simp only [jH] at hn
  have ha1:a<T.length:=(List.getElem?_eq_some_iff.1 ha).1
  have hal:l≠a:=by intro e;subst e;rw [hl] at ha;simp [yt] at ha
  have e1:=ih p hp n T cx (by omega) hl ha hcl hca
  obtain ⟨j,ih2⟩:=JS c x hw a l cx hcl hca ih r (i+1) (n+dX p) (T.set a (.cells [.i .i64 ((n+dX p:Nat):Int)])) (by omega) (by rw [List.getElem?_set_ne (Ne.symm hal)];exact hl) (by simp [ha1]) h2
  refine ⟨j,ak fun K hK=>?_⟩
  rw [←hK] at ih2
  clear hK h4 ih
  simp at ih2 e1
  have hadd:((n:Int)+(dX p:Int)+(jH r:Int))=(n:Int)+((dX p:Int)+(jH r:Int)):=by omega
  simp [jJ,h3,h5,hwi,e1,ih2,jH,hadd]
theorem Vl (c:C) (a l:Nat):∀(x:C),wC x≤1000→∀(n:Nat) (T:St) (cx:Ctx),n+dX x≤1000000→T[l]?=some (yt a c .ready)→T[a]?=some (.cells [.i .i64 (n:Int)])→cx.lim≤l→cx.lim≤a→
   ah P0 (.fn (.func mO) [] []) [bG x,.yl l] T cx=.ret (.b true) (T.set a (.cells [.i .i64 ((n+dX x:Nat):Int)])):=by
 refine C.ind' fun x ih hw n T cx hn hl ha hcl hca=>?_
 have hl1:l<T.length:=(List.getElem?_eq_some_iff.1 hl).1
 have ha1:a<T.length:=(List.getElem?_eq_some_iff.1 ha).1
 have hal:l≠a:=by intro e;subst e;rw [hl] at ha;simp [yt] at ha
 have hw':=hw
 rw [sD] at hw'
 have hs:=xA x
 have hy:=aeD c x a l n T ⟨cx.lim,T.length⟩ hl ha hcl hca (by omega)
 obtain ⟨j,h⟩:=JS c x hw a l ⟨cx.lim,T.length⟩ hcl hca (fun p hp n T cx=>ih p hp (by have:=xq hp;omega) n T cx) x.parts 0 (n+1) (T.set a (.cells [.i .i64 ((n+1:Nat):Int)])) (by omega)
  (by rw [List.getElem?_set_ne (Ne.symm hal)];exact hl) (by simp [ha1]) rfl
 refine FT (by simp) ?_
 simp at hy h
 have hadd:((n:Int)+1+(jH x.parts:Int))=(n:Int)+(1+(jH x.parts:Int)):=by omega
 simp [af,oU,hy,h,hs,hadd]
theorem Vp (c:C) (hw:wC c≤1000) (s:St) (cx:Ctx):ah P0 (.fn (.func xP) [] []) [bG c] s cx=.ret (.i .i64 (dX c:Int)) s:=by
 refine RU (by simp) ?_
 have h1:=EX c
 let T:St:=s++[.cells [.i .i64 0],.dfr,yt s.length c .ready]
 have hv:=Vl c s.length (s.length+2) c hw 0 T ⟨s.length,T.length⟩ (by omega) (by simp [T]) (by simp [T]) (by simp) (by simp)
 have hw1:ah P0 (.fn (.func jW) [] [.ip (bG c).cells]) [.yl (s.length+2)] T ⟨s.length,s.length⟩=.ret (.tu []) (T.set s.length (.cells [.i .i64 (dX c:Int)])):=by
  refine Eh (by simp) ?_
  simp at hv
  simp [af,sJ,hv]
 simp [T,yt,V3] at hw1
 simp [af,yK,IK,hw1,Fg,show s.length+1+1=s.length+2 from rfl,U7,Uw]
end Go.Ai.Z
namespace Go.Ai.Z
open Go.Lib (compareBytes)
def Um (c:C):Nat:=if c.kind=0 then 0 else dX c
def BN:List C→Nat
 | []=>0
 | c::r=>Um c+BN r
def WM:List (List UInt8)→Nat
 | []=>0
 | a::r=>(if a=[] then 0 else 1)+WM r
theorem Tv (cs:List AV) (ps:List C) (hps:ps.length≤2) (hw:∀p∈ps,wC p≤1000) (s:St) (cx:Ctx):∀(rest:List C) (i n:Nat),ps.drop i=rest→n+1000 * rest.length≤5000→
  ∃j:Int,fH (aB P0.glob (ah P0) cx false oQ) [1,2,11,12,13] [(1,.bx cs),(2,.v (.i .i64 (n:Int))),(11,.v (.sl (ps.map bG))),(12,.v (.i .i64 ps.length)),(13,.v (.i .i64 i))] s=
   .exit 0 [(1,.bx cs),(2,.v (.i .i64 ((n+BN rest:Nat):Int))),(11,.v (.sl (ps.map bG))),(12,.v (.i .i64 ps.length)),(13,.v (.i .i64 j)),(14,.v (.b false))] s
 | [],i,n,h,hn=>by
  have h1:¬i<ps.length:=Nat.not_lt.2 (drop_nil h)
  refine ⟨i,ak fun K hK=>?_⟩
  simp [oQ,h1,BN]
 | p::r,i,n,h,hn=>by
  obtain ⟨h1,h2,h3,h4⟩:=drop_cons h
  have h5:=h4 h3
  have hp:p∈ps:=by rw [←h5];exact List.getElem_mem h3
  have hwi:=wI (i:=i) (by omega)
  have e1:=Vp p (hw p hp)
  have hsz:=EX p
  have hwp:=hw p hp
  simp only [List.length_cons] at hn
  have hle:Um p≤1000:=by unfold Um;split<;>omega
  obtain ⟨j,ih⟩:=Tv cs ps hps hw s cx r (i+1) (n+Um p) h2 (by omega)
  refine ⟨j,ak fun K hK=>?_⟩
  rw [←hK] at ih
  clear hK h4
  have w1:IntKind.i64.wrap ((n:Int)+(dX p:Int))=(n:Int)+(dX p:Int):=w64 (by omega) (by omega)
  by_cases hk:p.kind=0
  ·simp [Um,hk] at ih
   simp [oQ,h3,h5,hwi,e1,ih,BN,Um,hk]
  ·have hadd:((n:Int)+(dX p:Int)+(BN r:Int))=(n:Int)+((dX p:Int)+(BN r:Int)):=by omega
   simp [Um,hk] at ih
   simp [oQ,h3,h5,hwi,e1,w1,ih,BN,Um,hk,hadd]
theorem Tt (ps:List (List UInt8)) (hps:ps.length≤3) (s:St) (cx:Ctx):∀(rest:List (List UInt8)) (i n:Nat),ps.drop i=rest→n+rest.length≤5000→
  ∃j:Int,fH (aB P0.glob (ah P0) cx false oP) [2,36,37,38] [(2,.v (.i .i64 (n:Int))),(36,.v (.sl (ps.map .s))),(37,.v (.i .i64 ps.length)),(38,.v (.i .i64 i))] s=
   .exit 2 [(2,.v (.i .i64 ((n+WM rest:Nat):Int))),(36,.v (.sl (ps.map .s))),(37,.v (.i .i64 ps.length)),(38,.v (.i .i64 j)),(39,.v (.b false))] s
 | [],i,n,h,hn=>by
  have h1:¬i<ps.length:=Nat.not_lt.2 (drop_nil h)
  refine ⟨i,ak fun K hK=>?_⟩
  simp [oP,h1,WM]
 | p::r,i,n,h,hn=>by
  obtain ⟨h1,h2,h3,h4⟩:=drop_cons h
  have h5:=h4 h3
  have hwi:=wI (i:=i) (by omega)
  simp only [List.length_cons] at hn
  obtain ⟨j,ih⟩:=Tt ps hps s cx r (i+1) (n+if p=[] then 0 else 1) h2 (by split<;>omega)
  refine ⟨j,ak fun K hK=>?_⟩
  rw [←hK] at ih
  clear hK h4
  have w1:IntKind.i64.wrap ((n:Int)+1)=(n:Int)+1:=w64 (by omega) (by omega)
  by_cases hk:p=[]
  ·subst hk
   simp at ih
   simp [oP,h3,h5,hwi,ih,WM]
  ·have hadd:((n:Int)+1+(WM r:Int))=(n:Int)+(1+(WM r:Int)):=by omega
   simp [hk] at ih
   simp [oP,h3,h5,hwi,w1,ih,WM,hk,hadd,jU]
def yG (x:Ax):Nat:=BN [x.left,x.right]+x.roles.length+WM [x.role,x.a,x.b]
theorem F7 (x:Ax) (hl:wC x.left≤1000) (hr:wC x.right≤1000) (hn:x.roles.length≤1000) (s:St) (cx:Ctx):ah P0 (.fn (.func qV) [] []) [gG x] s cx=.ret (.i .i64 (yG x:Int)) s:=by
 refine Ou (by simp) ?_
 have hs1:BN [x.left,x.right]≤2000:=by
  have h1:=EX x.left;have h2:=EX x.right
  simp only [BN,Um];split<;>split<;>omega
 obtain ⟨j,e1⟩:=Tv (gG x).cells [x.left,x.right] (by simp) (by simp;exact ⟨hl,hr⟩) s ⟨s.length,s.length⟩ [x.left,x.right] 0 0 rfl (by simp)
 obtain ⟨j',e2⟩:=Tt [x.role,x.a,x.b] (by simp) s ⟨s.length,s.length⟩ [x.role,x.a,x.b] 0 (BN [x.left,x.right]+x.roles.length) rfl (by simp;omega)
 have w1:IntKind.i64.wrap ((BN [x.left,x.right]:Int)+(x.roles.length:Int))=(BN [x.left,x.right]:Int)+(x.roles.length:Int):=w64 (by omega) (by omega)
 simp at e1 e2
 simp [af,vV,e1,e2,w1,yG,List.range_succ]
end Go.Ai.Z
namespace Go.Ai.Z
open Go.Lib (compareBytes)
@[simp] theorem YK (a:List UInt8) (s:St) (cx:Ctx):ah P0 (.fn (.func mr) [] []) [.s a] s cx=.ret (.b false) s:=by
 refine HY (by simp) ?_
 simp [af,qF]
theorem WV (a:List UInt8):Op.bytesLess a a=false:=by
 induction a with
 | nil=>rfl
 | cons x r ih=>simp [Op.bytesLess,ih]
def Xr (a b:List UInt8):Int:=if Op.bytesLess a b=true then -1 else if a=b then 0 else 1
@[simp] theorem Xy (a b:List UInt8) (s:St) (cx:Ctx):ah P0 (.fn (.func ng) [] []) [.s a,.s b] s cx=.ret (.i .i64 (Xr a b)) s:=by
 refine EO (by simp) ?_
 unfold Xr
 by_cases h1:Op.bytesLess a b=true
 ·simp [af,jQ,h1]
 ·by_cases h2:a=b
  ·subst h2;simp [af,jQ,WV]
  ·simp [af,jQ,h1,h2]
theorem TV {a b:List UInt8}:Xr a b=0 ↔ a=b:=by
 unfold Xr
 by_cases h:a=b
 ·subst h;simp [WV]
 ·by_cases h1:Op.bytesLess a b=true<;>simp [h,h1]
def uH:List (List UInt8)→List (List UInt8)→Option Int
 | [],_=>none
 | _::_,[]=>some 1
 | a::r,b::q=>if Xr a b=0 then uH r q else some (Xr a b)
def Ky (x y:List (List UInt8)):Int:=(uH x y).getD (if x.length<y.length then -1 else 0)
theorem Q5:∀{x y:List (List UInt8)},Ky x y=0 ↔ x=y
 | [],[]=>by simp [Ky,uH]
 | [],_::_=>by simp [Ky,uH]
 | _::_,[]=>by simp [Ky,uH]
 | a::r,b::q=>by
  have ih:=Q5 (x:=r) (y:=q)
  unfold Ky at ih ⊢
  by_cases h:Xr a b=0
  ·have he:=TV.1 h
   subst he
   rw [uH,if_pos h]
   simp only [List.length_cons,Nat.add_lt_add_iff_right,List.cons.injEq,true_and]
   exact ih
  ·have hne:¬a=b:=fun e=>h (TV.2 e)
   simp [uH,h,hne]
theorem TA (zx zy:Bool) (x y:List (List UInt8)) (hx:x.length≤100000) (hy:y.length≤100000) (s:St) (cx:Ctx):∀(rest:List (List UInt8)) (i:Nat),x.drop i=rest→
  ∃j:Int,fH (aB P0.glob (ah P0) cx false dV) [0,1,9,10,11]
   [(0,.v (slf zx (x.map .s))),(1,.v (slf zy (y.map .s))),(9,.v (slf zx (x.map .s))),(10,.v (.i .i64 x.length)),(11,.v (.i .i64 i))] s=
   match uH rest (y.drop i) with
   | none=>.exit 0 [(0,.v (slf zx (x.map .s))),(1,.v (slf zy (y.map .s))),(9,.v (slf zx (x.map .s))),(10,.v (.i .i64 x.length)),(11,.v (.i .i64 j)),(12,.v (.b false))] s
   | some v=>.ret [(4,.v (.i .i64 v))] s
 | [],i,h=>by
  have h1:¬i<x.length:=Nat.not_lt.2 (drop_nil h)
  refine ⟨i,ak fun K hK=>?_⟩
  simp [dV,h1,uH]
 | p::r,i,h=>by
  obtain ⟨h1,h2,h3,h4⟩:=drop_cons h
  have h5:=h4 h3
  have hwi:=wI (i:=i) (by omega)
  cases hq:y.drop i with
  | nil=>
   have h6:y.length≤i:=drop_nil hq
   refine ⟨0,ak fun K hK=>?_⟩
   clear hK h4
   simp [dV,h3,h5,h6,uH]
  | cons q t=>
   obtain ⟨g1,g2,g3,g4⟩:=drop_cons hq
   have g5:=g4 g3
   have g6:¬y.length≤i:=by omega
   obtain ⟨j,ih2⟩:=TA zx zy x y hx hy s cx r (i+1) h2
   refine ⟨j,ak fun K hK=>?_⟩
   rw [←hK] at ih2
   clear hK h4 g4
   rw [g2] at ih2
   simp at ih2
   by_cases hz:Xr p q=0
   ·simp [dV,h3,h5,hwi,g3,g5,g6,ih2,uH,hz]
   ·simp [dV,h3,h5,hwi,g3,g5,g6,uH,hz]
theorem MB (zx zy:Bool) (x y:List (List UInt8)) (hx:x.length≤100000) (hy:y.length≤100000) (s:St) (cx:Ctx):
  ah P0 (.fn (.func iH) [] []) [slf zx (x.map .s),slf zy (y.map .s)] s cx=.ret (.i .i64 (Ky x y)) s:=by
 refine xZ (by simp) ?_
 obtain ⟨j,h⟩:=TA zx zy x y hx hy s ⟨s.length,s.length⟩ x 0 rfl
 unfold Ky
 simp at h
 cases hc:uH x y with
 | none=>
  simp [hc] at h
  by_cases hl:x.length<y.length
  ·simp [af,fF,h,hl]
  ·simp [af,fF,h,hl]
 | some v=>
  simp [hc] at h
  simp [af,fF,h]
def headA (x y:Ax):Int:=orI [wJ (yG x:Int) (yG y:Int),wJ x.kind y.kind]
def tailA (x y:Ax):Int:=orI [Ky x.roles y.roles,compareBytes x.role y.role,compareBytes x.a y.a,compareBytes x.b y.b]
def acL (x y:Ax):Int:=
 if headA x y=0 then (if jT x.left y.left=0 then (if jT x.right y.right=0 then tailA x y else jT x.right y.right) else jT x.left y.left) else headA x y
theorem Gf (x y:Ax) (hl:wC x.left≤1000) (hr:wC x.right≤1000) (hn:x.roles.length≤1000) (hl':wC y.left≤1000) (hr':wC y.right≤1000) (hn':y.roles.length≤1000) (s:St) (cx:Ctx):
  ah P0 (.fn (.func mW) [] []) [gG x,gG y] s cx=.ret (.i .i64 (acL x y)) s:=by
 refine EI (by simp) ?_
 have e1:=F7 x hl hr hn
 have e2:=F7 y hl' hr' hn'
 have e3:=zf x.left y.left hl hl'
 have e4:=zf x.right y.right hr hr'
 have e5:=MB x.z y.z x.roles y.roles (by omega) (by omega)
 have e6:=D8 [wJ (yG x:Int) (yG y:Int),wJ x.kind y.kind] (by simp)
 have e7:=D8 [Ky x.roles y.roles,compareBytes x.role y.role,compareBytes x.a y.a,compareBytes x.b y.b] (by simp)
 change ∀(s:St) (cx:Ctx),_=CO.ret (.i .i64 (headA x y)) s at e6
 change ∀(s:St) (cx:Ctx),_=CO.ret (.i .i64 (tailA x y)) s at e7
 simp at e6 e7
 unfold acL
 by_cases h1:headA x y=0
 ·by_cases h2:jT x.left y.left=0
  ·by_cases h3:jT x.right y.right=0
   ·simp [af,iZ,e1,e2,e3,e4,e5,e6,e7,h1,h2,h3,List.range_succ]
   ·simp [af,iZ,e1,e2,e3,e4,e6,h1,h2,h3,List.range_succ]
  ·simp [af,iZ,e1,e2,e3,e6,h1,h2,List.range_succ]
 ·simp [af,iZ,e1,e2,e6,h1,List.range_succ]
theorem aaJ {x y:Ax}:acL x y=0 ↔ yG x=yG y∧x.kind=y.kind∧nz x.left=nz y.left∧nz x.right=nz y.right∧x.roles=y.roles∧x.role=y.role∧x.a=y.a∧x.b=y.b:=by
 have h1:headA x y=0 ↔ yG x=yG y∧x.kind=y.kind:=by unfold headA;rw [JB];simp [TW];intros;omega
 have h2:tailA x y=0 ↔ x.roles=y.roles∧x.role=y.role∧x.a=y.a∧x.b=y.b:=by unfold tailA;rw [JB];simp [Q5,tN]
 have h3:=Md x.left y.left
 have h4:=Md x.right y.right
 unfold acL
 by_cases a1:headA x y=0
 ·by_cases a2:jT x.left y.left=0
  ·by_cases a3:jT x.right y.right=0
   ·rw [if_pos a1,if_pos a2,if_pos a3,h2]
    constructor
    ·intro h;exact ⟨(h1.1 a1).1,(h1.1 a1).2,h3.1 a2,h4.1 a3,h⟩
    ·intro h;exact h.2.2.2.2
   ·rw [if_pos a1,if_pos a2,if_neg a3]
    exact ⟨fun h=>absurd h a3,fun h=>absurd (h4.2 h.2.2.2.1) a3⟩
  ·rw [if_pos a1,if_neg a2]
   exact ⟨fun h=>absurd h a2,fun h=>absurd (h3.2 h.2.2.1) a2⟩
 ·rw [if_neg a1]
  exact ⟨fun h=>absurd h a1,fun h=>absurd (h1.2 ⟨h.1,h.2.1⟩) a1⟩
end Go.Ai.Z
