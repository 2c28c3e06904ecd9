/-
 The examples of the chapter on syntax.
-/
import Derived.Test.YtpnlnnfcaeednaaGreatDoorAiC2
import Derived.Test.YtpnlnnfcaeednaaGreatDoorAiB2
import Derived.Test.YtpnlnnfcaeednaaGreatDoorAiDat
import Derived.Test.YtpnlnnfcaeednaaGreatDoorAiY12X3X4
import Derived.Test.YtpnlnnfcaeednaaGreatDoorAiKGKH
import Derived.Test.YtpnlnnfcaeednaaGreatDoorAiX5X6X7X8X9
import Derived.Test.YtpnlnnfcaeednaaGreatDoorAiX11X12X13X14X15X16
set_option maxRecDepth 100000
set_option linter.unusedSimpArgs false
set_option linter.unusedVariables false
set_option linter.unusedSectionVars false
namespace Go.Ai.Z
theorem ael:jL P0 200 (.fn (.func yh) [] []) [] [] ⟨0,0⟩=.ret (.b true) []:=by kernel_rfl
end Go.Ai.Z
namespace Go.Ai
open Go.ChangeShapes Go.WideShapes Go.WideElems
section
variable {H:Type} {enc:TypeId×Value→H} {P:Program} {W:World}
theorem Qy {R Z:TypeId} (uR:P.underlying R=some (.slice Z)) (uZ:P.underlying Z=some (.int .u8)) (cZ:P.cellsOf Z=1) (bZ:0<P.bytesOf Z)
  {r:Go.Reach} {b0:Nat} {v:Value} {d:DataW H} {p:List MemPlace} (hok:Value.okWide P W r b0 R v) (h:DataW.Trod enc P W 0 (fun _=>true) true R v d p) (hl:Light P R d):
  ∃l:List UInt8,l.length≤1125899906842624∧Rep (g0 W) 0 v (.sl (aC l)):=by
 obtain ⟨a,len,cap,rfl⟩:=okWide_slice uR hok
 obtain ⟨fuel,hf⟩:=h
 simp only [Value.cells] at hf
 obtain ⟨es,q1,q2,⟨r4,a4⟩⟩:=adO uR cZ (by omega) bZ (fun a=>∃b:UInt8,a=.i .u8 b.toNat∧True) hf hl (fun m hm cs y hy hly=>by
  obtain ⟨n,h1,h2,hr⟩:=agz uZ hy
  have e1:(0:Int)≤n:=h1
  have e2:n≤255:=h2
  refine ⟨.i .u8 n,⟨UInt8.ofNat n.toNat, ?_,trivial⟩,rfl,hr⟩
  congr 1
  simp
  omega)
 obtain ⟨l,rfl,_⟩:=Xy q1
 have hb:reachBytes≤1125899906842624:=by decide
 simp only [List.length_map] at q2
 exact ⟨l,by omega,r4.head⟩
end
end Go.Ai
namespace Go.Ai.Z
def Eu:List (List UInt8)→Nat
 | []=>0
 | x::r=>x.length+Eu r
theorem NU (s:St) (cx:Ctx) (L:List (List UInt8)) (hL:Eu L≤4000000000000000) (hN:L.length≤1000):∀(rest:List (List UInt8)) (i n:Nat) (v5:AV),L.drop i=rest→n+Eu rest≤4000000000000000→
  ∃(j:Int) (v5':AV),eY (aB P0.glob (ah P0) cx false wJ) [3,6,7,8] [(3,.v (.i .i64 n)),(6,.v (.sl (L.map fun x=>.sl (aC x)))),(7,.v (.i .i64 L.length)),(8,.v (.i .i64 i))] s=
    .exit 0 [(3,.v (.i .i64 (n+Eu rest:Nat))),(6,.v (.sl (L.map fun x=>.sl (aC x)))),(7,.v (.i .i64 L.length)),(8,.v (.i .i64 j)),(9,.v (.b false))] s
 | [],i,n,v5,h,hn=>by
  have h1:¬i<L.length:=Nat.not_lt.2 (drop_nil h)
  refine ⟨i,v5,ak fun K hK=>?_⟩
  simp [wJ,h1,Eu]
 | x::r,i,n,v5,h,hn=>by
  obtain ⟨h1,h2,h3,h4⟩:=drop_cons h
  have h5:=h4 h3
  have hx:(L.map fun x=>AV.sl (aC x))[i]?=some (.sl (aC x)):=by simp [h1]
  have hwi:=wI (i:=i) (by omega)
  have hsum:Eu (x::r)=x.length+Eu r:=rfl
  have hb:(aC x).length=x.length:=by simp [aC]
  have w1:IntKind.i64.wrap ((n:Int)+(x.length:Int))=((n+x.length:Nat):Int):=by rw [w64 (by omega) (by omega)];omega
  obtain ⟨j,v,ih⟩:=NU s cx L hL hN r (i+1) (n+x.length) .u h2 (by omega)
  refine ⟨j,v,ak fun K hK=>?_⟩
  rw [←hK] at ih
  rw [show n+Eu (x::r)=n+x.length+Eu r by omega]
  clear hK h4
  simp at ih
  simp [wJ,h3,h5,hwi,hb,w1]
  exact ih
theorem Ye (L:List (List UInt8)) (hL:Eu L≤4000000000000000) (hN:L.length≤1000) (s:St) (cx:Ctx):ah P0 (.fn (.func zf) [] []) [.sl (L.map fun x=>.sl (aC x))] s cx=.ret (.b (decide (Eu L≤3000))) s:=by
 obtain ⟨j,v,h⟩:=NU s ⟨s.length,s.length⟩ L hL hN L 0 0 .u rfl (by omega)
 refine VJ (by simp) ?_
 simp at h
 have hcast:((Eu L:Int)≤3000) ↔ Eu L≤3000:=by omega
 by_cases hs:Eu L≤3000
 ·have:(Eu L:Int)≤3000:=by omega
  simp [af,xO,h,hs,this]
 ·have:¬(Eu L:Int)≤3000:=by omega
  simp [af,xO,h,hs,this]
theorem cellsB (l:List UInt8):(∀z∈aC l,z.cells.length=1)=True:=by
 simp [aC]
theorem XA (l:List UInt8):(aC l).length=l.length:=by simp [aC]
end Go.Ai.Z
namespace Go.Ai.Z
theorem acv {l r:List Tok} {x:Ax} (hw:WT l) (h:xq l=.ok x r):r.length+2≤l.length:=by
 rcases nT h with ⟨k,h⟩|h
 ·have:=Ae hw k (by decide);have:=(kY (Ob this.1) h).2;omega
 rcases nT h with ⟨k,h⟩|h
 ·have:=Ae hw k (by decide);have:=(kY (Ux this.1) h).2;omega
 rcases nT h with ⟨k,h⟩|h
 ·have:=Ae hw k (by decide);have:=(kY (Ry this.1) h).2;omega
 rcases nT h with ⟨k,h⟩|h
 ·have:=Ae hw k (by decide);have:=(kY (Uy this.1) h).2;omega
 rcases nT h with ⟨k,h⟩|h
 ·have:=Ae hw k (by decide);have:=(kY (N9 this.1) h).2;omega
 rcases nT h with ⟨k,h⟩|h
 ·have:=Ae hw k (by decide);have:=(kY (Uz this.1) h).2;omega
 ·obtain ⟨c,l1,e1,h⟩:=aA.1 h
  obtain ⟨w1,s1⟩:=kY (mX hw) e1
  rcases nT h with ⟨k,h⟩|h
  ·have:=Ae w1 k (by decide);have:=(kY (zW _ _ this.1) h).2;omega
  rcases nT h with ⟨k,h⟩|h
  ·have:=Ae w1 k (by decide);have:=(kY (zW _ _ this.1) h).2;omega
  rcases nT h with ⟨k,h⟩|h
  ·have:=Ae w1 k (by decide);have:=(kY (zW _ _ this.1) h).2;omega
  ·cases h
theorem abV {l r:List Tok} {x:Ax} (hw:WT l) (h:BD l=.ok x r):r.length+2≤l.length:=by
 have st:∀{o p:Bool} {l:List Tok},WT l→pSt o p l=.ok x r→r.length+2≤l.length:=by
  intro o p l hw h
  obtain ⟨y,l1,e1,h⟩:=aA.1 h
  have:=acv hw e1
  cases h;exact this
 rcases nT h with ⟨k,h⟩|h
 ·have:=Ae hw k (by decide);have:=st this.1 h;omega
 rcases nT h with ⟨k,h⟩|h
 ·have:=Ae hw k (by decide);have:=st this.1 h;omega
 ·exact st hw h
theorem abD {l r:List Tok} {x:Ax} (hw:WT l) (h:vV l=.ok x r):r.length+3≤l.length:=by
 unfold vV at h
 obtain ⟨y,l1,e1,h⟩:=aA.1 h
 obtain ⟨u,l2,e2,h⟩:=aA.1 h
 cases h
 have w1:=(kY (D5 hw) e1).1
 have h1:=abV hw e1
 have h2:=(kY (oL (w:=[46]) (by decide) w1) e2).2
 omega
theorem RY:∀(n:Nat) {T r:List Tok},Suf T r→3 * (oh n r).1.length≤r.length
 | 0,T,r,h=>by simp [oh]
 | n+1,T,r,h=>by
  by_cases hk:(hT r).1=4
  ·rw [xP hk];simp
  ·obtain ⟨h1,h2⟩:=J6 h hk
   have ih:=RY n h1
   rw [vF n hk]
   split
   ·simp only [];omega
   ·rename_i hb
    have h3:(nN r).2.length+3≤r.length:=by
     unfold nN at hb ⊢
     cases hp:vV r with
     | er a c q=>rw [hp] at hb;exact absurd rfl hb
     | ok x q=>exact abD h.w hp
    simp only [List.length_cons];omega
theorem aht {l:List Tok} (h:WT l):2 * l.length≤tw l+1:=by
 induction h with
 | fin a=>simp [tw]
 | cons t r h1 h2 ih=>
  have:=List.length_pos_iff.2 h1.ne
  simp only [List.length_cons,tw];omega
theorem KF {src:List UInt8} (h:src.length≤3065):(vP src).1.length≤1024:=by
 obtain ⟨hw,htw⟩:=zG (src:=src) (by omega)
 rw [DV] at hw htw
 have h1:=RY (fM src).1.length (Jt hw).1
 have h2:=aht hw
 unfold vP
 omega
end Go.Ai.Z
namespace Go.Ai.Z
end Go.Ai.Z
namespace Go.Ai.Z
theorem KR (n:Int) (s:St) (cx:Ctx):ah P0 (.fn (.func jB) [] []) [.i .i64 n,.i .i64 n] s cx=.ret (.i .i64 0) s:=by
 refine RF (by simp) ?_
 simp [af,xM]
theorem AU (n:List UInt8) (s:St) (cx:Ctx):ah P0 (.fn (.func jW) [] []) [.s n,.s n] s cx=.ret (.i .i64 0) s:=by
 refine MJ (by simp) ?_
 simp [af,uY,ac3]
theorem FN (s:St) (cx:Ctx) (c:C) (hw:wC c≤100000) (ih:∀p∈c.parts,∀(s:St) (cx:Ctx),ah P0 (.fn (.func lM) [] []) [bF p,bF p] s cx=.ret (.i .i64 0) s):
  ∀(rest:List C) (i:Nat),c.parts.drop i=rest→
  ∃j:Int,eY (aB P0.glob (ah P0) cx false qU) [2,3,5,6] [(2,.bx (bF c).cells),(3,.bx (bF c).cells),(5,.v (.i .i64 0)),(6,.v (.i .i64 i))] s=
   .exit 0 [(2,.bx (bF c).cells),(3,.bx (bF c).cells),(5,.v (.i .i64 0)),(6,.v (.i .i64 j)),(55,.v (.b false))] s
 | [],i,h=>by
  have h1:¬i<c.parts.length:=Nat.not_lt.2 (drop_nil h)
  refine ⟨i,ak fun K hK=>?_⟩
  simp [qU,h1]
 | p::r,i,h=>by
  obtain ⟨h1,h2,h3,h4⟩:=drop_cons h
  have h5:=h4 h3
  have hp:p∈c.parts:=by rw [←h5];exact List.getElem_mem h3
  have hl:=yD c.parts
  have hwi:=wI (i:=i) (by rw [qj] at hw;omega)
  obtain ⟨j,ih2⟩:=FN s cx c hw ih r (i+1) h2
  refine ⟨j,ak fun K hK=>?_⟩
  rw [←hK] at ih2
  have e1:=ih p hp
  clear hK h4 ih
  simp at ih2
  simp [qU,h3,h5,hwi,e1,ih2]
theorem Gg:∀(c:C),wC c≤100000→∀(s:St) (cx:Ctx),ah P0 (.fn (.func lM) [] []) [bF c,bF c] s cx=.ret (.i .i64 0) s:=by
 refine C.ind' fun c ih hw s cx=>?_
 have hw':=hw
 rw [qj] at hw'
 obtain ⟨j,h⟩:=FN s ⟨s.length,s.length⟩ c hw (fun p hp=>ih p hp (by have:=wM hp;omega)) c.parts 0 rfl
 have e1:=Ee c hw
 refine MK (by simp) ?_
 simp at h
 simp [af,vg,h,e1,KR,AU]
def abW (c:Bool) (n m:Int):Int:=if c=true then IntKind.i64.wrap (n+m) else n
theorem Yc (x:Ax) (hl:wC x.left≤100000) (hr:wC x.right≤100000) (s:St) (cx:Ctx):ah P0 (.fn (.func rV) [] []) [fG x] s cx=
  .ret (.i .i64 (abW (!x.b.isEmpty) (abW (!x.a.isEmpty) (abW (!x.role.isEmpty) (abW (!decide (x.right.kind=0)) (abW (!decide (x.left.kind=0)) x.roles.length (dS x.left)) (dS x.right)) 1) 1) 1)) s:=by
 have e1:=Ee x.left hl
 have e2:=Ee x.right hr
 refine OZ (by simp) ?_
 by_cases h1:x.left.kind=0<;>by_cases h2:x.right.kind=0<;>rcases h3:x.role.isEmpty with _ | _<;>rcases h4:x.a.isEmpty with _ | _<;>rcases h5:x.b.isEmpty with _ | _ <;>
  simp [af,wH,abW,e1,e2,h1,h2,h3,h4,h5]
theorem J4 (s:St) (cx:Ctx) (x:Ax) (hx:x.roles.length≤100000):∀(rest:List (List UInt8)) (i:Nat),x.roles.drop i=rest→
  ∃j:Int,eY (aB P0.glob (ah P0) cx false mW) [2,3,5,6] [(2,.bx (fG x).cells),(3,.bx (fG x).cells),(5,.v (.i .i64 0)),(6,.v (.i .i64 i))] s=
   .exit 0 [(2,.bx (fG x).cells),(3,.bx (fG x).cells),(5,.v (.i .i64 0)),(6,.v (.i .i64 j)),(48,.v (.b false))] s
 | [],i,h=>by
  have h1:¬i<x.roles.length:=Nat.not_lt.2 (drop_nil h)
  refine ⟨i,ak fun K hK=>?_⟩
  simp [mW,h1]
 | p::r,i,h=>by
  obtain ⟨h1,h2,h3,h4⟩:=drop_cons h
  have h5:=h4 h3
  have hwi:=wI (i:=i) (by omega)
  obtain ⟨j,ih2⟩:=J4 s cx x hx r (i+1) h2
  refine ⟨j,ak fun K hK=>?_⟩
  rw [←hK] at ih2
  clear hK h4
  simp at ih2
  simp [mW,h3,h5,hwi,ih2,AU]
theorem V4 (x:Ax) (hl:wC x.left≤100000) (hr:wC x.right≤100000) (hx:x.roles.length≤100000) (s:St) (cx:Ctx):ah P0 (.fn (.func nJ) [] []) [fG x,fG x] s cx=.ret (.i .i64 0) s:=by
 obtain ⟨j,h⟩:=J4 s ⟨s.length,s.length⟩ x hx x.roles 0 rfl
 have e1:=Yc x hl hr
 have e2:=Gg x.left hl
 have e3:=Gg x.right hr
 refine EU (by simp) ?_
 simp at h
 simp [af,pI,h,e1,e2,e3,KR,AU]
def SlV (v:AV) (es:List AV):Prop:=v=.sl es∨(v=.ns∧es=[])
theorem ZR (z:Bool) (es:List AV):SlV (slf z es) es:=by
 cases es with
 | nil=>cases z<;>first|exact .inr ⟨rfl,rfl⟩|exact .inl rfl
 | cons a l=>exact .inl (by cases z<;>rfl)
theorem SlV.nil {v:AV} (h:SlV v []):v=.sl []∨v=.ns:=by
 rcases h with h|h
 ·exact .inl h
 ·exact .inr h.1
theorem SlV.cons {v a:AV} {l:List AV} (h:SlV v (a::l)):v=.sl (a::l):=by
 rcases h with h|h
 ·exact h
 ·cases h.2
theorem aaf (Z:List Pb) (hN:Z.length≤100000) (s:St) (cx:Ctx):∀(rest:List Pb) (i:Nat),Z.drop i=rest→
  ∃j:Int,eY (aB P0.glob (ah P0) cx false iZ) [0,1,5] [(0,.v (.sl (Z.map dU))),(1,.v (.sl (Z.map dU))),(5,.v (.i .i64 i))] s=
   .exit 0 [(0,.v (.sl (Z.map dU))),(1,.v (.sl (Z.map dU))),(5,.v (.i .i64 j)),(14,.v (.b false))] s
 | [],i,h=>by
  have h1:¬i<Z.length:=Nat.not_lt.2 (drop_nil h)
  refine ⟨i,ak fun K hK=>?_⟩
  simp [iZ,h1]
 | p::r,i,h=>by
  obtain ⟨h1,h2,h3,h4⟩:=drop_cons h
  have h5:=h4 h3
  have hwi:=wI (i:=i) (by omega)
  obtain ⟨j,ih⟩:=aaf Z hN s cx r (i+1) h2
  refine ⟨j,ak fun K hK=>?_⟩
  rw [←hK] at ih
  clear hK h4
  obtain ⟨a,c⟩:=p
  simp at ih
  simp [iZ,h3,h5,hwi,ih,dU,tZ]
theorem aeY {va vb:AV} {Z:List Pb} (ha:SlV va (Z.map dU)) (hb:SlV vb (Z.map dU)) (hN:Z.length≤100000) (s:St) (cx:Ctx):ah P0 (.fn (.func kS) [] []) [va,vb] s cx=.ret (.b true) s:=by
 refine ET (by simp) ?_
 cases Z with
 | nil=>
  have hL:∀va vb:AV,(va=.sl []∨va=.ns)→(vb=.sl []∨vb=.ns)→eY (aB P0.glob (ah P0) ⟨s.length,s.length⟩ false iZ) [0,1,5] [(0,.v va),(1,.v vb),(5,.v (.i .i64 0))] s=
    .exit 0 [(0,.v va),(1,.v vb),(5,.v (.i .i64 0)),(14,.v (.b false))] s:=fun va vb h1 h2=>by
   refine ak fun K hK=>?_
   rcases h1 with rfl|rfl<;>rcases h2 with rfl|rfl<;>simp [iZ]
  have h1:=hL va vb ha.nil hb.nil
  rcases ha.nil with rfl|rfl<;>rcases hb.nil with rfl|rfl<;>simp [af,lX,h1]
 | cons p q=>
  obtain ⟨j,h⟩:=aaf (p::q) hN s ⟨s.length,s.length⟩ _ 0 rfl
  have e1:va=.sl ((p::q).map dU):=ha.cons
  have e2:vb=.sl ((p::q).map dU):=hb.cons
  subst e1 e2
  generalize p::q=Z at *
  simp at h
  simp [af,lX,h]
structure SmA (a:Ax):Prop where
 l:wC a.left≤1000
 r:wC a.right≤1000
 n:a.roles.length≤1000
theorem TdA.sm {a:Ax} (h:TdA a):SmA a:=⟨by have:=h.f.l;omega,by have:=h.f.r;omega,by have:=h.f.roles;omega⟩
theorem aag (Z:List Ax) (hZ:∀a∈Z,SmA a) (hN:Z.length≤100000) (s:St) (cx:Ctx):∀(rest:List Ax) (i:Nat),Z.drop i=rest→
  ∃j:Int,eY (aB P0.glob (ah P0) cx false jE) [0,1,5] [(0,.v (.sl (Z.map fG))),(1,.v (.sl (Z.map fG))),(5,.v (.i .i64 i))] s=
   .exit 0 [(0,.v (.sl (Z.map fG))),(1,.v (.sl (Z.map fG))),(5,.v (.i .i64 j)),(14,.v (.b false))] s
 | [],i,h=>by
  have h1:¬i<Z.length:=Nat.not_lt.2 (drop_nil h)
  refine ⟨i,ak fun K hK=>?_⟩
  simp [jE,h1]
 | p::r,i,h=>by
  obtain ⟨h1,h2,h3,h4⟩:=drop_cons h
  have h5:=h4 h3
  have hp:p∈Z:=by rw [←h5];exact List.getElem_mem h3
  have hwi:=wI (i:=i) (by omega)
  have ⟨a1,a2,a3⟩:=hZ p hp
  have e1:=V4 p (by omega) (by omega) (by omega)
  obtain ⟨j,ih⟩:=aag Z hZ hN s cx r (i+1) h2
  refine ⟨j,ak fun K hK=>?_⟩
  rw [←hK] at ih
  clear hK h4
  simp at ih
  rcases Bool.eq_false_or_eq_true p.op with o|o<;>have g:=aeE o<;>simp [jE,h3,h5,hwi,ih,e1,o,g]
theorem aeZ {va vb:AV} {Z:List Ax} (ha:SlV va (Z.map fG)) (hb:SlV vb (Z.map fG)) (hZ:∀a∈Z,SmA a) (hN:Z.length≤100000) (s:St) (cx:Ctx):ah P0 (.fn (.func mJ) [] []) [va,vb] s cx=.ret (.b true) s:=by
 refine H6 (by simp) ?_
 cases Z with
 | nil=>
  have hL:∀va vb:AV,(va=.sl []∨va=.ns)→(vb=.sl []∨vb=.ns)→eY (aB P0.glob (ah P0) ⟨s.length,s.length⟩ false jE) [0,1,5] [(0,.v va),(1,.v vb),(5,.v (.i .i64 0))] s=
    .exit 0 [(0,.v va),(1,.v vb),(5,.v (.i .i64 0)),(14,.v (.b false))] s:=fun va vb h1 h2=>by
   refine ak fun K hK=>?_
   rcases h1 with rfl|rfl<;>rcases h2 with rfl|rfl<;>simp [jE]
  have h1:=hL va vb ha.nil hb.nil
  rcases ha.nil with rfl|rfl<;>rcases hb.nil with rfl|rfl<;>simp [af,nZ,h1]
 | cons p q=>
  obtain ⟨j,h⟩:=aag (p::q) hZ hN s ⟨s.length,s.length⟩ _ 0 rfl
  have e1:va=.sl ((p::q).map fG):=ha.cons
  have e2:vb=.sl ((p::q).map fG):=hb.cons
  subst e1 e2
  generalize p::q=Z at *
  simp at h
  simp [af,nZ,h]
end Go.Ai.Z
namespace Go.Ai.Z
theorem ac8 (x y:List UInt8) (hx:x.length≤100000) (v9 v12 v15 v16:AV) (Z:List Pb) (hZ:∀p∈Z,0≤p.1∧p.1≤100000) (hN:Z.length≤100000) (s:St) (cx:Ctx):∀(rest:List Pb) (i:Nat) (W:List Pb),Z.drop i=rest→W.length+rest.length≤200000→
  ∃j:Int,eY (aB P0.glob (ah P0) cx false jF) [0,9,12,15,16,18,122,123,124] [(0,.v (.sl (aC x))),(9,.v v9),(12,.v v12),(15,.v v15),(16,.v v16),(18,.own false aH 2 (W.map dU)),(122,.v (slf true (Z.map dU))),(123,.v (.i .i64 Z.length)),(124,.v (.i .i64 i))] s=
   .exit 0 [(0,.v (.sl (aC x))),(9,.v v9),(12,.v v12),(15,.v v15),(16,.v v16),(18,.own false aH 2 ((W++rest.map (shP (x.length+1))).map dU)),(122,.v (slf true (Z.map dU))),(123,.v (.i .i64 Z.length)),(124,.v (.i .i64 j)),(125,.v (.b false))] s
 | [],i,W,h,hW=>by
  have h1:¬i<Z.length:=Nat.not_lt.2 (drop_nil h)
  refine ⟨i,ak fun K hK=>?_⟩
  simp [jF,h1]
 | p::r,i,W,h,hW=>by
  obtain ⟨h1,h2,h3,h4⟩:=drop_cons h
  have h5:=h4 h3
  have hp:p∈Z:=by rw [←h5];exact List.getElem_mem h3
  obtain ⟨p1,p2⟩:=hZ p hp
  have hwi:=wI (i:=i) (by omega)
  have hne:Z.map dU≠[]:=by intro h;rw [List.map_eq_nil_iff] at h;rw [h] at hp;cases hp
  have hb:(aC x).length=x.length:=by simp [aC]
  simp only [List.length_cons] at hW
  obtain ⟨j,ih⟩:=ac8 x y hx v9 v12 v15 v16 Z hZ hN s cx r (i+1) (W++[shP (x.length+1) p]) h2 (by simp;omega)
  refine ⟨j,ak fun K hK=>?_⟩
  rw [←hK,show ((i+1:Nat):Int)=(i:Int)+1 from rfl] at ih
  rw [Ju hne] at ih ⊢
  clear hK h4 hZ
  obtain ⟨a,c⟩:=p
  simp only [] at p1 p2
  have w1:IntKind.i64.wrap (a+(x.length:Int))=a+x.length:=w64 (by omega) (by omega)
  have w2:IntKind.i64.wrap (a+(x.length:Int)+1)=a+(x.length+1):=by rw [w64 (by omega) (by omega)];omega
  have m1:W.length+1≤dK:=by simp only [dK];omega
  have hal:=GZ W
  rw [List.append_assoc] at ih
  simp [dU,shP] at ih
  simp [jF,h3,h5,hwi,dU,shP,splice,dV,hb,w1,w2,m1]
  exact ih
theorem adK {x:List UInt8}:KZ (fM x).1 ↔ ((fM x).1.length≤1∨∃t,(fM x).1[(fM x).1.length - 2]?=some t∧t.1=3∧t.2.1=[46]):=by
 have hc:=yR x []
 unfold KZ
 rw [hc.x1,List.dropLast_concat]
 rcases List.eq_nil_or_concat (body x) with h|⟨b,d,h⟩
 ·simp [h]
 ·rw [List.concat_eq_append] at h
  have hm:d∈body x:=by rw [h];simp
  have hd:=hc.bd d hm
  have hst:iT d=true ↔ d.1=3∧d.2.1=[46]:=by
   simp only [iT,Bool.or_eq_true,Bool.and_eq_true,decide_eq_true_eq]
   constructor
   ·rintro (h|h)
    ·exact absurd h hd.2
    ·exact h
   ·exact .inr
  have hg:(b++[d]++[((4:Int),([]:List UInt8),x.length)])[(b++[d]++[((4:Int),([]:List UInt8),x.length)]).length - 2]?=some d:=by
   simp
  constructor
  ·rintro (h' | ⟨b',d',e,h'⟩)
   ·rw [h'] at h;simp at h
   ·rw [h] at e
    have:=(List.append_inj' e rfl).2
    simp at this
    subst this
    exact .inr ⟨d,by rw [h];exact hg,hst.1 h'⟩
  ·rintro (h' | ⟨t,e,h'⟩)
   ·rw [h] at h';simp at h'
   ·rw [h,hg] at e
    cases e
    exact .inr ⟨b,d,h,hst.2 h'⟩
end Go.Ai.Z
namespace Go.Ai.Z
theorem abQ (x y:List UInt8) (hx:x.length≤1125899906842624) (hy:y.length≤1125899906842624) (hs:ah P0 (.fn (.func yh) [] []) [] [] ⟨0,0⟩=.ret (.b true) []) (cx:Ctx):
  ah P0 (.fn (.func lH) [] []) [.sl (aC x),.sl (aC y)] [] cx=.ret (.b true) []:=by
 have hf:=fun s cx=>Ye [x,y] (by simp [Eu];omega) (by simp) s cx
 simp only [List.map_cons,List.map_nil,Eu,Nat.add_zero] at hf
 refine zK (by simp) ?_
 by_cases hl:x.length+y.length≤3000
 case neg=>simp [af,aP,hs,hf,hl,List.range_succ]
 have ct:=WG x (by omega) [] ⟨0,0⟩ (Nat.le_refl _)
 rw [DV] at ct
 generalize hbv:slf true ((lexB x).2.map dU)=bv at ct
 have hwx:=Ph (src:=x) (by omega)
 have hpos:=Ll hwx
 have hTl:(fM x).1.length≤100000:=by
  have:=(zG (src:=x) (by omega)).2
  have:=U4 (lexB x).1;rw [DV] at *;omega
 have hed:=adK (x:=x)
 have hdx:(x++10::y).length≤3065:=by simp;omega
 obtain ⟨Zx,x1,x2,cdx⟩:=Iy x (by omega) (KF (by omega)) [] ⟨0,0⟩ (Nat.le_refl _)
 obtain ⟨Zy,y1,y2,cdy⟩:=Iy y (by omega) (KF (by omega)) [] ⟨0,0⟩ (Nat.le_refl _)
 obtain ⟨Zb,b1,b2,cdb⟩:=Iy (x++10::y) (by omega) (KF hdx) [] ⟨0,0⟩ (Nat.le_refl _)
 have o1:aC x++(AV.i .u8 10::aC y)=aC (x++10::y):=by simp [aC]
 have m1:x.length≤dK:=by simp only [dK];omega
 have m2:x.length+1≤dK:=by simp only [dK];omega
 have m3:x.length+1+y.length≤dK:=by simp only [dK];omega
 have m3':x.length+(y.length+1)≤dK:=by simp only [dK];omega
 have h2:∀n:Nat,2≤n→n≤100000→IntKind.i64.wrap ((n:Int) - 2)=((n - 2:Nat):Int):=fun n h h'=>by rw [w64 (by omega) (by omega)];omega
 by_cases he:KZ (fM x).1
 case neg=>
  rw [hed] at he
  have hlen:1<(fM x).1.length:=by omega
  have hlt:(fM x).1.length - 2<(fM x).1.length:=by omega
  have hw2:=h2 _ (by omega) hTl
  have hn:∀t,(fM x).1[(fM x).1.length - 2]=t→¬(t.1=3∧t.2.1=[46]):=fun t ht h=>he (.inr ⟨t,by rw [List.getElem?_eq_getElem hlt,ht],h⟩)
  obtain ⟨t,ht⟩:∃t,(fM x).1[(fM x).1.length - 2]=t:=⟨_,rfl⟩
  have hn2:=hn t ht
  clear hn
  obtain ⟨k,w,a⟩:=t
  simp only [] at hn2
  have hlenI:(1:Int)<((fM x).1.length:Int):=by omega
  clear he hed
  have hne:¬(fM x).1=[]:=by intro h;rw [h] at hlen;simp at hlen
  generalize (fM x).1=T at *
  by_cases hk:k=3
  ·have hw':¬w=[46]:=fun h=>hn2 ⟨hk,h⟩
   simp [af,aP,hs,hf,hl,List.range_succ,ct,splice,hlenI,hlt,hw2,ht,dR,hk,hw',hne]
  ·simp [af,aP,hs,hf,hl,List.range_succ,ct,splice,hlenI,hlt,hw2,ht,dR,hk,hne]
 have hcond:¬(1<(fM x).1.length)∨(1<(fM x).1.length∧∃a,(fM x).1[(fM x).1.length - 2]?=some ((3:Int),([46]:List UInt8),a)):=by
  rcases hed.1 he with h|⟨⟨k,w,a⟩,h,h',h''⟩
  ·exact .inl (by omega)
  ·simp only [] at h' h''
   subst h' h''
   by_cases h1:1<(fM x).1.length
   ·exact .inr ⟨h1,a,h⟩
   ·exact .inl h1
 have hdx:Wx x Zx:=⟨x1,x2⟩
 have hdy:Wx y Zy:=⟨y1,y2⟩
 have hdb:Wx (x++10::y) Zb:=⟨b1,b2⟩
 have hrx:=XY (by omega) hdx
 have hry:=XY (by omega) hdy
 have hpr:=abK (by omega) he hdx hdy hdb
 have hfx:=hdx.full
 have hfy:=hdy.full
 have hax:(vP (x++10::y)).1=(vP x).1++(vP y).1:=by rw [X4 (by omega) he]
 have htx:=(VO (src:=x) (by omega)).1
 have hty:=(VO (src:=y) (by omega)).1
 have hdfx:=KF (src:=x) (by omega)
 have hdfy:=KF (src:=y) (by omega)
 rw [hax] at cdb
 have lx64:(Zx.take 64).length≤64:=by rw [List.length_take];omega
 have ly64:(Zy.take 64).length≤64:=by rw [List.length_take];omega
 have hrx':∀p∈Zx.take 64,0≤p.1∧p.1≤100000:=fun p hp=>by have:=hrx p (List.mem_of_mem_take hp);omega
 have hry':∀p∈Zy.take 64,0≤p.1∧p.1≤100000:=fun p hp=>by have:=hry p (List.mem_of_mem_take hp);omega
 have hW:(Zx.take 64).length≠64→(Zy.take 64).length≠64→Zb.take 64=(Zx.take 64++(Zy.take 64).map (shP (x.length+1))).take 64:=fun g1 g2=>by
  rw [hpr g1 g2,(hfx g1).1,(hfy g2).1]
 clear hpr hfx hfy hrx hry x1 x2 y1 y2 b1 b2 hdx hdy hdb hed he hax
 generalize Zx.take 64=PX at *
 generalize Zy.take 64=PY at *
 generalize Zb.take 64=PB at *
 generalize (vP x).1=LX at *
 generalize (vP y).1=LY at *
 have lnP:∀L:List Pb,(slf true (L.map dU))=.ns∧L=[]∨(slf true (L.map dU))=.sl (L.map dU):=fun L=>by
  cases L with
  | nil=>exact .inl ⟨rfl,rfl⟩
  | cons a l=>exact .inr rfl
 have lnA:∀L:List Ax,(slf true (L.map fG))=.ns∧L=[]∨(slf true (L.map fG))=.sl (L.map fG):=fun L=>by
  cases L with
  | nil=>exact .inl ⟨rfl,rfl⟩
  | cons a l=>exact .inr rfl
 obtain ⟨j0,hL0⟩:=ac8 x y (by omega) (slf true (LX.map fG)) (slf true (LY.map fG)) (slf true ((LX++LY).map fG)) (slf true (PB.map dU)) PY hry' (by omega) [] ⟨0,0⟩ PY 0 PX rfl (by omega)
 have hsA:∀(v:AV) (s:St) (cx:Ctx),SlV v ((LX++LY).map fG)→ah P0 (.fn (.func mJ) [] []) [slf true ((LX++LY).map fG),v] s cx=.ret (.b true) s:=fun v s cx h=>aeZ (ZR _ _) h (fun a ha=>by
  rcases List.mem_append.1 ha with h|h
  ·exact (htx a h).sm
  ·exact (hty a h).sm) (by simp;omega) s cx
 have hsA1:=fun s cx=>hsA (.sl ((LX++LY).map fG)) s cx (.inl rfl)
 have cA:∀L:List Ax,((L.map fG).all fun e=>e.cells.length == 16)=true:=fun L=>by simp [XU]
 have mA:LX.length+LY.length≤dK:=by simp only [dK];omega
 have mA':LX.length≤dK:=by simp only [dK];omega
 have mP:PX.length≤dK:=by simp only [dK];omega
 have hne:¬(fM x).1=[]:=by intro h;rw [h] at hpos;simp at hpos
 have c1:∀{o:CO},(((1:Int)<((fM x).1.length:Int))→∀a:Nat,(fM x).1.length - 2<(fM x).1.length→(fM x).1[(fM x).1.length - 2]?=some ((3:Int),([46]:List UInt8),a)→o=.ret (.b true) [])→(¬((1:Int)<((fM x).1.length:Int))→o=.ret (.b true) [])→o=.ret (.b true) []:=fun h1 h2=>by
  rcases hcond with h|⟨h,a,h'⟩
  ·exact h2 (by omega)
  ·exact h1 (by omega) a (by omega) h'
 clear hcond
 have hw2:=fun h=>h2 (fM x).1.length h hTl
 generalize (fM x).1=T at *
 have hsP:PX.length≠64→PY.length≠64→∀(s:St) (cx:Ctx),ah P0 (.fn (.func kS) [] []) [slf true (PB.map dU),.sl (((PX++PY.map (shP (x.length+1))).take 64).map dU)] s cx=.ret (.b true) s:=fun g1 g2 s cx=>by
  have hWW:=hW g1 g2
  rw [←hWW];exact aeY (ZR _ _) (.inl rfl) (by rw [hWW,List.length_take];omega) s cx
 have allX:=GZ PX
 have lD:(PX++PY.map (shP (x.length+1))).length≤dK:=by simp [dK];omega
 clear hW
 generalize PX++PY.map (shP (x.length+1))=D at *
 have allD:=GZ D
 have dcase:(PX.length=64∨(PX.length≠64∧PY.length=64))∨(PX.length≠64∧PY.length≠64):=by omega
 have d64:(64<D.length∧(64:Int)<(D.length:Int)∧64≤D.length)∨(¬(64:Int)<(D.length:Int)∧D.take 64=D):=by
  by_cases h:64<D.length
  ·exact .inl ⟨h,by omega,by omega⟩
  ·exact .inr ⟨by omega,List.take_of_length_le (by omega)⟩
 simp only [List.map_append] at hL0 hsA1
 simp at hL0
 refine c1 (fun i1 a i2 i3=>?_) (fun i1=>?_)
 ·have i4:T[T.length - 2]=((3:Int),([46]:List UInt8),a):=by rw [List.getElem?_eq_getElem i2] at i3;exact Option.some.inj i3
  have i5:=hw2 (by omega)
  rcases dcase with (g|⟨g0,g⟩)|⟨g1,g2⟩
  ·have g':(PX.length:Int)=64:=by omega
   simp [af,aP,hs,hf,hl,List.range_succ,ct,splice,i1,i2,i4,i5,dR,hne,cdx,cdy,cdb,cellsB,XA,m1,m2,m3,m3',o1,g']
  ·have g0':¬(PX.length:Int)=64:=by omega
   have g':(PY.length:Int)=64:=by omega
   simp [af,aP,hs,hf,hl,List.range_succ,ct,splice,i1,i2,i4,i5,dR,hne,cdx,cdy,cdb,cellsB,XA,m1,m2,m3,m3',o1,g0',g']
  ·have g1':¬(PX.length:Int)=64:=by omega
   have g2':¬(PY.length:Int)=64:=by omega
   have hsP':=hsP g1 g2
   rcases d64 with ⟨d1,d2,d3⟩|⟨d1,d2⟩
   ·simp at hsP'
    simp [af,aP,hs,hf,hl,List.range_succ,ct,splice,i1,i2,i4,i5,dR,hne,cdx,cdy,cdb,cellsB,XA,m1,m2,m3,m3',o1,g1',g2',mP,mA,mA',allX,allD,cA,hL0,d1,d2,d3,hsA1,hsP']
   ·rw [d2] at hsP'
    have tkD:List.take D.length (D.map dU)=D.map dU:=List.take_of_length_le (by simp)
    simp [af,aP,hs,hf,hl,List.range_succ,ct,splice,i1,i2,i4,i5,dR,hne,cdx,cdy,cdb,cellsB,XA,m1,m2,m3,m3',o1,g1',g2',mP,mA,mA',allX,allD,cA,hL0,d1,tkD,hsA1,hsP']
 ·skip
  rcases dcase with (g|⟨g0,g⟩)|⟨g1,g2⟩
  ·have g':(PX.length:Int)=64:=by omega
   simp [af,aP,hs,hf,hl,List.range_succ,ct,splice,i1,dR,hne,cdx,cdy,cdb,cellsB,XA,m1,m2,m3,m3',o1,g']
  ·have g0':¬(PX.length:Int)=64:=by omega
   have g':(PY.length:Int)=64:=by omega
   simp [af,aP,hs,hf,hl,List.range_succ,ct,splice,i1,dR,hne,cdx,cdy,cdb,cellsB,XA,m1,m2,m3,m3',o1,g0',g']
  ·have g1':¬(PX.length:Int)=64:=by omega
   have g2':¬(PY.length:Int)=64:=by omega
   have hsP':=hsP g1 g2
   rcases d64 with ⟨d1,d2,d3⟩|⟨d1,d2⟩
   ·simp at hsP'
    simp [af,aP,hs,hf,hl,List.range_succ,ct,splice,i1,dR,hne,cdx,cdy,cdb,cellsB,XA,m1,m2,m3,m3',o1,g1',g2',mP,mA,mA',allX,allD,cA,hL0,d1,d2,d3,hsA1,hsP']
   ·rw [d2] at hsP'
    have tkD:List.take D.length (D.map dU)=D.map dU:=List.take_of_length_le (by simp)
    simp [af,aP,hs,hf,hl,List.range_succ,ct,splice,i1,dR,hne,cdx,cdy,cdb,cellsB,XA,m1,m2,m3,m3',o1,g1',g2',mP,mA,mA',allX,allD,cA,hL0,d1,tkD,hsA1,hsP']
end Go.Ai.Z
