/-
 The examples of the chapter on syntax.
-/
import Derived.Test.YtpnlnnfcaeednaaGreatDoorAiC2
import Derived.Test.YtpnlnnfcaeednaaGreatDoorAiB2
import Derived.Test.YtpnlnnfcaeednaaGreatDoorAiDat
import Derived.Test.YtpnlnnfcaeednaaGreatDoorAiY12X3X4
import Derived.Test.YtpnlnnfcaeednaaGreatDoorAiKGKH
import Derived.Test.YtpnlnnfcaeednaaGreatDoorAiX5X6X7X8X9
import Derived.Test.YtpnlnnfcaeednaaGreatDoorAiX11X12X13X14X15X16X17
set_option maxRecDepth 100000
set_option linter.unusedSimpArgs false
set_option linter.unusedVariables false
set_option linter.unusedSectionVars false
namespace Go.Ai.Z
theorem aem:jJ P0 200 (.fn (.func yj) [] []) [] [] ⟨0,0⟩=.ret (.b true) []:=by kernel_rfl
end Go.Ai.Z
namespace Go.Ai
open Go.ChangeShapes Go.WideShapes Go.WideElems
section
variable {H:Type} {enc:TypeId×Value→H} {P:Program} {W:World}
theorem YH {R Z:TypeId} (uR:P.underlying R=some (.slice Z)) (uZ:P.underlying Z=some (.int .u8)) (cZ:P.cellsOf Z=1) (bZ:0<P.bytesOf Z)
  {r:Go.Reach} {b0:Nat} {v:Value} {d:DataW H} {p:List MemPlace} (hok:Value.okWide P W r b0 R v) (h:DataW.Trod enc P W 0 (fun _=>true) true R v d p) (hl:Light P R d):
  ∃l:List UInt8,l.length≤1125899906842624∧Rep (g0 W) 0 v (.sl (aA l)):=by
 obtain ⟨a,len,cap,rfl⟩:=okWide_slice uR hok
 obtain ⟨fuel,hf⟩:=h
 simp only [Value.cells] at hf
 obtain ⟨es,q1,q2,⟨r4,a4⟩⟩:=adQ uR cZ (by omega) bZ (fun a=>∃b:UInt8,a=.i .u8 b.toNat∧True) hf hl (fun m hm cs y hy hly=>by
  obtain ⟨n,h1,h2,hr⟩:=agv uZ hy
  have e1:(0:Int)≤n:=h1
  have e2:n≤255:=h2
  refine ⟨.i .u8 n,⟨UInt8.ofNat n.toNat, ?_,trivial⟩,rfl,hr⟩
  congr 1
  simp
  omega)
 obtain ⟨l,rfl,_⟩:=Xt q1
 have hb:reachBytes≤1125899906842624:=by decide
 simp only [List.length_map] at q2
 exact ⟨l,by omega,r4.head⟩
end
end Go.Ai
namespace Go.Ai.Z
def EF:List (List UInt8)→Nat
 | []=>0
 | x::r=>x.length+EF r
theorem NQ (s:St) (cx:Ctx) (L:List (List UInt8)) (hL:EF L≤4000000000000000) (hN:L.length≤1000):∀(rest:List (List UInt8)) (i n:Nat) (v5:AV),L.drop i=rest→n+EF rest≤4000000000000000→
  ∃(j:Int) (v5':AV),eX (aC P0.glob (ah P0) cx false wJ) [3,6,7,8] [(3,.v (.i .i64 n)),(6,.v (.sl (L.map fun x=>.sl (aA x)))),(7,.v (.i .i64 L.length)),(8,.v (.i .i64 i))] s=
    .exit 0 [(3,.v (.i .i64 (n+EF rest:Nat))),(6,.v (.sl (L.map fun x=>.sl (aA x)))),(7,.v (.i .i64 L.length)),(8,.v (.i .i64 j)),(9,.v (.b false))] s
 | [],i,n,v5,h,hn=>by
  have h1:¬i<L.length:=Nat.not_lt.2 (drop_nil h)
  refine ⟨i,v5,ak fun K hK=>?_⟩
  simp [wJ,h1,EF]
 | x::r,i,n,v5,h,hn=>by
  obtain ⟨h1,h2,h3,h4⟩:=drop_cons h
  have h5:=h4 h3
  have hx:(L.map fun x=>AV.sl (aA x))[i]?=some (.sl (aA x)):=by simp [h1]
  have hwi:=wI (i:=i) (by omega)
  have hsum:EF (x::r)=x.length+EF r:=rfl
  have hb:(aA x).length=x.length:=by simp [aA]
  have w1:IntKind.i64.wrap ((n:Int)+(x.length:Int))=((n+x.length:Nat):Int):=by rw [w64 (by omega) (by omega)];omega
  obtain ⟨j,v,ih⟩:=NQ s cx L hL hN r (i+1) (n+x.length) .u h2 (by omega)
  refine ⟨j,v,ak fun K hK=>?_⟩
  rw [←hK] at ih
  rw [show n+EF (x::r)=n+x.length+EF r by omega]
  clear hK h4
  simp at ih
  simp [wJ,h3,h5,hwi,hb,w1]
  exact ih
theorem Ya (L:List (List UInt8)) (hL:EF L≤4000000000000000) (hN:L.length≤1000) (s:St) (cx:Ctx):ah P0 (.fn (.func zi) [] []) [.sl (L.map fun x=>.sl (aA x))] s cx=.ret (.b (decide (EF L≤3000))) s:=by
 obtain ⟨j,v,h⟩:=NQ s ⟨s.length,s.length⟩ L hL hN L 0 0 .u rfl (by omega)
 refine VD (by simp) ?_
 simp at h
 have hcast:((EF L:Int)≤3000) ↔ EF L≤3000:=by omega
 by_cases hs:EF L≤3000
 ·have:(EF L:Int)≤3000:=by omega
  simp [af,xP,h,hs,this]
 ·have:¬(EF L:Int)≤3000:=by omega
  simp [af,xP,h,hs,this]
end Go.Ai.Z
namespace Go.Ai.Z
theorem acy {l r:List Tok} {x:Ax} (hw:WT l) (h:xq l=.ok x r):r.length+2≤l.length:=by
 rcases nP h with ⟨k,h⟩|h
 ·have:=Af hw k (by decide);have:=(kY (N7 this.1) h).2;omega
 rcases nP h with ⟨k,h⟩|h
 ·have:=Af hw k (by decide);have:=(kY (Uo this.1) h).2;omega
 rcases nP h with ⟨k,h⟩|h
 ·have:=Af hw k (by decide);have:=(kY (Rj this.1) h).2;omega
 rcases nP h with ⟨k,h⟩|h
 ·have:=Af hw k (by decide);have:=(kY (Ur this.1) h).2;omega
 rcases nP h with ⟨k,h⟩|h
 ·have:=Af hw k (by decide);have:=(kY (NW this.1) h).2;omega
 rcases nP h with ⟨k,h⟩|h
 ·have:=Af hw k (by decide);have:=(kY (Us this.1) h).2;omega
 ·obtain ⟨c,l1,e1,h⟩:=aB.1 h
  obtain ⟨w1,s1⟩:=kY (mP hw) e1
  rcases nP h with ⟨k,h⟩|h
  ·have:=Af w1 k (by decide);have:=(kY (zX _ _ this.1) h).2;omega
  rcases nP h with ⟨k,h⟩|h
  ·have:=Af w1 k (by decide);have:=(kY (zX _ _ this.1) h).2;omega
  rcases nP h with ⟨k,h⟩|h
  ·have:=Af w1 k (by decide);have:=(kY (zX _ _ this.1) h).2;omega
  ·cases h
theorem abX {l r:List Tok} {x:Ax} (hw:WT l) (h:BG l=.ok x r):r.length+2≤l.length:=by
 have st:∀{o p:Bool} {l:List Tok},WT l→pSt o p l=.ok x r→r.length+2≤l.length:=by
  intro o p l hw h
  obtain ⟨y,l1,e1,h⟩:=aB.1 h
  have:=acy hw e1
  cases h;exact this
 rcases nP h with ⟨k,h⟩|h
 ·have:=Af hw k (by decide);have:=st this.1 h;omega
 rcases nP h with ⟨k,h⟩|h
 ·have:=Af hw k (by decide);have:=st this.1 h;omega
 ·exact st hw h
theorem abI {l r:List Tok} {x:Ax} (hw:WT l) (h:vV l=.ok x r):r.length+3≤l.length:=by
 unfold vV at h
 obtain ⟨y,l1,e1,h⟩:=aB.1 h
 obtain ⟨u,l2,e2,h⟩:=aB.1 h
 cases h
 have w1:=(kY (D9 hw) e1).1
 have h1:=abX hw e1
 have h2:=(kY (oL (w:=[46]) (by decide) w1) e2).2
 omega
theorem RH:∀(n:Nat) {T r:List Tok},Suf T r→3 * (rY n r).1.length≤r.length
 | 0,T,r,h=>by simp [rY]
 | n+1,T,r,h=>by
  by_cases hk:(hT r).1=4
  ·rw [AO hk];simp
  ·obtain ⟨h1,h2⟩:=J7 h hk
   have ih:=RH n h1
   rw [yK n hk]
   split
   ·simp only [];omega
   ·rename_i hb
    have h3:(nI r).2.length+3≤r.length:=by
     unfold nI at hb ⊢
     cases hp:vV r with
     | er a c q=>rw [hp] at hb;exact absurd rfl hb
     | ok x q=>exact abI h.w hp
    simp only [List.length_cons];omega
theorem ahr {l:List Tok} (h:WT l):2 * l.length≤tw l+1:=by
 induction h with
 | fin a=>simp [tw]
 | cons t r h1 h2 ih=>
  have:=List.length_pos_iff.2 h1.ne
  simp only [List.length_cons,tw];omega
theorem VJ {src:List UInt8} (h:src.length≤3065):(wu src).1.length≤1024:=by
 obtain ⟨hw,htw⟩:=zI (src:=src) (by omega)
 rw [DZ] at hw htw
 have h1:=RH (jA src).1.length (Jw hw).1
 have h2:=ahr hw
 unfold wu
 omega
end Go.Ai.Z
namespace Go.Ai.Z
end Go.Ai.Z
namespace Go.Ai.Z
theorem KP (n:Int) (s:St) (cx:Ctx):ah P0 (.fn (.func jv) [] []) [.i .i64 n,.i .i64 n] s cx=.ret (.i .i64 0) s:=by
 refine Rn (by simp) ?_
 simp [af,xO]
theorem AX (n:List UInt8) (s:St) (cx:Ctx):ah P0 (.fn (.func jW) [] []) [.s n,.s n] s cx=.ret (.i .i64 0) s:=by
 refine MC (by simp) ?_
 simp [af,vg,ac6]
theorem FT (s:St) (cx:Ctx) (c:C) (hw:wC c≤100000) (ih:∀p∈c.parts,∀(s:St) (cx:Ctx),ah P0 (.fn (.func lI) [] []) [bD p,bD p] s cx=.ret (.i .i64 0) s):
  ∀(rest:List C) (i:Nat),c.parts.drop i=rest→
  ∃j:Int,eX (aC P0.glob (ah P0) cx false qU) [2,3,5,6] [(2,.bx (bD c).cells),(3,.bx (bD c).cells),(5,.v (.i .i64 0)),(6,.v (.i .i64 i))] s=
   .exit 0 [(2,.bx (bD c).cells),(3,.bx (bD c).cells),(5,.v (.i .i64 0)),(6,.v (.i .i64 j)),(55,.v (.b false))] s
 | [],i,h=>by
  have h1:¬i<c.parts.length:=Nat.not_lt.2 (drop_nil h)
  refine ⟨i,ak fun K hK=>?_⟩
  simp [qU,h1]
 | p::r,i,h=>by
  obtain ⟨h1,h2,h3,h4⟩:=drop_cons h
  have h5:=h4 h3
  have hp:p∈c.parts:=by rw [←h5];exact List.getElem_mem h3
  have hl:=yE c.parts
  have hwi:=wI (i:=i) (by rw [qm] at hw;omega)
  obtain ⟨j,ih2⟩:=FT s cx c hw ih r (i+1) h2
  refine ⟨j,ak fun K hK=>?_⟩
  rw [←hK] at ih2
  have e1:=ih p hp
  clear hK h4 ih
  simp at ih2
  simp [qU,h3,h5,hwi,e1,ih2]
theorem Gl:∀(c:C),wC c≤100000→∀(s:St) (cx:Ctx),ah P0 (.fn (.func lI) [] []) [bD c,bD c] s cx=.ret (.i .i64 0) s:=by
 refine C.ind' fun c ih hw s cx=>?_
 have hw':=hw
 rw [qm] at hw'
 obtain ⟨j,h⟩:=FT s ⟨s.length,s.length⟩ c hw (fun p hp=>ih p hp (by have:=wM hp;omega)) c.parts 0 rfl
 have e1:=Ej c hw
 refine MF (by simp) ?_
 simp at h
 simp [af,vw,h,e1,KP,AX]
def abZ (c:Bool) (n m:Int):Int:=if c=true then IntKind.i64.wrap (n+m) else n
theorem X8 (x:Ax) (hl:wC x.left≤100000) (hr:wC x.right≤100000) (s:St) (cx:Ctx):ah P0 (.fn (.func rU) [] []) [fO x] s cx=
  .ret (.i .i64 (abZ (!x.b.isEmpty) (abZ (!x.a.isEmpty) (abZ (!x.role.isEmpty) (abZ (!decide (x.right.kind=0)) (abZ (!decide (x.left.kind=0)) x.roles.length (dR x.left)) (dR x.right)) 1) 1) 1)) s:=by
 have e1:=Ej x.left hl
 have e2:=Ej x.right hr
 refine OU (by simp) ?_
 by_cases h1:x.left.kind=0<;>by_cases h2:x.right.kind=0<;>rcases h3:x.role.isEmpty with _ | _<;>rcases h4:x.a.isEmpty with _ | _<;>rcases h5:x.b.isEmpty with _ | _ <;>
  simp [af,wH,abZ,e1,e2,h1,h2,h3,h4,h5]
theorem J5 (s:St) (cx:Ctx) (x:Ax) (hx:x.roles.length≤100000):∀(rest:List (List UInt8)) (i:Nat),x.roles.drop i=rest→
  ∃j:Int,eX (aC P0.glob (ah P0) cx false mO) [2,3,5,6] [(2,.bx (fO x).cells),(3,.bx (fO x).cells),(5,.v (.i .i64 0)),(6,.v (.i .i64 i))] s=
   .exit 0 [(2,.bx (fO x).cells),(3,.bx (fO x).cells),(5,.v (.i .i64 0)),(6,.v (.i .i64 j)),(48,.v (.b false))] s
 | [],i,h=>by
  have h1:¬i<x.roles.length:=Nat.not_lt.2 (drop_nil h)
  refine ⟨i,ak fun K hK=>?_⟩
  simp [mO,h1]
 | p::r,i,h=>by
  obtain ⟨h1,h2,h3,h4⟩:=drop_cons h
  have h5:=h4 h3
  have hwi:=wI (i:=i) (by omega)
  obtain ⟨j,ih2⟩:=J5 s cx x hx r (i+1) h2
  refine ⟨j,ak fun K hK=>?_⟩
  rw [←hK] at ih2
  clear hK h4
  simp at ih2
  simp [mO,h3,h5,hwi,ih2,AX]
theorem VW (x:Ax) (hl:wC x.left≤100000) (hr:wC x.right≤100000) (hx:x.roles.length≤100000) (s:St) (cx:Ctx):ah P0 (.fn (.func nD) [] []) [fO x,fO x] s cx=.ret (.i .i64 0) s:=by
 obtain ⟨j,h⟩:=J5 s ⟨s.length,s.length⟩ x hx x.roles 0 rfl
 have e1:=X8 x hl hr
 have e2:=Gl x.left hl
 have e3:=Gl x.right hr
 refine EZ (by simp) ?_
 simp at h
 simp [af,pI,h,e1,e2,e3,KP,AX]
def SlV (v:AV) (es:List AV):Prop:=v=.sl es∨(v=.ns∧es=[])
theorem ZO (z:Bool) (es:List AV):SlV (slf z es) es:=by
 cases es with
 | nil=>cases z<;>first|exact .inr ⟨rfl,rfl⟩|exact .inl rfl
 | cons a l=>exact .inl (by cases z<;>rfl)
theorem SlV.nil {v:AV} (h:SlV v []):v=.sl []∨v=.ns:=by
 rcases h with h|h
 ·exact .inl h
 ·exact .inr h.1
theorem SlV.cons {v a:AV} {l:List AV} (h:SlV v (a::l)):v=.sl (a::l):=by
 rcases h with h|h
 ·exact h
 ·cases h.2
structure SmA (a:Ax):Prop where
 l:wC a.left≤1000
 r:wC a.right≤1000
 n:a.roles.length≤1000
theorem TdA.sm {a:Ax} (h:TdA a):SmA a:=⟨by have:=h.f.l;omega,by have:=h.f.r;omega,by have:=h.f.roles;omega⟩
theorem aaf (Z:List Ax) (hZ:∀a∈Z,SmA a) (hN:Z.length≤100000) (s:St) (cx:Ctx):∀(rest:List Ax) (i:Nat),Z.drop i=rest→
  ∃j:Int,eX (aC P0.glob (ah P0) cx false jC) [0,1,5] [(0,.v (.sl (Z.map fO))),(1,.v (.sl (Z.map fO))),(5,.v (.i .i64 i))] s=
   .exit 0 [(0,.v (.sl (Z.map fO))),(1,.v (.sl (Z.map fO))),(5,.v (.i .i64 j)),(14,.v (.b false))] s
 | [],i,h=>by
  have h1:¬i<Z.length:=Nat.not_lt.2 (drop_nil h)
  refine ⟨i,ak fun K hK=>?_⟩
  simp [jC,h1]
 | p::r,i,h=>by
  obtain ⟨h1,h2,h3,h4⟩:=drop_cons h
  have h5:=h4 h3
  have hp:p∈Z:=by rw [←h5];exact List.getElem_mem h3
  have hwi:=wI (i:=i) (by omega)
  have ⟨a1,a2,a3⟩:=hZ p hp
  have e1:=VW p (by omega) (by omega) (by omega)
  obtain ⟨j,ih⟩:=aaf Z hZ hN s cx r (i+1) h2
  refine ⟨j,ak fun K hK=>?_⟩
  rw [←hK] at ih
  clear hK h4
  simp at ih
  rcases Bool.eq_false_or_eq_true p.op with o|o<;>have g:=aeF o<;>simp [jC,h3,h5,hwi,ih,e1,o,g]
theorem aeX {va vb:AV} {Z:List Ax} (ha:SlV va (Z.map fO)) (hb:SlV vb (Z.map fO)) (hZ:∀a∈Z,SmA a) (hN:Z.length≤100000) (s:St) (cx:Ctx):ah P0 (.fn (.func mD) [] []) [va,vb] s cx=.ret (.b true) s:=by
 refine H9 (by simp) ?_
 cases Z with
 | nil=>
  have hL:∀va vb:AV,(va=.sl []∨va=.ns)→(vb=.sl []∨vb=.ns)→eX (aC P0.glob (ah P0) ⟨s.length,s.length⟩ false jC) [0,1,5] [(0,.v va),(1,.v vb),(5,.v (.i .i64 0))] s=
    .exit 0 [(0,.v va),(1,.v vb),(5,.v (.i .i64 0)),(14,.v (.b false))] s:=fun va vb h1 h2=>by
   refine ak fun K hK=>?_
   rcases h1 with rfl|rfl<;>rcases h2 with rfl|rfl<;>simp [jC]
  have h1:=hL va vb ha.nil hb.nil
  rcases ha.nil with rfl|rfl<;>rcases hb.nil with rfl|rfl<;>simp [af,nX,h1]
 | cons p q=>
  obtain ⟨j,h⟩:=aaf (p::q) hZ hN s ⟨s.length,s.length⟩ _ 0 rfl
  have e1:va=.sl ((p::q).map fO):=ha.cons
  have e2:vb=.sl ((p::q).map fO):=hb.cons
  subst e1 e2
  generalize p::q=Z at *
  simp at h
  simp [af,nX,h]
end Go.Ai.Z
namespace Go.Ai.Z
theorem Vu (s:St) (cx:Ctx) (p:Nat) (hp:s[p]?=some (.cells wO)) (B:List Tok) (hB:∀t∈B,Sc t) (hN:B.length≤100000):∀(rest:List Tok) (i:Nat) (w:List UInt8),B.drop i=rest→w.length+tw rest+rest.length≤1000000→
  ∃j:Int,eX (aC P0.glob (ah P0) cx false rF) [2,5,32,33,34] [(2,.own false jR 1 (aA w)),(5,.v (.pt p 0)),(32,.v (.sl (B.map dN))),(33,.v (.i .i64 B.length)),(34,.v (.i .i64 i))] s=
   .exit 0 [(2,.own false jR 1 (aA (w++if i=0 then o6 rest else vM rest))),(5,.v (.pt p 0)),(32,.v (.sl (B.map dN))),(33,.v (.i .i64 B.length)),(34,.v (.i .i64 j)),(35,.v (.b false))] s
 | [],i,w,h,hw=>by
  have h1:¬i<B.length:=Nat.not_lt.2 (drop_nil h)
  refine ⟨i,ak fun K hK=>?_⟩
  have e:(if i=0 then o6 [] else vM [])=[]:=by split<;>rfl
  rw [e]
  simp [rF,h1]
 | t::r,i,w,h,hw=>by
  obtain ⟨h1,h2,h3,h4⟩:=drop_cons h
  have h5:=h4 h3
  have ht:t∈B:=by rw [←h5];exact List.getElem_mem h3
  obtain ⟨s1,s2,s3,_,_⟩:=hB t ht
  have hwi:=wI (i:=i) (by omega)
  simp only [tw,List.length_cons] at hw
  have e1:=fun s cx hp=>KQ s cx p hp t.2.1 (by omega) s3
  rw [s1] at e1
  obtain ⟨k,z,a⟩:=t
  simp only [] at e1 s1 s2 s3 hw
  have lw:(aA w).length=w.length:=by simp [aA]
  have m1:w.length+1≤eu:=by simp only [eu];omega
  have m2:w.length+z.length≤eu:=by simp only [eu];omega
  have m3:w.length+1+z.length≤eu:=by simp only [eu];omega
  have hie:z.isEmpty=false:=by cases z with|nil=>exact absurd rfl s3|cons a b=>rfl
  have w1:IntKind.i64.wrap 1=1:=rfl
  have hcw:((aA w).all fun e=>e.cells.length == 1)=true:=by simp [aA]
  rcases Nat.eq_zero_or_pos i with hi|hi
  ·subst hi
   obtain ⟨j,ih⟩:=Vu s cx p hp B hB hN r 1 (w++z) h2 (by simp;omega)
   refine ⟨j,ak fun K hK=>?_⟩
   rw [←hK] at ih
   clear hK h4
   have e2:=fun cx=>e1 s cx hp
   have eb:aA (w++z)=aA w++aA z:=by simp [aA]
   rw [eb] at ih
   rw [if_neg (by omega),show ((1:Nat):Int)=1 from rfl] at ih
   rw [if_pos rfl,o6]
   simp only [List.append_assoc] at ih ⊢
   simp [rF,h3,h5,hwi,dN,splice,hie,w1,e2,s2,lw,m2]
   exact ih
  ·obtain ⟨j,ih⟩:=Vu s cx p hp B hB hN r (i+1) (w++32::z) h2 (by simp;omega)
   refine ⟨j,ak fun K hK=>?_⟩
   rw [←hK,show ((i+1:Nat):Int)=(i:Int)+1 from rfl] at ih
   clear hK h4
   have e2:=fun cx=>e1 s cx hp
   have eb:aA (w++32::z)=aA w++(AV.i .u8 32::aA z):=by simp [aA]
   rw [eb] at ih
   rw [if_neg (by omega)] at ih
   rw [if_neg (by omega),vM]
   simp only [List.append_assoc] at ih ⊢
   simp [rF,h3,h5,hwi,dN,splice,hie,e2,s2,lw,m1,m3,hi,hcw]
   exact ih
theorem Nj (n:Nat):∀l:List UInt8,dA n (l.map fun x=>AV.i .u8 x.toNat)=true
 | []=>rfl
 | a::r=>by simp [dA,Nj n r,AV.under]
theorem agI (B:List Tok) (n:Nat) (hB:∀t∈B,Sc t) (hN:B.length≤100000) (hw:tw B+B.length≤1000000) (hlen:(o6 B).length≤65536) (s:St) (cx:Ctx) (hcx:cx.lim≤s.length):
  ah P0 (.fn (.func yh) [] []) [.sl ((B++[(4,[],n)]).map dN)] s cx=.ret (.tu [.sl (aA (o6 B)),.i .i64 0]) s:=by
 obtain ⟨j,h⟩:=Vu (s++[.cells wO]) ⟨s.length,s.length⟩ s.length (by simp) B hB hN B 0 [] rfl (by simp;omega)
 have hlast:(B++[((4:Int),([]:List UInt8),n)]).length=B.length+1:=by simp
 have hw1:IntKind.i64.wrap ((B.length:Int)+1 - 1)=(B.length:Int):=by rw [w64 (by omega) (by omega)];omega
 have hcl:=EC
 have hlen':¬(65536:Int)<((o6 B).length:Int):=by omega
 have lw:(aA (o6 B)).length=(o6 B).length:=by simp [aA]
 have htk:List.take B.length (B.map dN++[AV.ag [.i .i64 4,.s [],.i .i64 n]])=B.map dN:=by
  rw [List.take_append_of_le_length (by simp),List.take_of_length_le (by simp)]
 have hcc:((B.map dN++[AV.ag [.i .i64 4,.s [],.i .i64 n]]).all fun e=>e.cells.length == 3)=true:=by simp [dN]
 have hlt:B.length<B.length+1:=by omega
 refine Tf (by simp) ?_
 rw [if_pos rfl,List.nil_append] at h
 have htl:wO.length=256:=by simp [wO]
 have hto:wO.all AV.one=true:=by simp [wO]
 have htf:wO.all AV.flat=true:=by simp [wO]
 have hz:¬((B.length:Int)+1=0):=by omega
 have hw2:IntKind.i64.wrap (B.length:Int)=(B.length:Int):=w64 (by omega) (by omega)
 have hg:(B.map dN++[AV.ag [.i .i64 4,.s [],.i .i64 n]])[B.length]?=some (AV.ag [.i .i64 4,.s [],.i .i64 n]):=by simp
 simp only [show aA []=[] from rfl,show ((0:Nat):Int)=0 from rfl] at h
 simp [af,yU,dN,splice,hz,hw1,hw2,hg,hcl,htk,h,lw,hlen']
 have hu:dA s.length (aA (o6 B))=true:=Nj _ _
 simp [frz,AV.under,dA,hu]
theorem Y0 (v8 v11 v12:AV) (Z:List Pb) (hN:Z.length≤100000) (s:St) (cx:Ctx):∀(rest:List Pb) (i:Nat) (C:List Int),Z.drop i=rest→C.length+rest.length≤200000→
  ∃j:Int,eX (aC P0.glob (ah P0) cx false jH) [8,11,12,14,74,75,76] [(8,.v v8),(11,.v v11),(12,.v v12),(14,.own false qM 1 (C.map (.i .i64))),(74,.v (slf true (Z.map fZ))),(75,.v (.i .i64 Z.length)),(76,.v (.i .i64 i))] s=
   .exit 0 [(8,.v v8),(11,.v v11),(12,.v v12),(14,.own false qM 1 ((C++(rest.filter fun p=>decide (p.2≠10)).map fun p=>p.2).map (.i .i64))),(74,.v (slf true (Z.map fZ))),(75,.v (.i .i64 Z.length)),(76,.v (.i .i64 j)),(77,.v (.b false))] s
 | [],i,C,h,hC=>by
  have h1:¬i<Z.length:=Nat.not_lt.2 (drop_nil h)
  refine ⟨i,ak fun K hK=>?_⟩
  simp [jH,h1]
 | p::r,i,C,h,hC=>by
  obtain ⟨h1,h2,h3,h4⟩:=drop_cons h
  have h5:=h4 h3
  have hp:p∈Z:=by rw [←h5];exact List.getElem_mem h3
  have hwi:=wI (i:=i) (by omega)
  have hne:Z.map fZ≠[]:=by intro h;rw [List.map_eq_nil_iff] at h;rw [h] at hp;cases hp
  simp only [List.length_cons] at hC
  have m1:C.length+1≤eu:=by simp only [eu];omega
  obtain ⟨a,c⟩:=p
  by_cases hc:c=10
  ·obtain ⟨j,ih⟩:=Y0 v8 v11 v12 Z hN s cx r (i+1) C h2 (by omega)
   refine ⟨j,ak fun K hK=>?_⟩
   rw [←hK,show ((i+1:Nat):Int)=(i:Int)+1 from rfl] at ih
   rw [BR hne] at ih ⊢
   clear hK h4
   rw [List.filter_cons_of_neg (by simp [hc])]
   simp [jH,h3,h5,hwi,fZ,splice,hc]
   simpa [fZ] using ih
  ·obtain ⟨j,ih⟩:=Y0 v8 v11 v12 Z hN s cx r (i+1) (C++[c]) h2 (by simp;omega)
   refine ⟨j,ak fun K hK=>?_⟩
   rw [←hK,show ((i+1:Nat):Int)=(i:Int)+1 from rfl] at ih
   rw [BR hne] at ih ⊢
   clear hK h4
   rw [List.filter_cons_of_pos (by simp [hc]),List.map_cons]
   rw [List.append_assoc] at ih
   simp [jH,h3,h5,hwi,fZ,splice,hc,m1]
   simpa [fZ] using ih
theorem ac7 (v8 v11:AV) (Z:List Pb) (C:List Int) (hC:C=Z.map fun p=>p.2) (hN:Z.length≤100000) (s:St) (cx:Ctx):∀(rest:List Pb) (i:Nat),Z.drop i=rest→
  ∃j:Int,eX (aC P0.glob (ah P0) cx false lS) [8,11,12,14,95,96] [(8,.v v8),(11,.v v11),(12,.v (slf true (Z.map fZ))),(14,.own false qM 1 (C.map (.i .i64))),(95,.v (.i .i64 Z.length)),(96,.v (.i .i64 i))] s=
   .exit 2 [(8,.v v8),(11,.v v11),(12,.v (slf true (Z.map fZ))),(14,.own false qM 1 (C.map (.i .i64))),(95,.v (.i .i64 Z.length)),(96,.v (.i .i64 j)),(97,.v (.b false))] s
 | [],i,h=>by
  have h1:¬i<Z.length:=Nat.not_lt.2 (drop_nil h)
  refine ⟨i,ak fun K hK=>?_⟩
  simp [lS,h1]
 | p::r,i,h=>by
  obtain ⟨h1,h2,h3,h4⟩:=drop_cons h
  have h5:=h4 h3
  have hp:p∈Z:=by rw [←h5];exact List.getElem_mem h3
  have hwi:=wI (i:=i) (by omega)
  have hne:Z.map fZ≠[]:=by intro h;rw [List.map_eq_nil_iff] at h;rw [h] at hp;cases hp
  have hCl:i<C.length:=by rw [hC];simpa using h3
  have hCi:C[i]=p.2:=by subst hC;simp [h5]
  obtain ⟨j,ih⟩:=ac7 v8 v11 Z C hC hN s cx r (i+1) h2
  refine ⟨j,ak fun K hK=>?_⟩
  rw [←hK,show ((i+1:Nat):Int)=(i:Int)+1 from rfl] at ih
  rw [BR hne] at ih ⊢
  clear hK h4 hC
  obtain ⟨a,c⟩:=p
  simp only [] at hCi
  simp [lS,h3,h5,hwi,fZ,splice,hCl,hCi]
  simpa [fZ] using ih
end Go.Ai.Z
namespace Go.Ai.Z
theorem TK:∀l:List Tok,(vM l).length≤tw l+l.length
 | []=>by simp [vM]
 | t::r=>by have:=TK r;simp only [vM,tw,List.length_cons,List.length_append];omega
theorem aa7:∀l:List Tok,(o6 l).length≤tw l+l.length
 | []=>by simp [o6]
 | t::r=>by have:=TK r;simp only [o6,tw,List.length_cons,List.length_append];omega
theorem VH {src:List UInt8} (hl:src.length≤3065) (hj:(o6 (body src)).length≤60000):(wu (o6 (body src))).1.length≤1024:=by
 rw [(MP (by omega) hj).1];exact VJ hl
theorem aaM {x:List UInt8} (hl:x.length≤30000) (hj:(o6 (body x)).length≤60000) (hb:((lexB x).2).length≤20) {Zx Zj:List Pb} (hx:ae9 x Zx) (hy:ae9 (o6 (body x)) Zj) (h1:(Zx.take 64).length≠64) (h2:(Zj.take 64).length≠64):
  ((Zx.take 64).filter fun p=>decide (p.2≠10)).map (fun p=>p.2)=(Zj.take 64).map fun p=>p.2:=by
 obtain ⟨e1,px⟩:=hx.full h1
 obtain ⟨e2,py⟩:=hy.full h2
 obtain ⟨d1,d2⟩:=MP hl hj
 rw [e1,e2]
 have hj2:=(Ul _ (VZ x)).2
 rw [hj2,List.nil_append] at py
 have p1:=XW (src:=x) (by omega)
 have p2:=XW hj
 have ey:Zj=(wu (o6 (body x))).2:=IJ p2.1 hy.s py
 have hc:=zH x []
 have hcod:=(aaq (src:=x) (by omega)).2
 have ex:Zx.filter (fun p=>decide (p.2≠10))=(wu x).2:=by
  refine IJ p1.1 (List.Pairwise.filter _ hx.s) ((px.filter _).trans ?_)
  rw [List.filter_append]
  have f1:(jA x).2.filter (fun p=>decide (p.2≠10))=[]:=List.filter_eq_nil_iff.2 fun p hp=>by simp [(hc.x2 p hp).2.2]
  have f2:(wu x).2.filter (fun p=>decide (p.2≠10))=(wu x).2:=List.filter_eq_self.2 fun p hp=>by
   have:=hcod p hp
   simp only [Zl,List.mem_cons,List.not_mem_nil,or_false] at this
   simp;omega
  rw [f1,f2,List.nil_append]
 rw [ex,ey,d2]
theorem Tv (x:List UInt8) (hx:x.length≤1125899906842624) (hs:ah P0 (.fn (.func yj) [] []) [] [] ⟨0,0⟩=.ret (.b true) []) (cx:Ctx):
  ah P0 (.fn (.func pO) [] []) [.sl (aA x)] [] cx=.ret (.b true) []:=by
 have hf:=fun s cx=>Ya [x] (by simp [EF];omega) (by simp) s cx
 simp only [List.map_cons,List.map_nil,EF,Nat.add_zero] at hf
 refine Ec (by simp) ?_
 by_cases hl:x.length≤3000
 case neg=>simp [af,gI,hs,hf,hl,List.range_succ]
 have ct:=Wy x (by omega) [] ⟨0,0⟩ (Nat.le_refl _)
 by_cases h20:(lexB x).2.length≤20
 case neg=>
  have h20':(20:Int)<((lexB x).2.length:Int):=by omega
  generalize (lexB x).2=BB at *
  generalize (lexB x).1=TT at *
  simp [af,gI,hs,hf,hl,List.range_succ,ct,splice,h20']
 have h20':¬(20:Int)<((lexB x).2.length:Int):=by omega
 have htw:=(zI (src:=x) (by omega)).2
 have hc:=zH x []
 rw [DZ,hc.x1,Yv] at htw
 have hbl:=UY (body x)
 have hjl:=aa7 (body x)
 have hjn:(o6 (body x)).length≤40000:=by omega
 have cj:=agI (body x) x.length (VZ x) (by omega) (by omega) (by omega) [] ⟨0,0⟩ (Nat.le_refl _)
 rw [←hc.x1,←DZ] at cj
 obtain ⟨Zx,x1,x2,cdx⟩:=PI x (by omega) (VJ (by omega)) [] ⟨0,0⟩ (Nat.le_refl _)
 obtain ⟨Zj,j1,j2,cdj⟩:=PI (o6 (body x)) hjn (VH (by omega) (by omega)) [] ⟨0,0⟩ (Nat.le_refl _)
 have hax:=(MP (src:=x) (by omega) (by omega)).1
 have hcod:=aaM (by omega) (by omega) h20 ⟨x1,x2⟩ ⟨j1,j2⟩
 have htx:=(aaq (src:=x) (by omega)).1
 have hdfx:=VJ (src:=x) (by omega)
 rw [hax] at cdj
 have lx64:(Zx.take 64).length≤64:=by rw [List.length_take];omega
 have lj64:(Zj.take 64).length≤64:=by rw [List.length_take];omega
 clear x1 x2 j1 j2 hc htw hjl hjn hbl hax
 generalize Zx.take 64=PX at *
 generalize Zj.take 64=PJ at *
 generalize (wu x).1=LX at *
 generalize (lexB x).2=BB at *
 generalize (lexB x).1=TT at *
 generalize o6 (body x)=J at *
 have hsA:∀(s:St) (cx:Ctx),ah P0 (.fn (.func mD) [] []) [slf true (LX.map fO),slf true (LX.map fO)] s cx=.ret (.b true) s:=fun s cx=>aeX (ZO _ _) (ZO _ _) (fun a ha=>(htx a ha).sm) (by omega) s cx
 by_cases g1:PX.length=64
 ·have g':(PX.length:Int)=64:=by omega
  simp [af,gI,hs,hf,hl,List.range_succ,ct,splice,h20',cj,cdx,cdj,g']
 by_cases g2:PJ.length=64
 ·have g0':¬(PX.length:Int)=64:=by omega
  have g':(PJ.length:Int)=64:=by omega
  simp [af,gI,hs,hf,hl,List.range_succ,ct,splice,h20',cj,cdx,cdj,g0',g']
 have g0':¬(PX.length:Int)=64:=by omega
 have g':¬(PJ.length:Int)=64:=by omega
 have hcc:=hcod g1 g2
 obtain ⟨i0,hL0⟩:=Y0 (slf true (LX.map fO)) (slf true (LX.map fO)) (slf true (PJ.map fZ)) PX (by omega) [] ⟨0,0⟩ PX 0 [] rfl (by simp;omega)
 obtain ⟨i1,hL1⟩:=ac7 (slf true (LX.map fO)) (slf true (LX.map fO)) PJ _ rfl (by omega) [] ⟨0,0⟩ PJ 0 rfl
 rw [List.nil_append,hcc] at hL0
 have hlen:((PJ.map fun p=>p.2).map (AV.i .i64)).length=PJ.length:=by simp
 generalize (PJ.map fun p=>p.2).map (AV.i .i64)=CC at *
 simp at hL0 hL1
 simp [af,gI,hs,hf,hl,List.range_succ,ct,splice,h20',cj,cdx,cdj,g0',g',hL0,hL1,hlen,hsA]
end Go.Ai.Z
