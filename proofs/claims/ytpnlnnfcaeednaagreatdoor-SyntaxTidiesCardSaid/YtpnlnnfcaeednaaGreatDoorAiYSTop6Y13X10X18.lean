/-
 The examples of the chapter on syntax.
-/
import Derived.Test.YtpnlnnfcaeednaaGreatDoorAiC2
import Derived.Test.YtpnlnnfcaeednaaGreatDoorAiB2
import Derived.Test.YtpnlnnfcaeednaaGreatDoorAiDat
import Derived.Test.YtpnlnnfcaeednaaGreatDoorAiY12X3X4
import Derived.Test.YtpnlnnfcaeednaaGreatDoorAiKGKH
import Derived.Test.YtpnlnnfcaeednaaGreatDoorAiX5X6X7X8X9
import Derived.Test.YtpnlnnfcaeednaaGreatDoorAiX11X12X13X14X15X16
set_option maxRecDepth 100000
set_option linter.unusedSimpArgs false
set_option linter.unusedVariables false
set_option linter.unusedSectionVars false
namespace Go.Ai.Z
theorem ad8:jK P0 200 (.fn (.func xX) [] []) [] [] ⟨0,0⟩=.ret (.b true) []:=by kernel_rfl
end Go.Ai.Z
namespace Go.Ai
open Go.ChangeShapes Go.WideShapes Go.WideElems
section
variable {H:Type} {enc:TypeId×Value→H} {P:Program} {W:World}
theorem Yv {R Z:TypeId} (uR:P.underlying R=some (.slice Z)) (uZ:P.underlying Z=some (.int .u8)) (cZ:P.cellsOf Z=1) (bZ:0<P.bytesOf Z)
  {r:Go.Reach} {b0:Nat} {v:Value} {d:DataW H} {p:List MemPlace} (hok:Value.okWide P W r b0 R v) (h:DataW.Trod enc P W 0 (fun _=>true) true R v d p) (hl:Light P R d):
  ∃l:List UInt8,l.length≤1125899906842624∧Rep (g0 W) 0 v (.sl (aF l)):=by
 obtain ⟨a,len,cap,rfl⟩:=okWide_slice uR hok
 obtain ⟨fuel,hf⟩:=h
 simp only [Value.cells] at hf
 obtain ⟨es,q1,q2,⟨r4,a4⟩⟩:=adz uR cZ (by omega) bZ (fun a=>∃b:UInt8,a=.i .u8 b.toNat∧True) hf hl (fun m hm cs y hy hly=>by
  obtain ⟨n,h1,h2,hr⟩:=agb uZ hy
  have e1:(0:Int)≤n:=h1
  have e2:n≤255:=h2
  refine ⟨.i .u8 n,⟨UInt8.ofNat n.toNat, ?_,trivial⟩,rfl,hr⟩
  congr 1
  simp
  omega)
 obtain ⟨l,rfl,_⟩:=Xf q1
 have hb:reachBytes≤1125899906842624:=by decide
 simp only [List.length_map] at q2
 exact ⟨l,by omega,r4.head⟩
end
end Go.Ai
namespace Go.Ai.Z
def EC:List (List UInt8)→Nat
 | []=>0
 | x::r=>x.length+EC r
theorem NK (s:St) (cx:Ctx) (L:List (List UInt8)) (hL:EC L≤4000000000000000) (hN:L.length≤1000):∀(rest:List (List UInt8)) (i n:Nat) (v5:AV),L.drop i=rest→n+EC rest≤4000000000000000→
  ∃(j:Int) (v5':AV),fC (aB P0.glob (ah P0) cx false wE) [3,6,7,8] [(3,.v (.i .i64 n)),(6,.v (.sl (L.map fun x=>.sl (aF x)))),(7,.v (.i .i64 L.length)),(8,.v (.i .i64 i))] s=
    .exit 0 [(3,.v (.i .i64 (n+EC rest:Nat))),(6,.v (.sl (L.map fun x=>.sl (aF x)))),(7,.v (.i .i64 L.length)),(8,.v (.i .i64 j)),(9,.v (.b false))] s
 | [],i,n,v5,h,hn=>by
  have h1:¬i<L.length:=Nat.not_lt.2 (drop_nil h)
  refine ⟨i,v5,ak fun K hK=>?_⟩
  simp [wE,h1,EC]
 | x::r,i,n,v5,h,hn=>by
  obtain ⟨h1,h2,h3,h4⟩:=drop_cons h
  have h5:=h4 h3
  have hx:(L.map fun x=>AV.sl (aF x))[i]?=some (.sl (aF x)):=by simp [h1]
  have hwi:=wI (i:=i) (by omega)
  have hsum:EC (x::r)=x.length+EC r:=rfl
  have hb:(aF x).length=x.length:=by simp [aF]
  have w1:IntKind.i64.wrap ((n:Int)+(x.length:Int))=((n+x.length:Nat):Int):=by rw [w64 (by omega) (by omega)];omega
  obtain ⟨j,v,ih⟩:=NK s cx L hL hN r (i+1) (n+x.length) .u h2 (by omega)
  refine ⟨j,v,ak fun K hK=>?_⟩
  rw [←hK] at ih
  rw [show n+EC (x::r)=n+x.length+EC r by omega]
  clear hK h4
  simp at ih
  simp [wE,h3,h5,hwi,hb,w1]
  exact ih
theorem XR (L:List (List UInt8)) (hL:EC L≤4000000000000000) (hN:L.length≤1000) (s:St) (cx:Ctx):ah P0 (.fn (.func y7) [] []) [.sl (L.map fun x=>.sl (aF x))] s cx=.ret (.b (decide (EC L≤3000))) s:=by
 obtain ⟨j,v,h⟩:=NK s ⟨s.length,s.length⟩ L hL hN L 0 0 .u rfl (by omega)
 refine Vq (by simp) ?_
 simp at h
 have hcast:((EC L:Int)≤3000) ↔ EC L≤3000:=by omega
 by_cases hs:EC L≤3000
 ·have:(EC L:Int)≤3000:=by omega
  simp [af,xI,h,hs,this]
 ·have:¬(EC L:Int)≤3000:=by omega
  simp [af,xI,h,hs,this]
end Go.Ai.Z
namespace Go.Ai.Z
theorem ab5 {l r:List Tok} {x:Ax} (hw:WT l) (h:wX l=.ok x r):r.length+2≤l.length:=by
 rcases nO h with ⟨k,h⟩|h
 ·have:=Ac hw k (by decide);have:=(kZ (NV this.1) h).2;omega
 rcases nO h with ⟨k,h⟩|h
 ·have:=Ac hw k (by decide);have:=(kZ (Ud this.1) h).2;omega
 rcases nO h with ⟨k,h⟩|h
 ·have:=Ac hw k (by decide);have:=(kZ (QY this.1) h).2;omega
 rcases nO h with ⟨k,h⟩|h
 ·have:=Ac hw k (by decide);have:=(kZ (Ue this.1) h).2;omega
 rcases nO h with ⟨k,h⟩|h
 ·have:=Ac hw k (by decide);have:=(kZ (NT this.1) h).2;omega
 rcases nO h with ⟨k,h⟩|h
 ·have:=Ac hw k (by decide);have:=(kZ (Uf this.1) h).2;omega
 ·obtain ⟨c,l1,e1,h⟩:=aA.1 h
  obtain ⟨w1,s1⟩:=kZ (mV hw) e1
  rcases nO h with ⟨k,h⟩|h
  ·have:=Ac w1 k (by decide);have:=(kZ (zT _ _ this.1) h).2;omega
  rcases nO h with ⟨k,h⟩|h
  ·have:=Ac w1 k (by decide);have:=(kZ (zT _ _ this.1) h).2;omega
  rcases nO h with ⟨k,h⟩|h
  ·have:=Ac w1 k (by decide);have:=(kZ (zT _ _ this.1) h).2;omega
  ·cases h
theorem abz {l r:List Tok} {x:Ax} (hw:WT l) (h:BG l=.ok x r):r.length+2≤l.length:=by
 have st:∀{o p:Bool} {l:List Tok},WT l→pSt o p l=.ok x r→r.length+2≤l.length:=by
  intro o p l hw h
  obtain ⟨y,l1,e1,h⟩:=aA.1 h
  have:=ab5 hw e1
  cases h;exact this
 rcases nO h with ⟨k,h⟩|h
 ·have:=Ac hw k (by decide);have:=st this.1 h;omega
 rcases nO h with ⟨k,h⟩|h
 ·have:=Ac hw k (by decide);have:=st this.1 h;omega
 ·exact st hw h
theorem abj {l r:List Tok} {x:Ax} (hw:WT l) (h:vS l=.ok x r):r.length+3≤l.length:=by
 unfold vS at h
 obtain ⟨y,l1,e1,h⟩:=aA.1 h
 obtain ⟨u,l2,e2,h⟩:=aA.1 h
 cases h
 have w1:=(kZ (D7 hw) e1).1
 have h1:=abz hw e1
 have h2:=(kZ (oG (w:=[46]) (by decide) w1) e2).2
 omega
theorem Ro:∀(n:Nat) {T r:List Tok},Suf T r→3 * (rU n r).1.length≤r.length
 | 0,T,r,h=>by simp [rU]
 | n+1,T,r,h=>by
  by_cases hk:(hT r).1=4
  ·rw [AB hk];simp
  ·obtain ⟨h1,h2⟩:=Kr h hk
   have ih:=Ro n h1
   rw [yF n hk]
   split
   ·simp only [];omega
   ·rename_i hb
    have h3:(nI r).2.length+3≤r.length:=by
     unfold nI at hb ⊢
     cases hp:vS r with
     | er a c q=>rw [hp] at hb;exact absurd rfl hb
     | ok x q=>exact abj h.w hp
    simp only [List.length_cons];omega
theorem ahb {l:List Tok} (h:WT l):2 * l.length≤tw l+1:=by
 induction h with
 | fin a=>simp [tw]
 | cons t r h1 h2 ih=>
  have:=List.length_pos_iff.2 h1.ne
  simp only [List.length_cons,tw];omega
theorem ZY {src:List UInt8} (h:src.length≤3065):(AL src).1.length≤1024:=by
 obtain ⟨hw,htw⟩:=Bd (src:=src) (by omega)
 rw [Jg] at hw htw
 have h1:=Ro (kM src).1.length (JD hw).1
 have h2:=ahb hw
 unfold AL
 omega
end Go.Ai.Z
namespace Go.Ai.Z
theorem TdA.cmp {a y:Ax} (h:nzA y=nzA a):adA y a=0∧y.op=a.op:=by
 simp only [nzA,Ax.mk.injEq] at h
 obtain ⟨e1,e2,e3,e4,-,e5,e6,e7,e8⟩:=h
 have hs:∀{c d:C},nz c=nz d→Oo c=Oo d:=fun {c d} h=>by
  unfold Oo;rw [←DF c,h,DF,show c.kind=d.kind by rw [←qJ c,h,qJ]]
 refine ⟨abk.2 ⟨?_,e1,e3,e4,e5,e6,e7,e8⟩,e2⟩
 unfold xA
 simp only [A8,hs e3,hs e4,e5,e6,e7,e8]
theorem acO (v0 v4:AV) (L:List Ax) (hL:∀a∈L,TdA a) (hN:L.length≤100000) (s:St) (cx:Ctx):∀(rest:List Ax) (i:Nat),L.drop i=rest→
  ∃j:Int,fC (aB P0.glob (ah P0) cx false mQ) [0,4,31,32,33] [(0,.v v0),(4,.v v4),(31,.v (slf true (L.map iq))),(32,.v (.i .i64 L.length)),(33,.v (.i .i64 i))] s=
   .exit 0 [(0,.v v0),(4,.v v4),(31,.v (slf true (L.map iq))),(32,.v (.i .i64 L.length)),(33,.v (.i .i64 j)),(34,.v (.b false))] s
 | [],i,h=>by
  have h1:¬i<L.length:=Nat.not_lt.2 (drop_nil h)
  refine ⟨i,ak fun K hK=>?_⟩
  simp [mQ,h1]
 | a::r,i,h=>by
  obtain ⟨h1,h2,h3,h4⟩:=drop_cons h
  have h5:=h4 h3
  have ha:a∈L:=by rw [←h5];exact List.getElem_mem h3
  obtain ⟨c1,c2,c3⟩:=hL a ha
  have hwi:=wI (i:=i) (by omega)
  obtain ⟨y,e,t1,w1,w2,w3,e1⟩:=Bz a c2 c1
  unfold yI at t1
  rw [c3] at t1
  obtain ⟨hnz,rfl⟩:=t1
  obtain ⟨hz,hop⟩:=TdA.cmp hnz
  have:=c2.l;have:=c2.r;have:=c2.roles
  have e7:=Gp y a w1 w2 (by omega) (by omega) (by omega) (by omega)
  have hne:L.map iq≠[]:=by intro h;rw [List.map_eq_nil_iff] at h;rw [h] at ha;cases ha
  obtain ⟨j,ih⟩:=acO v0 v4 L hL hN s cx r (i+1) h2
  refine ⟨j,ak fun K hK=>?_⟩
  rw [←hK,show ((i+1:Nat):Int)=(i:Int)+1 from rfl] at ih
  rw [Fq hne] at ih ⊢
  clear hK h4 hL hnz c1 c3
  rcases Bool.eq_false_or_eq_true a.op with o|o<;>have o':=hop.trans o<;>have g:=ZT o<;>have g':=ZT o' <;>
   simp [mQ,h3,h5,hwi,e1,e7,hz,o,o',g,g',splice]<;>exact ih
theorem acN (x:List UInt8) (hx:x.length≤100000) (Z:List Pb) (hZ:∀p∈Z,p.2∈agc∧0≤p.1∧p.1≤x.length) (hs:lN Z) (hN:Z.length≤100000) (s:St) (cx:Ctx):∀(rest:List Pb) (i:Nat),Z.drop i=rest→
  ∃j:Int,fC (aB P0.glob (ah P0) cx false jV) [0,4,58,59,60] [(0,.v (.sl (aF x))),(4,.v (slf true (Z.map gI))),(58,.v (slf true (Z.map gI))),(59,.v (.i .i64 Z.length)),(60,.v (.i .i64 i))] s=
   .exit 2 [(0,.v (.sl (aF x))),(4,.v (slf true (Z.map gI))),(58,.v (slf true (Z.map gI))),(59,.v (.i .i64 Z.length)),(60,.v (.i .i64 j)),(61,.v (.b false))] s
 | [],i,h=>by
  have h1:¬i<Z.length:=Nat.not_lt.2 (drop_nil h)
  refine ⟨i,ak fun K hK=>?_⟩
  simp [jV,h1]
 | p::r,i,h=>by
  obtain ⟨h1,h2,h3,h4⟩:=drop_cons h
  have h5:=h4 h3
  have hp:p∈Z:=by rw [←h5];exact List.getElem_mem h3
  obtain ⟨p1,p2,p3⟩:=hZ p hp
  have hwi:=wI (i:=i) (by omega)
  have hne:Z.map gI≠[]:=by intro h;rw [List.map_eq_nil_iff] at h;rw [h] at hp;cases hp
  have hb:(aF x).length=x.length:=by simp [aF]
  obtain ⟨j,ih⟩:=acN x hx Z hZ hs hN s cx r (i+1) h2
  refine ⟨j,ak fun K hK=>?_⟩
  rw [←hK,show ((i+1:Nat):Int)=(i:Int)+1 from rfl] at ih
  rw [Fq hne] at ih ⊢
  have q1:¬p.1<0:=by omega
  have q2:¬(x.length:Int)<p.1:=by omega
  have hcod:p.2=10∨p.2=20∨p.2=21∨p.2=22∨p.2=30∨p.2=2:=by simpa [agc,XJ] using p1
  rcases Nat.eq_zero_or_pos i with hi|hi
  ·subst hi
   clear hK h4 hZ
   obtain ⟨a,c⟩:=p
   simp only [] at q1 q2 hcod
   rcases hcod with rfl|rfl|rfl|rfl|rfl|rfl <;>
    simp [jV,h3,h5,hwi,splice,gI,q1,q2,hb]<;>exact ih
  ·obtain ⟨k,hki⟩:∃k,k+1=i:=⟨i - 1,by omega⟩
   have hk:k<Z.length:=by omega
   have hle:Z[k].1≤p.1:=by
    rw [←h5];exact List.pairwise_iff_getElem.1 hs k i hk h3 (by omega)
   obtain ⟨b,hbk⟩:∃b,b=Z[k]:=⟨_,rfl⟩
   rw [←hbk] at hle
   have q3:¬p.1<b.1:=by omega
   have hw1:IntKind.i64.wrap ((i:Int) - 1)=(k:Int):=by rw [w64 (by omega) (by omega)];omega
   clear hK h4 hZ hki
   obtain ⟨a,c⟩:=p
   obtain ⟨a',c'⟩:=b
   simp only [] at q1 q2 q3 hcod
   rcases hcod with rfl|rfl|rfl|rfl|rfl|rfl <;>
    simp [jV,h3,h5,hk,←hbk,hwi,hw1,hi,splice,gI,q1,q2,q3,hb]<;>exact ih
theorem VJ (x:List UInt8) (hx:x.length≤1125899906842624) (hs:ah P0 (.fn (.func xX) [] []) [] [] ⟨0,0⟩=.ret (.b true) []) (cx:Ctx):
  ah P0 (.fn (.func qA) [] []) [.sl (aF x)] [] cx=.ret (.b true) []:=by
 have hf:=fun s cx=>XR [x] (by simp [EC];omega) (by simp) s cx
 simp only [List.map_cons,List.map_nil,EC,Nat.add_zero] at hf
 refine E5 (by simp) ?_
 by_cases hl:x.length≤3000
 case neg=>simp [af,lV,hs,hf,hl,List.range_succ]
 obtain ⟨Z,z1,z2,cd⟩:=Yc x (by omega) (ZY (by omega)) [] ⟨0,0⟩ (Nat.le_refl _)
 have hdz:aeT x Z:=⟨z1,z2⟩
 have hp:=adx (by omega) hdz
 have htd:=(Z5 (src:=x) (by omega)).1
 have hdf:=ZY (src:=x) (by omega)
 have h64:(Z.take 64).length≤64:=by rw [List.length_take];omega
 obtain ⟨j0,hL0⟩:=acO (.sl (aF x)) (slf true ((Z.take 64).map gI)) (AL x).1 htd (by omega) [] ⟨0,0⟩ _ 0 rfl
 obtain ⟨j1,hL1⟩:=acN x (by omega) (Z.take 64) (fun p h=>hp p (List.mem_of_mem_take h)) (z2.take 64) (by omega) [] ⟨0,0⟩ _ 0 rfl
 have k64:¬(64:Int)<((Z.take 64).length:Int):=by omega
 have lnA:∀L:List Ax,(slf true (L.map iq))=.ns∧L.length=0∨(slf true (L.map iq))=.sl (L.map iq):=fun L=>by
  cases L with
  | nil=>exact .inl ⟨rfl,rfl⟩
  | cons a l=>exact .inr rfl
 have lnP:∀L:List Pb,(slf true (L.map gI))=.ns∧L.length=0∨(slf true (L.map gI))=.sl (L.map gI):=fun L=>by
  cases L with
  | nil=>exact .inl ⟨rfl,rfl⟩
  | cons a l=>exact .inr rfl
 generalize (AL x).1=LA at *
 generalize Z.take 64=ZP at *
 rcases lnA LA with ⟨a1,a2⟩|a1<;>rcases lnP ZP with ⟨b1,b2⟩|b1<;>rw [a1,b1] at cd hL0<;>rw [b1] at hL1<;>(try rw [a2] at hL0)<;>(try rw [b2] at hL1)
 all_goals
  simp at hL0 hL1
  simp [af,lV,hs,hf,hl,List.range_succ,cd,hL0,hL1,splice,k64]
end Go.Ai.Z
