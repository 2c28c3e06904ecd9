/-
 The examples of the chapter on syntax.
-/
import Derived.Test.YtpnlnnfcaeednaaGreatDoorAiC2
import Derived.Test.YtpnlnnfcaeednaaGreatDoorAiB2
import Derived.Test.YtpnlnnfcaeednaaGreatDoorAiDat
import Derived.Test.YtpnlnnfcaeednaaGreatDoorAiY12X3X4
import Derived.Test.YtpnlnnfcaeednaaGreatDoorAiKGKH
import Derived.Test.YtpnlnnfcaeednaaGreatDoorAiX5X6X7X8X9
set_option maxRecDepth 100000
set_option linter.unusedSimpArgs false
set_option linter.unusedVariables false
set_option linter.unusedSectionVars false
namespace Go.Ai.Z
theorem adn:jG P0 200 (.fn (.func xR) [] []) [] [] ⟨0,0⟩=.ret (.b true) []:=by kernel_rfl
end Go.Ai.Z
namespace Go.Ai
open Go.ChangeShapes Go.WideShapes Go.WideElems
section
variable {H:Type} {enc:TypeId×Value→H} {P:Program} {W:World}
theorem X7 {R Z:TypeId} (uR:P.underlying R=some (.slice Z)) (uZ:P.underlying Z=some (.int .u8)) (cZ:P.cellsOf Z=1) (bZ:0<P.bytesOf Z)
  {r:Go.Reach} {b0:Nat} {v:Value} {d:DataW H} {p:List MemPlace} (hok:Value.okWide P W r b0 R v) (h:DataW.Trod enc P W 0 (fun _=>true) true R v d p) (hl:Light P R d):
  ∃l:List UInt8,l.length≤1125899906842624∧Rep (g0 W) 0 v (.sl (aA l)):=by
 obtain ⟨a,len,cap,rfl⟩:=okWide_slice uR hok
 obtain ⟨fuel,hf⟩:=h
 simp only [Value.cells] at hf
 obtain ⟨es,q1,q2,⟨r4,a4⟩⟩:=acK uR cZ (by omega) bZ (fun a=>∃b:UInt8,a=.i .u8 b.toNat∧True) hf hl (fun m hm cs y hy hly=>by
  obtain ⟨n,h1,h2,hr⟩:=afq uZ hy
  have e1:(0:Int)≤n:=h1
  have e2:n≤255:=h2
  refine ⟨.i .u8 n,⟨UInt8.ofNat n.toNat, ?_,trivial⟩,rfl,hr⟩
  congr 1
  simp
  omega)
 obtain ⟨l,rfl,_⟩:=WS q1
 have hb:reachBytes≤1125899906842624:=by decide
 simp only [List.length_map] at q2
 exact ⟨l,by omega,r4.head⟩
end
end Go.Ai
namespace Go.Ai.Z
def Em:List (List UInt8)→Nat
 | []=>0
 | x::r=>x.length+Em r
theorem Ny (s:St) (cx:Ctx) (L:List (List UInt8)) (hL:Em L≤4000000000000000) (hN:L.length≤1000):∀(rest:List (List UInt8)) (i n:Nat) (v5:AV),L.drop i=rest→n+Em rest≤4000000000000000→
  ∃(j:Int) (v5':AV),fH (aB P0.glob (ah P0) cx false vY) [3,6,7,8] [(3,.v (.i .i64 n)),(6,.v (.sl (L.map fun x=>.sl (aA x)))),(7,.v (.i .i64 L.length)),(8,.v (.i .i64 i))] s=
    .exit 0 [(3,.v (.i .i64 (n+Em rest:Nat))),(6,.v (.sl (L.map fun x=>.sl (aA x)))),(7,.v (.i .i64 L.length)),(8,.v (.i .i64 j)),(9,.v (.b false))] s
 | [],i,n,v5,h,hn=>by
  have h1:¬i<L.length:=Nat.not_lt.2 (drop_nil h)
  refine ⟨i,v5,ak fun K hK=>?_⟩
  simp [vY,h1,Em]
 | x::r,i,n,v5,h,hn=>by
  obtain ⟨h1,h2,h3,h4⟩:=drop_cons h
  have h5:=h4 h3
  have hx:(L.map fun x=>AV.sl (aA x))[i]?=some (.sl (aA x)):=by simp [h1]
  have hwi:=wI (i:=i) (by omega)
  have hsum:Em (x::r)=x.length+Em r:=rfl
  have hb:(aA x).length=x.length:=by simp [aA]
  have w1:IntKind.i64.wrap ((n:Int)+(x.length:Int))=((n+x.length:Nat):Int):=by rw [w64 (by omega) (by omega)];omega
  obtain ⟨j,v,ih⟩:=Ny s cx L hL hN r (i+1) (n+x.length) .u h2 (by omega)
  refine ⟨j,v,ak fun K hK=>?_⟩
  rw [←hK] at ih
  rw [show n+Em (x::r)=n+x.length+Em r by omega]
  clear hK h4
  simp at ih
  simp [vY,h3,h5,hwi,hb,w1]
  exact ih
theorem Xx (L:List (List UInt8)) (hL:Em L≤4000000000000000) (hN:L.length≤1000) (s:St) (cx:Ctx):ah P0 (.fn (.func yV) [] []) [.sl (L.map fun x=>.sl (aA x))] s cx=.ret (.b (decide (Em L≤3000))) s:=by
 obtain ⟨j,v,h⟩:=Ny s ⟨s.length,s.length⟩ L hL hN L 0 0 .u rfl (by omega)
 refine U6 (by simp) ?_
 simp at h
 have hcast:((Em L:Int)≤3000) ↔ Em L≤3000:=by omega
 by_cases hs:Em L≤3000
 ·have:(Em L:Int)≤3000:=by omega
  simp [af,xG,h,hs,this]
 ·have:¬(Em L:Int)≤3000:=by omega
  simp [af,xG,h,hs,this]
theorem cellsB (l:List UInt8):(∀z∈aA l,z.cells.length=1)=True:=by
 simp [aA]
theorem adw (l:List UInt8):(aA l).length=l.length:=by simp [aA]
end Go.Ai.Z
namespace Go.Ai.Z
theorem abp {l r:List Tok} {x:Ax} (hw:WT l) (h:wU l=.ok x r):r.length+2≤l.length:=by
 rcases nM h with ⟨k,h⟩|h
 ·have:=zX hw k (by decide);have:=(kZ (NJ this.1) h).2;omega
 rcases nM h with ⟨k,h⟩|h
 ·have:=zX hw k (by decide);have:=(kZ (TG this.1) h).2;omega
 rcases nM h with ⟨k,h⟩|h
 ·have:=zX hw k (by decide);have:=(kZ (QG this.1) h).2;omega
 rcases nM h with ⟨k,h⟩|h
 ·have:=zX hw k (by decide);have:=(kZ (TI this.1) h).2;omega
 rcases nM h with ⟨k,h⟩|h
 ·have:=zX hw k (by decide);have:=(kZ (NH this.1) h).2;omega
 rcases nM h with ⟨k,h⟩|h
 ·have:=zX hw k (by decide);have:=(kZ (TJ this.1) h).2;omega
 ·obtain ⟨c,l1,e1,h⟩:=aC.1 h
  obtain ⟨w1,s1⟩:=kZ (mM hw) e1
  rcases nM h with ⟨k,h⟩|h
  ·have:=zX w1 k (by decide);have:=(kZ (zO _ _ this.1) h).2;omega
  rcases nM h with ⟨k,h⟩|h
  ·have:=zX w1 k (by decide);have:=(kZ (zO _ _ this.1) h).2;omega
  rcases nM h with ⟨k,h⟩|h
  ·have:=zX w1 k (by decide);have:=(kZ (zO _ _ this.1) h).2;omega
  ·cases h
theorem aaX {l r:List Tok} {x:Ax} (hw:WT l) (h:wz l=.ok x r):r.length+2≤l.length:=by
 have st:∀{o p:Bool} {l:List Tok},WT l→pSt o p l=.ok x r→r.length+2≤l.length:=by
  intro o p l hw h
  obtain ⟨y,l1,e1,h⟩:=aC.1 h
  have:=abp hw e1
  cases h;exact this
 rcases nM h with ⟨k,h⟩|h
 ·have:=zX hw k (by decide);have:=st this.1 h;omega
 rcases nM h with ⟨k,h⟩|h
 ·have:=zX hw k (by decide);have:=st this.1 h;omega
 ·exact st hw h
theorem aaH {l r:List Tok} {x:Ax} (hw:WT l) (h:xX l=.ok x r):r.length+3≤l.length:=by
 unfold xX at h
 obtain ⟨y,l1,e1,h⟩:=aC.1 h
 obtain ⟨u,l2,e2,h⟩:=aC.1 h
 cases h
 have w1:=(kZ (yB hw) e1).1
 have h1:=aaX hw e1
 have h2:=(kZ (oD (w:=[46]) (by decide) w1) e2).2
 omega
theorem QX:∀(n:Nat) {T r:List Tok},Suf T r→3 * (tX n r).1.length≤r.length
 | 0,T,r,h=>by simp [tX]
 | n+1,T,r,h=>by
  by_cases hk:(hT r).1=4
  ·rw [Aw hk];simp
  ·obtain ⟨h1,h2⟩:=Qw h hk
   have ih:=QX n h1
   rw [GN n hk]
   split
   ·simp only [];omega
   ·rename_i hb
    have h3:(sH r).2.length+3≤r.length:=by
     unfold sH at hb ⊢
     cases hp:xX r with
     | er a c q=>rw [hp] at hb;exact absurd rfl hb
     | ok x q=>exact aaH h.w hp
    simp only [List.length_cons];omega
theorem agp {l:List Tok} (h:WT l):2 * l.length≤tw l+1:=by
 induction h with
 | fin a=>simp [tw]
 | cons t r h1 h2 ih=>
  have:=List.length_pos_iff.2 h1.ne
  simp only [List.length_cons,tw];omega
theorem adP {src:List UInt8} (h:src.length≤3065):(CX src).1.length≤1024:=by
 obtain ⟨hw,htw⟩:=yI (src:=src) (by omega)
 rw [FK] at hw htw
 have h1:=QX (kC src).1.length (Jr hw).1
 have h2:=agp hw
 unfold CX
 omega
def Vb (t:Tok):Bool:=decide (t.1=3) && decide (t.2.1=[46])
theorem UZ (toks:List Tok) (hT:toks.length≤100000) (v6 v7 v10:AV) (s:St) (cx:Ctx):∀(rest:List Tok) (i:Nat),toks.drop i=rest→
  ∃j:Int,fH (aB P0.glob (ah P0) cx false fG) [6,7,10,70,71,72] [(6,.v v6),(7,.v v7),(10,.v v10),(70,.v (.sl (toks.map dL))),(71,.v (.i .i64 toks.length)),(72,.v (.i .i64 i))] s=
   if rest.any Vb=true then .ret [(2,.v (.b true))] s else .exit 0 [(6,.v v6),(7,.v v7),(10,.v v10),(70,.v (.sl (toks.map dL))),(71,.v (.i .i64 toks.length)),(72,.v (.i .i64 j)),(73,.v (.b false))] s
 | [],i,h=>by
  have h1:¬i<toks.length:=Nat.not_lt.2 (drop_nil h)
  refine ⟨i,ak fun K hK=>?_⟩
  simp [fG,h1]
 | t::r,i,h=>by
  obtain ⟨h1,h2,h3,h4⟩:=drop_cons h
  have h5:=h4 h3
  have hwi:=wI (i:=i) (by omega)
  obtain ⟨k,w,a⟩:=t
  by_cases hk:k=3
  ·by_cases hd:w=[46]
   ·refine ⟨i,ak fun K hK=>?_⟩
    clear hK h4
    have hb:Vb (k,w,a)=true:=by simp [Vb,hk,hd]
    rw [List.any_cons,hb,Bool.true_or]
    simp [fG,h3,h5,dL,hk,hd,splice]
   ·obtain ⟨j,ih⟩:=UZ toks hT v6 v7 v10 s cx r (i+1) h2
    refine ⟨j,ak fun K hK=>?_⟩
    rw [←hK,show ((i+1:Nat):Int)=(i:Int)+1 from rfl] at ih
    clear hK h4
    have hb:Vb (k,w,a)=false:=by simp [Vb,hd]
    rw [List.any_cons,hb,Bool.false_or]
    simp [fG,h3,h5,dL,hk,hd,splice,hwi]
    exact ih
  ·obtain ⟨j,ih⟩:=UZ toks hT v6 v7 v10 s cx r (i+1) h2
   refine ⟨j,ak fun K hK=>?_⟩
   rw [←hK,show ((i+1:Nat):Int)=(i:Int)+1 from rfl] at ih
   clear hK h4
   have hb:Vb (k,w,a)=false:=by simp [Vb,hk]
   rw [List.any_cons,hb,Bool.false_or]
   simp [fG,h3,h5,dL,hk,splice,hwi]
   exact ih
theorem Xw (x:List UInt8) (hx:x.length≤1125899906842624) (hs:ah P0 (.fn (.func xR) [] []) [] [] ⟨0,0⟩=.ret (.b true) []) (cx:Ctx):
  ah P0 (.fn (.func kS) [] []) [.sl (aA x)] [] cx=.ret (.b true) []:=by
 have hf:=fun s cx=>Xx [x] (by simp [Em];omega) (by simp) s cx
 simp only [List.map_cons,List.map_nil,Em,Nat.add_zero] at hf
 refine y9 (by simp) ?_
 by_cases hl:x.length≤3000
 case neg=>simp [af,dQ,hs,hf,hl,List.range_succ]
 obtain ⟨a,at_,e,qa,⟨wl,wr,wo⟩,ca⟩:=ada x (by omega)
 have hdx:(x++[10,46]).length≤3065:=by simp;omega
 obtain ⟨Z,z1,z2,cd⟩:=XL (x++[10,46]) (by omega) (adP hdx) [] ⟨0,0⟩ (Nat.le_refl _)
 have o1:aA x++[AV.i .u8 10,AV.i .u8 46]=aA (x++[10,46]):=by simp [aA]
 have o1':aA x++aA [10,46]=aA (x++[10,46]):=by simp [aA]
 have m1:x.length≤fE:=by simp only [fE];omega
 have m2:x.length+2≤fE:=by simp only [fE];omega
 obtain ⟨b,a0,d,e0,hT⟩:=acV x
 have ct:=ER x (by omega) [] ⟨0,0⟩ (Nat.le_refl _)
 have hTl:(lexB x).1.length≤100000:=by
  have:=(yI (src:=x) (by omega)).2
  have:=O9 (lexB x).1;omega
 have hz:acL a a=0:=aaJ.2 ⟨rfl,rfl,rfl,rfl,rfl,rfl,rfl,rfl⟩
 have e7:=Gf a a wl wr (by omega) wl wr (by omega)
 by_cases he:e=0
 ·subst he
  have hb:(kC x).2=[]:=by
   rw [←FI]
   cases hbB:(lexB x).2 with
   | nil=>rfl
   | cons p q=>
    unfold AxA at qa
    rw [hbB] at qa
    have hp:p∈(lexB x).2:=by rw [hbB];simp
    rw [Lu] at hp
    have:=((DJ x []).x2 p (List.mem_of_mem_take hp)).2.2
    simp only [] at qa
    omega
  have hb2:(lexB (x++[10,46])).2=[]:=(FI _).2 (by rw [hT.p];exact hb)
  rw [hb2,List.nil_append,(acW (by omega) qa hb).1 rfl] at z1
  rw [(acW (by omega) qa hb).1 rfl] at cd
  have hZ:Z=[]:=List.Perm.eq_nil z1
  subst hZ
  have hsl:slf true (List.map gG ([a],([]:List Pb)).1)=.sl [gG a]:=rfl
  have hsl2:slf true (List.map gI (List.take 64 []))=.ns:=rfl
  rw [hsl,hsl2] at cd
  rcases Bool.eq_false_or_eq_true a.op with o|o<;>have g:=adF o <;>
   simp [af,dQ,hs,hf,hl,List.range_succ,ca,splice,cellsB,adw,m1,m2,o1,o1',cd,e7,hz,o,g,-List.mem_map]
 ·obtain ⟨j,hL⟩:=UZ (lexB x).1 hTl (slf true ((CX (x++[10,46])).1.map gG)) (slf true ((Z.take 64).map gI)) (slf true ((lexB x).2.map gI)) [] ⟨0,0⟩ (lexB x).1 0 rfl
  by_cases hany:(lexB x).1.any Vb=true
  ·rw [if_pos hany] at hL
   generalize slf true ((CX (x++[10,46])).1.map gG)=v6 at *
   generalize slf true ((Z.take 64).map gI)=v7 at *
   generalize slf true ((lexB x).2.map gI)=v10 at *
   simp at hL
   simp [af,dQ,hs,hf,hl,List.range_succ,ca,he,splice,cellsB,adw,m1,m2,o1,o1',cd,ct,hL,-List.mem_map]
  ·rw [if_neg hany] at hL
   by_cases hb:(kC x).2=[]
   ·have hnd:∀t∈(kC x).1,¬(t.1=3∧t.2.1=[46]):=by
     intro t ht hh
     rw [←FK] at ht
     exact hany (List.any_eq_true.2 ⟨t,ht,by simp [Vb,hh.1,hh.2]⟩)
    obtain ⟨p,hp⟩:=(acW (by omega) qa hb).2 he hnd
    have hb2:(lexB (x++[10,46])).2=[]:=(FI _).2 (by rw [hT.p];exact hb)
    rw [hb2,List.nil_append,hp] at z1
    have hZ:Z=[p]:=List.perm_singleton.1 z1
    subst hZ
    have hbB:(lexB x).2=[]:=(FI x).2 hb
    rw [hp] at cd hL
    rw [hbB] at ct hL
    have hsl:slf true (List.map gG (([]:List Ax),[p]).1)=.ns:=rfl
    have hsl2:slf true (List.map gI (List.take 64 [p]))=.sl [gI p]:=rfl
    have hsl3:slf true (List.map gI [])=.ns:=rfl
    rw [hsl,hsl2] at cd hL
    rw [hsl3] at ct hL
    simp at hL
    simp [af,dQ,hs,hf,hl,List.range_succ,ca,he,splice,cellsB,adw,m1,m2,o1,o1',cd,ct,hL,-List.mem_map]
   ·have hbB:(lexB x).2≠[]:=fun h=>hb ((FI x).1 h)
    obtain ⟨p,q,hpq⟩:∃p q,(lexB x).2=p::q:=by
     cases h:(lexB x).2 with
     | nil=>exact absurd h hbB
     | cons p q=>exact ⟨p,q,rfl⟩
    rw [hpq] at ct hL
    have hsl3:slf true (List.map gI (p::q))=.sl (gI p::q.map gI):=rfl
    rw [hsl3] at ct hL
    have hpos:(0:Int)<(q.length:Int)+1:=by omega
    generalize slf true ((CX (x++[10,46])).1.map gG)=v6 at *
    generalize slf true ((Z.take 64).map gI)=v7 at *
    simp at hL
    simp [af,dQ,hs,hf,hl,List.range_succ,ca,he,splice,cellsB,adw,m1,m2,o1,o1',cd,ct,hL,hpos,-List.mem_map]
end Go.Ai.Z
