/-
 The reader of ontology documents: lists.
-/
import Derived.Test.YtcofenimejmoeaaGreatDoorAiOX5OX6OX7OX8OX9OX10
set_option maxRecDepth 100000
set_option linter.unusedSimpArgs false
set_option linter.unusedVariables false
set_option linter.unusedSectionVars false
namespace Go.Ai.Z
open Go.Ai
theorem jT (f:Nat) (v:AV) (s:St) (cx:Ctx):aj P0 (.fn (.func f) [v] []) [] s cx=aj P0 (.fn (.func f) [] []) [v] s cx:=by
 unfold aj
 congr 1
 funext n
 cases n<;>rfl
def Pn {α:Type} (src:Rl) (S:Rd→St) (m B:Nat) (F:Nat) (enc:α→AV) (f:Rd→OR α):Prop:=
 (∀q cx,Wr src q→rem src q≤B→cx.lim≤m→aj P0 (.fn (.func F) [] []) [.pt (m+1) 0] (S q) cx=tZ enc S (f q))∧∀q,Wr src q→rem src q≤B→aG src q 1 (f q)
def aby {α:Type} (F T sz m:Nat) (enc:α→AV) (S:Rd→St) (x:OR (List α)):Out:=
 match x with
 | .ok l r=>.exit 0 [(0,.v (.pt (m+1) 0)),(1,.v (.i .i64 2)),(2,.v (.fn (.func F) [.pt (m+1) 0] [])),(6,.own false T sz (l.map enc)),(15,.v (.b false))] (S r)
 | .er a c r=>.pan (flt a c) (S r)
@[simp] theorem aaq {α:Type} (F T sz m:Nat) (enc:α→AV) (S:Rd→St) (l:List α) (r:Rd):aby F T sz m enc S (.ok l r)=.exit 0 [(0,.v (.pt (m+1) 0)),(1,.v (.i .i64 2)),(2,.v (.fn (.func F) [.pt (m+1) 0] [])),(6,.own false T sz (l.map enc)),(15,.v (.b false))] (S r):=rfl
@[simp] theorem aar {α:Type} (F T sz m:Nat) (enc:α→AV) (S:Rd→St) (a:Nat) (c:Int) (r:Rd):aby F T sz m enc S (.er a c r)=.pan (flt a c) (S r):=rfl
theorem zu {α:Type} {src:Rl} {f:Rd→OR α}:∀(n:Nat) (l:List α) (r:Rd) (l':List α) (q:Rd),nZ src f 2 n l r=.ok l' q→∃a b t,l'=a::b::t
 | 0,l,r,l',q,h=>by cases h
 | n+1,l,r,l',q,h=>by
  unfold nZ at h;by_cases z:l.length<2
  ·rw [if_pos z] at h;simp only [OR.bind_ok,Bool.false_eq_true,if_false] at h
   cases e:f r with
   | er a c r2=>rw [e] at h;cases h
   | ok v r2=>rw [e] at h;exact zu n _ r2 l' q h
  ·rw [if_neg z] at h
   cases e0:isR src [41] r with
   | er a c r2=>rw [e0] at h;cases h
   | ok b r2=>
    rw [e0] at h;simp only [OR.bind_ok] at h
    cases b with
    | true=>
     cases h
     match l,z with
     | a::b::t,_=>exact ⟨a,b,t,rfl⟩
     | [_],z=>simp at z
     | [],z=>simp at z
    | false=>
     simp only [Bool.false_eq_true,if_false] at h
     cases e:f r2 with
     | er a c r3=>rw [e] at h;cases h
     | ok v r3=>rw [e] at h;exact zu n _ r3 l' q h
section
variable {src:Rl} {S:Rd→St} {m N:Nat} (hE:yA src S m N)
include hE
theorem aaz {F:Nat} {f:Rd→OR C} {B:Nat} (hF:Pn src S m B F aJ f) (cx:Ctx) (hl:cx.lim≤m):∀(n:Nat) (l:List C) (r:Rd),Wr src r→rem src r<n→rem src r≤B→l.length+rem src r≤200000→
  gQ (aB P0.glob (aj P0) cx false bf) [0,1,2,6] [(0,.v (.pt (m+1) 0)),(1,.v (.i .i64 2)),(2,.v (.fn (.func F) [.pt (m+1) 0] [])),(6,.own false eF 5 (l.map aJ))] (S r)=aby F eF 5 m aJ S (nZ src f 2 n l r)
 | 0,l,r,_,hn,_,_=>absurd hn (by omega)
 | n+1,l,r,hr,hn,hB,hL=>by
  have hN:=hE.n;unfold nZ;have hk:jb [(0,.v (.pt (m+1) 0)),(1,.v (.i .i64 2)),(2,.v (.fn (.func F) [.pt (m+1) 0] [])),(6,.own false eF 5 (l.map aJ))] [0,1,2,6]=[(0,.v (.pt (m+1) 0)),(1,.v (.i .i64 2)),(2,.v (.fn (.func F) [.pt (m+1) 0] [])),(6,.own false eF 5 (l.map aJ))]:=rfl
  have key:∀q,Wr src q→rem src q≤rem src r→(∀K:Env→St→Out,(aB P0.glob (aj P0) cx false bf [(0,.v (.pt (m+1) 0)),(1,.v (.i .i64 2)),(2,.v (.fn (.func F) [.pt (m+1) 0] [])),(6,.own false eF 5 (l.map aJ))] (S r)).thn K=
    match f q with
    | .er a c q2=>.pan (flt a c) (S q2)
    | .ok v q2=>K [(0,.v (.pt (m+1) 0)),(1,.v (.i .i64 2)),(2,.v (.fn (.func F) [.pt (m+1) 0] [])),(6,.own false eF 5 ((l++[v]).map aJ))] (S q2))→
   gQ (aB P0.glob (aj P0) cx false bf) [0,1,2,6] [(0,.v (.pt (m+1) 0)),(1,.v (.i .i64 2)),(2,.v (.fn (.func F) [.pt (m+1) 0] [])),(6,.own false eF 5 (l.map aJ))] (S r)=aby F eF 5 m aJ S ((f q).bind fun v r=>nZ src f 2 n (l++[v]) r):=by
   intro q hq hq2 h;have hg:=hF.2 q hq (by omega)
   cases e:f q with
   | er a c q2=>
    rw [e] at h;exact ak fun K hK=>(congrArg (fun E=>(aB P0.glob (aj P0) cx false bf E (S r)).thn K) hk).trans (h K)
   | ok v q2=>
    rw [e] at h;have h1:=hg.ok e;have ih:=aaz hF cx hl n (l++[v]) q2 h1.1 (by omega) (by omega) (by rw [List.length_append];simp;omega);exact ak fun K hK=>by rw [hk,h K,OR.bind_ok,←ih,←hK]
  have hml:l.length+1≤aQ:=by unfold aQ;omega
  have hlen:(l.map aJ).length=l.length:=List.length_map _;by_cases q:l.length<2
  ·rw [if_pos q];simp only [OR.bind_ok,Bool.false_eq_true,if_false];refine key r hr (by omega) fun K=>?_;have qi:(l.length:Int)<2:=by omega
   have e1:=hF.1 r cx hr hB hl
   cases e:f r with
   | er a c q2=>
    rw [e] at e1;simp only [dA] at e1;simp -implicitDefEqProofs [bf,qi,jT,e1,hml]
   | ok v q2=>
    rw [e] at e1;simp only [dD] at e1;simp -implicitDefEqProofs [bf,qi,jT,e1,hml]
  ·rw [if_neg q];have qi:¬(l.length:Int)<2:=by omega
   have e0:=JQ hE [41] r hr cx hl;have g0:=mV hr [41]
   cases h0:isR src [41] r with
   | er a c q2=>
    rw [h0] at e0;simp only [dA] at e0;refine ak fun K hK=>?_;simp -implicitDefEqProofs [bf,qi,e0]
   | ok b r2=>
    rw [h0] at e0;have w0:=(g0.ok h0);simp only [dD] at e0;simp only [OR.bind_ok]
    cases b with
    | true=>
     refine ak fun K hK=>?_;simp -implicitDefEqProofs [bf,qi,e0]
    | false=>
     simp only [Bool.false_eq_true,if_false];refine key r2 w0.1 (by omega) fun K=>?_;have e1:=hF.1 r2 cx w0.1 (by omega) hl
     cases e:f r2 with
     | er a c q2=>
      rw [e] at e1;simp only [dA] at e1;simp -implicitDefEqProofs [bf,qi,e0,jT,e1,hml]
     | ok v q2=>
      rw [e] at e1;simp only [dD] at e1;simp -implicitDefEqProofs [bf,qi,e0,jT,e1,hml]
theorem aay {F:Nat} {f:Rd→OR Rl} {B:Nat} (hF:Pn src S m B F AV.s f) (cx:Ctx) (hl:cx.lim≤m):∀(n:Nat) (l:List Rl) (r:Rd),Wr src r→rem src r<n→rem src r≤B→l.length+rem src r≤200000→
  gQ (aB P0.glob (aj P0) cx false dB) [0,1,2,6] [(0,.v (.pt (m+1) 0)),(1,.v (.i .i64 2)),(2,.v (.fn (.func F) [.pt (m+1) 0] [])),(6,.own false au 1 (l.map AV.s))] (S r)=aby F au 1 m AV.s S (nZ src f 2 n l r)
 | 0,l,r,_,hn,_,_=>absurd hn (by omega)
 | n+1,l,r,hr,hn,hB,hL=>by
  have hN:=hE.n;unfold nZ;have hk:jb [(0,.v (.pt (m+1) 0)),(1,.v (.i .i64 2)),(2,.v (.fn (.func F) [.pt (m+1) 0] [])),(6,.own false au 1 (l.map AV.s))] [0,1,2,6]=[(0,.v (.pt (m+1) 0)),(1,.v (.i .i64 2)),(2,.v (.fn (.func F) [.pt (m+1) 0] [])),(6,.own false au 1 (l.map AV.s))]:=rfl
  have key:∀q,Wr src q→rem src q≤rem src r→(∀K:Env→St→Out,(aB P0.glob (aj P0) cx false dB [(0,.v (.pt (m+1) 0)),(1,.v (.i .i64 2)),(2,.v (.fn (.func F) [.pt (m+1) 0] [])),(6,.own false au 1 (l.map AV.s))] (S r)).thn K=
    match f q with
    | .er a c q2=>.pan (flt a c) (S q2)
    | .ok v q2=>K [(0,.v (.pt (m+1) 0)),(1,.v (.i .i64 2)),(2,.v (.fn (.func F) [.pt (m+1) 0] [])),(6,.own false au 1 ((l++[v]).map AV.s))] (S q2))→
   gQ (aB P0.glob (aj P0) cx false dB) [0,1,2,6] [(0,.v (.pt (m+1) 0)),(1,.v (.i .i64 2)),(2,.v (.fn (.func F) [.pt (m+1) 0] [])),(6,.own false au 1 (l.map AV.s))] (S r)=aby F au 1 m AV.s S ((f q).bind fun v r=>nZ src f 2 n (l++[v]) r):=by
   intro q hq hq2 h;have hg:=hF.2 q hq (by omega)
   cases e:f q with
   | er a c q2=>
    rw [e] at h;exact ak fun K hK=>(congrArg (fun E=>(aB P0.glob (aj P0) cx false dB E (S r)).thn K) hk).trans (h K)
   | ok v q2=>
    rw [e] at h;have h1:=hg.ok e;have ih:=aay hF cx hl n (l++[v]) q2 h1.1 (by omega) (by omega) (by rw [List.length_append];simp;omega);exact ak fun K hK=>by rw [hk,h K,OR.bind_ok,←ih,←hK]
  have hml:l.length+1≤aQ:=by unfold aQ;omega
  have hlen:(l.map AV.s).length=l.length:=List.length_map _;by_cases q:l.length<2
  ·rw [if_pos q];simp only [OR.bind_ok,Bool.false_eq_true,if_false];refine key r hr (by omega) fun K=>?_;have qi:(l.length:Int)<2:=by omega
   have e1:=hF.1 r cx hr hB hl
   cases e:f r with
   | er a c q2=>
    rw [e] at e1;simp only [dA] at e1;simp -implicitDefEqProofs [dB,qi,jT,e1,hml]
   | ok v q2=>
    rw [e] at e1;simp only [dD] at e1;simp -implicitDefEqProofs [dB,qi,jT,e1,hml]
  ·rw [if_neg q];have qi:¬(l.length:Int)<2:=by omega
   have e0:=JQ hE [41] r hr cx hl;have g0:=mV hr [41]
   cases h0:isR src [41] r with
   | er a c q2=>
    rw [h0] at e0;simp only [dA] at e0;refine ak fun K hK=>?_;simp -implicitDefEqProofs [dB,qi,e0]
   | ok b r2=>
    rw [h0] at e0;have w0:=(g0.ok h0);simp only [dD] at e0;simp only [OR.bind_ok]
    cases b with
    | true=>
     refine ak fun K hK=>?_;simp -implicitDefEqProofs [dB,qi,e0]
    | false=>
     simp only [Bool.false_eq_true,if_false];refine key r2 w0.1 (by omega) fun K=>?_;have e1:=hF.1 r2 cx w0.1 (by omega) hl
     cases e:f r2 with
     | er a c q2=>
      rw [e] at e1;simp only [dA] at e1;simp -implicitDefEqProofs [dB,qi,e0,jT,e1,hml]
     | ok v q2=>
      rw [e] at e1;simp only [dD] at e1;simp -implicitDefEqProofs [dB,qi,e0,jT,e1,hml]
theorem Wv {F:Nat} {f:Rd→OR C} {B:Nat} (hF:Pn src S m B F aJ f) (n:Nat) (r:Rd) (ha:Wr src r) (hn:rem src r<n) (hB:rem src r≤B) (hb:B≤200000) (cx:Ctx) (hl:cx.lim≤m):
  aj P0 (.fn (.func iF) [] []) [.pt (m+1) 0,.i .i64 2,.fn (.func F) [.pt (m+1) 0] []] (S r) cx=tZ (fun l=>.sl (l.map aJ)) S (nZ src f 2 n [] r):=by
 refine Dy (jP _ _ _) ?_;have hN:=hE.n;have h:=aaz hE hF ⟨cx.lim,N⟩ hl n [] r ha hn hB (by simp;omega);rw [List.map_nil] at h;have h2:=zu (src:=src) (f:=f) n [] r
 cases e:nZ src f 2 n [] r with
 | er a c q=>
  rw [e] at h;simp only [aar] at h;simp -implicitDefEqProofs [af,kH,hN,h]
 | ok l q=>
  rw [e] at h h2;simp only [aaq] at h;obtain ⟨a,b,l',rfl⟩:=h2 l q rfl;simp at h;simp -implicitDefEqProofs [af,kH,hN,h]
theorem agx {F:Nat} {f:Rd→OR Rl} {B:Nat} (hF:Pn src S m B F AV.s f) (n:Nat) (r:Rd) (ha:Wr src r) (hn:rem src r<n) (hB:rem src r≤B) (hb:B≤200000) (cx:Ctx) (hl:cx.lim≤m):
  aj P0 (.fn (.func pK) [] []) [.pt (m+1) 0,.i .i64 2,.fn (.func F) [.pt (m+1) 0] []] (S r) cx=tZ (fun l=>.sl (l.map AV.s)) S (nZ src f 2 n [] r):=by
 refine JF (jP _ _ _) ?_;have hN:=hE.n;have h:=aay hE hF ⟨cx.lim,N⟩ hl n [] r ha hn hB (by simp;omega);rw [List.map_nil] at h;have h2:=zu (src:=src) (f:=f) n [] r
 cases e:nZ src f 2 n [] r with
 | er a c q=>
  rw [e] at h;simp only [aar] at h;simp -implicitDefEqProofs [af,oz,hN,h]
 | ok l q=>
  rw [e] at h h2;simp only [aaq] at h;obtain ⟨a,b,l',rfl⟩:=h2 l q rfl;simp at h;simp -implicitDefEqProofs [af,oz,hN,h]
end
end Go.Ai.Z
namespace Go.Ai.Z
open Go.Ai
theorem I5 {glob:Nat→Option (List AV)} {call:AV→List AV→St→Ctx→CO} {cx:Ctx} {ops:List aI} {π:List Nat} {env:Env} {s:St} (c:Nat) (pre:List Nat) {oc:aI}
  (h1:YZ ops π=some (c,oc)) (h2:Fz ops c oc false π=pre)
  (h3:(pre.all fun j=>match ops[j]? with|some o=>o.op.pre && (zL o oc || Bg o oc || (π.takeWhile fun x=>x != c).contains j)|none=>false)=true):
  yI glob call cx ops π env s=match jw glob call cx ops pre env s with
   | .norm env1 s1=>(match fF glob call cx oc env1 s1 with
    | .pan v' s2=>.pan v' s2
    | _=>.fail)
   | _=>.fail:=by
 unfold yI;rw [h1];simp only [h2];exact if_pos h3
theorem aex (k:Int) (n:Rl) (l h:Int) (c:C):AV.ag [.i .i64 k,.s n,.i .i64 l,.i .i64 h,.sl [aJ c]]=aJ (.mk k n l h false [c]):=UK k n l h c []
theorem aew (k:Int) (n:Rl) (l h:Int) (a b:C) (ps:List C):AV.ag [.i .i64 k,.s n,.i .i64 l,.i .i64 h,.sl (aJ a::aJ b::ps.map aJ)]=aJ (.mk k n l h false (a::b::ps)):=UK k n l h a (b::ps)
def DJ (w:Rl):Option Nat:=
 if w=wB4 then some kL
 else if w=wB1 then some iU
 else if w=wA5 then some kM
 else if w=wA6 then some jL
 else if w=wB6 then some ig
 else if w=wA8 then some jM else none
theorem UQ (m:Nat) (w:Rl):find 1 (.s w) (Yf m)=some ((DJ w).map (rdF m)):=by
 unfold DJ Yf;split
 ·rename_i h;simp [find,jC,h]
 split
 ·rename_i h;simp [find,jC,h]
 split
 ·rename_i h;simp [find,jC,h]
 split
 ·rename_i h;simp [find,jC,h]
 split
 ·rename_i h;simp [find,jC,h]
 split
 ·rename_i h;simp [find,jC,h]
 ·simp [find,jC, *]
section
variable {src:Rl} {S:Rd→St} {m N:Nat} (hE:yA src S m N)
include hE
theorem ak1 {f:Rd→OR C} {n:Nat} (hF:Pn src S m n aU aJ f) (hn:n≤200000) (r:Rd) (hs:Sn src r) (hr:rem src r≤n+1) (ha:Wr src r) (cx:Ctx) (hl:cx.lim≤m):
  aj P0 (.fn (.func kM) [] []) [.pt (m+1) 0] (S r) cx=tZ aJ S (ZL src f (n+1) r):=by
 refine Lc (jP _ _ _) ?_;have hN:=hE.n;have hp:=hs.pass ha;unfold ZL;have e1:=lF hE r ⟨cx.lim,N⟩ hl;have w1:=iP ha;obtain ⟨a,c,q,hx,e2⟩|⟨v2,r2,h2,e2,g2⟩:=spl (iD hE [40] (bY r) w1 ⟨cx.lim,N⟩ hl) (aF w1 [40] (by simp))
 ·rw [hx];simp -implicitDefEqProofs [af,kW,hN,e1,e2]
 rw [h2];simp only [OR.bind_ok];have w2:=g2.1;have hq:=g2.2.1;obtain ⟨a,c,q,hx,e3⟩|⟨l,r3,h3,e3,g3⟩:=spl (Wv hE hF (n+1) r2 w2 (by omega) (by omega) hn ⟨cx.lim,N⟩ hl) (xA (least:=2) (n+1) [] r2 w2 (by omega) (fun q hq1 hq2=>hF.2 q hq1 (by omega)))
 ·rw [hx];simp -implicitDefEqProofs [af,kW,hN,e1,e2,e3]
 rw [h3];simp only [OR.bind_ok];have w3:=g3.1;obtain ⟨a,c,q,hx,e4⟩|⟨v4,r4,h4,e4,g4⟩:=spl (iD hE [41] r3 w3 ⟨cx.lim,N⟩ hl) (aF w3 [41] (by simp))
 ·rw [hx];simp -implicitDefEqProofs [af,kW,hN,e1,e2,e3,e4]
 rw [h4];simp only [OR.bind_ok];have w4:=g4.1;obtain ⟨x1,x2,x3,rfl⟩:=zu _ _ _ _ _ h3;simp only [List.map_cons] at e3;simp -implicitDefEqProofs [af,kW,hN,e1,e2,e3,e4,dQ,splice,aew]
theorem aij {f:Rd→OR C} {n:Nat} (hF:Pn src S m n aU aJ f) (r:Rd) (hs:Sn src r) (hr:rem src r≤n+1) (ha:Wr src r) (cx:Ctx) (hl:cx.lim≤m):
  aj P0 (.fn (.func jL) [] []) [.pt (m+1) 0] (S r) cx=tZ aJ S (Qa src f r):=by
 refine Jv (jP _ _ _) ?_;have hN:=hE.n;have hp:=hs.pass ha;unfold Qa;have e1:=lF hE r ⟨cx.lim,N⟩ hl;have w1:=iP ha;obtain ⟨a,c,q,hx,e2⟩|⟨v2,r2,h2,e2,g2⟩:=spl (iD hE [40] (bY r) w1 ⟨cx.lim,N⟩ hl) (aF w1 [40] (by simp))
 ·rw [hx];simp -implicitDefEqProofs [af,ji,hN,e1,e2]
 rw [h2];simp only [OR.bind_ok];have w2:=g2.1;have hq:=g2.2.1;obtain ⟨a,c,q,hx,e3⟩|⟨s,r3,h3,e3,g3⟩:=spl (qM hE r2 w2 ⟨cx.lim,N⟩ hl) (bn w2)
 ·rw [hx];simp -implicitDefEqProofs [af,ji,hN,e1,e2,e3]
 rw [h3];simp only [OR.bind_ok];have w3:=g3.1;have hq2:=g3.2.1;obtain ⟨a,c,q,hx,e4⟩|⟨c,r4,h4,e4,g4⟩:=spl (hF.1 r3 ⟨cx.lim,N⟩ w3 (by omega) hl) (hF.2 r3 w3 (by omega))
 ·rw [hx];simp -implicitDefEqProofs [af,ji,hN,e1,e2,e3,e4]
 rw [h4];simp only [OR.bind_ok];have w4:=g4.1;obtain ⟨a,c,q,hx,e5⟩|⟨v5,r5,h5,e5,g5⟩:=spl (iD hE [41] r4 w4 ⟨cx.lim,N⟩ hl) (aF w4 [41] (by simp))
 ·rw [hx];simp -implicitDefEqProofs [af,ji,hN,e1,e2,e3,e4,e5]
 rw [h5];simp only [OR.bind_ok];have w5:=g5.1;simp -implicitDefEqProofs [af,ji,hN,e1,e2,e3,e4,e5,dQ,splice,aex]
theorem DI (F:Nat) (x:OR C) (r q:Rd) (t:Tk) (cx:Ctx) (hl:cx.lim≤m) (e1:aj P0 (.fn (.func aO) [] []) [.pt (m+1) 0] (S r) ⟨cx.lim,N⟩=.ret (fC t) (S q))
  (hf:DJ t.2.1=some F) (h:aj P0 (.fn (.func F) [] []) [.pt (m+1) 0] (S q) ⟨cx.lim,N⟩=tZ aJ S x):
  af P0.glob (aj P0) dN ([]++[.pt (m+1) 0]++[]) (S r) cx=tZ aJ S x:=by
 have hN:=hE.n;have hc:=hE.cell r;have hc2:=hE.cell q;have hm:=hE.cm q;have hfd:=UQ m t.2.1;rw [hf] at hfd;unfold rO at hc hc2;simp only [fC] at e1;simp only [Option.map_some,rdF] at hfd
 cases x with
 | er a c q2=>
  simp only [dA] at h;simp -implicitDefEqProofs [af,dN,hN,hc,hc2,hm,hfd,e1,xK,MJ,jT,h]
 | ok v q2=>
  simp only [dD] at h;simp -implicitDefEqProofs [af,dN,hN,hc,hc2,hm,hfd,e1,xK,MJ,jT,h]
theorem Ye (r q:Rd) (t:Tk) (cx:Ctx) (hl:cx.lim≤m) (e1:aj P0 (.fn (.func aO) [] []) [.pt (m+1) 0] (S r) ⟨cx.lim,N⟩=.ret (fC t) (S q))
  (hf:DJ t.2.1=none) (h1:aj P0 (.fn (.func aP) [] []) [.pt (m+1) 0] (S q) ⟨cx.lim,N⟩=tZ AV.s S (nY src q)):
  af P0.glob (aj P0) dN ([]++[.pt (m+1) 0]++[]) (S r) cx=tZ aJ S ((nY src q).bind fun s r=>.ok (C.mk 3 s 0 0 true []) r):=by
 have hN:=hE.n;have hc:=hE.cell r;have hc2:=hE.cell q;have hm:=hE.cm q;have hfd:=UQ m t.2.1;rw [hf] at hfd;unfold rO at hc hc2;simp only [fC] at e1;simp only [Option.map_none] at hfd
 cases e:nY src q with
 | er a c q2=>
  rw [e] at h1;simp only [dA] at h1;simp -implicitDefEqProofs [af,dN,hN,hc,hc2,hm,hfd,e1,xK,MJ,h1]
 | ok v q2=>
  rw [e] at h1;simp only [dD] at h1;simp -implicitDefEqProofs [af,dN,hN,hc,hc2,hm,hfd,e1,xK,MJ,h1,dQ,splice,yR]
theorem Sm:∀(n:Nat),n≤200000→∀(r:Rd) (cx:Ctx),Wr src r→rem src r<n→cx.lim≤m→aj P0 (.fn (.func aU) [] []) [.pt (m+1) 0] (S r) cx=tZ aJ S (yw src n r)
 | 0,_,r,cx,_,hn,_=>absurd hn (by omega)
 | n+1,hn2,r,cx,ha,hn,hl=>by
  refine EZ (jP _ _ _) ?_;have e1:=oL hE r ha.at_ ⟨cx.lim,N⟩ hl;have g1:=gJ ha;have hN:=hE.n;unfold yw
  cases hp:iH src r with
  | er a c q=>
   rw [hp] at e1;simp only [dA] at e1;have hc:=hE.cell r;unfold rO at hc;have hm:=hE.cm r;simp -implicitDefEqProofs [af,dN,hN,hc,e1,MJ];rw [I5 5 [0,1,2,3,4]];rotate_left
   ·rfl
   ·rfl
   ·rfl
   simp -implicitDefEqProofs [hc,e1,MJ,hN]
  | ok t q=>
   rw [hp] at e1;simp only [dD] at e1;have h1:=g1.ok hp;simp only [OR.bind_ok];have hsn:∀w:Rl,1≤w.length→t.2.1=w→Sn src q:=fun w hw ht=>J3 hp (by rw [ht];exact hw)
   cases n with
   | zero=>
    have hq:rem src q=0:=by omega
    have hno:∀w:Rl,1≤w.length→¬t.2.1=w:=fun w hw ht=>by
     have:=(hsn w hw ht).pass h1.1;omega
    have hf:DJ t.2.1=none:=by
     unfold DJ;simp only [hno _ (show 1≤(wB4:Rl).length by simp),hno _ (show 1≤(wB1:Rl).length by simp),hno _ (show 1≤(wA5:Rl).length by simp),hno _ (show 1≤(wA6:Rl).length by simp),hno _ (show 1≤(wB6:Rl).length by simp),hno _ (show 1≤(wA8:Rl).length by simp),if_false]
    simp only [hno _ (show 1≤(wB4:Rl).length by simp),hno _ (show 1≤(wB1:Rl).length by simp),hno _ (show 1≤(wA5:Rl).length by simp),hno _ (show 1≤(wA6:Rl).length by simp),hno _ (show 1≤(wB6:Rl).length by simp),hno _ (show 1≤(wA8:Rl).length by simp),if_false];exact Ye hE r q t cx hl e1 hf (qM hE q h1.1 _ hl)
   | succ n=>
    have hF:Pn src S m n aU aJ (yw src (n+1)):=
     ⟨fun p cx2 hp1 hp2 hp3=>Sm (n+1) (by omega) p cx2 hp1 (by omega) hp3,fun p hp1 hp2=>mJ (n+1) p hp1 (by omega)⟩
    by_cases n1:t.2.1=wB4
    ·have ht:=n1;have hf:DJ t.2.1=some kL:=by unfold DJ;simp only [if_pos n1]
     simp only [if_pos n1];exact DI hE _ _ r q t cx hl e1 hf (akY hE q h1.1 _ hl)
    by_cases n2:t.2.1=wB1
    ·have ht:=n2;have hf:DJ t.2.1=some iU:=by unfold DJ;simp only [if_neg n1,if_pos n2]
     simp only [if_neg n1,if_pos n2];exact DI hE _ _ r q t cx hl e1 hf (aeS hE q h1.1 _ hl)
    by_cases n3:t.2.1=wA5
    ·have ht:=n3;have hf:DJ t.2.1=some kM:=by unfold DJ;simp only [if_neg n1,if_neg n2,if_pos n3]
     simp only [if_neg n1,if_neg n2,if_pos n3];exact DI hE _ _ r q t cx hl e1 hf (ak1 hE hF (by omega) q (hsn _ (by simp) ht) (by omega) h1.1 _ hl)
    by_cases n4:t.2.1=wA6
    ·have ht:=n4;have hf:DJ t.2.1=some jL:=by unfold DJ;simp only [if_neg n1,if_neg n2,if_neg n3,if_pos n4]
     simp only [if_neg n1,if_neg n2,if_neg n3,if_pos n4];exact DI hE _ _ r q t cx hl e1 hf (aij hE hF q (hsn _ (by simp) ht) (by omega) h1.1 _ hl)
    by_cases n5:t.2.1=wB6
    ·have ht:=n5;have hf:DJ t.2.1=some ig:=by unfold DJ;simp only [if_neg n1,if_neg n2,if_neg n3,if_neg n4,if_pos n5]
     simp only [if_neg n1,if_neg n2,if_neg n3,if_neg n4,if_pos n5];exact DI hE _ _ r q t cx hl e1 hf (acC hE q h1.1 _ hl)
    by_cases n6:t.2.1=wA8
    ·have ht:=n6;have hf:DJ t.2.1=some jM:=by unfold DJ;simp only [if_neg n1,if_neg n2,if_neg n3,if_neg n4,if_neg n5,if_pos n6]
     simp only [if_neg n1,if_neg n2,if_neg n3,if_neg n4,if_neg n5,if_pos n6];exact DI hE _ _ r q t cx hl e1 hf (aio hE q h1.1 _ hl)
    have hf:DJ t.2.1=none:=by unfold DJ;simp only [if_neg n1,if_neg n2,if_neg n3,if_neg n4,if_neg n5,if_neg n6]
    simp only [if_neg n1,if_neg n2,if_neg n3,if_neg n4,if_neg n5,if_neg n6];exact Ye hE r q t cx hl e1 hf (qM hE q h1.1 _ hl)
end
end Go.Ai.Z
namespace Go.Ai.Z
open Go.Ai
def xW (l:List Ax):AV:=slf true (l.map cu)
theorem yS (x:Ax):xW [x]=.sl [cu x]:=rfl
theorem Au:xW []=.ns:=rfl
theorem Rt (k:Int) (c d:C):AV.ag [.i .i64 k,.b false,.i .i64 c.kind,.s c.name,.i .i64 c.lo,.i .i64 c.hi,slf c.z (c.parts.map aJ),.i .i64 d.kind,.s d.name,.i .i64 d.lo,.i .i64 d.hi,slf d.z (d.parts.map aJ),.ns,.s [],.s [],.s []]=cu (axC k c d):=rfl
theorem X0 (k:Int) (d:C) (role a:Rl):AV.ag [.i .i64 k,.b false,.i .i64 0,.s [],.i .i64 0,.i .i64 0,.ns,.i .i64 d.kind,.s d.name,.i .i64 d.lo,.i .i64 d.hi,slf d.z (d.parts.map aJ),.ns,.s role,.s a,.s []]=cu ⟨k,false,zC,d,true,[],role,a,[]⟩:=rfl
theorem XZ (k:Int) (role a b:Rl):AV.ag [.i .i64 k,.b false,.i .i64 0,.s [],.i .i64 0,.i .i64 0,.ns,.i .i64 0,.s [],.i .i64 0,.i .i64 0,.ns,.ns,.s role,.s a,.s b]=cu ⟨k,false,zC,zC,true,[],role,a,b⟩:=rfl
theorem aeA (k:Int) (role x:Rl):AV.ag [.i .i64 k,.b false,.i .i64 0,.s [],.i .i64 0,.i .i64 0,.ns,.i .i64 0,.s [],.i .i64 0,.i .i64 0,.ns,.sl [.s x],.s role,.s [],.s []]=cu ⟨k,false,zC,zC,false,[x],role,[],[]⟩:=rfl
theorem aez (k:Int) (role x y:Rl) (l:List Rl):AV.ag [.i .i64 k,.b false,.i .i64 0,.s [],.i .i64 0,.i .i64 0,.ns,.i .i64 0,.s [],.i .i64 0,.i .i64 0,.ns,.sl (.s x::.s y::l.map .s),.s role,.s [],.s []]=cu ⟨k,false,zC,zC,false,x::y::l,role,[],[]⟩:=rfl
theorem AU (src:Rl) (r:Rd):rem src (bY r)≤rem src r:=by unfold rem bY;simp only;omega
theorem TU {src:Rl} {r:Rd} (h:Wr src r) (b:Bool):Wr src { r with op:=b }:=⟨h.at_,h.ah⟩
theorem af8 {α:Type} {src:Rl} {r:Rd} {k:Nat} {b:Bool} {x:OR α} (h:aG src { r with op:=b } k x):aG src r k x:=h
theorem jm {src:Rl}:∀(n:Nat) (r:Rd),Wr src r→rem src r<n→aG src r 0 (qF src n r)
 | 0,r,_,hn=>absurd hn (by omega)
 | n+1,r,hr,hn=>by
  unfold qF;refine aG.bind (k:=0) (j:=0) (mV hr _) (fun b q e h1 h2=>?_) (by omega)
  cases b with
  | false=>simp only [Bool.false_eq_true,if_false];exact .mk h1
  | true=>
   simp only [if_true];have hs:=Z5 e (by simp);have h0:=hs.pass h1;refine (qJ (k:=0) hs h1 ?_).wk (by omega);refine aG.bind (k:=1) (j:=0) (aF h0.1 _ (by simp)) (fun _ q e h1 h2=>?_) (by omega);refine aG.bind (k:=1) (j:=0) (bn h1) (fun s q2 e2 h3 h4=>?_) (by omega);refine aG.bind (k:=0) (j:=0) (gJ h3) (fun t q3 e3 h5 h6=>?_) (by omega);refine aG.bind (k:=0) (j:=0) (je h5 _) (fun _ q4 e4 h7 h8=>?_) (by omega);obtain ⟨hb,hq⟩:=zh e4;subst hq;have hk:t.1=3:=of_decide_eq_true hb;have hs2:=J3 e3 ((oH h3 e3).2.one (by omega));have h9:=hs2.pass h7;refine (qJ (k:=0) hs2 h7 ?_).wk (by omega);refine aG.bind (k:=1) (j:=0) (aF h9.1 _ (by simp)) (fun _ q5 e5 h10 h11=>?_) (by omega);exact af8 (jm n _ (TU h10 _) (by show rem src q5<n;omega))
section
variable {src:Rl} {S:Rd→St} {m N:Nat} (hE:yA src S m N)
include hE
theorem adv (r:Rd) (b:Bool):(S r).set (m+1) (.cells [.sl (aC src),.i .i64 r.at_,ahV r.ah,.mp m,.s r.iri,.b b,r.ax,.mp (m+2),.mp (m+3)])=S { r with op:=b }:=hE.sets r { r with op:=b } rfl
theorem vg (r:Rd):(S r)[m+1]?=some (.cells [.sl (aC src),.i .i64 r.at_,ahV r.ah,.mp m,.s r.iri,.b r.op,r.ax,.mp (m+2),.mp (m+3)]):=hE.cell r
def notE (m:Nat) (S:Rd→St) (x:OR Unit):Out:=
 match x with
 | .ok _ r=>.exit 0 [(0,.v (.pt (m+1) 0)),(5,.v (.b false))] (S r)
 | .er a c r=>.pan (flt a c) (S r)
omit hE in
@[simp] theorem aak (m:Nat) (S:Rd→St) (v:Unit) (r:Rd):notE m S (.ok v r)=.exit 0 [(0,.v (.pt (m+1) 0)),(5,.v (.b false))] (S r):=rfl
omit hE in
@[simp] theorem Eb (m:Nat) (S:Rd→St) (a:Nat) (c:Int) (r:Rd):notE m S (.er a c r)=.pan (flt a c) (S r):=rfl
theorem aax (cx:Ctx) (hl:cx.lim≤m):∀(n:Nat) (r:Rd),Wr src r→rem src r<n→
  gQ (aB P0.glob (aj P0) cx false bg) [0] [(0,.v (.pt (m+1) 0))] (S r)=notE m S (qF src n r)
 | 0,r,_,hn=>absurd hn (by omega)
 | n+1,r,ha,hn=>by
  have hg:=jm (n+1) r ha hn;have hlim:cx.lim≤m+1:=by omega
  unfold qF;obtain ⟨a,c,q,hx,e1⟩|⟨b,r1,h1,e1,w1,ke1,_⟩:=spl (JQ hE wB9 r ha cx hl) (mV ha wB9)
  ·rw [hx];simp only [OR.bind_er,Eb];refine ak fun K hK=>?_;simp -implicitDefEqProofs [bg,e1]
  rw [h1];simp only [OR.bind_ok]
  cases b with
  | false=>
   simp only [Bool.false_eq_true,if_false,aak];refine ak fun K hK=>?_;simp -implicitDefEqProofs [bg,e1]
  | true=>
   simp only [if_true];have e2:=lF hE r1 cx hl;have w2:=iP w1;have kp:=((Z5 h1 (by simp)).pass w1).2;obtain ⟨a,c,q,hx,e3⟩|⟨v3,r3,h3,e3,w3,ke3,_⟩:=spl (iD hE [40] (bY r1) w2 cx hl) (aF w2 [40] (by simp))
   ·rw [hx];simp only [OR.bind_er,Eb];refine ak fun K hK=>?_;simp -implicitDefEqProofs [bg,e1,e2,e3]
   rw [h3];simp only [OR.bind_ok];obtain ⟨a,c,q,hx,e4⟩|⟨s,r4,h4,e4,w4,ke4,_⟩:=spl (qM hE r3 w3 cx hl) (bn w3)
   ·rw [hx];simp only [OR.bind_er,Eb];refine ak fun K hK=>?_;simp -implicitDefEqProofs [bg,e1,e2,e3,e4]
   rw [h4];simp only [OR.bind_ok];obtain ⟨a,c,q,hx,e5⟩|⟨t,r5,h5,e5,w5,ke5,_⟩:=spl (oL hE r4 w4.at_ cx hl) (gJ w4)
   ·rw [hx];simp only [OR.bind_er,Eb];refine ak fun K hK=>?_;simp -implicitDefEqProofs [bg,e1,e2,e3,e4,e5]
   rw [h5];simp only [OR.bind_ok];have e5b:=oL hE r5 w5.at_ cx hl;rw [(qE h5).1] at e5b;simp only [dD] at e5b;simp only [fC] at e5 e5b;obtain ⟨a,c,q,hx,e6⟩|⟨v6,r6,h6,e6,w6,ke6,_⟩:=spl (pY hE (decide (t.1=3)) r5 w5 cx hl) (je w5 (decide (t.1=3)))
   ·rw [hx];simp only [OR.bind_er,Eb];refine ak fun K hK=>?_;simp -implicitDefEqProofs [bg,e1,e2,e3,e4,e5,e5b,e6]
   rw [h6];simp only [OR.bind_ok];have e7:=lF hE r6 cx hl;have w7:=iP w6;have kq:=AU src r6;obtain ⟨a,c,q,hx,e8⟩|⟨v8,r8,h8,e8,w8,ke8,_⟩:=spl (iD hE [41] (bY r6) w7 cx hl) (aF w7 [41] (by simp))
   ·rw [hx];simp only [OR.bind_er,Eb];refine ak fun K hK=>?_;simp -implicitDefEqProofs [bg,e1,e2,e3,e4,e5,e5b,e6,e7,e8]
   rw [h8];simp only [OR.bind_ok];have ih:=aax cx hl n { r8 with op:=r8.op || (decide (s=[111,112,101,110]) && decide (t.2.1=wD2)) } (TU w8 _) (by show rem src r8<n;omega);have hc:=vg hE r8;have hs:=adv hE r8;refine ak fun K hK=>?_;rw [←hK] at ih;clear hK;rw [←ih];cases qo:r8.op
   ·rw [qo] at hc;by_cases q1:s=[111,112,101,110]
    ·by_cases q2:t.2.1=wD2
     ·simp -implicitDefEqProofs [bg,e1,e2,e3,e4,e5,e5b,e6,e7,e8,hc,hs,hlim,q1,q2]
     ·simp -implicitDefEqProofs [bg,e1,e2,e3,e4,e5,e5b,e6,e7,e8,hc,hs,hlim,q1,q2]
    ·simp -implicitDefEqProofs [bg,e1,e2,e3,e4,e5,e5b,e6,e7,e8,hc,hs,hlim,q1]
   ·rw [qo] at hc;simp -implicitDefEqProofs [bg,e1,e2,e3,e4,e5,e5b,e6,e7,e8,hc,hs,hlim]
theorem BX (n:Nat) (r:Rd) (ha:Wr src r) (hn:rem src r<n) (cx:Ctx) (hl:cx.lim≤m):
  aj P0 (.fn (.func dP) [] []) [.pt (m+1) 0] (S r) cx=tZ (fun _=>.tu []) S (qF src n r):=by
 refine H8 (jP _ _ _) ?_;have hN:=hE.n;have h:=aax hE ⟨cx.lim,N⟩ hl n r ha hn
 cases e:qF src n r with
 | er a c q=>
  rw [e] at h;simp only [Eb] at h;simp -implicitDefEqProofs [af,nD,hN,h]
 | ok v q=>
  rw [e] at h;simp only [aak] at h;simp -implicitDefEqProofs [af,nD,hN,h]
theorem akZ (n:Nat) (hn2:n≤200000) (r:Rd) (ha:Wr src r) (hn:rem src r<n) (cx:Ctx) (hl:cx.lim≤m):
  aj P0 (.fn (.func lW) [] []) [.pt (m+1) 0] (S r) cx=tZ xW S (aaZ src n r):=by
 refine La (jP _ _ _) ?_;have hN:=hE.n;unfold aaZ;obtain ⟨a,c,q,hx,e1⟩|⟨v1,r1,h1,e1,g1⟩:=spl (BX hE n r ha (by omega) ⟨cx.lim,N⟩ hl) (jm n r ha (by omega))
 ·rw [hx];simp -implicitDefEqProofs [af,kV,hN,e1]
 rw [h1];simp only [OR.bind_ok];have w1:=g1.1;have k1:=g1.2.1;obtain ⟨a,c,q,hx,e2⟩|⟨a,r2,h2,e2,g2⟩:=spl (Sm hE n hn2 r1 ⟨cx.lim,N⟩ w1 (by omega) hl) (mJ n r1 w1 (by omega))
 ·rw [hx];simp -implicitDefEqProofs [af,kV,hN,e1,e2]
 rw [h2];simp only [OR.bind_ok];have w2:=g2.1;have k2:=g2.2.1;obtain ⟨a,c,q,hx,e3⟩|⟨b,r3,h3,e3,g3⟩:=spl (Sm hE n hn2 r2 ⟨cx.lim,N⟩ w2 (by omega) hl) (mJ n r2 w2 (by omega))
 ·rw [hx];simp -implicitDefEqProofs [af,kV,hN,e1,e2,e3];rw [I5 2 [0,1]];rotate_left
  ·rfl
  ·rfl
  ·rfl
  simp -implicitDefEqProofs [hN,e1,e2,e3]
 rw [h3];simp only [OR.bind_ok];have w3:=g3.1;simp -implicitDefEqProofs [af,kV,hN,e1,e2,e3,dQ,splice,yS,Rt,xK]
theorem aeR (n:Nat) (hn2:n≤200000) (r:Rd) (ha:Wr src r) (hn:rem src r<n) (cx:Ctx) (hl:cx.lim≤m):
  aj P0 (.fn (.func jG) [] []) [.pt (m+1) 0] (S r) cx=tZ xW S (ack src n r):=by
 refine Gh (jP _ _ _) ?_;have hN:=hE.n;unfold ack;obtain ⟨a,c,q,hx,e1⟩|⟨v1,r1,h1,e1,g1⟩:=spl (BX hE n r ha (by omega) ⟨cx.lim,N⟩ hl) (jm n r ha (by omega))
 ·rw [hx];simp -implicitDefEqProofs [af,jl,hN,e1]
 rw [h1];simp only [OR.bind_ok];have w1:=g1.1;have k1:=g1.2.1;obtain ⟨a,c,q,hx,e2⟩|⟨s,r2,h2,e2,g2⟩:=spl (qM hE r1 w1 ⟨cx.lim,N⟩ hl) (bn w1)
 ·rw [hx];simp -implicitDefEqProofs [af,jl,hN,e1,e2]
 rw [h2];simp only [OR.bind_ok];have w2:=g2.1;have k2:=g2.2.1;obtain ⟨a,c,q,hx,e3⟩|⟨c,r3,h3,e3,g3⟩:=spl (Sm hE n hn2 r2 ⟨cx.lim,N⟩ w2 (by omega) hl) (mJ n r2 w2 (by omega))
 ·rw [hx];simp -implicitDefEqProofs [af,jl,hN,e1,e2,e3]
 rw [h3];simp only [OR.bind_ok];have w3:=g3.1;simp -implicitDefEqProofs [af,jl,hN,e1,e2,e3,dQ,splice,yS,X0]
theorem Yo (n:Nat) (hn2:n≤200000) (r:Rd) (ha:Wr src r) (hn:rem src r<n) (cx:Ctx) (hl:cx.lim≤m):
  aj P0 (.fn (.func iE) [] []) [.pt (m+1) 0] (S r) cx=tZ xW S (abj src n r):=by
 refine Dx (jP _ _ _) ?_;have hN:=hE.n;unfold abj;obtain ⟨a,c,q,hx,e1⟩|⟨v1,r1,h1,e1,g1⟩:=spl (BX hE n r ha (by omega) ⟨cx.lim,N⟩ hl) (jm n r ha (by omega))
 ·rw [hx];simp -implicitDefEqProofs [af,jd,hN,e1]
 rw [h1];simp only [OR.bind_ok];have w1:=g1.1;obtain ⟨a,c,q,hx,e2⟩|⟨s,r2,h2,e2,g2⟩:=spl (qM hE r1 w1 ⟨cx.lim,N⟩ hl) (bn w1)
 ·rw [hx];simp -implicitDefEqProofs [af,jd,hN,e1,e2]
 rw [h2];simp only [OR.bind_ok];have w2:=g2.1;simp -implicitDefEqProofs [af,jd,hN,e1,e2,dQ,splice,yS,XZ]
theorem aeN (n:Nat) (hn2:n≤200000) (r:Rd) (ha:Wr src r) (hn:rem src r<n) (cx:Ctx) (hl:cx.lim≤m):
  aj P0 (.fn (.func jF) [] []) [.pt (m+1) 0] (S r) cx=tZ xW S (aaX src n r):=by
 refine F9 (jP _ _ _) ?_;have hN:=hE.n;unfold aaX;obtain ⟨a,c,q,hx,e1⟩|⟨v1,r1,h1,e1,g1⟩:=spl (BX hE n r ha (by omega) ⟨cx.lim,N⟩ hl) (jm n r ha (by omega))
 ·rw [hx];simp -implicitDefEqProofs [af,jh,hN,e1]
 rw [h1];simp only [OR.bind_ok];have w1:=g1.1;have k1:=g1.2.1;obtain ⟨a,c,q,hx,e2⟩|⟨c,r2,h2,e2,g2⟩:=spl (Sm hE n hn2 r1 ⟨cx.lim,N⟩ w1 (by omega) hl) (mJ n r1 w1 (by omega))
 ·rw [hx];simp -implicitDefEqProofs [af,jh,hN,e1,e2]
 rw [h2];simp only [OR.bind_ok];have w2:=g2.1;obtain ⟨a,c,q,hx,e3⟩|⟨a,r3,h3,e3,g3⟩:=spl (qM hE r2 w2 ⟨cx.lim,N⟩ hl) (bn w2)
 ·rw [hx];simp -implicitDefEqProofs [af,jh,hN,e1,e2,e3];rw [I5 1 [0,2]];rotate_left
  ·rfl
  ·rfl
  ·rfl
  simp -implicitDefEqProofs [hN,e1,e2,e3]
 rw [h3];simp only [OR.bind_ok];have w3:=g3.1;simp -implicitDefEqProofs [af,jh,hN,e1,e2,e3,dQ,splice,yS,X0,xK]
theorem aim (n:Nat) (hn2:n≤200000) (r:Rd) (ha:Wr src r) (hn:rem src r<n) (cx:Ctx) (hl:cx.lim≤m):
  aj P0 (.fn (.func kY) [] []) [.pt (m+1) 0] (S r) cx=tZ xW S (abA src n r):=by
 refine JC (jP _ _ _) ?_;have hN:=hE.n;unfold abA;obtain ⟨a,c,q,hx,e1⟩|⟨v1,r1,h1,e1,g1⟩:=spl (BX hE n r ha (by omega) ⟨cx.lim,N⟩ hl) (jm n r ha (by omega))
 ·rw [hx];simp -implicitDefEqProofs [af,jk,hN,e1]
 rw [h1];simp only [OR.bind_ok];have w1:=g1.1;obtain ⟨a,c,q,hx,e2⟩|⟨s,r2,h2,e2,g2⟩:=spl (qM hE r1 w1 ⟨cx.lim,N⟩ hl) (bn w1)
 ·rw [hx];simp -implicitDefEqProofs [af,jk,hN,e1,e2]
 rw [h2];simp only [OR.bind_ok];have w2:=g2.1;obtain ⟨a,c,q,hx,e3⟩|⟨a,r3,h3,e3,g3⟩:=spl (qM hE r2 w2 ⟨cx.lim,N⟩ hl) (bn w2)
 ·rw [hx];simp -implicitDefEqProofs [af,jk,hN,e1,e2,e3]
 rw [h3];simp only [OR.bind_ok];have w3:=g3.1;obtain ⟨a,c,q,hx,e4⟩|⟨b,r4,h4,e4,g4⟩:=spl (qM hE r3 w3 ⟨cx.lim,N⟩ hl) (bn w3)
 ·rw [hx];simp -implicitDefEqProofs [af,jk,hN,e1,e2,e3,e4]
 rw [h4];simp only [OR.bind_ok];have w4:=g4.1;simp -implicitDefEqProofs [af,jk,hN,e1,e2,e3,e4,dQ,splice,yS,XZ]
theorem Pn.name (n:Nat):Pn src S m n aP AV.s (nY src):=⟨fun q cx hq _ hl=>qM hE q hq cx hl,fun q hq _=>bn hq⟩
theorem ail (n:Nat) (hn2:n≤200000) (r:Rd) (ha:Wr src r) (hn:rem src r<n) (cx:Ctx) (hl:cx.lim≤m):
  aj P0 (.fn (.func kX) [] []) [.pt (m+1) 0] (S r) cx=tZ xW S (YR src n r):=by
 refine Jy (jP _ _ _) ?_;have hN:=hE.n;unfold YR;obtain ⟨a,c,q,hx,e1⟩|⟨v1,r1,h1,e1,g1⟩:=spl (BX hE n r ha (by omega) ⟨cx.lim,N⟩ hl) (jm n r ha (by omega))
 ·rw [hx];simp -implicitDefEqProofs [af,dF,hN,e1]
 rw [h1];simp only [OR.bind_ok];have w1:=g1.1;have k1:=g1.2.1;obtain ⟨a,c,q,hx,e2⟩|⟨b,r2,h2,e2,g2⟩:=spl (JQ hE wA2 r1 w1 ⟨cx.lim,N⟩ hl) (mV w1 wA2)
 ·rw [hx];simp -implicitDefEqProofs [af,dF,hN,e1,e2]
 rw [h2];simp only [OR.bind_ok];have w2:=g2.1;have k2:=g2.2.1
 cases b with
 | false=>
  simp only [Bool.false_eq_true,if_false,OR.bind_ok,if_neg];obtain ⟨a,c,q,hx,e3⟩|⟨a,r3,h3,e3,g3⟩:=spl (qM hE r2 w2 ⟨cx.lim,N⟩ hl) (bn w2)
  ·rw [hx];simp -implicitDefEqProofs [af,dF,hN,e1,e2,e3]
  rw [h3];simp only [OR.bind_ok];have w3:=g3.1;obtain ⟨a,c,q,hx,e4⟩|⟨s,r4,h4,e4,g4⟩:=spl (qM hE r3 w3 ⟨cx.lim,N⟩ hl) (bn w3)
  ·rw [hx];simp -implicitDefEqProofs [af,dF,hN,e1,e2,e3,e4]
  rw [h4];simp only [OR.bind_ok];have w4:=g4.1;simp -implicitDefEqProofs [af,dF,hN,e1,e2,e3,e4,dQ,splice,yS,aeA]
 | true=>
  simp only [if_true,OR.bind_ok];have hp:=AU src r2;have e5:=lF hE r2 ⟨cx.lim,N⟩ hl;have w5:=iP w2;obtain ⟨a,c,q,hx,e6⟩|⟨v6,r6,h6,e6,g6⟩:=spl (iD hE [40] (bY r2) w5 ⟨cx.lim,N⟩ hl) (aF w5 [40] (by simp))
  ·rw [hx];simp -implicitDefEqProofs [af,dF,hN,e1,e2,e5,e6]
  rw [h6];simp only [OR.bind_ok];have w6:=g6.1;have k3:=g6.2.1;obtain ⟨a,c,q,hx,e7⟩|⟨l,r7,h7,e7,g7⟩:=spl (agx hE (Pn.name hE n) n r6 w6 (by omega) (by omega) (by omega) ⟨cx.lim,N⟩ hl) (xA (least:=2) n [] r6 w6 (by omega) (fun q hq1 hq2=>bn hq1))
  ·rw [hx];simp -implicitDefEqProofs [af,dF,hN,e1,e2,e5,e6,e7]
  rw [h7];simp only [OR.bind_ok];have w7:=g7.1;obtain ⟨a,c,q,hx,e8⟩|⟨v8,r8,h8,e8,g8⟩:=spl (iD hE [41] r7 w7 ⟨cx.lim,N⟩ hl) (aF w7 [41] (by simp))
  ·rw [hx];simp -implicitDefEqProofs [af,dF,hN,e1,e2,e5,e6,e7,e8]
  rw [h8];simp only [OR.bind_ok];have w8:=g8.1;obtain ⟨x1,x2,x3,rfl⟩:=zu _ _ _ _ _ h7;simp only [List.map_cons] at e7;obtain ⟨a,c,q,hx,e9⟩|⟨s,r9,h9,e9,g9⟩:=spl (qM hE r8 w8 ⟨cx.lim,N⟩ hl) (bn w8)
  ·rw [hx];simp -implicitDefEqProofs [af,dF,hN,e1,e2,e5,e6,e7,e8,e9]
  rw [h9];simp only [OR.bind_ok];have w9:=g9.1;simp -implicitDefEqProofs [af,dF,hN,e1,e2,e5,e6,e7,e8,e9,dQ,splice,yS,aez]
theorem TQ (r:Rd) (ha:Wr src r) (cx:Ctx) (hl:cx.lim≤m):
  aj P0 (.fn (.func gG) [] []) [.pt (m+1) 0] (S r) cx=tZ xW S (UY src r):=by
 refine Bv (jP _ _ _) ?_;have hN:=hE.n;unfold UY;have e0:=JQ hE [67,108,97,115,115] r ha ⟨cx.lim,N⟩ hl
 cases hp:iH src r with
 | er a c q=>
  unfold isR at e0;rw [hp] at e0;simp only [dA,OR.bind_er] at e0;simp -implicitDefEqProofs [af,aA,hN,e0]
 | ok t r1=>
  have w1:=(oH ha hp).1;have his:∀w:Rl,isR src w r1=.ok (decide (t.2.1=w)) r1:=fun w=>by unfold isR;rw [(qE hp).1];rfl
  have ea:=JQ hE wC7 r1 w1 ⟨cx.lim,N⟩ hl;rw [his] at ea;have eb:=JQ hE wD0 r1 w1 ⟨cx.lim,N⟩ hl;rw [his] at eb;have ec:=JQ hE wC4 r1 w1 ⟨cx.lim,N⟩ hl;rw [his] at ec;unfold isR at e0;rw [hp] at e0;simp only [dD,OR.bind_ok] at e0 ea eb ec ⊢;by_cases k0:t.2.1=[67,108,97,115,115]
  ·have hd:EL t.2.1=true:=by unfold EL;simp [k0]
   rw [hd];simp [k0] at e0 ea eb ec;obtain ⟨a,c,q,hx,e1⟩|⟨v1,r1,h1,e1,g1⟩:=spl (pY hE true r1 w1 ⟨cx.lim,N⟩ hl) (je w1 true)
   ·rw [hx];simp -implicitDefEqProofs [af,aA,hN,e0,ea,eb,ec,e1]
   rw [h1];simp only [OR.bind_ok];have w1:=g1.1;have e2:=lF hE r1 ⟨cx.lim,N⟩ hl;have w2:=iP w1;obtain ⟨a,c,q,hx,e3⟩|⟨v3,r3,h3,e3,g3⟩:=spl (iD hE [40] (bY r1) w2 ⟨cx.lim,N⟩ hl) (aF w2 [40] (by simp))
   ·rw [hx];simp -implicitDefEqProofs [af,aA,hN,e0,ea,eb,ec,e1,e2,e3]
   rw [h3];simp only [OR.bind_ok];have w3:=g3.1;obtain ⟨a,c,q,hx,e4⟩|⟨s,r4,h4,e4,g4⟩:=spl (qM hE r3 w3 ⟨cx.lim,N⟩ hl) (bn w3)
   ·rw [hx];simp -implicitDefEqProofs [af,aA,hN,e0,ea,eb,ec,e1,e2,e3,e4]
   rw [h4];simp only [OR.bind_ok];have w4:=g4.1;obtain ⟨a,c,q,hx,e5⟩|⟨v5,r5,h5,e5,g5⟩:=spl (iD hE [41] r4 w4 ⟨cx.lim,N⟩ hl) (aF w4 [41] (by simp))
   ·rw [hx];simp -implicitDefEqProofs [af,aA,hN,e0,ea,eb,ec,e1,e2,e3,e4,e5]
   rw [h5];simp only [OR.bind_ok];have w5:=g5.1;simp -implicitDefEqProofs [af,aA,hN,e0,ea,eb,ec,e1,e2,e3,e4,e5,Au]
  by_cases k1:t.2.1=wC7
  ·have hd:EL t.2.1=true:=by unfold EL;simp [k1]
   rw [hd];simp [k1] at e0 ea eb ec;obtain ⟨a,c,q,hx,e1⟩|⟨v1,r1,h1,e1,g1⟩:=spl (pY hE true r1 w1 ⟨cx.lim,N⟩ hl) (je w1 true)
   ·rw [hx];simp -implicitDefEqProofs [af,aA,hN,e0,ea,eb,ec,e1]
   rw [h1];simp only [OR.bind_ok];have w1:=g1.1;have e2:=lF hE r1 ⟨cx.lim,N⟩ hl;have w2:=iP w1;obtain ⟨a,c,q,hx,e3⟩|⟨v3,r3,h3,e3,g3⟩:=spl (iD hE [40] (bY r1) w2 ⟨cx.lim,N⟩ hl) (aF w2 [40] (by simp))
   ·rw [hx];simp -implicitDefEqProofs [af,aA,hN,e0,ea,eb,ec,e1,e2,e3]
   rw [h3];simp only [OR.bind_ok];have w3:=g3.1;obtain ⟨a,c,q,hx,e4⟩|⟨s,r4,h4,e4,g4⟩:=spl (qM hE r3 w3 ⟨cx.lim,N⟩ hl) (bn w3)
   ·rw [hx];simp -implicitDefEqProofs [af,aA,hN,e0,ea,eb,ec,e1,e2,e3,e4]
   rw [h4];simp only [OR.bind_ok];have w4:=g4.1;obtain ⟨a,c,q,hx,e5⟩|⟨v5,r5,h5,e5,g5⟩:=spl (iD hE [41] r4 w4 ⟨cx.lim,N⟩ hl) (aF w4 [41] (by simp))
   ·rw [hx];simp -implicitDefEqProofs [af,aA,hN,e0,ea,eb,ec,e1,e2,e3,e4,e5]
   rw [h5];simp only [OR.bind_ok];have w5:=g5.1;simp -implicitDefEqProofs [af,aA,hN,e0,ea,eb,ec,e1,e2,e3,e4,e5,Au]
  by_cases k2:t.2.1=wD0
  ·have hd:EL t.2.1=true:=by unfold EL;simp [k2]
   rw [hd];simp [k2] at e0 ea eb ec;obtain ⟨a,c,q,hx,e1⟩|⟨v1,r1,h1,e1,g1⟩:=spl (pY hE true r1 w1 ⟨cx.lim,N⟩ hl) (je w1 true)
   ·rw [hx];simp -implicitDefEqProofs [af,aA,hN,e0,ea,eb,ec,e1]
   rw [h1];simp only [OR.bind_ok];have w1:=g1.1;have e2:=lF hE r1 ⟨cx.lim,N⟩ hl;have w2:=iP w1;obtain ⟨a,c,q,hx,e3⟩|⟨v3,r3,h3,e3,g3⟩:=spl (iD hE [40] (bY r1) w2 ⟨cx.lim,N⟩ hl) (aF w2 [40] (by simp))
   ·rw [hx];simp -implicitDefEqProofs [af,aA,hN,e0,ea,eb,ec,e1,e2,e3]
   rw [h3];simp only [OR.bind_ok];have w3:=g3.1;obtain ⟨a,c,q,hx,e4⟩|⟨s,r4,h4,e4,g4⟩:=spl (qM hE r3 w3 ⟨cx.lim,N⟩ hl) (bn w3)
   ·rw [hx];simp -implicitDefEqProofs [af,aA,hN,e0,ea,eb,ec,e1,e2,e3,e4]
   rw [h4];simp only [OR.bind_ok];have w4:=g4.1;obtain ⟨a,c,q,hx,e5⟩|⟨v5,r5,h5,e5,g5⟩:=spl (iD hE [41] r4 w4 ⟨cx.lim,N⟩ hl) (aF w4 [41] (by simp))
   ·rw [hx];simp -implicitDefEqProofs [af,aA,hN,e0,ea,eb,ec,e1,e2,e3,e4,e5]
   rw [h5];simp only [OR.bind_ok];have w5:=g5.1;simp -implicitDefEqProofs [af,aA,hN,e0,ea,eb,ec,e1,e2,e3,e4,e5,Au]
  by_cases k3:t.2.1=wC4
  ·have hd:EL t.2.1=true:=by unfold EL;simp [k3]
   rw [hd];simp [k3] at e0 ea eb ec;obtain ⟨a,c,q,hx,e1⟩|⟨v1,r1,h1,e1,g1⟩:=spl (pY hE true r1 w1 ⟨cx.lim,N⟩ hl) (je w1 true)
   ·rw [hx];simp -implicitDefEqProofs [af,aA,hN,e0,ea,eb,ec,e1]
   rw [h1];simp only [OR.bind_ok];have w1:=g1.1;have e2:=lF hE r1 ⟨cx.lim,N⟩ hl;have w2:=iP w1;obtain ⟨a,c,q,hx,e3⟩|⟨v3,r3,h3,e3,g3⟩:=spl (iD hE [40] (bY r1) w2 ⟨cx.lim,N⟩ hl) (aF w2 [40] (by simp))
   ·rw [hx];simp -implicitDefEqProofs [af,aA,hN,e0,ea,eb,ec,e1,e2,e3]
   rw [h3];simp only [OR.bind_ok];have w3:=g3.1;obtain ⟨a,c,q,hx,e4⟩|⟨s,r4,h4,e4,g4⟩:=spl (qM hE r3 w3 ⟨cx.lim,N⟩ hl) (bn w3)
   ·rw [hx];simp -implicitDefEqProofs [af,aA,hN,e0,ea,eb,ec,e1,e2,e3,e4]
   rw [h4];simp only [OR.bind_ok];have w4:=g4.1;obtain ⟨a,c,q,hx,e5⟩|⟨v5,r5,h5,e5,g5⟩:=spl (iD hE [41] r4 w4 ⟨cx.lim,N⟩ hl) (aF w4 [41] (by simp))
   ·rw [hx];simp -implicitDefEqProofs [af,aA,hN,e0,ea,eb,ec,e1,e2,e3,e4,e5]
   rw [h5];simp only [OR.bind_ok];have w5:=g5.1;simp -implicitDefEqProofs [af,aA,hN,e0,ea,eb,ec,e1,e2,e3,e4,e5,Au]
  ·have hd:EL t.2.1=false:=by unfold EL;simp [k0,k1,k2,k3]
   rw [hd];simp [k0,k1,k2,k3] at e0 ea eb ec;have ef:=pY hE false r1 w1 ⟨cx.lim,N⟩ hl;obtain ⟨a2,c2,r2,hx⟩:=zi src r1;rw [hx] at ef ⊢;simp only [dA] at ef;simp -implicitDefEqProofs [af,aA,hN,e0,ea,eb,ec,ef]
end
end Go.Ai.Z
