/-
 The reader of ontology documents: lists.
-/
import Derived.Test.YtcofenimejmoeaaGreatDoorAiOX1OX2OX3OX4
set_option maxRecDepth 100000
set_option linter.unusedSimpArgs false
set_option linter.unusedVariables false
set_option linter.unusedSectionVars false
namespace Go.Ai.Z
theorem jU (f:Nat) (v:AV) (s:St) (cx:Ctx):aj P0 (.fn (.func f) [v] []) [] s cx=aj P0 (.fn (.func f) [] []) [v] s cx:=by
 unfold aj
 congr 1
 funext n
 cases n<;>rfl
def OT {α:Type} (src:Rl) (S:Rd→St) (m B:Nat) (F:Nat) (enc:α→AV) (f:Rd→OR α):Prop:=
 (∀q cx,Wr src q→rem src q≤B→cx.lim≤m→aj P0 (.fn (.func F) [] []) [.pt (m+1) 0] (S q) cx=tJ enc S (f q))∧∀q,Wr src q→rem src q≤B→aG src q 1 (f q)
def aa4 {α:Type} (F T sz m:Nat) (enc:α→AV) (S:Rd→St) (x:OR (List α)):Out:=
 match x with
 | .ok l r=>.exit 0 [(0,.v (.pt (m+1) 0)),(1,.v (.i .i64 2)),(2,.v (.fn (.func F) [.pt (m+1) 0] [])),(6,.own false T sz (l.map enc)),(15,.v (.b false))] (S r)
 | .er a c r=>.pan (flt a c) (S r)
@[simp] theorem ZT {α:Type} (F T sz m:Nat) (enc:α→AV) (S:Rd→St) (l:List α) (r:Rd):aa4 F T sz m enc S (.ok l r)=.exit 0 [(0,.v (.pt (m+1) 0)),(1,.v (.i .i64 2)),(2,.v (.fn (.func F) [.pt (m+1) 0] [])),(6,.own false T sz (l.map enc)),(15,.v (.b false))] (S r):=rfl
@[simp] theorem ZU {α:Type} (F T sz m:Nat) (enc:α→AV) (S:Rd→St) (a:Nat) (c:Int) (r:Rd):aa4 F T sz m enc S (.er a c r)=.pan (flt a c) (S r):=rfl
theorem y8 {α:Type} {src:Rl} {f:Rd→OR α}:∀(n:Nat) (l:List α) (r:Rd) (l':List α) (q:Rd),nZ src f 2 n l r=.ok l' q→∃a b t,l'=a::b::t
 | 0,l,r,l',q,h=>by cases h
 | n+1,l,r,l',q,h=>by
  unfold nZ at h;by_cases z:l.length<2
  ·rw [if_pos z] at h;simp only [OR.bind_ok,Bool.false_eq_true,if_false] at h
   cases e:f r with
   | er a c r2=>rw [e] at h;cases h
   | ok v r2=>rw [e] at h;exact y8 n _ r2 l' q h
  ·rw [if_neg z] at h
   cases e0:isR src [41] r with
   | er a c r2=>rw [e0] at h;cases h
   | ok b r2=>
    rw [e0] at h;simp only [OR.bind_ok] at h
    cases b with
    | true=>
     cases h
     match l,z with
     | a::b::t,_=>exact ⟨a,b,t,rfl⟩
     | [_],z=>simp at z
     | [],z=>simp at z
    | false=>
     simp only [Bool.false_eq_true,if_false] at h
     cases e:f r2 with
     | er a c r3=>rw [e] at h;cases h
     | ok v r3=>rw [e] at h;exact y8 n _ r3 l' q h
section
variable {src:Rl} {S:Rd→St} {m N:Nat} (hE:x9 src S m N)
include hE
theorem Z8 {F:Nat} {f:Rd→OR C} {B:Nat} (hF:OT src S m B F aK f) (cx:Ctx) (hl:cx.lim≤m):∀(n:Nat) (l:List C) (r:Rd),Wr src r→rem src r<n→rem src r≤B→l.length+rem src r≤200000→
  ig (aC P0.glob (aj P0) cx false aZ) [0,1,2,6] [(0,.v (.pt (m+1) 0)),(1,.v (.i .i64 2)),(2,.v (.fn (.func F) [.pt (m+1) 0] [])),(6,.own false eU 5 (l.map aK))] (S r)=aa4 F eU 5 m aK S (nZ src f 2 n l r)
 | 0,l,r,_,hn,_,_=>absurd hn (by omega)
 | n+1,l,r,hr,hn,hB,hL=>by
  have hN:=hE.n;unfold nZ;have hk:jd [(0,.v (.pt (m+1) 0)),(1,.v (.i .i64 2)),(2,.v (.fn (.func F) [.pt (m+1) 0] [])),(6,.own false eU 5 (l.map aK))] [0,1,2,6]=[(0,.v (.pt (m+1) 0)),(1,.v (.i .i64 2)),(2,.v (.fn (.func F) [.pt (m+1) 0] [])),(6,.own false eU 5 (l.map aK))]:=rfl
  have key:∀q,Wr src q→rem src q≤rem src r→(∀K:Env→St→Out,(aC P0.glob (aj P0) cx false aZ [(0,.v (.pt (m+1) 0)),(1,.v (.i .i64 2)),(2,.v (.fn (.func F) [.pt (m+1) 0] [])),(6,.own false eU 5 (l.map aK))] (S r)).thn K=
    match f q with
    | .er a c q2=>.pan (flt a c) (S q2)
    | .ok v q2=>K [(0,.v (.pt (m+1) 0)),(1,.v (.i .i64 2)),(2,.v (.fn (.func F) [.pt (m+1) 0] [])),(6,.own false eU 5 ((l++[v]).map aK))] (S q2))→
   ig (aC P0.glob (aj P0) cx false aZ) [0,1,2,6] [(0,.v (.pt (m+1) 0)),(1,.v (.i .i64 2)),(2,.v (.fn (.func F) [.pt (m+1) 0] [])),(6,.own false eU 5 (l.map aK))] (S r)=aa4 F eU 5 m aK S ((f q).bind fun v r=>nZ src f 2 n (l++[v]) r):=by
   intro q hq hq2 h;have hg:=hF.2 q hq (by omega)
   cases e:f q with
   | er a c q2=>
    rw [e] at h;exact ak fun K hK=>(congrArg (fun E=>(aC P0.glob (aj P0) cx false aZ E (S r)).thn K) hk).trans (h K)
   | ok v q2=>
    rw [e] at h;have h1:=hg.ok e;have ih:=Z8 hF cx hl n (l++[v]) q2 h1.1 (by omega) (by omega) (by rw [List.length_append];simp;omega);exact ak fun K hK=>by rw [hk,h K,OR.bind_ok,←ih,←hK]
  have hml:l.length+1≤aQ:=by unfold aQ;omega
  have hlen:(l.map aK).length=l.length:=List.length_map _;by_cases q:l.length<2
  ·rw [if_pos q];simp only [OR.bind_ok,Bool.false_eq_true,if_false];refine key r hr (by omega) fun K=>?_;have qi:(l.length:Int)<2:=by omega
   have e1:=hF.1 r cx hr hB hl
   cases e:f r with
   | er a c q2=>
    rw [e] at e1;simp only [dB] at e1;simp -implicitDefEqProofs [aZ,qi,jU,e1,hml]
   | ok v q2=>
    rw [e] at e1;simp only [dF] at e1;simp -implicitDefEqProofs [aZ,qi,jU,e1,hml]
  ·rw [if_neg q];have qi:¬(l.length:Int)<2:=by omega
   have e0:=Jy hE [41] r hr cx hl;have g0:=jB hr [41]
   cases h0:isR src [41] r with
   | er a c q2=>
    rw [h0] at e0;simp only [dB] at e0;refine ak fun K hK=>?_;simp -implicitDefEqProofs [aZ,qi,e0]
   | ok b r2=>
    rw [h0] at e0;have w0:=(g0.ok h0);simp only [dF] at e0;simp only [OR.bind_ok]
    cases b with
    | true=>
     refine ak fun K hK=>?_;simp -implicitDefEqProofs [aZ,qi,e0]
    | false=>
     simp only [Bool.false_eq_true,if_false];refine key r2 w0.1 (by omega) fun K=>?_;have e1:=hF.1 r2 cx w0.1 (by omega) hl
     cases e:f r2 with
     | er a c q2=>
      rw [e] at e1;simp only [dB] at e1;simp -implicitDefEqProofs [aZ,qi,e0,jU,e1,hml]
     | ok v q2=>
      rw [e] at e1;simp only [dF] at e1;simp -implicitDefEqProofs [aZ,qi,e0,jU,e1,hml]
theorem Z7 {F:Nat} {f:Rd→OR Rl} {B:Nat} (hF:OT src S m B F AV.s f) (cx:Ctx) (hl:cx.lim≤m):∀(n:Nat) (l:List Rl) (r:Rd),Wr src r→rem src r<n→rem src r≤B→l.length+rem src r≤200000→
  ig (aC P0.glob (aj P0) cx false dD) [0,1,2,6] [(0,.v (.pt (m+1) 0)),(1,.v (.i .i64 2)),(2,.v (.fn (.func F) [.pt (m+1) 0] [])),(6,.own false au 1 (l.map AV.s))] (S r)=aa4 F au 1 m AV.s S (nZ src f 2 n l r)
 | 0,l,r,_,hn,_,_=>absurd hn (by omega)
 | n+1,l,r,hr,hn,hB,hL=>by
  have hN:=hE.n;unfold nZ;have hk:jd [(0,.v (.pt (m+1) 0)),(1,.v (.i .i64 2)),(2,.v (.fn (.func F) [.pt (m+1) 0] [])),(6,.own false au 1 (l.map AV.s))] [0,1,2,6]=[(0,.v (.pt (m+1) 0)),(1,.v (.i .i64 2)),(2,.v (.fn (.func F) [.pt (m+1) 0] [])),(6,.own false au 1 (l.map AV.s))]:=rfl
  have key:∀q,Wr src q→rem src q≤rem src r→(∀K:Env→St→Out,(aC P0.glob (aj P0) cx false dD [(0,.v (.pt (m+1) 0)),(1,.v (.i .i64 2)),(2,.v (.fn (.func F) [.pt (m+1) 0] [])),(6,.own false au 1 (l.map AV.s))] (S r)).thn K=
    match f q with
    | .er a c q2=>.pan (flt a c) (S q2)
    | .ok v q2=>K [(0,.v (.pt (m+1) 0)),(1,.v (.i .i64 2)),(2,.v (.fn (.func F) [.pt (m+1) 0] [])),(6,.own false au 1 ((l++[v]).map AV.s))] (S q2))→
   ig (aC P0.glob (aj P0) cx false dD) [0,1,2,6] [(0,.v (.pt (m+1) 0)),(1,.v (.i .i64 2)),(2,.v (.fn (.func F) [.pt (m+1) 0] [])),(6,.own false au 1 (l.map AV.s))] (S r)=aa4 F au 1 m AV.s S ((f q).bind fun v r=>nZ src f 2 n (l++[v]) r):=by
   intro q hq hq2 h;have hg:=hF.2 q hq (by omega)
   cases e:f q with
   | er a c q2=>
    rw [e] at h;exact ak fun K hK=>(congrArg (fun E=>(aC P0.glob (aj P0) cx false dD E (S r)).thn K) hk).trans (h K)
   | ok v q2=>
    rw [e] at h;have h1:=hg.ok e;have ih:=Z7 hF cx hl n (l++[v]) q2 h1.1 (by omega) (by omega) (by rw [List.length_append];simp;omega);exact ak fun K hK=>by rw [hk,h K,OR.bind_ok,←ih,←hK]
  have hml:l.length+1≤aQ:=by unfold aQ;omega
  have hlen:(l.map AV.s).length=l.length:=List.length_map _;by_cases q:l.length<2
  ·rw [if_pos q];simp only [OR.bind_ok,Bool.false_eq_true,if_false];refine key r hr (by omega) fun K=>?_;have qi:(l.length:Int)<2:=by omega
   have e1:=hF.1 r cx hr hB hl
   cases e:f r with
   | er a c q2=>
    rw [e] at e1;simp only [dB] at e1;simp -implicitDefEqProofs [dD,qi,jU,e1,hml]
   | ok v q2=>
    rw [e] at e1;simp only [dF] at e1;simp -implicitDefEqProofs [dD,qi,jU,e1,hml]
  ·rw [if_neg q];have qi:¬(l.length:Int)<2:=by omega
   have e0:=Jy hE [41] r hr cx hl;have g0:=jB hr [41]
   cases h0:isR src [41] r with
   | er a c q2=>
    rw [h0] at e0;simp only [dB] at e0;refine ak fun K hK=>?_;simp -implicitDefEqProofs [dD,qi,e0]
   | ok b r2=>
    rw [h0] at e0;have w0:=(g0.ok h0);simp only [dF] at e0;simp only [OR.bind_ok]
    cases b with
    | true=>
     refine ak fun K hK=>?_;simp -implicitDefEqProofs [dD,qi,e0]
    | false=>
     simp only [Bool.false_eq_true,if_false];refine key r2 w0.1 (by omega) fun K=>?_;have e1:=hF.1 r2 cx w0.1 (by omega) hl
     cases e:f r2 with
     | er a c q2=>
      rw [e] at e1;simp only [dB] at e1;simp -implicitDefEqProofs [dD,qi,e0,jU,e1,hml]
     | ok v q2=>
      rw [e] at e1;simp only [dF] at e1;simp -implicitDefEqProofs [dD,qi,e0,jU,e1,hml]
theorem VI {F:Nat} {f:Rd→OR C} {B:Nat} (hF:OT src S m B F aK f) (n:Nat) (r:Rd) (ha:Wr src r) (hn:rem src r<n) (hB:rem src r≤B) (hb:B≤200000) (cx:Ctx) (hl:cx.lim≤m):
  aj P0 (.fn (.func iL) [] []) [.pt (m+1) 0,.i .i64 2,.fn (.func F) [.pt (m+1) 0] []] (S r) cx=tJ (fun l=>.sl (l.map aK)) S (nZ src f 2 n [] r):=by
 refine Dh (jQ _ _ _) ?_;have hN:=hE.n;have h:=Z8 hE hF ⟨cx.lim,N⟩ hl n [] r ha hn hB (by simp;omega);rw [List.map_nil] at h;have h2:=y8 (src:=src) (f:=f) n [] r
 cases e:nZ src f 2 n [] r with
 | er a c q=>
  rw [e] at h;simp only [ZU] at h;simp -implicitDefEqProofs [af,kJ,hN,h]
 | ok l q=>
  rw [e] at h h2;simp only [ZT] at h;obtain ⟨a,b,l',rfl⟩:=h2 l q rfl;simp at h;simp -implicitDefEqProofs [af,kJ,hN,h]
theorem af8 {F:Nat} {f:Rd→OR Rl} {B:Nat} (hF:OT src S m B F AV.s f) (n:Nat) (r:Rd) (ha:Wr src r) (hn:rem src r<n) (hB:rem src r≤B) (hb:B≤200000) (cx:Ctx) (hl:cx.lim≤m):
  aj P0 (.fn (.func pG) [] []) [.pt (m+1) 0,.i .i64 2,.fn (.func F) [.pt (m+1) 0] []] (S r) cx=tJ (fun l=>.sl (l.map AV.s)) S (nZ src f 2 n [] r):=by
 refine Jo (jQ _ _ _) ?_;have hN:=hE.n;have h:=Z7 hE hF ⟨cx.lim,N⟩ hl n [] r ha hn hB (by simp;omega);rw [List.map_nil] at h;have h2:=y8 (src:=src) (f:=f) n [] r
 cases e:nZ src f 2 n [] r with
 | er a c q=>
  rw [e] at h;simp only [ZU] at h;simp -implicitDefEqProofs [af,ou,hN,h]
 | ok l q=>
  rw [e] at h h2;simp only [ZT] at h;obtain ⟨a,b,l',rfl⟩:=h2 l q rfl;simp at h;simp -implicitDefEqProofs [af,ou,hN,h]
end
end Go.Ai.Z
namespace Go.Ai.Z
theorem IA {glob:Nat→Option (List AV)} {call:AV→List AV→St→Ctx→CO} {cx:Ctx} {ops:List aI} {π:List Nat} {env:Env} {s:St} (c:Nat) (pre:List Nat) {oc:aI}
  (h1:Yz ops π=some (c,oc)) (h2:EX ops c oc false π=pre)
  (h3:(pre.all fun j=>match ops[j]? with|some o=>o.op.pre && (zu o oc || AQ o oc || (π.takeWhile fun x=>x != c).contains j)|none=>false)=true):
  yx glob call cx ops π env s=match jw glob call cx ops pre env s with
   | .norm env1 s1=>(match fK glob call cx oc env1 s1 with
    | .pan v' s2=>.pan v' s2
    | _=>.fail)
   | _=>.fail:=by
 unfold yx;rw [h1];simp only [h2];exact if_pos h3
theorem ad8 (k:Int) (n:Rl) (l h:Int) (c:C):AV.ag [.i .i64 k,.s n,.i .i64 l,.i .i64 h,.sl [aK c]]=aK (.mk k n l h false [c]):=Ui k n l h c []
theorem ad7 (k:Int) (n:Rl) (l h:Int) (a b:C) (ps:List C):AV.ag [.i .i64 k,.s n,.i .i64 l,.i .i64 h,.sl (aK a::aK b::ps.map aK)]=aK (.mk k n l h false (a::b::ps)):=Ui k n l h a (b::ps)
def Dn (w:Rl):Option Nat:=
 if w=wB4 then some kN
 else if w=wB1 then some iY
 else if w=wA5 then some kP
 else if w=wA6 then some jM
 else if w=wB6 then some iD
 else if w=wA8 then some jO else none
theorem Un (m:Nat) (w:Rl):find 1 (.s w) (XJ m)=some ((Dn w).map (rdF m)):=by
 unfold Dn XJ;split
 ·rename_i h;simp [find,jD,h]
 split
 ·rename_i h;simp [find,jD,h]
 split
 ·rename_i h;simp [find,jD,h]
 split
 ·rename_i h;simp [find,jD,h]
 split
 ·rename_i h;simp [find,jD,h]
 split
 ·rename_i h;simp [find,jD,h]
 ·simp [find,jD, *]
section
variable {src:Rl} {S:Rd→St} {m N:Nat} (hE:x9 src S m N)
include hE
theorem akD {f:Rd→OR C} {n:Nat} (hF:OT src S m n aU aK f) (hn:n≤200000) (r:Rd) (hs:Sn src r) (hr:rem src r≤n+1) (ha:Wr src r) (cx:Ctx) (hl:cx.lim≤m):
  aj P0 (.fn (.func kP) [] []) [.pt (m+1) 0] (S r) cx=tJ aK S (Zm src f (n+1) r):=by
 refine KH (jQ _ _ _) ?_;have hN:=hE.n;have hp:=hs.pass ha;unfold Zm;have e1:=lG hE r ⟨cx.lim,N⟩ hl;have w1:=dN ha;obtain ⟨a,c,q,hx,e2⟩|⟨v2,r2,h2,e2,g2⟩:=spl (iI hE [40] (cu r) w1 ⟨cx.lim,N⟩ hl) (aB w1 [40] (by simp))
 ·rw [hx];simp -implicitDefEqProofs [af,kY,hN,e1,e2]
 rw [h2];simp only [OR.bind_ok];have w2:=g2.1;have hq:=g2.2.1;obtain ⟨a,c,q,hx,e3⟩|⟨l,r3,h3,e3,g3⟩:=spl (VI hE hF (n+1) r2 w2 (by omega) (by omega) hn ⟨cx.lim,N⟩ hl) (wX (least:=2) (n+1) [] r2 w2 (by omega) (fun q hq1 hq2=>hF.2 q hq1 (by omega)))
 ·rw [hx];simp -implicitDefEqProofs [af,kY,hN,e1,e2,e3]
 rw [h3];simp only [OR.bind_ok];have w3:=g3.1;obtain ⟨a,c,q,hx,e4⟩|⟨v4,r4,h4,e4,g4⟩:=spl (iI hE [41] r3 w3 ⟨cx.lim,N⟩ hl) (aB w3 [41] (by simp))
 ·rw [hx];simp -implicitDefEqProofs [af,kY,hN,e1,e2,e3,e4]
 rw [h4];simp only [OR.bind_ok];have w4:=g4.1;obtain ⟨x1,x2,x3,rfl⟩:=y8 _ _ _ _ _ h3;simp only [List.map_cons] at e3;simp -implicitDefEqProofs [af,kY,hN,e1,e2,e3,e4,dU,splice,ad7]
theorem ahS {f:Rd→OR C} {n:Nat} (hF:OT src S m n aU aK f) (r:Rd) (hs:Sn src r) (hr:rem src r≤n+1) (ha:Wr src r) (cx:Ctx) (hl:cx.lim≤m):
  aj P0 (.fn (.func jM) [] []) [.pt (m+1) 0] (S r) cx=tJ aK S (PI src f r):=by
 refine Je (jQ _ _ _) ?_;have hN:=hE.n;have hp:=hs.pass ha;unfold PI;have e1:=lG hE r ⟨cx.lim,N⟩ hl;have w1:=dN ha;obtain ⟨a,c,q,hx,e2⟩|⟨v2,r2,h2,e2,g2⟩:=spl (iI hE [40] (cu r) w1 ⟨cx.lim,N⟩ hl) (aB w1 [40] (by simp))
 ·rw [hx];simp -implicitDefEqProofs [af,jk,hN,e1,e2]
 rw [h2];simp only [OR.bind_ok];have w2:=g2.1;have hq:=g2.2.1;obtain ⟨a,c,q,hx,e3⟩|⟨s,r3,h3,e3,g3⟩:=spl (qG hE r2 w2 ⟨cx.lim,N⟩ hl) (bn w2)
 ·rw [hx];simp -implicitDefEqProofs [af,jk,hN,e1,e2,e3]
 rw [h3];simp only [OR.bind_ok];have w3:=g3.1;have hq2:=g3.2.1;obtain ⟨a,c,q,hx,e4⟩|⟨c,r4,h4,e4,g4⟩:=spl (hF.1 r3 ⟨cx.lim,N⟩ w3 (by omega) hl) (hF.2 r3 w3 (by omega))
 ·rw [hx];simp -implicitDefEqProofs [af,jk,hN,e1,e2,e3,e4]
 rw [h4];simp only [OR.bind_ok];have w4:=g4.1;obtain ⟨a,c,q,hx,e5⟩|⟨v5,r5,h5,e5,g5⟩:=spl (iI hE [41] r4 w4 ⟨cx.lim,N⟩ hl) (aB w4 [41] (by simp))
 ·rw [hx];simp -implicitDefEqProofs [af,jk,hN,e1,e2,e3,e4,e5]
 rw [h5];simp only [OR.bind_ok];have w5:=g5.1;simp -implicitDefEqProofs [af,jk,hN,e1,e2,e3,e4,e5,dU,splice,ad8]
theorem Dl (F:Nat) (x:OR C) (r q:Rd) (t:Tk) (cx:Ctx) (hl:cx.lim≤m) (e1:aj P0 (.fn (.func aO) [] []) [.pt (m+1) 0] (S r) ⟨cx.lim,N⟩=.ret (fG t) (S q))
  (hf:Dn t.2.1=some F) (h:aj P0 (.fn (.func F) [] []) [.pt (m+1) 0] (S q) ⟨cx.lim,N⟩=tJ aK S x):
  af P0.glob (aj P0) dQ ([]++[.pt (m+1) 0]++[]) (S r) cx=tJ aK S x:=by
 have hN:=hE.n;have hc:=hE.cell r;have hc2:=hE.cell q;have hm:=hE.cm q;have hfd:=Un m t.2.1;rw [hf] at hfd;unfold rO at hc hc2;simp only [fG] at e1;simp only [Option.map_some,rdF] at hfd
 cases x with
 | er a c q2=>
  simp only [dB] at h;simp -implicitDefEqProofs [af,dQ,hN,hc,hc2,hm,hfd,e1,xB,LZ,jU,h]
 | ok v q2=>
  simp only [dF] at h;simp -implicitDefEqProofs [af,dQ,hN,hc,hc2,hm,hfd,e1,xB,LZ,jU,h]
theorem XI (r q:Rd) (t:Tk) (cx:Ctx) (hl:cx.lim≤m) (e1:aj P0 (.fn (.func aO) [] []) [.pt (m+1) 0] (S r) ⟨cx.lim,N⟩=.ret (fG t) (S q))
  (hf:Dn t.2.1=none) (h1:aj P0 (.fn (.func aP) [] []) [.pt (m+1) 0] (S q) ⟨cx.lim,N⟩=tJ AV.s S (nY src q)):
  af P0.glob (aj P0) dQ ([]++[.pt (m+1) 0]++[]) (S r) cx=tJ aK S ((nY src q).bind fun s r=>.ok (C.mk 3 s 0 0 true []) r):=by
 have hN:=hE.n;have hc:=hE.cell r;have hc2:=hE.cell q;have hm:=hE.cm q;have hfd:=Un m t.2.1;rw [hf] at hfd;unfold rO at hc hc2;simp only [fG] at e1;simp only [Option.map_none] at hfd
 cases e:nY src q with
 | er a c q2=>
  rw [e] at h1;simp only [dB] at h1;simp -implicitDefEqProofs [af,dQ,hN,hc,hc2,hm,hfd,e1,xB,LZ,h1]
 | ok v q2=>
  rw [e] at h1;simp only [dF] at h1;simp -implicitDefEqProofs [af,dQ,hN,hc,hc2,hm,hfd,e1,xB,LZ,h1,dU,splice,yH]
theorem Rx:∀(n:Nat),n≤200000→∀(r:Rd) (cx:Ctx),Wr src r→rem src r<n→cx.lim≤m→aj P0 (.fn (.func aU) [] []) [.pt (m+1) 0] (S r) cx=tJ aK S (xZ src n r)
 | 0,_,r,cx,_,hn,_=>absurd hn (by omega)
 | n+1,hn2,r,cx,ha,hn,hl=>by
  refine EM (jQ _ _ _) ?_;have e1:=oL hE r ha.at_ ⟨cx.lim,N⟩ hl;have g1:=dn ha;have hN:=hE.n;unfold xZ
  cases hp:iM src r with
  | er a c q=>
   rw [hp] at e1;simp only [dB] at e1;have hc:=hE.cell r;unfold rO at hc;have hm:=hE.cm r;simp -implicitDefEqProofs [af,dQ,hN,hc,e1,LZ];rw [IA 5 [0,1,2,3,4]];rotate_left
   ·rfl
   ·rfl
   ·rfl
   simp -implicitDefEqProofs [hc,e1,LZ,hN]
  | ok t q=>
   rw [hp] at e1;simp only [dF] at e1;have h1:=g1.ok hp;simp only [OR.bind_ok];have hsn:∀w:Rl,1≤w.length→t.2.1=w→Sn src q:=fun w hw ht=>JI hp (by rw [ht];exact hw)
   cases n with
   | zero=>
    have hq:rem src q=0:=by omega
    have hno:∀w:Rl,1≤w.length→¬t.2.1=w:=fun w hw ht=>by
     have:=(hsn w hw ht).pass h1.1;omega
    have hf:Dn t.2.1=none:=by
     unfold Dn;simp only [hno _ (show 1≤(wB4:Rl).length by simp),hno _ (show 1≤(wB1:Rl).length by simp),hno _ (show 1≤(wA5:Rl).length by simp),hno _ (show 1≤(wA6:Rl).length by simp),hno _ (show 1≤(wB6:Rl).length by simp),hno _ (show 1≤(wA8:Rl).length by simp),if_false]
    simp only [hno _ (show 1≤(wB4:Rl).length by simp),hno _ (show 1≤(wB1:Rl).length by simp),hno _ (show 1≤(wA5:Rl).length by simp),hno _ (show 1≤(wA6:Rl).length by simp),hno _ (show 1≤(wB6:Rl).length by simp),hno _ (show 1≤(wA8:Rl).length by simp),if_false];exact XI hE r q t cx hl e1 hf (qG hE q h1.1 _ hl)
   | succ n=>
    have hF:OT src S m n aU aK (xZ src (n+1)):=
     ⟨fun p cx2 hp1 hp2 hp3=>Rx (n+1) (by omega) p cx2 hp1 (by omega) hp3,fun p hp1 hp2=>mG (n+1) p hp1 (by omega)⟩
    by_cases n1:t.2.1=wB4
    ·have ht:=n1;have hf:Dn t.2.1=some kN:=by unfold Dn;simp only [if_pos n1]
     simp only [if_pos n1];exact Dl hE _ _ r q t cx hl e1 hf (akA hE q h1.1 _ hl)
    by_cases n2:t.2.1=wB1
    ·have ht:=n2;have hf:Dn t.2.1=some iY:=by unfold Dn;simp only [if_neg n1,if_pos n2]
     simp only [if_neg n1,if_pos n2];exact Dl hE _ _ r q t cx hl e1 hf (aex hE q h1.1 _ hl)
    by_cases n3:t.2.1=wA5
    ·have ht:=n3;have hf:Dn t.2.1=some kP:=by unfold Dn;simp only [if_neg n1,if_neg n2,if_pos n3]
     simp only [if_neg n1,if_neg n2,if_pos n3];exact Dl hE _ _ r q t cx hl e1 hf (akD hE hF (by omega) q (hsn _ (by simp) ht) (by omega) h1.1 _ hl)
    by_cases n4:t.2.1=wA6
    ·have ht:=n4;have hf:Dn t.2.1=some jM:=by unfold Dn;simp only [if_neg n1,if_neg n2,if_neg n3,if_pos n4]
     simp only [if_neg n1,if_neg n2,if_neg n3,if_pos n4];exact Dl hE _ _ r q t cx hl e1 hf (ahS hE hF q (hsn _ (by simp) ht) (by omega) h1.1 _ hl)
    by_cases n5:t.2.1=wB6
    ·have ht:=n5;have hf:Dn t.2.1=some iD:=by unfold Dn;simp only [if_neg n1,if_neg n2,if_neg n3,if_neg n4,if_pos n5]
     simp only [if_neg n1,if_neg n2,if_neg n3,if_neg n4,if_pos n5];exact Dl hE _ _ r q t cx hl e1 hf (ab3 hE q h1.1 _ hl)
    by_cases n6:t.2.1=wA8
    ·have ht:=n6;have hf:Dn t.2.1=some jO:=by unfold Dn;simp only [if_neg n1,if_neg n2,if_neg n3,if_neg n4,if_neg n5,if_pos n6]
     simp only [if_neg n1,if_neg n2,if_neg n3,if_neg n4,if_neg n5,if_pos n6];exact Dl hE _ _ r q t cx hl e1 hf (ahY hE q h1.1 _ hl)
    have hf:Dn t.2.1=none:=by unfold Dn;simp only [if_neg n1,if_neg n2,if_neg n3,if_neg n4,if_neg n5,if_neg n6]
    simp only [if_neg n1,if_neg n2,if_neg n3,if_neg n4,if_neg n5,if_neg n6];exact XI hE r q t cx hl e1 hf (qG hE q h1.1 _ hl)
end
end Go.Ai.Z
namespace Go.Ai.Z
def vO (l:List Ax):AV:=slf true (l.map bY)
theorem yI (x:Ax):vO [x]=.sl [bY x]:=rfl
theorem Af:vO []=.ns:=rfl
theorem QU (k:Int) (c d:C):AV.ag [.i .i64 k,.b false,.i .i64 c.kind,.s c.name,.i .i64 c.lo,.i .i64 c.hi,slf c.z (c.parts.map aK),.i .i64 d.kind,.s d.name,.i .i64 d.lo,.i .i64 d.hi,slf d.z (d.parts.map aK),.ns,.s [],.s [],.s []]=bY (axC k c d):=rfl
theorem Xw (k:Int) (d:C) (role a:Rl):AV.ag [.i .i64 k,.b false,.i .i64 0,.s [],.i .i64 0,.i .i64 0,.ns,.i .i64 d.kind,.s d.name,.i .i64 d.lo,.i .i64 d.hi,slf d.z (d.parts.map aK),.ns,.s role,.s a,.s []]=bY ⟨k,false,zC,d,true,[],role,a,[]⟩:=rfl
theorem Xv (k:Int) (role a b:Rl):AV.ag [.i .i64 k,.b false,.i .i64 0,.s [],.i .i64 0,.i .i64 0,.ns,.i .i64 0,.s [],.i .i64 0,.i .i64 0,.ns,.ns,.s role,.s a,.s b]=bY ⟨k,false,zC,zC,true,[],role,a,b⟩:=rfl
theorem aeb (k:Int) (role x:Rl):AV.ag [.i .i64 k,.b false,.i .i64 0,.s [],.i .i64 0,.i .i64 0,.ns,.i .i64 0,.s [],.i .i64 0,.i .i64 0,.ns,.sl [.s x],.s role,.s [],.s []]=bY ⟨k,false,zC,zC,false,[x],role,[],[]⟩:=rfl
theorem aea (k:Int) (role x y:Rl) (l:List Rl):AV.ag [.i .i64 k,.b false,.i .i64 0,.s [],.i .i64 0,.i .i64 0,.ns,.i .i64 0,.s [],.i .i64 0,.i .i64 0,.ns,.sl (.s x::.s y::l.map .s),.s role,.s [],.s []]=bY ⟨k,false,zC,zC,false,x::y::l,role,[],[]⟩:=rfl
theorem um (src:Rl) (r:Rd):rem src (cu r)≤rem src r:=by unfold rem cu;simp only;omega
theorem JB {src:Rl} {r:Rd} (h:Wr src r) (b:Bool):Wr src { r with op:=b }:=⟨h.at_,h.ah⟩
theorem afK {α:Type} {src:Rl} {r:Rd} {k:Nat} {b:Bool} {x:OR α} (h:aG src { r with op:=b } k x):aG src r k x:=h
theorem jo {src:Rl}:∀(n:Nat) (r:Rd),Wr src r→rem src r<n→aG src r 0 (qx src n r)
 | 0,r,_,hn=>absurd hn (by omega)
 | n+1,r,hr,hn=>by
  unfold qx;refine aG.bind (k:=0) (j:=0) (jB hr _) (fun b q e h1 h2=>?_) (by omega)
  cases b with
  | false=>simp only [Bool.false_eq_true,if_false];exact .mk h1
  | true=>
   simp only [if_true];have hs:=ZA e (by simp);have h0:=hs.pass h1;refine (qC (k:=0) hs h1 ?_).wk (by omega);refine aG.bind (k:=1) (j:=0) (aB h0.1 _ (by simp)) (fun _ q e h1 h2=>?_) (by omega);refine aG.bind (k:=1) (j:=0) (bn h1) (fun s q2 e2 h3 h4=>?_) (by omega);refine aG.bind (k:=0) (j:=0) (dn h3) (fun t q3 e3 h5 h6=>?_) (by omega);refine aG.bind (k:=0) (j:=0) (dL h5 _) (fun _ q4 e4 h7 h8=>?_) (by omega);obtain ⟨hb,hq⟩:=yU e4;subst hq;have hk:t.1=3:=of_decide_eq_true hb;have hs2:=JI e3 ((mM h3 e3).2.one (by omega));have h9:=hs2.pass h7;refine (qC (k:=0) hs2 h7 ?_).wk (by omega);refine aG.bind (k:=1) (j:=0) (aB h9.1 _ (by simp)) (fun _ q5 e5 h10 h11=>?_) (by omega);exact afK (jo n _ (JB h10 _) (by show rem src q5<n;omega))
section
variable {src:Rl} {S:Rd→St} {m N:Nat} (hE:x9 src S m N)
include hE
theorem ac0 (r:Rd) (b:Bool):(S r).set (m+1) (.cells [.sl (aF src),.i .i64 r.at_,ahV r.ah,.mp m,.s r.iri,.b b,r.ax,.mp (m+2),.mp (m+3)])=S { r with op:=b }:=hE.sets r { r with op:=b } rfl
theorem uN (r:Rd):(S r)[m+1]?=some (.cells [.sl (aF src),.i .i64 r.at_,ahV r.ah,.mp m,.s r.iri,.b r.op,r.ax,.mp (m+2),.mp (m+3)]):=hE.cell r
def notE (m:Nat) (S:Rd→St) (x:OR Unit):Out:=
 match x with
 | .ok _ r=>.exit 0 [(0,.v (.pt (m+1) 0)),(5,.v (.b false))] (S r)
 | .er a c r=>.pan (flt a c) (S r)
omit hE in
@[simp] theorem ZM (m:Nat) (S:Rd→St) (v:Unit) (r:Rd):notE m S (.ok v r)=.exit 0 [(0,.v (.pt (m+1) 0)),(5,.v (.b false))] (S r):=rfl
omit hE in
@[simp] theorem DU (m:Nat) (S:Rd→St) (a:Nat) (c:Int) (r:Rd):notE m S (.er a c r)=.pan (flt a c) (S r):=rfl
theorem Z5 (cx:Ctx) (hl:cx.lim≤m):∀(n:Nat) (r:Rd),Wr src r→rem src r<n→
  ig (aC P0.glob (aj P0) cx false bg) [0] [(0,.v (.pt (m+1) 0))] (S r)=notE m S (qx src n r)
 | 0,r,_,hn=>absurd hn (by omega)
 | n+1,r,ha,hn=>by
  have hg:=jo (n+1) r ha hn;have hlim:cx.lim≤m+1:=by omega
  unfold qx;obtain ⟨a,c,q,hx,e1⟩|⟨b,r1,h1,e1,w1,ke1,_⟩:=spl (Jy hE wB9 r ha cx hl) (jB ha wB9)
  ·rw [hx];simp only [OR.bind_er,DU];refine ak fun K hK=>?_;simp -implicitDefEqProofs [bg,e1]
  rw [h1];simp only [OR.bind_ok]
  cases b with
  | false=>
   simp only [Bool.false_eq_true,if_false,ZM];refine ak fun K hK=>?_;simp -implicitDefEqProofs [bg,e1]
  | true=>
   simp only [if_true];have e2:=lG hE r1 cx hl;have w2:=dN w1;have kp:=((ZA h1 (by simp)).pass w1).2;obtain ⟨a,c,q,hx,e3⟩|⟨v3,r3,h3,e3,w3,ke3,_⟩:=spl (iI hE [40] (cu r1) w2 cx hl) (aB w2 [40] (by simp))
   ·rw [hx];simp only [OR.bind_er,DU];refine ak fun K hK=>?_;simp -implicitDefEqProofs [bg,e1,e2,e3]
   rw [h3];simp only [OR.bind_ok];obtain ⟨a,c,q,hx,e4⟩|⟨s,r4,h4,e4,w4,ke4,_⟩:=spl (qG hE r3 w3 cx hl) (bn w3)
   ·rw [hx];simp only [OR.bind_er,DU];refine ak fun K hK=>?_;simp -implicitDefEqProofs [bg,e1,e2,e3,e4]
   rw [h4];simp only [OR.bind_ok];obtain ⟨a,c,q,hx,e5⟩|⟨t,r5,h5,e5,w5,ke5,_⟩:=spl (oL hE r4 w4.at_ cx hl) (dn w4)
   ·rw [hx];simp only [OR.bind_er,DU];refine ak fun K hK=>?_;simp -implicitDefEqProofs [bg,e1,e2,e3,e4,e5]
   rw [h5];simp only [OR.bind_ok];have e5b:=oL hE r5 w5.at_ cx hl;rw [(qw h5).1] at e5b;simp only [dF] at e5b;simp only [fG] at e5 e5b;obtain ⟨a,c,q,hx,e6⟩|⟨v6,r6,h6,e6,w6,ke6,_⟩:=spl (pU hE (decide (t.1=3)) r5 w5 cx hl) (dL w5 (decide (t.1=3)))
   ·rw [hx];simp only [OR.bind_er,DU];refine ak fun K hK=>?_;simp -implicitDefEqProofs [bg,e1,e2,e3,e4,e5,e5b,e6]
   rw [h6];simp only [OR.bind_ok];have e7:=lG hE r6 cx hl;have w7:=dN w6;have kq:=um src r6;obtain ⟨a,c,q,hx,e8⟩|⟨v8,r8,h8,e8,w8,ke8,_⟩:=spl (iI hE [41] (cu r6) w7 cx hl) (aB w7 [41] (by simp))
   ·rw [hx];simp only [OR.bind_er,DU];refine ak fun K hK=>?_;simp -implicitDefEqProofs [bg,e1,e2,e3,e4,e5,e5b,e6,e7,e8]
   rw [h8];simp only [OR.bind_ok];have ih:=Z5 cx hl n { r8 with op:=r8.op || (decide (s=[111,112,101,110]) && decide (t.2.1=wD2)) } (JB w8 _) (by show rem src r8<n;omega);have hc:=uN hE r8;have hs:=ac0 hE r8;refine ak fun K hK=>?_;rw [←hK] at ih;clear hK;rw [←ih];cases qo:r8.op
   ·rw [qo] at hc;by_cases q1:s=[111,112,101,110]
    ·by_cases q2:t.2.1=wD2
     ·simp -implicitDefEqProofs [bg,e1,e2,e3,e4,e5,e5b,e6,e7,e8,hc,hs,hlim,q1,q2]
     ·simp -implicitDefEqProofs [bg,e1,e2,e3,e4,e5,e5b,e6,e7,e8,hc,hs,hlim,q1,q2]
    ·simp -implicitDefEqProofs [bg,e1,e2,e3,e4,e5,e5b,e6,e7,e8,hc,hs,hlim,q1]
   ·rw [qo] at hc;simp -implicitDefEqProofs [bg,e1,e2,e3,e4,e5,e5b,e6,e7,e8,hc,hs,hlim]
theorem BI (n:Nat) (r:Rd) (ha:Wr src r) (hn:rem src r<n) (cx:Ctx) (hl:cx.lim≤m):
  aj P0 (.fn (.func dS) [] []) [.pt (m+1) 0] (S r) cx=tJ (fun _=>.tu []) S (qx src n r):=by
 refine He (jQ _ _ _) ?_;have hN:=hE.n;have h:=Z5 hE ⟨cx.lim,N⟩ hl n r ha hn
 cases e:qx src n r with
 | er a c q=>
  rw [e] at h;simp only [DU] at h;simp -implicitDefEqProofs [af,ny,hN,h]
 | ok v q=>
  rw [e] at h;simp only [ZM] at h;simp -implicitDefEqProofs [af,ny,hN,h]
theorem akB (n:Nat) (hn2:n≤200000) (r:Rd) (ha:Wr src r) (hn:rem src r<n) (cx:Ctx) (hl:cx.lim≤m):
  aj P0 (.fn (.func lX) [] []) [.pt (m+1) 0] (S r) cx=tJ vO S (aaC src n r):=by
 refine KG (jQ _ _ _) ?_;have hN:=hE.n;unfold aaC;obtain ⟨a,c,q,hx,e1⟩|⟨v1,r1,h1,e1,g1⟩:=spl (BI hE n r ha (by omega) ⟨cx.lim,N⟩ hl) (jo n r ha (by omega))
 ·rw [hx];simp -implicitDefEqProofs [af,kX,hN,e1]
 rw [h1];simp only [OR.bind_ok];have w1:=g1.1;have k1:=g1.2.1;obtain ⟨a,c,q,hx,e2⟩|⟨a,r2,h2,e2,g2⟩:=spl (Rx hE n hn2 r1 ⟨cx.lim,N⟩ w1 (by omega) hl) (mG n r1 w1 (by omega))
 ·rw [hx];simp -implicitDefEqProofs [af,kX,hN,e1,e2]
 rw [h2];simp only [OR.bind_ok];have w2:=g2.1;have k2:=g2.2.1;obtain ⟨a,c,q,hx,e3⟩|⟨b,r3,h3,e3,g3⟩:=spl (Rx hE n hn2 r2 ⟨cx.lim,N⟩ w2 (by omega) hl) (mG n r2 w2 (by omega))
 ·rw [hx];simp -implicitDefEqProofs [af,kX,hN,e1,e2,e3];rw [IA 2 [0,1]];rotate_left
  ·rfl
  ·rfl
  ·rfl
  simp -implicitDefEqProofs [hN,e1,e2,e3]
 rw [h3];simp only [OR.bind_ok];have w3:=g3.1;simp -implicitDefEqProofs [af,kX,hN,e1,e2,e3,dU,splice,yI,QU,xB]
theorem aew (n:Nat) (hn2:n≤200000) (r:Rd) (ha:Wr src r) (hn:rem src r<n) (cx:Ctx) (hl:cx.lim≤m):
  aj P0 (.fn (.func jH) [] []) [.pt (m+1) 0] (S r) cx=tJ vO S (abQ src n r):=by
 refine FT (jQ _ _ _) ?_;have hN:=hE.n;unfold abQ;obtain ⟨a,c,q,hx,e1⟩|⟨v1,r1,h1,e1,g1⟩:=spl (BI hE n r ha (by omega) ⟨cx.lim,N⟩ hl) (jo n r ha (by omega))
 ·rw [hx];simp -implicitDefEqProofs [af,jm,hN,e1]
 rw [h1];simp only [OR.bind_ok];have w1:=g1.1;have k1:=g1.2.1;obtain ⟨a,c,q,hx,e2⟩|⟨s,r2,h2,e2,g2⟩:=spl (qG hE r1 w1 ⟨cx.lim,N⟩ hl) (bn w1)
 ·rw [hx];simp -implicitDefEqProofs [af,jm,hN,e1,e2]
 rw [h2];simp only [OR.bind_ok];have w2:=g2.1;have k2:=g2.2.1;obtain ⟨a,c,q,hx,e3⟩|⟨c,r3,h3,e3,g3⟩:=spl (Rx hE n hn2 r2 ⟨cx.lim,N⟩ w2 (by omega) hl) (mG n r2 w2 (by omega))
 ·rw [hx];simp -implicitDefEqProofs [af,jm,hN,e1,e2,e3]
 rw [h3];simp only [OR.bind_ok];have w3:=g3.1;simp -implicitDefEqProofs [af,jm,hN,e1,e2,e3,dU,splice,yI,Xw]
theorem XV (n:Nat) (hn2:n≤200000) (r:Rd) (ha:Wr src r) (hn:rem src r<n) (cx:Ctx) (hl:cx.lim≤m):
  aj P0 (.fn (.func iK) [] []) [.pt (m+1) 0] (S r) cx=tJ vO S (aaR src n r):=by
 refine Df (jQ _ _ _) ?_;have hN:=hE.n;unfold aaR;obtain ⟨a,c,q,hx,e1⟩|⟨v1,r1,h1,e1,g1⟩:=spl (BI hE n r ha (by omega) ⟨cx.lim,N⟩ hl) (jo n r ha (by omega))
 ·rw [hx];simp -implicitDefEqProofs [af,jg,hN,e1]
 rw [h1];simp only [OR.bind_ok];have w1:=g1.1;obtain ⟨a,c,q,hx,e2⟩|⟨s,r2,h2,e2,g2⟩:=spl (qG hE r1 w1 ⟨cx.lim,N⟩ hl) (bn w1)
 ·rw [hx];simp -implicitDefEqProofs [af,jg,hN,e1,e2]
 rw [h2];simp only [OR.bind_ok];have w2:=g2.1;simp -implicitDefEqProofs [af,jg,hN,e1,e2,dU,splice,yI,Xv]
theorem aer (n:Nat) (hn2:n≤200000) (r:Rd) (ha:Wr src r) (hn:rem src r<n) (cx:Ctx) (hl:cx.lim≤m):
  aj P0 (.fn (.func jG) [] []) [.pt (m+1) 0] (S r) cx=tJ vO S (aaA src n r):=by
 refine FO (jQ _ _ _) ?_;have hN:=hE.n;unfold aaA;obtain ⟨a,c,q,hx,e1⟩|⟨v1,r1,h1,e1,g1⟩:=spl (BI hE n r ha (by omega) ⟨cx.lim,N⟩ hl) (jo n r ha (by omega))
 ·rw [hx];simp -implicitDefEqProofs [af,ji,hN,e1]
 rw [h1];simp only [OR.bind_ok];have w1:=g1.1;have k1:=g1.2.1;obtain ⟨a,c,q,hx,e2⟩|⟨c,r2,h2,e2,g2⟩:=spl (Rx hE n hn2 r1 ⟨cx.lim,N⟩ w1 (by omega) hl) (mG n r1 w1 (by omega))
 ·rw [hx];simp -implicitDefEqProofs [af,ji,hN,e1,e2]
 rw [h2];simp only [OR.bind_ok];have w2:=g2.1;obtain ⟨a,c,q,hx,e3⟩|⟨a,r3,h3,e3,g3⟩:=spl (qG hE r2 w2 ⟨cx.lim,N⟩ hl) (bn w2)
 ·rw [hx];simp -implicitDefEqProofs [af,ji,hN,e1,e2,e3];rw [IA 1 [0,2]];rotate_left
  ·rfl
  ·rfl
  ·rfl
  simp -implicitDefEqProofs [hN,e1,e2,e3]
 rw [h3];simp only [OR.bind_ok];have w3:=g3.1;simp -implicitDefEqProofs [af,ji,hN,e1,e2,e3,dU,splice,yI,Xw,xB]
theorem ahW (n:Nat) (hn2:n≤200000) (r:Rd) (ha:Wr src r) (hn:rem src r<n) (cx:Ctx) (hl:cx.lim≤m):
  aj P0 (.fn (.func lg) [] []) [.pt (m+1) 0] (S r) cx=tJ vO S (aa6 src n r):=by
 refine Jk (jQ _ _ _) ?_;have hN:=hE.n;unfold aa6;obtain ⟨a,c,q,hx,e1⟩|⟨v1,r1,h1,e1,g1⟩:=spl (BI hE n r ha (by omega) ⟨cx.lim,N⟩ hl) (jo n r ha (by omega))
 ·rw [hx];simp -implicitDefEqProofs [af,jl,hN,e1]
 rw [h1];simp only [OR.bind_ok];have w1:=g1.1;obtain ⟨a,c,q,hx,e2⟩|⟨s,r2,h2,e2,g2⟩:=spl (qG hE r1 w1 ⟨cx.lim,N⟩ hl) (bn w1)
 ·rw [hx];simp -implicitDefEqProofs [af,jl,hN,e1,e2]
 rw [h2];simp only [OR.bind_ok];have w2:=g2.1;obtain ⟨a,c,q,hx,e3⟩|⟨a,r3,h3,e3,g3⟩:=spl (qG hE r2 w2 ⟨cx.lim,N⟩ hl) (bn w2)
 ·rw [hx];simp -implicitDefEqProofs [af,jl,hN,e1,e2,e3]
 rw [h3];simp only [OR.bind_ok];have w3:=g3.1;obtain ⟨a,c,q,hx,e4⟩|⟨b,r4,h4,e4,g4⟩:=spl (qG hE r3 w3 ⟨cx.lim,N⟩ hl) (bn w3)
 ·rw [hx];simp -implicitDefEqProofs [af,jl,hN,e1,e2,e3,e4]
 rw [h4];simp only [OR.bind_ok];have w4:=g4.1;simp -implicitDefEqProofs [af,jl,hN,e1,e2,e3,e4,dU,splice,yI,Xv]
theorem OT.name (n:Nat):OT src S m n aP AV.s (nY src):=⟨fun q cx hq _ hl=>qG hE q hq cx hl,fun q hq _=>bn hq⟩
theorem ahU (n:Nat) (hn2:n≤200000) (r:Rd) (ha:Wr src r) (hn:rem src r<n) (cx:Ctx) (hl:cx.lim≤m):
  aj P0 (.fn (.func kZ) [] []) [.pt (m+1) 0] (S r) cx=tJ vO S (Yr src n r):=by
 refine Jg (jQ _ _ _) ?_;have hN:=hE.n;unfold Yr;obtain ⟨a,c,q,hx,e1⟩|⟨v1,r1,h1,e1,g1⟩:=spl (BI hE n r ha (by omega) ⟨cx.lim,N⟩ hl) (jo n r ha (by omega))
 ·rw [hx];simp -implicitDefEqProofs [af,dG,hN,e1]
 rw [h1];simp only [OR.bind_ok];have w1:=g1.1;have k1:=g1.2.1;obtain ⟨a,c,q,hx,e2⟩|⟨b,r2,h2,e2,g2⟩:=spl (Jy hE wA2 r1 w1 ⟨cx.lim,N⟩ hl) (jB w1 wA2)
 ·rw [hx];simp -implicitDefEqProofs [af,dG,hN,e1,e2]
 rw [h2];simp only [OR.bind_ok];have w2:=g2.1;have k2:=g2.2.1
 cases b with
 | false=>
  simp only [Bool.false_eq_true,if_false,OR.bind_ok,if_neg];obtain ⟨a,c,q,hx,e3⟩|⟨a,r3,h3,e3,g3⟩:=spl (qG hE r2 w2 ⟨cx.lim,N⟩ hl) (bn w2)
  ·rw [hx];simp -implicitDefEqProofs [af,dG,hN,e1,e2,e3]
  rw [h3];simp only [OR.bind_ok];have w3:=g3.1;obtain ⟨a,c,q,hx,e4⟩|⟨s,r4,h4,e4,g4⟩:=spl (qG hE r3 w3 ⟨cx.lim,N⟩ hl) (bn w3)
  ·rw [hx];simp -implicitDefEqProofs [af,dG,hN,e1,e2,e3,e4]
  rw [h4];simp only [OR.bind_ok];have w4:=g4.1;simp -implicitDefEqProofs [af,dG,hN,e1,e2,e3,e4,dU,splice,yI,aeb]
 | true=>
  simp only [if_true,OR.bind_ok];have hp:=um src r2;have e5:=lG hE r2 ⟨cx.lim,N⟩ hl;have w5:=dN w2;obtain ⟨a,c,q,hx,e6⟩|⟨v6,r6,h6,e6,g6⟩:=spl (iI hE [40] (cu r2) w5 ⟨cx.lim,N⟩ hl) (aB w5 [40] (by simp))
  ·rw [hx];simp -implicitDefEqProofs [af,dG,hN,e1,e2,e5,e6]
  rw [h6];simp only [OR.bind_ok];have w6:=g6.1;have k3:=g6.2.1;obtain ⟨a,c,q,hx,e7⟩|⟨l,r7,h7,e7,g7⟩:=spl (af8 hE (OT.name hE n) n r6 w6 (by omega) (by omega) (by omega) ⟨cx.lim,N⟩ hl) (wX (least:=2) n [] r6 w6 (by omega) (fun q hq1 hq2=>bn hq1))
  ·rw [hx];simp -implicitDefEqProofs [af,dG,hN,e1,e2,e5,e6,e7]
  rw [h7];simp only [OR.bind_ok];have w7:=g7.1;obtain ⟨a,c,q,hx,e8⟩|⟨v8,r8,h8,e8,g8⟩:=spl (iI hE [41] r7 w7 ⟨cx.lim,N⟩ hl) (aB w7 [41] (by simp))
  ·rw [hx];simp -implicitDefEqProofs [af,dG,hN,e1,e2,e5,e6,e7,e8]
  rw [h8];simp only [OR.bind_ok];have w8:=g8.1;obtain ⟨x1,x2,x3,rfl⟩:=y8 _ _ _ _ _ h7;simp only [List.map_cons] at e7;obtain ⟨a,c,q,hx,e9⟩|⟨s,r9,h9,e9,g9⟩:=spl (qG hE r8 w8 ⟨cx.lim,N⟩ hl) (bn w8)
  ·rw [hx];simp -implicitDefEqProofs [af,dG,hN,e1,e2,e5,e6,e7,e8,e9]
  rw [h9];simp only [OR.bind_ok];have w9:=g9.1;simp -implicitDefEqProofs [af,dG,hN,e1,e2,e5,e6,e7,e8,e9,dU,splice,yI,aea]
theorem Td (r:Rd) (ha:Wr src r) (cx:Ctx) (hl:cx.lim≤m):
  aj P0 (.fn (.func gQ) [] []) [.pt (m+1) 0] (S r) cx=tJ vO S (Uu src r):=by
 refine A8 (jQ _ _ _) ?_;have hN:=hE.n;unfold Uu;have e0:=Jy hE [67,108,97,115,115] r ha ⟨cx.lim,N⟩ hl
 cases hp:iM src r with
 | er a c q=>
  unfold isR at e0;rw [hp] at e0;simp only [dB,OR.bind_er] at e0;simp -implicitDefEqProofs [af,aA,hN,e0]
 | ok t r1=>
  have w1:=(mM ha hp).1;have his:∀w:Rl,isR src w r1=.ok (decide (t.2.1=w)) r1:=fun w=>by unfold isR;rw [(qw hp).1];rfl
  have ea:=Jy hE wC7 r1 w1 ⟨cx.lim,N⟩ hl;rw [his] at ea;have eb:=Jy hE wD0 r1 w1 ⟨cx.lim,N⟩ hl;rw [his] at eb;have ec:=Jy hE wC4 r1 w1 ⟨cx.lim,N⟩ hl;rw [his] at ec;unfold isR at e0;rw [hp] at e0;simp only [dF,OR.bind_ok] at e0 ea eb ec ⊢;by_cases k0:t.2.1=[67,108,97,115,115]
  ·have hd:Eu t.2.1=true:=by unfold Eu;simp [k0]
   rw [hd];simp [k0] at e0 ea eb ec;obtain ⟨a,c,q,hx,e1⟩|⟨v1,r1,h1,e1,g1⟩:=spl (pU hE true r1 w1 ⟨cx.lim,N⟩ hl) (dL w1 true)
   ·rw [hx];simp -implicitDefEqProofs [af,aA,hN,e0,ea,eb,ec,e1]
   rw [h1];simp only [OR.bind_ok];have w1:=g1.1;have e2:=lG hE r1 ⟨cx.lim,N⟩ hl;have w2:=dN w1;obtain ⟨a,c,q,hx,e3⟩|⟨v3,r3,h3,e3,g3⟩:=spl (iI hE [40] (cu r1) w2 ⟨cx.lim,N⟩ hl) (aB w2 [40] (by simp))
   ·rw [hx];simp -implicitDefEqProofs [af,aA,hN,e0,ea,eb,ec,e1,e2,e3]
   rw [h3];simp only [OR.bind_ok];have w3:=g3.1;obtain ⟨a,c,q,hx,e4⟩|⟨s,r4,h4,e4,g4⟩:=spl (qG hE r3 w3 ⟨cx.lim,N⟩ hl) (bn w3)
   ·rw [hx];simp -implicitDefEqProofs [af,aA,hN,e0,ea,eb,ec,e1,e2,e3,e4]
   rw [h4];simp only [OR.bind_ok];have w4:=g4.1;obtain ⟨a,c,q,hx,e5⟩|⟨v5,r5,h5,e5,g5⟩:=spl (iI hE [41] r4 w4 ⟨cx.lim,N⟩ hl) (aB w4 [41] (by simp))
   ·rw [hx];simp -implicitDefEqProofs [af,aA,hN,e0,ea,eb,ec,e1,e2,e3,e4,e5]
   rw [h5];simp only [OR.bind_ok];have w5:=g5.1;simp -implicitDefEqProofs [af,aA,hN,e0,ea,eb,ec,e1,e2,e3,e4,e5,Af]
  by_cases k1:t.2.1=wC7
  ·have hd:Eu t.2.1=true:=by unfold Eu;simp [k1]
   rw [hd];simp [k1] at e0 ea eb ec;obtain ⟨a,c,q,hx,e1⟩|⟨v1,r1,h1,e1,g1⟩:=spl (pU hE true r1 w1 ⟨cx.lim,N⟩ hl) (dL w1 true)
   ·rw [hx];simp -implicitDefEqProofs [af,aA,hN,e0,ea,eb,ec,e1]
   rw [h1];simp only [OR.bind_ok];have w1:=g1.1;have e2:=lG hE r1 ⟨cx.lim,N⟩ hl;have w2:=dN w1;obtain ⟨a,c,q,hx,e3⟩|⟨v3,r3,h3,e3,g3⟩:=spl (iI hE [40] (cu r1) w2 ⟨cx.lim,N⟩ hl) (aB w2 [40] (by simp))
   ·rw [hx];simp -implicitDefEqProofs [af,aA,hN,e0,ea,eb,ec,e1,e2,e3]
   rw [h3];simp only [OR.bind_ok];have w3:=g3.1;obtain ⟨a,c,q,hx,e4⟩|⟨s,r4,h4,e4,g4⟩:=spl (qG hE r3 w3 ⟨cx.lim,N⟩ hl) (bn w3)
   ·rw [hx];simp -implicitDefEqProofs [af,aA,hN,e0,ea,eb,ec,e1,e2,e3,e4]
   rw [h4];simp only [OR.bind_ok];have w4:=g4.1;obtain ⟨a,c,q,hx,e5⟩|⟨v5,r5,h5,e5,g5⟩:=spl (iI hE [41] r4 w4 ⟨cx.lim,N⟩ hl) (aB w4 [41] (by simp))
   ·rw [hx];simp -implicitDefEqProofs [af,aA,hN,e0,ea,eb,ec,e1,e2,e3,e4,e5]
   rw [h5];simp only [OR.bind_ok];have w5:=g5.1;simp -implicitDefEqProofs [af,aA,hN,e0,ea,eb,ec,e1,e2,e3,e4,e5,Af]
  by_cases k2:t.2.1=wD0
  ·have hd:Eu t.2.1=true:=by unfold Eu;simp [k2]
   rw [hd];simp [k2] at e0 ea eb ec;obtain ⟨a,c,q,hx,e1⟩|⟨v1,r1,h1,e1,g1⟩:=spl (pU hE true r1 w1 ⟨cx.lim,N⟩ hl) (dL w1 true)
   ·rw [hx];simp -implicitDefEqProofs [af,aA,hN,e0,ea,eb,ec,e1]
   rw [h1];simp only [OR.bind_ok];have w1:=g1.1;have e2:=lG hE r1 ⟨cx.lim,N⟩ hl;have w2:=dN w1;obtain ⟨a,c,q,hx,e3⟩|⟨v3,r3,h3,e3,g3⟩:=spl (iI hE [40] (cu r1) w2 ⟨cx.lim,N⟩ hl) (aB w2 [40] (by simp))
   ·rw [hx];simp -implicitDefEqProofs [af,aA,hN,e0,ea,eb,ec,e1,e2,e3]
   rw [h3];simp only [OR.bind_ok];have w3:=g3.1;obtain ⟨a,c,q,hx,e4⟩|⟨s,r4,h4,e4,g4⟩:=spl (qG hE r3 w3 ⟨cx.lim,N⟩ hl) (bn w3)
   ·rw [hx];simp -implicitDefEqProofs [af,aA,hN,e0,ea,eb,ec,e1,e2,e3,e4]
   rw [h4];simp only [OR.bind_ok];have w4:=g4.1;obtain ⟨a,c,q,hx,e5⟩|⟨v5,r5,h5,e5,g5⟩:=spl (iI hE [41] r4 w4 ⟨cx.lim,N⟩ hl) (aB w4 [41] (by simp))
   ·rw [hx];simp -implicitDefEqProofs [af,aA,hN,e0,ea,eb,ec,e1,e2,e3,e4,e5]
   rw [h5];simp only [OR.bind_ok];have w5:=g5.1;simp -implicitDefEqProofs [af,aA,hN,e0,ea,eb,ec,e1,e2,e3,e4,e5,Af]
  by_cases k3:t.2.1=wC4
  ·have hd:Eu t.2.1=true:=by unfold Eu;simp [k3]
   rw [hd];simp [k3] at e0 ea eb ec;obtain ⟨a,c,q,hx,e1⟩|⟨v1,r1,h1,e1,g1⟩:=spl (pU hE true r1 w1 ⟨cx.lim,N⟩ hl) (dL w1 true)
   ·rw [hx];simp -implicitDefEqProofs [af,aA,hN,e0,ea,eb,ec,e1]
   rw [h1];simp only [OR.bind_ok];have w1:=g1.1;have e2:=lG hE r1 ⟨cx.lim,N⟩ hl;have w2:=dN w1;obtain ⟨a,c,q,hx,e3⟩|⟨v3,r3,h3,e3,g3⟩:=spl (iI hE [40] (cu r1) w2 ⟨cx.lim,N⟩ hl) (aB w2 [40] (by simp))
   ·rw [hx];simp -implicitDefEqProofs [af,aA,hN,e0,ea,eb,ec,e1,e2,e3]
   rw [h3];simp only [OR.bind_ok];have w3:=g3.1;obtain ⟨a,c,q,hx,e4⟩|⟨s,r4,h4,e4,g4⟩:=spl (qG hE r3 w3 ⟨cx.lim,N⟩ hl) (bn w3)
   ·rw [hx];simp -implicitDefEqProofs [af,aA,hN,e0,ea,eb,ec,e1,e2,e3,e4]
   rw [h4];simp only [OR.bind_ok];have w4:=g4.1;obtain ⟨a,c,q,hx,e5⟩|⟨v5,r5,h5,e5,g5⟩:=spl (iI hE [41] r4 w4 ⟨cx.lim,N⟩ hl) (aB w4 [41] (by simp))
   ·rw [hx];simp -implicitDefEqProofs [af,aA,hN,e0,ea,eb,ec,e1,e2,e3,e4,e5]
   rw [h5];simp only [OR.bind_ok];have w5:=g5.1;simp -implicitDefEqProofs [af,aA,hN,e0,ea,eb,ec,e1,e2,e3,e4,e5,Af]
  ·have hd:Eu t.2.1=false:=by unfold Eu;simp [k0,k1,k2,k3]
   rw [hd];simp [k0,k1,k2,k3] at e0 ea eb ec;have ef:=pU hE false r1 w1 ⟨cx.lim,N⟩ hl;obtain ⟨a2,c2,r2,hx⟩:=yV src r1;rw [hx] at ef ⊢;simp only [dB] at ef;simp -implicitDefEqProofs [af,aA,hN,e0,ea,eb,ec,ef]
end
end Go.Ai.Z
namespace Go.Ai.Z
theorem Ku (l:List C) (hlen:l.length≤200000) (s:St) (cx:Ctx):∀(rest:List C) (i:Nat) (a:C) (x:List Ax),l.drop i=a::rest→x.length+rest.length≤400000→
  ig (aC P0.glob (aj P0) cx false kQ) [2,3,13,14,15] [(2,.own false bG 16 (x.map bY)),(3,.v (.sl (l.map aK))),(13,.v (.sl (l.tail.map aK))),(14,.v (.i .i64 l.tail.length)),(15,.v (.i .i64 i))] s=
   .exit 0 [(2,.own false bG 16 ((x++Js (a::rest)).map bY)),(3,.v (.sl (l.map aK))),(13,.v (.sl (l.tail.map aK))),(14,.v (.i .i64 l.tail.length)),(15,.v (.i .i64 l.tail.length)),(16,.v (.b false))] s
 | [],i,a,x,h,hx=>by
  have hl:l.length - i=1:=by rw [←List.length_drop,h];rfl
  have hi:i=l.tail.length:=by rw [List.length_tail];omega
  subst hi;refine ak fun K hK=>?_;simp -implicitDefEqProofs [kQ,Js]
 | b::r,i,a,x,h,hx=>by
  have hl:l.length - i=r.length+2:=by rw [←List.length_drop,h];simp
  obtain ⟨h1,h2,h3,h4⟩:=drop_cons h;have ht1:l.tail[i]?=some b:=by rw [List.getElem?_tail,←List.head?_drop,h2];rfl
  have htl:l.tail.length=l.length - 1:=List.length_tail;have hi:(i:Int)<(l.tail.length:Int):=by omega
  have hi2:i<l.tail.length:=by omega
  have hwi:=wI (i:=i) (by omega);have hml:x.length+1≤aQ:=by unfold aQ;simp at hx;omega
  have ih:=Ku l hlen s cx r (i+1) b (x++[axC 2 a b]) h2 (by simp at hx ⊢;omega);have he:x++Js (a::b::r)=(x++[axC 2 a b])++Js (b::r):=by simp [Js]
  rw [he];refine ak fun K hK=>?_;rw [←hK,show ((i+1:Nat):Int)=(i:Int)+1 from rfl] at ih;clear hK h4 h htl;rw [←ih];clear ih he;rw [List.map_append];generalize l.tail=t at *;have hg1:(l.map aK)[i]?=some (aK a):=by rw [List.getElem?_map,h1];rfl
  have hg2:(t.map aK)[i]?=some (aK b):=by rw [List.getElem?_map,ht1];rfl
  have hlx:(x.map bY).length=x.length:=List.length_map _;generalize hX:x.map bY=X at *;generalize l.map aK=L at *;generalize hT:t.map aK=T at *;simp -implicitDefEqProofs [kQ,hi,hi2,hg1,hg2,hwi,hml,hlx,dU,splice,QU]
theorem NK (l:List C) (hlen:l.length≤200000) (p:C) (k:Nat) (hp:l[k]?=some p) (t:List C) (htl:t.length≤200000) (s:St) (cx:Ctx):∀(rest:List C) (i:Nat) (x:List Ax),t.drop i=rest→x.length+rest.length≤400000→
  ig (aC P0.glob (aj P0) cx false lI) [2,3,4,14,15,24,25,26] [(2,.own false bG 16 (x.map bY)),(3,.v (.sl (l.map aK))),(4,.v (.i .i64 k)),(14,.v (.i .i64 l.length)),(15,.v (.i .i64 k)),(24,.v (.sl (t.map aK))),(25,.v (.i .i64 t.length)),(26,.v (.i .i64 i))] s=
   .exit 2 [(2,.own false bG 16 ((x++rest.map (axC 3 p)).map bY)),(3,.v (.sl (l.map aK))),(4,.v (.i .i64 k)),(14,.v (.i .i64 l.length)),(15,.v (.i .i64 k)),(24,.v (.sl (t.map aK))),(25,.v (.i .i64 t.length)),(26,.v (.i .i64 (i+rest.length:Nat))),(27,.v (.b false))] s
 | [],i,x,h,hx=>by
  have h1:¬(i:Int)<(t.length:Int):=by have:=drop_nil h;omega
  refine ak fun K hK=>?_;simp -implicitDefEqProofs [lI,h1]
 | b::r,i,x,h,hx=>by
  obtain ⟨h1,h2,h3,h4⟩:=drop_cons h;have hi:(i:Int)<(t.length:Int):=by omega
  have hwi:=wI (i:=i) (by omega);have hml:x.length+1≤aQ:=by unfold aQ;simp at hx;omega
  have ih:=NK l hlen p k hp t htl s cx r (i+1) (x++[axC 3 p b]) h2 (by simp at hx ⊢;omega);have he:x++(b::r).map (axC 3 p)=(x++[axC 3 p b])++r.map (axC 3 p):=by simp
  have hn:i+(b::r).length=i+1+r.length:=by simp;omega
  rw [he,hn];refine ak fun K hK=>?_;rw [←hK,show ((i+1:Nat):Int)=(i:Int)+1 from rfl] at ih;clear hK h4 h;rw [←ih];clear ih he;rw [List.map_append];have hg1:(l.map aK)[k]?=some (aK p):=by rw [List.getElem?_map,hp];rfl
  have hg2:(t.map aK)[i]?=some (aK b):=by rw [List.getElem?_map,h1];rfl
  have hlx:(x.map bY).length=x.length:=List.length_map _;generalize hX:x.map bY=X at *;generalize l.map aK=L at *;generalize hT:t.map aK=T at *;simp -implicitDefEqProofs [lI,hi,hg1,hg2,hwi,hml,hlx,dU,splice,QU]
theorem aal {l:List C}:(∀z∈l.map aK,z.cells.length=5)=True:=eq_true (by
 intro z hz;obtain ⟨c,_,rfl⟩:=List.mem_map.1 hz
 simp)
theorem NM (l:List C) (hlen:l.length≤150000) (s:St) (cx:Ctx):∀(rest:List C) (i:Nat) (x:List Ax),l.drop i=rest→x.length≤1024+150000→
  ∃E,((∃j:Int,E=[(3,.v (.sl (l.map aK))),(14,.v (.i .i64 l.length)),(15,.v (.i .i64 j)),(16,.v (.b false))])∨(∃j:Int,E=[(3,.v (.sl (l.map aK))),(4,.v (.i .i64 j)),(14,.v (.i .i64 l.length)),(15,.v (.i .i64 j)),(20,.v (.b true))]))∧ig (aC P0.glob (aj P0) cx false jE) [2,3,14,15] [(2,.own false bG 16 (x.map bY)),(3,.v (.sl (l.map aK))),(14,.v (.i .i64 l.length)),(15,.v (.i .i64 i))] s=
   .exit 0 ((2,.own false bG 16 ((Hl rest x).map bY))::E) s
 | [],i,x,h,hx=>by
  have h1:¬(i:Int)<(l.length:Int):=by have:=drop_nil h;omega
  refine ⟨[(3,.v (.sl (l.map aK))),(14,.v (.i .i64 l.length)),(15,.v (.i .i64 i)),(16,.v (.b false))],.inl ⟨i,rfl⟩,ak fun K hK=>?_⟩;simp -implicitDefEqProofs [jE,h1,Hl]
 | p::r,i,x,h,hx=>by
  obtain ⟨h1,h2,h3,h4⟩:=drop_cons h;have hi:(i:Int)<(l.length:Int):=by omega
  have hwi:=wI (i:=i) (by omega);have hlx:(x.map bY).length=x.length:=List.length_map _;unfold Hl;by_cases q:1024<x.length
  ·rw [if_pos q];have qi:(1024:Int)<(x.length:Int):=by omega
   refine ⟨[(3,.v (.sl (l.map aK))),(4,.v (.i .i64 i)),(14,.v (.i .i64 l.length)),(15,.v (.i .i64 i)),(20,.v (.b true))],.inr ⟨i,rfl⟩,ak fun K hK=>?_⟩;simp -implicitDefEqProofs [jE,hi,qi]
  ·rw [if_neg q];have qi:¬(1024:Int)<(x.length:Int):=by omega
   have hrl:r.length≤l.length:=by rw [←h2,List.length_drop];omega
   obtain ⟨E,hEE,ih⟩:=NM l hlen s cx r (i+1) (x++r.map (axC 3 p)) h2 (by simp;omega);have h5:=NK l (by omega) p i h1 r (by omega) s cx r 0 x rfl (by omega);rw [show ((0:Nat):Int)=0 from rfl] at h5;refine ⟨E,hEE,ak fun K hK=>?_⟩;rw [←hK,show ((i+1:Nat):Int)=(i:Int)+1 from rfl] at ih;clear hK h4;rw [←ih];clear ih;have hcl:=aal (l:=l)
   have hdr:((l.map aK).drop (i+1)).take (l.length - (i+1))=r.map aK:=by
    rw [←List.map_drop,h2];exact List.take_of_length_le (by rw [List.length_map,←h2,List.length_drop];omega)
   have hL:(l.map aK).length=l.length:=List.length_map _;have hR:(r.map aK).length=r.length:=List.length_map _;have hle:i+1≤l.length:=h3;have h0:(0:Int)≤(i:Int)+1:=by omega
   have htn:((i:Int)+1).toNat=i+1:=by omega
   generalize hX:x.map bY=X at *;generalize l.map aK=L at *;generalize r.map aK=R at *;simp -implicitDefEqProofs [jE,hi,qi,hwi,hdr,hL,hR,hle,h0,htn,hcl,h5,hlx,hX]
theorem XG:∀(l:List C) (x:List Ax),∃Y,Hl l x=x++Y
 | [],x=>⟨[],by simp [Hl]⟩
 | a::r,x=>by
  unfold Hl;split
  ·exact ⟨[],by simp⟩
  ·obtain ⟨Y,h⟩:=XG r (x++r.map (axC 3 a));exact ⟨r.map (axC 3 a)++Y,by rw [h];simp⟩
theorem afZ (a b:C) (l:List C):∃y Y,Hl (a::b::l) []=y::Y:=by
 obtain ⟨Y,h⟩:=XG (b::l) ([]++(b::l).map (axC 3 a));exact ⟨axC 3 a b,l.map (axC 3 a)++Y,by rw [Hl,if_neg (by simp),h];simp⟩
theorem CY {α:Type} {src:Rl} {f:Rd→OR α}:∀(n:Nat) (l:List α) (r:Rd) (l':List α) (q:Rd),nZ src f 2 n l r=.ok l' q→l'.length≤l.length+n
 | 0,l,r,l',q,h=>by cases h
 | n+1,l,r,l',q,h=>by
  have key:∀(v:α) r2,nZ src f 2 n (l++[v]) r2=.ok l' q→l'.length≤l.length+(n+1):=fun v r2 h=>by
   have:=CY n _ r2 l' q h
   simp at this;omega
  unfold nZ at h;by_cases z:l.length<2
  ·rw [if_pos z] at h;simp only [OR.bind_ok,Bool.false_eq_true,if_false] at h
   cases e:f r with
   | er a c r2=>rw [e] at h;cases h
   | ok v r2=>rw [e] at h;exact key v r2 h
  ·rw [if_neg z] at h
   cases e0:isR src [41] r with
   | er a c r2=>rw [e0] at h;cases h
   | ok b r2=>
    rw [e0] at h;simp only [OR.bind_ok] at h
    cases b with
    | true=>cases h;omega
    | false=>
     simp only [Bool.false_eq_true,if_false] at h
     cases e:f r2 with
     | er a c r3=>rw [e] at h;cases h
     | ok v r3=>rw [e] at h;exact key v r3 h
section
variable {src:Rl} {S:Rd→St} {m N:Nat} (hE:x9 src S m N)
include hE
theorem VK (n:Nat) (hn2:n≤100000) (r:Rd) (ha:Wr src r) (hn:rem src r<n) (cx:Ctx) (hl:cx.lim≤m):
  aj P0 (.fn (.func gY) [] []) [.pt (m+1) 0] (S r) cx=tJ vO S (abP src n r):=by
 refine BV (jQ _ _ _) ?_;have hN:=hE.n;have hF:OT src S m (n - 1) aU aK (xZ src n):=⟨fun p cx2 h1 h2 h3=>Rx hE n (by omega) p cx2 h1 (by omega) h3,fun p h1 h2=>mG n p h1 (by omega)⟩;unfold abP;obtain ⟨a,c,q,hx,e1⟩|⟨v1,r1,h1,e1,g1⟩:=spl (BI hE n r ha (by omega) ⟨cx.lim,N⟩ hl) (jo n r ha (by omega))
 ·rw [hx];simp -implicitDefEqProofs [af,iW,hN,e1]
 rw [h1];simp only [OR.bind_ok];have w1:=g1.1;have k1:=g1.2.1;obtain ⟨a,c,q,hx,e2⟩|⟨l,r2,h2,e2,g2⟩:=spl (VI hE hF n r1 w1 (by omega) (by omega) (by omega) ⟨cx.lim,N⟩ hl) (wX (least:=2) n [] r1 w1 (by omega) (fun q hq1 hq2=>hF.2 q hq1 (by omega)))
 ·rw [hx];simp -implicitDefEqProofs [af,iW,hN,e1,e2]
 rw [h2];simp only [OR.bind_ok];have w2:=g2.1;have hlen:=CY _ _ _ _ _ h2;obtain ⟨x1,x2,x3,rfl⟩:=y8 _ _ _ _ _ h2;have hq:=Ku (x1::x2::x3) (by simp at hlen ⊢;omega) (S r2) ⟨cx.lim,N⟩ (x2::x3) 0 x1 [] rfl (by simp at hlen ⊢;omega);rw [List.map_nil,show ((0:Nat):Int)=0 from rfl] at hq;simp [Js] at hq;have hcl:=aal (l:=x1::x2::x3);simp at hcl;have htk:(x3.map aK).take x3.length=x3.map aK:=List.take_of_length_le (by simp);simp -implicitDefEqProofs [af,iW,hN,e1,e2,hq,hcl,htk,vO,Js]
theorem Zj (n:Nat) (hn2:n≤100000) (r:Rd) (ha:Wr src r) (hn:rem src r<n) (cx:Ctx) (hl:cx.lim≤m):
  aj P0 (.fn (.func ja) [] []) [.pt (m+1) 0] (S r) cx=tJ vO S (abR src n r):=by
 refine DZ (jQ _ _ _) ?_;have hN:=hE.n;have hF:OT src S m (n - 1) aU aK (xZ src n):=⟨fun p cx2 h1 h2 h3=>Rx hE n (by omega) p cx2 h1 (by omega) h3,fun p h1 h2=>mG n p h1 (by omega)⟩;unfold abR;obtain ⟨a,c,q,hx,e1⟩|⟨v1,r1,h1,e1,g1⟩:=spl (BI hE n r ha (by omega) ⟨cx.lim,N⟩ hl) (jo n r ha (by omega))
 ·rw [hx];simp -implicitDefEqProofs [af,jy,hN,e1]
 rw [h1];simp only [OR.bind_ok];have w1:=g1.1;have k1:=g1.2.1;obtain ⟨a,c,q,hx,e2⟩|⟨l,r2,h2,e2,g2⟩:=spl (VI hE hF n r1 w1 (by omega) (by omega) (by omega) ⟨cx.lim,N⟩ hl) (wX (least:=2) n [] r1 w1 (by omega) (fun q hq1 hq2=>hF.2 q hq1 (by omega)))
 ·rw [hx];simp -implicitDefEqProofs [af,jy,hN,e1,e2]
 rw [h2];simp only [OR.bind_ok];have w2:=g2.1;have hlen:=CY _ _ _ _ _ h2;obtain ⟨x1,x2,x3,rfl⟩:=y8 _ _ _ _ _ h2;obtain ⟨E,hEE,hq⟩:=NM (x1::x2::x3) (by simp at hlen ⊢;omega) (S r2) ⟨cx.lim,N⟩ (x1::x2::x3) 0 [] rfl (by simp);rw [List.map_nil,show ((0:Nat):Int)=0 from rfl] at hq;simp at hq;obtain ⟨y,Y,hY⟩:=afZ x1 x2 x3;rw [hY] at hq ⊢;simp at hq
 rcases hEE with ⟨j,rfl⟩|⟨j,rfl⟩<;>simp at hq<;>simp -implicitDefEqProofs [af,jy,hN,e1,e2,hq,vO]
end
end Go.Ai.Z
namespace Go.Ai.Z
theorem QA {α:Type} {src:Rl} {f:Rd→OR α} {P:α→Prop} {B:Nat} (hf:∀q v q2,Wr src q→rem src q≤B→f q=.ok v q2→P v) (hg:∀q,Wr src q→rem src q≤B→aG src q 1 (f q)):
  ∀(n:Nat) (l:List α) (r:Rd) (l':List α) (q:Rd),Wr src r→rem src r≤B→(∀v∈l,P v)→nZ src f 2 n l r=.ok l' q→∀v∈l',P v
 | 0,l,r,l',q,_,_,_,h=>by cases h
 | n+1,l,r,l',q,hr,hB,hl,h=>by
  have key:∀r1,Wr src r1→rem src r1≤B→(f r1).bind (fun v r=>nZ src f 2 n (l++[v]) r)=.ok l' q→∀v∈l',P v:=fun r1 h1 h2 h3=>by
   cases e:f r1 with
   | er a c r2=>rw [e] at h3;cases h3
   | ok v r2=>
    rw [e] at h3;have g:=(hg r1 h1 h2).ok e
    exact QA hf hg n (l++[v]) r2 l' q g.1 (by omega) (fun u hu=>by
     rcases List.mem_append.1 hu with hu|hu
     ·exact hl u hu
     ·rw [List.mem_singleton.1 hu];exact hf r1 v r2 h1 h2 e) h3
  unfold nZ at h;by_cases z:l.length<2
  ·rw [if_pos z] at h;simp only [OR.bind_ok,Bool.false_eq_true,if_false] at h;exact key r hr hB h
  ·rw [if_neg z] at h;have g0:=jB hr [41]
   cases e0:isR src [41] r with
   | er a c r2=>rw [e0] at h;cases h
   | ok b r2=>
    rw [e0] at h;simp only [OR.bind_ok] at h;have g:=g0.ok e0
    cases b with
    | true=>cases h;exact hl
    | false=>
     simp only [Bool.false_eq_true,if_false] at h;exact key r2 g.1 (by omega) h
theorem OR.bind_eq {α β:Type} {x:OR α} {f:α→Rd→OR β} {v:β} {q:Rd} (h:x.bind f=.ok v q):∃u r,x=.ok u r∧f u r=.ok v q:=by
 cases x with
 | er a c r=>cases h
 | ok u r=>exact ⟨u,r,rfl,h⟩
theorem Fp {src:Rl} {r q:Rd} {s:Rl} (hr:Wr src r) (h:nY src r=.ok s q):s.length≤src.length:=by
 unfold nY at h;obtain ⟨t,r1,h1,h⟩:=OR.bind_eq h;obtain ⟨u,r2,h2,h⟩:=OR.bind_eq h;cases h
 have:=(mM hr h1).2.len
 exact Nat.le_trans (VW 58 _) this
theorem CW {k:Int} {n:Rl} {l h:Int} {z:Bool} (hn:n.length≤200000):C.Lng (.mk k n l h z []):=.mk _ (by simpa using Nat.le_trans hn (by decide)) (by simp) (by simp)
theorem VA {src:Rl} (hs:src.length≤100000):∀(n:Nat) (r:Rd) (c:C) (q:Rd),n≤200000→Wr src r→rem src r<n→xZ src n r=.ok c q→C.Lng c
 | 0,r,c,q,_,_,_,h=>by cases h
 | n+1,r,c,q,hn,hr,hr2,h=>by
  unfold xZ at h;obtain ⟨t,r1,h1,h⟩:=OR.bind_eq h;have g1:=(dn hr).ok h1;have hsn:∀w:Rl,1≤w.length→t.2.1=w→Sn src r1:=fun w hw ht=>JI h1 (by rw [ht];exact hw)
  split at h
  ·obtain ⟨u,r2,h2,h⟩:=OR.bind_eq h;cases h;exact CW (by simp)
  split at h
  ·obtain ⟨u,r2,h2,h⟩:=OR.bind_eq h;cases h;exact CW (by simp)
  split at h
  ·rename_i ht;have hp:=(hsn _ (by simp) ht).pass g1.1;unfold Zm at h;obtain ⟨u,r2,h2,h⟩:=OR.bind_eq h;obtain ⟨l,r3,h3,h⟩:=OR.bind_eq h;obtain ⟨u,r4,h4,h⟩:=OR.bind_eq h;cases h;have g2:=(aB hp.1 [40] (by simp)).ok h2;have hl:=CY n [] r2 l r3 h3;have ha:=QA (src:=src) (f:=xZ src n) (P:=C.Lng) (B:=n - 1) (fun p v p2 hp1 hp2 hp3=>VA hs n p v p2 (by omega) hp1 (by omega) hp3) (fun p hp1 hp2=>mG n p hp1 (by omega)) n [] r2 l r3 g2.1 (by omega) (by simp) h3;refine .mk _ (by simp) ?_ ?_
   ·simp at hl ⊢;omega
   ·simpa using ha
  split at h
  ·rename_i ht;have hp:=(hsn _ (by simp) ht).pass g1.1;unfold PI at h;obtain ⟨u,r2,h2,h⟩:=OR.bind_eq h;obtain ⟨s,r3,h3,h⟩:=OR.bind_eq h;obtain ⟨d,r4,h4,h⟩:=OR.bind_eq h;obtain ⟨u,r5,h5,h⟩:=OR.bind_eq h;cases h;have g2:=(aB hp.1 [40] (by simp)).ok h2;have g3:=(bn g2.1).ok h3;have hl:=Fp g2.1 h3;have hd:=VA hs n r3 d r4 (by omega) g3.1 (by omega) h4;exact .mk _ (by simp;omega) (by simp) (by simpa using hd)
  split at h
  ·rename_i ht;have hp:=(hsn _ (by simp) ht).pass g1.1;unfold YE at h;obtain ⟨u,r2,h2,h⟩:=OR.bind_eq h;obtain ⟨s,r3,h3,h⟩:=OR.bind_eq h;obtain ⟨u,r5,h5,h⟩:=OR.bind_eq h;cases h;have g2:=(aB hp.1 [40] (by simp)).ok h2;exact CW (Nat.le_trans (Fp g2.1 h3) (by omega))
  split at h
  ·rename_i ht;have hp:=(hsn _ (by simp) ht).pass g1.1;unfold Q7 at h;obtain ⟨u,r2,h2,h⟩:=OR.bind_eq h;obtain ⟨s,r3,h3,h⟩:=OR.bind_eq h;obtain ⟨b,r4,h4,h⟩:=OR.bind_eq h;obtain ⟨x,r5,h5,h⟩:=OR.bind_eq h;obtain ⟨u,r6,h6,h⟩:=OR.bind_eq h;cases h;have g2:=(aB hp.1 [40] (by simp)).ok h2;exact CW (Nat.le_trans (Fp g2.1 h3) (by omega))
  ·obtain ⟨s,r3,h3,h⟩:=OR.bind_eq h;cases h;exact CW (Nat.le_trans (Fp g1.1 h3) (by omega))
theorem BL:C.Lng zC:=CW (by simp)
theorem VN {k:Int} {a b:C} (ha:C.Lng a) (hb:C.Lng b):(axC k a b).Lng:=⟨ha,hb,by simp [axC],by simp [axC],by simp [axC]⟩
theorem Xz:∀{l:List C},(∀c∈l,C.Lng c)→∀x∈Js l,x.Lng
 | [],_,x,hx=>by cases hx
 | [_],_,x,hx=>by cases hx
 | a::b::r,h,x,hx=>by
  rcases List.mem_cons.1 hx with rfl|hx
  ·exact VN (h a (by simp)) (h b (by simp))
  ·exact Xz (l:=b::r) (fun c hc=>h c (by simp [hc])) x hx
theorem XE:∀{l:List C} {X:List Ax},(∀c∈l,C.Lng c)→(∀x∈X,x.Lng)→∀x∈Hl l X,x.Lng
 | [],X,_,hX,x,hx=>hX x hx
 | a::r,X,h,hX,x,hx=>by
  unfold Hl at hx
  split at hx
  ·exact hX x hx
  ·refine XE (l:=r) (fun c hc=>h c (by simp [hc])) (fun y hy=>?_) x hx;rcases List.mem_append.1 hy with hy|hy
   ·exact hX y hy
   ·obtain ⟨c,hc,rfl⟩:=List.mem_map.1 hy;exact VN (h a (by simp)) (h c (by simp [hc]))
theorem XA:∀(l:List C),(Js l).length≤l.length
 | []=>by simp [Js]
 | [_]=>by simp [Js]
 | a::b::r=>by have:=XA (b::r);simp [Js] at this ⊢;omega
theorem XF:∀(l:List C) (X:List Ax) (k:Nat),l.length≤k→X.length≤1024+k→(Hl l X).length≤1024+k
 | [],X,k,_,hX=>by simpa [Hl] using hX
 | a::r,X,k,hl,hX=>by
  unfold Hl;split
  ·exact hX
  ·exact XF r _ k (by simp at hl;omega) (by simp at hl ⊢;omega)
structure akJ (X:List Ax):Prop where
 len:X.length≤200000
 lng:∀x∈X,x.Lng
theorem Io {x:Ax} (h:x.Lng):akJ [x]:=⟨by simp,fun y hy=>by rw [List.mem_singleton.1 hy];exact h⟩
theorem ahC {src:Rl} (hs:src.length≤70000) {n:Nat} (hn:n≤100000) {w:Rl} {r q:Rd} {X:List Ax} (hr:Wr src r) (hr2:rem src r<n) (h:EH src n w r=.ok X q):akJ X:=by
 have hcon:∀{r c q},Wr src r→rem src r<n→xZ src n r=.ok c q→C.Lng c:=fun h1 h2 h3=>VA (by omega) n _ _ _ (by omega) h1 h2 h3;have hnm:∀{r s q},Wr src r→nY src r=.ok s q→s.length≤1152921504606846976:=fun h1 h2=>Nat.le_trans (Fp h1 h2) (by omega)
 have hlst:∀{r l q},Wr src r→rem src r<n→nZ src (xZ src n) 2 n [] r=.ok l q→(∀c∈l,C.Lng c)∧l.length≤100000:=fun {r l q} h1 h2 h3=>
  ⟨QA (src:=src) (f:=xZ src n) (P:=C.Lng) (B:=n - 1) (fun p v p2 hp1 hp2 hp3=>hcon hp1 (by omega) hp3) (fun p hp1 hp2=>mG n p hp1 (by omega)) n [] r l q h1 (by omega) (by simp) h3,
   by have:=CY n [] r l q h3;simp at this;omega⟩
 unfold EH at h
 split at h
 ·unfold Uu at h;obtain ⟨t,r1,h1,h⟩:=OR.bind_eq h;obtain ⟨u,r2,h2,h⟩:=OR.bind_eq h;obtain ⟨u,r3,h3,h⟩:=OR.bind_eq h;obtain ⟨u,r4,h4,h⟩:=OR.bind_eq h;obtain ⟨u,r5,h5,h⟩:=OR.bind_eq h;cases h;exact ⟨by simp,by simp⟩
 split at h
 ·unfold aaC at h;obtain ⟨u,r1,h1,h⟩:=OR.bind_eq h;obtain ⟨a,r2,h2,h⟩:=OR.bind_eq h;obtain ⟨b,r3,h3,h⟩:=OR.bind_eq h;cases h;have g1:=(jo n r hr hr2).ok h1;have g2:=(mG n r1 g1.1 (by omega)).ok h2;exact Io (VN (hcon g1.1 (by omega) h2) (hcon g2.1 (by omega) h3))
 split at h
 ·unfold abP at h;obtain ⟨u,r1,h1,h⟩:=OR.bind_eq h;obtain ⟨l,r2,h2,h⟩:=OR.bind_eq h;cases h;have g1:=(jo n r hr hr2).ok h1;obtain ⟨k1,k2⟩:=hlst g1.1 (by omega) h2;exact ⟨by have:=XA l;omega,Xz k1⟩
 split at h
 ·unfold abR at h;obtain ⟨u,r1,h1,h⟩:=OR.bind_eq h;obtain ⟨l,r2,h2,h⟩:=OR.bind_eq h;cases h;have g1:=(jo n r hr hr2).ok h1;obtain ⟨k1,k2⟩:=hlst g1.1 (by omega) h2;exact ⟨by have:=XF l [] l.length (by omega) (by simp);omega,XE k1 (by simp)⟩
 split at h
 ·unfold abQ at h;obtain ⟨u,r1,h1,h⟩:=OR.bind_eq h;obtain ⟨s,r2,h2,h⟩:=OR.bind_eq h;obtain ⟨c,r3,h3,h⟩:=OR.bind_eq h;cases h;have g1:=(jo n r hr hr2).ok h1;have g2:=(bn g1.1).ok h2;exact Io ⟨BL,hcon g2.1 (by omega) h3,by simp,by simp,by simp⟩
 split at h
 ·unfold Yr at h;obtain ⟨u,r1,h1,h⟩:=OR.bind_eq h;obtain ⟨b,r2,h2,h⟩:=OR.bind_eq h
  split at h
  ·obtain ⟨u,r3,h3,h⟩:=OR.bind_eq h;obtain ⟨l,r4,h4,h⟩:=OR.bind_eq h;obtain ⟨u,r5,h5,h⟩:=OR.bind_eq h;obtain ⟨s,r6,h6,h⟩:=OR.bind_eq h;cases h;have hl:=CY n [] r3 l r4 h4;exact Io ⟨BL,BL,by simp at hl ⊢;omega,by simp,by simp⟩
  ·obtain ⟨a,r3,h3,h⟩:=OR.bind_eq h;obtain ⟨s,r4,h4,h⟩:=OR.bind_eq h;cases h;exact Io ⟨BL,BL,by simp,by simp,by simp⟩
 split at h
 ·unfold aaR at h;obtain ⟨u,r1,h1,h⟩:=OR.bind_eq h;obtain ⟨s,r2,h2,h⟩:=OR.bind_eq h;cases h;exact Io ⟨BL,BL,by simp,by simp,by simp⟩
 split at h
 ·unfold aaA at h;obtain ⟨u,r1,h1,h⟩:=OR.bind_eq h;obtain ⟨c,r2,h2,h⟩:=OR.bind_eq h;obtain ⟨a,r3,h3,h⟩:=OR.bind_eq h;cases h;have g1:=(jo n r hr hr2).ok h1;have g2:=(mG n r1 g1.1 (by omega)).ok h2;exact Io ⟨BL,hcon g1.1 (by omega) h2,by simp,hnm g2.1 h3,by simp⟩
 ·unfold aa6 at h;obtain ⟨u,r1,h1,h⟩:=OR.bind_eq h;obtain ⟨s,r2,h2,h⟩:=OR.bind_eq h;obtain ⟨a,r3,h3,h⟩:=OR.bind_eq h;obtain ⟨b,r4,h4,h⟩:=OR.bind_eq h;cases h;have g1:=(jo n r hr hr2).ok h1;have g2:=(bn g1.1).ok h2;have g3:=(bn g2.1).ok h3;exact Io ⟨BL,BL,by simp,hnm g2.1 h3,hnm g3.1 h4⟩
end Go.Ai.Z
namespace Go.Ai.Z
theorem abB {src:Rl} {r:Rd} (h:Wr src r):aG src r 0 (Uu src r):=by
 unfold Uu;refine aG.bind (k:=0) (j:=0) (dn h) (fun t q e h1 h2=>?_) (by omega);refine aG.bind (k:=0) (j:=0) (dL h1 _) (fun _ q2 e2 h3 h4=>?_) (by omega);obtain ⟨hb,hq⟩:=yU e2;subst hq
 have hsn:Sn src q2:=JI e (by
  unfold Eu at hb;rw [Bool.or_eq_true,Bool.or_eq_true,Bool.or_eq_true,decide_eq_true_eq,decide_eq_true_eq,decide_eq_true_eq,decide_eq_true_eq] at hb
  rcases hb with ((hb|hb)|hb)|hb<;>rw [hb]<;>simp)
 have hp:=hsn.pass h3;refine (qC (k:=0) hsn h3 ?_).wk (by omega);refine aG.bind (k:=1) (j:=0) (aB hp.1 _ (by simp)) (fun _ q e h1 h2=>?_) (by omega);refine aG.bind (k:=1) (j:=0) (bn h1) (fun _ q e h1 h2=>?_) (by omega);exact aG.bind (k:=1) (j:=0) (aB h1 _ (by simp)) (fun _ q e h1 h2=>aG.mk h1) (by omega)
theorem FK {src:Rl} {n:Nat} {w:Rl} {r:Rd} (h:Wr src r) (hn:rem src r<n):aG src r 0 (EH src n w r):=by
 have hno:=jo n r h hn;have hli:∀q,Wr src q→rem src q<n→aG src q 0 (nZ src (xZ src n) 2 n [] q):=fun q h1 h2=>wX (least:=2) n [] q h1 h2 (fun p hp1 hp2=>mG n p hp1 (by omega));unfold EH;split
 ·exact abB h
 split
 ·unfold aaC;refine aG.bind (k:=0) (j:=0) hno (fun _ q e h1 h2=>?_) (by omega);refine aG.bind (k:=1) (j:=0) (mG n q h1 (by omega)) (fun _ q2 e2 h3 h4=>?_) (by omega);exact aG.bind (k:=1) (j:=0) (mG n q2 h3 (by omega)) (fun _ q e h1 h2=>aG.mk h1) (by omega)
 split
 ·unfold abP;refine aG.bind (k:=0) (j:=0) hno (fun _ q e h1 h2=>?_) (by omega);exact aG.bind (k:=0) (j:=0) (hli q h1 (by omega)) (fun _ q e h1 h2=>aG.mk h1) (by omega)
 split
 ·unfold abR;refine aG.bind (k:=0) (j:=0) hno (fun _ q e h1 h2=>?_) (by omega);exact aG.bind (k:=0) (j:=0) (hli q h1 (by omega)) (fun _ q e h1 h2=>aG.mk h1) (by omega)
 split
 ·unfold abQ;refine aG.bind (k:=0) (j:=0) hno (fun _ q e h1 h2=>?_) (by omega);refine aG.bind (k:=1) (j:=0) (bn h1) (fun _ q2 e2 h3 h4=>?_) (by omega);exact aG.bind (k:=1) (j:=0) (mG n q2 h3 (by omega)) (fun _ q e h1 h2=>aG.mk h1) (by omega)
 split
 ·unfold Yr;refine aG.bind (k:=0) (j:=0) hno (fun _ q e h1 h2=>?_) (by omega);refine aG.bind (k:=0) (j:=0) (jB h1 _) (fun b q2 e2 h3 h4=>?_) (by omega);split
  ·rename_i hb;subst hb;have hs:=ZA e2 (by simp);have hp:=hs.pass h3;refine (qC (k:=0) hs h3 ?_).wk (by omega);refine aG.bind (k:=1) (j:=0) (aB hp.1 _ (by simp)) (fun _ q3 e3 h5 h6=>?_) (by omega);refine aG.bind (k:=0) (j:=0) (wX (least:=2) n [] q3 h5 (by omega) (fun p hp1 hp2=>bn hp1)) (fun _ q4 e4 h7 h8=>?_) (by omega);refine aG.bind (k:=1) (j:=0) (aB h7 _ (by simp)) (fun _ q5 e5 h9 h10=>?_) (by omega);exact aG.bind (k:=1) (j:=0) (bn h9) (fun _ q e h1 h2=>aG.mk h1) (by omega)
  ·refine aG.bind (k:=1) (j:=0) (bn h3) (fun _ q3 e3 h5 h6=>?_) (by omega);exact aG.bind (k:=1) (j:=0) (bn h5) (fun _ q e h1 h2=>aG.mk h1) (by omega)
 split
 ·unfold aaR;refine aG.bind (k:=0) (j:=0) hno (fun _ q e h1 h2=>?_) (by omega);exact aG.bind (k:=1) (j:=0) (bn h1) (fun _ q e h1 h2=>aG.mk h1) (by omega)
 split
 ·unfold aaA;refine aG.bind (k:=0) (j:=0) hno (fun _ q e h1 h2=>?_) (by omega);refine aG.bind (k:=1) (j:=0) (mG n q h1 (by omega)) (fun _ q2 e2 h3 h4=>?_) (by omega);exact aG.bind (k:=1) (j:=0) (bn h3) (fun _ q e h1 h2=>aG.mk h1) (by omega)
 ·unfold aa6;refine aG.bind (k:=0) (j:=0) hno (fun _ q e h1 h2=>?_) (by omega);refine aG.bind (k:=1) (j:=0) (bn h1) (fun _ q2 e2 h3 h4=>?_) (by omega);refine aG.bind (k:=1) (j:=0) (bn h3) (fun _ q3 e3 h5 h6=>?_) (by omega);exact aG.bind (k:=1) (j:=0) (bn h5) (fun _ q e h1 h2=>aG.mk h1) (by omega)
def axT (l:List Ax):St:=match l with | []=>[] | x::r=>[.row bG 16 (x::r).length]
theorem agb (N:Nat) (l:List Ax) (x:Ax):axV N (l++[x])=.st N (l.map bY++[bY x]):=by cases l<;>simp [axV]
theorem agc (l:List Ax) (x:Ax):axT (l++[x])=[.row bG 16 (l.length+1)]:=by cases l<;>simp [axT]
theorem Vs (x:Ax) (b:Bool):AV.ag [.i .i64 x.kind,.b b,.i .i64 x.left.kind,.s x.left.name,.i .i64 x.left.lo,.i .i64 x.left.hi,slf x.left.z (x.left.parts.map aK),
 .i .i64 x.right.kind,.s x.right.name,.i .i64 x.right.lo,.i .i64 x.right.hi,slf x.right.z (x.right.parts.map aK),slf x.z (x.roles.map .s),.s x.role,.s x.a,.s x.b]=bY { x with op:=b }:=rfl
def itE (m:Nat) (t:Tk) (V:AV) (k:Nat):Env:=[(0,.v (.pt (m+1) 0)),(2,.bx [.i .i64 t.1,.s t.2.1,.i .i64 t.2.2]),(35,.v V),(36,.v (.i .i64 k)),(37,.v (.i .i64 k)),(38,.v (.b false))]
def YQ (w:Rl):Option Nat:=
 if w=wC9 then some gQ
 else if w=wC2 then some lX
 else if w=wB3 then some gY
 else if w=wB5 then some ja
 else if w=wB2 then some jH
 else if w=wA3 then some kZ
 else if w=wA9 then some iK
 else if w=wB7 then some jG
 else if w=wB0 then some lg
 else none
theorem abN (m:Nat) (w:Rl):find 1 (.s w) (Xd m)=some ((YQ w).map (rdF m)):=by
 unfold YQ Xd;split
 ·rename_i h;simp [find,jD,h]
 split
 ·rename_i h;simp [find,jD,h]
 split
 ·rename_i h;simp [find,jD,h]
 split
 ·rename_i h;simp [find,jD,h]
 split
 ·rename_i h;simp [find,jD,h]
 split
 ·rename_i h;simp [find,jD,h]
 split
 ·rename_i h;simp [find,jD,h]
 split
 ·rename_i h;simp [find,jD,h]
 split
 ·rename_i h;simp [find,jD,h]
 ·simp [find,jD, *]
theorem aa9 (w:Rl):(YQ w).isSome=adC w:=by
 unfold YQ adC;split
 ·rename_i h;simp [h]
 split
 ·rename_i h;simp [h]
 split
 ·rename_i h;simp [h]
 split
 ·rename_i h;simp [h]
 split
 ·rename_i h;simp [h]
 split
 ·rename_i h;simp [h]
 split
 ·rename_i h;simp [h]
 split
 ·rename_i h;simp [h]
 split
 ·rename_i h;simp [h]
 ·simp [*]
section
variable {src:Rl} {S:Rd→St} {m N:Nat} (hE:x9 src S m N)
include hE
theorem ahb (r:Rd) (v:AV) (X:St):(S r++X).set (m+1) (.cells [.sl (aF src),.i .i64 r.at_,ahV r.ah,.mp m,.s r.iri,.b r.op,v,.mp (m+2),.mp (m+3)])=S { r with ax:=v }++X:=hE.s1 r { r with ax:=v } X rfl
theorem akC (n:Nat) (hn2:n≤100000) (w:Rl) (F:Nat) (hF:YQ w=some F) (r:Rd) (ha:Wr src r) (hn:rem src r<n) (cx:Ctx) (hl:cx.lim≤m):
  aj P0 (.fn (.func F) [] []) [.pt (m+1) 0] (S r) cx=tJ vO S (EH src n w r):=by
 unfold YQ at hF;unfold EH
 split at hF
 ·rename_i h0;cases hF;simp only [if_pos h0];exact Td hE r ha cx hl
 rename_i h0
 split at hF
 ·rename_i h1;cases hF;simp only [if_neg h0,if_pos h1];exact akB hE n (by omega) r ha hn cx hl
 rename_i h1
 split at hF
 ·rename_i h2;cases hF;simp only [if_neg h0,if_neg h1,if_pos h2];exact VK hE n (by omega) r ha hn cx hl
 rename_i h2
 split at hF
 ·rename_i h3;cases hF;simp only [if_neg h0,if_neg h1,if_neg h2,if_pos h3];exact Zj hE n (by omega) r ha hn cx hl
 rename_i h3
 split at hF
 ·rename_i h4;cases hF;simp only [if_neg h0,if_neg h1,if_neg h2,if_neg h3,if_pos h4];exact aew hE n (by omega) r ha hn cx hl
 rename_i h4
 split at hF
 ·rename_i h5;cases hF;simp only [if_neg h0,if_neg h1,if_neg h2,if_neg h3,if_neg h4,if_pos h5];exact ahU hE n (by omega) r ha hn cx hl
 rename_i h5
 split at hF
 ·rename_i h6;cases hF;simp only [if_neg h0,if_neg h1,if_neg h2,if_neg h3,if_neg h4,if_neg h5,if_pos h6];exact XV hE n (by omega) r ha hn cx hl
 rename_i h6
 split at hF
 ·rename_i h7;cases hF;simp only [if_neg h0,if_neg h1,if_neg h2,if_neg h3,if_neg h4,if_neg h5,if_neg h6,if_pos h7];exact aer hE n (by omega) r ha hn cx hl
 rename_i h7
 split at hF
 ·cases hF;simp only [if_neg h0,if_neg h1,if_neg h2,if_neg h3,if_neg h4,if_neg h5,if_neg h6,if_neg h7];exact ahW hE n (by omega) r ha hn cx hl
 ·cases hF
theorem adv (xs:List Ax) (hxl:xs.length≤200000) (hxs:∀x∈xs,x.Lng) (t:Tk) (cx:Ctx) (hl:cx.lim≤m) (hb:cx.base≤m):∀(rest:List Ax) (i:Nat) (l:List Ax) (r:Rd),xs.drop i=rest→i≤xs.length→r.ax=axV N l→l.length+rest.length≤300000→
  ∃X:St,ig (aC P0.glob (aj P0) cx true gW) [0,2,35,36,37] [(0,.v (.pt (m+1) 0)),(2,.bx [.i .i64 t.1,.s t.2.1,.i .i64 t.2.2]),(35,.v (.sl (xs.map bY))),(36,.v (.i .i64 xs.length)),(37,.v (.i .i64 i))] (S r++axT l)=
   match zB N t.2.2 rest l r with
   | .ok l' r'=>.exit 0 (itE m t (.sl (xs.map bY)) xs.length) (S r'++axT l')
   | .er a c r'=>.pan (flt a c) (S r'++X)
 | [],i,l,r,h,hi0,hr,hlen=>by
  have h1:¬(i:Int)<(xs.length:Int):=by have:=drop_nil h;omega
  refine ⟨[],ak fun K hK=>?_⟩;have h2:i=xs.length:=by omega
  subst h2;simp -implicitDefEqProofs [gW,h1,zB,itE]
 | x::rest,i,l,r,h,hi0,hr,hlen=>by
  obtain ⟨h1,h2,h3,h4⟩:=drop_cons h;have hi:(i:Int)<(xs.length:Int):=by omega
  have hwi:=wI (i:=i) (by omega);have hx:x∈xs:=by rw [←List.take_append_drop i xs,h];simp
  have hlim:cx.lim≤m+1:=by omega
  have hb1:cx.base≤m+1:=by omega
  have hlt:=hE.lt;have hl2:cx.lim≤N:=by omega
  have hN:=hE.n;have hg1:(xs.map bY)[i]?=some (bY x):=by rw [List.getElem?_map,h1];rfl
  have hc:=hE.g1 r;have e1:=zI { x with op:=r.op } ⟨(hxs x hx).l,(hxs x hx).r,(hxs x hx).roles,(hxs x hx).a,(hxs x hx).b⟩;unfold zB;by_cases q:dW { x with op:=r.op }=0
  ·rw [if_pos q];rw [q] at e1;obtain ⟨X,ih⟩:=adv xs hxl hxs t cx hl hb rest (i+1) (l++[{ x with op:=r.op }]) { r with ax:=axV N (l++[{ x with op:=r.op }]) } h2 (by omega) rfl (by simp at hlen ⊢;omega);refine ⟨X,ak fun K hK=>?_⟩;rw [←hK,show ((i+1:Nat):Int)=(i:Int)+1 from rfl] at ih;clear hK h4;rw [←ih];clear ih;rw [agb,agc];rw [hr] at hc;have hs:=ahb hE r;have hm1:l.length+1≤aQ:=by unfold aQ;simp at hlen;omega
   have hm0:1≤aQ:=by decide
   generalize xs.map bY=XS at *
   cases l with
   | nil=>
    simp only [axV,axT,List.append_nil] at hc ⊢;have hc0:=uN hE r;rw [hr] at hc0;simp only [axV] at hc0;have hN2:(S r).length=N:=hN r;simp -implicitDefEqProofs [gW,hi,hg1,hwi,hc,hc0,e1,hs,hlim,hb1,hN2,Vs,hm0]
   | cons y l=>
    simp only [axV,axT] at hc ⊢;have hgN:=hE.gN r;have hsN:=hE.sN r;have hm2:l.length+1+1≤aQ:=by simpa using hm1
    simp -implicitDefEqProofs [gW,hi,hg1,hwi,hc,e1,hs,hlim,hb1,hl2,hgN,hsN,Vs,hm2]
  ·rw [if_neg q];refine ⟨axT l,ak fun K hK=>?_⟩;generalize xs.map bY=XS at *;generalize dW { x with op:=r.op }=e at *;simp -implicitDefEqProofs [gW,hi,hg1,hwi,hc,e1,hlim,Vs,q,flt,dU,splice]
end
end Go.Ai.Z
namespace Go.Ai.Z
def agq (S:Rd→St) (X:St) (x:OR (List Ax)):CO:=
 match x with
 | .ok l r=>.ret (.tu []) (S r++axT l)
 | .er a c r=>.pan (flt a c) (S r++X)
@[simp] theorem VS (S:Rd→St) (X:St) (l:List Ax) (r:Rd):agq S X (.ok l r)=.ret (.tu []) (S r++axT l):=rfl
@[simp] theorem pJ (S:Rd→St) (X:St) (a:Nat) (c:Int) (r:Rd):agq S X (.er a c r)=.pan (flt a c) (S r++X):=rfl
theorem MV (N:Nat) (l:List Ax) (env:Env):vH env (some (.v (axV N l)))=some (l.map bY):=by cases l<;>rfl
theorem YP (m:Nat) (t:Tk) (s:St) (cx:Ctx):
  ig (aC P0.glob (aj P0) cx true gW) [0,2,35,36,37] [(0,.v (.pt (m+1) 0)),(2,.bx [.i .i64 t.1,.s t.2.1,.i .i64 t.2.2]),(35,.v .ns),(36,.v (.i .i64 0)),(37,.v (.i .i64 0))] s=.exit 0 (itE m t .ns 0) s:=by
 refine ak fun K hK=>?_;simp -implicitDefEqProofs [gW,itE]
theorem U4 (N a0:Nat):∀(xs l:List Ax) (r:Rd) {l':List Ax} {q:Rd},r.ax=axV N l→zB N a0 xs l r=.ok l' q→q.ax=axV N l'
 | [],l,r,l',q,hr,h=>by cases h;exact hr
 | x::xs,l,r,l',q,hr,h=>by
  unfold zB at h
  split at h
  ·exact U4 N a0 xs _ _ rfl h
  ·cases h
section
variable {src:Rl} {S:Rd→St} {m N:Nat} (hE:x9 src S m N)
include hE
theorem ahX (n:Nat) (hn2:n≤100000) (l:List Ax) (hll:l.length≤1024) (r:Rd) (hr:r.ax=axV N l) (ha:Wr src r) (hn:rem src r<n) (cx:Ctx) (hl:cx.lim≤m) (hb:cx.base≤m):
  ∃X,aj P0 (.fn (.func pF) [] []) [.pt (m+1) 0] (S r++axT l) cx=agq S X (zf src n N l r):=by
 have hN:=hE.n;have hS:=hE.src;have hA:=hE.app (axT l);have hlim:cx.lim≤m+1:=by omega
 have hb1:cx.base≤m+1:=by omega
 unfold zf;obtain ⟨a,c,q,hx,e1⟩|⟨t,r1,h1,e1,g1⟩:=spl (oL hA r (ha).at_ ⟨cx.lim,cx.base⟩ hl) (dn ha)
 ·rw [hx];simp only [OR.bind_er,pJ];refine ⟨axT l,gI (by simp) ?_⟩;simp -implicitDefEqProofs [af,dH,fG,e1]
 rw [h1];simp only [OR.bind_ok];have w1:=g1.1;have hc:=uN hA r1;have him:=hA.im r1;have hfd:=abN m t.2.1
 try simp only at hc him
 have hsm:=aa9 t.2.1
 cases hF:YQ t.2.1 with
 | none=>
  rw [hF] at hsm hfd;simp only [Option.map_none,Option.isSome_none] at hsm hfd;rw [←hsm];have ef:=pU hA false r1 w1 ⟨cx.lim,cx.base⟩ hl;obtain ⟨a2,c2,r2,hx⟩:=yV src r1;rw [hx] at ef ⊢;simp only [dB] at ef;simp only [OR.bind_er,pJ];refine ⟨axT l,gI (by simp) ?_⟩;obtain ⟨k,w,a⟩:=t
  skip
  simp -implicitDefEqProofs [af,dH,fG,e1,hc,him,hfd,ef]
 | some F=>
  rw [hF] at hsm hfd;simp only [Option.map_some,Option.isSome_some,rdF] at hsm hfd;rw [←hsm];obtain ⟨a,c,q,hx,e2⟩|⟨v2,r2,h2,e2,g2⟩:=spl (pU hA true r1 w1 ⟨cx.lim,cx.base⟩ hl) (dL w1 true)
  ·rw [hx];simp only [OR.bind_er,pJ];refine ⟨axT l,gI (by simp) ?_⟩;simp -implicitDefEqProofs [af,dH,fG,e1,hc,him,hfd,jU,e2]
  rw [h2];simp only [OR.bind_ok];have w2:=g2.1;have k2:=g2;have e3:=lG hA r2 ⟨cx.lim,cx.base⟩ hl;have w3:=dN w2;have kp:=um src r2;obtain ⟨a,c,q,hx,e4⟩|⟨v4,r4,h4,e4,g4⟩:=spl (iI hA [40] (cu r2) w3 ⟨cx.lim,cx.base⟩ hl) (aB w3 [40] (by simp))
  ·rw [hx];simp only [OR.bind_er,pJ];refine ⟨axT l,gI (by simp) ?_⟩;simp -implicitDefEqProofs [af,dH,fG,e1,hc,him,hfd,jU,e2,e3,e4]
  rw [h4];simp only [OR.bind_ok];have w4:=g4.1;have k4:=g4;have hc4:=uN hA r4;have hs4:=ac0 hA r4;have k1:=g1;have hre:rem src { r4 with op:=false }<n:=by show rem src r4<n;omega
  obtain ⟨a,c,q,hx,e5⟩|⟨xs,r5,h5,e5,g5⟩:=spl (akC hA n hn2 t.2.1 F hF { r4 with op:=false } (JB w4 false) hre ⟨cx.lim,cx.base⟩ hl) (FK (n:=n) (w:=t.2.1) (JB w4 false) hre)
  ·rw [hx];simp only [OR.bind_er,pJ];refine ⟨axT l,gI (by simp) ?_⟩;simp -implicitDefEqProofs [af,dH,fG,e1,hc,him,hfd,jU,e2,e3,e4,hc4,hs4,hlim,hb1,e5]
  rw [h5];simp only [OR.bind_ok];have w5:=g5.1;have k5:=g5;have hxs:=ahC hS hn2 (JB w4 false) hre h5;obtain ⟨a,c,q,hx,e6⟩|⟨v6,r6,h6,e6,g6⟩:=spl (iI hA [41] r5 w5 ⟨cx.lim,cx.base⟩ hl) (aB w5 [41] (by simp))
  ·rw [hx];simp only [OR.bind_er,pJ];refine ⟨axT l,gI (by simp) ?_⟩;simp -implicitDefEqProofs [af,dH,fG,e1,hc,him,hfd,jU,e2,e3,e4,hc4,hs4,hlim,hb1,e5,e6]
  rw [h6];simp only [OR.bind_ok];have w6:=g6.1;have k6:=g6;have hax:r6.ax=axV N l:=by rw [k6.2.2.2.2,k5.2.2.2.2];show r4.ax=_;rw [k4.2.2.2.2];show r2.ax=_;rw [k2.2.2.2.2,k1.2.2.2.2,hr]
  cases xs with
  | nil=>
   have hlp:=YP m t (S r6++axT l) cx;have hcf:=uN hA r6;rw [hax] at hcf;have hlen:¬(1024:Int)<(l.length:Int):=by omega
   simp only [zB,OR.bind_ok,if_neg (show ¬1024<l.length by omega)];refine ⟨[],gI (by simp) ?_⟩;simp only [Af] at e5;simp -implicitDefEqProofs [af,dH,fG,e1,hc,him,hfd,jU,e2,e3,e4,hc4,hs4,hlim,hb1,e5,e6,hlp,itE,hcf,MV,hlen]
  | cons x xs=>
   obtain ⟨X,hlp⟩:=adv hE (x::xs) hxs.len hxs.lng t cx hl hb (x::xs) 0 l r6 rfl (by omega) hax (by have:=hxs.len;omega);rw [show ((0:Nat):Int)=0 from rfl] at hlp;have e5':vO (x::xs)=.sl ((x::xs).map bY):=rfl;rw [e5'] at e5;have hxl:((x::xs).map bY).length=(x::xs).length:=List.length_map _;generalize hXS:(x::xs).map bY=XS at *
   cases hp:zB N t.2.2 (x::xs) l r6 with
   | er a c q=>
    rw [hp] at hlp;simp only at hlp;simp only [OR.bind_er,pJ];refine ⟨X,gI (by simp) ?_⟩;simp -implicitDefEqProofs [af,dH,fG,e1,hc,him,hfd,jU,e2,e3,e4,hc4,hs4,hlim,hb1,e5,e6,hxl];simp at hlp;simp -implicitDefEqProofs [hlp]
   | ok l' q=>
    rw [hp] at hlp;simp only at hlp;simp only [OR.bind_ok];have hcf:=uN (hE.app (axT l')) q;rw [U4 _ _ _ _ _ hax hp] at hcf
    try simp only at hcf
    simp at hlp;by_cases hlen:1024<l'.length
    ·rw [if_pos hlen];have hleni:(1024:Int)<(l'.length:Int):=by omega
     refine ⟨axT l',gI (by simp) ?_⟩;simp -implicitDefEqProofs [af,dH,fG,e1,hc,him,hfd,jU,e2,e3,e4,hc4,hs4,hlim,hb1,e5,e6,hxl,hlp,itE,hcf,MV,hleni,dU,splice,flt]
    ·rw [if_neg hlen];have hleni:¬(1024:Int)<(l'.length:Int):=by omega
     refine ⟨[],gI (by simp) ?_⟩;simp -implicitDefEqProofs [af,dH,fG,e1,hc,him,hfd,jU,e2,e3,e4,hc4,hs4,hlim,hb1,e5,e6,hxl,hlp,itE,hcf,MV,hleni]
end
end Go.Ai.Z
