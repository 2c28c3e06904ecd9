/-
 The reader of ontology documents: lists.
-/
import Derived.Test.YtcofenimejmoeaaGreatDoorAiOX5OX6OX7OX8OX9OX10
set_option maxRecDepth 100000
set_option linter.unusedSimpArgs false
set_option linter.unusedVariables false
set_option linter.unusedSectionVars false
namespace Go.Ai.Z
open Go.Ai
theorem iW (f:Nat) (v:AV) (s:St) (cx:Ctx):aj P0 (.fn (.func f) [v] []) [] s cx=aj P0 (.fn (.func f) [] []) [v] s cx:=by
 unfold aj
 congr 1
 funext n
 cases n<;>rfl
def KP {α:Type} (src:Rl) (S:Rd→St) (m B:Nat) (F:Nat) (enc:α→AV) (f:Rd→OR α):Prop:=
 (∀q cx,Wr src q→rem src q≤B→cx.lim≤m→aj P0 (.fn (.func F) [] []) [.pt (m+1) 0] (S q) cx=qy enc S (f q))∧∀q,Wr src q→rem src q≤B→aG src q 1 (f q)
def Xp {α:Type} (F T sz m:Nat) (enc:α→AV) (S:Rd→St) (x:OR (List α)):Out:=
 match x with
 | .ok l r=>.exit 0 [(0,.v (.pt (m+1) 0)),(1,.v (.i .i64 2)),(2,.v (.fn (.func F) [.pt (m+1) 0] [])),(6,.own false T sz (l.map enc)),(15,.v (.b false))] (S r)
 | .er a c r=>.pan (flt a c) (S r)
@[simp] theorem VZ {α:Type} (F T sz m:Nat) (enc:α→AV) (S:Rd→St) (l:List α) (r:Rd):Xp F T sz m enc S (.ok l r)=.exit 0 [(0,.v (.pt (m+1) 0)),(1,.v (.i .i64 2)),(2,.v (.fn (.func F) [.pt (m+1) 0] [])),(6,.own false T sz (l.map enc)),(15,.v (.b false))] (S r):=rfl
@[simp] theorem V3 {α:Type} (F T sz m:Nat) (enc:α→AV) (S:Rd→St) (a:Nat) (c:Int) (r:Rd):Xp F T sz m enc S (.er a c r)=.pan (flt a c) (S r):=rfl
theorem wE {α:Type} {src:Rl} {f:Rd→OR α}:∀(n:Nat) (l:List α) (r:Rd) (l':List α) (q:Rd),lD src f 2 n l r=.ok l' q→∃a b t,l'=a::b::t
 | 0,l,r,l',q,h=>by cases h
 | n+1,l,r,l',q,h=>by
  unfold lD at h;by_cases z:l.length<2
  ·rw [if_pos z] at h;simp only [OR.bind_ok,Bool.false_eq_true,if_false] at h
   cases e:f r with
   | er a c r2=>rw [e] at h;cases h
   | ok v r2=>rw [e] at h;exact wE n _ r2 l' q h
  ·rw [if_neg z] at h
   cases e0:isR src [41] r with
   | er a c r2=>rw [e0] at h;cases h
   | ok b r2=>
    rw [e0] at h;simp only [OR.bind_ok] at h
    cases b with
    | true=>
     cases h
     match l,z with
     | a::b::t,_=>exact ⟨a,b,t,rfl⟩
     | [_],z=>simp at z
     | [],z=>simp at z
    | false=>
     simp only [Bool.false_eq_true,if_false] at h
     cases e:f r2 with
     | er a c r3=>rw [e] at h;cases h
     | ok v r3=>rw [e] at h;exact wE n _ r3 l' q h
section
variable {src:Rl} {S:Rd→St} {m N:Nat} (hE:ve src S m N)
include hE
theorem V9 {F:Nat} {f:Rd→OR C} {B:Nat} (hF:KP src S m B F aK f) (cx:Ctx) (hl:cx.lim≤m):∀(n:Nat) (l:List C) (r:Rd),Wr src r→rem src r<n→rem src r≤B→l.length+rem src r≤200000→
  jw (aA P0.glob (aj P0) cx false aY) [0,1,2,6] [(0,.v (.pt (m+1) 0)),(1,.v (.i .i64 2)),(2,.v (.fn (.func F) [.pt (m+1) 0] [])),(6,.own false dP 5 (l.map aK))] (S r)=Xp F dP 5 m aK S (lD src f 2 n l r)
 | 0,l,r,_,hn,_,_=>absurd hn (by omega)
 | n+1,l,r,hr,hn,hB,hL=>by
  have hN:=hE.n;unfold lD;have hk:fQ [(0,.v (.pt (m+1) 0)),(1,.v (.i .i64 2)),(2,.v (.fn (.func F) [.pt (m+1) 0] [])),(6,.own false dP 5 (l.map aK))] [0,1,2,6]=[(0,.v (.pt (m+1) 0)),(1,.v (.i .i64 2)),(2,.v (.fn (.func F) [.pt (m+1) 0] [])),(6,.own false dP 5 (l.map aK))]:=rfl
  have key:∀q,Wr src q→rem src q≤rem src r→(∀K:Env→St→Out,(aA P0.glob (aj P0) cx false aY [(0,.v (.pt (m+1) 0)),(1,.v (.i .i64 2)),(2,.v (.fn (.func F) [.pt (m+1) 0] [])),(6,.own false dP 5 (l.map aK))] (S r)).thn K=
    match f q with
    | .er a c q2=>.pan (flt a c) (S q2)
    | .ok v q2=>K [(0,.v (.pt (m+1) 0)),(1,.v (.i .i64 2)),(2,.v (.fn (.func F) [.pt (m+1) 0] [])),(6,.own false dP 5 ((l++[v]).map aK))] (S q2))→
   jw (aA P0.glob (aj P0) cx false aY) [0,1,2,6] [(0,.v (.pt (m+1) 0)),(1,.v (.i .i64 2)),(2,.v (.fn (.func F) [.pt (m+1) 0] [])),(6,.own false dP 5 (l.map aK))] (S r)=Xp F dP 5 m aK S ((f q).bind fun v r=>lD src f 2 n (l++[v]) r):=by
   intro q hq hq2 h;have hg:=hF.2 q hq (by omega)
   cases e:f q with
   | er a c q2=>
    rw [e] at h;exact ay fun K hK=>(congrArg (fun E=>(aA P0.glob (aj P0) cx false aY E (S r)).thn K) hk).trans (h K)
   | ok v q2=>
    rw [e] at h;have h1:=hg.ok e;have ih:=V9 hF cx hl n (l++[v]) q2 h1.1 (by omega) (by omega) (by rw [List.length_append];simp;omega);exact ay fun K hK=>by rw [hk,h K,OR.bind_ok,←ih,←hK]
  have hml:l.length+1≤eu:=by unfold eu;omega
  have hlen:(l.map aK).length=l.length:=List.length_map _;by_cases q:l.length<2
  ·rw [if_pos q];simp only [OR.bind_ok,Bool.false_eq_true,if_false];refine key r hr (by omega) fun K=>?_;have qi:(l.length:Int)<2:=by omega
   have e1:=hF.1 r cx hr hB hl
   cases e:f r with
   | er a c q2=>
    rw [e] at e1;simp only [bV] at e1;simp -implicitDefEqProofs [aY,qi,iW,e1,hml]
   | ok v q2=>
    rw [e] at e1;simp only [bY] at e1;simp -implicitDefEqProofs [aY,qi,iW,e1,hml]
  ·rw [if_neg q];have qi:¬(l.length:Int)<2:=by omega
   have e0:=FZ hE [41] r hr cx hl;have g0:=kQ hr [41]
   cases h0:isR src [41] r with
   | er a c q2=>
    rw [h0] at e0;simp only [bV] at e0;refine ay fun K hK=>?_;simp -implicitDefEqProofs [aY,qi,e0]
   | ok b r2=>
    rw [h0] at e0;have w0:=(g0.ok h0);simp only [bY] at e0;simp only [OR.bind_ok]
    cases b with
    | true=>
     refine ay fun K hK=>?_;simp -implicitDefEqProofs [aY,qi,e0]
    | false=>
     simp only [Bool.false_eq_true,if_false];refine key r2 w0.1 (by omega) fun K=>?_;have e1:=hF.1 r2 cx w0.1 (by omega) hl
     cases e:f r2 with
     | er a c q2=>
      rw [e] at e1;simp only [bV] at e1;simp -implicitDefEqProofs [aY,qi,e0,iW,e1,hml]
     | ok v q2=>
      rw [e] at e1;simp only [bY] at e1;simp -implicitDefEqProofs [aY,qi,e0,iW,e1,hml]
theorem V8 {F:Nat} {f:Rd→OR Rl} {B:Nat} (hF:KP src S m B F AV.s f) (cx:Ctx) (hl:cx.lim≤m):∀(n:Nat) (l:List Rl) (r:Rd),Wr src r→rem src r<n→rem src r≤B→l.length+rem src r≤200000→
  jw (aA P0.glob (aj P0) cx false bW) [0,1,2,6] [(0,.v (.pt (m+1) 0)),(1,.v (.i .i64 2)),(2,.v (.fn (.func F) [.pt (m+1) 0] [])),(6,.own false aB 1 (l.map AV.s))] (S r)=Xp F aB 1 m AV.s S (lD src f 2 n l r)
 | 0,l,r,_,hn,_,_=>absurd hn (by omega)
 | n+1,l,r,hr,hn,hB,hL=>by
  have hN:=hE.n;unfold lD;have hk:fQ [(0,.v (.pt (m+1) 0)),(1,.v (.i .i64 2)),(2,.v (.fn (.func F) [.pt (m+1) 0] [])),(6,.own false aB 1 (l.map AV.s))] [0,1,2,6]=[(0,.v (.pt (m+1) 0)),(1,.v (.i .i64 2)),(2,.v (.fn (.func F) [.pt (m+1) 0] [])),(6,.own false aB 1 (l.map AV.s))]:=rfl
  have key:∀q,Wr src q→rem src q≤rem src r→(∀K:Env→St→Out,(aA P0.glob (aj P0) cx false bW [(0,.v (.pt (m+1) 0)),(1,.v (.i .i64 2)),(2,.v (.fn (.func F) [.pt (m+1) 0] [])),(6,.own false aB 1 (l.map AV.s))] (S r)).thn K=
    match f q with
    | .er a c q2=>.pan (flt a c) (S q2)
    | .ok v q2=>K [(0,.v (.pt (m+1) 0)),(1,.v (.i .i64 2)),(2,.v (.fn (.func F) [.pt (m+1) 0] [])),(6,.own false aB 1 ((l++[v]).map AV.s))] (S q2))→
   jw (aA P0.glob (aj P0) cx false bW) [0,1,2,6] [(0,.v (.pt (m+1) 0)),(1,.v (.i .i64 2)),(2,.v (.fn (.func F) [.pt (m+1) 0] [])),(6,.own false aB 1 (l.map AV.s))] (S r)=Xp F aB 1 m AV.s S ((f q).bind fun v r=>lD src f 2 n (l++[v]) r):=by
   intro q hq hq2 h;have hg:=hF.2 q hq (by omega)
   cases e:f q with
   | er a c q2=>
    rw [e] at h;exact ay fun K hK=>(congrArg (fun E=>(aA P0.glob (aj P0) cx false bW E (S r)).thn K) hk).trans (h K)
   | ok v q2=>
    rw [e] at h;have h1:=hg.ok e;have ih:=V8 hF cx hl n (l++[v]) q2 h1.1 (by omega) (by omega) (by rw [List.length_append];simp;omega);exact ay fun K hK=>by rw [hk,h K,OR.bind_ok,←ih,←hK]
  have hml:l.length+1≤eu:=by unfold eu;omega
  have hlen:(l.map AV.s).length=l.length:=List.length_map _;by_cases q:l.length<2
  ·rw [if_pos q];simp only [OR.bind_ok,Bool.false_eq_true,if_false];refine key r hr (by omega) fun K=>?_;have qi:(l.length:Int)<2:=by omega
   have e1:=hF.1 r cx hr hB hl
   cases e:f r with
   | er a c q2=>
    rw [e] at e1;simp only [bV] at e1;simp -implicitDefEqProofs [bW,qi,iW,e1,hml]
   | ok v q2=>
    rw [e] at e1;simp only [bY] at e1;simp -implicitDefEqProofs [bW,qi,iW,e1,hml]
  ·rw [if_neg q];have qi:¬(l.length:Int)<2:=by omega
   have e0:=FZ hE [41] r hr cx hl;have g0:=kQ hr [41]
   cases h0:isR src [41] r with
   | er a c q2=>
    rw [h0] at e0;simp only [bV] at e0;refine ay fun K hK=>?_;simp -implicitDefEqProofs [bW,qi,e0]
   | ok b r2=>
    rw [h0] at e0;have w0:=(g0.ok h0);simp only [bY] at e0;simp only [OR.bind_ok]
    cases b with
    | true=>
     refine ay fun K hK=>?_;simp -implicitDefEqProofs [bW,qi,e0]
    | false=>
     simp only [Bool.false_eq_true,if_false];refine key r2 w0.1 (by omega) fun K=>?_;have e1:=hF.1 r2 cx w0.1 (by omega) hl
     cases e:f r2 with
     | er a c q2=>
      rw [e] at e1;simp only [bV] at e1;simp -implicitDefEqProofs [bW,qi,e0,iW,e1,hml]
     | ok v q2=>
      rw [e] at e1;simp only [bY] at e1;simp -implicitDefEqProofs [bW,qi,e0,iW,e1,hml]
theorem QY {F:Nat} {f:Rd→OR C} {B:Nat} (hF:KP src S m B F aK f) (n:Nat) (r:Rd) (ha:Wr src r) (hn:rem src r<n) (hB:rem src r≤B) (hb:B≤200000) (cx:Ctx) (hl:cx.lim≤m):
  aj P0 (.fn (.func fO) [] []) [.pt (m+1) 0,.i .i64 2,.fn (.func F) [.pt (m+1) 0] []] (S r) cx=qy (fun l=>.sl (l.map aK)) S (lD src f 2 n [] r):=by
 refine zB (iT _ _ _) ?_;have hN:=hE.n;have h:=V9 hE hF ⟨cx.lim,N⟩ hl n [] r ha hn hB (by simp;omega);rw [List.map_nil] at h;have h2:=wE (src:=src) (f:=f) n [] r
 cases e:lD src f 2 n [] r with
 | er a c q=>
  rw [e] at h;simp only [V3] at h;simp -implicitDefEqProofs [af,jh,hN,h]
 | ok l q=>
  rw [e] at h h2;simp only [VZ] at h;obtain ⟨a,b,l',rfl⟩:=h2 l q rfl;simp at h;simp -implicitDefEqProofs [af,jh,hN,h]
theorem abq {F:Nat} {f:Rd→OR Rl} {B:Nat} (hF:KP src S m B F AV.s f) (n:Nat) (r:Rd) (ha:Wr src r) (hn:rem src r<n) (hB:rem src r≤B) (hb:B≤200000) (cx:Ctx) (hl:cx.lim≤m):
  aj P0 (.fn (.func mX) [] []) [.pt (m+1) 0,.i .i64 2,.fn (.func F) [.pt (m+1) 0] []] (S r) cx=qy (fun l=>.sl (l.map AV.s)) S (lD src f 2 n [] r):=by
 refine FQ (iT _ _ _) ?_;have hN:=hE.n;have h:=V8 hE hF ⟨cx.lim,N⟩ hl n [] r ha hn hB (by simp;omega);rw [List.map_nil] at h;have h2:=wE (src:=src) (f:=f) n [] r
 cases e:lD src f 2 n [] r with
 | er a c q=>
  rw [e] at h;simp only [V3] at h;simp -implicitDefEqProofs [af,lM,hN,h]
 | ok l q=>
  rw [e] at h h2;simp only [VZ] at h;obtain ⟨a,b,l',rfl⟩:=h2 l q rfl;simp at h;simp -implicitDefEqProofs [af,lM,hN,h]
end
end Go.Ai.Z
namespace Go.Ai.Z
open Go.Ai
theorem EL {glob:Nat→Option (List AV)} {call:AV→List AV→St→Ctx→CO} {cx:Ctx} {ops:List aI} {π:List Nat} {env:Env} {s:St} (c:Nat) (pre:List Nat) {oc:aI}
  (h1:UN ops π=some (c,oc)) (h2:BO ops c oc false π=pre)
  (h3:(pre.all fun j=>match ops[j]? with|some o=>o.op.pre && (wQ o oc || xY o oc || (π.takeWhile fun x=>x != c).contains j)|none=>false)=true):
  vF glob call cx ops π env s=match iD glob call cx ops pre env s with
   | .norm env1 s1=>(match dX glob call cx oc env1 s1 with
    | .pan v' s2=>.pan v' s2
    | _=>.fail)
   | _=>.fail:=by
 unfold vF;rw [h1];simp only [h2];exact if_pos h3
theorem ZT (k:Int) (n:Rl) (l h:Int) (c:C):AV.ag [.i .i64 k,.s n,.i .i64 l,.i .i64 h,.sl [aK c]]=aK (.mk k n l h false [c]):=PD k n l h c []
theorem ZR (k:Int) (n:Rl) (l h:Int) (a b:C) (ps:List C):AV.ag [.i .i64 k,.s n,.i .i64 l,.i .i64 h,.sl (aK a::aK b::ps.map aK)]=aK (.mk k n l h false (a::b::ps)):=PD k n l h a (b::ps)
def zJ (w:Rl):Option Nat:=
 if w=wA8 then some jk
 else if w=wA7 then some gy
 else if w=wA0 then some jl
 else if w=wA1 then some iQ
 else if w=wB8 then some fG
 else if w=wA5 then some iR else none
theorem PL (m:Nat) (w:Rl):find 1 (.s w) (TW m)=some ((zJ w).map (rdF m)):=by
 unfold zJ TW;split
 ·rename_i h;simp [find,jQ,h]
 split
 ·rename_i h;simp [find,jQ,h]
 split
 ·rename_i h;simp [find,jQ,h]
 split
 ·rename_i h;simp [find,jQ,h]
 split
 ·rename_i h;simp [find,jQ,h]
 split
 ·rename_i h;simp [find,jQ,h]
 ·simp [find,jQ, *]
section
variable {src:Rl} {S:Rd→St} {m N:Nat} (hE:ve src S m N)
include hE
theorem afY {f:Rd→OR C} {n:Nat} (hF:KP src S m n aT aK f) (hn:n≤200000) (r:Rd) (hs:Sn src r) (hr:rem src r≤n+1) (ha:Wr src r) (cx:Ctx) (hl:cx.lim≤m):
  aj P0 (.fn (.func jl) [] []) [.pt (m+1) 0] (S r) cx=qy aK S (Yn src f (n+1) r):=by
 refine Hl (iT _ _ _) ?_;have hN:=hE.n;have hp:=hs.pass ha;unfold Yn;have e1:=jM hE r ⟨cx.lim,N⟩ hl;have w1:=gq ha;obtain ⟨a,c,q,hx,e2⟩|⟨v2,r2,h2,e2,g2⟩:=spl (fK hE [40] (bP r) w1 ⟨cx.lim,N⟩ hl) (aC w1 [40] (by simp))
 ·rw [hx];simp -implicitDefEqProofs [af,jB,hN,e1,e2]
 rw [h2];simp only [OR.bind_ok];have w2:=g2.1;have hq:=g2.2.1;obtain ⟨a,c,q,hx,e3⟩|⟨l,r3,h3,e3,g3⟩:=spl (QY hE hF (n+1) r2 w2 (by omega) (by omega) hn ⟨cx.lim,N⟩ hl) (uf (least:=2) (n+1) [] r2 w2 (by omega) (fun q hq1 hq2=>hF.2 q hq1 (by omega)))
 ·rw [hx];simp -implicitDefEqProofs [af,jB,hN,e1,e2,e3]
 rw [h3];simp only [OR.bind_ok];have w3:=g3.1;obtain ⟨a,c,q,hx,e4⟩|⟨v4,r4,h4,e4,g4⟩:=spl (fK hE [41] r3 w3 ⟨cx.lim,N⟩ hl) (aC w3 [41] (by simp))
 ·rw [hx];simp -implicitDefEqProofs [af,jB,hN,e1,e2,e3,e4]
 rw [h4];simp only [OR.bind_ok];have w4:=g4.1;obtain ⟨x1,x2,x3,rfl⟩:=wE _ _ _ _ _ h3;simp only [List.map_cons] at e3;simp -implicitDefEqProofs [af,jB,hN,e1,e2,e3,e4,dS,splice,ZR]
theorem ada {f:Rd→OR C} {n:Nat} (hF:KP src S m n aT aK f) (r:Rd) (hs:Sn src r) (hr:rem src r≤n+1) (ha:Wr src r) (cx:Ctx) (hl:cx.lim≤m):
  aj P0 (.fn (.func iQ) [] []) [.pt (m+1) 0] (S r) cx=qy aK S (OY src f r):=by
 refine FC (iT _ _ _) ?_;have hN:=hE.n;have hp:=hs.pass ha;unfold OY;have e1:=jM hE r ⟨cx.lim,N⟩ hl;have w1:=gq ha;obtain ⟨a,c,q,hx,e2⟩|⟨v2,r2,h2,e2,g2⟩:=spl (fK hE [40] (bP r) w1 ⟨cx.lim,N⟩ hl) (aC w1 [40] (by simp))
 ·rw [hx];simp -implicitDefEqProofs [af,gW,hN,e1,e2]
 rw [h2];simp only [OR.bind_ok];have w2:=g2.1;have hq:=g2.2.1;obtain ⟨a,c,q,hx,e3⟩|⟨s,r3,h3,e3,g3⟩:=spl (oq hE r2 w2 ⟨cx.lim,N⟩ hl) (bf w2)
 ·rw [hx];simp -implicitDefEqProofs [af,gW,hN,e1,e2,e3]
 rw [h3];simp only [OR.bind_ok];have w3:=g3.1;have hq2:=g3.2.1;obtain ⟨a,c,q,hx,e4⟩|⟨c,r4,h4,e4,g4⟩:=spl (hF.1 r3 ⟨cx.lim,N⟩ w3 (by omega) hl) (hF.2 r3 w3 (by omega))
 ·rw [hx];simp -implicitDefEqProofs [af,gW,hN,e1,e2,e3,e4]
 rw [h4];simp only [OR.bind_ok];have w4:=g4.1;obtain ⟨a,c,q,hx,e5⟩|⟨v5,r5,h5,e5,g5⟩:=spl (fK hE [41] r4 w4 ⟨cx.lim,N⟩ hl) (aC w4 [41] (by simp))
 ·rw [hx];simp -implicitDefEqProofs [af,gW,hN,e1,e2,e3,e4,e5]
 rw [h5];simp only [OR.bind_ok];have w5:=g5.1;simp -implicitDefEqProofs [af,gW,hN,e1,e2,e3,e4,e5,dS,splice,ZT]
theorem zI (F:Nat) (x:OR C) (r q:Rd) (t:Tk) (cx:Ctx) (hl:cx.lim≤m) (e1:aj P0 (.fn (.func aO) [] []) [.pt (m+1) 0] (S r) ⟨cx.lim,N⟩=.ret (dU t) (S q))
  (hf:zJ t.2.1=some F) (h:aj P0 (.fn (.func F) [] []) [.pt (m+1) 0] (S q) ⟨cx.lim,N⟩=qy aK S x):
  af P0.glob (aj P0) dG ([]++[.pt (m+1) 0]++[]) (S r) cx=qy aK S x:=by
 have hN:=hE.n;have hc:=hE.cell r;have hc2:=hE.cell q;have hm:=hE.cm q;have hfd:=PL m t.2.1;rw [hf] at hfd;unfold rO at hc hc2;simp only [dU] at e1;simp only [Option.map_some,rdF] at hfd
 cases x with
 | er a c q2=>
  simp only [bV] at h;simp -implicitDefEqProofs [af,dG,hN,hc,hc2,hm,hfd,e1,uz,II,iW,h]
 | ok v q2=>
  simp only [bY] at h;simp -implicitDefEqProofs [af,dG,hN,hc,hc2,hm,hfd,e1,uz,II,iW,h]
theorem TV (r q:Rd) (t:Tk) (cx:Ctx) (hl:cx.lim≤m) (e1:aj P0 (.fn (.func aO) [] []) [.pt (m+1) 0] (S r) ⟨cx.lim,N⟩=.ret (dU t) (S q))
  (hf:zJ t.2.1=none) (h1:aj P0 (.fn (.func aP) [] []) [.pt (m+1) 0] (S q) ⟨cx.lim,N⟩=qy AV.s S (mr src q)):
  af P0.glob (aj P0) dG ([]++[.pt (m+1) 0]++[]) (S r) cx=qy aK S ((mr src q).bind fun s r=>.ok (C.mk 3 s 0 0 true []) r):=by
 have hN:=hE.n;have hc:=hE.cell r;have hc2:=hE.cell q;have hm:=hE.cm q;have hfd:=PL m t.2.1;rw [hf] at hfd;unfold rO at hc hc2;simp only [dU] at e1;simp only [Option.map_none] at hfd
 cases e:mr src q with
 | er a c q2=>
  rw [e] at h1;simp only [bV] at h1;simp -implicitDefEqProofs [af,dG,hN,hc,hc2,hm,hfd,e1,uz,II,h1]
 | ok v q2=>
  rw [e] at h1;simp only [bY] at h1;simp -implicitDefEqProofs [af,dG,hN,hc,hc2,hm,hfd,e1,uz,II,h1,dS,splice,vM]
theorem NT:∀(n:Nat),n≤200000→∀(r:Rd) (cx:Ctx),Wr src r→rem src r<n→cx.lim≤m→aj P0 (.fn (.func aT) [] []) [.pt (m+1) 0] (S r) cx=qy aK S (vS src n r)
 | 0,_,r,cx,_,hn,_=>absurd hn (by omega)
 | n+1,hn2,r,cx,ha,hn,hl=>by
  refine BF (iT _ _ _) ?_;have e1:=lW hE r ha.at_ ⟨cx.lim,N⟩ hl;have g1:=fA ha;have hN:=hE.n;unfold vS
  cases hp:fP src r with
  | er a c q=>
   rw [hp] at e1;simp only [bV] at e1;have hc:=hE.cell r;unfold rO at hc;have hm:=hE.cm r;simp -implicitDefEqProofs [af,dG,hN,hc,e1,II];rw [EL 5 [0,1,2,3,4]];rotate_left
   ·rfl
   ·rfl
   ·rfl
   simp -implicitDefEqProofs [hc,e1,II,hN]
  | ok t q=>
   rw [hp] at e1;simp only [bY] at e1;have h1:=g1.ok hp;simp only [OR.bind_ok];have hsn:∀w:Rl,1≤w.length→t.2.1=w→Sn src q:=fun w hw ht=>F8 hp (by rw [ht];exact hw)
   cases n with
   | zero=>
    have hq:rem src q=0:=by omega
    have hno:∀w:Rl,1≤w.length→¬t.2.1=w:=fun w hw ht=>by
     have:=(hsn w hw ht).pass h1.1;omega
    have hf:zJ t.2.1=none:=by
     unfold zJ;simp only [hno _ (show 1≤(wA8:Rl).length by simp),hno _ (show 1≤(wA7:Rl).length by simp),hno _ (show 1≤(wA0:Rl).length by simp),hno _ (show 1≤(wA1:Rl).length by simp),hno _ (show 1≤(wB8:Rl).length by simp),hno _ (show 1≤(wA5:Rl).length by simp),if_false]
    simp only [hno _ (show 1≤(wA8:Rl).length by simp),hno _ (show 1≤(wA7:Rl).length by simp),hno _ (show 1≤(wA0:Rl).length by simp),hno _ (show 1≤(wA1:Rl).length by simp),hno _ (show 1≤(wB8:Rl).length by simp),hno _ (show 1≤(wA5:Rl).length by simp),if_false];exact TV hE r q t cx hl e1 hf (oq hE q h1.1 _ hl)
   | succ n=>
    have hF:KP src S m n aT aK (vS src (n+1)):=
     ⟨fun p cx2 hp1 hp2 hp3=>NT (n+1) (by omega) p cx2 hp1 (by omega) hp3,fun p hp1 hp2=>kJ (n+1) p hp1 (by omega)⟩
    by_cases n1:t.2.1=wA8
    ·have ht:=n1;have hf:zJ t.2.1=some jk:=by unfold zJ;simp only [if_pos n1]
     simp only [if_pos n1];exact zI hE _ _ r q t cx hl e1 hf (afV hE q h1.1 _ hl)
    by_cases n2:t.2.1=wA7
    ·have ht:=n2;have hf:zJ t.2.1=some gy:=by unfold zJ;simp only [if_neg n1,if_pos n2]
     simp only [if_neg n1,if_pos n2];exact zI hE _ _ r q t cx hl e1 hf (aaf hE q h1.1 _ hl)
    by_cases n3:t.2.1=wA0
    ·have ht:=n3;have hf:zJ t.2.1=some jl:=by unfold zJ;simp only [if_neg n1,if_neg n2,if_pos n3]
     simp only [if_neg n1,if_neg n2,if_pos n3];exact zI hE _ _ r q t cx hl e1 hf (afY hE hF (by omega) q (hsn _ (by simp) ht) (by omega) h1.1 _ hl)
    by_cases n4:t.2.1=wA1
    ·have ht:=n4;have hf:zJ t.2.1=some iQ:=by unfold zJ;simp only [if_neg n1,if_neg n2,if_neg n3,if_pos n4]
     simp only [if_neg n1,if_neg n2,if_neg n3,if_pos n4];exact zI hE _ _ r q t cx hl e1 hf (ada hE hF q (hsn _ (by simp) ht) (by omega) h1.1 _ hl)
    by_cases n5:t.2.1=wB8
    ·have ht:=n5;have hf:zJ t.2.1=some fG:=by unfold zJ;simp only [if_neg n1,if_neg n2,if_neg n3,if_neg n4,if_pos n5]
     simp only [if_neg n1,if_neg n2,if_neg n3,if_neg n4,if_pos n5];exact zI hE _ _ r q t cx hl e1 hf (Yk hE q h1.1 _ hl)
    by_cases n6:t.2.1=wA5
    ·have ht:=n6;have hf:zJ t.2.1=some iR:=by unfold zJ;simp only [if_neg n1,if_neg n2,if_neg n3,if_neg n4,if_neg n5,if_pos n6]
     simp only [if_neg n1,if_neg n2,if_neg n3,if_neg n4,if_neg n5,if_pos n6];exact zI hE _ _ r q t cx hl e1 hf (adh hE q h1.1 _ hl)
    have hf:zJ t.2.1=none:=by unfold zJ;simp only [if_neg n1,if_neg n2,if_neg n3,if_neg n4,if_neg n5,if_neg n6]
    simp only [if_neg n1,if_neg n2,if_neg n3,if_neg n4,if_neg n5,if_neg n6];exact TV hE r q t cx hl e1 hf (oq hE q h1.1 _ hl)
end
end Go.Ai.Z
namespace Go.Ai.Z
open Go.Ai
def uM (l:List Ax):AV:=slf true (l.map iH)
theorem vO (x:Ax):uM [x]=.sl [iH x]:=rfl
theorem xE:uM []=.ns:=rfl
theorem Nz (k:Int) (c d:C):AV.ag [.i .i64 k,.b false,.i .i64 c.kind,.s c.name,.i .i64 c.lo,.i .i64 c.hi,slf c.z (c.parts.map aK),.i .i64 d.kind,.s d.name,.i .i64 d.lo,.i .i64 d.hi,slf d.z (d.parts.map aK),.ns,.s [],.s [],.s []]=iH (axC k c d):=rfl
theorem TJ (k:Int) (d:C) (role a:Rl):AV.ag [.i .i64 k,.b false,.i .i64 0,.s [],.i .i64 0,.i .i64 0,.ns,.i .i64 d.kind,.s d.name,.i .i64 d.lo,.i .i64 d.hi,slf d.z (d.parts.map aK),.ns,.s role,.s a,.s []]=iH ⟨k,false,zC,d,true,[],role,a,[]⟩:=rfl
theorem TI (k:Int) (role a b:Rl):AV.ag [.i .i64 k,.b false,.i .i64 0,.s [],.i .i64 0,.i .i64 0,.ns,.i .i64 0,.s [],.i .i64 0,.i .i64 0,.ns,.ns,.s role,.s a,.s b]=iH ⟨k,false,zC,zC,true,[],role,a,b⟩:=rfl
theorem ZV (k:Int) (role x:Rl):AV.ag [.i .i64 k,.b false,.i .i64 0,.s [],.i .i64 0,.i .i64 0,.ns,.i .i64 0,.s [],.i .i64 0,.i .i64 0,.ns,.sl [.s x],.s role,.s [],.s []]=iH ⟨k,false,zC,zC,false,[x],role,[],[]⟩:=rfl
theorem ZU (k:Int) (role x y:Rl) (l:List Rl):AV.ag [.i .i64 k,.b false,.i .i64 0,.s [],.i .i64 0,.i .i64 0,.ns,.i .i64 0,.s [],.i .i64 0,.i .i64 0,.ns,.sl (.s x::.s y::l.map .s),.s role,.s [],.s []]=iH ⟨k,false,zC,zC,false,x::y::l,role,[],[]⟩:=rfl
theorem xO (src:Rl) (r:Rd):rem src (bP r)≤rem src r:=by unfold rem bP;simp only;omega
theorem OT {src:Rl} {r:Rd} (h:Wr src r) (b:Bool):Wr src { r with op:=b }:=⟨h.at_,h.ah⟩
theorem aa3 {α:Type} {src:Rl} {r:Rd} {k:Nat} {b:Bool} {x:OR α} (h:aG src { r with op:=b } k x):aG src r k x:=h
theorem ig {src:Rl}:∀(n:Nat) (r:Rd),Wr src r→rem src r<n→aG src r 0 (nC src n r)
 | 0,r,_,hn=>absurd hn (by omega)
 | n+1,r,hr,hn=>by
  unfold nC;refine aG.bind (k:=0) (j:=0) (kQ hr _) (fun b q e h1 h2=>?_) (by omega)
  cases b with
  | false=>simp only [Bool.false_eq_true,if_false];exact .mk h1
  | true=>
   simp only [if_true];have hs:=VJ e (by simp);have h0:=hs.pass h1;refine (nY (k:=0) hs h1 ?_).wk (by omega);refine aG.bind (k:=1) (j:=0) (aC h0.1 _ (by simp)) (fun _ q e h1 h2=>?_) (by omega);refine aG.bind (k:=1) (j:=0) (bf h1) (fun s q2 e2 h3 h4=>?_) (by omega);refine aG.bind (k:=0) (j:=0) (fA h3) (fun t q3 e3 h5 h6=>?_) (by omega);refine aG.bind (k:=0) (j:=0) (gK h5 _) (fun _ q4 e4 h7 h8=>?_) (by omega);obtain ⟨hb,hq⟩:=wo e4;subst hq;have hk:t.1=3:=of_decide_eq_true hb;have hs2:=F8 e3 ((lU h3 e3).2.one (by omega));have h9:=hs2.pass h7;refine (nY (k:=0) hs2 h7 ?_).wk (by omega);refine aG.bind (k:=1) (j:=0) (aC h9.1 _ (by simp)) (fun _ q5 e5 h10 h11=>?_) (by omega);exact aa3 (ig n _ (OT h10 _) (by show rem src q5<n;omega))
section
variable {src:Rl} {S:Rd→St} {m N:Nat} (hE:ve src S m N)
include hE
theorem YX (r:Rd) (b:Bool):(S r).set (m+1) (.cells [.sl (aF src),.i .i64 r.at_,ahV r.ah,.mp m,.s r.iri,.b b,r.ax,.mp (m+2),.mp (m+3)])=S { r with op:=b }:=hE.sets r { r with op:=b } rfl
theorem qY (r:Rd):(S r)[m+1]?=some (.cells [.sl (aF src),.i .i64 r.at_,ahV r.ah,.mp m,.s r.iri,.b r.op,r.ax,.mp (m+2),.mp (m+3)]):=hE.cell r
def notE (m:Nat) (S:Rd→St) (x:OR Unit):Out:=
 match x with
 | .ok _ r=>.exit 0 [(0,.v (.pt (m+1) 0)),(5,.v (.b false))] (S r)
 | .er a c r=>.pan (flt a c) (S r)
omit hE in
@[simp] theorem VT (m:Nat) (S:Rd→St) (v:Unit) (r:Rd):notE m S (.ok v r)=.exit 0 [(0,.v (.pt (m+1) 0)),(5,.v (.b false))] (S r):=rfl
omit hE in
@[simp] theorem Ad (m:Nat) (S:Rd→St) (a:Nat) (c:Int) (r:Rd):notE m S (.er a c r)=.pan (flt a c) (S r):=rfl
theorem V7 (cx:Ctx) (hl:cx.lim≤m):∀(n:Nat) (r:Rd),Wr src r→rem src r<n→
  jw (aA P0.glob (aj P0) cx false aZ) [0] [(0,.v (.pt (m+1) 0))] (S r)=notE m S (nC src n r)
 | 0,r,_,hn=>absurd hn (by omega)
 | n+1,r,ha,hn=>by
  have hg:=ig (n+1) r ha hn;have hlim:cx.lim≤m+1:=by omega
  unfold nC;obtain ⟨a,c,q,hx,e1⟩|⟨b,r1,h1,e1,w1,ke1,_⟩:=spl (FZ hE wA9 r ha cx hl) (kQ ha wA9)
  ·rw [hx];simp only [OR.bind_er,Ad];refine ay fun K hK=>?_;simp -implicitDefEqProofs [aZ,e1]
  rw [h1];simp only [OR.bind_ok]
  cases b with
  | false=>
   simp only [Bool.false_eq_true,if_false,VT];refine ay fun K hK=>?_;simp -implicitDefEqProofs [aZ,e1]
  | true=>
   simp only [if_true];have e2:=jM hE r1 cx hl;have w2:=gq w1;have kp:=((VJ h1 (by simp)).pass w1).2;obtain ⟨a,c,q,hx,e3⟩|⟨v3,r3,h3,e3,w3,ke3,_⟩:=spl (fK hE [40] (bP r1) w2 cx hl) (aC w2 [40] (by simp))
   ·rw [hx];simp only [OR.bind_er,Ad];refine ay fun K hK=>?_;simp -implicitDefEqProofs [aZ,e1,e2,e3]
   rw [h3];simp only [OR.bind_ok];obtain ⟨a,c,q,hx,e4⟩|⟨s,r4,h4,e4,w4,ke4,_⟩:=spl (oq hE r3 w3 cx hl) (bf w3)
   ·rw [hx];simp only [OR.bind_er,Ad];refine ay fun K hK=>?_;simp -implicitDefEqProofs [aZ,e1,e2,e3,e4]
   rw [h4];simp only [OR.bind_ok];obtain ⟨a,c,q,hx,e5⟩|⟨t,r5,h5,e5,w5,ke5,_⟩:=spl (lW hE r4 w4.at_ cx hl) (fA w4)
   ·rw [hx];simp only [OR.bind_er,Ad];refine ay fun K hK=>?_;simp -implicitDefEqProofs [aZ,e1,e2,e3,e4,e5]
   rw [h5];simp only [OR.bind_ok];have e5b:=lW hE r5 w5.at_ cx hl;rw [(nR h5).1] at e5b;simp only [bY] at e5b;simp only [dU] at e5 e5b;obtain ⟨a,c,q,hx,e6⟩|⟨v6,r6,h6,e6,w6,ke6,_⟩:=spl (nG hE (decide (t.1=3)) r5 w5 cx hl) (gK w5 (decide (t.1=3)))
   ·rw [hx];simp only [OR.bind_er,Ad];refine ay fun K hK=>?_;simp -implicitDefEqProofs [aZ,e1,e2,e3,e4,e5,e5b,e6]
   rw [h6];simp only [OR.bind_ok];have e7:=jM hE r6 cx hl;have w7:=gq w6;have kq:=xO src r6;obtain ⟨a,c,q,hx,e8⟩|⟨v8,r8,h8,e8,w8,ke8,_⟩:=spl (fK hE [41] (bP r6) w7 cx hl) (aC w7 [41] (by simp))
   ·rw [hx];simp only [OR.bind_er,Ad];refine ay fun K hK=>?_;simp -implicitDefEqProofs [aZ,e1,e2,e3,e4,e5,e5b,e6,e7,e8]
   rw [h8];simp only [OR.bind_ok];have ih:=V7 cx hl n { r8 with op:=r8.op || (decide (s=[111,112,101,110]) && decide (t.2.1=wD2)) } (OT w8 _) (by show rem src r8<n;omega);have hc:=qY hE r8;have hs:=YX hE r8;refine ay fun K hK=>?_;rw [←hK] at ih;clear hK;rw [←ih];cases qo:r8.op
   ·rw [qo] at hc;by_cases q1:s=[111,112,101,110]
    ·by_cases q2:t.2.1=wD2
     ·simp -implicitDefEqProofs [aZ,e1,e2,e3,e4,e5,e5b,e6,e7,e8,hc,hs,hlim,q1,q2]
     ·simp -implicitDefEqProofs [aZ,e1,e2,e3,e4,e5,e5b,e6,e7,e8,hc,hs,hlim,q1,q2]
    ·simp -implicitDefEqProofs [aZ,e1,e2,e3,e4,e5,e5b,e6,e7,e8,hc,hs,hlim,q1]
   ·rw [qo] at hc;simp -implicitDefEqProofs [aZ,e1,e2,e3,e4,e5,e5b,e6,e7,e8,hc,hs,hlim]
theorem yM (n:Nat) (r:Rd) (ha:Wr src r) (hn:rem src r<n) (cx:Ctx) (hl:cx.lim≤m):
  aj P0 (.fn (.func dI) [] []) [.pt (m+1) 0] (S r) cx=qy (fun _=>.tu []) S (nC src n r):=by
 refine D7 (iT _ _ _) ?_;have hN:=hE.n;have h:=V7 hE ⟨cx.lim,N⟩ hl n r ha hn
 cases e:nC src n r with
 | er a c q=>
  rw [e] at h;simp only [Ad] at h;simp -implicitDefEqProofs [af,kY,hN,h]
 | ok v q=>
  rw [e] at h;simp only [VT] at h;simp -implicitDefEqProofs [af,kY,hN,h]
theorem afW (n:Nat) (hn2:n≤200000) (r:Rd) (ha:Wr src r) (hn:rem src r<n) (cx:Ctx) (hl:cx.lim≤m):
  aj P0 (.fn (.func jY) [] []) [.pt (m+1) 0] (S r) cx=qy uM S (YB src n r):=by
 refine Hg (iT _ _ _) ?_;have hN:=hE.n;unfold YB;obtain ⟨a,c,q,hx,e1⟩|⟨v1,r1,h1,e1,g1⟩:=spl (yM hE n r ha (by omega) ⟨cx.lim,N⟩ hl) (ig n r ha (by omega))
 ·rw [hx];simp -implicitDefEqProofs [af,jA,hN,e1]
 rw [h1];simp only [OR.bind_ok];have w1:=g1.1;have k1:=g1.2.1;obtain ⟨a,c,q,hx,e2⟩|⟨a,r2,h2,e2,g2⟩:=spl (NT hE n hn2 r1 ⟨cx.lim,N⟩ w1 (by omega) hl) (kJ n r1 w1 (by omega))
 ·rw [hx];simp -implicitDefEqProofs [af,jA,hN,e1,e2]
 rw [h2];simp only [OR.bind_ok];have w2:=g2.1;have k2:=g2.2.1;obtain ⟨a,c,q,hx,e3⟩|⟨b,r3,h3,e3,g3⟩:=spl (NT hE n hn2 r2 ⟨cx.lim,N⟩ w2 (by omega) hl) (kJ n r2 w2 (by omega))
 ·rw [hx];simp -implicitDefEqProofs [af,jA,hN,e1,e2,e3];rw [EL 2 [0,1]];rotate_left
  ·rfl
  ·rfl
  ·rfl
  simp -implicitDefEqProofs [hN,e1,e2,e3]
 rw [h3];simp only [OR.bind_ok];have w3:=g3.1;simp -implicitDefEqProofs [af,jA,hN,e1,e2,e3,dS,splice,vO,Nz,uz]
theorem aae (n:Nat) (hn2:n≤200000) (r:Rd) (ha:Wr src r) (hn:rem src r<n) (cx:Ctx) (hl:cx.lim≤m):
  aj P0 (.fn (.func iK) [] []) [.pt (m+1) 0] (S r) cx=qy uM S (Z7 src n r):=by
 refine CV (iT _ _ _) ?_;have hN:=hE.n;unfold Z7;obtain ⟨a,c,q,hx,e1⟩|⟨v1,r1,h1,e1,g1⟩:=spl (yM hE n r ha (by omega) ⟨cx.lim,N⟩ hl) (ig n r ha (by omega))
 ·rw [hx];simp -implicitDefEqProofs [af,gY,hN,e1]
 rw [h1];simp only [OR.bind_ok];have w1:=g1.1;have k1:=g1.2.1;obtain ⟨a,c,q,hx,e2⟩|⟨s,r2,h2,e2,g2⟩:=spl (oq hE r1 w1 ⟨cx.lim,N⟩ hl) (bf w1)
 ·rw [hx];simp -implicitDefEqProofs [af,gY,hN,e1,e2]
 rw [h2];simp only [OR.bind_ok];have w2:=g2.1;have k2:=g2.2.1;obtain ⟨a,c,q,hx,e3⟩|⟨c,r3,h3,e3,g3⟩:=spl (NT hE n hn2 r2 ⟨cx.lim,N⟩ w2 (by omega) hl) (kJ n r2 w2 (by omega))
 ·rw [hx];simp -implicitDefEqProofs [af,gY,hN,e1,e2,e3]
 rw [h3];simp only [OR.bind_ok];have w3:=g3.1;simp -implicitDefEqProofs [af,gY,hN,e1,e2,e3,dS,splice,vO,TJ]
theorem Ue (n:Nat) (hn2:n≤200000) (r:Rd) (ha:Wr src r) (hn:rem src r<n) (cx:Ctx) (hl:cx.lim≤m):
  aj P0 (.fn (.func fM) [] []) [.pt (m+1) 0] (S r) cx=qy uM S (YQ src n r):=by
 refine zA (iT _ _ _) ?_;have hN:=hE.n;unfold YQ;obtain ⟨a,c,q,hx,e1⟩|⟨v1,r1,h1,e1,g1⟩:=spl (yM hE n r ha (by omega) ⟨cx.lim,N⟩ hl) (ig n r ha (by omega))
 ·rw [hx];simp -implicitDefEqProofs [af,gJ,hN,e1]
 rw [h1];simp only [OR.bind_ok];have w1:=g1.1;obtain ⟨a,c,q,hx,e2⟩|⟨s,r2,h2,e2,g2⟩:=spl (oq hE r1 w1 ⟨cx.lim,N⟩ hl) (bf w1)
 ·rw [hx];simp -implicitDefEqProofs [af,gJ,hN,e1,e2]
 rw [h2];simp only [OR.bind_ok];have w2:=g2.1;simp -implicitDefEqProofs [af,gJ,hN,e1,e2,dS,splice,vO,TI]
theorem Z9 (n:Nat) (hn2:n≤200000) (r:Rd) (ha:Wr src r) (hn:rem src r<n) (cx:Ctx) (hl:cx.lim≤m):
  aj P0 (.fn (.func iJ) [] []) [.pt (m+1) 0] (S r) cx=qy uM S (Yz src n r):=by
 refine CQ (iT _ _ _) ?_;have hN:=hE.n;unfold Yz;obtain ⟨a,c,q,hx,e1⟩|⟨v1,r1,h1,e1,g1⟩:=spl (yM hE n r ha (by omega) ⟨cx.lim,N⟩ hl) (ig n r ha (by omega))
 ·rw [hx];simp -implicitDefEqProofs [af,gV,hN,e1]
 rw [h1];simp only [OR.bind_ok];have w1:=g1.1;have k1:=g1.2.1;obtain ⟨a,c,q,hx,e2⟩|⟨c,r2,h2,e2,g2⟩:=spl (NT hE n hn2 r1 ⟨cx.lim,N⟩ w1 (by omega) hl) (kJ n r1 w1 (by omega))
 ·rw [hx];simp -implicitDefEqProofs [af,gV,hN,e1,e2]
 rw [h2];simp only [OR.bind_ok];have w2:=g2.1;obtain ⟨a,c,q,hx,e3⟩|⟨a,r3,h3,e3,g3⟩:=spl (oq hE r2 w2 ⟨cx.lim,N⟩ hl) (bf w2)
 ·rw [hx];simp -implicitDefEqProofs [af,gV,hN,e1,e2,e3];rw [EL 1 [0,2]];rotate_left
  ·rfl
  ·rfl
  ·rfl
  simp -implicitDefEqProofs [hN,e1,e2,e3]
 rw [h3];simp only [OR.bind_ok];have w3:=g3.1;simp -implicitDefEqProofs [af,gV,hN,e1,e2,e3,dS,splice,vO,TJ,uz]
theorem adf (n:Nat) (hn2:n≤200000) (r:Rd) (ha:Wr src r) (hn:rem src r<n) (cx:Ctx) (hl:cx.lim≤m):
  aj P0 (.fn (.func jH) [] []) [.pt (m+1) 0] (S r) cx=qy uM S (Zf src n r):=by
 refine FN (iT _ _ _) ?_;have hN:=hE.n;unfold Zf;obtain ⟨a,c,q,hx,e1⟩|⟨v1,r1,h1,e1,g1⟩:=spl (yM hE n r ha (by omega) ⟨cx.lim,N⟩ hl) (ig n r ha (by omega))
 ·rw [hx];simp -implicitDefEqProofs [af,gX,hN,e1]
 rw [h1];simp only [OR.bind_ok];have w1:=g1.1;obtain ⟨a,c,q,hx,e2⟩|⟨s,r2,h2,e2,g2⟩:=spl (oq hE r1 w1 ⟨cx.lim,N⟩ hl) (bf w1)
 ·rw [hx];simp -implicitDefEqProofs [af,gX,hN,e1,e2]
 rw [h2];simp only [OR.bind_ok];have w2:=g2.1;obtain ⟨a,c,q,hx,e3⟩|⟨a,r3,h3,e3,g3⟩:=spl (oq hE r2 w2 ⟨cx.lim,N⟩ hl) (bf w2)
 ·rw [hx];simp -implicitDefEqProofs [af,gX,hN,e1,e2,e3]
 rw [h3];simp only [OR.bind_ok];have w3:=g3.1;obtain ⟨a,c,q,hx,e4⟩|⟨b,r4,h4,e4,g4⟩:=spl (oq hE r3 w3 ⟨cx.lim,N⟩ hl) (bf w3)
 ·rw [hx];simp -implicitDefEqProofs [af,gX,hN,e1,e2,e3,e4]
 rw [h4];simp only [OR.bind_ok];have w4:=g4.1;simp -implicitDefEqProofs [af,gX,hN,e1,e2,e3,e4,dS,splice,vO,TI]
theorem KP.name (n:Nat):KP src S m n aP AV.s (mr src):=⟨fun q cx hq _ hl=>oq hE q hq cx hl,fun q hq _=>bf hq⟩
theorem ade (n:Nat) (hn2:n≤200000) (r:Rd) (ha:Wr src r) (hn:rem src r<n) (cx:Ctx) (hl:cx.lim≤m):
  aj P0 (.fn (.func jG) [] []) [.pt (m+1) 0] (S r) cx=qy uM S (YP src n r):=by
 refine FH (iT _ _ _) ?_;have hN:=hE.n;unfold YP;obtain ⟨a,c,q,hx,e1⟩|⟨v1,r1,h1,e1,g1⟩:=spl (yM hE n r ha (by omega) ⟨cx.lim,N⟩ hl) (ig n r ha (by omega))
 ·rw [hx];simp -implicitDefEqProofs [af,cO,hN,e1]
 rw [h1];simp only [OR.bind_ok];have w1:=g1.1;have k1:=g1.2.1;obtain ⟨a,c,q,hx,e2⟩|⟨b,r2,h2,e2,g2⟩:=spl (FZ hE wC1 r1 w1 ⟨cx.lim,N⟩ hl) (kQ w1 wC1)
 ·rw [hx];simp -implicitDefEqProofs [af,cO,hN,e1,e2]
 rw [h2];simp only [OR.bind_ok];have w2:=g2.1;have k2:=g2.2.1
 cases b with
 | false=>
  simp only [Bool.false_eq_true,if_false,OR.bind_ok,if_neg];obtain ⟨a,c,q,hx,e3⟩|⟨a,r3,h3,e3,g3⟩:=spl (oq hE r2 w2 ⟨cx.lim,N⟩ hl) (bf w2)
  ·rw [hx];simp -implicitDefEqProofs [af,cO,hN,e1,e2,e3]
  rw [h3];simp only [OR.bind_ok];have w3:=g3.1;obtain ⟨a,c,q,hx,e4⟩|⟨s,r4,h4,e4,g4⟩:=spl (oq hE r3 w3 ⟨cx.lim,N⟩ hl) (bf w3)
  ·rw [hx];simp -implicitDefEqProofs [af,cO,hN,e1,e2,e3,e4]
  rw [h4];simp only [OR.bind_ok];have w4:=g4.1;simp -implicitDefEqProofs [af,cO,hN,e1,e2,e3,e4,dS,splice,vO,ZV]
 | true=>
  simp only [if_true,OR.bind_ok];have hp:=xO src r2;have e5:=jM hE r2 ⟨cx.lim,N⟩ hl;have w5:=gq w2;obtain ⟨a,c,q,hx,e6⟩|⟨v6,r6,h6,e6,g6⟩:=spl (fK hE [40] (bP r2) w5 ⟨cx.lim,N⟩ hl) (aC w5 [40] (by simp))
  ·rw [hx];simp -implicitDefEqProofs [af,cO,hN,e1,e2,e5,e6]
  rw [h6];simp only [OR.bind_ok];have w6:=g6.1;have k3:=g6.2.1;obtain ⟨a,c,q,hx,e7⟩|⟨l,r7,h7,e7,g7⟩:=spl (abq hE (KP.name hE n) n r6 w6 (by omega) (by omega) (by omega) ⟨cx.lim,N⟩ hl) (uf (least:=2) n [] r6 w6 (by omega) (fun q hq1 hq2=>bf hq1))
  ·rw [hx];simp -implicitDefEqProofs [af,cO,hN,e1,e2,e5,e6,e7]
  rw [h7];simp only [OR.bind_ok];have w7:=g7.1;obtain ⟨a,c,q,hx,e8⟩|⟨v8,r8,h8,e8,g8⟩:=spl (fK hE [41] r7 w7 ⟨cx.lim,N⟩ hl) (aC w7 [41] (by simp))
  ·rw [hx];simp -implicitDefEqProofs [af,cO,hN,e1,e2,e5,e6,e7,e8]
  rw [h8];simp only [OR.bind_ok];have w8:=g8.1;obtain ⟨x1,x2,x3,rfl⟩:=wE _ _ _ _ _ h7;simp only [List.map_cons] at e7;obtain ⟨a,c,q,hx,e9⟩|⟨s,r9,h9,e9,g9⟩:=spl (oq hE r8 w8 ⟨cx.lim,N⟩ hl) (bf w8)
  ·rw [hx];simp -implicitDefEqProofs [af,cO,hN,e1,e2,e5,e6,e7,e8,e9]
  rw [h9];simp only [OR.bind_ok];have w9:=g9.1;simp -implicitDefEqProofs [af,cO,hN,e1,e2,e5,e6,e7,e8,e9,dS,splice,vO,ZU]
theorem OM (r:Rd) (ha:Wr src r) (cx:Ctx) (hl:cx.lim≤m):
  aj P0 (.fn (.func eX) [] []) [.pt (m+1) 0] (S r) cx=qy uM S (PU src r):=by
 refine yu (iT _ _ _) ?_;have hN:=hE.n;unfold PU;have e0:=FZ hE [67,108,97,115,115] r ha ⟨cx.lim,N⟩ hl
 cases hp:fP src r with
 | er a c q=>
  unfold isR at e0;rw [hp] at e0;simp only [bV,OR.bind_er] at e0;simp -implicitDefEqProofs [af,au,hN,e0]
 | ok t r1=>
  have w1:=(lU ha hp).1;have his:∀w:Rl,isR src w r1=.ok (decide (t.2.1=w)) r1:=fun w=>by unfold isR;rw [(nR hp).1];rfl
  have ea:=FZ hE wC8 r1 w1 ⟨cx.lim,N⟩ hl;rw [his] at ea;have eb:=FZ hE wD0 r1 w1 ⟨cx.lim,N⟩ hl;rw [his] at eb;have ec:=FZ hE wC4 r1 w1 ⟨cx.lim,N⟩ hl;rw [his] at ec;unfold isR at e0;rw [hp] at e0;simp only [bY,OR.bind_ok] at e0 ea eb ec ⊢;by_cases k0:t.2.1=[67,108,97,115,115]
  ·have hd:Bg t.2.1=true:=by unfold Bg;simp [k0]
   rw [hd];simp [k0] at e0 ea eb ec;obtain ⟨a,c,q,hx,e1⟩|⟨v1,r1,h1,e1,g1⟩:=spl (nG hE true r1 w1 ⟨cx.lim,N⟩ hl) (gK w1 true)
   ·rw [hx];simp -implicitDefEqProofs [af,au,hN,e0,ea,eb,ec,e1]
   rw [h1];simp only [OR.bind_ok];have w1:=g1.1;have e2:=jM hE r1 ⟨cx.lim,N⟩ hl;have w2:=gq w1;obtain ⟨a,c,q,hx,e3⟩|⟨v3,r3,h3,e3,g3⟩:=spl (fK hE [40] (bP r1) w2 ⟨cx.lim,N⟩ hl) (aC w2 [40] (by simp))
   ·rw [hx];simp -implicitDefEqProofs [af,au,hN,e0,ea,eb,ec,e1,e2,e3]
   rw [h3];simp only [OR.bind_ok];have w3:=g3.1;obtain ⟨a,c,q,hx,e4⟩|⟨s,r4,h4,e4,g4⟩:=spl (oq hE r3 w3 ⟨cx.lim,N⟩ hl) (bf w3)
   ·rw [hx];simp -implicitDefEqProofs [af,au,hN,e0,ea,eb,ec,e1,e2,e3,e4]
   rw [h4];simp only [OR.bind_ok];have w4:=g4.1;obtain ⟨a,c,q,hx,e5⟩|⟨v5,r5,h5,e5,g5⟩:=spl (fK hE [41] r4 w4 ⟨cx.lim,N⟩ hl) (aC w4 [41] (by simp))
   ·rw [hx];simp -implicitDefEqProofs [af,au,hN,e0,ea,eb,ec,e1,e2,e3,e4,e5]
   rw [h5];simp only [OR.bind_ok];have w5:=g5.1;simp -implicitDefEqProofs [af,au,hN,e0,ea,eb,ec,e1,e2,e3,e4,e5,xE]
  by_cases k1:t.2.1=wC8
  ·have hd:Bg t.2.1=true:=by unfold Bg;simp [k1]
   rw [hd];simp [k1] at e0 ea eb ec;obtain ⟨a,c,q,hx,e1⟩|⟨v1,r1,h1,e1,g1⟩:=spl (nG hE true r1 w1 ⟨cx.lim,N⟩ hl) (gK w1 true)
   ·rw [hx];simp -implicitDefEqProofs [af,au,hN,e0,ea,eb,ec,e1]
   rw [h1];simp only [OR.bind_ok];have w1:=g1.1;have e2:=jM hE r1 ⟨cx.lim,N⟩ hl;have w2:=gq w1;obtain ⟨a,c,q,hx,e3⟩|⟨v3,r3,h3,e3,g3⟩:=spl (fK hE [40] (bP r1) w2 ⟨cx.lim,N⟩ hl) (aC w2 [40] (by simp))
   ·rw [hx];simp -implicitDefEqProofs [af,au,hN,e0,ea,eb,ec,e1,e2,e3]
   rw [h3];simp only [OR.bind_ok];have w3:=g3.1;obtain ⟨a,c,q,hx,e4⟩|⟨s,r4,h4,e4,g4⟩:=spl (oq hE r3 w3 ⟨cx.lim,N⟩ hl) (bf w3)
   ·rw [hx];simp -implicitDefEqProofs [af,au,hN,e0,ea,eb,ec,e1,e2,e3,e4]
   rw [h4];simp only [OR.bind_ok];have w4:=g4.1;obtain ⟨a,c,q,hx,e5⟩|⟨v5,r5,h5,e5,g5⟩:=spl (fK hE [41] r4 w4 ⟨cx.lim,N⟩ hl) (aC w4 [41] (by simp))
   ·rw [hx];simp -implicitDefEqProofs [af,au,hN,e0,ea,eb,ec,e1,e2,e3,e4,e5]
   rw [h5];simp only [OR.bind_ok];have w5:=g5.1;simp -implicitDefEqProofs [af,au,hN,e0,ea,eb,ec,e1,e2,e3,e4,e5,xE]
  by_cases k2:t.2.1=wD0
  ·have hd:Bg t.2.1=true:=by unfold Bg;simp [k2]
   rw [hd];simp [k2] at e0 ea eb ec;obtain ⟨a,c,q,hx,e1⟩|⟨v1,r1,h1,e1,g1⟩:=spl (nG hE true r1 w1 ⟨cx.lim,N⟩ hl) (gK w1 true)
   ·rw [hx];simp -implicitDefEqProofs [af,au,hN,e0,ea,eb,ec,e1]
   rw [h1];simp only [OR.bind_ok];have w1:=g1.1;have e2:=jM hE r1 ⟨cx.lim,N⟩ hl;have w2:=gq w1;obtain ⟨a,c,q,hx,e3⟩|⟨v3,r3,h3,e3,g3⟩:=spl (fK hE [40] (bP r1) w2 ⟨cx.lim,N⟩ hl) (aC w2 [40] (by simp))
   ·rw [hx];simp -implicitDefEqProofs [af,au,hN,e0,ea,eb,ec,e1,e2,e3]
   rw [h3];simp only [OR.bind_ok];have w3:=g3.1;obtain ⟨a,c,q,hx,e4⟩|⟨s,r4,h4,e4,g4⟩:=spl (oq hE r3 w3 ⟨cx.lim,N⟩ hl) (bf w3)
   ·rw [hx];simp -implicitDefEqProofs [af,au,hN,e0,ea,eb,ec,e1,e2,e3,e4]
   rw [h4];simp only [OR.bind_ok];have w4:=g4.1;obtain ⟨a,c,q,hx,e5⟩|⟨v5,r5,h5,e5,g5⟩:=spl (fK hE [41] r4 w4 ⟨cx.lim,N⟩ hl) (aC w4 [41] (by simp))
   ·rw [hx];simp -implicitDefEqProofs [af,au,hN,e0,ea,eb,ec,e1,e2,e3,e4,e5]
   rw [h5];simp only [OR.bind_ok];have w5:=g5.1;simp -implicitDefEqProofs [af,au,hN,e0,ea,eb,ec,e1,e2,e3,e4,e5,xE]
  by_cases k3:t.2.1=wC4
  ·have hd:Bg t.2.1=true:=by unfold Bg;simp [k3]
   rw [hd];simp [k3] at e0 ea eb ec;obtain ⟨a,c,q,hx,e1⟩|⟨v1,r1,h1,e1,g1⟩:=spl (nG hE true r1 w1 ⟨cx.lim,N⟩ hl) (gK w1 true)
   ·rw [hx];simp -implicitDefEqProofs [af,au,hN,e0,ea,eb,ec,e1]
   rw [h1];simp only [OR.bind_ok];have w1:=g1.1;have e2:=jM hE r1 ⟨cx.lim,N⟩ hl;have w2:=gq w1;obtain ⟨a,c,q,hx,e3⟩|⟨v3,r3,h3,e3,g3⟩:=spl (fK hE [40] (bP r1) w2 ⟨cx.lim,N⟩ hl) (aC w2 [40] (by simp))
   ·rw [hx];simp -implicitDefEqProofs [af,au,hN,e0,ea,eb,ec,e1,e2,e3]
   rw [h3];simp only [OR.bind_ok];have w3:=g3.1;obtain ⟨a,c,q,hx,e4⟩|⟨s,r4,h4,e4,g4⟩:=spl (oq hE r3 w3 ⟨cx.lim,N⟩ hl) (bf w3)
   ·rw [hx];simp -implicitDefEqProofs [af,au,hN,e0,ea,eb,ec,e1,e2,e3,e4]
   rw [h4];simp only [OR.bind_ok];have w4:=g4.1;obtain ⟨a,c,q,hx,e5⟩|⟨v5,r5,h5,e5,g5⟩:=spl (fK hE [41] r4 w4 ⟨cx.lim,N⟩ hl) (aC w4 [41] (by simp))
   ·rw [hx];simp -implicitDefEqProofs [af,au,hN,e0,ea,eb,ec,e1,e2,e3,e4,e5]
   rw [h5];simp only [OR.bind_ok];have w5:=g5.1;simp -implicitDefEqProofs [af,au,hN,e0,ea,eb,ec,e1,e2,e3,e4,e5,xE]
  ·have hd:Bg t.2.1=false:=by unfold Bg;simp [k0,k1,k2,k3]
   rw [hd];simp [k0,k1,k2,k3] at e0 ea eb ec;have ef:=nG hE false r1 w1 ⟨cx.lim,N⟩ hl;obtain ⟨a2,c2,r2,hx⟩:=wu src r1;rw [hx] at ef ⊢;simp only [bV] at ef;simp -implicitDefEqProofs [af,au,hN,e0,ea,eb,ec,ef]
end
end Go.Ai.Z
