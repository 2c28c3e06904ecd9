/-
 The reader of ontology documents: lists.
-/
import Derived.Test.YtcofenimejmoeaaGreatDoorAiOX1OX2OX3OX4
set_option maxRecDepth 100000
set_option linter.unusedSimpArgs false
set_option linter.unusedVariables false
set_option linter.unusedSectionVars false
namespace Go.Ai.Z
theorem jX (f:Nat) (v:AV) (s:St) (cx:Ctx):aj P0 (.fn (.func f) [v] []) [] s cx=aj P0 (.fn (.func f) [] []) [v] s cx:=by
 unfold aj
 congr 1
 funext n
 cases n<;>rfl
def Qp {α:Type} (src:Rl) (S:Rd→St) (m B:Nat) (F:Nat) (enc:α→AV) (f:Rd→OR α):Prop:=
 (∀q cx,Wr src q→rem src q≤B→cx.lim≤m→aj P0 (.fn (.func F) [] []) [.pt (m+1) 0] (S q) cx=uy enc S (f q))∧∀q,Wr src q→rem src q≤B→aG src q 1 (f q)
def acM {α:Type} (F T sz m:Nat) (enc:α→AV) (S:Rd→St) (x:OR (List α)):Out:=
 match x with
 | .ok l r=>.exit 0 [(0,.v (.pt (m+1) 0)),(1,.v (.i .i64 2)),(2,.v (.fn (.func F) [.pt (m+1) 0] [])),(6,.own false T sz (l.map enc)),(15,.v (.b false))] (S r)
 | .er a c r=>.pan (flt a c) (S r)
@[simp] theorem aby {α:Type} (F T sz m:Nat) (enc:α→AV) (S:Rd→St) (l:List α) (r:Rd):acM F T sz m enc S (.ok l r)=.exit 0 [(0,.v (.pt (m+1) 0)),(1,.v (.i .i64 2)),(2,.v (.fn (.func F) [.pt (m+1) 0] [])),(6,.own false T sz (l.map enc)),(15,.v (.b false))] (S r):=rfl
@[simp] theorem abz {α:Type} (F T sz m:Nat) (enc:α→AV) (S:Rd→St) (a:Nat) (c:Int) (r:Rd):acM F T sz m enc S (.er a c r)=.pan (flt a c) (S r):=rfl
theorem zK {α:Type} {src:Rl} {f:Rd→OR α}:∀(n:Nat) (l:List α) (r:Rd) (l':List α) (q:Rd),mW src f 2 n l r=.ok l' q→∃a b t,l'=a::b::t
 | 0,l,r,l',q,h=>by cases h
 | n+1,l,r,l',q,h=>by
  unfold mW at h;by_cases z:l.length<2
  ·rw [if_pos z] at h;simp only [OR.bind_ok,Bool.false_eq_true,if_false] at h
   cases e:f r with
   | er a c r2=>rw [e] at h;cases h
   | ok v r2=>rw [e] at h;exact zK n _ r2 l' q h
  ·rw [if_neg z] at h
   cases e0:isR src [41] r with
   | er a c r2=>rw [e0] at h;cases h
   | ok b r2=>
    rw [e0] at h;simp only [OR.bind_ok] at h
    cases b with
    | true=>
     cases h
     match l,z with
     | a::b::t,_=>exact ⟨a,b,t,rfl⟩
     | [_],z=>simp at z
     | [],z=>simp at z
    | false=>
     simp only [Bool.false_eq_true,if_false] at h
     cases e:f r2 with
     | er a c r3=>rw [e] at h;cases h
     | ok v r3=>rw [e] at h;exact zK n _ r3 l' q h
section
variable {src:Rl} {S:Rd→St} {m N:Nat} (hE:yO src S m N)
include hE
theorem abH {F:Nat} {f:Rd→OR C} {B:Nat} (hF:Qp src S m B F aJ f) (cx:Ctx) (hl:cx.lim≤m):∀(n:Nat) (l:List C) (r:Rd),Wr src r→rem src r<n→rem src r≤B→l.length+rem src r≤200000→
  gY (aB P0.glob (aj P0) cx false bf) [0,1,2,6] [(0,.v (.pt (m+1) 0)),(1,.v (.i .i64 2)),(2,.v (.fn (.func F) [.pt (m+1) 0] [])),(6,.own false eP 5 (l.map aJ))] (S r)=acM F eP 5 m aJ S (mW src f 2 n l r)
 | 0,l,r,_,hn,_,_=>absurd hn (by omega)
 | n+1,l,r,hr,hn,hB,hL=>by
  have hN:=hE.n;unfold mW;have hk:je [(0,.v (.pt (m+1) 0)),(1,.v (.i .i64 2)),(2,.v (.fn (.func F) [.pt (m+1) 0] [])),(6,.own false eP 5 (l.map aJ))] [0,1,2,6]=[(0,.v (.pt (m+1) 0)),(1,.v (.i .i64 2)),(2,.v (.fn (.func F) [.pt (m+1) 0] [])),(6,.own false eP 5 (l.map aJ))]:=rfl
  have key:∀q,Wr src q→rem src q≤rem src r→(∀K:Env→St→Out,(aB P0.glob (aj P0) cx false bf [(0,.v (.pt (m+1) 0)),(1,.v (.i .i64 2)),(2,.v (.fn (.func F) [.pt (m+1) 0] [])),(6,.own false eP 5 (l.map aJ))] (S r)).thn K=
    match f q with
    | .er a c q2=>.pan (flt a c) (S q2)
    | .ok v q2=>K [(0,.v (.pt (m+1) 0)),(1,.v (.i .i64 2)),(2,.v (.fn (.func F) [.pt (m+1) 0] [])),(6,.own false eP 5 ((l++[v]).map aJ))] (S q2))→
   gY (aB P0.glob (aj P0) cx false bf) [0,1,2,6] [(0,.v (.pt (m+1) 0)),(1,.v (.i .i64 2)),(2,.v (.fn (.func F) [.pt (m+1) 0] [])),(6,.own false eP 5 (l.map aJ))] (S r)=acM F eP 5 m aJ S ((f q).bind fun v r=>mW src f 2 n (l++[v]) r):=by
   intro q hq A h;have hg:=hF.2 q hq (by omega)
   cases e:f q with
   | er a c q2=>
    rw [e] at h;exact ak fun K hK=>(congrArg (fun E=>(aB P0.glob (aj P0) cx false bf E (S r)).thn K) hk).trans (h K)
   | ok v q2=>
    rw [e] at h;have h1:=hg.ok e;have ih:=abH hF cx hl n (l++[v]) q2 h1.1 (by omega) (by omega) (by rw [List.length_append];simp;omega);exact ak fun K hK=>by rw [hk,h K,OR.bind_ok,←ih,←hK]
  have p:l.length+1≤aS:=by unfold aS;omega
  have x:(l.map aJ).length=l.length:=List.length_map _;by_cases q:l.length<2
  ·rw [if_pos q];simp only [OR.bind_ok,Bool.false_eq_true,if_false];refine key r hr (by omega) fun K=>?_;have qi:(l.length:Int)<2:=by omega
   have e1:=hF.1 r cx hr hB hl
   cases e:f r with
   | er a c q2=>
    rw [e] at e1;simp only [dA] at e1;simp -implicitDefEqProofs [bf,qi,jX,e1,p]
   | ok v q2=>
    rw [e] at e1;simp only [dD] at e1;simp -implicitDefEqProofs [bf,qi,jX,e1,p]
  ·rw [if_neg q];have qi:¬(l.length:Int)<2:=by omega
   have e0:=KE hE [41] r hr cx hl;have g0:=fV hr [41]
   cases h0:isR src [41] r with
   | er a c q2=>
    rw [h0] at e0;simp only [dA] at e0;refine ak fun K hK=>?_;simp -implicitDefEqProofs [bf,qi,e0]
   | ok b r2=>
    rw [h0] at e0;have w0:=(g0.ok h0);simp only [dD] at e0;simp only [OR.bind_ok]
    cases b with
    | true=>
     refine ak fun K hK=>?_;simp -implicitDefEqProofs [bf,qi,e0]
    | false=>
     simp only [Bool.false_eq_true,if_false];refine key r2 w0.1 (by omega) fun K=>?_;have e1:=hF.1 r2 cx w0.1 (by omega) hl
     cases e:f r2 with
     | er a c q2=>
      rw [e] at e1;simp only [dA] at e1;simp -implicitDefEqProofs [bf,qi,e0,jX,e1,p]
     | ok v q2=>
      rw [e] at e1;simp only [dD] at e1;simp -implicitDefEqProofs [bf,qi,e0,jX,e1,p]
theorem abG {F:Nat} {f:Rd→OR Rl} {B:Nat} (hF:Qp src S m B F AV.s f) (cx:Ctx) (hl:cx.lim≤m):∀(n:Nat) (l:List Rl) (r:Rd),Wr src r→rem src r<n→rem src r≤B→l.length+rem src r≤200000→
  gY (aB P0.glob (aj P0) cx false dB) [0,1,2,6] [(0,.v (.pt (m+1) 0)),(1,.v (.i .i64 2)),(2,.v (.fn (.func F) [.pt (m+1) 0] [])),(6,.own false au 1 (l.map AV.s))] (S r)=acM F au 1 m AV.s S (mW src f 2 n l r)
 | 0,l,r,_,hn,_,_=>absurd hn (by omega)
 | n+1,l,r,hr,hn,hB,hL=>by
  have hN:=hE.n;unfold mW;have hk:je [(0,.v (.pt (m+1) 0)),(1,.v (.i .i64 2)),(2,.v (.fn (.func F) [.pt (m+1) 0] [])),(6,.own false au 1 (l.map AV.s))] [0,1,2,6]=[(0,.v (.pt (m+1) 0)),(1,.v (.i .i64 2)),(2,.v (.fn (.func F) [.pt (m+1) 0] [])),(6,.own false au 1 (l.map AV.s))]:=rfl
  have key:∀q,Wr src q→rem src q≤rem src r→(∀K:Env→St→Out,(aB P0.glob (aj P0) cx false dB [(0,.v (.pt (m+1) 0)),(1,.v (.i .i64 2)),(2,.v (.fn (.func F) [.pt (m+1) 0] [])),(6,.own false au 1 (l.map AV.s))] (S r)).thn K=
    match f q with
    | .er a c q2=>.pan (flt a c) (S q2)
    | .ok v q2=>K [(0,.v (.pt (m+1) 0)),(1,.v (.i .i64 2)),(2,.v (.fn (.func F) [.pt (m+1) 0] [])),(6,.own false au 1 ((l++[v]).map AV.s))] (S q2))→
   gY (aB P0.glob (aj P0) cx false dB) [0,1,2,6] [(0,.v (.pt (m+1) 0)),(1,.v (.i .i64 2)),(2,.v (.fn (.func F) [.pt (m+1) 0] [])),(6,.own false au 1 (l.map AV.s))] (S r)=acM F au 1 m AV.s S ((f q).bind fun v r=>mW src f 2 n (l++[v]) r):=by
   intro q hq A h;have hg:=hF.2 q hq (by omega)
   cases e:f q with
   | er a c q2=>
    rw [e] at h;exact ak fun K hK=>(congrArg (fun E=>(aB P0.glob (aj P0) cx false dB E (S r)).thn K) hk).trans (h K)
   | ok v q2=>
    rw [e] at h;have h1:=hg.ok e;have ih:=abG hF cx hl n (l++[v]) q2 h1.1 (by omega) (by omega) (by rw [List.length_append];simp;omega);exact ak fun K hK=>by rw [hk,h K,OR.bind_ok,←ih,←hK]
  have p:l.length+1≤aS:=by unfold aS;omega
  have x:(l.map AV.s).length=l.length:=List.length_map _;by_cases q:l.length<2
  ·rw [if_pos q];simp only [OR.bind_ok,Bool.false_eq_true,if_false];refine key r hr (by omega) fun K=>?_;have qi:(l.length:Int)<2:=by omega
   have e1:=hF.1 r cx hr hB hl
   cases e:f r with
   | er a c q2=>
    rw [e] at e1;simp only [dA] at e1;simp -implicitDefEqProofs [dB,qi,jX,e1,p]
   | ok v q2=>
    rw [e] at e1;simp only [dD] at e1;simp -implicitDefEqProofs [dB,qi,jX,e1,p]
  ·rw [if_neg q];have qi:¬(l.length:Int)<2:=by omega
   have e0:=KE hE [41] r hr cx hl;have g0:=fV hr [41]
   cases h0:isR src [41] r with
   | er a c q2=>
    rw [h0] at e0;simp only [dA] at e0;refine ak fun K hK=>?_;simp -implicitDefEqProofs [dB,qi,e0]
   | ok b r2=>
    rw [h0] at e0;have w0:=(g0.ok h0);simp only [dD] at e0;simp only [OR.bind_ok]
    cases b with
    | true=>
     refine ak fun K hK=>?_;simp -implicitDefEqProofs [dB,qi,e0]
    | false=>
     simp only [Bool.false_eq_true,if_false];refine key r2 w0.1 (by omega) fun K=>?_;have e1:=hF.1 r2 cx w0.1 (by omega) hl
     cases e:f r2 with
     | er a c q2=>
      rw [e] at e1;simp only [dA] at e1;simp -implicitDefEqProofs [dB,qi,e0,jX,e1,p]
     | ok v q2=>
      rw [e] at e1;simp only [dD] at e1;simp -implicitDefEqProofs [dB,qi,e0,jX,e1,p]
theorem Xw {F:Nat} {f:Rd→OR C} {B:Nat} (hF:Qp src S m B F aJ f) (n:Nat) (r:Rd) (ha:Wr src r) (hn:rem src r<n) (hB:rem src r≤B) (hb:B≤200000) (cx:Ctx) (hl:cx.lim≤m):
  aj P0 (.fn (.func iK) [] []) [.pt (m+1) 0,.i .i64 2,.fn (.func F) [.pt (m+1) 0] []] (S r) cx=uy (fun l=>.sl (l.map aJ)) S (mW src f 2 n [] r):=by
 refine Ee (jU _ _ _) ?_;have hN:=hE.n;have h:=abH hE hF ⟨cx.lim,N⟩ hl n [] r ha hn hB (by simp;omega);rw [List.map_nil] at h;have h2:=zK (src:=src) (f:=f) n [] r
 cases e:mW src f 2 n [] r with
 | er a c q=>
  rw [e] at h;simp only [abz] at h;simp -implicitDefEqProofs [af,kL,hN,h]
 | ok l q=>
  rw [e] at h h2;simp only [aby] at h;obtain ⟨a,b,l',rfl⟩:=h2 l q rfl;simp at h;simp -implicitDefEqProofs [af,kL,hN,h]
theorem ahK {F:Nat} {f:Rd→OR Rl} {B:Nat} (hF:Qp src S m B F AV.s f) (n:Nat) (r:Rd) (ha:Wr src r) (hn:rem src r<n) (hB:rem src r≤B) (hb:B≤200000) (cx:Ctx) (hl:cx.lim≤m):
  aj P0 (.fn (.func qj) [] []) [.pt (m+1) 0,.i .i64 2,.fn (.func F) [.pt (m+1) 0] []] (S r) cx=uy (fun l=>.sl (l.map AV.s)) S (mW src f 2 n [] r):=by
 refine Kq (jU _ _ _) ?_;have hN:=hE.n;have h:=abG hE hF ⟨cx.lim,N⟩ hl n [] r ha hn hB (by simp;omega);rw [List.map_nil] at h;have h2:=zK (src:=src) (f:=f) n [] r
 cases e:mW src f 2 n [] r with
 | er a c q=>
  rw [e] at h;simp only [abz] at h;simp -implicitDefEqProofs [af,oL,hN,h]
 | ok l q=>
  rw [e] at h h2;simp only [aby] at h;obtain ⟨a,b,l',rfl⟩:=h2 l q rfl;simp at h;simp -implicitDefEqProofs [af,oL,hN,h]
end
end Go.Ai.Z
namespace Go.Ai.Z
theorem Jv {glob:Nat→Option (List AV)} {call:AV→List AV→St→Ctx→CO} {cx:Ctx} {ops:List aI} {π:List Nat} {env:Env} {s:St} (c:Nat) (pre:List Nat) {oc:aI}
  (h1:Z5 ops π=some (c,oc)) (h2:Gj ops c oc false π=pre)
  (h3:(pre.all fun j=>match ops[j]? with|some o=>o.op.pre && (zY o oc || BI o oc || (π.takeWhile fun x=>x != c).contains j)|none=>false)=true):
  yV glob call cx ops π env s=match jC glob call cx ops pre env s with
   | .norm env1 s1=>(match fK glob call cx oc env1 s1 with
    | .pan v' s2=>.pan v' s2
    | _=>.fail)
   | _=>.fail:=by
 unfold yV;rw [h1];simp only [h2];exact if_pos h3
theorem afE (k:Int) (n:Rl) (l h:Int) (c:C):AV.ag [.i .i64 k,.s n,.i .i64 l,.i .i64 h,.sl [aJ c]]=aJ (.mk k n l h false [c]):=VH k n l h c []
theorem afD (k:Int) (n:Rl) (l h:Int) (a b:C) (ps:List C):AV.ag [.i .i64 k,.s n,.i .i64 l,.i .i64 h,.sl (aJ a::aJ b::ps.map aJ)]=aJ (.mk k n l h false (a::b::ps)):=VH k n l h a (b::ps)
def Em (w:Rl):Option Nat:=
 if w=wB4 then some kQ
 else if w=wB1 then some iY
 else if w=wA6 then some kR
 else if w=wA7 then some jR
 else if w=wB8 then some iE
 else if w=wA8 then some jS else none
theorem VN (m:Nat) (w:Rl):find 1 (.s w) (Y8 m)=some ((Em w).map (rdF m)):=by
 unfold Em Y8;split
 ·rename_i h;simp [find,jH,h]
 split
 ·rename_i h;simp [find,jH,h]
 split
 ·rename_i h;simp [find,jH,h]
 split
 ·rename_i h;simp [find,jH,h]
 split
 ·rename_i h;simp [find,jH,h]
 split
 ·rename_i h;simp [find,jH,h]
 ·simp [find,jH, *]
section
variable {src:Rl} {S:Rd→St} {m N:Nat} (hE:yO src S m N)
include hE
theorem amh {f:Rd→OR C} {n:Nat} (hF:Qp src S m n aV aJ f) (hn:n≤200000) (r:Rd) (hs:Sn src r) (hr:rem src r≤n+1) (ha:Wr src r) (cx:Ctx) (hl:cx.lim≤m):
  aj P0 (.fn (.func kR) [] []) [.pt (m+1) 0] (S r) cx=uy aJ S (Zu src f (n+1) r):=by
 refine MB (jU _ _ _) ?_;have hN:=hE.n;have hp:=hs.pass ha;unfold Zu;have e1:=lJ hE r ⟨cx.lim,N⟩ hl;have w1:=dV ha;obtain ⟨a,c,q,hx,e2⟩|⟨v2,r2,h2,e2,g2⟩:=spl (iI hE [40] (bQ r) w1 ⟨cx.lim,N⟩ hl) (aF w1 [40] (by simp))
 ·rw [hx];simp -implicitDefEqProofs [af,lm,hN,e1,e2]
 rw [h2];simp only [OR.bind_ok];have w2:=g2.1;have hq:=g2.2.1;obtain ⟨a,c,q,hx,e3⟩|⟨l,r3,h3,e3,g3⟩:=spl (Xw hE hF (n+1) r2 w2 (by omega) (by omega) hn ⟨cx.lim,N⟩ hl) (xO (least:=2) (n+1) [] r2 w2 (by omega) (fun q p x=>hF.2 q p (by omega)))
 ·rw [hx];simp -implicitDefEqProofs [af,lm,hN,e1,e2,e3]
 rw [h3];simp only [OR.bind_ok];have w3:=g3.1;obtain ⟨a,c,q,hx,e4⟩|⟨v4,r4,h4,e4,g4⟩:=spl (iI hE [41] r3 w3 ⟨cx.lim,N⟩ hl) (aF w3 [41] (by simp))
 ·rw [hx];simp -implicitDefEqProofs [af,lm,hN,e1,e2,e3,e4]
 rw [h4];simp only [OR.bind_ok];have w4:=g4.1;obtain ⟨x1,x2,x3,rfl⟩:=zK _ _ _ _ _ h3;simp only [List.map_cons] at e3;simp -implicitDefEqProofs [af,lm,hN,e1,e2,e3,e4,dU,splice,afD]
theorem ajv {f:Rd→OR C} {n:Nat} (hF:Qp src S m n aV aJ f) (r:Rd) (hs:Sn src r) (hr:rem src r≤n+1) (ha:Wr src r) (cx:Ctx) (hl:cx.lim≤m):
  aj P0 (.fn (.func jR) [] []) [.pt (m+1) 0] (S r) cx=uy aJ S (OJ src f r):=by
 refine JZ (jU _ _ _) ?_;have hN:=hE.n;have hp:=hs.pass ha;unfold OJ;have e1:=lJ hE r ⟨cx.lim,N⟩ hl;have w1:=dV ha;obtain ⟨a,c,q,hx,e2⟩|⟨v2,r2,h2,e2,g2⟩:=spl (iI hE [40] (bQ r) w1 ⟨cx.lim,N⟩ hl) (aF w1 [40] (by simp))
 ·rw [hx];simp -implicitDefEqProofs [af,jm,hN,e1,e2]
 rw [h2];simp only [OR.bind_ok];have w2:=g2.1;have hq:=g2.2.1;obtain ⟨a,c,q,hx,e3⟩|⟨s,r3,h3,e3,g3⟩:=spl (qY hE r2 w2 ⟨cx.lim,N⟩ hl) (bn w2)
 ·rw [hx];simp -implicitDefEqProofs [af,jm,hN,e1,e2,e3]
 rw [h3];simp only [OR.bind_ok];have w3:=g3.1;have p:=g3.2.1;obtain ⟨a,c,q,hx,e4⟩|⟨c,r4,h4,e4,g4⟩:=spl (hF.1 r3 ⟨cx.lim,N⟩ w3 (by omega) hl) (hF.2 r3 w3 (by omega))
 ·rw [hx];simp -implicitDefEqProofs [af,jm,hN,e1,e2,e3,e4]
 rw [h4];simp only [OR.bind_ok];have w4:=g4.1;obtain ⟨a,c,q,hx,e5⟩|⟨v5,r5,h5,e5,g5⟩:=spl (iI hE [41] r4 w4 ⟨cx.lim,N⟩ hl) (aF w4 [41] (by simp))
 ·rw [hx];simp -implicitDefEqProofs [af,jm,hN,e1,e2,e3,e4,e5]
 rw [h5];simp only [OR.bind_ok];have w5:=g5.1;simp -implicitDefEqProofs [af,jm,hN,e1,e2,e3,e4,e5,dU,splice,afE]
theorem Ej (F:Nat) (x:OR C) (r q:Rd) (t:Tk) (cx:Ctx) (hl:cx.lim≤m) (e1:aj P0 (.fn (.func aP) [] []) [.pt (m+1) 0] (S r) ⟨cx.lim,N⟩=.ret (fF t) (S q))
  (hf:Em t.2.1=some F) (h:aj P0 (.fn (.func F) [] []) [.pt (m+1) 0] (S q) ⟨cx.lim,N⟩=uy aJ S x):
  af P0.glob (aj P0) dP ([]++[.pt (m+1) 0]++[]) (S r) cx=uy aJ S x:=by
 have hN:=hE.n;have hc:=hE.cell r;have A:=hE.cell q;have hm:=hE.cm q;have p:=VN m t.2.1;rw [hf] at p;unfold rO at hc A;simp only [fF] at e1;simp only [Option.map_some,rdF] at p
 cases x with
 | er a c q2=>
  simp only [dA] at h;simp -implicitDefEqProofs [af,dP,hN,hc,A,hm,p,e1,yj,NR,jX,h]
 | ok v q2=>
  simp only [dD] at h;simp -implicitDefEqProofs [af,dP,hN,hc,A,hm,p,e1,yj,NR,jX,h]
theorem Y7 (r q:Rd) (t:Tk) (cx:Ctx) (hl:cx.lim≤m) (e1:aj P0 (.fn (.func aP) [] []) [.pt (m+1) 0] (S r) ⟨cx.lim,N⟩=.ret (fF t) (S q))
  (hf:Em t.2.1=none) (h1:aj P0 (.fn (.func aQ) [] []) [.pt (m+1) 0] (S q) ⟨cx.lim,N⟩=uy AV.s S (nG src q)):
  af P0.glob (aj P0) dP ([]++[.pt (m+1) 0]++[]) (S r) cx=uy aJ S ((nG src q).bind fun s r=>.ok (C.mk 3 s 0 0 true []) r):=by
 have hN:=hE.n;have hc:=hE.cell r;have x:=hE.cell q;have hm:=hE.cm q;have p:=VN m t.2.1;rw [hf] at p;unfold rO at hc x;simp only [fF] at e1;simp only [Option.map_none] at p
 cases e:nG src q with
 | er a c q2=>
  rw [e] at h1;simp only [dA] at h1;simp -implicitDefEqProofs [af,dP,hN,hc,x,hm,p,e1,yj,NR,h1]
 | ok v q2=>
  rw [e] at h1;simp only [dD] at h1;simp -implicitDefEqProofs [af,dP,hN,hc,x,hm,p,e1,yj,NR,h1,dU,splice,y9]
theorem Uc:∀(n:Nat),n≤200000→∀(r:Rd) (cx:Ctx),Wr src r→rem src r<n→cx.lim≤m→aj P0 (.fn (.func aV) [] []) [.pt (m+1) 0] (S r) cx=uy aJ S (xC src n r)
 | 0,_,r,cx,_,hn,_=>absurd hn (by omega)
 | n+1,hn2,r,cx,ha,hn,hl=>by
  refine FX (jU _ _ _) ?_;have e1:=oZ hE r ha.at_ ⟨cx.lim,N⟩ hl;have g1:=dI ha;have hN:=hE.n;unfold xC
  cases hp:fM src r with
  | er a c q=>
   rw [hp] at e1;simp only [dA] at e1;have hc:=hE.cell r;unfold rO at hc;have hm:=hE.cm r;simp -implicitDefEqProofs [af,dP,hN,hc,e1,NR];rw [Jv 5 [0,1,2,3,4]];rotate_left
   ·rfl
   ·rfl
   ·rfl
   simp -implicitDefEqProofs [hc,e1,NR,hN]
  | ok t q=>
   rw [hp] at e1;simp only [dD] at e1;have h1:=g1.ok hp;simp only [OR.bind_ok];have A:∀w:Rl,1≤w.length→t.2.1=w→Sn src q:=fun w hw ht=>KR hp (by rw [ht];exact hw)
   cases n with
   | zero=>
    have hq:rem src q=0:=by omega
    have x:∀w:Rl,1≤w.length→¬t.2.1=w:=fun w hw ht=>by
     have:=(A w hw ht).pass h1.1;omega
    have hf:Em t.2.1=none:=by
     unfold Em;simp only [x _ (show 1≤(wB4:Rl).length by simp),x _ (show 1≤(wB1:Rl).length by simp),x _ (show 1≤(wA6:Rl).length by simp),x _ (show 1≤(wA7:Rl).length by simp),x _ (show 1≤(wB8:Rl).length by simp),x _ (show 1≤(wA8:Rl).length by simp),if_false]
    simp only [x _ (show 1≤(wB4:Rl).length by simp),x _ (show 1≤(wB1:Rl).length by simp),x _ (show 1≤(wA6:Rl).length by simp),x _ (show 1≤(wA7:Rl).length by simp),x _ (show 1≤(wB8:Rl).length by simp),x _ (show 1≤(wA8:Rl).length by simp),if_false];exact Y7 hE r q t cx hl e1 hf (qY hE q h1.1 _ hl)
   | succ n=>
    have hF:Qp src S m n aV aJ (xC src (n+1)):=
     ⟨fun p cx2 I K J=>Uc (n+1) (by omega) p cx2 I (by omega) J,fun p I K=>mQ (n+1) p I (by omega)⟩
    by_cases n1:t.2.1=wB4
    ·have ht:=n1;have hf:Em t.2.1=some kQ:=by unfold Em;simp only [if_pos n1]
     simp only [if_pos n1];exact Ej hE _ _ r q t cx hl e1 hf (ame hE q h1.1 _ hl)
    by_cases n2:t.2.1=wB1
    ·have ht:=n2;have hf:Em t.2.1=some iY:=by unfold Em;simp only [if_neg n1,if_pos n2]
     simp only [if_neg n1,if_pos n2];exact Ej hE _ _ r q t cx hl e1 hf (af6 hE q h1.1 _ hl)
    by_cases n3:t.2.1=wA6
    ·have ht:=n3;have hf:Em t.2.1=some kR:=by unfold Em;simp only [if_neg n1,if_neg n2,if_pos n3]
     simp only [if_neg n1,if_neg n2,if_pos n3];exact Ej hE _ _ r q t cx hl e1 hf (amh hE hF (by omega) q (A _ (by simp) ht) (by omega) h1.1 _ hl)
    by_cases n4:t.2.1=wA7
    ·have ht:=n4;have hf:Em t.2.1=some jR:=by unfold Em;simp only [if_neg n1,if_neg n2,if_neg n3,if_pos n4]
     simp only [if_neg n1,if_neg n2,if_neg n3,if_pos n4];exact Ej hE _ _ r q t cx hl e1 hf (ajv hE hF q (A _ (by simp) ht) (by omega) h1.1 _ hl)
    by_cases n5:t.2.1=wB8
    ·have ht:=n5;have hf:Em t.2.1=some iE:=by unfold Em;simp only [if_neg n1,if_neg n2,if_neg n3,if_neg n4,if_pos n5]
     simp only [if_neg n1,if_neg n2,if_neg n3,if_neg n4,if_pos n5];exact Ej hE _ _ r q t cx hl e1 hf (adH hE q h1.1 _ hl)
    by_cases n6:t.2.1=wA8
    ·have ht:=n6;have hf:Em t.2.1=some jS:=by unfold Em;simp only [if_neg n1,if_neg n2,if_neg n3,if_neg n4,if_neg n5,if_pos n6]
     simp only [if_neg n1,if_neg n2,if_neg n3,if_neg n4,if_neg n5,if_pos n6];exact Ej hE _ _ r q t cx hl e1 hf (ajA hE q h1.1 _ hl)
    have hf:Em t.2.1=none:=by unfold Em;simp only [if_neg n1,if_neg n2,if_neg n3,if_neg n4,if_neg n5,if_neg n6]
    simp only [if_neg n1,if_neg n2,if_neg n3,if_neg n4,if_neg n5,if_neg n6];exact Y7 hE r q t cx hl e1 hf (qY hE q h1.1 _ hl)
end
end Go.Ai.Z
namespace Go.Ai.Z
def yC (l:List Ax):AV:=slf true (l.map cu)
theorem zf (x:Ax):yC [x]=.sl [cu x]:=rfl
theorem AY:yC []=.ns:=rfl
theorem Tt (k:Int) (c d:C):AV.ag [.i .i64 k,.b false,.i .i64 c.kind,.s c.name,.i .i64 c.lo,.i .i64 c.hi,slf c.z (c.parts.map aJ),.i .i64 d.kind,.s d.name,.i .i64 d.lo,.i .i64 d.hi,slf d.z (d.parts.map aJ),.ns,.s [],.s [],.s []]=cu (axC k c d):=rfl
theorem YS (k:Int) (d:C) (p a:Rl):AV.ag [.i .i64 k,.b false,.i .i64 0,.s [],.i .i64 0,.i .i64 0,.ns,.i .i64 d.kind,.s d.name,.i .i64 d.lo,.i .i64 d.hi,slf d.z (d.parts.map aJ),.ns,.s p,.s a,.s []]=cu ⟨k,false,zC,d,true,[],p,a,[]⟩:=rfl
theorem YR (k:Int) (p a b:Rl):AV.ag [.i .i64 k,.b false,.i .i64 0,.s [],.i .i64 0,.i .i64 0,.ns,.i .i64 0,.s [],.i .i64 0,.i .i64 0,.ns,.ns,.s p,.s a,.s b]=cu ⟨k,false,zC,zC,true,[],p,a,b⟩:=rfl
theorem afH (k:Int) (p x:Rl):AV.ag [.i .i64 k,.b false,.i .i64 0,.s [],.i .i64 0,.i .i64 0,.ns,.i .i64 0,.s [],.i .i64 0,.i .i64 0,.ns,.sl [.s x],.s p,.s [],.s []]=cu ⟨k,false,zC,zC,false,[x],p,[],[]⟩:=rfl
theorem afG (k:Int) (p x y:Rl) (l:List Rl):AV.ag [.i .i64 k,.b false,.i .i64 0,.s [],.i .i64 0,.i .i64 0,.ns,.i .i64 0,.s [],.i .i64 0,.i .i64 0,.ns,.sl (.s x::.s y::l.map .s),.s p,.s [],.s []]=cu ⟨k,false,zC,zC,false,x::y::l,p,[],[]⟩:=rfl
theorem uQ (src:Rl) (r:Rd):rem src (bQ r)≤rem src r:=by unfold rem bQ;simp only;omega
theorem I4 {src:Rl} {r:Rd} (h:Wr src r) (b:Bool):Wr src { r with op:=b }:=⟨h.at_,h.ah⟩
theorem ahn {α:Type} {src:Rl} {r:Rd} {k:Nat} {b:Bool} {x:OR α} (h:aG src { r with op:=b } k x):aG src r k x:=h
theorem jr {src:Rl}:∀(n:Nat) (r:Rd),Wr src r→rem src r<n→aG src r 0 (oH src n r)
 | 0,r,_,hn=>absurd hn (by omega)
 | n+1,r,hr,hn=>by
  unfold oH;refine aG.bind (k:=0) (j:=0) (fV hr _) (fun b q e h1 h2=>?_) (by omega)
  cases b with
  | false=>simp only [Bool.false_eq_true,if_false];exact .mk h1
  | true=>
   simp only [if_true];have hs:=aa9 e (by simp);have h0:=hs.pass h1;refine (qW (k:=0) hs h1 ?_).wk (by omega);refine aG.bind (k:=1) (j:=0) (aF h0.1 _ (by simp)) (fun _ q e h1 h2=>?_) (by omega);refine aG.bind (k:=1) (j:=0) (bn h1) (fun s q2 e2 h3 h4=>?_) (by omega);refine aG.bind (k:=0) (j:=0) (dI h3) (fun t q3 e3 h5 h6=>?_) (by omega);refine aG.bind (k:=0) (j:=0) (dM h5 _) (fun _ q4 e4 h7 h8=>?_) (by omega);obtain ⟨hb,hq⟩:=lu e4;subst hq;have hk:t.1=3:=of_decide_eq_true hb;have p:=KR e3 ((nP h3 e3).2.one (by omega));have h9:=p.pass h7;refine (qW (k:=0) p h7 ?_).wk (by omega);refine aG.bind (k:=1) (j:=0) (aF h9.1 _ (by simp)) (fun _ q5 e5 x A=>?_) (by omega);exact ahn (jr n _ (I4 x _) (by show rem src q5<n;omega))
section
variable {src:Rl} {S:Rd→St} {m N:Nat} (hE:yO src S m N)
include hE
theorem aeB (r:Rd) (b:Bool):(S r).set (m+1) (.cells [.sl (aC src),.i .i64 r.at_,ahV r.ah,.mp m,.s r.iri,.b b,r.ax,.mp (m+2),.mp (m+3)])=S { r with op:=b }:=hE.sets r { r with op:=b } rfl
theorem vN (r:Rd):(S r)[m+1]?=some (.cells [.sl (aC src),.i .i64 r.at_,ahV r.ah,.mp m,.s r.iri,.b r.op,r.ax,.mp (m+2),.mp (m+3)]):=hE.cell r
def notE (m:Nat) (S:Rd→St) (x:OR Unit):Out:=
 match x with
 | .ok _ r=>.exit 0 [(0,.v (.pt (m+1) 0)),(5,.v (.b false))] (S r)
 | .er a c r=>.pan (flt a c) (S r)
omit hE in
@[simp] theorem abr (m:Nat) (S:Rd→St) (v:Unit) (r:Rd):notE m S (.ok v r)=.exit 0 [(0,.v (.pt (m+1) 0)),(5,.v (.b false))] (S r):=rfl
omit hE in
@[simp] theorem EM (m:Nat) (S:Rd→St) (a:Nat) (c:Int) (r:Rd):notE m S (.er a c r)=.pan (flt a c) (S r):=rfl
theorem abE (cx:Ctx) (hl:cx.lim≤m):∀(n:Nat) (r:Rd),Wr src r→rem src r<n→
  gY (aB P0.glob (aj P0) cx false bg) [0] [(0,.v (.pt (m+1) 0))] (S r)=notE m S (oH src n r)
 | 0,r,_,hn=>absurd hn (by omega)
 | n+1,r,ha,hn=>by
  have hg:=jr (n+1) r ha hn;have x:cx.lim≤m+1:=by omega
  unfold oH;obtain ⟨a,c,q,hx,e1⟩|⟨b,r1,h1,e1,w1,Q,_⟩:=spl (KE hE wC1 r ha cx hl) (fV ha wC1)
  ·rw [hx];simp only [OR.bind_er,EM];refine ak fun K hK=>?_;simp -implicitDefEqProofs [bg,e1]
  rw [h1];simp only [OR.bind_ok]
  cases b with
  | false=>
   simp only [Bool.false_eq_true,if_false,abr];refine ak fun K hK=>?_;simp -implicitDefEqProofs [bg,e1]
  | true=>
   simp only [if_true];have e2:=lJ hE r1 cx hl;have w2:=dV w1;have kp:=((aa9 h1 (by simp)).pass w1).2;obtain ⟨a,c,q,hx,e3⟩|⟨v3,r3,h3,e3,w3,A,_⟩:=spl (iI hE [40] (bQ r1) w2 cx hl) (aF w2 [40] (by simp))
   ·rw [hx];simp only [OR.bind_er,EM];refine ak fun K hK=>?_;simp -implicitDefEqProofs [bg,e1,e2,e3]
   rw [h3];simp only [OR.bind_ok];obtain ⟨a,c,q,hx,e4⟩|⟨s,r4,h4,e4,w4,J,_⟩:=spl (qY hE r3 w3 cx hl) (bn w3)
   ·rw [hx];simp only [OR.bind_er,EM];refine ak fun K hK=>?_;simp -implicitDefEqProofs [bg,e1,e2,e3,e4]
   rw [h4];simp only [OR.bind_ok];obtain ⟨a,c,q,hx,e5⟩|⟨t,r5,h5,e5,w5,I,_⟩:=spl (oZ hE r4 w4.at_ cx hl) (dI w4)
   ·rw [hx];simp only [OR.bind_er,EM];refine ak fun K hK=>?_;simp -implicitDefEqProofs [bg,e1,e2,e3,e4,e5]
   rw [h5];simp only [OR.bind_ok];have p:=oZ hE r5 w5.at_ cx hl;rw [(jk h5).1] at p;simp only [dD] at p;simp only [fF] at e5 p;obtain ⟨a,c,q,hx,e6⟩|⟨v6,r6,h6,e6,w6,P,_⟩:=spl (qB hE (decide (t.1=3)) r5 w5 cx hl) (dM w5 (decide (t.1=3)))
   ·rw [hx];simp only [OR.bind_er,EM];refine ak fun K hK=>?_;simp -implicitDefEqProofs [bg,e1,e2,e3,e4,e5,p,e6]
   rw [h6];simp only [OR.bind_ok];have e7:=lJ hE r6 cx hl;have w7:=dV w6;have kq:=uQ src r6;obtain ⟨a,c,q,hx,e8⟩|⟨v8,r8,h8,e8,w8,O,_⟩:=spl (iI hE [41] (bQ r6) w7 cx hl) (aF w7 [41] (by simp))
   ·rw [hx];simp only [OR.bind_er,EM];refine ak fun K hK=>?_;simp -implicitDefEqProofs [bg,e1,e2,e3,e4,e5,p,e6,e7,e8]
   rw [h8];simp only [OR.bind_ok];have ih:=abE cx hl n { r8 with op:=r8.op || (decide (s=[111,112,101,110]) && decide (t.2.1=wD0)) } (I4 w8 _) (by show rem src r8<n;omega);have hc:=vN hE r8;have hs:=aeB hE r8;refine ak fun K hK=>?_;rw [←hK] at ih;clear hK;rw [←ih];cases qo:r8.op
   ·rw [qo] at hc;by_cases q1:s=[111,112,101,110]
    ·by_cases q2:t.2.1=wD0
     ·simp -implicitDefEqProofs [bg,e1,e2,e3,e4,e5,p,e6,e7,e8,hc,hs,x,q1,q2]
     ·simp -implicitDefEqProofs [bg,e1,e2,e3,e4,e5,p,e6,e7,e8,hc,hs,x,q1,q2]
    ·simp -implicitDefEqProofs [bg,e1,e2,e3,e4,e5,p,e6,e7,e8,hc,hs,x,q1]
   ·rw [qo] at hc;simp -implicitDefEqProofs [bg,e1,e2,e3,e4,e5,p,e6,e7,e8,hc,hs,x]
theorem CX (n:Nat) (r:Rd) (ha:Wr src r) (hn:rem src r<n) (cx:Ctx) (hl:cx.lim≤m):
  aj P0 (.fn (.func dS) [] []) [.pt (m+1) 0] (S r) cx=uy (fun _=>.tu []) S (oH src n r):=by
 refine IG (jU _ _ _) ?_;have hN:=hE.n;have h:=abE hE ⟨cx.lim,N⟩ hl n r ha hn
 cases e:oH src n r with
 | er a c q=>
  rw [e] at h;simp only [EM] at h;simp -implicitDefEqProofs [af,nK,hN,h]
 | ok v q=>
  rw [e] at h;simp only [abr] at h;simp -implicitDefEqProofs [af,nK,hN,h]
theorem amf (n:Nat) (p:n≤200000) (r:Rd) (ha:Wr src r) (hn:rem src r<n) (cx:Ctx) (hl:cx.lim≤m):
  aj P0 (.fn (.func lY) [] []) [.pt (m+1) 0] (S r) cx=uy yC S (ZJ src n r):=by
 refine Me (jU _ _ _) ?_;have hN:=hE.n;unfold ZJ;obtain ⟨a,c,q,hx,e1⟩|⟨v1,r1,h1,e1,g1⟩:=spl (CX hE n r ha (by omega) ⟨cx.lim,N⟩ hl) (jr n r ha (by omega))
 ·rw [hx];simp -implicitDefEqProofs [af,lg,hN,e1]
 rw [h1];simp only [OR.bind_ok];have w1:=g1.1;have k1:=g1.2.1;obtain ⟨a,c,q,hx,e2⟩|⟨a,r2,h2,e2,g2⟩:=spl (Uc hE n p r1 ⟨cx.lim,N⟩ w1 (by omega) hl) (mQ n r1 w1 (by omega))
 ·rw [hx];simp -implicitDefEqProofs [af,lg,hN,e1,e2]
 rw [h2];simp only [OR.bind_ok];have w2:=g2.1;have k2:=g2.2.1;obtain ⟨a,c,q,hx,e3⟩|⟨b,r3,h3,e3,g3⟩:=spl (Uc hE n p r2 ⟨cx.lim,N⟩ w2 (by omega) hl) (mQ n r2 w2 (by omega))
 ·rw [hx];simp -implicitDefEqProofs [af,lg,hN,e1,e2,e3];rw [Jv 2 [0,1]];rotate_left
  ·rfl
  ·rfl
  ·rfl
  simp -implicitDefEqProofs [hN,e1,e2,e3]
 rw [h3];simp only [OR.bind_ok];have w3:=g3.1;simp -implicitDefEqProofs [af,lg,hN,e1,e2,e3,dU,splice,zf,Tt,yj]
theorem af5 (n:Nat) (p:n≤200000) (r:Rd) (ha:Wr src r) (hn:rem src r<n) (cx:Ctx) (hl:cx.lim≤m):
  aj P0 (.fn (.func jL) [] []) [.pt (m+1) 0] (S r) cx=uy yC S (aaE src n r):=by
 refine G5 (jU _ _ _) ?_;have hN:=hE.n;unfold aaE;obtain ⟨a,c,q,hx,e1⟩|⟨v1,r1,h1,e1,g1⟩:=spl (CX hE n r ha (by omega) ⟨cx.lim,N⟩ hl) (jr n r ha (by omega))
 ·rw [hx];simp -implicitDefEqProofs [af,jq,hN,e1]
 rw [h1];simp only [OR.bind_ok];have w1:=g1.1;have k1:=g1.2.1;obtain ⟨a,c,q,hx,e2⟩|⟨s,r2,h2,e2,g2⟩:=spl (qY hE r1 w1 ⟨cx.lim,N⟩ hl) (bn w1)
 ·rw [hx];simp -implicitDefEqProofs [af,jq,hN,e1,e2]
 rw [h2];simp only [OR.bind_ok];have w2:=g2.1;have k2:=g2.2.1;obtain ⟨a,c,q,hx,e3⟩|⟨c,r3,h3,e3,g3⟩:=spl (Uc hE n p r2 ⟨cx.lim,N⟩ w2 (by omega) hl) (mQ n r2 w2 (by omega))
 ·rw [hx];simp -implicitDefEqProofs [af,jq,hN,e1,e2,e3]
 rw [h3];simp only [OR.bind_ok];have w3:=g3.1;simp -implicitDefEqProofs [af,jq,hN,e1,e2,e3,dU,splice,zf,YS]
theorem Zj (n:Nat) (p:n≤200000) (r:Rd) (ha:Wr src r) (hn:rem src r<n) (cx:Ctx) (hl:cx.lim≤m):
  aj P0 (.fn (.func iJ) [] []) [.pt (m+1) 0] (S r) cx=uy yC S (ZW src n r):=by
 refine Ed (jU _ _ _) ?_;have hN:=hE.n;unfold ZW;obtain ⟨a,c,q,hx,e1⟩|⟨v1,r1,h1,e1,g1⟩:=spl (CX hE n r ha (by omega) ⟨cx.lim,N⟩ hl) (jr n r ha (by omega))
 ·rw [hx];simp -implicitDefEqProofs [af,jh,hN,e1]
 rw [h1];simp only [OR.bind_ok];have w1:=g1.1;obtain ⟨a,c,q,hx,e2⟩|⟨s,r2,h2,e2,g2⟩:=spl (qY hE r1 w1 ⟨cx.lim,N⟩ hl) (bn w1)
 ·rw [hx];simp -implicitDefEqProofs [af,jh,hN,e1,e2]
 rw [h2];simp only [OR.bind_ok];have w2:=g2.1;simp -implicitDefEqProofs [af,jh,hN,e1,e2,dU,splice,zf,YR]
theorem afZ (n:Nat) (p:n≤200000) (r:Rd) (ha:Wr src r) (hn:rem src r<n) (cx:Ctx) (hl:cx.lim≤m):
  aj P0 (.fn (.func jK) [] []) [.pt (m+1) 0] (S r) cx=uy yC S (ZH src n r):=by
 refine GX (jU _ _ _) ?_;have hN:=hE.n;unfold ZH;obtain ⟨a,c,q,hx,e1⟩|⟨v1,r1,h1,e1,g1⟩:=spl (CX hE n r ha (by omega) ⟨cx.lim,N⟩ hl) (jr n r ha (by omega))
 ·rw [hx];simp -implicitDefEqProofs [af,jl,hN,e1]
 rw [h1];simp only [OR.bind_ok];have w1:=g1.1;have k1:=g1.2.1;obtain ⟨a,c,q,hx,e2⟩|⟨c,r2,h2,e2,g2⟩:=spl (Uc hE n p r1 ⟨cx.lim,N⟩ w1 (by omega) hl) (mQ n r1 w1 (by omega))
 ·rw [hx];simp -implicitDefEqProofs [af,jl,hN,e1,e2]
 rw [h2];simp only [OR.bind_ok];have w2:=g2.1;obtain ⟨a,c,q,hx,e3⟩|⟨a,r3,h3,e3,g3⟩:=spl (qY hE r2 w2 ⟨cx.lim,N⟩ hl) (bn w2)
 ·rw [hx];simp -implicitDefEqProofs [af,jl,hN,e1,e2,e3];rw [Jv 1 [0,2]];rotate_left
  ·rfl
  ·rfl
  ·rfl
  simp -implicitDefEqProofs [hN,e1,e2,e3]
 rw [h3];simp only [OR.bind_ok];have w3:=g3.1;simp -implicitDefEqProofs [af,jl,hN,e1,e2,e3,dU,splice,zf,YS,yj]
theorem ajy (n:Nat) (p:n≤200000) (r:Rd) (ha:Wr src r) (hn:rem src r<n) (cx:Ctx) (hl:cx.lim≤m):
  aj P0 (.fn (.func lD) [] []) [.pt (m+1) 0] (S r) cx=uy yC S (aaj src n r):=by
 refine J8 (jU _ _ _) ?_;have hN:=hE.n;unfold aaj;obtain ⟨a,c,q,hx,e1⟩|⟨v1,r1,h1,e1,g1⟩:=spl (CX hE n r ha (by omega) ⟨cx.lim,N⟩ hl) (jr n r ha (by omega))
 ·rw [hx];simp -implicitDefEqProofs [af,jo,hN,e1]
 rw [h1];simp only [OR.bind_ok];have w1:=g1.1;obtain ⟨a,c,q,hx,e2⟩|⟨s,r2,h2,e2,g2⟩:=spl (qY hE r1 w1 ⟨cx.lim,N⟩ hl) (bn w1)
 ·rw [hx];simp -implicitDefEqProofs [af,jo,hN,e1,e2]
 rw [h2];simp only [OR.bind_ok];have w2:=g2.1;obtain ⟨a,c,q,hx,e3⟩|⟨a,r3,h3,e3,g3⟩:=spl (qY hE r2 w2 ⟨cx.lim,N⟩ hl) (bn w2)
 ·rw [hx];simp -implicitDefEqProofs [af,jo,hN,e1,e2,e3]
 rw [h3];simp only [OR.bind_ok];have w3:=g3.1;obtain ⟨a,c,q,hx,e4⟩|⟨b,r4,h4,e4,g4⟩:=spl (qY hE r3 w3 ⟨cx.lim,N⟩ hl) (bn w3)
 ·rw [hx];simp -implicitDefEqProofs [af,jo,hN,e1,e2,e3,e4]
 rw [h4];simp only [OR.bind_ok];have w4:=g4.1;simp -implicitDefEqProofs [af,jo,hN,e1,e2,e3,e4,dU,splice,zf,YR]
theorem Qp.name (n:Nat):Qp src S m n aQ AV.s (nG src):=⟨fun q cx hq _ hl=>qY hE q hq cx hl,fun q hq _=>bn hq⟩
theorem ajx (n:Nat) (A:n≤200000) (r:Rd) (ha:Wr src r) (hn:rem src r<n) (cx:Ctx) (hl:cx.lim≤m):
  aj P0 (.fn (.func lC) [] []) [.pt (m+1) 0] (S r) cx=uy yC S (X7 src n r):=by
 refine J4 (jU _ _ _) ?_;have hN:=hE.n;unfold X7;obtain ⟨a,c,q,hx,e1⟩|⟨v1,r1,h1,e1,g1⟩:=spl (CX hE n r ha (by omega) ⟨cx.lim,N⟩ hl) (jr n r ha (by omega))
 ·rw [hx];simp -implicitDefEqProofs [af,dF,hN,e1]
 rw [h1];simp only [OR.bind_ok];have w1:=g1.1;have k1:=g1.2.1;obtain ⟨a,c,q,hx,e2⟩|⟨b,r2,h2,e2,g2⟩:=spl (KE hE wA2 r1 w1 ⟨cx.lim,N⟩ hl) (fV w1 wA2)
 ·rw [hx];simp -implicitDefEqProofs [af,dF,hN,e1,e2]
 rw [h2];simp only [OR.bind_ok];have w2:=g2.1;have k2:=g2.2.1
 cases b with
 | false=>
  simp only [Bool.false_eq_true,if_false,OR.bind_ok,if_neg];obtain ⟨a,c,q,hx,e3⟩|⟨a,r3,h3,e3,g3⟩:=spl (qY hE r2 w2 ⟨cx.lim,N⟩ hl) (bn w2)
  ·rw [hx];simp -implicitDefEqProofs [af,dF,hN,e1,e2,e3]
  rw [h3];simp only [OR.bind_ok];have w3:=g3.1;obtain ⟨a,c,q,hx,e4⟩|⟨s,r4,h4,e4,g4⟩:=spl (qY hE r3 w3 ⟨cx.lim,N⟩ hl) (bn w3)
  ·rw [hx];simp -implicitDefEqProofs [af,dF,hN,e1,e2,e3,e4]
  rw [h4];simp only [OR.bind_ok];have w4:=g4.1;simp -implicitDefEqProofs [af,dF,hN,e1,e2,e3,e4,dU,splice,zf,afH]
 | true=>
  simp only [if_true,OR.bind_ok];have hp:=uQ src r2;have e5:=lJ hE r2 ⟨cx.lim,N⟩ hl;have w5:=dV w2;obtain ⟨a,c,q,hx,e6⟩|⟨v6,r6,h6,e6,g6⟩:=spl (iI hE [40] (bQ r2) w5 ⟨cx.lim,N⟩ hl) (aF w5 [40] (by simp))
  ·rw [hx];simp -implicitDefEqProofs [af,dF,hN,e1,e2,e5,e6]
  rw [h6];simp only [OR.bind_ok];have w6:=g6.1;have k3:=g6.2.1;obtain ⟨a,c,q,hx,e7⟩|⟨l,r7,h7,e7,g7⟩:=spl (ahK hE (Qp.name hE n) n r6 w6 (by omega) (by omega) (by omega) ⟨cx.lim,N⟩ hl) (xO (least:=2) n [] r6 w6 (by omega) (fun q p x=>bn p))
  ·rw [hx];simp -implicitDefEqProofs [af,dF,hN,e1,e2,e5,e6,e7]
  rw [h7];simp only [OR.bind_ok];have w7:=g7.1;obtain ⟨a,c,q,hx,e8⟩|⟨v8,r8,h8,e8,g8⟩:=spl (iI hE [41] r7 w7 ⟨cx.lim,N⟩ hl) (aF w7 [41] (by simp))
  ·rw [hx];simp -implicitDefEqProofs [af,dF,hN,e1,e2,e5,e6,e7,e8]
  rw [h8];simp only [OR.bind_ok];have w8:=g8.1;obtain ⟨x1,x2,x3,rfl⟩:=zK _ _ _ _ _ h7;simp only [List.map_cons] at e7;obtain ⟨a,c,q,hx,e9⟩|⟨s,r9,h9,e9,g9⟩:=spl (qY hE r8 w8 ⟨cx.lim,N⟩ hl) (bn w8)
  ·rw [hx];simp -implicitDefEqProofs [af,dF,hN,e1,e2,e5,e6,e7,e8,e9]
  rw [h9];simp only [OR.bind_ok];have w9:=g9.1;simp -implicitDefEqProofs [af,dF,hN,e1,e2,e5,e6,e7,e8,e9,dU,splice,zf,afG]
theorem UY (r:Rd) (ha:Wr src r) (cx:Ctx) (hl:cx.lim≤m):
  aj P0 (.fn (.func gV) [] []) [.pt (m+1) 0] (S r) cx=uy yC S (TI src r):=by
 refine BO (jU _ _ _) ?_;have hN:=hE.n;unfold TI;have e0:=KE hE [67,108,97,115,115] r ha ⟨cx.lim,N⟩ hl
 cases hp:fM src r with
 | er a c q=>
  unfold isR at e0;rw [hp] at e0;simp only [dA,OR.bind_er] at e0;simp -implicitDefEqProofs [af,aA,hN,e0]
 | ok t r1=>
  have w1:=(nP ha hp).1;have p:∀w:Rl,isR src w r1=.ok (decide (t.2.1=w)) r1:=fun w=>by unfold isR;rw [(jk hp).1];rfl
  have ea:=KE hE wC7 r1 w1 ⟨cx.lim,N⟩ hl;rw [p] at ea;have eb:=KE hE wD1 r1 w1 ⟨cx.lim,N⟩ hl;rw [p] at eb;have ec:=KE hE wC4 r1 w1 ⟨cx.lim,N⟩ hl;rw [p] at ec;unfold isR at e0;rw [hp] at e0;simp only [dD,OR.bind_ok] at e0 ea eb ec ⊢;by_cases k0:t.2.1=[67,108,97,115,115]
  ·have hd:Ei t.2.1=true:=by unfold Ei;simp [k0]
   rw [hd];simp [k0] at e0 ea eb ec;obtain ⟨a,c,q,hx,e1⟩|⟨v1,r1,h1,e1,g1⟩:=spl (qB hE true r1 w1 ⟨cx.lim,N⟩ hl) (dM w1 true)
   ·rw [hx];simp -implicitDefEqProofs [af,aA,hN,e0,ea,eb,ec,e1]
   rw [h1];simp only [OR.bind_ok];have w1:=g1.1;have e2:=lJ hE r1 ⟨cx.lim,N⟩ hl;have w2:=dV w1;obtain ⟨a,c,q,hx,e3⟩|⟨v3,r3,h3,e3,g3⟩:=spl (iI hE [40] (bQ r1) w2 ⟨cx.lim,N⟩ hl) (aF w2 [40] (by simp))
   ·rw [hx];simp -implicitDefEqProofs [af,aA,hN,e0,ea,eb,ec,e1,e2,e3]
   rw [h3];simp only [OR.bind_ok];have w3:=g3.1;obtain ⟨a,c,q,hx,e4⟩|⟨s,r4,h4,e4,g4⟩:=spl (qY hE r3 w3 ⟨cx.lim,N⟩ hl) (bn w3)
   ·rw [hx];simp -implicitDefEqProofs [af,aA,hN,e0,ea,eb,ec,e1,e2,e3,e4]
   rw [h4];simp only [OR.bind_ok];have w4:=g4.1;obtain ⟨a,c,q,hx,e5⟩|⟨v5,r5,h5,e5,g5⟩:=spl (iI hE [41] r4 w4 ⟨cx.lim,N⟩ hl) (aF w4 [41] (by simp))
   ·rw [hx];simp -implicitDefEqProofs [af,aA,hN,e0,ea,eb,ec,e1,e2,e3,e4,e5]
   rw [h5];simp only [OR.bind_ok];have w5:=g5.1;simp -implicitDefEqProofs [af,aA,hN,e0,ea,eb,ec,e1,e2,e3,e4,e5,AY]
  by_cases k1:t.2.1=wC7
  ·have hd:Ei t.2.1=true:=by unfold Ei;simp [k1]
   rw [hd];simp [k1] at e0 ea eb ec;obtain ⟨a,c,q,hx,e1⟩|⟨v1,r1,h1,e1,g1⟩:=spl (qB hE true r1 w1 ⟨cx.lim,N⟩ hl) (dM w1 true)
   ·rw [hx];simp -implicitDefEqProofs [af,aA,hN,e0,ea,eb,ec,e1]
   rw [h1];simp only [OR.bind_ok];have w1:=g1.1;have e2:=lJ hE r1 ⟨cx.lim,N⟩ hl;have w2:=dV w1;obtain ⟨a,c,q,hx,e3⟩|⟨v3,r3,h3,e3,g3⟩:=spl (iI hE [40] (bQ r1) w2 ⟨cx.lim,N⟩ hl) (aF w2 [40] (by simp))
   ·rw [hx];simp -implicitDefEqProofs [af,aA,hN,e0,ea,eb,ec,e1,e2,e3]
   rw [h3];simp only [OR.bind_ok];have w3:=g3.1;obtain ⟨a,c,q,hx,e4⟩|⟨s,r4,h4,e4,g4⟩:=spl (qY hE r3 w3 ⟨cx.lim,N⟩ hl) (bn w3)
   ·rw [hx];simp -implicitDefEqProofs [af,aA,hN,e0,ea,eb,ec,e1,e2,e3,e4]
   rw [h4];simp only [OR.bind_ok];have w4:=g4.1;obtain ⟨a,c,q,hx,e5⟩|⟨v5,r5,h5,e5,g5⟩:=spl (iI hE [41] r4 w4 ⟨cx.lim,N⟩ hl) (aF w4 [41] (by simp))
   ·rw [hx];simp -implicitDefEqProofs [af,aA,hN,e0,ea,eb,ec,e1,e2,e3,e4,e5]
   rw [h5];simp only [OR.bind_ok];have w5:=g5.1;simp -implicitDefEqProofs [af,aA,hN,e0,ea,eb,ec,e1,e2,e3,e4,e5,AY]
  by_cases k2:t.2.1=wD1
  ·have hd:Ei t.2.1=true:=by unfold Ei;simp [k2]
   rw [hd];simp [k2] at e0 ea eb ec;obtain ⟨a,c,q,hx,e1⟩|⟨v1,r1,h1,e1,g1⟩:=spl (qB hE true r1 w1 ⟨cx.lim,N⟩ hl) (dM w1 true)
   ·rw [hx];simp -implicitDefEqProofs [af,aA,hN,e0,ea,eb,ec,e1]
   rw [h1];simp only [OR.bind_ok];have w1:=g1.1;have e2:=lJ hE r1 ⟨cx.lim,N⟩ hl;have w2:=dV w1;obtain ⟨a,c,q,hx,e3⟩|⟨v3,r3,h3,e3,g3⟩:=spl (iI hE [40] (bQ r1) w2 ⟨cx.lim,N⟩ hl) (aF w2 [40] (by simp))
   ·rw [hx];simp -implicitDefEqProofs [af,aA,hN,e0,ea,eb,ec,e1,e2,e3]
   rw [h3];simp only [OR.bind_ok];have w3:=g3.1;obtain ⟨a,c,q,hx,e4⟩|⟨s,r4,h4,e4,g4⟩:=spl (qY hE r3 w3 ⟨cx.lim,N⟩ hl) (bn w3)
   ·rw [hx];simp -implicitDefEqProofs [af,aA,hN,e0,ea,eb,ec,e1,e2,e3,e4]
   rw [h4];simp only [OR.bind_ok];have w4:=g4.1;obtain ⟨a,c,q,hx,e5⟩|⟨v5,r5,h5,e5,g5⟩:=spl (iI hE [41] r4 w4 ⟨cx.lim,N⟩ hl) (aF w4 [41] (by simp))
   ·rw [hx];simp -implicitDefEqProofs [af,aA,hN,e0,ea,eb,ec,e1,e2,e3,e4,e5]
   rw [h5];simp only [OR.bind_ok];have w5:=g5.1;simp -implicitDefEqProofs [af,aA,hN,e0,ea,eb,ec,e1,e2,e3,e4,e5,AY]
  by_cases k3:t.2.1=wC4
  ·have hd:Ei t.2.1=true:=by unfold Ei;simp [k3]
   rw [hd];simp [k3] at e0 ea eb ec;obtain ⟨a,c,q,hx,e1⟩|⟨v1,r1,h1,e1,g1⟩:=spl (qB hE true r1 w1 ⟨cx.lim,N⟩ hl) (dM w1 true)
   ·rw [hx];simp -implicitDefEqProofs [af,aA,hN,e0,ea,eb,ec,e1]
   rw [h1];simp only [OR.bind_ok];have w1:=g1.1;have e2:=lJ hE r1 ⟨cx.lim,N⟩ hl;have w2:=dV w1;obtain ⟨a,c,q,hx,e3⟩|⟨v3,r3,h3,e3,g3⟩:=spl (iI hE [40] (bQ r1) w2 ⟨cx.lim,N⟩ hl) (aF w2 [40] (by simp))
   ·rw [hx];simp -implicitDefEqProofs [af,aA,hN,e0,ea,eb,ec,e1,e2,e3]
   rw [h3];simp only [OR.bind_ok];have w3:=g3.1;obtain ⟨a,c,q,hx,e4⟩|⟨s,r4,h4,e4,g4⟩:=spl (qY hE r3 w3 ⟨cx.lim,N⟩ hl) (bn w3)
   ·rw [hx];simp -implicitDefEqProofs [af,aA,hN,e0,ea,eb,ec,e1,e2,e3,e4]
   rw [h4];simp only [OR.bind_ok];have w4:=g4.1;obtain ⟨a,c,q,hx,e5⟩|⟨v5,r5,h5,e5,g5⟩:=spl (iI hE [41] r4 w4 ⟨cx.lim,N⟩ hl) (aF w4 [41] (by simp))
   ·rw [hx];simp -implicitDefEqProofs [af,aA,hN,e0,ea,eb,ec,e1,e2,e3,e4,e5]
   rw [h5];simp only [OR.bind_ok];have w5:=g5.1;simp -implicitDefEqProofs [af,aA,hN,e0,ea,eb,ec,e1,e2,e3,e4,e5,AY]
  ·have hd:Ei t.2.1=false:=by unfold Ei;simp [k0,k1,k2,k3]
   rw [hd];simp [k0,k1,k2,k3] at e0 ea eb ec;have ef:=qB hE false r1 w1 ⟨cx.lim,N⟩ hl;obtain ⟨a2,c2,r2,hx⟩:=zB src r1;rw [hx] at ef ⊢;simp only [dA] at ef;simp -implicitDefEqProofs [af,aA,hN,e0,ea,eb,ec,ef]
end
end Go.Ai.Z
namespace Go.Ai.Z
theorem LV (l:List C) (S:l.length≤200000) (s:St) (cx:Ctx):∀(W:List C) (i:Nat) (a:C) (x:List Ax),l.drop i=a::W→x.length+W.length≤400000→
  gY (aB P0.glob (aj P0) cx false kS) [2,3,13,14,15] [(2,.own false bH 16 (x.map cu)),(3,.v (.sl (l.map aJ))),(13,.v (.sl (l.tail.map aJ))),(14,.v (.i .i64 l.tail.length)),(15,.v (.i .i64 i))] s=
   .exit 0 [(2,.own false bH 16 ((x++Kv (a::W)).map cu)),(3,.v (.sl (l.map aJ))),(13,.v (.sl (l.tail.map aJ))),(14,.v (.i .i64 l.tail.length)),(15,.v (.i .i64 l.tail.length)),(16,.v (.b false))] s
 | [],i,a,x,h,hx=>by
  have hl:l.length - i=1:=by rw [←List.length_drop,h];rfl
  have hi:i=l.tail.length:=by rw [List.length_tail];omega
  subst hi;refine ak fun K hK=>?_;simp -implicitDefEqProofs [kS,Kv]
 | b::r,i,a,x,h,hx=>by
  have hl:l.length - i=r.length+2:=by rw [←List.length_drop,h];simp
  obtain ⟨h1,h2,h3,h4⟩:=drop_cons h;have J:l.tail[i]?=some b:=by rw [List.getElem?_tail,←List.head?_drop,h2];rfl
  have R:l.tail.length=l.length - 1:=List.length_tail;have hi:(i:Int)<(l.tail.length:Int):=by omega
  have I:i<l.tail.length:=by omega
  have P:=wI (i:=i) (by omega);have Q:x.length+1≤aS:=by unfold aS;simp at hx;omega
  have ih:=LV l S s cx r (i+1) b (x++[axC 2 a b]) h2 (by simp at hx ⊢;omega);have he:x++Kv (a::b::r)=(x++[axC 2 a b])++Kv (b::r):=by simp [Kv]
  rw [he];refine ak fun K hK=>?_;rw [←hK,show ((i+1:Nat):Int)=(i:Int)+1 from rfl] at ih;clear hK h4 h R;rw [←ih];clear ih he;rw [List.map_append];generalize l.tail=t at *;have p:(l.map aJ)[i]?=some (aJ a):=by rw [List.getElem?_map,h1];rfl
  have O:(t.map aJ)[i]?=some (aJ b):=by rw [List.getElem?_map,J];rfl
  have A:(x.map cu).length=x.length:=List.length_map _;generalize hX:x.map cu=X at *;generalize l.map aJ=L at *;generalize hT:t.map aJ=T at *;simp -implicitDefEqProofs [kS,hi,I,p,O,P,Q,A,dU,splice,Tt]
theorem O4 (l:List C) (Q:l.length≤200000) (p:C) (k:Nat) (hp:l[k]?=some p) (t:List C) (R:t.length≤200000) (s:St) (cx:Ctx):∀(S:List C) (i:Nat) (x:List Ax),t.drop i=S→x.length+S.length≤400000→
  gY (aB P0.glob (aj P0) cx false lK) [2,3,4,14,15,24,25,26] [(2,.own false bH 16 (x.map cu)),(3,.v (.sl (l.map aJ))),(4,.v (.i .i64 k)),(14,.v (.i .i64 l.length)),(15,.v (.i .i64 k)),(24,.v (.sl (t.map aJ))),(25,.v (.i .i64 t.length)),(26,.v (.i .i64 i))] s=
   .exit 2 [(2,.own false bH 16 ((x++S.map (axC 3 p)).map cu)),(3,.v (.sl (l.map aJ))),(4,.v (.i .i64 k)),(14,.v (.i .i64 l.length)),(15,.v (.i .i64 k)),(24,.v (.sl (t.map aJ))),(25,.v (.i .i64 t.length)),(26,.v (.i .i64 (i+S.length:Nat))),(27,.v (.b false))] s
 | [],i,x,h,hx=>by
  have h1:¬(i:Int)<(t.length:Int):=by have:=drop_nil h;omega
  refine ak fun K hK=>?_;simp -implicitDefEqProofs [lK,h1]
 | b::r,i,x,h,hx=>by
  obtain ⟨h1,h2,h3,h4⟩:=drop_cons h;have hi:(i:Int)<(t.length:Int):=by omega
  have O:=wI (i:=i) (by omega);have P:x.length+1≤aS:=by unfold aS;simp at hx;omega
  have ih:=O4 l Q p k hp t R s cx r (i+1) (x++[axC 3 p b]) h2 (by simp at hx ⊢;omega);have he:x++(b::r).map (axC 3 p)=(x++[axC 3 p b])++r.map (axC 3 p):=by simp
  have hn:i+(b::r).length=i+1+r.length:=by simp;omega
  rw [he,hn];refine ak fun K hK=>?_;rw [←hK,show ((i+1:Nat):Int)=(i:Int)+1 from rfl] at ih;clear hK h4 h;rw [←ih];clear ih he;rw [List.map_append];have A:(l.map aJ)[k]?=some (aJ p):=by rw [List.getElem?_map,hp];rfl
  have J:(t.map aJ)[i]?=some (aJ b):=by rw [List.getElem?_map,h1];rfl
  have I:(x.map cu).length=x.length:=List.length_map _;generalize hX:x.map cu=X at *;generalize l.map aJ=L at *;generalize hT:t.map aJ=T at *;simp -implicitDefEqProofs [lK,hi,A,J,O,P,I,dU,splice,Tt]
theorem abS {l:List C}:(∀z∈l.map aJ,z.cells.length=5)=True:=eq_true (by
 intro z hz;obtain ⟨c,_,rfl⟩:=List.mem_map.1 hz
 simp)
theorem O5 (l:List C) (W:l.length≤150000) (s:St) (cx:Ctx):∀(Z:List C) (i:Nat) (x:List Ax),l.drop i=Z→x.length≤1024+150000→
  ∃E,((∃j:Int,E=[(3,.v (.sl (l.map aJ))),(14,.v (.i .i64 l.length)),(15,.v (.i .i64 j)),(16,.v (.b false))])∨(∃j:Int,E=[(3,.v (.sl (l.map aJ))),(4,.v (.i .i64 j)),(14,.v (.i .i64 l.length)),(15,.v (.i .i64 j)),(20,.v (.b true))]))∧gY (aB P0.glob (aj P0) cx false jI) [2,3,14,15] [(2,.own false bH 16 (x.map cu)),(3,.v (.sl (l.map aJ))),(14,.v (.i .i64 l.length)),(15,.v (.i .i64 i))] s=
   .exit 0 ((2,.own false bH 16 ((IL Z x).map cu))::E) s
 | [],i,x,h,hx=>by
  have h1:¬(i:Int)<(l.length:Int):=by have:=drop_nil h;omega
  refine ⟨[(3,.v (.sl (l.map aJ))),(14,.v (.i .i64 l.length)),(15,.v (.i .i64 i)),(16,.v (.b false))],.inl ⟨i,rfl⟩,ak fun K hK=>?_⟩;simp -implicitDefEqProofs [jI,h1,IL]
 | p::r,i,x,h,hx=>by
  obtain ⟨h1,h2,h3,h4⟩:=drop_cons h;have hi:(i:Int)<(l.length:Int):=by omega
  have Q:=wI (i:=i) (by omega);have A:(x.map cu).length=x.length:=List.length_map _;unfold IL;by_cases q:1024<x.length
  ·rw [if_pos q];have qi:(1024:Int)<(x.length:Int):=by omega
   refine ⟨[(3,.v (.sl (l.map aJ))),(4,.v (.i .i64 i)),(14,.v (.i .i64 l.length)),(15,.v (.i .i64 i)),(20,.v (.b true))],.inr ⟨i,rfl⟩,ak fun K hK=>?_⟩;simp -implicitDefEqProofs [jI,hi,qi]
  ·rw [if_neg q];have qi:¬(1024:Int)<(x.length:Int):=by omega
   have Y:r.length≤l.length:=by rw [←h2,List.length_drop];omega
   obtain ⟨E,O,ih⟩:=O5 l W s cx r (i+1) (x++r.map (axC 3 p)) h2 (by simp;omega);have h5:=O4 l (by omega) p i h1 r (by omega) s cx r 0 x rfl (by omega);rw [show ((0:Nat):Int)=0 from rfl] at h5;refine ⟨E,O,ak fun K hK=>?_⟩;rw [←hK,show ((i+1:Nat):Int)=(i:Int)+1 from rfl] at ih;clear hK h4;rw [←ih];clear ih;have S:=abS (l:=l)
   have I:((l.map aJ).drop (i+1)).take (l.length - (i+1))=r.map aJ:=by
    rw [←List.map_drop,h2];exact List.take_of_length_le (by rw [List.length_map,←h2,List.length_drop];omega)
   have hL:(l.map aJ).length=l.length:=List.length_map _;have hR:(r.map aJ).length=r.length:=List.length_map _;have J:i+1≤l.length:=h3;have h0:(0:Int)≤(i:Int)+1:=by omega
   have P:((i:Int)+1).toNat=i+1:=by omega
   generalize hX:x.map cu=X at *;generalize l.map aJ=L at *;generalize r.map aJ=R at *;simp -implicitDefEqProofs [jI,hi,qi,Q,I,hL,hR,J,h0,P,S,h5,A,hX]
theorem Y4:∀(l:List C) (x:List Ax),∃Y,IL l x=x++Y
 | [],x=>⟨[],by simp [IL]⟩
 | a::r,x=>by
  unfold IL;split
  ·exact ⟨[],by simp⟩
  ·obtain ⟨Y,h⟩:=Y4 r (x++r.map (axC 3 a));exact ⟨r.map (axC 3 a)++Y,by rw [h];simp⟩
theorem ahB (a b:C) (l:List C):∃y Y,IL (a::b::l) []=y::Y:=by
 obtain ⟨Y,h⟩:=Y4 (b::l) ([]++(b::l).map (axC 3 a));exact ⟨axC 3 a b,l.map (axC 3 a)++Y,by rw [IL,if_neg (by simp),h];simp⟩
theorem DY {α:Type} {src:Rl} {f:Rd→OR α}:∀(n:Nat) (l:List α) (r:Rd) (l':List α) (q:Rd),mW src f 2 n l r=.ok l' q→l'.length≤l.length+n
 | 0,l,r,l',q,h=>by cases h
 | n+1,l,r,l',q,h=>by
  have key:∀(v:α) r2,mW src f 2 n (l++[v]) r2=.ok l' q→l'.length≤l.length+(n+1):=fun v r2 h=>by
   have:=DY n _ r2 l' q h
   simp at this;omega
  unfold mW at h;by_cases z:l.length<2
  ·rw [if_pos z] at h;simp only [OR.bind_ok,Bool.false_eq_true,if_false] at h
   cases e:f r with
   | er a c r2=>rw [e] at h;cases h
   | ok v r2=>rw [e] at h;exact key v r2 h
  ·rw [if_neg z] at h
   cases e0:isR src [41] r with
   | er a c r2=>rw [e0] at h;cases h
   | ok b r2=>
    rw [e0] at h;simp only [OR.bind_ok] at h
    cases b with
    | true=>cases h;omega
    | false=>
     simp only [Bool.false_eq_true,if_false] at h
     cases e:f r2 with
     | er a c r3=>rw [e] at h;cases h
     | ok v r3=>rw [e] at h;exact key v r3 h
section
variable {src:Rl} {S:Rd→St} {m N:Nat} (hE:yO src S m N)
include hE
theorem Xy (n:Nat) (O:n≤100000) (r:Rd) (ha:Wr src r) (hn:rem src r<n) (cx:Ctx) (hl:cx.lim≤m):
  aj P0 (.fn (.func iq) [] []) [.pt (m+1) 0] (S r) cx=uy yC S (aaB src n r):=by
 refine Dt (jU _ _ _) ?_;have hN:=hE.n;have hF:Qp src S m (n - 1) aV aJ (xC src n):=⟨fun p cx2 h1 h2 h3=>Uc hE n (by omega) p cx2 h1 (by omega) h3,fun p h1 h2=>mQ n p h1 (by omega)⟩;unfold aaB;obtain ⟨a,c,q,hx,e1⟩|⟨v1,r1,h1,e1,g1⟩:=spl (CX hE n r ha (by omega) ⟨cx.lim,N⟩ hl) (jr n r ha (by omega))
 ·rw [hx];simp -implicitDefEqProofs [af,iV,hN,e1]
 rw [h1];simp only [OR.bind_ok];have w1:=g1.1;have k1:=g1.2.1;obtain ⟨a,c,q,hx,e2⟩|⟨l,r2,h2,e2,g2⟩:=spl (Xw hE hF n r1 w1 (by omega) (by omega) (by omega) ⟨cx.lim,N⟩ hl) (xO (least:=2) n [] r1 w1 (by omega) (fun q I K=>hF.2 q I (by omega)))
 ·rw [hx];simp -implicitDefEqProofs [af,iV,hN,e1,e2]
 rw [h2];simp only [OR.bind_ok];have w2:=g2.1;have x:=DY _ _ _ _ _ h2;obtain ⟨x1,x2,x3,rfl⟩:=zK _ _ _ _ _ h2;have hq:=LV (x1::x2::x3) (by simp at x ⊢;omega) (S r2) ⟨cx.lim,N⟩ (x2::x3) 0 x1 [] rfl (by simp at x ⊢;omega);rw [List.map_nil,show ((0:Nat):Int)=0 from rfl] at hq;simp [Kv] at hq;have A:=abS (l:=x1::x2::x3);simp at A;have J:(x3.map aJ).take x3.length=x3.map aJ:=List.take_of_length_le (by simp);simp -implicitDefEqProofs [af,iV,hN,e1,e2,hq,A,J,yC,Kv]
theorem aaT (n:Nat) (K:n≤100000) (r:Rd) (ha:Wr src r) (hn:rem src r<n) (cx:Ctx) (hl:cx.lim≤m):
  aj P0 (.fn (.func ja) [] []) [.pt (m+1) 0] (S r) cx=uy yC S (aaI src n r):=by
 refine EU (jU _ _ _) ?_;have hN:=hE.n;have hF:Qp src S m (n - 1) aV aJ (xC src n):=⟨fun p cx2 h1 h2 h3=>Uc hE n (by omega) p cx2 h1 (by omega) h3,fun p h1 h2=>mQ n p h1 (by omega)⟩;unfold aaI;obtain ⟨a,c,q,hx,e1⟩|⟨v1,r1,h1,e1,g1⟩:=spl (CX hE n r ha (by omega) ⟨cx.lim,N⟩ hl) (jr n r ha (by omega))
 ·rw [hx];simp -implicitDefEqProofs [af,jD,hN,e1]
 rw [h1];simp only [OR.bind_ok];have w1:=g1.1;have k1:=g1.2.1;obtain ⟨a,c,q,hx,e2⟩|⟨l,r2,h2,e2,g2⟩:=spl (Xw hE hF n r1 w1 (by omega) (by omega) (by omega) ⟨cx.lim,N⟩ hl) (xO (least:=2) n [] r1 w1 (by omega) (fun q I J=>hF.2 q I (by omega)))
 ·rw [hx];simp -implicitDefEqProofs [af,jD,hN,e1,e2]
 rw [h2];simp only [OR.bind_ok];have w2:=g2.1;have x:=DY _ _ _ _ _ h2;obtain ⟨x1,x2,x3,rfl⟩:=zK _ _ _ _ _ h2;obtain ⟨E,A,hq⟩:=O5 (x1::x2::x3) (by simp at x ⊢;omega) (S r2) ⟨cx.lim,N⟩ (x1::x2::x3) 0 [] rfl (by simp);rw [List.map_nil,show ((0:Nat):Int)=0 from rfl] at hq;simp at hq;obtain ⟨y,Y,hY⟩:=ahB x1 x2 x3;rw [hY] at hq ⊢;simp at hq
 rcases A with ⟨j,rfl⟩|⟨j,rfl⟩<;>simp at hq<;>simp -implicitDefEqProofs [af,jD,hN,e1,e2,hq,yC]
end
end Go.Ai.Z
namespace Go.Ai.Z
theorem SL {α:Type} {src:Rl} {f:Rd→OR α} {P:α→Prop} {B:Nat} (hf:∀q v q2,Wr src q→rem src q≤B→f q=.ok v q2→P v) (hg:∀q,Wr src q→rem src q≤B→aG src q 1 (f q)):
  ∀(n:Nat) (l:List α) (r:Rd) (l':List α) (q:Rd),Wr src r→rem src r≤B→(∀v∈l,P v)→mW src f 2 n l r=.ok l' q→∀v∈l',P v
 | 0,l,r,l',q,_,_,_,h=>by cases h
 | n+1,l,r,l',q,hr,hB,hl,h=>by
  have key:∀r1,Wr src r1→rem src r1≤B→(f r1).bind (fun v r=>mW src f 2 n (l++[v]) r)=.ok l' q→∀v∈l',P v:=fun r1 h1 h2 h3=>by
   cases e:f r1 with
   | er a c r2=>rw [e] at h3;cases h3
   | ok v r2=>
    rw [e] at h3;have g:=(hg r1 h1 h2).ok e
    exact SL hf hg n (l++[v]) r2 l' q g.1 (by omega) (fun u hu=>by
     rcases List.mem_append.1 hu with hu|hu
     ·exact hl u hu
     ·rw [List.mem_singleton.1 hu];exact hf r1 v r2 h1 h2 e) h3
  unfold mW at h;by_cases z:l.length<2
  ·rw [if_pos z] at h;simp only [OR.bind_ok,Bool.false_eq_true,if_false] at h;exact key r hr hB h
  ·rw [if_neg z] at h;have g0:=fV hr [41]
   cases e0:isR src [41] r with
   | er a c r2=>rw [e0] at h;cases h
   | ok b r2=>
    rw [e0] at h;simp only [OR.bind_ok] at h;have g:=g0.ok e0
    cases b with
    | true=>cases h;exact hl
    | false=>
     simp only [Bool.false_eq_true,if_false] at h;exact key r2 g.1 (by omega) h
theorem OR.bind_eq {α β:Type} {x:OR α} {f:α→Rd→OR β} {v:β} {q:Rd} (h:x.bind f=.ok v q):∃u r,x=.ok u r∧f u r=.ok v q:=by
 cases x with
 | er a c r=>cases h
 | ok u r=>exact ⟨u,r,rfl,h⟩
theorem Gy {src:Rl} {r q:Rd} {s:Rl} (hr:Wr src r) (h:nG src r=.ok s q):s.length≤src.length:=by
 unfold nG at h;obtain ⟨t,r1,h1,h⟩:=OR.bind_eq h;obtain ⟨u,r2,h2,h⟩:=OR.bind_eq h;cases h
 have:=(nP hr h1).2.len
 exact Nat.le_trans (XJ 58 _) this
theorem DW {k:Int} {n:Rl} {l h:Int} {z:Bool} (hn:n.length≤200000):C.Lng (.mk k n l h z []):=.mk _ (by simpa using Nat.le_trans hn (by decide)) (by simp) (by simp)
theorem Xp {src:Rl} (hs:src.length≤100000):∀(n:Nat) (r:Rd) (c:C) (q:Rd),n≤200000→Wr src r→rem src r<n→xC src n r=.ok c q→C.Lng c
 | 0,r,c,q,_,_,_,h=>by cases h
 | n+1,r,c,q,hn,hr,hr2,h=>by
  unfold xC at h;obtain ⟨t,r1,h1,h⟩:=OR.bind_eq h;have g1:=(dI hr).ok h1;have A:∀w:Rl,1≤w.length→t.2.1=w→Sn src r1:=fun w hw ht=>KR h1 (by rw [ht];exact hw)
  split at h
  ·obtain ⟨u,r2,h2,h⟩:=OR.bind_eq h;cases h;exact DW (by simp)
  split at h
  ·obtain ⟨u,r2,h2,h⟩:=OR.bind_eq h;cases h;exact DW (by simp)
  split at h
  ·rename_i ht;have hp:=(A _ (by simp) ht).pass g1.1;unfold Zu at h;obtain ⟨u,r2,h2,h⟩:=OR.bind_eq h;obtain ⟨l,r3,h3,h⟩:=OR.bind_eq h;obtain ⟨u,r4,h4,h⟩:=OR.bind_eq h;cases h;have g2:=(aF hp.1 [40] (by simp)).ok h2;have hl:=DY n [] r2 l r3 h3;have ha:=SL (src:=src) (f:=xC src n) (P:=C.Lng) (B:=n - 1) (fun p v p2 I K J=>Xp hs n p v p2 (by omega) I (by omega) J) (fun p I K=>mQ n p I (by omega)) n [] r2 l r3 g2.1 (by omega) (by simp) h3;refine .mk _ (by simp) ?_ ?_
   ·simp at hl ⊢;omega
   ·simpa using ha
  split at h
  ·rename_i ht;have hp:=(A _ (by simp) ht).pass g1.1;unfold OJ at h;obtain ⟨u,r2,h2,h⟩:=OR.bind_eq h;obtain ⟨s,r3,h3,h⟩:=OR.bind_eq h;obtain ⟨d,r4,h4,h⟩:=OR.bind_eq h;obtain ⟨u,r5,h5,h⟩:=OR.bind_eq h;cases h;have g2:=(aF hp.1 [40] (by simp)).ok h2;have g3:=(bn g2.1).ok h3;have hl:=Gy g2.1 h3;have hd:=Xp hs n r3 d r4 (by omega) g3.1 (by omega) h4;exact .mk _ (by simp;omega) (by simp) (by simpa using hd)
  split at h
  ·rename_i ht;have hp:=(A _ (by simp) ht).pass g1.1;unfold Yi at h;obtain ⟨u,r2,h2,h⟩:=OR.bind_eq h;obtain ⟨s,r3,h3,h⟩:=OR.bind_eq h;obtain ⟨u,r5,h5,h⟩:=OR.bind_eq h;cases h;have g2:=(aF hp.1 [40] (by simp)).ok h2;exact DW (Nat.le_trans (Gy g2.1 h3) (by omega))
  split at h
  ·rename_i ht;have hp:=(A _ (by simp) ht).pass g1.1;unfold Px at h;obtain ⟨u,r2,h2,h⟩:=OR.bind_eq h;obtain ⟨s,r3,h3,h⟩:=OR.bind_eq h;obtain ⟨b,r4,h4,h⟩:=OR.bind_eq h;obtain ⟨x,r5,h5,h⟩:=OR.bind_eq h;obtain ⟨u,r6,h6,h⟩:=OR.bind_eq h;cases h;have g2:=(aF hp.1 [40] (by simp)).ok h2;exact DW (Nat.le_trans (Gy g2.1 h3) (by omega))
  ·obtain ⟨s,r3,h3,h⟩:=OR.bind_eq h;cases h;exact DW (Nat.le_trans (Gy g1.1 h3) (by omega))
theorem C9:C.Lng zC:=DW (by simp)
theorem XA {k:Int} {a b:C} (ha:C.Lng a) (hb:C.Lng b):(axC k a b).Lng:=⟨ha,hb,by simp [axC],by simp [axC],by simp [axC]⟩
theorem YX:∀{l:List C},(∀c∈l,C.Lng c)→∀x∈Kv l,x.Lng
 | [],_,x,hx=>by cases hx
 | [_],_,x,hx=>by cases hx
 | a::b::r,h,x,hx=>by
  rcases List.mem_cons.1 hx with rfl|hx
  ·exact XA (h a (by simp)) (h b (by simp))
  ·exact YX (l:=b::r) (fun c hc=>h c (by simp [hc])) x hx
theorem Y2:∀{l:List C} {X:List Ax},(∀c∈l,C.Lng c)→(∀x∈X,x.Lng)→∀x∈IL l X,x.Lng
 | [],X,_,hX,x,hx=>hX x hx
 | a::r,X,h,hX,x,hx=>by
  unfold IL at hx
  split at hx
  ·exact hX x hx
  ·refine Y2 (l:=r) (fun c hc=>h c (by simp [hc])) (fun y hy=>?_) x hx;rcases List.mem_append.1 hy with hy|hy
   ·exact hX y hy
   ·obtain ⟨c,hc,rfl⟩:=List.mem_map.1 hy;exact XA (h a (by simp)) (h c (by simp [hc]))
theorem YZ:∀(l:List C),(Kv l).length≤l.length
 | []=>by simp [Kv]
 | [_]=>by simp [Kv]
 | a::b::r=>by have:=YZ (b::r);simp [Kv] at this ⊢;omega
theorem Y3:∀(l:List C) (X:List Ax) (k:Nat),l.length≤k→X.length≤1024+k→(IL l X).length≤1024+k
 | [],X,k,_,hX=>by simpa [IL] using hX
 | a::r,X,k,hl,hX=>by
  unfold IL;split
  ·exact hX
  ·exact Y3 r _ k (by simp at hl;omega) (by simp at hl ⊢;omega)
structure amn (X:List Ax):Prop where
 len:X.length≤200000
 lng:∀x∈X,x.Lng
theorem Jm {x:Ax} (h:x.Lng):amn [x]:=⟨by simp,fun y hy=>by rw [List.mem_singleton.1 hy];exact h⟩
theorem ajd {src:Rl} (hs:src.length≤70000) {n:Nat} (hn:n≤100000) {w:Rl} {r q:Rd} {X:List Ax} (hr:Wr src r) (A:rem src r<n) (h:D6 src n w r=.ok X q):amn X:=by
 have x:∀{r c q},Wr src r→rem src r<n→xC src n r=.ok c q→C.Lng c:=fun h1 h2 h3=>Xp (by omega) n _ _ _ (by omega) h1 h2 h3;have K:∀{r s q},Wr src r→nG src r=.ok s q→s.length≤1152921504606846976:=fun h1 h2=>Nat.le_trans (Gy h1 h2) (by omega)
 have I:∀{r l q},Wr src r→rem src r<n→mW src (xC src n) 2 n [] r=.ok l q→(∀c∈l,C.Lng c)∧l.length≤100000:=fun {r l q} h1 h2 h3=>
  ⟨SL (src:=src) (f:=xC src n) (P:=C.Lng) (B:=n - 1) (fun p v p2 J Q O=>x J (by omega) O) (fun p J Q=>mQ n p J (by omega)) n [] r l q h1 (by omega) (by simp) h3,
   by have:=DY n [] r l q h3;simp at this;omega⟩
 unfold D6 at h
 split at h
 ·unfold TI at h;obtain ⟨t,r1,h1,h⟩:=OR.bind_eq h;obtain ⟨u,r2,h2,h⟩:=OR.bind_eq h;obtain ⟨u,r3,h3,h⟩:=OR.bind_eq h;obtain ⟨u,r4,h4,h⟩:=OR.bind_eq h;obtain ⟨u,r5,h5,h⟩:=OR.bind_eq h;cases h;exact ⟨by simp,by simp⟩
 split at h
 ·unfold ZJ at h;obtain ⟨u,r1,h1,h⟩:=OR.bind_eq h;obtain ⟨a,r2,h2,h⟩:=OR.bind_eq h;obtain ⟨b,r3,h3,h⟩:=OR.bind_eq h;cases h;have g1:=(jr n r hr A).ok h1;have g2:=(mQ n r1 g1.1 (by omega)).ok h2;exact Jm (XA (x g1.1 (by omega) h2) (x g2.1 (by omega) h3))
 split at h
 ·unfold aaB at h;obtain ⟨u,r1,h1,h⟩:=OR.bind_eq h;obtain ⟨l,r2,h2,h⟩:=OR.bind_eq h;cases h;have g1:=(jr n r hr A).ok h1;obtain ⟨k1,k2⟩:=I g1.1 (by omega) h2;exact ⟨by have:=YZ l;omega,YX k1⟩
 split at h
 ·unfold aaI at h;obtain ⟨u,r1,h1,h⟩:=OR.bind_eq h;obtain ⟨l,r2,h2,h⟩:=OR.bind_eq h;cases h;have g1:=(jr n r hr A).ok h1;obtain ⟨k1,k2⟩:=I g1.1 (by omega) h2;exact ⟨by have:=Y3 l [] l.length (by omega) (by simp);omega,Y2 k1 (by simp)⟩
 split at h
 ·unfold aaE at h;obtain ⟨u,r1,h1,h⟩:=OR.bind_eq h;obtain ⟨s,r2,h2,h⟩:=OR.bind_eq h;obtain ⟨c,r3,h3,h⟩:=OR.bind_eq h;cases h;have g1:=(jr n r hr A).ok h1;have g2:=(bn g1.1).ok h2;exact Jm ⟨C9,x g2.1 (by omega) h3,by simp,by simp,by simp⟩
 split at h
 ·unfold X7 at h;obtain ⟨u,r1,h1,h⟩:=OR.bind_eq h;obtain ⟨b,r2,h2,h⟩:=OR.bind_eq h
  split at h
  ·obtain ⟨u,r3,h3,h⟩:=OR.bind_eq h;obtain ⟨l,r4,h4,h⟩:=OR.bind_eq h;obtain ⟨u,r5,h5,h⟩:=OR.bind_eq h;obtain ⟨s,r6,h6,h⟩:=OR.bind_eq h;cases h;have hl:=DY n [] r3 l r4 h4;exact Jm ⟨C9,C9,by simp at hl ⊢;omega,by simp,by simp⟩
  ·obtain ⟨a,r3,h3,h⟩:=OR.bind_eq h;obtain ⟨s,r4,h4,h⟩:=OR.bind_eq h;cases h;exact Jm ⟨C9,C9,by simp,by simp,by simp⟩
 split at h
 ·unfold ZW at h;obtain ⟨u,r1,h1,h⟩:=OR.bind_eq h;obtain ⟨s,r2,h2,h⟩:=OR.bind_eq h;cases h;exact Jm ⟨C9,C9,by simp,by simp,by simp⟩
 split at h
 ·unfold ZH at h;obtain ⟨u,r1,h1,h⟩:=OR.bind_eq h;obtain ⟨c,r2,h2,h⟩:=OR.bind_eq h;obtain ⟨a,r3,h3,h⟩:=OR.bind_eq h;cases h;have g1:=(jr n r hr A).ok h1;have g2:=(mQ n r1 g1.1 (by omega)).ok h2;exact Jm ⟨C9,x g1.1 (by omega) h2,by simp,K g2.1 h3,by simp⟩
 ·unfold aaj at h;obtain ⟨u,r1,h1,h⟩:=OR.bind_eq h;obtain ⟨s,r2,h2,h⟩:=OR.bind_eq h;obtain ⟨a,r3,h3,h⟩:=OR.bind_eq h;obtain ⟨b,r4,h4,h⟩:=OR.bind_eq h;cases h;have g1:=(jr n r hr A).ok h1;have g2:=(bn g1.1).ok h2;have g3:=(bn g2.1).ok h3;exact Jm ⟨C9,C9,by simp,K g2.1 h3,K g3.1 h4⟩
end Go.Ai.Z
namespace Go.Ai.Z
theorem adk {src:Rl} {r:Rd} (h:Wr src r):aG src r 0 (TI src r):=by
 unfold TI;refine aG.bind (k:=0) (j:=0) (dI h) (fun t q e h1 h2=>?_) (by omega);refine aG.bind (k:=0) (j:=0) (dM h1 _) (fun _ q2 e2 h3 h4=>?_) (by omega);obtain ⟨hb,hq⟩:=lu e2;subst hq
 have p:Sn src q2:=KR e (by
  unfold Ei at hb;rw [Bool.or_eq_true,Bool.or_eq_true,Bool.or_eq_true,decide_eq_true_eq,decide_eq_true_eq,decide_eq_true_eq,decide_eq_true_eq] at hb
  rcases hb with ((hb|hb)|hb)|hb<;>rw [hb]<;>simp)
 have hp:=p.pass h3;refine (qW (k:=0) p h3 ?_).wk (by omega);refine aG.bind (k:=1) (j:=0) (aF hp.1 _ (by simp)) (fun _ q e h1 h2=>?_) (by omega);refine aG.bind (k:=1) (j:=0) (bn h1) (fun _ q e h1 h2=>?_) (by omega);exact aG.bind (k:=1) (j:=0) (aF h1 _ (by simp)) (fun _ q e h1 h2=>aG.mk h1) (by omega)
theorem Eb {src:Rl} {n:Nat} {w:Rl} {r:Rd} (h:Wr src r) (hn:rem src r<n):aG src r 0 (D6 src n w r):=by
 have x:=jr n r h hn;have I:∀q,Wr src q→rem src q<n→aG src q 0 (mW src (xC src n) 2 n [] q):=fun q h1 h2=>xO (least:=2) n [] q h1 h2 (fun p A J=>mQ n p A (by omega));unfold D6;split
 ·exact adk h
 split
 ·unfold ZJ;refine aG.bind (k:=0) (j:=0) x (fun _ q e h1 h2=>?_) (by omega);refine aG.bind (k:=1) (j:=0) (mQ n q h1 (by omega)) (fun _ q2 e2 h3 h4=>?_) (by omega);exact aG.bind (k:=1) (j:=0) (mQ n q2 h3 (by omega)) (fun _ q e h1 h2=>aG.mk h1) (by omega)
 split
 ·unfold aaB;refine aG.bind (k:=0) (j:=0) x (fun _ q e h1 h2=>?_) (by omega);exact aG.bind (k:=0) (j:=0) (I q h1 (by omega)) (fun _ q e h1 h2=>aG.mk h1) (by omega)
 split
 ·unfold aaI;refine aG.bind (k:=0) (j:=0) x (fun _ q e h1 h2=>?_) (by omega);exact aG.bind (k:=0) (j:=0) (I q h1 (by omega)) (fun _ q e h1 h2=>aG.mk h1) (by omega)
 split
 ·unfold aaE;refine aG.bind (k:=0) (j:=0) x (fun _ q e h1 h2=>?_) (by omega);refine aG.bind (k:=1) (j:=0) (bn h1) (fun _ q2 e2 h3 h4=>?_) (by omega);exact aG.bind (k:=1) (j:=0) (mQ n q2 h3 (by omega)) (fun _ q e h1 h2=>aG.mk h1) (by omega)
 split
 ·unfold X7;refine aG.bind (k:=0) (j:=0) x (fun _ q e h1 h2=>?_) (by omega);refine aG.bind (k:=0) (j:=0) (fV h1 _) (fun b q2 e2 h3 h4=>?_) (by omega);split
  ·rename_i hb;subst hb;have hs:=aa9 e2 (by simp);have hp:=hs.pass h3;refine (qW (k:=0) hs h3 ?_).wk (by omega);refine aG.bind (k:=1) (j:=0) (aF hp.1 _ (by simp)) (fun _ q3 e3 h5 h6=>?_) (by omega);refine aG.bind (k:=0) (j:=0) (xO (least:=2) n [] q3 h5 (by omega) (fun p A J=>bn A)) (fun _ q4 e4 h7 h8=>?_) (by omega);refine aG.bind (k:=1) (j:=0) (aF h7 _ (by simp)) (fun _ q5 e5 h9 K=>?_) (by omega);exact aG.bind (k:=1) (j:=0) (bn h9) (fun _ q e h1 h2=>aG.mk h1) (by omega)
  ·refine aG.bind (k:=1) (j:=0) (bn h3) (fun _ q3 e3 h5 h6=>?_) (by omega);exact aG.bind (k:=1) (j:=0) (bn h5) (fun _ q e h1 h2=>aG.mk h1) (by omega)
 split
 ·unfold ZW;refine aG.bind (k:=0) (j:=0) x (fun _ q e h1 h2=>?_) (by omega);exact aG.bind (k:=1) (j:=0) (bn h1) (fun _ q e h1 h2=>aG.mk h1) (by omega)
 split
 ·unfold ZH;refine aG.bind (k:=0) (j:=0) x (fun _ q e h1 h2=>?_) (by omega);refine aG.bind (k:=1) (j:=0) (mQ n q h1 (by omega)) (fun _ q2 e2 h3 h4=>?_) (by omega);exact aG.bind (k:=1) (j:=0) (bn h3) (fun _ q e h1 h2=>aG.mk h1) (by omega)
 ·unfold aaj;refine aG.bind (k:=0) (j:=0) x (fun _ q e h1 h2=>?_) (by omega);refine aG.bind (k:=1) (j:=0) (bn h1) (fun _ q2 e2 h3 h4=>?_) (by omega);refine aG.bind (k:=1) (j:=0) (bn h3) (fun _ q3 e3 h5 h6=>?_) (by omega);exact aG.bind (k:=1) (j:=0) (bn h5) (fun _ q e h1 h2=>aG.mk h1) (by omega)
def axT (l:List Ax):St:=match l with | []=>[] | x::r=>[.row bH 16 (x::r).length]
theorem ahP (N:Nat) (l:List Ax) (x:Ax):axV N (l++[x])=.st N (l.map cu++[cu x]):=by cases l<;>simp [axV]
theorem ahQ (l:List Ax) (x:Ax):axT (l++[x])=[.row bH 16 (l.length+1)]:=by cases l<;>simp [axT]
theorem Xi (x:Ax) (b:Bool):AV.ag [.i .i64 x.kind,.b b,.i .i64 x.left.kind,.s x.left.name,.i .i64 x.left.lo,.i .i64 x.left.hi,slf x.left.z (x.left.parts.map aJ),
 .i .i64 x.right.kind,.s x.right.name,.i .i64 x.right.lo,.i .i64 x.right.hi,slf x.right.z (x.right.parts.map aJ),slf x.z (x.roles.map .s),.s x.role,.s x.a,.s x.b]=cu { x with op:=b }:=rfl
def itE (m:Nat) (t:Tk) (V:AV) (k:Nat):Env:=[(0,.v (.pt (m+1) 0)),(2,.bx [.i .i64 t.1,.s t.2.1,.i .i64 t.2.2]),(35,.v V),(36,.v (.i .i64 k)),(37,.v (.i .i64 k)),(38,.v (.b false))]
def aao (w:Rl):Option Nat:=
 if w=wC9 then some gV
 else if w=wC3 then some lY
 else if w=wB3 then some iq
 else if w=wB6 then some ja
 else if w=wB2 then some jL
 else if w=wA4 then some lC
 else if w=wA9 then some iJ
 else if w=wB9 then some jK
 else if w=wB0 then some lD
 else none
theorem adw (m:Nat) (w:Rl):find 1 (.s w) (YB m)=some ((aao w).map (rdF m)):=by
 unfold aao YB;split
 ·rename_i h;simp [find,jH,h]
 split
 ·rename_i h;simp [find,jH,h]
 split
 ·rename_i h;simp [find,jH,h]
 split
 ·rename_i h;simp [find,jH,h]
 split
 ·rename_i h;simp [find,jH,h]
 split
 ·rename_i h;simp [find,jH,h]
 split
 ·rename_i h;simp [find,jH,h]
 split
 ·rename_i h;simp [find,jH,h]
 split
 ·rename_i h;simp [find,jH,h]
 ·simp [find,jH, *]
theorem acR (w:Rl):(aao w).isSome=acQ w:=by
 unfold aao acQ;split
 ·rename_i h;simp [h]
 split
 ·rename_i h;simp [h]
 split
 ·rename_i h;simp [h]
 split
 ·rename_i h;simp [h]
 split
 ·rename_i h;simp [h]
 split
 ·rename_i h;simp [h]
 split
 ·rename_i h;simp [h]
 split
 ·rename_i h;simp [h]
 split
 ·rename_i h;simp [h]
 ·simp [*]
section
variable {src:Rl} {S:Rd→St} {m N:Nat} (hE:yO src S m N)
include hE
theorem aiO (r:Rd) (v:AV) (X:St):(S r++X).set (m+1) (.cells [.sl (aC src),.i .i64 r.at_,ahV r.ah,.mp m,.s r.iri,.b r.op,v,.mp (m+2),.mp (m+3)])=S { r with ax:=v }++X:=hE.s1 r { r with ax:=v } X rfl
theorem amg (n:Nat) (p:n≤100000) (w:Rl) (F:Nat) (hF:aao w=some F) (r:Rd) (ha:Wr src r) (hn:rem src r<n) (cx:Ctx) (hl:cx.lim≤m):
  aj P0 (.fn (.func F) [] []) [.pt (m+1) 0] (S r) cx=uy yC S (D6 src n w r):=by
 unfold aao at hF;unfold D6
 split at hF
 ·rename_i h0;cases hF;simp only [if_pos h0];exact UY hE r ha cx hl
 rename_i h0
 split at hF
 ·rename_i h1;cases hF;simp only [if_neg h0,if_pos h1];exact amf hE n (by omega) r ha hn cx hl
 rename_i h1
 split at hF
 ·rename_i h2;cases hF;simp only [if_neg h0,if_neg h1,if_pos h2];exact Xy hE n (by omega) r ha hn cx hl
 rename_i h2
 split at hF
 ·rename_i h3;cases hF;simp only [if_neg h0,if_neg h1,if_neg h2,if_pos h3];exact aaT hE n (by omega) r ha hn cx hl
 rename_i h3
 split at hF
 ·rename_i h4;cases hF;simp only [if_neg h0,if_neg h1,if_neg h2,if_neg h3,if_pos h4];exact af5 hE n (by omega) r ha hn cx hl
 rename_i h4
 split at hF
 ·rename_i h5;cases hF;simp only [if_neg h0,if_neg h1,if_neg h2,if_neg h3,if_neg h4,if_pos h5];exact ajx hE n (by omega) r ha hn cx hl
 rename_i h5
 split at hF
 ·rename_i h6;cases hF;simp only [if_neg h0,if_neg h1,if_neg h2,if_neg h3,if_neg h4,if_neg h5,if_pos h6];exact Zj hE n (by omega) r ha hn cx hl
 rename_i h6
 split at hF
 ·rename_i h7;cases hF;simp only [if_neg h0,if_neg h1,if_neg h2,if_neg h3,if_neg h4,if_neg h5,if_neg h6,if_pos h7];exact afZ hE n (by omega) r ha hn cx hl
 rename_i h7
 split at hF
 ·cases hF;simp only [if_neg h0,if_neg h1,if_neg h2,if_neg h3,if_neg h4,if_neg h5,if_neg h6,if_neg h7];exact ajy hE n (by omega) r ha hn cx hl
 ·cases hF
theorem ae3 (xs:List Ax) (a3:xs.length≤200000) (p:∀x∈xs,x.Lng) (t:Tk) (cx:Ctx) (hl:cx.lim≤m) (hb:cx.base≤m):∀(P:List Ax) (i:Nat) (l:List Ax) (r:Rd),xs.drop i=P→i≤xs.length→r.ax=axV N l→l.length+P.length≤300000→
  ∃X:St,gY (aB P0.glob (aj P0) cx true gZ) [0,2,35,36,37] [(0,.v (.pt (m+1) 0)),(2,.bx [.i .i64 t.1,.s t.2.1,.i .i64 t.2.2]),(35,.v (.sl (xs.map cu))),(36,.v (.i .i64 xs.length)),(37,.v (.i .i64 i))] (S r++axT l)=
   match Ad N t.2.2 P l r with
   | .ok l' r'=>.exit 0 (itE m t (.sl (xs.map cu)) xs.length) (S r'++axT l')
   | .er a c r'=>.pan (flt a c) (S r'++X)
 | [],i,l,r,h,hi0,hr,hlen=>by
  have h1:¬(i:Int)<(xs.length:Int):=by have:=drop_nil h;omega
  refine ⟨[],ak fun K hK=>?_⟩;have h2:i=xs.length:=by omega
  subst h2;simp -implicitDefEqProofs [gZ,h1,Ad,itE]
 | x::P,i,l,r,h,hi0,hr,hlen=>by
  obtain ⟨h1,h2,h3,h4⟩:=drop_cons h;have hi:(i:Int)<(xs.length:Int):=by omega
  have I:=wI (i:=i) (by omega);have hx:x∈xs:=by rw [←List.take_append_drop i xs,h];simp
  have A:cx.lim≤m+1:=by omega
  have Q:cx.base≤m+1:=by omega
  have a4:=hE.lt;have W:cx.lim≤N:=by omega
  have hN:=hE.n;have J:(xs.map cu)[i]?=some (cu x):=by rw [List.getElem?_map,h1];rfl
  have hc:=hE.g1 r;have e1:=Ah { x with op:=r.op } ⟨(p x hx).l,(p x hx).r,(p x hx).roles,(p x hx).a,(p x hx).b⟩;unfold Ad;by_cases q:fH { x with op:=r.op }=0
  ·rw [if_pos q];rw [q] at e1;obtain ⟨X,ih⟩:=ae3 xs a3 p t cx hl hb P (i+1) (l++[{ x with op:=r.op }]) { r with ax:=axV N (l++[{ x with op:=r.op }]) } h2 (by omega) rfl (by simp at hlen ⊢;omega);refine ⟨X,ak fun K hK=>?_⟩;rw [←hK,show ((i+1:Nat):Int)=(i:Int)+1 from rfl] at ih;clear hK h4;rw [←ih];clear ih;rw [ahP,ahQ];rw [hr] at hc;have hs:=aiO hE r;have Z:l.length+1≤aS:=by unfold aS;simp at hlen;omega
   have R:1≤aS:=by decide
   generalize xs.map cu=XS at *
   cases l with
   | nil=>
    simp only [axV,axT,List.append_nil] at hc ⊢;have O:=vN hE r;rw [hr] at O;simp only [axV] at O;have a2:(S r).length=N:=hN r;simp -implicitDefEqProofs [gZ,hi,J,I,hc,O,e1,hs,A,Q,a2,Xi,R]
   | cons y l=>
    simp only [axV,axT] at hc ⊢;have a1:=hE.gN r;have a0:=hE.sN r;have Y:l.length+1+1≤aS:=by simpa using Z
    simp -implicitDefEqProofs [gZ,hi,J,I,hc,e1,hs,A,Q,W,a1,a0,Xi,Y]
  ·rw [if_neg q];refine ⟨axT l,ak fun K hK=>?_⟩;generalize xs.map cu=XS at *;generalize fH { x with op:=r.op }=e at *;simp -implicitDefEqProofs [gZ,hi,J,I,hc,e1,A,Xi,q,flt,dU,splice]
end
end Go.Ai.Z
namespace Go.Ai.Z
def ah3 (S:Rd→St) (X:St) (x:OR (List Ax)):CO:=
 match x with
 | .ok l r=>.ret (.tu []) (S r++axT l)
 | .er a c r=>.pan (flt a c) (S r++X)
@[simp] theorem XG (S:Rd→St) (X:St) (l:List Ax) (r:Rd):ah3 S X (.ok l r)=.ret (.tu []) (S r++axT l):=rfl
@[simp] theorem qw (S:Rd→St) (X:St) (a:Nat) (c:Int) (r:Rd):ah3 S X (.er a c r)=.pan (flt a c) (S r++X):=rfl
theorem Ou (N:Nat) (l:List Ax) (env:Env):wE env (some (.v (axV N l)))=some (l.map cu):=by cases l<;>rfl
theorem aan (m:Nat) (t:Tk) (s:St) (cx:Ctx):
  gY (aB P0.glob (aj P0) cx true gZ) [0,2,35,36,37] [(0,.v (.pt (m+1) 0)),(2,.bx [.i .i64 t.1,.s t.2.1,.i .i64 t.2.2]),(35,.v .ns),(36,.v (.i .i64 0)),(37,.v (.i .i64 0))] s=.exit 0 (itE m t .ns 0) s:=by
 refine ak fun K hK=>?_;simp -implicitDefEqProofs [gZ,itE]
theorem WJ (N a0:Nat):∀(xs l:List Ax) (r:Rd) {l':List Ax} {q:Rd},r.ax=axV N l→Ad N a0 xs l r=.ok l' q→q.ax=axV N l'
 | [],l,r,l',q,hr,h=>by cases h;exact hr
 | x::xs,l,r,l',q,hr,h=>by
  unfold Ad at h
  split at h
  ·exact WJ N a0 xs _ _ rfl h
  ·cases h
section
variable {src:Rl} {S:Rd→St} {m N:Nat} (hE:yO src S m N)
include hE
theorem ajz (n:Nat) (a4:n≤100000) (l:List Ax) (a6:l.length≤1024) (r:Rd) (hr:r.ax=axV N l) (ha:Wr src r) (hn:rem src r<n) (cx:Ctx) (hl:cx.lim≤m) (hb:cx.base≤m):
  ∃X,aj P0 (.fn (.func qg) [] []) [.pt (m+1) 0] (S r++axT l) cx=ah3 S X (Bo src n N l r):=by
 have hN:=hE.n;have hS:=hE.src;have hA:=hE.app (axT l);have J:cx.lim≤m+1:=by omega
 have W:cx.base≤m+1:=by omega
 unfold Bo;obtain ⟨a,c,q,hx,e1⟩|⟨t,r1,h1,e1,g1⟩:=spl (oZ hA r (ha).at_ ⟨cx.lim,cx.base⟩ hl) (dI ha)
 ·rw [hx];simp only [OR.bind_er,qw];refine ⟨axT l,gK (by simp) ?_⟩;simp -implicitDefEqProofs [af,dG,fF,e1]
 rw [h1];simp only [OR.bind_ok];have w1:=g1.1;have hc:=vN hA r1;have I:=hA.im r1;have p:=adw m t.2.1
 try simp only at hc I
 have R:=acR t.2.1
 cases hF:aao t.2.1 with
 | none=>
  rw [hF] at R p;simp only [Option.map_none,Option.isSome_none] at R p;rw [←R];have ef:=qB hA false r1 w1 ⟨cx.lim,cx.base⟩ hl;obtain ⟨a2,c2,r2,hx⟩:=zB src r1;rw [hx] at ef ⊢;simp only [dA] at ef;simp only [OR.bind_er,qw];refine ⟨axT l,gK (by simp) ?_⟩;obtain ⟨k,w,a⟩:=t
  skip
  simp -implicitDefEqProofs [af,dG,fF,e1,hc,I,p,ef]
 | some F=>
  rw [hF] at R p;simp only [Option.map_some,Option.isSome_some,rdF] at R p;rw [←R];obtain ⟨a,c,q,hx,e2⟩|⟨v2,r2,h2,e2,g2⟩:=spl (qB hA true r1 w1 ⟨cx.lim,cx.base⟩ hl) (dM w1 true)
  ·rw [hx];simp only [OR.bind_er,qw];refine ⟨axT l,gK (by simp) ?_⟩;simp -implicitDefEqProofs [af,dG,fF,e1,hc,I,p,jX,e2]
  rw [h2];simp only [OR.bind_ok];have w2:=g2.1;have k2:=g2;have e3:=lJ hA r2 ⟨cx.lim,cx.base⟩ hl;have w3:=dV w2;have kp:=uQ src r2;obtain ⟨a,c,q,hx,e4⟩|⟨v4,r4,h4,e4,g4⟩:=spl (iI hA [40] (bQ r2) w3 ⟨cx.lim,cx.base⟩ hl) (aF w3 [40] (by simp))
  ·rw [hx];simp only [OR.bind_er,qw];refine ⟨axT l,gK (by simp) ?_⟩;simp -implicitDefEqProofs [af,dG,fF,e1,hc,I,p,jX,e2,e3,e4]
  rw [h4];simp only [OR.bind_ok];have w4:=g4.1;have k4:=g4;have Q:=vN hA r4;have Y:=aeB hA r4;have k1:=g1;have a3:rem src { r4 with op:=false }<n:=by show rem src r4<n;omega
  obtain ⟨a,c,q,hx,e5⟩|⟨xs,r5,h5,e5,g5⟩:=spl (amg hA n a4 t.2.1 F hF { r4 with op:=false } (I4 w4 false) a3 ⟨cx.lim,cx.base⟩ hl) (Eb (n:=n) (w:=t.2.1) (I4 w4 false) a3)
  ·rw [hx];simp only [OR.bind_er,qw];refine ⟨axT l,gK (by simp) ?_⟩;simp -implicitDefEqProofs [af,dG,fF,e1,hc,I,p,jX,e2,e3,e4,Q,Y,J,W,e5]
  rw [h5];simp only [OR.bind_ok];have w5:=g5.1;have k5:=g5;have Z:=ajd hS a4 (I4 w4 false) a3 h5;obtain ⟨a,c,q,hx,e6⟩|⟨v6,r6,h6,e6,g6⟩:=spl (iI hA [41] r5 w5 ⟨cx.lim,cx.base⟩ hl) (aF w5 [41] (by simp))
  ·rw [hx];simp only [OR.bind_er,qw];refine ⟨axT l,gK (by simp) ?_⟩;simp -implicitDefEqProofs [af,dG,fF,e1,hc,I,p,jX,e2,e3,e4,Q,Y,J,W,e5,e6]
  rw [h6];simp only [OR.bind_ok];have w6:=g6.1;have k6:=g6;have a1:r6.ax=axV N l:=by rw [k6.2.2.2.2,k5.2.2.2.2];show r4.ax=_;rw [k4.2.2.2.2];show r2.ax=_;rw [k2.2.2.2.2,k1.2.2.2.2,hr]
  cases xs with
  | nil=>
   have A:=aan m t (S r6++axT l) cx;have K:=vN hA r6;rw [a1] at K;have P:¬(1024:Int)<(l.length:Int):=by omega
   simp only [Ad,OR.bind_ok,if_neg (show ¬1024<l.length by omega)];refine ⟨[],gK (by simp) ?_⟩;simp only [AY] at e5;simp -implicitDefEqProofs [af,dG,fF,e1,hc,I,p,jX,e2,e3,e4,Q,Y,J,W,e5,e6,A,itE,K,Ou,P]
  | cons x xs=>
   obtain ⟨X,A⟩:=ae3 hE (x::xs) Z.len Z.lng t cx hl hb (x::xs) 0 l r6 rfl (by omega) a1 (by have:=Z.len;omega);rw [show ((0:Nat):Int)=0 from rfl] at A;have a5:yC (x::xs)=.sl ((x::xs).map cu):=rfl;rw [a5] at e5;have a0:((x::xs).map cu).length=(x::xs).length:=List.length_map _;generalize hXS:(x::xs).map cu=XS at *
   cases hp:Ad N t.2.2 (x::xs) l r6 with
   | er a c q=>
    rw [hp] at A;simp only at A;simp only [OR.bind_er,qw];refine ⟨X,gK (by simp) ?_⟩;simp -implicitDefEqProofs [af,dG,fF,e1,hc,I,p,jX,e2,e3,e4,Q,Y,J,W,e5,e6,a0];simp at A;simp -implicitDefEqProofs [A]
   | ok l' q=>
    rw [hp] at A;simp only at A;simp only [OR.bind_ok];have K:=vN (hE.app (axT l')) q;rw [WJ _ _ _ _ _ a1 hp] at K
    try simp only at K
    simp at A;by_cases P:1024<l'.length
    ·rw [if_pos P];have O:(1024:Int)<(l'.length:Int):=by omega
     refine ⟨axT l',gK (by simp) ?_⟩;simp -implicitDefEqProofs [af,dG,fF,e1,hc,I,p,jX,e2,e3,e4,Q,Y,J,W,e5,e6,a0,A,itE,K,Ou,O,dU,splice,flt]
    ·rw [if_neg P];have O:¬(1024:Int)<(l'.length:Int):=by omega
     refine ⟨[],gK (by simp) ?_⟩;simp -implicitDefEqProofs [af,dG,fF,e1,hc,I,p,jX,e2,e3,e4,Q,Y,J,W,e5,e6,a0,A,itE,K,Ou,O]
end
end Go.Ai.Z
