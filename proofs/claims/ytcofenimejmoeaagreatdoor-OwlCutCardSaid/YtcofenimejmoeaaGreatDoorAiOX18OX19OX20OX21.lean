/-
 The reader of ontology documents: the lines of prefixes.
-/
import Derived.Test.YtcofenimejmoeaaGreatDoorAiOX11OX12OX13
import Derived.Test.YtcofenimejmoeaaGreatDoorAiK1K2K3K4K5K6K7
import Derived.Test.YtcofenimejmoeaaGreatDoorAiOX1OX2OX3OX4
import Derived.Test.YtcofenimejmoeaaGreatDoorAiOW1OW2OW3OW4OW5
set_option maxRecDepth 100000
set_option linter.unusedSimpArgs false
set_option linter.unusedVariables false
set_option linter.unusedSectionVars false
namespace Go.Ai.Z
theorem aiu {src:Rl} {r:Rd} (h:Wr src r) (P:List Rl) (i:Rl):Wr src { r with pre:=P,iri:=i }:=⟨h.at_,h.ah⟩
def qG {α:Type} (src:Rl) (r:Rd) (k:Nat) (x:OR α):Prop:=
 match x with
 | .ok _ q=>Wr src q∧rem src q+k≤rem src r∧q.ax=r.ax
 | .er a c _=>a≤src.length∧c=50
theorem aG.p {α:Type} {src:Rl} {r:Rd} {k:Nat} {x:OR α} (h:aG src r k x):qG src r k x:=by
 cases x with
 | er a c q=>exact h
 | ok v q=>obtain ⟨h1,h2,_,_,h3⟩:=h;exact ⟨h1,h2,h3⟩
theorem qG.ok {α:Type} {src:Rl} {r q:Rd} {v:α} {k:Nat} {x:OR α} (h:qG src r k x) (e:x=.ok v q):Wr src q∧rem src q+k≤rem src r∧q.ax=r.ax:=by subst e;exact h
theorem qG.bind {α β:Type} {src:Rl} {r:Rd} {k j n:Nat} {x:OR α} {f:α→Rd→OR β} (h:qG src r k x)
  (hf:∀v q,x=.ok v q→Wr src q→rem src q+k≤rem src r→qG src q j (f v q)) (hn:n≤k+j):qG src r n (x.bind f):=by
 cases x with
 | er a c q=>exact h
 | ok v q=>
  obtain ⟨h1,h2,h5⟩:=h;have h6:=hf v q rfl h1 h2;rw [OR.bind_ok];generalize f v q=y at *
  cases y with
  | er a c q2=>exact h6
  | ok w q2=>
   obtain ⟨g1,g2,g5⟩:=h6;exact ⟨g1,by omega,g5.trans h5⟩
theorem aau {α:Type} {src:Rl} {r:Rd} {k:Nat} {x:OR α} (h:Sn src r) (hw:Wr src r) (hx:qG src (bQ r) k x):qG src r (k+1) x:=by
 have h1:=h.pass hw
 cases x with
 | er a c q=>exact hx
 | ok v q=>
  obtain ⟨g1,g2,g5⟩:=hx;exact ⟨g1,by omega,g5⟩
theorem ND {P:List Rl} {t:Tk} (h:PY P t=true):t.1=4:=by
 unfold PY at h;simp only [Bool.and_eq_true,decide_eq_true_eq] at h;exact h.1.1.1
theorem D7 {w:Rl} {t:Tk} (h:xY w t=true):t.1=2:=by
 unfold xY at h;simp only [Bool.and_eq_true,decide_eq_true_eq] at h;exact h.1.1
theorem D9 {src:Rl} {r:Rd} (h:Wr src r):qG src r 1 (Cb src r):=by
 unfold Cb;refine qG.bind (k:=1) (j:=0) (aF h _ (by simp)).p (fun _ q1 e1 h1 k1=>?_) (by omega);refine qG.bind (k:=1) (j:=0) (aF h1 _ (by simp)).p (fun _ q2 e2 h2 k2=>?_) (by omega);refine qG.bind (k:=0) (j:=0) (dI h2).p (fun t q3 e3 h3 k3=>?_) (by omega);refine qG.bind (k:=0) (j:=0) (dM h3 _).p (fun _ q4 e4 h4 k4=>?_) (by omega);obtain ⟨hb,hq⟩:=lu e4;subst hq;have hs:=KR e3 ((nP h2 e3).2.one (by have:=ND hb;omega));have hp:=hs.pass h4
 have key:qG src q4 (0+1) _:=aau (k:=0) hs h4 (x:=(jM src [61] (bQ q4)).bind fun _ r=>
  (fM src r).bind fun u r=>(oU src (xY t.2.1 u) r).bind fun _ r=>(jM src [41] (bQ r)).bind fun _ r=>
   .ok () { r with pre:=qJ r.pre t.2.1,iri:=if t.2.1=[58] then zO u.2.1 else r.iri }) (by
  refine qG.bind (k:=1) (j:=0) (aF hp.1 _ (by simp)).p (fun _ q5 e5 h5 k5=>?_) (by omega);refine qG.bind (k:=0) (j:=0) (dI h5).p (fun u q6 e6 h6 k6=>?_) (by omega);refine qG.bind (k:=0) (j:=0) (dM h6 _).p (fun _ q7 e7 h7 k7=>?_) (by omega);obtain ⟨J,I⟩:=lu e7;subst I;refine qG.bind (k:=0) (j:=0) ?_ (fun _ q8 e8 h8 k8=>?_) (by omega)
  ·have A:=KR e6 ((nP h5 e6).2.one (by have:=D7 J;omega));have K:=A.pass h7;exact ((qW (k:=1) A h7 (aF K.1 _ (by simp))).wk (by omega)).p
  ·exact ⟨aiu h8 _ _,by show rem src q8+0≤_;omega,rfl⟩)
 generalize (jM src [61] (bQ q4)).bind _=y at key ⊢
 cases y with
 | er a c q=>exact key
 | ok v q=>obtain ⟨g1,g2,g3⟩:=key;exact ⟨g1,by omega,g3⟩
section
variable {src:Rl} {S:Rd→St} {m N:Nat} (hE:yO src S m N)
include hE
theorem Qu (r:Rd) (P:List Rl):(S r).set m (.map (qI P))=S { r with pre:=P }:=hE.setp r P
theorem ahk (r:Rd) (i:Rl):(S r).set (m+1) (.cells [.sl (aC src),.i .i64 r.at_,ahV r.ah,.mp m,.s i,.b r.op,r.ax,.mp (m+2),.mp (m+3)])=S { r with iri:=i }:=hE.sets r { r with iri:=i } rfl
theorem af4 (r:Rd) (ha:Wr src r) (cx:Ctx) (hl:cx.lim≤m):
  aj P0 (.fn (.func nO) [] []) [.pt (m+1) 0] (S r) cx=uy (fun _=>.tu []) S (Cb src r):=by
 refine GZ (jU _ _ _) ?_;have hN:=hE.n;have hS:=hE.src;have a8:cx.lim≤m+1:=by omega
 unfold Cb;obtain ⟨a,c,q,hx,e1⟩|⟨v1,r1,h1,e1,g1⟩:=spl (iI hE wB7 r ha ⟨cx.lim,N⟩ hl) (aF ha wB7 (by simp))
 ·rw [hx];simp -implicitDefEqProofs [af,ay,hN,e1]
 rw [h1];simp only [OR.bind_ok];have w1:=g1.1;obtain ⟨a,c,q,hx,e2⟩|⟨v2,r2,h2,e2,g2⟩:=spl (iI hE [40] r1 w1 ⟨cx.lim,N⟩ hl) (aF w1 [40] (by simp))
 ·rw [hx];simp -implicitDefEqProofs [af,ay,hN,e1,e2]
 rw [h2];simp only [OR.bind_ok];have w2:=g2.1;obtain ⟨a,c,q,hx,e3⟩|⟨t,r3,h3,e3,g3⟩:=spl (oZ hE r2 (w2).at_ ⟨cx.lim,N⟩ hl) (dI w2)
 ·rw [hx];simp -implicitDefEqProofs [af,ay,hN,e1,e2,e3]
 rw [h3];simp only [OR.bind_ok];have w3:=g3.1;have A:=oZ hE r3 w3.at_ ⟨cx.lim,N⟩ hl;rw [(jk h3).1] at A;simp only [dD] at A;have kt:=(nP w2 h3).2;have hx:=Cj t.2.1 58;have I:=vN hE r3;have K:=hE.pm r3;have x:=Eg t.2.1 r3.pre;obtain ⟨k,w,a⟩:=t;simp only at hx x kt;have c1:w.length≤src.length:=kt.len;have c5:IntKind.i64.wrap ((w.length:Int) - 1)=(w.length:Int) - 1:=w64 (by omega) (by omega);have ef:=qB hE (PY r3.pre (k,w,a)) r3 w3 ⟨cx.lim,N⟩ hl
 cases hb:PY r3.pre (k,w,a) with
 | false=>
  rw [hb] at ef;obtain ⟨a2,c2,c7,c6⟩:=zB src r3;rw [c6] at ef ⊢;simp only [dA] at ef;simp only [OR.bind_er,dA];unfold PY at hb;by_cases q1:¬k=4
  ·simp -implicitDefEqProofs [af,ay,hN,fF,e1,e2,e3,A,hx,I,K,x,ef,q1]
  have q1:=Classical.not_not.1 q1;by_cases q2:¬Go.Lib.indexByte w 58=(w.length:Int) - 1
  ·simp -implicitDefEqProofs [af,ay,hN,fF,e1,e2,e3,A,hx,I,K,x,ef,q1,q2,c5]
  have q2:=Classical.not_not.1 q2;by_cases q3:w=[58]
  ·have q4:[58]∈r3.pre:=by
    have a4:Go.Lib.indexByte [58] 58=0:=rfl;rw [q3] at hb
    simpa [q1,a4] using hb
   subst q3;simp only [q4,if_true] at x;have a4:Go.Lib.indexByte [58] 58=0:=rfl;have w0:IntKind.i64.wrap 0=0:=rfl;rw [a4] at hx;simp -implicitDefEqProofs [af,ay,hN,fF,e1,e2,e3,A,hx,I,K,x,ef,q1,w0]
  ·have h1:=kt.one (by simp [q1])
   cases w with
   | nil=>simp at h1
   | cons c w'=>
    have el:=vC c.toNat;have b2:¬(c=58∧w'=[]):=fun h=>q3 (by rw [h.1,h.2])
    have b6:(c == 58 && w'.isEmpty)=false:=by cases h:(c == 58 && w'.isEmpty) with
     | false=>rfl
     | true=>rw [Bool.and_eq_true,beq_iff_eq,List.isEmpty_iff] at h;exact absurd h b2
    have c0:w'.length+1≤src.length:=c1;have w0:IntKind.i64.wrap (w'.length:Int)=w'.length:=w64 (by omega) (by omega);have b1:((c::w').length:Int) - 1=w'.length:=by simp
    rw [b1] at q2
    cases q5:ltI c.toNat with
    | false=>
     rw [q5] at el;rw [q2] at hx;simp -implicitDefEqProofs [af,ay,hN,fF,e1,e2,e3,A,hx,I,K,x,ef,q1,q3,b2,b6,w0,el]
    | true=>
     have q4:c::w'∈r3.pre:=by simpa [q1,b1,q2,q3,q5] using hb
     rw [q5] at el;rw [q2] at hx;simp only [q4,if_true] at x;simp -implicitDefEqProofs [af,ay,hN,fF,e1,e2,e3,A,hx,I,K,x,ef,q1,q3,b2,b6,w0,el]
 | true=>
  rw [hb] at ef;rw [oM] at ef ⊢;simp only [dD] at ef;simp only [OR.bind_ok];have q1:k=4:=ND hb
  have b8:¬w∈r3.pre:=by
   unfold PY at hb;simp only [Bool.and_eq_true,decide_eq_true_eq,Bool.not_eq_true',decide_eq_false_iff_not] at hb;exact hb.2
  have q2:Go.Lib.indexByte w 58=(w.length:Int) - 1:=by
   unfold PY at hb;simp only [Bool.and_eq_true,decide_eq_true_eq] at hb;exact hb.1.1.2
  simp only [b8,if_false] at x;by_cases q3:w=[58]
  ·subst q3;have a4:Go.Lib.indexByte [58] 58=0:=rfl;have w0:IntKind.i64.wrap 0=0:=rfl;have Z:¬([58]:Rl)=[111,119,108,58]:=by simp
   have Q:¬([58]:Rl)=[120,115,100,58]:=by simp
   rw [a4] at hx;have e5:=lJ hE r3 ⟨cx.lim,N⟩ hl;have w5:=dV w3;obtain ⟨a,c,q,hz,e6⟩|⟨v6,r6,h6,e6,g6⟩:=spl (iI hE [61] (bQ r3) w5 ⟨cx.lim,N⟩ hl) (aF w5 [61] (by simp))
   ·rw [hz];simp -implicitDefEqProofs [af,ay,hN,fF,e1,e2,e3,A,hx,I,K,x,ef,q1,w0,e5,e6]
   rw [h6];simp only [OR.bind_ok];have w6:=g6.1;obtain ⟨a,c,q,hz,e7⟩|⟨u,r7,h7,e7,g7⟩:=spl (oZ hE r6 w6.at_ ⟨cx.lim,N⟩ hl) (dI w6)
   ·rw [hz];simp -implicitDefEqProofs [af,ay,hN,fF,e1,e2,e3,A,hx,I,K,x,ef,q1,w0,e5,e6,e7]
   rw [h7];simp only [OR.bind_ok];obtain ⟨w7,ku⟩:=nP w6 h7;have O:=oZ hE r7 w7.at_ ⟨cx.lim,N⟩ hl;rw [(jk h7).1] at O;simp only [dD] at O;obtain ⟨k2,i2,a2⟩:=u;have b7:i2.length≤src.length:=ku.len;have p:=qB hE (xY [58] (k2,i2,a2)) r7 w7 ⟨cx.lim,N⟩ hl
   cases hb2:xY [58] (k2,i2,a2) with
   | false=>
    rw [hb2] at p;obtain ⟨a9,c9,r9,h9⟩:=zB src r7;rw [h9] at p ⊢;simp only [dA] at p;simp only [OR.bind_er,dA];unfold xY at hb2;by_cases p1:¬k2=2
    ·simp -implicitDefEqProofs [af,ay,hN,fF,e1,e2,e3,A,hx,I,K,x,ef,q1,w0,e5,e6,e7,O,p,p1]
    have p1:=Classical.not_not.1 p1;rw [p1] at hb2;simp [Z,Q] at hb2
   | true=>
    rw [hb2] at p;rw [oM] at p ⊢;simp only [dD] at p;simp only [OR.bind_ok];have p1:k2=2:=D7 hb2;have a3:=lJ hE r7 ⟨cx.lim,N⟩ hl;have a1:=dV w7;obtain ⟨a,c,q,hz,P⟩|⟨b5,J,a5,P,b4⟩:=spl (iI hE [41] (bQ r7) a1 ⟨cx.lim,N⟩ hl) (aF a1 [41] (by simp))
    ·rw [hz];simp -implicitDefEqProofs [af,ay,hN,fF,e1,e2,e3,A,hx,I,K,x,ef,q1,w0,e5,e6,e7,O,p,p1,a3,P]
    rw [a5];simp only [OR.bind_ok];have a0:=vN hE J;have R:=hE.pm J;have a6:=ug [58] J.pre;have Y:=Qu hE J (qJ J.pre [58]);have b9:=vN hE { J with pre:=qJ J.pre [58] };have c4:=ahk hE { J with pre:=qJ J.pre [58] };have h2:=ku.two (.inl p1);simp only at h2;have c3:IntKind.i64.wrap ((i2.length:Int) - 1)=(i2.length:Int) - 1:=w64 (by omega) (by omega);have z1:(1:Int)≤(i2.length:Int):=by omega
    have z2:((i2.length:Int) - 1).toNat=i2.length - 1:=by omega
    have z3:i2.tail.take (i2.length - 1 - 1)=zO i2:=by unfold zO;rw [Nat.sub_sub,List.drop_one]
    have z4:1≤i2.length - 1:=by omega
    have a7:cx.lim≤m:=hl;simp -implicitDefEqProofs [af,ay,hN,fF,e1,e2,e3,A,hx,I,K,x,ef,q1,w0,e5,e6,e7,O,p,p1,a3,P,a0,R,a6,Y,uN,b9,c4,a8,a7,c3,z1,z2,z3,z4]
  by_cases Z:w=[111,119,108,58]
  ·subst Z;have a4:Go.Lib.indexByte [111,119,108,58] 58=3:=rfl;have w0:IntKind.i64.wrap 3=3:=rfl;have el:=vC 111;rw [show ltI 111=true from rfl] at el;rw [a4] at hx;have e5:=lJ hE r3 ⟨cx.lim,N⟩ hl;have w5:=dV w3;obtain ⟨a,c,q,hz,e6⟩|⟨v6,r6,h6,e6,g6⟩:=spl (iI hE [61] (bQ r3) w5 ⟨cx.lim,N⟩ hl) (aF w5 [61] (by simp))
   ·rw [hz];simp -implicitDefEqProofs [af,ay,hN,fF,e1,e2,e3,A,hx,I,K,x,ef,q1,w0,el,e5,e6]
   rw [h6];simp only [OR.bind_ok];have w6:=g6.1;obtain ⟨a,c,q,hz,e7⟩|⟨u,r7,h7,e7,g7⟩:=spl (oZ hE r6 w6.at_ ⟨cx.lim,N⟩ hl) (dI w6)
   ·rw [hz];simp -implicitDefEqProofs [af,ay,hN,fF,e1,e2,e3,A,hx,I,K,x,ef,q1,w0,el,e5,e6,e7]
   rw [h7];simp only [OR.bind_ok];obtain ⟨w7,ku⟩:=nP w6 h7;have O:=oZ hE r7 w7.at_ ⟨cx.lim,N⟩ hl;rw [(jk h7).1] at O;simp only [dD] at O;obtain ⟨k2,i2,a2⟩:=u;have b7:i2.length≤src.length:=ku.len;have p:=qB hE (xY [111,119,108,58] (k2,i2,a2)) r7 w7 ⟨cx.lim,N⟩ hl
   cases hb2:xY [111,119,108,58] (k2,i2,a2) with
   | false=>
    rw [hb2] at p;obtain ⟨a9,c9,r9,h9⟩:=zB src r7;rw [h9] at p ⊢;simp only [dA] at p;simp only [OR.bind_er,dA];unfold xY at hb2;by_cases p1:¬k2=2
    ·simp -implicitDefEqProofs [af,ay,hN,fF,e1,e2,e3,A,hx,I,K,x,ef,q1,w0,el,e5,e6,e7,O,p,p1]
    have p1:=Classical.not_not.1 p1
    have p2:¬i2=wC2:=fun h=>by
     rw [p1,h] at hb2;simp at hb2
    simp -implicitDefEqProofs [af,ay,hN,fF,e1,e2,e3,A,hx,I,K,x,ef,q1,w0,el,e5,e6,e7,O,p,p1,p2]
   | true=>
    rw [hb2] at p;rw [oM] at p ⊢;simp only [dD] at p;simp only [OR.bind_ok];have p1:k2=2:=D7 hb2
    have p2:i2=wC2:=by
     unfold xY at hb2;rw [p1] at hb2
     simpa using hb2
    have a3:=lJ hE r7 ⟨cx.lim,N⟩ hl;have a1:=dV w7;obtain ⟨a,c,q,hz,P⟩|⟨b5,J,a5,P,b4⟩:=spl (iI hE [41] (bQ r7) a1 ⟨cx.lim,N⟩ hl) (aF a1 [41] (by simp))
    ·rw [hz];simp -implicitDefEqProofs [af,ay,hN,fF,e1,e2,e3,A,hx,I,K,x,ef,q1,w0,el,e5,e6,e7,O,p,p1,p2,a3,P]
    rw [a5];simp only [OR.bind_ok];have a0:=vN hE J;have R:=hE.pm J;have a6:=ug [111,119,108,58] J.pre;have Y:=Qu hE J (qJ J.pre [111,119,108,58]);have a7:cx.lim≤m:=hl;simp -implicitDefEqProofs [af,ay,hN,fF,e1,e2,e3,A,hx,I,K,x,ef,q1,w0,el,e5,e6,e7,O,p,p1,p2,a3,P,a0,R,a6,Y,a8,a7,uN]
  by_cases Q:w=[120,115,100,58]
  ·subst Q;have a4:Go.Lib.indexByte [120,115,100,58] 58=3:=rfl;have w0:IntKind.i64.wrap 3=3:=rfl;have el:=vC 120;rw [show ltI 120=true from rfl] at el;rw [a4] at hx;have e5:=lJ hE r3 ⟨cx.lim,N⟩ hl;have w5:=dV w3;obtain ⟨a,c,q,hz,e6⟩|⟨v6,r6,h6,e6,g6⟩:=spl (iI hE [61] (bQ r3) w5 ⟨cx.lim,N⟩ hl) (aF w5 [61] (by simp))
   ·rw [hz];simp -implicitDefEqProofs [af,ay,hN,fF,e1,e2,e3,A,hx,I,K,x,ef,q1,w0,el,e5,e6]
   rw [h6];simp only [OR.bind_ok];have w6:=g6.1;obtain ⟨a,c,q,hz,e7⟩|⟨u,r7,h7,e7,g7⟩:=spl (oZ hE r6 w6.at_ ⟨cx.lim,N⟩ hl) (dI w6)
   ·rw [hz];simp -implicitDefEqProofs [af,ay,hN,fF,e1,e2,e3,A,hx,I,K,x,ef,q1,w0,el,e5,e6,e7]
   rw [h7];simp only [OR.bind_ok];obtain ⟨w7,ku⟩:=nP w6 h7;have O:=oZ hE r7 w7.at_ ⟨cx.lim,N⟩ hl;rw [(jk h7).1] at O;simp only [dD] at O;obtain ⟨k2,i2,a2⟩:=u;have b7:i2.length≤src.length:=ku.len;have p:=qB hE (xY [120,115,100,58] (k2,i2,a2)) r7 w7 ⟨cx.lim,N⟩ hl
   cases hb2:xY [120,115,100,58] (k2,i2,a2) with
   | false=>
    rw [hb2] at p;obtain ⟨a9,c9,r9,h9⟩:=zB src r7;rw [h9] at p ⊢;simp only [dA] at p;simp only [OR.bind_er,dA];unfold xY at hb2;by_cases p1:¬k2=2
    ·simp -implicitDefEqProofs [af,ay,hN,fF,e1,e2,e3,A,hx,I,K,x,ef,q1,w0,el,e5,e6,e7,O,p,p1]
    have p1:=Classical.not_not.1 p1
    have p2:¬i2=wC0:=fun h=>by
     rw [p1,h] at hb2;simp at hb2
    simp -implicitDefEqProofs [af,ay,hN,fF,e1,e2,e3,A,hx,I,K,x,ef,q1,w0,el,e5,e6,e7,O,p,p1,p2]
   | true=>
    rw [hb2] at p;rw [oM] at p ⊢;simp only [dD] at p;simp only [OR.bind_ok];have p1:k2=2:=D7 hb2
    have p2:i2=wC0:=by
     unfold xY at hb2;rw [p1] at hb2
     simpa using hb2
    have a3:=lJ hE r7 ⟨cx.lim,N⟩ hl;have a1:=dV w7;obtain ⟨a,c,q,hz,P⟩|⟨b5,J,a5,P,b4⟩:=spl (iI hE [41] (bQ r7) a1 ⟨cx.lim,N⟩ hl) (aF a1 [41] (by simp))
    ·rw [hz];simp -implicitDefEqProofs [af,ay,hN,fF,e1,e2,e3,A,hx,I,K,x,ef,q1,w0,el,e5,e6,e7,O,p,p1,p2,a3,P]
    rw [a5];simp only [OR.bind_ok];have a0:=vN hE J;have R:=hE.pm J;have a6:=ug [120,115,100,58] J.pre;have Y:=Qu hE J (qJ J.pre [120,115,100,58]);have a7:cx.lim≤m:=hl;simp -implicitDefEqProofs [af,ay,hN,fF,e1,e2,e3,A,hx,I,K,x,ef,q1,w0,el,e5,e6,e7,O,p,p1,p2,a3,P,a0,R,a6,Y,a8,a7,uN]
  have h1:=kt.one (by simp [q1])
  cases w with
  | nil=>simp at h1
  | cons c w'=>
   have el:=vC c.toNat;have b2:¬(c=58∧w'=[]):=fun h=>q3 (by rw [h.1,h.2])
   have b6:(c == 58 && w'.isEmpty)=false:=by cases h:(c == 58 && w'.isEmpty) with
    | false=>rfl
    | true=>rw [Bool.and_eq_true,beq_iff_eq,List.isEmpty_iff] at h;exact absurd h b2
   have c0:w'.length+1≤src.length:=c1;have w0:IntKind.i64.wrap (w'.length:Int)=w'.length:=w64 (by omega) (by omega);have b1:((c::w').length:Int) - 1=w'.length:=by simp
   rw [b1] at q2;rw [q2] at hx
   have q5:ltI c.toNat=true:=by
    unfold PY at hb
    simpa [q1,b1,q2,q3,b8] using hb
   rw [q5] at el;have Z:¬c::w'=[111,119,108,58]:=Z;have Q:¬c::w'=[120,115,100,58]:=Q;generalize hW:c::w'=W at *;have wW:IntKind.i64.wrap ((W.length:Int) - 1)=w'.length:=by rw [←hW];simpa using w0
   have b3:W[0]?=some c:=by rw [←hW];rfl
   have b0:W.head?=some c:=by rw [←hW];rfl
   have e5:=lJ hE r3 ⟨cx.lim,N⟩ hl;have w5:=dV w3;obtain ⟨a,c,q,hz,e6⟩|⟨v6,r6,h6,e6,g6⟩:=spl (iI hE [61] (bQ r3) w5 ⟨cx.lim,N⟩ hl) (aF w5 [61] (by simp))
   ·rw [hz];simp -implicitDefEqProofs [af,ay,hN,fF,e1,e2,e3,A,hx,I,K,x,ef,q1,w0,el,q3,Z,Q,wW,b3,b0,e5,e6]
   rw [h6];simp only [OR.bind_ok];have w6:=g6.1;obtain ⟨a,c,q,hz,e7⟩|⟨u,r7,h7,e7,g7⟩:=spl (oZ hE r6 w6.at_ ⟨cx.lim,N⟩ hl) (dI w6)
   ·rw [hz];simp -implicitDefEqProofs [af,ay,hN,fF,e1,e2,e3,A,hx,I,K,x,ef,q1,w0,el,q3,Z,Q,wW,b3,b0,e5,e6,e7]
   rw [h7];simp only [OR.bind_ok];obtain ⟨w7,ku⟩:=nP w6 h7;have O:=oZ hE r7 w7.at_ ⟨cx.lim,N⟩ hl;rw [(jk h7).1] at O;simp only [dD] at O;obtain ⟨k2,i2,a2⟩:=u;have b7:i2.length≤src.length:=ku.len;have p:=qB hE (xY W (k2,i2,a2)) r7 w7 ⟨cx.lim,N⟩ hl
   cases hb2:xY W (k2,i2,a2) with
   | false=>
    rw [hb2] at p;obtain ⟨a9,c9,r9,h9⟩:=zB src r7;rw [h9] at p ⊢;simp only [dA] at p;simp only [OR.bind_er,dA];unfold xY at hb2;by_cases p1:¬k2=2
    ·simp -implicitDefEqProofs [af,ay,hN,fF,e1,e2,e3,A,hx,I,K,x,ef,q1,w0,el,q3,Z,Q,wW,b3,b0,e5,e6,e7,O,p,p1]
    have p1:=Classical.not_not.1 p1;rw [p1] at hb2;simp [Z,Q] at hb2
   | true=>
    rw [hb2] at p;rw [oM] at p ⊢;simp only [dD] at p;simp only [OR.bind_ok];have p1:k2=2:=D7 hb2;have a3:=lJ hE r7 ⟨cx.lim,N⟩ hl;have a1:=dV w7;obtain ⟨a,c,q,hz,P⟩|⟨b5,J,a5,P,b4⟩:=spl (iI hE [41] (bQ r7) a1 ⟨cx.lim,N⟩ hl) (aF a1 [41] (by simp))
    ·rw [hz];simp -implicitDefEqProofs [af,ay,hN,fF,e1,e2,e3,A,hx,I,K,x,ef,q1,w0,el,q3,Z,Q,wW,b3,b0,e5,e6,e7,O,p,p1,a3,P]
    rw [a5];simp only [OR.bind_ok];have a0:=vN hE J;have R:=hE.pm J;have a6:=ug W J.pre;have Y:=Qu hE J (qJ J.pre W);have a7:cx.lim≤m:=hl;simp -implicitDefEqProofs [af,ay,hN,fF,e1,e2,e3,A,hx,I,K,x,ef,q1,w0,el,q3,Z,Q,wW,b3,b0,e5,e6,e7,O,p,p1,a3,P,a0,R,a6,Y,a8,a7,uN]
end
end Go.Ai.Z
namespace Go.Ai.Z
theorem abg (N a0:Nat):∀(xs l:List Ax) (r:Rd) {l':List Ax} {q:Rd},Ad N a0 xs l r=.ok l' q→q.at_=r.at_∧q.ah=r.ah∧q.op=r.op∧l'=l++xs.map (fun x=>{ x with op:=r.op })∧(∀x∈xs,fH { x with op:=r.op }=0)∧q.pre=r.pre∧q.iri=r.iri
 | [],l,r,l',q,h=>by cases h;simp
 | x::xs,l,r,l',q,h=>by
  unfold Ad at h
  split at h
  ·rename_i hc;obtain ⟨h1,h2,h3,h4,h5,h6,h7⟩:=abg N a0 xs _ _ h;refine ⟨h1,h2,h3,by rw [h4];simp,fun y hy=>?_,h6,h7⟩;rcases List.mem_cons.1 hy with rfl|hy
   ·exact hc
   ·exact h5 y hy
  ·cases h
theorem agG {src:Rl} {r q:Rd} (h:Wr src r) (h1:q.at_=r.at_) (h2:q.ah=r.ah):Wr src q∧rem src q=rem src r:=⟨⟨by rw [h1];exact h.at_,by rw [h2];exact h.ah⟩,by unfold rem;rw [h1,h2]⟩
theorem QB {src:Rl} {n N:Nat} {l l':List Ax} {r q:Rd} (hr:Wr src r) (hn:rem src r<n) (I:r.ax=axV N l) (h:Bo src n N l r=.ok l' q):Wr src q∧rem src q+1≤rem src r∧q.ax=axV N l'∧l'.length≤1024:=by
 unfold Bo at h;obtain ⟨t,r1,h1,h⟩:=OR.bind_eq h;obtain ⟨u,r2,h2,h⟩:=OR.bind_eq h;obtain ⟨u,r4,h4,h⟩:=OR.bind_eq h;obtain ⟨xs,r5,h5,h⟩:=OR.bind_eq h;obtain ⟨u,r6,h6,h⟩:=OR.bind_eq h;obtain ⟨l2,r7,h7,h⟩:=OR.bind_eq h;have g1:=(dI hr).ok h1;have g2:=(dM g1.1 _).ok h2;have kp:=uQ src r2;have g4:=(aF (dV g2.1) [40] (by simp)).ok h4;have x:rem src { r4 with op:=false }<n:=by show rem src r4<n;omega
 have g5:=(Eb (n:=n) (w:=t.2.1) (I4 g4.1 false) x).ok h5;have g6:=(aF g5.1 [41] (by simp)).ok h6
 have p:r6.ax=axV N l:=by
  rw [g6.2.2.2.2,g5.2.2.2.2];show r4.ax=_;rw [g4.2.2.2.2];show r2.ax=_;rw [g2.2.2.2.2,g1.2.2.2.2,I]
 have k7:=abg N _ xs l r6 h7;have a7:=WJ N _ xs l r6 p h7;have w7:=agG g6.1 k7.1 k7.2.1;have k5:rem src r5≤rem src r4:=g5.2.1
 split at h
 ·cases h
 ·rename_i A;cases h;exact ⟨w7.1,by rw [w7.2];omega,a7,by omega⟩
theorem D8 {src:Rl}:∀(n:Nat) (r:Rd),Wr src r→rem src r<n→qG src r 0 (pK src n r)
 | 0,r,_,hn=>absurd hn (by omega)
 | n+1,r,hr,hn=>by
  unfold pK;refine qG.bind (k:=0) (j:=0) (fV hr _).p (fun b q e h1 h2=>?_) (by omega);split
  ·refine qG.bind (k:=1) (j:=0) (D9 h1) (fun _ q2 e2 h3 h4=>?_) (by omega);exact D8 n q2 h3 (by omega)
  ·exact (aG.mk h1).p
theorem Ec {src:Rl}:∀(k:Nat) (r:Rd),Wr src r→qG src r 0 (Ae src k r)
 | 0,r,hr=>(aG.mk hr).p
 | k+1,r,hr=>by
  unfold Ae;refine qG.bind (k:=0) (j:=0) (dI hr).p (fun t q e h1 h2=>?_) (by omega);split
  ·have h:=Ec k (bQ q) (dV h1);have kp:=uQ src q
   cases hx:Ae src k (bQ q) with
   | er a c q2=>rw [hx] at h;exact h
   | ok v q2=>rw [hx] at h;obtain ⟨g1,g2,g3⟩:=h;exact ⟨g1,by omega,g3⟩
  ·exact (aG.mk h1).p
def lpE (S:Rd→St) (X:St) (k:Nat) (E:Env) (x:OR Unit):Out:=
 match x with
 | .ok _ r=>.exit k E (S r++X)
 | .er a c r=>.pan (flt a c) (S r++X)
@[simp] theorem aeT (S:Rd→St) (X:St) (k:Nat) (E:Env) (v:Unit) (r:Rd):lpE S X k E (.ok v r)=.exit k E (S r++X):=rfl
@[simp] theorem aeU (S:Rd→St) (X:St) (k:Nat) (E:Env) (a:Nat) (c:Int) (r:Rd):lpE S X k E (.er a c r)=.pan (flt a c) (S r++X):=rfl
section
variable {src:Rl} {S:Rd→St} {m N:Nat} (hE:yO src S m N)
include hE
theorem ae6 (cx:Ctx) (hl:cx.lim≤m):∀(n:Nat) (r:Rd),Wr src r→rem src r<n→
  gY (aB P0.glob (aj P0) cx true iG) [0] [(0,.v (.pt (m+1) 0))] (S r)=lpE S [] 0 [(0,.v (.pt (m+1) 0)),(4,.v (.b false))] (pK src n r)
 | 0,r,_,hn=>absurd hn (by omega)
 | n+1,r,ha,hn=>by
  unfold pK;have e1:=KE hE wB7 r ha cx hl;have g1:=fV ha wB7
  cases h1:isR src wB7 r with
  | er a c q=>
   rw [h1] at e1;simp only [dA] at e1;refine ak fun K hK=>?_;simp -implicitDefEqProofs [iG,e1]
  | ok b r1=>
   rw [h1] at e1;have k1:=g1.ok h1;simp only [dD] at e1;simp only [OR.bind_ok]
   cases b with
   | false=>
    refine ak fun K hK=>?_;simp -implicitDefEqProofs [iG,e1]
   | true=>
    simp only [if_true];have e2:=af4 hE r1 k1.1 cx hl;have g2:=D9 k1.1
    cases h2:Cb src r1 with
    | er a c q=>
     rw [h2] at e2;simp only [dA] at e2;refine ak fun K hK=>?_;simp -implicitDefEqProofs [iG,e1,e2]
    | ok v r2=>
     rw [h2] at e2;have k2:=g2.ok h2;simp only [dD] at e2;simp only [OR.bind_ok];have ih:=ae6 cx hl n r2 k2.1 (by omega);refine ak fun K hK=>?_;rw [←hK] at ih;rw [←ih];simp -implicitDefEqProofs [iG,e1,e2]
theorem ae5 (cx:Ctx) (hl:cx.lim≤m):∀(k:Nat) (i:Nat) (r:Rd),Wr src r→i+k=2→
  ∃j:Int,gY (aB P0.glob (aj P0) cx true iF) [0,2] [(0,.v (.pt (m+1) 0)),(2,.v (.i .i64 i))] (S r)=lpE S [] 2 [(0,.v (.pt (m+1) 0)),(2,.v (.i .i64 j)),(29,.v (.b false))] (Ae src k r)
 | 0,i,r,ha,hi=>by
  have h2:¬(i:Int)<2:=by omega
  refine ⟨i,ak fun K hK=>?_⟩;simp -implicitDefEqProofs [iF,h2,Ae]
 | k+1,i,r,ha,hi=>by
  have h2:(i:Int)<2:=by omega
  have p:=wI (i:=i) (by omega);unfold Ae;have e1:=oZ hE r ha.at_ cx hl;have g1:=dI ha
  cases h1:fM src r with
  | er a c q=>
   rw [h1] at e1;simp only [dA] at e1;refine ⟨0,ak fun K hK=>?_⟩;simp -implicitDefEqProofs [iF,h2,e1]
  | ok t r1=>
   rw [h1] at e1;have k1:=g1.ok h1;obtain ⟨t1,t2,t3⟩:=t;simp only [dD,fF] at e1;simp only [OR.bind_ok];by_cases q:t1=2
   ·rw [if_pos q];have e2:=lJ hE r1 cx hl;obtain ⟨j,ih⟩:=ae5 cx hl k (i+1) (bQ r1) (dV k1.1) (by omega);refine ⟨j,ak fun K hK=>?_⟩;rw [←hK,show ((i+1:Nat):Int)=(i:Int)+1 from rfl] at ih;rw [←ih];simp -implicitDefEqProofs [iF,h2,e1,q,e2,p]
   ·rw [if_neg q];refine ⟨i,ak fun K hK=>?_⟩;simp -implicitDefEqProofs [iF,h2,e1,q]
def ajc (S:Rd→St) (m:Nat) (X:St) (x:OR (List Ax)):Out:=
 match x with
 | .ok l r=>.exit 4 [(0,.v (.pt (m+1) 0)),(36,.v (.b false))] (S r++axT l)
 | .er a c r=>.pan (flt a c) (S r++X)
omit hE in
@[simp] theorem ahi (S:Rd→St) (m:Nat) (X:St) (l:List Ax) (r:Rd):ajc S m X (.ok l r)=.exit 4 [(0,.v (.pt (m+1) 0)),(36,.v (.b false))] (S r++axT l):=rfl
omit hE in
@[simp] theorem ahj (S:Rd→St) (m:Nat) (X:St) (a:Nat) (c:Int) (r:Rd):ajc S m X (.er a c r)=.pan (flt a c) (S r++X):=rfl
theorem ae4 (n:Nat) (x:n≤100000) (cx:Ctx) (hl:cx.lim≤m) (hb:cx.base≤m):∀(k:Nat) (l:List Ax) (r:Rd),Wr src r→rem src r<k→rem src r<n→r.ax=axV N l→l.length≤1024→
  ∃X,gY (aB P0.glob (aj P0) cx true fJ) [0] [(0,.v (.pt (m+1) 0))] (S r++axT l)=ajc S m X (zM src n N k l r)
 | 0,l,r,_,hk,_,_,_=>absurd hk (by omega)
 | k+1,l,r,ha,hk,hn,hax,hll=>by
  have hA:=hE.app (axT l);unfold zM;have e1:=KE hA [41] r ha cx hl;have g1:=fV ha [41]
  cases h1:isR src [41] r with
  | er a c q=>
   rw [h1] at e1;simp only [dA] at e1;refine ⟨axT l,ak fun K hK=>?_⟩;simp -implicitDefEqProofs [fJ,e1]
  | ok b r1=>
   rw [h1] at e1;have k1:=g1.ok h1;simp only [dD] at e1;simp only [OR.bind_ok]
   cases b with
   | true=>
    refine ⟨[],ak fun K hK=>?_⟩;simp -implicitDefEqProofs [fJ,e1]
   | false=>
    simp only [Bool.false_eq_true,if_false];have p:r1.ax=axV N l:=by rw [k1.2.2.2.2,hax]
    obtain ⟨X,e2⟩:=ajz hE n x l hll r1 p k1.1 (by omega) cx hl hb
    cases h2:Bo src n N l r1 with
    | er a c q=>
     rw [h2] at e2;simp only [qw] at e2;refine ⟨X,ak fun K hK=>?_⟩;simp -implicitDefEqProofs [fJ,e1,e2]
    | ok l' r2=>
     rw [h2] at e2;simp only [XG] at e2;simp only [OR.bind_ok];obtain ⟨z1,z2,z3,z4⟩:=QB k1.1 (by omega) p h2;obtain ⟨Y,ih⟩:=ae4 n x cx hl hb k l' r2 z1 (by omega) (by omega) z3 z4;refine ⟨Y,ak fun K hK=>?_⟩;rw [←hK] at ih;rw [←ih];simp -implicitDefEqProofs [fJ,e1,e2]
end
end Go.Ai.Z
namespace Go.Ai.Z
theorem QA {src:Rl} (n N:Nat):∀(k:Nat) (l:List Ax) (r:Rd) {l':List Ax} {q:Rd},Wr src r→rem src r<n→r.ax=axV N l→l.length≤1024→zM src n N k l r=.ok l' q→Wr src q∧rem src q≤rem src r∧q.ax=axV N l'∧l'.length≤1024
 | 0,l,r,l',q,_,_,_,_,h=>by cases h
 | k+1,l,r,l',q,ha,hn,hax,hll,h=>by
  unfold zM at h;obtain ⟨b,r1,h1,h⟩:=OR.bind_eq h;have k1:=(fV ha [41]).ok h1;have p:r1.ax=axV N l:=by rw [k1.2.2.2.2,hax]
  split at h
  ·cases h;exact ⟨k1.1,by omega,p,hll⟩
  ·obtain ⟨l2,r2,h2,h⟩:=OR.bind_eq h;obtain ⟨z1,z2,z3,z4⟩:=QB k1.1 (by omega) p h2;obtain ⟨y1,y2,y3,y4⟩:=QA n N k l2 r2 z1 (by omega) z3 z4 h;exact ⟨y1,by omega,y3,y4⟩
section
variable {src:Rl} {S:Rd→St} {m N:Nat} (hE:yO src S m N)
include hE
theorem aaS (n:Nat) (O:n≤100000) (r:Rd) (hr:r.ax=.ns) (ha:Wr src r) (hn:rem src r<n) (cx:Ctx) (hl:cx.lim≤m) (hb:cx.base≤m):
  ∃X,aj P0 (.fn (.func lQ) [] []) [.pt (m+1) 0] (S r) cx=ah3 S X (ML src n N r):=by
 unfold ML;have d1:=ae6 hE cx hl n r ha hn;have A:=D8 n r ha hn
 cases hp1:pK src n r with
 | er a c q=>
  rw [hp1] at d1;simp only [aeU,List.append_nil] at d1;simp only [OR.bind_er,qw];refine ⟨[],eu (by simp) ?_⟩;simp -implicitDefEqProofs [af,aY,d1]
 | ok v0 r0=>
  rw [hp1] at d1;have k1:=A.ok hp1;simp only [aeT,List.append_nil] at d1;simp only [OR.bind_ok];have w0:=k1.1;obtain ⟨a,c,q,hx,e1⟩|⟨b,r1,h1,e1,g1⟩:=spl (KE hE wB5 r0 w0 ⟨cx.lim,cx.base⟩ hl) (fV w0 wB5)
  ·rw [hx];simp only [OR.bind_er,qw];refine ⟨[],eu (by simp) ?_⟩;simp -implicitDefEqProofs [af,aY,d1,e1]
  rw [h1];simp only [OR.bind_ok];have w1:=g1.1;have hc:=vN hE r1;have hm:=hE.pm r1;have hf:=Eg [58] r1.pre;have ef:=qB hE (b && decide ([58]∈r1.pre)) r1 w1 cx hl;have gf:=dM w1 (b && decide ([58]∈r1.pre))
  cases hq:oU src (b && decide ([58]∈r1.pre)) r1 with
  | er a2 c2 r2=>
   rw [hq] at ef;simp only [dA] at ef;simp only [OR.bind_er,qw];refine ⟨[],eu (by simp) ?_⟩
   cases b with
   | false=>
    simp at ef;simp -implicitDefEqProofs [af,aY,d1,e1,ef]
   | true=>
    by_cases q:[58]∈r1.pre
    ·simp [q] at ef hf;simp -implicitDefEqProofs [af,aY,d1,e1,hc,hm,hf,ef]
    ·simp [q] at ef hf;simp -implicitDefEqProofs [af,aY,d1,e1,hc,hm,hf,ef]
  | ok v2 r2=>
   obtain ⟨x,I⟩:=lu hq;subst I;rw [hq] at ef;simp only [dD] at ef;simp only [OR.bind_ok];rw [Bool.and_eq_true,decide_eq_true_eq] at x;obtain ⟨K,q⟩:=x;subst K;simp only [q,if_true,decide_true,Bool.and_true] at ef hf;have ep:=lJ hE r2 cx hl;have wp:=dV w1;have kp:=uQ src r2;have e3:=iI hE [40] (bQ r2) wp cx hl;have g3:=aF wp [40] (by simp)
   cases h3:jM src [40] (bQ r2) with
   | er a3 c3 r3=>
    rw [h3] at e3;simp only [dA] at e3;simp only [OR.bind_er,qw];refine ⟨[],eu (by simp) ?_⟩;simp -implicitDefEqProofs [af,aY,d1,e1,hc,hm,hf,ef,ep,e3]
   | ok v3 r3=>
    rw [h3] at e3;have k3:=g3.ok h3;simp only [dD] at e3;simp only [OR.bind_ok];obtain ⟨j,e4⟩:=ae5 hE cx hl 2 0 r3 k3.1 rfl;rw [show ((0:Nat):Int)=0 from rfl] at e4;have g4:=Ec 2 r3 k3.1
    cases h4:Ae src 2 r3 with
    | er a4 c4 r4=>
     rw [h4] at e4;simp only [aeU,List.append_nil] at e4;simp only [OR.bind_er,qw];refine ⟨[],eu (by simp) ?_⟩;simp -implicitDefEqProofs [af,aY,d1,e1,hc,hm,hf,ef,ep,e3,e4]
    | ok v4 r4=>
     rw [h4] at e4;have k4:=g4.ok h4;simp only [aeT,List.append_nil] at e4;simp only [OR.bind_ok];have J:=g1
     have p:r4.ax=axV N []:=by
      rw [k4.2.2,k3.2.2.2.2];show r2.ax=_;rw [J.2.2.2.2,k1.2.2,hr];rfl
     obtain ⟨X,e5⟩:=ae4 hE n O cx hl hb n [] r4 k4.1 (by omega) (by omega) p (by simp);rw [show axT []=[] from rfl,List.append_nil] at e5;have e5:=(aag (body:=aB P0.glob (aj P0) cx true fJ) (keep:=[0]) (env:=[(0,.v (.pt (m+1) 0)),(2,.v (.i .i64 j)),(29,.v (.b false))]) (s:=S r4)).trans e5
     cases h5:zM src n N n [] r4 with
     | er a5 c5 r5=>
      rw [h5] at e5;simp only [ahj] at e5;simp only [OR.bind_er,qw];refine ⟨X,eu (by simp) ?_⟩;simp -implicitDefEqProofs [af,aY,d1,e1,hc,hm,hf,ef,ep,e3,e4,e5]
     | ok l r5=>
      rw [h5] at e5;have w5:=QA n N n [] r4 k4.1 (by omega) p (by simp) h5;simp only [ahi] at e5;simp only [OR.bind_ok];have hA:=hE.app (axT l);have e6:=lJ hA r5 cx hl;have w6:=dV w5.1;have e7:=oZ hA (bQ r5) w6.at_ cx hl;have g7:=dI w6
      cases h7:fM src (bQ r5) with
      | er a7 c7 r7=>
       rw [h7] at e7;simp only [dA] at e7;simp only [OR.bind_er,qw];refine ⟨axT l,eu (by simp) ?_⟩;simp -implicitDefEqProofs [af,aY,d1,e1,hc,hm,hf,ef,ep,e3,e4,e5,e6,e7]
      | ok t r7=>
       rw [h7] at e7;have w7:=(g7.ok h7).1;obtain ⟨t1,t2,t3⟩:=t;simp only [dD,fF] at e7;simp only [OR.bind_ok];have e8:=qB hA (decide (t1=5)) r7 w7 cx hl
       cases h8:oU src (decide (t1=5)) r7 with
       | er a8 c8 r8=>
        rw [h8] at e8;simp only [dA] at e8;simp only [OR.bind_er,qw];refine ⟨axT l,eu (by simp) ?_⟩;simp -implicitDefEqProofs [af,aY,d1,e1,hc,hm,hf,ef,ep,e3,e4,e5,e6,e7,e8]
       | ok v8 r8=>
        rw [h8] at e8;simp only [dD] at e8;simp only [OR.bind_ok,XG];refine ⟨[],eu (by simp) ?_⟩;simp -implicitDefEqProofs [af,aY,d1,e1,hc,hm,hf,ef,ep,e3,e4,e5,e6,e7,e8]
end
end Go.Ai.Z
namespace Go.Ai.Z
theorem Xh (s X:St) (k:Nat):(s++X)[s.length+k]?=X[k]?:=by rw [List.getElem?_append_right (by omega),Nat.add_sub_cancel_left]
theorem VG (s X:St):(s++X)[s.length]?=X[0]?:=Xh s X 0
theorem XU (s X:St) (k:Nat) (v:gq):(s++X).set (s.length+k) v=s++X.set k v:=by rw [List.set_append_right _ _ (by omega),Nat.add_sub_cancel_left]
theorem abd (s X:St) (v:gq):(s++X).set s.length v=s++X.set 0 v:=XU s X 0 v
def r00:Rd:=⟨0,[],[],[],false,.ns⟩
def SO (s:St) (src:Rl) (r:Rd):St:=s++[.map (qI r.pre),rO src s.length r,.map (YB s.length),.map (Y8 s.length)]
theorem ajh (s:St) (src:Rl) (hs:src.length≤70000):yO src (SO s src) s.length (s.length+4) where
 cell r:=by unfold SO;rw [Xh];rfl
 sets r q h:=by unfold SO;rw [XU,←h];rfl
 pm r:=by unfold SO;rw [VG];rfl
 setp r P:=by
  unfold SO
  have:=XU s [.map (qI r.pre),rO src s.length r,.map (YB s.length),.map (Y8 s.length)] 0 (.map (qI P))
  rw [Nat.add_zero] at this;rw [this];rfl
 im r:=by unfold SO;rw [Xh];rfl
 cm r:=by unfold SO;rw [Xh];rfl
 n r:=by simp [SO]
 src:=hs
theorem Zn (src:Rl) (s:St) (cx:Ctx) (hl:cx.lim≤s.length) (hb:cx.base≤s.length):
  aj P0 (.fn (.func tY) [] []) [.sl (aC src)] s cx=.ret (.pt (s.length+1) 0) (SO s src r00):=by
 refine Oc (by simp) ?_;have h1:cx.lim≤s.length+1:=by omega
 have h2:cx.lim≤s.length+2:=by omega
 have h3:cx.lim≤s.length+3:=by omega
 have h4:cx.base≤s.length+1:=by omega
 have h5:cx.base≤s.length+2:=by omega
 have h6:cx.base≤s.length+3:=by omega
 simp -implicitDefEqProofs [af,vT,dU,splice,Xh,VG,XU,hl,h1,h2,h3,h4,h5,h6,DV,jH,uN,SO,rO,r00,YB,Y8,rdF,qI,ahV]
def Ru (N:Nat) (src:Rl):List Ax×Rl×Nat×Int:=
 if 65536<src.length then ([],[],0,2) else match ML src (src.length+1) N r00 with
  | .ok l r=>(l,r.iri,0,0)
  | .er a c _=>([],[],a,c)
theorem ajl {src:Rl} {N:Nat} {l:List Ax} {r:Rd} (h:ML src (src.length+1) N r00=.ok l r):r.ax=axV N l∧l.length≤1024:=by
 unfold ML at h;obtain ⟨u,r0,h0,h⟩:=OR.bind_eq h;obtain ⟨b,r1,h1,h⟩:=OR.bind_eq h;obtain ⟨u,r2,h2,h⟩:=OR.bind_eq h;obtain ⟨u,r3,h3,h⟩:=OR.bind_eq h;obtain ⟨u,r4,h4,h⟩:=OR.bind_eq h;obtain ⟨l2,r5,h5,h⟩:=OR.bind_eq h;obtain ⟨t,r6,h6,h⟩:=OR.bind_eq h;obtain ⟨u,r7,h7,h⟩:=OR.bind_eq h;cases h;have w:Wr src r00:=⟨by simp [r00],by simp [r00]⟩;have hn:rem src r00<src.length+1:=by simp [rem,r00]
 have g0:=(D8 _ _ w hn).ok h0;have g1:=(fV g0.1 _).ok h1;have g2:=(dM g1.1 _).ok h2;have kp:=uQ src r2;have g3:=(aF (dV g2.1) [40] (by simp)).ok h3;have g4:=(Ec 2 r3 g3.1).ok h4;have p:r4.ax=axV N []:=by rw [g4.2.2,g3.2.2.2.2];show r2.ax=_;rw [g2.2.2.2.2,g1.2.2.2.2,g0.2.2];rfl
 have g5:=QA _ N _ [] r4 g4.1 (by omega) p (by simp) h5;have g6:=(dI (dV g5.1)).ok h6;have g7:=(dM g6.1 _).ok h7;refine ⟨?_,g5.2.2.2⟩;rw [g7.2.2.2.2,g6.2.2.2.2];exact g5.2.2.1
theorem Jo (n:Nat) (x:Ax):(cu x).under n=true:=by
 have h:∀l:List Rl,bY n (l.map AV.s)=true:=fun l=>by induction l with|nil=>rfl|cons a r ih=>simp [bY,AV.under,ih]
 rw [show cu x=.ag (cellsA x) from rfl,cellsA];simp [-adu,AV.under,bY,h]
theorem FZ (n:Nat):∀l:List Ax,bY n (l.map cu)=true
 | []=>rfl
 | x::l=>by simp [bY,Jo,FZ n l]
def Jt:St:=[.cells [.ns],.cells [.s []],.cells [.i .i64 0],.cells [.i .i64 0]]
theorem af7 (src:Rl) (hs:src.length≤70000) (s:St) (cx:Ctx) (hl:cx.lim≤s.length):
  aj P0 (.fn (.func mg) [] []) [.sl (aC src)] s cx=.ret (.tu [yC (Ru (s.length+8) src).1,.s (Ru (s.length+8) src).2.1,.i .i64 (Ru (s.length+8) src).2.2.1,.i .i64 (Ru (s.length+8) src).2.2.2]) s:=by
 refine Uo (d:=sG) rfl rfl rfl (by simp) ?_;have p:=kM src;have l1:cx.lim≤s.length+1:=by omega
 have l2:cx.lim≤s.length+2:=by omega
 have l3:cx.lim≤s.length+3:=by omega
 unfold Ru;by_cases q:65536<src.length
 ·rw [if_pos q];have qi:(65536:Int)<(src.length:Int):=by omega
  simp -implicitDefEqProofs [yE,sG,zN,Yo,p,qi,hl,l1,l2,l3,Xh,VG,XU,abd,yC,frz,AV.under,bY]
 ·rw [if_neg q];have qi:¬(65536:Int)<(src.length:Int):=by omega
  have hE:=ajh (s++Jt) src hs;have hL:(s++Jt).length=s.length+4:=by simp [Jt]
  have e1:=Zn src (s++Jt) ⟨cx.lim,s.length⟩ (by rw [hL];show cx.lim≤_;omega) (by rw [hL];show s.length≤_;omega);obtain ⟨X,e2⟩:=aaS hE (src.length+1) (by omega) r00 rfl ⟨by simp [r00],by simp [r00]⟩ (by simp [rem,r00]) ⟨cx.lim,s.length⟩ (by rw [hL];show cx.lim≤_;omega) (by rw [hL];show s.length≤_;omega);rw [hL,show s.length+4+4=s.length+8 from rfl] at e2;rw [hL] at e1
  cases hd:ML src (src.length+1) (s.length+8) r00 with
  | er a c r=>
   rw [hd] at e2;simp only [qw] at e2;simp only [AY];obtain ⟨Y,hY⟩:∃Y,SO (s++Jt) src r++X=s++(gq.cells [.ns]::gq.cells [.s []]::gq.cells [.i .i64 0]::gq.cells [.i .i64 0]::Y):=⟨[.map (qI r.pre),rO src (s++Jt).length r,.map (YB (s++Jt).length),.map (Y8 (s++Jt).length)]++X,by simp [SO,Jt]⟩;rw [hY] at e2;generalize SO (s++Jt) src r00=S1 at *;unfold Jt at *;simp -implicitDefEqProofs [yE,sG,zN,Yo,p,qi,e1,e2,placeOf,FM,wB,ng,zU,vV,flt,hl,l1,l2,l3,Xh,VG,XU,abd,frz,AV.under,bY,show AV.ns.flat=true from rfl]
  | ok l r=>
   rw [hd] at e2;simp only [XG] at e2;have A:=(ajl hd).1;have hY:SO (s++Jt) src r++axT l=s++(gq.cells [.ns]::gq.cells [.s []]::gq.cells [.i .i64 0]::gq.cells [.i .i64 0]::.map (qI r.pre)::.cells [.sl (aC src),.i .i64 r.at_,ahV r.ah,.mp (s.length+4),.s r.iri,.b r.op,axV (s.length+8) l,.mp (s.length+4+2),.mp (s.length+4+3)]::.map (YB (s.length+4))::.map (Y8 (s.length+4))::axT l):=by simp [SO,Jt,rO,A]
   rw [hY] at e2;generalize SO (s++Jt) src r00=S1 at *;unfold Jt at *;have h5:s.length+4+1=s.length+5:=rfl
   cases l with
   | nil=>
    simp only [axV,axT,h5] at e2;simp -implicitDefEqProofs [yE,sG,zN,Yo,p,qi,e1,e2,placeOf,FM,wB,ng,zU,vV,flt,hl,l1,l2,l3,Xh,VG,XU,abd,frz,AL,AV.under,bY,h5,yC,MZ,Jo,FZ,show AV.ns.flat=true from rfl]
   | cons x l=>
    simp only [axV,axT,h5] at e2;simp -implicitDefEqProofs [yE,sG,zN,Yo,p,qi,e1,e2,placeOf,FM,wB,ng,zU,vV,flt,hl,l1,l2,l3,Xh,VG,XU,abd,frz,AL,AV.under,bY,h5,yC,MZ,Jo,FZ,show AV.ns.flat=true from rfl]
end Go.Ai.Z
namespace Go.Ai.Z
inductive SmC:C→C→Prop where
 | mk (k:Int) (n:Rl) (l h:Int) (z w:Bool) (ps qs:List C) (hl:ps.length=qs.length) (hb:ps.length≤1000000)
   (hp:∀(i:Nat) (p q:C),ps[i]?=some p→qs[i]?=some q→SmC p q):SmC (.mk k n l h z ps) (.mk k n l h w qs)
theorem aeZ (k:Int) (n:Rl) (l h:Int) (z w:Bool) (ps qs:List C) (hl:ps.length=qs.length) (hb:ps.length≤1000000)
  (hp:∀(i:Nat) (p q:C),ps[i]?=some p→qs[i]?=some q→∀(s:St) (cx:Ctx),aj P0 (.fn (.func pY) [] []) [aJ p,aJ q] s cx=.ret (.b true) s) (s:St) (cx:Ctx):∀(x:List C) (i:Nat),ps.drop i=x→i≤ps.length→
  gY (aB P0.glob (aj P0) cx false vS) [2,3,5] [(2,.bx [.i .i64 k,.s n,.i .i64 l,.i .i64 h,slf z (ps.map aJ)]),(3,.bx [.i .i64 k,.s n,.i .i64 l,.i .i64 h,slf w (qs.map aJ)]),(5,.v (.i .i64 i))] s=
   .exit 0 [(2,.bx [.i .i64 k,.s n,.i .i64 l,.i .i64 h,slf z (ps.map aJ)]),(3,.bx [.i .i64 k,.s n,.i .i64 l,.i .i64 h,slf w (qs.map aJ)]),(5,.v (.i .i64 ps.length)),(45,.v (.b false))] s
 | [],i,hd,hi=>by
  have h1:i=ps.length:=by have:=drop_nil hd;omega
  subst h1;refine ak fun K hK=>?_;simp -implicitDefEqProofs [vS]
 | c::x,i,hd,hi=>by
  obtain ⟨h1,h2,h3,h4⟩:=drop_cons hd;have hq:i<qs.length:=by omega
  have h5:qs[i]?=some qs[i]:=List.getElem?_eq_getElem hq;have e1:=hp i c qs[i] h1 h5;generalize qs[i]=d at *;have A:=wI (i:=i) (by omega);have ih:=aeZ k n l h z w ps qs hl hb hp s cx x (i+1) h2 (by omega);refine ak fun K hK=>?_;rw [←hK,show ((i+1:Nat):Int)=(i:Int)+1 from rfl] at ih;clear hK h4 hd hp;rw [←ih];clear ih;have g1:(ps.map aJ)[i]?=some (aJ c):=by rw [List.getElem?_map,h1];rfl
  have g2:(qs.map aJ)[i]?=some (aJ d):=by rw [List.getElem?_map,h5];rfl
  have z1:(ps.map aJ).length=ps.length:=List.length_map _;generalize ps.map aJ=P at *;generalize qs.map aJ=Q at *;have I:(i:Int)<(ps.length:Int):=by omega
  simp -implicitDefEqProofs [vS,z1,I,g1,g2,e1,A]
theorem af2 {a b:C} (h:SmC a b):∀(s:St) (cx:Ctx),aj P0 (.fn (.func pY) [] []) [aJ a,aJ b] s cx=.ret (.b true) s:=by
 induction h with
 | mk k n l h z w ps qs hl hb hp ih=>
  intro s cx;refine UI (by simp) ?_;have e1:=aeZ k n l h z w ps qs hl hb ih s ⟨s.length,s.length⟩ ps 0 rfl (by omega);rw [show ((0:Nat):Int)=0 from rfl] at e1;rw [yD,yD (.mk k n l h w qs)];simp -implicitDefEqProofs [-VI,af,zy,e1,hl]
theorem abD (ps:List Rl) (z w:Bool) (hb:ps.length≤1000000) (s:St) (cx:Ctx):∀(p:List Rl) (i:Nat),ps.drop i=p→i≤ps.length→
  gY (aB P0.glob (aj P0) cx false pU) [0,1,5] [(0,.v (slf z (ps.map .s))),(1,.v (slf w (ps.map .s))),(5,.v (.i .i64 i))] s=
   .exit 0 [(0,.v (slf z (ps.map .s))),(1,.v (slf w (ps.map .s))),(5,.v (.i .i64 ps.length)),(14,.v (.b false))] s
 | [],i,hd,hi=>by
  have h1:i=ps.length:=by have:=drop_nil hd;omega
  subst h1;refine ak fun K hK=>?_;simp -implicitDefEqProofs [pU]
 | c::p,i,hd,hi=>by
  obtain ⟨h1,h2,h3,h4⟩:=drop_cons hd;have x:=wI (i:=i) (by omega);have ih:=abD ps z w hb s cx p (i+1) h2 (by omega);refine ak fun K hK=>?_;rw [←hK,show ((i+1:Nat):Int)=(i:Int)+1 from rfl] at ih;clear hK h4 hd;rw [←ih];clear ih;have g1:(ps.map AV.s)[i]?=some (.s c):=by rw [List.getElem?_map,h1];rfl
  have z1:(ps.map AV.s).length=ps.length:=List.length_map _;generalize ps.map AV.s=P at *;have A:(i:Int)<(ps.length:Int):=by omega
  simp -implicitDefEqProofs [pU,z1,A,g1,x]
theorem ahI (ps:List Rl) (z w:Bool) (hb:ps.length≤1000000) (s:St) (cx:Ctx):aj P0 (.fn (.func rD) [] []) [slf z (ps.map .s),slf w (ps.map .s)] s cx=.ret (.b true) s:=by
 refine L9 (by simp) ?_;have e1:=abD ps z w hb s ⟨s.length,s.length⟩ ps 0 rfl (by omega);rw [show ((0:Nat):Int)=0 from rfl] at e1;simp -implicitDefEqProofs [af,uG,e1]
structure SmA (x y:Ax):Prop where
 kind:x.kind=y.kind
 op:x.op=y.op
 l:SmC x.left y.left
 r:SmC x.right y.right
 roles:x.roles=y.roles
 rb:x.roles.length≤1000000
 role:x.role=y.role
 a:x.a=y.a
 b:x.b=y.b
theorem ahJ {x y:Ax} (h:SmA x y) (s:St) (cx:Ctx):aj P0 (.fn (.func pX) [] []) [cu x,cu y] s cx=.ret (.b true) s:=by
 refine JX (by simp) ?_;have e1:=af2 h.l;have e2:=af2 h.r;have e3:=ahI x.roles x.z y.z h.rb
 have e4:∀b:Bool,(b == b)=true:=fun b=>by cases b<;>rfl
 rw [yD,yD y.left] at e1;rw [yD,yD y.right] at e2;obtain ⟨k1,o1,l1,r1,z1,R1,p,a1,b1⟩:=x;obtain ⟨k2,o2,l2,r2,z2,R2,A,a2,b2⟩:=y;obtain ⟨h1,h2,_,_,h5,_,h6,h7,h8⟩:=h;simp only at h1 h2 h5 h6 h7 h8 e1 e2 e3;subst h1 h2 h5 h6 h7 h8
 cases o1<;>simp -implicitDefEqProofs [-VI,af,sK,e1,e2,e3]
theorem abC (X Y:List Ax) (z w:Bool) (hl:X.length=Y.length) (hb:X.length≤1000000) (hp:∀(i:Nat) (p q:Ax),X[i]?=some p→Y[i]?=some q→SmA p q) (s:St) (cx:Ctx):∀(x:List Ax) (i:Nat),X.drop i=x→i≤X.length→
  gY (aB P0.glob (aj P0) cx false nU) [0,1,5] [(0,.v (slf z (X.map cu))),(1,.v (slf w (Y.map cu))),(5,.v (.i .i64 i))] s=
   .exit 0 [(0,.v (slf z (X.map cu))),(1,.v (slf w (Y.map cu))),(5,.v (.i .i64 X.length)),(14,.v (.b false))] s
 | [],i,hd,hi=>by
  have h1:i=X.length:=by have:=drop_nil hd;omega
  subst h1;refine ak fun K hK=>?_;simp -implicitDefEqProofs [nU]
 | c::x,i,hd,hi=>by
  obtain ⟨h1,h2,h3,h4⟩:=drop_cons hd;have hq:i<Y.length:=by omega
  have h5:Y[i]?=some Y[i]:=List.getElem?_eq_getElem hq;have e1:=ahJ (hp i c Y[i] h1 h5);generalize Y[i]=d at *;have A:=wI (i:=i) (by omega);have ih:=abC X Y z w hl hb hp s cx x (i+1) h2 (by omega);refine ak fun K hK=>?_;rw [←hK,show ((i+1:Nat):Int)=(i:Int)+1 from rfl] at ih;clear hK h4 hd hp;rw [←ih];clear ih;have g1:(X.map cu)[i]?=some (cu c):=by rw [List.getElem?_map,h1];rfl
  have g2:(Y.map cu)[i]?=some (cu d):=by rw [List.getElem?_map,h5];rfl
  have z1:(X.map cu).length=X.length:=List.length_map _;generalize X.map cu=P at *;generalize Y.map cu=Q at *;have I:(i:Int)<(X.length:Int):=by omega
  simp -implicitDefEqProofs [nU,z1,I,g1,g2,e1,A]
theorem af0 (X Y:List Ax) (z w:Bool) (hl:X.length=Y.length) (hb:X.length≤1000000) (hp:∀(i:Nat) (p q:Ax),X[i]?=some p→Y[i]?=some q→SmA p q) (s:St) (cx:Ctx):
  aj P0 (.fn (.func oO) [] []) [slf z (X.map cu),slf w (Y.map cu)] s cx=.ret (.b true) s:=by
 refine IE (by simp) ?_;have e1:=abC X Y z w hl hb hp s ⟨s.length,s.length⟩ X 0 rfl (by omega);rw [show ((0:Nat):Int)=0 from rfl] at e1;simp -implicitDefEqProofs [af,qL,e1,hl]
end Go.Ai.Z
namespace Go.Ai.Z
abbrev Tx:=Int×Rl
theorem adz {c:UInt8} (h:(c.toNat:Int)=35):En c=true:=by unfold En;rw [h];rfl
theorem F6:∀(n m:Nat) (v:Rl),v.length≤n→v.length≤m→skN n v=skN m v
 | 0,m,v,h1,h2=>by
  cases v with
  | nil=>cases m<;>rfl
  | cons c r=>simp at h1
 | n+1,m,[],h1,h2=>by cases m<;>rfl
 | n+1,0,c::r,h1,h2=>by simp at h2
 | n+1,m+1,c::r,h1,h2=>by
  simp at h1 h2;unfold skN;split
  ·rw [F6 n m r h1 h2]
  split
  ·rename_i hc;have hk:1≤kW En (c::r):=by simp [kW,adz hc]
   have hd:((c::r).drop (kW En (c::r))).length≤r.length:=by rw [List.length_drop];simp;omega
   rw [F6 n m _ (by omega) (by omega)]
  ·rfl
def skp (v:Rl):Rl:=v.drop (skN v.length v)
def Nx (v:Rl) (t:Tx) (w:Rl):Prop:=skp v=t.2++w∧t.2≠[]∧jG (t.2++w)=(t.1,t.2.length)
def Ly (P:Rl→Prop):Rl→List Tx→Prop
 | v,[]=>P v
 | v,t::L=>∃w,Nx v t w∧Ly P w L
def NxE (v:Rl):Prop:=skp v=[]
def My (P:Rl→Prop) (src:Rl) (r:Rd) (L:List Tx):Prop:=
 match r.ah with
 | []=>Ly P (src.drop r.at_) L
 | t::_=>∃M,L=(t.1,t.2.1)::M∧Ly P (src.drop r.at_) M
structure Fq (r q:Rd):Prop where
 pre:q.pre=r.pre
 iri:q.iri=r.iri
 op:q.op=r.op
 ax:q.ax=r.ax
theorem Fq.rfl' (r:Rd):Fq r r:=⟨rfl,rfl,rfl,rfl⟩
theorem Fq.tr {r q p:Rd} (h:Fq r q) (g:Fq q p):Fq r p:=⟨g.pre.trans h.pre,g.iri.trans h.iri,g.op.trans h.op,g.ax.trans h.ax⟩
theorem Fq.ps {r q:Rd} (h:Fq r q):Fq r (bQ q):=⟨h.pre,h.iri,h.op,h.ax⟩
section
variable {P:Rl→Prop} {src:Rl}
theorem pO {r:Rd} {t:Tx} {L:List Tx} (h:My P src r (t::L)):∃a q,fM src r=.ok (t.1,t.2,a) q∧My P src q (t::L)∧My P src (bQ q) L∧Fq r q:=by
 unfold My at h;unfold fM
 cases hh:r.ah with
 | cons u U=>
  rw [hh] at h;obtain ⟨M,h1,h2⟩:=h;rw [List.cons.injEq] at h1;obtain ⟨h1,rfl⟩:=h1;subst h1;refine ⟨u.2.2,r,rfl, ?_, ?_,Fq.rfl' r⟩
  ·unfold My;rw [hh];exact ⟨_,rfl,h2⟩
  ·exact h2
 | nil=>
  rw [hh] at h;obtain ⟨w,⟨h1,h2,h3⟩,h4⟩:=h
  have hs:src.drop (skO src r.at_)=t.2++w:=by
   unfold skO;rw [←List.drop_drop,F6 src.length (src.drop r.at_).length _ (by rw [List.length_drop];omega) (Nat.le_refl _)];exact h1
  have x:skO src r.at_<src.length:=by
   apply Classical.byContradiction;intro hc;rw [List.drop_eq_nil_of_le (by omega)] at hs
   cases ht:t.2 with
   | nil=>exact h2 ht
   | cons a b=>rw [ht] at hs;cases hs
  have hl:t.2.length≠0:=fun hc=>h2 (List.length_eq_zero_iff.1 hc);have A:(t.2++w).take t.2.length=t.2:=by simp
  have p:src.drop (skO src r.at_+t.2.length)=w:=by rw [←List.drop_drop,hs];simp
  rw [if_pos x,hs,h3,if_neg hl,A];refine ⟨skO src r.at_,_,rfl, ?_, ?_,⟨rfl,rfl,rfl,rfl⟩⟩
  ·exact ⟨L,rfl,by show Ly P (src.drop (skO src r.at_+t.2.length)) L;rw [p];exact h4⟩
  ·show Ly P (src.drop (skO src r.at_+t.2.length)) L;rw [p];exact h4
theorem ai9 {r:Rd} (h:My NxE src r []):∃a q,fM src r=.ok (5,[],a) q∧Fq r q:=by
 unfold My at h;unfold fM
 cases hh:r.ah with
 | cons u U=>rw [hh] at h;obtain ⟨M,h1,_⟩:=h;cases h1
 | nil=>
  rw [hh] at h
  have hs:src.drop (skO src r.at_)=[]:=by
   unfold skO;rw [←List.drop_drop,F6 src.length (src.drop r.at_).length _ (by rw [List.length_drop];omega) (Nat.le_refl _)];exact h
  rw [if_neg (by have:=List.drop_eq_nil_iff.1 hs;omega)];exact ⟨_,_,rfl,⟨rfl,rfl,rfl,rfl⟩⟩
theorem yh {r:Rd} {t:Tx} {L:List Tx} (h:My P src r (t::L)) (w:Rl):∃q,isR src w r=.ok (decide (t.2=w)) q∧My P src q (t::L)∧My P src (bQ q) L∧Fq r q:=by
 obtain ⟨a,q,h1,h2,h3,h4⟩:=pO h;exact ⟨q,by unfold isR;rw [h1];rfl,h2,h3,h4⟩
theorem kX {r:Rd} {t:Tx} {L:List Tx} (h:My P src r (t::L)) {w:Rl} (ht:t.2=w):∃q,jM src w r=.ok () q∧My P src q L∧Fq r q:=by
 obtain ⟨q,h1,h2,h3,h4⟩:=yh h w;refine ⟨bQ q, ?_,h3,h4.ps⟩;unfold jM;rw [h1,decide_eq_true ht];rfl
theorem RX {r:Rd} {t:Tx} {L:List Tx} (h:My P src r (t::L)) {w p:Rl} (ht:t.2=w) (hp:p∈r.pre):∃q,IK src w p r=.ok () q∧My P src q L∧Fq r q:=by
 obtain ⟨q,h1,h2,h3,h4⟩:=yh h w;refine ⟨bQ q, ?_,h3,h4.ps⟩;unfold IK;rw [h1,decide_eq_true ht];simp only [OR.bind_ok,h4.pre,hp,decide_true,Bool.and_self,oM]
structure NmP (pre:List Rl) (n:Rl):Prop where
 ne:n≠[]
 own:(58:UInt8) ∉ n→([58]:Rl)∈pre
 far:∀x y,lH 58 n=some (x,y)→x≠[]∧y≠[]∧(58:UInt8) ∉ y∧x++[58]∈pre∧x≠[111,119,108]∧x≠[120,115,100]
theorem aeK {pre:List Rl} {n:Rl} (h:NmP pre n) (a:Nat):RU pre (4,owN n,a)=true∧XK (owN n)=n:=by
 unfold owN;by_cases q:(58:UInt8)∈n
 ·rw [if_pos q]
  obtain ⟨x,y,hc⟩:∃x y,lH 58 n=some (x,y):=by
   cases hc:lH 58 n with
   | none=>exact absurd q (zi.1 hc)
   | some p=>exact ⟨p.1,p.2,rfl⟩
  obtain ⟨h1,h2,h3,h4,h5,h6⟩:=h.far x y hc;have he:=wM hc;constructor
  ·unfold RU;simp only [hc]
   have hy:y.isEmpty=false:=by cases y<;>simp_all
   simp [hy,h3,h4,h5,h6]
  ·unfold XK trimB
   cases n with
   | nil=>rfl
   | cons c r=>
    have I:c≠58:=by
     intro A;subst A;simp [lH] at hc;exact h1 hc.1
    simp only;rw [if_neg I]
 ·rw [if_neg q]
  have hn:n.isEmpty=false:=by
   cases n with
   | nil=>exact absurd rfl h.ne
   | cons=>rfl
  constructor
  ·unfold RU;simp only [lH,if_true];simp [hn,q,h.own q]
  ·simp [XK,trimB]
theorem sF {r:Rd} {n:Rl} {L:List Tx} (h:My P src r ((4,owN n)::L)) (hn:NmP r.pre n):∃q,nG src r=.ok n q∧My P src q L∧Fq r q:=by
 obtain ⟨a,q,h1,h2,h3,h4⟩:=pO h;obtain ⟨k1,k2⟩:=aeK hn a;refine ⟨bQ q, ?_,h3,h4.ps⟩;unfold nG;rw [h1];simp only [OR.bind_ok,h4.pre,k1,oM,k2]
end
theorem Nu {c:UInt8} (h:c=32∨c=10) (v:Rl):skp (c::v)=skp v:=by
 unfold skp
 have:skN (c::v).length (c::v)=1+skN v.length v:=by
  simp only [List.length_cons,skN]
  rw [if_pos (by rcases h with rfl|rfl<;>simp)]
 rw [this,Nat.add_comm];rfl
theorem Bg {c:UInt8} (h:¬((c.toNat:Int)=9∨(c.toNat:Int)=10∨(c.toNat:Int)=13∨(c.toNat:Int)=32)) (h2:¬(c.toNat:Int)=35) (v:Rl):skp (c::v)=c::v:=by
 unfold skp
 have:skN (c::v).length (c::v)=0:=by simp only [List.length_cons,skN];rw [if_neg h,if_neg h2]
 rw [this];rfl
theorem aeI {c:UInt8} (h:c=32∨c=10) {v w:Rl} {t:Tx} (hx:Nx v t w):Nx (c::v) t w:=by
 unfold Nx;rw [Nu h];exact hx
theorem SI {P:Rl→Prop} {c:UInt8} (h:c=32∨c=10) {v:Rl} {t:Tx} {L:List Tx} (hx:Ly P v (t::L)):Ly P (c::v) (t::L):=by
 obtain ⟨w,h1,h2⟩:=hx;exact ⟨w,aeI h h1,h2⟩
theorem abo {c:UInt8} (h:c=40∨c=41∨c=61) (v:Rl):Nx (c::v) (1,[c]) v:=by
 unfold Nx;refine ⟨?_,by simp, ?_⟩
 ·rw [Bg]<;>rcases h with rfl|rfl|rfl<;>simp
 ·rcases h with rfl|rfl|rfl<;>simp [jG]
theorem Yh (v:Rl):Nx (94::94::v) (1,[94,94]) v:=by
 unfold Nx;refine ⟨?_,by simp, ?_⟩
 ·rw [Bg]<;>simp
 ·simp [jG]
theorem ab7 {c:UInt8} (h:zF c=true):¬((c.toNat:Int)=9∨(c.toNat:Int)=10∨(c.toNat:Int)=13∨(c.toNat:Int)=32)∧¬(c.toNat:Int)=35∧¬((c.toNat:Int)=40∨(c.toNat:Int)=41∨(c.toNat:Int)=61)∧¬(c.toNat:Int)=94∧¬(c.toNat:Int)=60∧¬(c.toNat:Int)=34:=by
 unfold zF wdI ltI at h;simp only [Bool.or_eq_true,Bool.and_eq_true,decide_eq_true_eq] at h;omega
theorem KQ {p:UInt8→Bool}:∀{w:Rl},w.all p=true→∀{v:Rl},(∀c∈v.head?,p c=false)→kW p (w++v)=w.length
 | [],_,v,hv=>by
  cases v with
  | nil=>rfl
  | cons c v=>have:=hv c (by simp);simp [kW,this]
 | c::w,h,v,hv=>by
  rw [List.all_cons,Bool.and_eq_true] at h;have ih:=KQ (p:=p) h.2 hv;unfold kW at ih ⊢;simp [h.1,ih]
theorem WU {w:Rl} (hw:w.all zF=true) (hn:w≠[]) {v:Rl} (hv:∀c∈v.head?,zF c=false):Nx (w++v) (4,w) v:=by
 unfold Nx
 cases w with
 | nil=>exact absurd rfl hn
 | cons c w=>
  have hc:zF c=true:=by rw [List.all_cons,Bool.and_eq_true] at hw;exact hw.1
  obtain ⟨h1,h2,h3,h4,h5,h6⟩:=ab7 hc;refine ⟨by rw [List.cons_append,Bg h1 h2],hn, ?_⟩;have hs:=KQ hw hv;rw [List.cons_append] at hs ⊢;simp only [jG,if_neg h3,if_neg h4,if_neg h5,if_neg h6,hs]
theorem aeH {p:Rl} (hp:p.all Dq=true) (v:Rl):Nx (60::(p++62::v)) (2,60::(p++[62])) v:=by
 unfold Nx;have hs:kW Dq (p++62::v)=p.length:=KQ hp (by intro c hc;simp at hc;subst hc;decide)
 refine ⟨by rw [Bg]<;>simp,by simp, ?_⟩
 have he:G9 Dq 62 (60::(p++62::v))=p.length+2:=by
  unfold G9;rw [List.tail_cons,hs]
  have:(60::(p++62::v))[1+p.length]?=some 62:=by rw [Nat.add_comm];simp
  rw [if_pos this];omega
 simp [jG,he]
theorem aeG {p:Rl} (hp:p.all QY=true) (v:Rl):Nx (34::(p++34::v)) (3,34::(p++[34])) v:=by
 unfold Nx;have hs:kW QY (p++34::v)=p.length:=KQ hp (by intro c hc;simp at hc;subst hc;decide)
 refine ⟨by rw [Bg]<;>simp,by simp, ?_⟩
 have he:G9 QY 34 (34::(p++34::v))=p.length+2:=by
  unfold G9;rw [List.tail_cons,hs]
  have:(34::(p++34::v))[1+p.length]?=some 34:=by rw [Nat.add_comm];simp
  rw [if_pos this];omega
 simp [jG,he]
end Go.Ai.Z
namespace Go.Ai.Z
theorem ahl {b:UInt8} (h:aas b=true):zF b=true∧b≠58:=by
 unfold aas aje acL at h;simp only [Bool.or_eq_true,Bool.and_eq_true,decide_eq_true_eq] at h;constructor
 ·unfold zF wdI ltI;simp only [Bool.or_eq_true,Bool.and_eq_true,decide_eq_true_eq];omega
 ·rintro rfl;revert h;decide
theorem KP:∀{l:Rl},I5 l=true→l.all zF=true∧(58:UInt8) ∉ l
 | [],_=>⟨rfl,by simp⟩
 | b::r,h=>by
  rw [Jq,Bool.and_eq_true] at h;obtain ⟨h1,h2⟩:=KP h.2;obtain ⟨h3,h4⟩:=ahl h.1;exact ⟨by rw [List.all_cons,h3,h1];rfl,by simp [h2,Ne.symm h4]⟩
theorem qM {l:Rl} (h:Ba l=true):l≠[]∧l.all zF=true∧(58:UInt8) ∉ l∧(∃c r,l=c::r∧ltI c.toNat=true):=by
 unfold Ba at h;rw [Bool.and_eq_true,Bool.and_eq_true] at h;obtain ⟨h1,h2⟩:=KP h.1.2
 cases l with
 | nil=>simp at h
 | cons c r=>exact ⟨by simp,h1,h2,c,r,rfl,h.1.1⟩
def NmV (n:Rl):Prop:=oV n=true∨Ny n=true
theorem TK {n:Rl} (h:(58:UInt8) ∉ n):lH 58 n=none:=zi.2 h
theorem Vr {n:Rl} (h:NmV n):((58:UInt8) ∉ n∧n≠[]∧n.all zF=true)∨(∃x y,lH 58 n=some (x,y)∧Ba x=true∧Ba y=true):=by
 rcases h with h|h
 ·unfold oV at h;rw [Bool.and_eq_true] at h
  cases hc:lH 58 n with
  | none=>
   rw [hc] at h;obtain ⟨h1,h2,h3,_⟩:=qM h.2;exact .inl ⟨h3,h1,h2⟩
  | some p=>
   rw [hc] at h;simp only [Bool.and_eq_true] at h;exact .inr ⟨p.1,p.2,rfl,h.2.1,h.2.2⟩
 ·unfold Ny at h;simp only [Bool.and_eq_true,decide_eq_true_eq] at h;obtain ⟨h1,h2⟩:=KP h.2;exact .inl ⟨h2,by rintro rfl;simp at h,h1⟩
theorem abj {n:Rl} (h:NmV n):(owN n).all zF=true∧owN n≠[]:=by
 unfold owN;rcases Vr h with ⟨h1,h2,h3⟩|⟨x,y,h1,h2,h3⟩
 ·rw [if_neg h1];exact ⟨by rw [List.all_cons,h3];rfl,by simp⟩
 ·have he:=wM h1;rw [if_pos (by rw [he];simp)];obtain ⟨_,k2,_,_⟩:=qM h2;obtain ⟨_,k6,_,_⟩:=qM h3;subst he;refine ⟨?_,by simp⟩;rw [List.all_append,List.all_cons,k2,k6];rfl
structure NmD (pre:List Rl) (n:Rl):Prop where
 own:([58]:Rl)∈pre
 far:∀x y,lH 58 n=some (x,y)→x++[58]∈pre∧x≠[111,119,108]∧x≠[120,115,100]
theorem ai8 {pre:List Rl} {n:Rl} (h:NmV n) (hd:NmD pre n):NmP pre n:=by
 rcases Vr h with ⟨h1,h2,h3⟩|⟨x,y,h1,h2,h3⟩
 ·exact ⟨h2,fun _=>hd.own,fun x y hc=>by rw [TK h1] at hc;cases hc⟩
 ·refine ⟨by rintro rfl;simp [lH] at h1,fun _=>hd.own,fun u v hc=>?_⟩;rw [h1] at hc;cases hc;obtain ⟨k1,_⟩:=qM h2;obtain ⟨k5,_,k7,_⟩:=qM h3;obtain ⟨a1,a2,a3⟩:=hd.far _ _ h1;exact ⟨k1,k5,k7,a1,a2,a3⟩
theorem Qx (n:Rl):(58:UInt8)∈owN n:=by
 unfold owN;split
 ·assumption
 ·simp
theorem NG {pre:List Rl} {n:Rl} (hn:NmP pre n) (w:Rl) (hw:(58:UInt8) ∉ w∨(∃y,lH 58 w=some ([111,119,108],y))∨(∃y,lH 58 w=some ([120,115,100],y))):owN n≠w:=by
 rintro rfl
 have hc:∃x y,lH 58 (owN n)=some (x,y)∧x≠[111,119,108]∧x≠[120,115,100]:=by
  unfold owN;by_cases q:(58:UInt8)∈n
  ·rw [if_pos q]
   cases hc:lH 58 n with
   | none=>exact absurd q (zi.1 hc)
   | some p=>obtain ⟨_,_,_,_,h5,h6⟩:=hn.far p.1 p.2 hc;exact ⟨p.1,p.2,rfl,h5,h6⟩
  ·rw [if_neg q];exact ⟨[],n,by simp [lH],by simp,by simp⟩
 obtain ⟨x,y,h1,h2,h3⟩:=hc;rcases hw with hw|⟨z,hz⟩|⟨z,hz⟩
 ·exact hw (Qx n)
 ·rw [h1] at hz;cases hz;exact h2 rfl
 ·rw [h1] at hz;cases hz;exact h3 rfl
def Par {α:Type} (P:Rl→Prop) (src:Rl) (pre:List Rl) (f:Rd→OR α) (v:α) (T:List Tx):Prop:=
 T≠[]∧(∀t∈T.head?,t.2≠[41])∧∀(r:Rd) (L:List Tx),My P src r (T++L)→r.pre=pre→∃q,f r=.ok v q∧My P src q L∧Fq r q
theorem LD {α:Type} {P:Rl→Prop} {src:Rl} {pre:List Rl} {f:Rd→OR α}:∀(vs:List α) (T:α→List Tx),(∀v∈vs,Par P src pre f v (T v))→∀(g:α→α) (hg:∀v∈vs,g v=v) (n:Nat) (p:List α) (r:Rd) (L:List Tx),vs.length<n→2≤p.length+vs.length→r.pre=pre→
  My P src r (vs.flatMap T++(1,[41])::L)→∃q,mW src f 2 n p r=.ok (p++vs) q∧My P src q ((1,[41])::L)∧Fq r q
 | [],T,_,g,hg,n,p,r,L,hn,ha,hr,h=>by
  obtain ⟨n,rfl⟩:∃k,n=k+1:=⟨n - 1,by simp at hn;omega⟩;obtain ⟨q,h1,h2,h3,h4⟩:=yh (t:=(1,[41])) h [41];refine ⟨q, ?_,h2,h4⟩;unfold mW;rw [if_neg (by simp at ha;omega),h1];simp
 | v::vs,T,hT,g,hg,n,p,r,L,hn,ha,hr,h=>by
  obtain ⟨n,rfl⟩:∃k,n=k+1:=⟨n - 1,by simp at hn;omega⟩;obtain ⟨p1,p2,p3⟩:=hT v (by simp);rw [List.flatMap_cons,List.append_assoc] at h
  have key:∀r1,My P src r1 (T v++(vs.flatMap T++(1,[41])::L))→r1.pre=pre→∃q,((f r1).bind fun v r=>mW src f 2 n (p++[v]) r)=.ok (p++v::vs) q∧My P src q ((1,[41])::L)∧Fq r1 q:=fun r1 h1 x=>by
   obtain ⟨q,e1,e2,e3⟩:=p3 r1 _ h1 x;obtain ⟨q2,e4,e5,e6⟩:=LD vs T (fun u hu=>hT u (by simp [hu])) g (fun u hu=>hg u (by simp [hu])) n (p++[v]) q L (by simp at hn;omega) (by simp at ha ⊢;omega) (e3.pre.trans x) e2;exact ⟨q2,by rw [e1,OR.bind_ok,e4];simp,e5,e3.tr e6⟩
  unfold mW;by_cases z:p.length<2
  ·rw [if_pos z];simp only [OR.bind_ok,Bool.false_eq_true,if_false];exact key r h hr
  ·rw [if_neg z]
   cases hT':T v with
   | nil=>exact absurd hT' p1
   | cons t T'=>
    have hd:=p2 t (by rw [hT'];rfl);rw [hT',List.cons_append] at h;obtain ⟨q,h1,h2,h3,h4⟩:=yh h [41];rw [h1,decide_eq_false hd];simp only [OR.bind_ok,Bool.false_eq_true,if_false];obtain ⟨q2,k1,k2,k3⟩:=key q (by rw [hT',List.cons_append];exact h2) (h4.pre.trans hr);exact ⟨q2,k1,k2,h4.tr k3⟩
def RQ:List Tx:=[(4,wC1),(1,[40]),(4,[58,111,112,101,110]),(3,wD0),(1,[41])]
theorem Yk {P:Rl→Prop} {src:Rl} {r:Rd} {t:Tx} {L:List Tx} (n:Nat) (h:My P src r (t::L)) (ht:t.2≠wC1):∃q,oH src (n+1) r=.ok () q∧My P src q (t::L)∧Fq r q:=by
 obtain ⟨q,h1,h2,h3,h4⟩:=yh h wC1;refine ⟨q, ?_,h2,h4⟩;unfold oH;rw [h1,decide_eq_false ht];simp
theorem aeO {P:Rl→Prop} {src:Rl} {r:Rd} {t:Tx} {L:List Tx} (n:Nat) (b:Bool) (h:My P src r ((if b=true then RQ else [])++t::L)) (ht:t.2≠wC1) (hp:([58]:Rl)∈r.pre) (ho:r.op=false):
  ∃q,oH src (n+2) r=.ok () q∧My P src q (t::L)∧q.pre=r.pre∧q.iri=r.iri∧q.op=b∧q.ax=r.ax:=by
 cases b with
 | false=>
  obtain ⟨q,h1,h2,h3⟩:=Yk (n+1) h ht;exact ⟨q,h1,h2,h3.pre,h3.iri,h3.op.trans ho,h3.ax⟩
 | true=>
  simp only [if_true,RQ,List.cons_append,List.nil_append] at h;obtain ⟨q,h1,h2,h3,h4⟩:=yh h wC1;obtain ⟨q1,a1,a2,a3⟩:=kX h3 (w:=[40]) rfl;obtain ⟨q2,b1,b2,b3⟩:=sF (n:=[111,112,101,110]) (r:=q1) (by exact a2) ⟨by simp,fun _=>by rw [a3.pre];show _∈q.pre;rw [h4.pre];exact hp,fun x y hc=>by simp [lH] at hc⟩;obtain ⟨a,q3,c1,c2,c3,c4⟩:=pO b2;obtain ⟨q4,d1,d2,d3⟩:=kX c3 (w:=[41]) rfl;obtain ⟨q5,f1,f2,f3⟩:=Yk (src:=src) (P:=P) (r:={ q4 with op:=true }) n (t:=t) (L:=L) d2 ht;refine ⟨q5, ?_,f2, ?_, ?_,f3.op, ?_⟩
  ·unfold oH;rw [h1];simp only [decide_true,OR.bind_ok,if_true,a1,b1,c1,oM,d1]
   have:q4.op || (decide True && decide True)=true:=by simp
   simpa using f1
  ·rw [f3.pre];show q4.pre=_;rw [d3.pre];show q3.pre=_;rw [c4.pre,b3.pre,a3.pre];exact h4.pre
  ·rw [f3.iri];show q4.iri=_;rw [d3.iri];show q3.iri=_;rw [c4.iri,b3.iri,a3.iri];exact h4.iri
  ·rw [f3.ax];show q4.ax=_;rw [d3.ax];show q3.ax=_;rw [c4.ax,b3.ax,a3.ax];exact h4.ax
theorem Ya (N a0:Nat):∀(xs l:List Ax) (r:Rd),(∀x∈xs,fH { x with op:=r.op }=0)→∃A,Ad N a0 xs l r=.ok (l++xs.map fun x=>{ x with op:=r.op }) { r with ax:=A }
 | [],l,r,_=>⟨r.ax,by simp [Ad]⟩
 | x::xs,l,r,h=>by
  obtain ⟨A,hA⟩:=Ya N a0 xs (l++[{ x with op:=r.op }]) { r with ax:=axV N (l++[{ x with op:=r.op }]) } (fun y hy=>h y (by simp [hy]));refine ⟨A, ?_⟩;unfold Ad;rw [if_pos (h x (by simp)),hA];simp
theorem ahg {P:Rl→Prop} {src:Rl} {n N:Nat} {w:Rl} (hw:acQ w=true) {body:List Tx} {xs:List Ax} {op:Bool} {pre:List Rl} (hb:∀(r1:Rd) (L:List Tx),My P src r1 (body++(1,[41])::L)→r1.op=false→r1.pre=pre→
   ∃q,D6 src n w r1=.ok xs q∧My P src q ((1,[41])::L)∧q.pre=r1.pre∧q.iri=r1.iri∧q.op=op)
  (hc:∀x∈xs,fH { x with op:=op }=0) (l:List Ax) (I:l.length+xs.length≤1024) (r:Rd) (hp:r.pre=pre) (L:List Tx) (h:My P src r ((4,w)::(1,[40])::(body++(1,[41])::L))):
  ∃q,Bo src n N l r=.ok (l++xs.map fun x=>{ x with op:=op }) q∧My P src q L∧q.pre=r.pre∧q.iri=r.iri:=by
 obtain ⟨a,q,h1,h2,h3,h4⟩:=pO h;obtain ⟨q1,a1,a2,a3⟩:=kX h3 (w:=[40]) rfl;obtain ⟨q2,b1,b2,b3,b4,b5⟩:=hb { q1 with op:=false } L a2 rfl (by show q1.pre=_;rw [a3.pre];show q.pre=_;rw [h4.pre,hp]);obtain ⟨q3,c1,c2,c3⟩:=kX b2 (w:=[41]) rfl;have p:q3.op=op:=c3.op.trans b5;obtain ⟨A,hA⟩:=Ya N a xs l q3 (by rw [p];exact hc);rw [p] at hA;refine ⟨{ q3 with ax:=A }, ?_,c2, ?_, ?_⟩
 ·unfold Bo;rw [h1];simp only [OR.bind_ok,hw,oM,a1,b1,c1,hA];rw [if_neg (by simp;omega),←p]
 ·show q3.pre=_;rw [c3.pre,b3];show q1.pre=_;rw [a3.pre];exact h4.pre
 ·show q3.iri=_;rw [c3.iri,b4];show q1.iri=_;rw [a3.iri];exact h4.iri
def uU (w u:Rl):List Tx:=[(4,wB7),(1,[40]),(4,w),(1,[61]),(2,u),(1,[41])]
theorem WX {P:Rl→Prop} {src:Rl} {r:Rd} {w u:Rl} {L:List Tx} (h:My P src r (uU w u++L)) (hw:∀a,PY r.pre (4,w,a)=true) (hu:∀a,xY w (2,u,a)=true):
  ∃q,Cb src r=.ok () q∧My P src q L∧q.pre=qJ r.pre w∧q.iri=if w=[58] then zO u else r.iri:=by
 simp only [uU,List.cons_append,List.nil_append] at h;obtain ⟨q1,a1,a2,a3⟩:=kX h (w:=wB7) rfl;obtain ⟨q2,b1,b2,b3⟩:=kX a2 (w:=[40]) rfl;obtain ⟨a,q3,c1,c2,c3,c4⟩:=pO b2;obtain ⟨q4,d1,d2,d3⟩:=kX c3 (w:=[61]) rfl;obtain ⟨a',q5,e1,e2,e3,e4⟩:=pO d2;obtain ⟨q6,f1,f2,f3⟩:=kX e3 (w:=[41]) rfl;have p:q3.pre=r.pre:=by rw [c4.pre,b3.pre,a3.pre]
 have A:q6.pre=r.pre:=by rw [f3.pre];show q5.pre=_;rw [e4.pre,d3.pre];exact p
 have x:q6.iri=r.iri:=by rw [f3.iri];show q5.iri=_;rw [e4.iri,d3.iri];show q3.iri=_;rw [c4.iri,b3.iri,a3.iri]
 refine ⟨{ q6 with pre:=qJ r.pre w,iri:=if w=[58] then zO u else r.iri }, ?_,f2,rfl,rfl⟩;unfold Cb;rw [a1];simp only [OR.bind_ok,b1,c1,p,hw a,oM,d1,e1,hu a',f1,A,x]
theorem Yl {P:Rl→Prop} {src:Rl} {n N:Nat} {pre:List Rl}:∀(I:List (List Tx×List Ax)),(∀p∈I,(∃t T,p.1=t::T∧t.2≠[41])∧∀(l:List Ax) (r:Rd) (L:List Tx),l.length+p.2.length≤1024→r.pre=pre→My P src r (p.1++L)→∃q,Bo src n N l r=.ok (l++p.2) q∧My P src q L∧q.pre=r.pre∧q.iri=r.iri)→
  ∀(k:Nat) (l:List Ax) (r:Rd) (L:List Tx),I.length<k→l.length+(I.flatMap (·.2)).length≤1024→r.pre=pre→My P src r (I.flatMap (·.1)++(1,[41])::L)→
  ∃q,zM src n N k l r=.ok (l++I.flatMap (·.2)) q∧My P src (bQ q) L∧q.iri=r.iri∧q.pre=r.pre
 | [],_,k,l,r,L,hk,hl,hr,h=>by
  obtain ⟨k,rfl⟩:∃j,k=j+1:=⟨k - 1,by simp at hk;omega⟩;obtain ⟨q,h1,h2,h3,h4⟩:=yh (t:=(1,[41])) h [41];exact ⟨q,by unfold zM;rw [h1];simp,h3,h4.iri,h4.pre⟩
 | p::I,hI,k,l,r,L,hk,hl,hr,h=>by
  obtain ⟨k,rfl⟩:∃j,k=j+1:=⟨k - 1,by simp at hk;omega⟩;obtain ⟨⟨t,T,e1,e2⟩,e3⟩:=hI p (by simp);rw [List.flatMap_cons,List.append_assoc] at h;rw [List.flatMap_cons,List.length_append] at hl;have h':=h;rw [e1,List.cons_append] at h';obtain ⟨q,h1,h2,h3,h4⟩:=yh h' [41];rw [←List.cons_append,←e1] at h2;obtain ⟨q1,a1,a2,a3,a4⟩:=e3 l q _ (by omega) (h4.pre.trans hr) h2;obtain ⟨q2,b1,b2,b3,b4⟩:=Yl I (fun p hp=>hI p (by simp [hp])) k (l++p.2) q1 L (by simp at hk;omega) (by rw [List.length_append];omega) (a3.trans (h4.pre.trans hr)) a2;refine ⟨q2, ?_,b2,b3.trans (a4.trans h4.iri),b4.trans (a3.trans h4.pre)⟩;unfold zM;rw [h1,decide_eq_false e2];simp only [OR.bind_ok,Bool.false_eq_true,if_false,a1,b1];simp [List.flatMap_cons]
end Go.Ai.Z
namespace Go.Ai.Z
open Go.Lib (itoa decDigits atoi decFrom decNat digitVal)
theorem abQ (d:Nat) (h:d<10):MN (UInt8.ofNat (48+d))=true:=by
 have:(UInt8.ofNat (48+d)).toNat=48+d:=by simp;omega
 rw [QE,this];omega
theorem Xm (u:Nat):(decDigits u).all MN=true:=by
 induction u using Nat.strongRecOn with
 | _ u ih=>
  rw [decDigits];split
  ·rename_i h;rw [List.all_cons,List.all_nil,abQ u h];rfl
  ·rename_i h;rw [List.all_append,ih (u / 10) (by omega),List.all_cons,List.all_nil,abQ (u % 10) (by omega)];rfl
theorem TG (u:Nat):∃c r,decDigits u=c::r∧(u≠0→c≠48)∧(u=0→r=[]∧c=48)∧c≠45:=by
 induction u using Nat.strongRecOn with
 | _ u ih=>
  rw [decDigits];split
  ·rename_i h;refine ⟨UInt8.ofNat (48+u),[],rfl,fun hu hc=>?_,fun hu=>⟨rfl,by subst hu;rfl⟩,fun hc=>?_⟩
   ·have:=congrArg UInt8.toNat hc
    rw [show (UInt8.ofNat (48+u)).toNat=48+u by simp;omega] at this;simp at this;omega
   ·have:=congrArg UInt8.toNat hc
    rw [show (UInt8.ofNat (48+u)).toNat=48+u by simp;omega] at this;simp at this;omega
  ·rename_i h;obtain ⟨c,r,h1,h2,h3,h4⟩:=ih (u / 10) (by omega);exact ⟨c,r++[UInt8.ofNat (48+u % 10)],by rw [h1];rfl,fun _=>h2 (by omega),fun hu=>absurd hu (by omega),h4⟩
theorem TF (d:Nat) (h:d<10):digitVal (UInt8.ofNat (48+d))=some d:=by
 unfold digitVal
 have:(UInt8.ofNat (48+d)).toNat=48+d:=by simp;omega
 rw [this,if_pos ⟨by omega,by omega⟩]
 congr 1;omega
theorem Xn:∀(u:Nat) (r:Rl),decFrom 0 (decDigits u++r)=decFrom u r:=by
 intro u
 induction u using Nat.strongRecOn with
 | _ u ih=>
  intro r;rw [decDigits];split
  ·rename_i h;simp only [List.cons_append,List.nil_append,decFrom,TF u h];simp
  ·rename_i h;rw [List.append_assoc,ih (u / 10) (by omega)];simp only [List.cons_append,List.nil_append,decFrom,TF (u % 10) (by omega)]
   congr 1;omega
theorem Pq (u:Nat):decNat (decDigits u)=some u:=by
 have h:=Xn u [];rw [List.append_nil] at h;obtain ⟨c,r,hc,_⟩:=TG u;unfold decNat;rw [hc] at h ⊢
 simpa [decFrom] using h
theorem abP (u:Nat) (h:u≤1099511627776):(decDigits u).length≤18:=by
 have key:∀(k u:Nat),u<10 ^ (k+1)→(decDigits u).length≤k+1:=by
  intro k
  induction k with
  | zero=>intro u hu;rw [decDigits,dif_pos (by simpa using hu)];simp
  | succ k ih=>
   intro u hu;rw [decDigits];split
   ·simp
   ·have:=ih (u / 10) (by rw [Nat.pow_succ] at hu;omega)
    simp;omega
 exact Nat.le_trans (key 17 u (by omega)) (by omega)
theorem afe (c d:UInt8) (p:Rl):zO (c::(p++[d]))=p:=by
 unfold zO;simp
theorem acX (n:Int) (h1:-1099511627776≤n) (h2:n≤1099511627776) (a:Nat):ES (3,34::(itoa n++[34]),a)=some n:=by
 unfold ES;simp only [if_true];rw [afe];unfold itoa;by_cases hn:n<0
 ·rw [if_pos hn];obtain ⟨c,r,k1,k2,_,_⟩:=TG n.natAbs;have hc:=k2 (by omega);have hl:=abP n.natAbs (by omega);have ha:=Xm n.natAbs;have hd:=Pq n.natAbs;have ht:trimB 45 (45::decDigits n.natAbs)=decDigits n.natAbs:=by simp [trimB]
  rw [ht,if_neg (by rw [k1];rw [k1] at hl;simp at hl ⊢;omega),if_neg (by rw [k1];simp [hc]),if_pos ha];simp only [atoi,beq_self_eq_true,if_true,hd,Option.map_some,Option.some.injEq];omega
 ·rw [if_neg hn];obtain ⟨c,r,k1,k2,k3,k4⟩:=TG n.toNat;have hl:=abP n.toNat (by omega);have ha:=Xm n.toNat;have hd:=Pq n.toNat;have ht:trimB 45 (decDigits n.toNat)=decDigits n.toNat:=by rw [k1];simp [trimB,k4]
  have hz:¬((decDigits n.toNat).head?=some 48∧decDigits n.toNat≠[48]):=by
   rintro ⟨z1,z2⟩;rw [k1] at z1 z2;simp at z1;by_cases z:n.toNat=0
   ·obtain ⟨k5,k6⟩:=k3 z;subst k5 k6;exact z2 rfl
   ·exact k2 z z1
  rw [ht,if_neg (by rw [k1];rw [k1] at hl;simp at hl ⊢;omega),if_neg hz,if_pos ha];have p:MN c=true:=by rw [k1,List.all_cons,Bool.and_eq_true] at ha;exact ha.1
  have b1:(c == 45)=false:=by simpa using k4
  have b2:(c == 43)=false:=by
   cases hq:(c == 43) with
   | false=>rfl
   | true=>rw [beq_iff_eq] at hq;subst hq;exact absurd p (by decide)
  rw [k1] at hd ⊢;simp only [atoi,b1,b2,hd,Option.map_some,Bool.false_eq_true,if_false,Option.some.injEq];omega
def Oh (w:Rl) (n:Int):List Tx:=[(4,w),(3,34::(itoa n++[34])),(1,[94,94]),(4,wA1)]
mutual
def jA:C→List Tx
 | .mk k n lo hi _ ps=>
  if k=1 then [(4,wB4)]
  else if k=2 then [(4,wB1)]
  else if k=4 then [(4,wB8),(1,[40]),(4,owN n),(1,[41])]
  else if k=5 then (4,wA6)::(1,[40])::(U6 ps++[(1,[41])])
  else if k=6 then (4,wA7)::(1,[40])::(4,owN n)::(U6 ps++[(1,[41])])
  else if k=7 then (4,wA8)::(1,[40])::(4,owN n)::(4,wA5)::(1,[40])::(4,wA1)::(Oh wA0 lo++Oh wA3 hi++[(1,[41]),(1,[41])])
  else [(4,owN n)]
def U6:List C→List Tx
 | []=>[]
 | c::r=>jA c++U6 r
end
theorem XL:∀l:List C,U6 l=l.flatMap jA
 | []=>by simp [U6]
 | c::r=>by simp [U6,XL r]
mutual
def zc:C→C
 | .mk k n l h _ ps=>.mk k n l h ps.isEmpty (zcs ps)
def zcs:List C→List C
 | []=>[]
 | c::r=>zc c::zcs r
end
theorem adO:∀l:List C,zcs l=l.map zc
 | []=>by simp [zcs]
 | c::r=>by simp [zcs,adO r]
theorem FB (c:C):zc c=.mk c.kind c.name c.lo c.hi c.parts.isEmpty (c.parts.map zc):=by cases c;simp [zc,adO]
theorem BR (c:C):jA c=if c.kind=1 then [(4,wB4)]
  else if c.kind=2 then [(4,wB1)]
  else if c.kind=4 then [(4,wB8),(1,[40]),(4,owN c.name),(1,[41])]
  else if c.kind=5 then (4,wA6)::(1,[40])::(c.parts.flatMap jA++[(1,[41])])
  else if c.kind=6 then (4,wA7)::(1,[40])::(4,owN c.name)::(c.parts.flatMap jA++[(1,[41])])
  else if c.kind=7 then (4,wA8)::(1,[40])::(4,owN c.name)::(4,wA5)::(1,[40])::(4,wA1)::(Oh wA0 c.lo++Oh wA3 c.hi++[(1,[41]),(1,[41])])
  else [(4,owN c.name)]:=by cases c;simp only [jA,XL];rfl
theorem BQ:∀c:C,jA (zc c)=jA c:=by
 refine C.ind' fun c ih=>?_
 have hp:(c.parts.map zc).flatMap jA=c.parts.flatMap jA:=by
  have:∀l:List C,(∀p∈l,jA (zc p)=jA p)→(l.map zc).flatMap jA=l.flatMap jA:=fun l=>by
   induction l with
   | nil=>intro _;rfl
   | cons a r ihr=>intro h;simp [h a (by simp),ihr (fun p hp=>h p (by simp [hp]))]
  exact this _ ih
 rw [BR (zc c),BR c,FB];simp only [C.LW,C.Qz,C.aeV,C.afj,C.Gh,hp];rfl
theorem Wh (c:C):jA c≠[]∧∀t∈(jA c).head?,t.2≠[41]:=by
 have hw:∀n:Rl,owN n≠[41]:=fun n h=>by
  have:=Qx n
  rw [h] at this;simp at this
 rw [BR];split
 ·simp
 split
 ·simp
 split
 ·simp
 split
 ·simp
 split
 ·simp
 split
 ·simp
 ·simpa using hw c.name
theorem Dy (c:C):1≤(jA c).length:=by
 have:=(Wh c).1
 cases h:jA c with
 | nil=>exact absurd h this
 | cons a b=>simp
inductive VC (pre:List Rl):C→Prop where
 | mk (c:C) (hs:kU c=true) (hn:c.kind=3∨c.kind=4∨c.kind=6∨c.kind=7→NmP pre c.name) (hp:∀p∈c.parts,VC pre p):VC pre c
theorem AQ {c:C} (h:kU c=true) (hk:c.kind=1∨c.kind=2∨c.kind=3∨c.kind=4):c.lo=0∧c.hi=0∧c.parts=[]∧(c.kind=1∨c.kind=2→c.name=[]):=by
 unfold kU at h
 rcases hk with k|k|k|k<;>simp [k] at h<;>simp [h,k]
theorem Nv {c:C} (h:kU c=true) (hk:c.kind=5):c.lo=0∧c.hi=0∧c.name=[]∧2≤c.parts.length:=by
 unfold kU at h;simp [hk] at h;refine ⟨h.1.1.1.1,h.1.1.1.2,h.1.1.2,by have:=h.1.2;omega⟩
theorem Q7 {c:C} (h:kU c=true) (hk:c.kind=6):c.lo=0∧c.hi=0∧∃p,c.parts=[p]:=by
 unfold kU at h;simp [hk] at h;refine ⟨h.1.1,h.1.2, ?_⟩;exact List.length_eq_one_iff.1 (by omega)
theorem aco {c:C} (h:kU c=true) (hk:c.kind=7):c.parts=[]∧-1099511627776≤c.lo∧c.lo≤c.hi∧c.hi≤1099511627776:=by
 unfold kU at h;simp [hk] at h;exact ⟨h.1.1.1,h.1.1.2,h.1.2,h.2⟩
theorem Wv {c:C} (h:kU c=true):c.kind=1∨c.kind=2∨c.kind=3∨c.kind=4∨c.kind=5∨c.kind=6∨c.kind=7:=by
 unfold kU at h;apply Classical.byContradiction;intro hc;simp only [not_or] at hc;obtain ⟨h1,h2,h3,h4,h5,h6,h7⟩:=hc;simp [h1,h2,h3,h4,h5,h6,h7] at h
theorem aeP {P:Rl→Prop} {src:Rl} {r:Rd} {w other:Rl} {n:Int} {L:List Tx} (h:My P src r (Oh w n++L)) (hw:YV other w=true) (hx:[120,115,100,58]∈r.pre) (h1:-1099511627776≤n) (h2:n≤1099511627776) (lo hi:Int):
  ∃q,Qm src other lo hi r=.ok (w,if w=wA0 then n else lo,if w=wA0 then hi else n) q∧My P src q L∧Fq r q:=by
 simp only [Oh,List.cons_append,List.nil_append] at h;obtain ⟨a,q1,a1,a2,_,a3⟩:=pO h;obtain ⟨q2,b1,b2,b3⟩:=RX (p:=[120,115,100,58]) a2 (w:=w) rfl (by rw [a3.pre];exact hx);obtain ⟨a',q3,c1,c2,c3,c4⟩:=pO b2;obtain ⟨q4,d1,d2,d3⟩:=kX c3 (w:=[94,94]) rfl;obtain ⟨q5,e1,e2,e3⟩:=RX (p:=[120,115,100,58]) d2 (w:=wA1) rfl (by rw [d3.pre];show _∈q3.pre;rw [c4.pre,b3.pre,a3.pre];exact hx);refine ⟨q5, ?_,e2,a3.tr (b3.tr (c4.ps.tr (d3.tr e3)))⟩;unfold Qm;rw [a1];simp only [OR.bind_ok,hw,oM,b1,c1,acX n h1 h2,Option.isSome_some,d1,e1,Option.getD_some]
theorem alr {c:C} (hl:∀p∈c.parts,SmC p (zc p)) (hb:c.parts.length≤1000000):SmC c (zc c):=by
 obtain ⟨k,n,l,h,z,ps⟩:=c;rw [FB];refine .mk k n l h z _ ps _ (by simp) hb fun i p q h1 h2=>?_;simp only [C.Gh,List.getElem?_map,h1,Option.map_some,Option.some.injEq] at h2;subst h2;exact hl p (List.mem_of_getElem? h1)
section
variable {P:Rl→Prop} {src:Rl} {pre:List Rl}
theorem Ce (ho:[111,119,108,58]∈pre) (hx:[120,115,100,58]∈pre):∀c:C,VC pre c→∀n,(jA c).length≤n→Par P src pre (xC src n) (zc c) (jA c):=by
 refine C.ind' fun c ih hv n hn=>?_;refine ⟨(Wh c).1,(Wh c).2,fun r L h hr=>?_⟩
 cases hv with
 | mk _ hs hnm hp=>
 have Z:=Dy c;obtain ⟨n,rfl⟩:∃k,n=k+1:=⟨n - 1,by omega⟩;unfold xC;rw [FB];rw [BR] at h hn;rcases Wv hs with k|k|k|k|k|k|k
 ·obtain ⟨s1,s2,s3,s4⟩:=AQ hs (.inl k);simp only [k,if_true] at h;obtain ⟨a,q,h1,h2,h3,h4⟩:=pO h;obtain ⟨q1,b1,b2,b3⟩:=RX (p:=[111,119,108,58]) h2 (w:=wB4) rfl (by rw [h4.pre,hr];exact ho);refine ⟨q1, ?_,b2,h4.tr b3⟩;rw [h1];simp only [OR.bind_ok,if_true,Us,b1,k,s1,s2,s3,s4 (.inl k)];rfl
 ·obtain ⟨s1,s2,s3,s4⟩:=AQ hs (.inr (.inl k));simp only [k] at h;simp at h;obtain ⟨a,q,h1,h2,h3,h4⟩:=pO h;obtain ⟨q1,b1,b2,b3⟩:=RX (p:=[111,119,108,58]) h2 (w:=wB1) rfl (by rw [h4.pre,hr];exact ho);refine ⟨q1, ?_,b2,h4.tr b3⟩;rw [h1];simp only [OR.bind_ok];simp [Us,b1,k,s1,s2,s3,s4 (.inr k)]
 ·obtain ⟨s1,s2,s3,s4⟩:=AQ hs (.inr (.inr (.inl k)));simp only [k] at h;simp at h;have hm:=hnm (.inl k);obtain ⟨a,q,h1,h2,h3,h4⟩:=pO h;obtain ⟨q1,b1,b2,b3⟩:=sF (n:=c.name) h2 (by rw [h4.pre,hr];exact hm);have e1:=NG hm wB4 (.inr (.inl ⟨_,rfl⟩));have e2:=NG hm wB1 (.inr (.inl ⟨_,rfl⟩));have e3:=NG hm wA6 (.inl (by simp));have e4:=NG hm wA7 (.inl (by simp));have e5:=NG hm wB8 (.inl (by simp));have e6:=NG hm wA8 (.inl (by simp));refine ⟨q1, ?_,b2,h4.tr b3⟩;rw [h1];simp only [OR.bind_ok,if_neg e1,if_neg e2,if_neg e3,if_neg e4,if_neg e5,if_neg e6,b1,k,s1,s2,s3];rfl
 ·obtain ⟨s1,s2,s3,s4⟩:=AQ hs (.inr (.inr (.inr k)));simp only [k] at h;simp at h;have hm:=hnm (.inr (.inl k));obtain ⟨a,q,h1,h2,h3,h4⟩:=pO h;obtain ⟨q1,b1,b2,b3⟩:=kX h3 (w:=[40]) rfl;have A:q1.pre=pre:=by rw [b3.pre];show q.pre=_;rw [h4.pre,hr]
  obtain ⟨q2,c1,c2,c3⟩:=sF (n:=c.name) b2 (by rw [A];exact hm);obtain ⟨q3,d1,d2,d3⟩:=kX c2 (w:=[41]) rfl;refine ⟨q3, ?_,d2,h4.ps.tr (b3.tr (c3.tr d3))⟩;rw [h1];simp only [OR.bind_ok];simp [Yi,b1,c1,d1,k,s1,s2,s3]
 ·obtain ⟨s1,s2,s3,s4⟩:=Nv hs k;simp only [k] at h hn;simp at h hn;obtain ⟨a,q,h1,h2,h3,h4⟩:=pO h;obtain ⟨q1,b1,b2,b3⟩:=kX h3 (w:=[40]) rfl;have A:q1.pre=pre:=by rw [b3.pre];show q.pre=_;rw [h4.pre,hr]
  have S:c.parts.length≤(c.parts.flatMap jA).length:=by
   rw [List.length_flatMap]
   have:∀l:List C,l.length≤(l.map fun a=>(jA a).length).sum:=fun l=>by
    induction l with
    | nil=>simp
    | cons x l ihl=>have:=Dy x;simp;omega
   exact this _
  have O:∀p∈c.parts,(jA p).length≤(c.parts.flatMap jA).length:=fun p hp=>by
   rw [List.length_flatMap]
   have:∀l:List C,p∈l→(jA p).length≤(l.map fun a=>(jA a).length).sum:=fun l=>by
    induction l with
    | nil=>intro hh;cases hh
    | cons x l ihl=>
     intro hh;rcases List.mem_cons.1 hh with rfl|hh
     ·simp
     ·have:=ihl hh;simp;omega
   exact this _ hp
  simp only [List.length_flatMap] at S O
  have W:(c.parts.map zc).flatMap jA=c.parts.flatMap jA:=by
   have:∀l:List C,(l.map zc).flatMap jA=l.flatMap jA:=fun l=>by
    induction l with
    | nil=>rfl
    | cons x l ihl=>simp [BQ x,ihl]
   exact this _
  obtain ⟨q2,c1,c2,c3⟩:=LD (P:=P) (src:=src) (pre:=pre) (f:=xC src n) (c.parts.map zc) jA (fun v hv=>by
    obtain ⟨p,J,rfl⟩:=List.mem_map.1 hv;rw [BQ]
    exact ih p J (hp p J) n (by have:=O p J;omega)) id (fun _ _=>rfl) n [] q1 L (by simp;omega) (by simp;omega) A (by rw [W];exact b2)
  obtain ⟨q3,d1,d2,d3⟩:=kX c2 (w:=[41]) rfl
  have R:c.parts.isEmpty=false:=by
   cases hh:c.parts with
   | nil=>rw [hh] at s4;simp at s4
   | cons=>rfl
  refine ⟨q3, ?_,d2,h4.ps.tr (b3.tr (c3.tr d3))⟩;rw [h1];simp only [OR.bind_ok];simp [Zu,b1,c1,d1,k,s1,s2,s3,R]
 ·obtain ⟨s1,s2,p,s3⟩:=Q7 hs k;simp only [k,s3] at h hn;simp at h hn;have hm:=hnm (.inr (.inr (.inl k)));obtain ⟨a,q,h1,h2,h3,h4⟩:=pO h;obtain ⟨q1,b1,b2,b3⟩:=kX h3 (w:=[40]) rfl;have A:q1.pre=pre:=by rw [b3.pre];show q.pre=_;rw [h4.pre,hr]
  obtain ⟨q2,c1,c2,c3⟩:=sF (n:=c.name) b2 (by rw [A];exact hm);obtain ⟨_,_,K⟩:=ih p (by rw [s3];simp) (hp p (by rw [s3];simp)) n (by omega);obtain ⟨q3,d1,d2,d3⟩:=K q2 _ c2 (by rw [c3.pre];exact A);obtain ⟨q4,e1,e2,e3⟩:=kX d2 (w:=[41]) rfl;refine ⟨q4, ?_,e2,h4.ps.tr (b3.tr (c3.tr (d3.tr e3)))⟩;rw [h1];simp only [OR.bind_ok];simp [OJ,b1,c1,d1,e1,k,s1,s2,s3]
 ·obtain ⟨s1,s2,s3,s4⟩:=aco hs k;simp only [k] at h;simp only [show ¬(7:Int)=1 by decide,show ¬(7:Int)=2 by decide,show ¬(7:Int)=4 by decide,show ¬(7:Int)=5 by decide,show ¬(7:Int)=6 by decide,if_true,if_false,List.cons_append,List.append_assoc,List.nil_append] at h;have hm:=hnm (.inr (.inr (.inr k)));obtain ⟨a,q,h1,h2,h3,h4⟩:=pO h;obtain ⟨q1,b1,b2,b3⟩:=kX h3 (w:=[40]) rfl;have A:q1.pre=pre:=by rw [b3.pre];show q.pre=_;rw [h4.pre,hr]
  obtain ⟨q2,c1,c2,c3⟩:=sF (n:=c.name) b2 (by rw [A];exact hm);obtain ⟨q3,d1,d2,d3,d4⟩:=yh c2 wA5;obtain ⟨q4,e1,e2,e3⟩:=kX d3 (w:=[40]) rfl;have I:q4.pre=pre:=by rw [e3.pre];show q3.pre=_;rw [d4.pre,c3.pre,A]
  obtain ⟨q5,f1,f2,f3⟩:=RX (p:=[120,115,100,58]) e2 (w:=wA1) rfl (by rw [I];exact hx);obtain ⟨q6,g1,g2,g3⟩:=aeP (other:=[]) f2 (by decide) (by rw [f3.pre,I];exact hx) s2 (by omega) (-Yp) Yp;have Q:=g2;rw [show Oh wA3 c.hi++(1,[41])::(1,[41])::L=(4,wA3)::(3,34::(itoa c.hi++[34]))::(1,[94,94])::(4,wA1)::(1,[41])::(1,[41])::L from rfl] at Q;obtain ⟨q7,i1,i2,i3,i4⟩:=yh Q [41];obtain ⟨q8,j1,j2,j3⟩:=aeP (w:=wA3) (n:=c.hi) (other:=wA0) (L:=(1,[41])::(1,[41])::L) i2 (by decide) (by rw [i4.pre,g3.pre,f3.pre,I];exact hx) (by omega) s4 c.lo Yp;obtain ⟨q9,k1,k2,k3⟩:=kX j2 (w:=[41]) rfl;obtain ⟨Y,l1,l2,l3⟩:=kX k2 (w:=[41]) rfl;refine ⟨Y, ?_,l2,h4.ps.tr (b3.tr (c3.tr (d4.ps.tr (e3.tr (f3.tr (g3.tr (i4.tr (j3.tr (k3.tr l3)))))))))⟩;rw [h1];simp only [OR.bind_ok];simp at g1 i1 j1;simp [Px,ZR,b1,c1,d1,e1,f1,g1,i1,j1,k1,l1,k,s1]
end
end Go.Ai.Z
