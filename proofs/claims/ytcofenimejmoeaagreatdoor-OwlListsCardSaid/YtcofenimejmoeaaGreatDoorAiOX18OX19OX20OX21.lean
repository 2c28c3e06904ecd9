/-
 The reader of ontology documents: the lines of prefixes.
-/
import Derived.Test.YtcofenimejmoeaaGreatDoorAiOX14OX15OX16OX17
set_option maxRecDepth 100000
set_option linter.unusedSimpArgs false
set_option linter.unusedVariables false
set_option linter.unusedSectionVars false
namespace Go.Ai.Z
open Go.Ai
theorem ab3 {src:Rl} {r:Rd} (h:Wr src r) (P:List Rl) (i:Rl):Wr src { r with pre:=P,iri:=i }:=⟨h.at_,h.ah⟩
def qE {α:Type} (src:Rl) (r:Rd) (k:Nat) (x:OR α):Prop:=
 match x with
 | .ok _ q=>Wr src q∧rem src q+k≤rem src r∧q.ax=r.ax
 | .er a c _=>a≤src.length∧c=50
theorem aG.p {α:Type} {src:Rl} {r:Rd} {k:Nat} {x:OR α} (h:aG src r k x):qE src r k x:=by
 cases x with
 | er a c q=>exact h
 | ok v q=>obtain ⟨h1,h2,_,_,h3⟩:=h;exact ⟨h1,h2,h3⟩
theorem qE.ok {α:Type} {src:Rl} {r q:Rd} {v:α} {k:Nat} {x:OR α} (h:qE src r k x) (e:x=.ok v q):Wr src q∧rem src q+k≤rem src r∧q.ax=r.ax:=by subst e;exact h
theorem qE.bind {α β:Type} {src:Rl} {r:Rd} {k j n:Nat} {x:OR α} {f:α→Rd→OR β} (h:qE src r k x)
  (hf:∀v q,x=.ok v q→Wr src q→rem src q+k≤rem src r→qE src q j (f v q)) (hn:n≤k+j):qE src r n (x.bind f):=by
 cases x with
 | er a c q=>exact h
 | ok v q=>
  obtain ⟨h1,h2,h5⟩:=h;have h6:=hf v q rfl h1 h2;rw [OR.bind_ok];generalize f v q=y at *
  cases y with
  | er a c q2=>exact h6
  | ok w q2=>
   obtain ⟨g1,g2,g5⟩:=h6;exact ⟨g1,by omega,g5.trans h5⟩
theorem U7 {α:Type} {src:Rl} {r:Rd} {k:Nat} {x:OR α} (h:Sn src r) (hw:Wr src r) (hx:qE src (bP r) k x):qE src r (k+1) x:=by
 have h1:=h.pass hw
 cases x with
 | er a c q=>exact hx
 | ok v q=>
  obtain ⟨g1,g2,g5⟩:=hx;exact ⟨g1,by omega,g5⟩
theorem O6 {P:List Rl} {t:Tk} (h:Mc P t=true):t.1=4:=by
 unfold Mc at h;simp only [Bool.and_eq_true,decide_eq_true_eq] at h;exact h.1.1.1
theorem Cj {w:Rl} {t:Tk} (h:zx w t=true):t.1=2:=by
 unfold zx at h;simp only [Bool.and_eq_true,decide_eq_true_eq] at h;exact h.1.1
theorem Px {src:Rl} {r:Rd} (h:Wr src r):qE src r 1 (Jw src r):=by
 unfold Jw;refine qE.bind (k:=1) (j:=0) (aC h _ (by simp)).p (fun _ q1 e1 h1 k1=>?_) (by omega);refine qE.bind (k:=1) (j:=0) (aC h1 _ (by simp)).p (fun _ q2 e2 h2 k2=>?_) (by omega);refine qE.bind (k:=0) (j:=0) (fA h2).p (fun t q3 e3 h3 k3=>?_) (by omega);refine qE.bind (k:=0) (j:=0) (gK h3 _).p (fun _ q4 e4 h4 k4=>?_) (by omega);obtain ⟨hb,hq⟩:=wo e4;subst hq;have hs:=F8 e3 ((lU h2 e3).2.one (by have:=O6 hb;omega));have hp:=hs.pass h4
 have key:qE src q4 (0+1) _:=U7 (k:=0) hs h4 (x:=(jP src [61] (bP q4)).bind fun _ r=>
  (fP src r).bind fun u r=>(oN src (zx t.2.1 u) r).bind fun _ r=>(jP src [41] (bP r)).bind fun _ r=>
   .ok () { r with pre:=rX r.pre t.2.1,iri:=if t.2.1=[58] then xq u.2.1 else r.iri }) (by
  refine qE.bind (k:=1) (j:=0) (aC hp.1 _ (by simp)).p (fun _ q5 e5 h5 k5=>?_) (by omega);refine qE.bind (k:=0) (j:=0) (fA h5).p (fun u q6 e6 h6 k6=>?_) (by omega);refine qE.bind (k:=0) (j:=0) (gK h6 _).p (fun _ q7 e7 h7 k7=>?_) (by omega);obtain ⟨hb2,hq2⟩:=wo e7;subst hq2;refine qE.bind (k:=0) (j:=0) ?_ (fun _ q8 e8 h8 k8=>?_) (by omega)
  ·have hs2:=F8 e6 ((lU h5 e6).2.one (by have:=Cj hb2;omega));have hp2:=hs2.pass h7;exact ((nY (k:=1) hs2 h7 (aC hp2.1 _ (by simp))).wk (by omega)).p
  ·exact ⟨ab3 h8 _ _,by show rem src q8+0≤_;omega,rfl⟩)
 generalize (jP src [61] (bP q4)).bind _=y at key ⊢
 cases y with
 | er a c q=>exact key
 | ok v q=>obtain ⟨g1,g2,g3⟩:=key;exact ⟨g1,by omega,g3⟩
section
variable {src:Rl} {S:Rd→St} {m N:Nat} (hE:ve src S m N)
include hE
theorem KX (r:Rd) (P:List Rl):(S r).set m (.map (qH P))=S { r with pre:=P }:=hE.setp r P
theorem aa0 (r:Rd) (i:Rl):(S r).set (m+1) (.cells [.sl (aF src),.i .i64 r.at_,ahV r.ah,.mp m,.s i,.b r.op,r.ax,.mp (m+2),.mp (m+3)])=S { r with iri:=i }:=hE.sets r { r with iri:=i } rfl
theorem aad (r:Rd) (ha:Wr src r) (cx:Ctx) (hl:cx.lim≤m):
  aj P0 (.fn (.func lg) [] []) [.pt (m+1) 0] (S r) cx=qy (fun _=>.tu []) S (Jw src r):=by
 refine CU (iT _ _ _) ?_;have hN:=hE.n;have hS:=hE.src;have hlim:cx.lim≤m+1:=by omega
 unfold Jw;obtain ⟨a,c,q,hx,e1⟩|⟨v1,r1,h1,e1,g1⟩:=spl (fK hE wC0 r ha ⟨cx.lim,N⟩ hl) (aC ha wC0 (by simp))
 ·rw [hx];simp -implicitDefEqProofs [af,ak,hN,e1]
 rw [h1];simp only [OR.bind_ok];have w1:=g1.1;obtain ⟨a,c,q,hx,e2⟩|⟨v2,r2,h2,e2,g2⟩:=spl (fK hE [40] r1 w1 ⟨cx.lim,N⟩ hl) (aC w1 [40] (by simp))
 ·rw [hx];simp -implicitDefEqProofs [af,ak,hN,e1,e2]
 rw [h2];simp only [OR.bind_ok];have w2:=g2.1;obtain ⟨a,c,q,hx,e3⟩|⟨t,r3,h3,e3,g3⟩:=spl (lW hE r2 (w2).at_ ⟨cx.lim,N⟩ hl) (fA w2)
 ·rw [hx];simp -implicitDefEqProofs [af,ak,hN,e1,e2,e3]
 rw [h3];simp only [OR.bind_ok];have w3:=g3.1;have e3b:=lW hE r3 w3.at_ ⟨cx.lim,N⟩ hl;rw [(nR h3).1] at e3b;simp only [bY] at e3b;have kt:=(lU w2 h3).2;have hx:=yE t.2.1 58;have hc3:=qY hE r3;have hm3:=hE.pm r3;have hf3:=zG t.2.1 r3.pre;obtain ⟨k,w,a⟩:=t;simp only at hx hf3 kt;have hwl:w.length≤src.length:=kt.len;have hwi:IntKind.i64.wrap ((w.length:Int) - 1)=(w.length:Int) - 1:=w64 (by omega) (by omega);have ef:=nG hE (Mc r3.pre (k,w,a)) r3 w3 ⟨cx.lim,N⟩ hl
 cases hb:Mc r3.pre (k,w,a) with
 | false=>
  rw [hb] at ef;obtain ⟨a2,c2,r2x,hxx⟩:=wu src r3;rw [hxx] at ef ⊢;simp only [bV] at ef;simp only [OR.bind_er,bV];unfold Mc at hb;by_cases q1:¬k=4
  ·simp -implicitDefEqProofs [af,ak,hN,dU,e1,e2,e3,e3b,hx,hc3,hm3,hf3,ef,q1]
  have q1:=Classical.not_not.1 q1;by_cases q2:¬Go.Lib.indexByte w 58=(w.length:Int) - 1
  ·simp -implicitDefEqProofs [af,ak,hN,dU,e1,e2,e3,e3b,hx,hc3,hm3,hf3,ef,q1,q2,hwi]
  have q2:=Classical.not_not.1 q2;by_cases q3:w=[58]
  ·have q4:[58]∈r3.pre:=by
    have h58:Go.Lib.indexByte [58] 58=0:=rfl;rw [q3] at hb
    simpa [q1,h58] using hb
   subst q3;simp only [q4,if_true] at hf3;have h58:Go.Lib.indexByte [58] 58=0:=rfl;have w0:IntKind.i64.wrap 0=0:=rfl;rw [h58] at hx;simp -implicitDefEqProofs [af,ak,hN,dU,e1,e2,e3,e3b,hx,hc3,hm3,hf3,ef,q1,w0]
  ·have h1:=kt.one (by simp [q1])
   cases w with
   | nil=>simp at h1
   | cons c w'=>
    have el:=qR c.toNat;have q3a:¬(c=58∧w'=[]):=fun h=>q3 (by rw [h.1,h.2])
    have q3b:(c == 58 && w'.isEmpty)=false:=by cases h:(c == 58 && w'.isEmpty) with
     | false=>rfl
     | true=>rw [Bool.and_eq_true,beq_iff_eq,List.isEmpty_iff] at h;exact absurd h q3a
    have hwl2:w'.length+1≤src.length:=hwl;have w0:IntKind.i64.wrap (w'.length:Int)=w'.length:=w64 (by omega) (by omega);have hcl:((c::w').length:Int) - 1=w'.length:=by simp
    rw [hcl] at q2
    cases q5:ltI c.toNat with
    | false=>
     rw [q5] at el;rw [q2] at hx;simp -implicitDefEqProofs [af,ak,hN,dU,e1,e2,e3,e3b,hx,hc3,hm3,hf3,ef,q1,q3,q3a,q3b,w0,el]
    | true=>
     have q4:c::w'∈r3.pre:=by simpa [q1,hcl,q2,q3,q5] using hb
     rw [q5] at el;rw [q2] at hx;simp only [q4,if_true] at hf3;simp -implicitDefEqProofs [af,ak,hN,dU,e1,e2,e3,e3b,hx,hc3,hm3,hf3,ef,q1,q3,q3a,q3b,w0,el]
 | true=>
  rw [hb] at ef;rw [pR] at ef ⊢;simp only [bY] at ef;simp only [OR.bind_ok];have q1:k=4:=O6 hb
  have hnp:¬w∈r3.pre:=by
   unfold Mc at hb;simp only [Bool.and_eq_true,decide_eq_true_eq,Bool.not_eq_true',decide_eq_false_iff_not] at hb;exact hb.2
  have q2:Go.Lib.indexByte w 58=(w.length:Int) - 1:=by
   unfold Mc at hb;simp only [Bool.and_eq_true,decide_eq_true_eq] at hb;exact hb.1.1.2
  simp only [hnp,if_false] at hf3;by_cases q3:w=[58]
  ·subst q3;have h58:Go.Lib.indexByte [58] 58=0:=rfl;have w0:IntKind.i64.wrap 0=0:=rfl;have q3o:¬([58]:Rl)=[111,119,108,58]:=by simp
   have q3x:¬([58]:Rl)=[120,115,100,58]:=by simp
   rw [h58] at hx;have e5:=jM hE r3 ⟨cx.lim,N⟩ hl;have w5:=gq w3;obtain ⟨a,c,q,hz,e6⟩|⟨v6,r6,h6,e6,g6⟩:=spl (fK hE [61] (bP r3) w5 ⟨cx.lim,N⟩ hl) (aC w5 [61] (by simp))
   ·rw [hz];simp -implicitDefEqProofs [af,ak,hN,dU,e1,e2,e3,e3b,hx,hc3,hm3,hf3,ef,q1,w0,e5,e6]
   rw [h6];simp only [OR.bind_ok];have w6:=g6.1;obtain ⟨a,c,q,hz,e7⟩|⟨u,r7,h7,e7,g7⟩:=spl (lW hE r6 w6.at_ ⟨cx.lim,N⟩ hl) (fA w6)
   ·rw [hz];simp -implicitDefEqProofs [af,ak,hN,dU,e1,e2,e3,e3b,hx,hc3,hm3,hf3,ef,q1,w0,e5,e6,e7]
   rw [h7];simp only [OR.bind_ok];obtain ⟨w7,ku⟩:=lU w6 h7;have e7b:=lW hE r7 w7.at_ ⟨cx.lim,N⟩ hl;rw [(nR h7).1] at e7b;simp only [bY] at e7b;obtain ⟨k2,i2,a2⟩:=u;have hil:i2.length≤src.length:=ku.len;have ef2:=nG hE (zx [58] (k2,i2,a2)) r7 w7 ⟨cx.lim,N⟩ hl
   cases hb2:zx [58] (k2,i2,a2) with
   | false=>
    rw [hb2] at ef2;obtain ⟨a9,c9,r9,h9⟩:=wu src r7;rw [h9] at ef2 ⊢;simp only [bV] at ef2;simp only [OR.bind_er,bV];unfold zx at hb2;by_cases p1:¬k2=2
    ·simp -implicitDefEqProofs [af,ak,hN,dU,e1,e2,e3,e3b,hx,hc3,hm3,hf3,ef,q1,w0,e5,e6,e7,e7b,ef2,p1]
    have p1:=Classical.not_not.1 p1;rw [p1] at hb2;simp [q3o,q3x] at hb2
   | true=>
    rw [hb2] at ef2;rw [pR] at ef2 ⊢;simp only [bY] at ef2;simp only [OR.bind_ok];have p1:k2=2:=Cj hb2;have e10:=jM hE r7 ⟨cx.lim,N⟩ hl;have w10:=gq w7;obtain ⟨a,c,q,hz,e11⟩|⟨v11,r11,h11,e11,g11⟩:=spl (fK hE [41] (bP r7) w10 ⟨cx.lim,N⟩ hl) (aC w10 [41] (by simp))
    ·rw [hz];simp -implicitDefEqProofs [af,ak,hN,dU,e1,e2,e3,e3b,hx,hc3,hm3,hf3,ef,q1,w0,e5,e6,e7,e7b,ef2,p1,e10,e11]
    rw [h11];simp only [OR.bind_ok];have hc11:=qY hE r11;have hm11:=hE.pm r11;have hpt:=Dy [58] r11.pre;have hs11:=KX hE r11 (rX r11.pre [58]);have hc12:=qY hE { r11 with pre:=rX r11.pre [58] };have hs12:=aa0 hE { r11 with pre:=rX r11.pre [58] };have h2:=ku.two (.inl p1);simp only at h2;have hwi2:IntKind.i64.wrap ((i2.length:Int) - 1)=(i2.length:Int) - 1:=w64 (by omega) (by omega);have z1:(1:Int)≤(i2.length:Int):=by omega
    have z2:((i2.length:Int) - 1).toNat=i2.length - 1:=by omega
    have z3:i2.tail.take (i2.length - 1 - 1)=xq i2:=by unfold xq;rw [Nat.sub_sub,List.drop_one]
    have z4:1≤i2.length - 1:=by omega
    have hlm:cx.lim≤m:=hl;simp -implicitDefEqProofs [af,ak,hN,dU,e1,e2,e3,e3b,hx,hc3,hm3,hf3,ef,q1,w0,e5,e6,e7,e7b,ef2,p1,e10,e11,hc11,hm11,hpt,hs11,uX,hc12,hs12,hlim,hlm,hwi2,z1,z2,z3,z4]
  by_cases q3o:w=[111,119,108,58]
  ·subst q3o;have h58:Go.Lib.indexByte [111,119,108,58] 58=3:=rfl;have w0:IntKind.i64.wrap 3=3:=rfl;have el:=qR 111;rw [show ltI 111=true from rfl] at el;rw [h58] at hx;have e5:=jM hE r3 ⟨cx.lim,N⟩ hl;have w5:=gq w3;obtain ⟨a,c,q,hz,e6⟩|⟨v6,r6,h6,e6,g6⟩:=spl (fK hE [61] (bP r3) w5 ⟨cx.lim,N⟩ hl) (aC w5 [61] (by simp))
   ·rw [hz];simp -implicitDefEqProofs [af,ak,hN,dU,e1,e2,e3,e3b,hx,hc3,hm3,hf3,ef,q1,w0,el,e5,e6]
   rw [h6];simp only [OR.bind_ok];have w6:=g6.1;obtain ⟨a,c,q,hz,e7⟩|⟨u,r7,h7,e7,g7⟩:=spl (lW hE r6 w6.at_ ⟨cx.lim,N⟩ hl) (fA w6)
   ·rw [hz];simp -implicitDefEqProofs [af,ak,hN,dU,e1,e2,e3,e3b,hx,hc3,hm3,hf3,ef,q1,w0,el,e5,e6,e7]
   rw [h7];simp only [OR.bind_ok];obtain ⟨w7,ku⟩:=lU w6 h7;have e7b:=lW hE r7 w7.at_ ⟨cx.lim,N⟩ hl;rw [(nR h7).1] at e7b;simp only [bY] at e7b;obtain ⟨k2,i2,a2⟩:=u;have hil:i2.length≤src.length:=ku.len;have ef2:=nG hE (zx [111,119,108,58] (k2,i2,a2)) r7 w7 ⟨cx.lim,N⟩ hl
   cases hb2:zx [111,119,108,58] (k2,i2,a2) with
   | false=>
    rw [hb2] at ef2;obtain ⟨a9,c9,r9,h9⟩:=wu src r7;rw [h9] at ef2 ⊢;simp only [bV] at ef2;simp only [OR.bind_er,bV];unfold zx at hb2;by_cases p1:¬k2=2
    ·simp -implicitDefEqProofs [af,ak,hN,dU,e1,e2,e3,e3b,hx,hc3,hm3,hf3,ef,q1,w0,el,e5,e6,e7,e7b,ef2,p1]
    have p1:=Classical.not_not.1 p1
    have p2:¬i2=wB6:=fun h=>by
     rw [p1,h] at hb2;simp at hb2
    simp -implicitDefEqProofs [af,ak,hN,dU,e1,e2,e3,e3b,hx,hc3,hm3,hf3,ef,q1,w0,el,e5,e6,e7,e7b,ef2,p1,p2]
   | true=>
    rw [hb2] at ef2;rw [pR] at ef2 ⊢;simp only [bY] at ef2;simp only [OR.bind_ok];have p1:k2=2:=Cj hb2
    have p2:i2=wB6:=by
     unfold zx at hb2;rw [p1] at hb2
     simpa using hb2
    have e10:=jM hE r7 ⟨cx.lim,N⟩ hl;have w10:=gq w7;obtain ⟨a,c,q,hz,e11⟩|⟨v11,r11,h11,e11,g11⟩:=spl (fK hE [41] (bP r7) w10 ⟨cx.lim,N⟩ hl) (aC w10 [41] (by simp))
    ·rw [hz];simp -implicitDefEqProofs [af,ak,hN,dU,e1,e2,e3,e3b,hx,hc3,hm3,hf3,ef,q1,w0,el,e5,e6,e7,e7b,ef2,p1,p2,e10,e11]
    rw [h11];simp only [OR.bind_ok];have hc11:=qY hE r11;have hm11:=hE.pm r11;have hpt:=Dy [111,119,108,58] r11.pre;have hs11:=KX hE r11 (rX r11.pre [111,119,108,58]);have hlm:cx.lim≤m:=hl;simp -implicitDefEqProofs [af,ak,hN,dU,e1,e2,e3,e3b,hx,hc3,hm3,hf3,ef,q1,w0,el,e5,e6,e7,e7b,ef2,p1,p2,e10,e11,hc11,hm11,hpt,hs11,hlim,hlm,uX]
  by_cases q3x:w=[120,115,100,58]
  ·subst q3x;have h58:Go.Lib.indexByte [120,115,100,58] 58=3:=rfl;have w0:IntKind.i64.wrap 3=3:=rfl;have el:=qR 120;rw [show ltI 120=true from rfl] at el;rw [h58] at hx;have e5:=jM hE r3 ⟨cx.lim,N⟩ hl;have w5:=gq w3;obtain ⟨a,c,q,hz,e6⟩|⟨v6,r6,h6,e6,g6⟩:=spl (fK hE [61] (bP r3) w5 ⟨cx.lim,N⟩ hl) (aC w5 [61] (by simp))
   ·rw [hz];simp -implicitDefEqProofs [af,ak,hN,dU,e1,e2,e3,e3b,hx,hc3,hm3,hf3,ef,q1,w0,el,e5,e6]
   rw [h6];simp only [OR.bind_ok];have w6:=g6.1;obtain ⟨a,c,q,hz,e7⟩|⟨u,r7,h7,e7,g7⟩:=spl (lW hE r6 w6.at_ ⟨cx.lim,N⟩ hl) (fA w6)
   ·rw [hz];simp -implicitDefEqProofs [af,ak,hN,dU,e1,e2,e3,e3b,hx,hc3,hm3,hf3,ef,q1,w0,el,e5,e6,e7]
   rw [h7];simp only [OR.bind_ok];obtain ⟨w7,ku⟩:=lU w6 h7;have e7b:=lW hE r7 w7.at_ ⟨cx.lim,N⟩ hl;rw [(nR h7).1] at e7b;simp only [bY] at e7b;obtain ⟨k2,i2,a2⟩:=u;have hil:i2.length≤src.length:=ku.len;have ef2:=nG hE (zx [120,115,100,58] (k2,i2,a2)) r7 w7 ⟨cx.lim,N⟩ hl
   cases hb2:zx [120,115,100,58] (k2,i2,a2) with
   | false=>
    rw [hb2] at ef2;obtain ⟨a9,c9,r9,h9⟩:=wu src r7;rw [h9] at ef2 ⊢;simp only [bV] at ef2;simp only [OR.bind_er,bV];unfold zx at hb2;by_cases p1:¬k2=2
    ·simp -implicitDefEqProofs [af,ak,hN,dU,e1,e2,e3,e3b,hx,hc3,hm3,hf3,ef,q1,w0,el,e5,e6,e7,e7b,ef2,p1]
    have p1:=Classical.not_not.1 p1
    have p2:¬i2=wB3:=fun h=>by
     rw [p1,h] at hb2;simp at hb2
    simp -implicitDefEqProofs [af,ak,hN,dU,e1,e2,e3,e3b,hx,hc3,hm3,hf3,ef,q1,w0,el,e5,e6,e7,e7b,ef2,p1,p2]
   | true=>
    rw [hb2] at ef2;rw [pR] at ef2 ⊢;simp only [bY] at ef2;simp only [OR.bind_ok];have p1:k2=2:=Cj hb2
    have p2:i2=wB3:=by
     unfold zx at hb2;rw [p1] at hb2
     simpa using hb2
    have e10:=jM hE r7 ⟨cx.lim,N⟩ hl;have w10:=gq w7;obtain ⟨a,c,q,hz,e11⟩|⟨v11,r11,h11,e11,g11⟩:=spl (fK hE [41] (bP r7) w10 ⟨cx.lim,N⟩ hl) (aC w10 [41] (by simp))
    ·rw [hz];simp -implicitDefEqProofs [af,ak,hN,dU,e1,e2,e3,e3b,hx,hc3,hm3,hf3,ef,q1,w0,el,e5,e6,e7,e7b,ef2,p1,p2,e10,e11]
    rw [h11];simp only [OR.bind_ok];have hc11:=qY hE r11;have hm11:=hE.pm r11;have hpt:=Dy [120,115,100,58] r11.pre;have hs11:=KX hE r11 (rX r11.pre [120,115,100,58]);have hlm:cx.lim≤m:=hl;simp -implicitDefEqProofs [af,ak,hN,dU,e1,e2,e3,e3b,hx,hc3,hm3,hf3,ef,q1,w0,el,e5,e6,e7,e7b,ef2,p1,p2,e10,e11,hc11,hm11,hpt,hs11,hlim,hlm,uX]
  have h1:=kt.one (by simp [q1])
  cases w with
  | nil=>simp at h1
  | cons c w'=>
   have el:=qR c.toNat;have q3a:¬(c=58∧w'=[]):=fun h=>q3 (by rw [h.1,h.2])
   have q3b:(c == 58 && w'.isEmpty)=false:=by cases h:(c == 58 && w'.isEmpty) with
    | false=>rfl
    | true=>rw [Bool.and_eq_true,beq_iff_eq,List.isEmpty_iff] at h;exact absurd h q3a
   have hwl2:w'.length+1≤src.length:=hwl;have w0:IntKind.i64.wrap (w'.length:Int)=w'.length:=w64 (by omega) (by omega);have hcl:((c::w').length:Int) - 1=w'.length:=by simp
   rw [hcl] at q2;rw [q2] at hx
   have q5:ltI c.toNat=true:=by
    unfold Mc at hb
    simpa [q1,hcl,q2,q3,hnp] using hb
   rw [q5] at el;have q3o:¬c::w'=[111,119,108,58]:=q3o;have q3x:¬c::w'=[120,115,100,58]:=q3x;generalize hW:c::w'=W at *;have wW:IntKind.i64.wrap ((W.length:Int) - 1)=w'.length:=by rw [←hW];simpa using w0
   have hW0:W[0]?=some c:=by rw [←hW];rfl
   have hW1:W.head?=some c:=by rw [←hW];rfl
   have e5:=jM hE r3 ⟨cx.lim,N⟩ hl;have w5:=gq w3;obtain ⟨a,c,q,hz,e6⟩|⟨v6,r6,h6,e6,g6⟩:=spl (fK hE [61] (bP r3) w5 ⟨cx.lim,N⟩ hl) (aC w5 [61] (by simp))
   ·rw [hz];simp -implicitDefEqProofs [af,ak,hN,dU,e1,e2,e3,e3b,hx,hc3,hm3,hf3,ef,q1,w0,el,q3,q3o,q3x,wW,hW0,hW1,e5,e6]
   rw [h6];simp only [OR.bind_ok];have w6:=g6.1;obtain ⟨a,c,q,hz,e7⟩|⟨u,r7,h7,e7,g7⟩:=spl (lW hE r6 w6.at_ ⟨cx.lim,N⟩ hl) (fA w6)
   ·rw [hz];simp -implicitDefEqProofs [af,ak,hN,dU,e1,e2,e3,e3b,hx,hc3,hm3,hf3,ef,q1,w0,el,q3,q3o,q3x,wW,hW0,hW1,e5,e6,e7]
   rw [h7];simp only [OR.bind_ok];obtain ⟨w7,ku⟩:=lU w6 h7;have e7b:=lW hE r7 w7.at_ ⟨cx.lim,N⟩ hl;rw [(nR h7).1] at e7b;simp only [bY] at e7b;obtain ⟨k2,i2,a2⟩:=u;have hil:i2.length≤src.length:=ku.len;have ef2:=nG hE (zx W (k2,i2,a2)) r7 w7 ⟨cx.lim,N⟩ hl
   cases hb2:zx W (k2,i2,a2) with
   | false=>
    rw [hb2] at ef2;obtain ⟨a9,c9,r9,h9⟩:=wu src r7;rw [h9] at ef2 ⊢;simp only [bV] at ef2;simp only [OR.bind_er,bV];unfold zx at hb2;by_cases p1:¬k2=2
    ·simp -implicitDefEqProofs [af,ak,hN,dU,e1,e2,e3,e3b,hx,hc3,hm3,hf3,ef,q1,w0,el,q3,q3o,q3x,wW,hW0,hW1,e5,e6,e7,e7b,ef2,p1]
    have p1:=Classical.not_not.1 p1;rw [p1] at hb2;simp [q3o,q3x] at hb2
   | true=>
    rw [hb2] at ef2;rw [pR] at ef2 ⊢;simp only [bY] at ef2;simp only [OR.bind_ok];have p1:k2=2:=Cj hb2;have e10:=jM hE r7 ⟨cx.lim,N⟩ hl;have w10:=gq w7;obtain ⟨a,c,q,hz,e11⟩|⟨v11,r11,h11,e11,g11⟩:=spl (fK hE [41] (bP r7) w10 ⟨cx.lim,N⟩ hl) (aC w10 [41] (by simp))
    ·rw [hz];simp -implicitDefEqProofs [af,ak,hN,dU,e1,e2,e3,e3b,hx,hc3,hm3,hf3,ef,q1,w0,el,q3,q3o,q3x,wW,hW0,hW1,e5,e6,e7,e7b,ef2,p1,e10,e11]
    rw [h11];simp only [OR.bind_ok];have hc11:=qY hE r11;have hm11:=hE.pm r11;have hpt:=Dy W r11.pre;have hs11:=KX hE r11 (rX r11.pre W);have hlm:cx.lim≤m:=hl;simp -implicitDefEqProofs [af,ak,hN,dU,e1,e2,e3,e3b,hx,hc3,hm3,hf3,ef,q1,w0,el,q3,q3o,q3x,wW,hW0,hW1,e5,e6,e7,e7b,ef2,p1,e10,e11,hc11,hm11,hpt,hs11,hlim,hlm,uX]
end
end Go.Ai.Z
namespace Go.Ai.Z
open Go.Ai
theorem VO (N a0:Nat):∀(xs l:List Ax) (r:Rd) {l':List Ax} {q:Rd},yC N a0 xs l r=.ok l' q→q.at_=r.at_∧q.ah=r.ah∧q.op=r.op∧l'=l++xs.map (fun x=>{ x with op:=r.op })∧(∀x∈xs,pq { x with op:=r.op }=0)∧q.pre=r.pre∧q.iri=r.iri
 | [],l,r,l',q,h=>by cases h;simp
 | x::xs,l,r,l',q,h=>by
  unfold yC at h
  split at h
  ·rename_i hc;obtain ⟨h1,h2,h3,h4,h5,h6,h7⟩:=VO N a0 xs _ _ h;refine ⟨h1,h2,h3,by rw [h4];simp,fun y hy=>?_,h6,h7⟩;rcases List.mem_cons.1 hy with rfl|hy
   ·exact hc
   ·exact h5 y hy
  ·cases h
theorem aaD {src:Rl} {r q:Rd} (h:Wr src r) (h1:q.at_=r.at_) (h2:q.ah=r.ah):Wr src q∧rem src q=rem src r:=⟨⟨by rw [h1];exact h.at_,by rw [h2];exact h.ah⟩,by unfold rem;rw [h1,h2]⟩
theorem Wj {src:Rl} {n N:Nat} {l l':List Ax} {r q:Rd} (hr:Wr src r) (hn:rem src r<n) (hax:r.ax=axV N l) (h:En src n N l r=.ok l' q):Wr src q∧rem src q+1≤rem src r∧q.ax=axV N l'∧l'.length≤1024:=by
 unfold En at h;obtain ⟨t,r1,h1,h⟩:=OR.bind_eq h;obtain ⟨u,r2,h2,h⟩:=OR.bind_eq h;obtain ⟨u,r4,h4,h⟩:=OR.bind_eq h;obtain ⟨xs,r5,h5,h⟩:=OR.bind_eq h;obtain ⟨u,r6,h6,h⟩:=OR.bind_eq h;obtain ⟨l2,r7,h7,h⟩:=OR.bind_eq h;have g1:=(fA hr).ok h1;have g2:=(gK g1.1 _).ok h2;have kp:=xO src r2;have g4:=(aC (gq g2.1) [40] (by simp)).ok h4;have hre:rem src { r4 with op:=false }<n:=by show rem src r4<n;omega
 have g5:=(TA (n:=n) (w:=t.2.1) (OT g4.1 false) hre).ok h5;have g6:=(aC g5.1 [41] (by simp)).ok h6
 have hax6:r6.ax=axV N l:=by
  rw [g6.2.2.2.2,g5.2.2.2.2];show r4.ax=_;rw [g4.2.2.2.2];show r2.ax=_;rw [g2.2.2.2.2,g1.2.2.2.2,hax]
 have k7:=VO N _ xs l r6 h7;have a7:=Qq N _ xs l r6 hax6 h7;have w7:=aaD g6.1 k7.1 k7.2.1;have k5:rem src r5≤rem src r4:=g5.2.1
 split at h
 ·cases h
 ·rename_i hlen;cases h;exact ⟨w7.1,by rw [w7.2];omega,a7,by omega⟩
theorem IV {src:Rl}:∀(n:Nat) (r:Rd),Wr src r→rem src r<n→qE src r 0 (Eg src n r)
 | 0,r,_,hn=>absurd hn (by omega)
 | n+1,r,hr,hn=>by
  unfold Eg;refine qE.bind (k:=0) (j:=0) (kQ hr _).p (fun b q e h1 h2=>?_) (by omega);split
  ·refine qE.bind (k:=1) (j:=0) (Px h1) (fun _ q2 e2 h3 h4=>?_) (by omega);exact IV n q2 h3 (by omega)
  ·exact (aG.mk h1).p
theorem IW {src:Rl}:∀(k:Nat) (r:Rd),Wr src r→qE src r 0 (Bf src k r)
 | 0,r,hr=>(aG.mk hr).p
 | k+1,r,hr=>by
  unfold Bf;refine qE.bind (k:=0) (j:=0) (fA hr).p (fun t q e h1 h2=>?_) (by omega);split
  ·have h:=IW k (bP q) (gq h1);have kp:=xO src q
   cases hx:Bf src k (bP q) with
   | er a c q2=>rw [hx] at h;exact h
   | ok v q2=>rw [hx] at h;obtain ⟨g1,g2,g3⟩:=h;exact ⟨g1,by omega,g3⟩
  ·exact (aG.mk h1).p
def lpE (S:Rd→St) (X:St) (k:Nat) (E:Env) (x:OR Unit):Out:=
 match x with
 | .ok _ r=>.exit k E (S r++X)
 | .er a c r=>.pan (flt a c) (S r++X)
@[simp] theorem Zd (S:Rd→St) (X:St) (k:Nat) (E:Env) (v:Unit) (r:Rd):lpE S X k E (.ok v r)=.exit k E (S r++X):=rfl
@[simp] theorem Ze (S:Rd→St) (X:St) (k:Nat) (E:Env) (a:Nat) (c:Int) (r:Rd):lpE S X k E (.er a c r)=.pan (flt a c) (S r++X):=rfl
section
variable {src:Rl} {S:Rd→St} {m N:Nat} (hE:ve src S m N)
include hE
theorem Zm (cx:Ctx) (hl:cx.lim≤m):∀(n:Nat) (r:Rd),Wr src r→rem src r<n→
  jw (aA P0.glob (aj P0) cx true fJ) [0] [(0,.v (.pt (m+1) 0))] (S r)=lpE S [] 0 [(0,.v (.pt (m+1) 0)),(4,.v (.b false))] (Eg src n r)
 | 0,r,_,hn=>absurd hn (by omega)
 | n+1,r,ha,hn=>by
  unfold Eg;have e1:=FZ hE wC0 r ha cx hl;have g1:=kQ ha wC0
  cases h1:isR src wC0 r with
  | er a c q=>
   rw [h1] at e1;simp only [bV] at e1;refine ay fun K hK=>?_;simp -implicitDefEqProofs [fJ,e1]
  | ok b r1=>
   rw [h1] at e1;have k1:=g1.ok h1;simp only [bY] at e1;simp only [OR.bind_ok]
   cases b with
   | false=>
    refine ay fun K hK=>?_;simp -implicitDefEqProofs [fJ,e1]
   | true=>
    simp only [if_true];have e2:=aad hE r1 k1.1 cx hl;have g2:=Px k1.1
    cases h2:Jw src r1 with
    | er a c q=>
     rw [h2] at e2;simp only [bV] at e2;refine ay fun K hK=>?_;simp -implicitDefEqProofs [fJ,e1,e2]
    | ok v r2=>
     rw [h2] at e2;have k2:=g2.ok h2;simp only [bY] at e2;simp only [OR.bind_ok];have ih:=Zm cx hl n r2 k2.1 (by omega);refine ay fun K hK=>?_;rw [←hK] at ih;rw [←ih];simp -implicitDefEqProofs [fJ,e1,e2]
theorem Zl (cx:Ctx) (hl:cx.lim≤m):∀(k:Nat) (i:Nat) (r:Rd),Wr src r→i+k=2→
  ∃j:Int,jw (aA P0.glob (aj P0) cx true fH) [0,2] [(0,.v (.pt (m+1) 0)),(2,.v (.i .i64 i))] (S r)=lpE S [] 2 [(0,.v (.pt (m+1) 0)),(2,.v (.i .i64 j)),(29,.v (.b false))] (Bf src k r)
 | 0,i,r,ha,hi=>by
  have h2:¬(i:Int)<2:=by omega
  refine ⟨i,ay fun K hK=>?_⟩;simp -implicitDefEqProofs [fH,h2,Bf]
 | k+1,i,r,ha,hi=>by
  have h2:(i:Int)<2:=by omega
  have hwi:=wI (i:=i) (by omega);unfold Bf;have e1:=lW hE r ha.at_ cx hl;have g1:=fA ha
  cases h1:fP src r with
  | er a c q=>
   rw [h1] at e1;simp only [bV] at e1;refine ⟨0,ay fun K hK=>?_⟩;simp -implicitDefEqProofs [fH,h2,e1]
  | ok t r1=>
   rw [h1] at e1;have k1:=g1.ok h1;obtain ⟨t1,t2,t3⟩:=t;simp only [bY,dU] at e1;simp only [OR.bind_ok];by_cases q:t1=2
   ·rw [if_pos q];have e2:=jM hE r1 cx hl;obtain ⟨j,ih⟩:=Zl cx hl k (i+1) (bP r1) (gq k1.1) (by omega);refine ⟨j,ay fun K hK=>?_⟩;rw [←hK,show ((i+1:Nat):Int)=(i:Int)+1 from rfl] at ih;rw [←ih];simp -implicitDefEqProofs [fH,h2,e1,q,e2,hwi]
   ·rw [if_neg q];refine ⟨i,ay fun K hK=>?_⟩;simp -implicitDefEqProofs [fH,h2,e1,q]
def acQ (S:Rd→St) (m:Nat) (X:St) (x:OR (List Ax)):Out:=
 match x with
 | .ok l r=>.exit 4 [(0,.v (.pt (m+1) 0)),(36,.v (.b false))] (S r++axT l)
 | .er a c r=>.pan (flt a c) (S r++X)
omit hE in
@[simp] theorem aaX (S:Rd→St) (m:Nat) (X:St) (l:List Ax) (r:Rd):acQ S m X (.ok l r)=.exit 4 [(0,.v (.pt (m+1) 0)),(36,.v (.b false))] (S r++axT l):=rfl
omit hE in
@[simp] theorem aaY (S:Rd→St) (m:Nat) (X:St) (a:Nat) (c:Int) (r:Rd):acQ S m X (.er a c r)=.pan (flt a c) (S r++X):=rfl
theorem Zk (n:Nat) (hn2:n≤100000) (cx:Ctx) (hl:cx.lim≤m) (hb:cx.base≤m):∀(k:Nat) (l:List Ax) (r:Rd),Wr src r→rem src r<k→rem src r<n→r.ax=axV N l→l.length≤1024→
  ∃X,jw (aA P0.glob (aj P0) cx true dW) [0] [(0,.v (.pt (m+1) 0))] (S r++axT l)=acQ S m X (Ci src n N k l r)
 | 0,l,r,_,hk,_,_,_=>absurd hk (by omega)
 | k+1,l,r,ha,hk,hn,hax,hll=>by
  have hA:=hE.app (axT l);unfold Ci;have e1:=FZ hA [41] r ha cx hl;have g1:=kQ ha [41]
  cases h1:isR src [41] r with
  | er a c q=>
   rw [h1] at e1;simp only [bV] at e1;refine ⟨axT l,ay fun K hK=>?_⟩;simp -implicitDefEqProofs [dW,e1]
  | ok b r1=>
   rw [h1] at e1;have k1:=g1.ok h1;simp only [bY] at e1;simp only [OR.bind_ok]
   cases b with
   | true=>
    refine ⟨[],ay fun K hK=>?_⟩;simp -implicitDefEqProofs [dW,e1]
   | false=>
    simp only [Bool.false_eq_true,if_false];have hax1:r1.ax=axV N l:=by rw [k1.2.2.2.2,hax]
    obtain ⟨X,e2⟩:=adg hE n hn2 l hll r1 hax1 k1.1 (by omega) cx hl hb
    cases h2:En src n N l r1 with
    | er a c q=>
     rw [h2] at e2;simp only [mZ] at e2;refine ⟨X,ay fun K hK=>?_⟩;simp -implicitDefEqProofs [dW,e1,e2]
    | ok l' r2=>
     rw [h2] at e2;simp only [Rk] at e2;simp only [OR.bind_ok];obtain ⟨z1,z2,z3,z4⟩:=Wj k1.1 (by omega) hax1 h2;obtain ⟨Y,ih⟩:=Zk n hn2 cx hl hb k l' r2 z1 (by omega) (by omega) z3 z4;refine ⟨Y,ay fun K hK=>?_⟩;rw [←hK] at ih;rw [←ih];simp -implicitDefEqProofs [dW,e1,e2]
end
end Go.Ai.Z
namespace Go.Ai.Z
open Go.Ai
theorem QC {src:Rl} (n N:Nat):∀(k:Nat) (l:List Ax) (r:Rd) {l':List Ax} {q:Rd},Wr src r→rem src r<n→r.ax=axV N l→l.length≤1024→Ci src n N k l r=.ok l' q→Wr src q∧rem src q≤rem src r∧q.ax=axV N l'∧l'.length≤1024
 | 0,l,r,l',q,_,_,_,_,h=>by cases h
 | k+1,l,r,l',q,ha,hn,hax,hll,h=>by
  unfold Ci at h;obtain ⟨b,r1,h1,h⟩:=OR.bind_eq h;have k1:=(kQ ha [41]).ok h1;have hax1:r1.ax=axV N l:=by rw [k1.2.2.2.2,hax]
  split at h
  ·cases h;exact ⟨k1.1,by omega,hax1,hll⟩
  ·obtain ⟨l2,r2,h2,h⟩:=OR.bind_eq h;obtain ⟨z1,z2,z3,z4⟩:=Wj k1.1 (by omega) hax1 h2;obtain ⟨y1,y2,y3,y4⟩:=QC n N k l2 r2 z1 (by omega) z3 z4 h;exact ⟨y1,by omega,y3,y4⟩
section
variable {src:Rl} {S:Rd→St} {m N:Nat} (hE:ve src S m N)
include hE
theorem Vw (n:Nat) (hn2:n≤100000) (r:Rd) (hr:r.ax=.ns) (ha:Wr src r) (hn:rem src r<n) (cx:Ctx) (hl:cx.lim≤m) (hb:cx.base≤m):
  ∃X,aj P0 (.fn (.func jR) [] []) [.pt (m+1) 0] (S r) cx=abD S X (NH src n N r):=by
 unfold NH;have d1:=Zm hE cx hl n r ha hn;have dg1:=IV n r ha hn
 cases hp1:Eg src n r with
 | er a c q=>
  rw [hp1] at d1;simp only [Ze,List.append_nil] at d1;simp only [OR.bind_er,mZ];refine ⟨[],dM (by simp) ?_⟩;simp -implicitDefEqProofs [af,aX,d1]
 | ok v0 r0=>
  rw [hp1] at d1;have k1:=dg1.ok hp1;simp only [Zd,List.append_nil] at d1;simp only [OR.bind_ok];have w0:=k1.1;obtain ⟨a,c,q,hx,e1⟩|⟨b,r1,h1,e1,g1⟩:=spl (FZ hE wC6 r0 w0 ⟨cx.lim,cx.base⟩ hl) (kQ w0 wC6)
  ·rw [hx];simp only [OR.bind_er,mZ];refine ⟨[],dM (by simp) ?_⟩;simp -implicitDefEqProofs [af,aX,d1,e1]
  rw [h1];simp only [OR.bind_ok];have w1:=g1.1;have hc:=qY hE r1;have hm:=hE.pm r1;have hf:=zG [58] r1.pre;have ef:=nG hE (b && decide ([58]∈r1.pre)) r1 w1 cx hl;have gf:=gK w1 (b && decide ([58]∈r1.pre))
  cases hq:oN src (b && decide ([58]∈r1.pre)) r1 with
  | er a2 c2 r2=>
   rw [hq] at ef;simp only [bV] at ef;simp only [OR.bind_er,mZ];refine ⟨[],dM (by simp) ?_⟩
   cases b with
   | false=>
    simp at ef;simp -implicitDefEqProofs [af,aX,d1,e1,ef]
   | true=>
    by_cases q:[58]∈r1.pre
    ·simp [q] at ef hf;simp -implicitDefEqProofs [af,aX,d1,e1,hc,hm,hf,ef]
    ·simp [q] at ef hf;simp -implicitDefEqProofs [af,aX,d1,e1,hc,hm,hf,ef]
  | ok v2 r2=>
   obtain ⟨hb2,hq2⟩:=wo hq;subst hq2;rw [hq] at ef;simp only [bY] at ef;simp only [OR.bind_ok];rw [Bool.and_eq_true,decide_eq_true_eq] at hb2;obtain ⟨hb3,q⟩:=hb2;subst hb3;simp only [q,if_true,decide_true,Bool.and_true] at ef hf;have ep:=jM hE r2 cx hl;have wp:=gq w1;have kp:=xO src r2;have e3:=fK hE [40] (bP r2) wp cx hl;have g3:=aC wp [40] (by simp)
   cases h3:jP src [40] (bP r2) with
   | er a3 c3 r3=>
    rw [h3] at e3;simp only [bV] at e3;simp only [OR.bind_er,mZ];refine ⟨[],dM (by simp) ?_⟩;simp -implicitDefEqProofs [af,aX,d1,e1,hc,hm,hf,ef,ep,e3]
   | ok v3 r3=>
    rw [h3] at e3;have k3:=g3.ok h3;simp only [bY] at e3;simp only [OR.bind_ok];obtain ⟨j,e4⟩:=Zl hE cx hl 2 0 r3 k3.1 rfl;rw [show ((0:Nat):Int)=0 from rfl] at e4;have g4:=IW 2 r3 k3.1
    cases h4:Bf src 2 r3 with
    | er a4 c4 r4=>
     rw [h4] at e4;simp only [Ze,List.append_nil] at e4;simp only [OR.bind_er,mZ];refine ⟨[],dM (by simp) ?_⟩;simp -implicitDefEqProofs [af,aX,d1,e1,hc,hm,hf,ef,ep,e3,e4]
    | ok v4 r4=>
     rw [h4] at e4;have k4:=g4.ok h4;simp only [Zd,List.append_nil] at e4;simp only [OR.bind_ok];have g1':=g1
     have hax:r4.ax=axV N []:=by
      rw [k4.2.2,k3.2.2.2.2];show r2.ax=_;rw [g1'.2.2.2.2,k1.2.2,hr];rfl
     obtain ⟨X,e5⟩:=Zk hE n hn2 cx hl hb n [] r4 k4.1 (by omega) (by omega) hax (by simp);rw [show axT []=[] from rfl,List.append_nil] at e5;have e5:=(Fe (body:=aA P0.glob (aj P0) cx true dW) (keep:=[0]) (env:=[(0,.v (.pt (m+1) 0)),(2,.v (.i .i64 j)),(29,.v (.b false))]) (s:=S r4)).trans e5
     cases h5:Ci src n N n [] r4 with
     | er a5 c5 r5=>
      rw [h5] at e5;simp only [aaY] at e5;simp only [OR.bind_er,mZ];refine ⟨X,dM (by simp) ?_⟩;simp -implicitDefEqProofs [af,aX,d1,e1,hc,hm,hf,ef,ep,e3,e4,e5]
     | ok l r5=>
      rw [h5] at e5;have w5:=QC n N n [] r4 k4.1 (by omega) hax (by simp) h5;simp only [aaX] at e5;simp only [OR.bind_ok];have hA:=hE.app (axT l);have e6:=jM hA r5 cx hl;have w6:=gq w5.1;have e7:=lW hA (bP r5) w6.at_ cx hl;have g7:=fA w6
      cases h7:fP src (bP r5) with
      | er a7 c7 r7=>
       rw [h7] at e7;simp only [bV] at e7;simp only [OR.bind_er,mZ];refine ⟨axT l,dM (by simp) ?_⟩;simp -implicitDefEqProofs [af,aX,d1,e1,hc,hm,hf,ef,ep,e3,e4,e5,e6,e7]
      | ok t r7=>
       rw [h7] at e7;have w7:=(g7.ok h7).1;obtain ⟨t1,t2,t3⟩:=t;simp only [bY,dU] at e7;simp only [OR.bind_ok];have e8:=nG hA (decide (t1=5)) r7 w7 cx hl
       cases h8:oN src (decide (t1=5)) r7 with
       | er a8 c8 r8=>
        rw [h8] at e8;simp only [bV] at e8;simp only [OR.bind_er,mZ];refine ⟨axT l,dM (by simp) ?_⟩;simp -implicitDefEqProofs [af,aX,d1,e1,hc,hm,hf,ef,ep,e3,e4,e5,e6,e7,e8]
       | ok v8 r8=>
        rw [h8] at e8;simp only [bY] at e8;simp only [OR.bind_ok,Rk];refine ⟨[],dM (by simp) ?_⟩;simp -implicitDefEqProofs [af,aX,d1,e1,hc,hm,hf,ef,ep,e3,e4,e5,e6,e7,e8]
end
end Go.Ai.Z
namespace Go.Ai.Z
open Go.Ai
theorem QI (s X:St) (k:Nat):(s++X)[s.length+k]?=X[k]?:=by rw [List.getElem?_append_right (by omega),Nat.add_sub_cancel_left]
theorem Pz (s X:St):(s++X)[s.length]?=X[0]?:=QI s X 0
theorem RG (s X:St) (k:Nat) (v:fE):(s++X).set (s.length+k) v=s++X.set k v:=by rw [List.set_append_right _ _ (by omega),Nat.add_sub_cancel_left]
theorem VL (s X:St) (v:fE):(s++X).set s.length v=s++X.set 0 v:=RG s X 0 v
def r00:Rd:=⟨0,[],[],[],false,.ns⟩
def SO (s:St) (src:Rl) (r:Rd):St:=s++[.map (qH r.pre),rO src s.length r,.map (Tj s.length),.map (TW s.length)]
theorem acW (s:St) (src:Rl) (hs:src.length≤70000):ve src (SO s src) s.length (s.length+4) where
 cell r:=by unfold SO;rw [QI];rfl
 sets r q h:=by unfold SO;rw [RG,←h];rfl
 pm r:=by unfold SO;rw [Pz];rfl
 setp r P:=by
  unfold SO
  have:=RG s [.map (qH r.pre),rO src s.length r,.map (Tj s.length),.map (TW s.length)] 0 (.map (qH P))
  rw [Nat.add_zero] at this;rw [this];rfl
 im r:=by unfold SO;rw [QI];rfl
 cm r:=by unfold SO;rw [QI];rfl
 n r:=by simp [SO]
 src:=hs
theorem Uh (src:Rl) (s:St) (cx:Ctx) (hl:cx.lim≤s.length) (hb:cx.base≤s.length):
  aj P0 (.fn (.func pV) [] []) [.sl (aF src)] s cx=.ret (.pt (s.length+1) 0) (SO s src r00):=by
 refine I9 (by simp) ?_;have h1:cx.lim≤s.length+1:=by omega
 have h2:cx.lim≤s.length+2:=by omega
 have h3:cx.lim≤s.length+3:=by omega
 have h4:cx.base≤s.length+1:=by omega
 have h5:cx.base≤s.length+2:=by omega
 have h6:cx.base≤s.length+3:=by omega
 simp -implicitDefEqProofs [af,rD,dS,splice,QI,Pz,RG,hl,h1,h2,h3,h4,h5,h6,Af,jQ,uX,SO,rO,r00,Tj,TW,rdF,qH,ahV]
def O4 (N:Nat) (src:Rl):List Ax×Rl×Nat×Int:=
 if 65536<src.length then ([],[],0,2) else match NH src (src.length+1) N r00 with
  | .ok l r=>(l,r.iri,0,0)
  | .er a c _=>([],[],a,c)
theorem ac0 {src:Rl} {N:Nat} {l:List Ax} {r:Rd} (h:NH src (src.length+1) N r00=.ok l r):r.ax=axV N l∧l.length≤1024:=by
 unfold NH at h;obtain ⟨u,r0,h0,h⟩:=OR.bind_eq h;obtain ⟨b,r1,h1,h⟩:=OR.bind_eq h;obtain ⟨u,r2,h2,h⟩:=OR.bind_eq h;obtain ⟨u,r3,h3,h⟩:=OR.bind_eq h;obtain ⟨u,r4,h4,h⟩:=OR.bind_eq h;obtain ⟨l2,r5,h5,h⟩:=OR.bind_eq h;obtain ⟨t,r6,h6,h⟩:=OR.bind_eq h;obtain ⟨u,r7,h7,h⟩:=OR.bind_eq h;cases h;have w:Wr src r00:=⟨by simp [r00],by simp [r00]⟩;have hn:rem src r00<src.length+1:=by simp [rem,r00]
 have g0:=(IV _ _ w hn).ok h0;have g1:=(kQ g0.1 _).ok h1;have g2:=(gK g1.1 _).ok h2;have kp:=xO src r2;have g3:=(aC (gq g2.1) [40] (by simp)).ok h3;have g4:=(IW 2 r3 g3.1).ok h4;have hax:r4.ax=axV N []:=by rw [g4.2.2,g3.2.2.2.2];show r2.ax=_;rw [g2.2.2.2.2,g1.2.2.2.2,g0.2.2];rfl
 have g5:=QC _ N _ [] r4 g4.1 (by omega) hax (by simp) h5;have g6:=(fA (gq g5.1)).ok h6;have g7:=(gK g6.1 _).ok h7;refine ⟨?_,g5.2.2.2⟩;rw [g7.2.2.2.2,g6.2.2.2.2];exact g5.2.2.1
theorem ED (n:Nat) (x:Ax):(iH x).under n=true:=by
 have h:∀l:List Rl,cu n (l.map AV.s)=true:=fun l=>by induction l with|nil=>rfl|cons a r ih=>simp [cu,AV.under,ih]
 rw [show iH x=.ag (cellsA x) from rfl,cellsA];simp [-X4,AV.under,cu,h]
theorem BG (n:Nat):∀l:List Ax,cu n (l.map iH)=true
 | []=>rfl
 | x::l=>by simp [cu,ED,BG n l]
def EI:St:=[.cells [.ns],.cells [.s []],.cells [.i .i64 0],.cells [.i .i64 0]]
theorem adi (src:Rl) (hs:src.length≤70000) (s:St) (cx:Ctx) (hl:cx.lim≤s.length):
  aj P0 (.fn (.func lT) [] []) [.sl (aF src)] s cx=.ret (.tu [uM (O4 (s.length+8) src).1,.s (O4 (s.length+8) src).2.1,.i .i64 (O4 (s.length+8) src).2.2.1,.i .i64 (O4 (s.length+8) src).2.2.2]) s:=by
 refine Oe (d:=oW) rfl rfl rfl (by simp) ?_;have hbl:=kR src;have l1:cx.lim≤s.length+1:=by omega
 have l2:cx.lim≤s.length+2:=by omega
 have l3:cx.lim≤s.length+3:=by omega
 unfold O4;by_cases q:65536<src.length
 ·rw [if_pos q];have qi:(65536:Int)<(src.length:Int):=by omega
  simp -implicitDefEqProofs [uP,oW,wG,SN,hbl,qi,hl,l1,l2,l3,QI,Pz,RG,VL,uM,frz,AV.under,cu]
 ·rw [if_neg q];have qi:¬(65536:Int)<(src.length:Int):=by omega
  have hE:=acW (s++EI) src hs;have hL:(s++EI).length=s.length+4:=by simp [EI]
  have e1:=Uh src (s++EI) ⟨cx.lim,s.length⟩ (by rw [hL];show cx.lim≤_;omega) (by rw [hL];show s.length≤_;omega);obtain ⟨X,e2⟩:=Vw hE (src.length+1) (by omega) r00 rfl ⟨by simp [r00],by simp [r00]⟩ (by simp [rem,r00]) ⟨cx.lim,s.length⟩ (by rw [hL];show cx.lim≤_;omega) (by rw [hL];show s.length≤_;omega);rw [hL,show s.length+4+4=s.length+8 from rfl] at e2;rw [hL] at e1
  cases hd:NH src (src.length+1) (s.length+8) r00 with
  | er a c r=>
   rw [hd] at e2;simp only [mZ] at e2;simp only [xE];obtain ⟨Y,hY⟩:∃Y,SO (s++EI) src r++X=s++(fE.cells [.ns]::fE.cells [.s []]::fE.cells [.i .i64 0]::fE.cells [.i .i64 0]::Y):=⟨[.map (qH r.pre),rO src (s++EI).length r,.map (Tj (s++EI).length),.map (TW (s++EI).length)]++X,by simp [SO,EI]⟩;rw [hY] at e2;generalize SO (s++EI) src r00=S1 at *;unfold EI at *;simp -implicitDefEqProofs [uP,oW,wG,SN,hbl,qi,e1,e2,placeOf,Bh,rW,kS,wM,rF,flt,hl,l1,l2,l3,QI,Pz,RG,VL,frz,AV.under,cu,show AV.ns.flat=true from rfl]
  | ok l r=>
   rw [hd] at e2;simp only [Rk] at e2;have hax:=(ac0 hd).1;have hY:SO (s++EI) src r++axT l=s++(fE.cells [.ns]::fE.cells [.s []]::fE.cells [.i .i64 0]::fE.cells [.i .i64 0]::.map (qH r.pre)::.cells [.sl (aF src),.i .i64 r.at_,ahV r.ah,.mp (s.length+4),.s r.iri,.b r.op,axV (s.length+8) l,.mp (s.length+4+2),.mp (s.length+4+3)]::.map (Tj (s.length+4))::.map (TW (s.length+4))::axT l):=by simp [SO,EI,rO,hax]
   rw [hY] at e2;generalize SO (s++EI) src r00=S1 at *;unfold EI at *;have h5:s.length+4+1=s.length+5:=rfl
   cases l with
   | nil=>
    simp only [axV,axT,h5] at e2;simp -implicitDefEqProofs [uP,oW,wG,SN,hbl,qi,e1,e2,placeOf,Bh,rW,kS,wM,rF,flt,hl,l1,l2,l3,QI,Pz,RG,VL,frz,zD,AV.under,cu,h5,uM,Ic,ED,BG,show AV.ns.flat=true from rfl]
   | cons x l=>
    simp only [axV,axT,h5] at e2;simp -implicitDefEqProofs [uP,oW,wG,SN,hbl,qi,e1,e2,placeOf,Bh,rW,kS,wM,rF,flt,hl,l1,l2,l3,QI,Pz,RG,VL,frz,zD,AV.under,cu,h5,uM,Ic,ED,BG,show AV.ns.flat=true from rfl]
end Go.Ai.Z
