/-
 The reader of ontology documents: the lines of prefixes.
-/
import Derived.Test.YtcofenimejmoeaaGreatDoorAiOX11OX12OX13
import Derived.Test.YtcofenimejmoeaaGreatDoorAiK1K2K3K4K5K6K7
import Derived.Test.YtcofenimejmoeaaGreatDoorAiOX1OX2OX3OX4
import Derived.Test.YtcofenimejmoeaaGreatDoorAiOW1OW2OW3OW4OW5
import Derived.Test.YtcofenimejmoeaaGreatDoorAiRchR1R2R3R4R5
set_option maxRecDepth 100000
set_option linter.unusedSimpArgs false
set_option linter.unusedVariables false
set_option linter.unusedSectionVars false
namespace Go.Ai.Z
theorem agQ {src:Rl} {r:Rd} (h:Wr src r) (P:List Rl) (i:Rl):Wr src { r with pre:=P,iri:=i }:=⟨h.at_,h.ah⟩
def qY {α:Type} (src:Rl) (r:Rd) (k:Nat) (x:OR α):Prop:=
 match x with
 | .ok _ q=>Wr src q∧rem src q+k≤rem src r∧q.ax=r.ax
 | .er a c _=>a≤src.length∧c=50
theorem aG.p {α:Type} {src:Rl} {r:Rd} {k:Nat} {x:OR α} (h:aG src r k x):qY src r k x:=by
 cases x with
 | er a c q=>exact h
 | ok v q=>obtain ⟨h1,h2,_,_,h3⟩:=h;exact ⟨h1,h2,h3⟩
theorem qY.ok {α:Type} {src:Rl} {r q:Rd} {v:α} {k:Nat} {x:OR α} (h:qY src r k x) (e:x=.ok v q):Wr src q∧rem src q+k≤rem src r∧q.ax=r.ax:=by subst e;exact h
theorem qY.bind {α β:Type} {src:Rl} {r:Rd} {k j n:Nat} {x:OR α} {f:α→Rd→OR β} (h:qY src r k x)
  (hf:∀v q,x=.ok v q→Wr src q→rem src q+k≤rem src r→qY src q j (f v q)) (hn:n≤k+j):qY src r n (x.bind f):=by
 cases x with
 | er a c q=>exact h
 | ok v q=>
  obtain ⟨h1,h2,h5⟩:=h;have h6:=hf v q rfl h1 h2;rw [OR.bind_ok];generalize f v q=y at *
  cases y with
  | er a c q2=>exact h6
  | ok w q2=>
   obtain ⟨g1,g2,g5⟩:=h6;exact ⟨g1,by omega,g5.trans h5⟩
theorem YU {α:Type} {src:Rl} {r:Rd} {k:Nat} {x:OR α} (h:Sn src r) (hw:Wr src r) (hx:qY src (cu r) k x):qY src r (k+1) x:=by
 have h1:=h.pass hw
 cases x with
 | er a c q=>exact hx
 | ok v q=>
  obtain ⟨g1,g2,g5⟩:=hx;exact ⟨g1,by omega,g5⟩
theorem TP {P:List Rl} {t:Tk} (h:Ov P t=true):t.1=4:=by
 unfold Ov at h;simp only [Bool.and_eq_true,decide_eq_true_eq] at h;exact h.1.1.1
theorem FD {w:Rl} {t:Tk} (h:zS w t=true):t.1=2:=by
 unfold zS at h;simp only [Bool.and_eq_true,decide_eq_true_eq] at h;exact h.1.1
theorem Me {src:Rl} {r:Rd} (h:Wr src r):qY src r 1 (H7 src r):=by
 unfold H7;refine qY.bind (k:=1) (j:=0) (aB h _ (by simp)).p (fun _ q1 e1 h1 k1=>?_) (by omega);refine qY.bind (k:=1) (j:=0) (aB h1 _ (by simp)).p (fun _ q2 e2 h2 k2=>?_) (by omega);refine qY.bind (k:=0) (j:=0) (dn h2).p (fun t q3 e3 h3 k3=>?_) (by omega);refine qY.bind (k:=0) (j:=0) (dL h3 _).p (fun _ q4 e4 h4 k4=>?_) (by omega);obtain ⟨hb,hq⟩:=yU e4;subst hq;have hs:=JI e3 ((mM h2 e3).2.one (by have:=TP hb;omega));have hp:=hs.pass h4
 have key:qY src q4 (0+1) _:=YU (k:=0) hs h4 (x:=(lK src [61] (cu q4)).bind fun _ r=>
  (iM src r).bind fun u r=>(qV src (zS t.2.1 u) r).bind fun _ r=>(lK src [41] (cu r)).bind fun _ r=>
   .ok () { r with pre:=qH r.pre t.2.1,iri:=if t.2.1=[58] then xX u.2.1 else r.iri }) (by
  refine qY.bind (k:=1) (j:=0) (aB hp.1 _ (by simp)).p (fun _ q5 e5 h5 k5=>?_) (by omega);refine qY.bind (k:=0) (j:=0) (dn h5).p (fun u q6 e6 h6 k6=>?_) (by omega);refine qY.bind (k:=0) (j:=0) (dL h6 _).p (fun _ q7 e7 h7 k7=>?_) (by omega);obtain ⟨hb2,hq2⟩:=yU e7;subst hq2;refine qY.bind (k:=0) (j:=0) ?_ (fun _ q8 e8 h8 k8=>?_) (by omega)
  ·have hs2:=JI e6 ((mM h5 e6).2.one (by have:=FD hb2;omega));have hp2:=hs2.pass h7;exact ((qC (k:=1) hs2 h7 (aB hp2.1 _ (by simp))).wk (by omega)).p
  ·exact ⟨agQ h8 _ _,by show rem src q8+0≤_;omega,rfl⟩)
 generalize (lK src [61] (cu q4)).bind _=y at key ⊢
 cases y with
 | er a c q=>exact key
 | ok v q=>obtain ⟨g1,g2,g3⟩:=key;exact ⟨g1,by omega,g3⟩
section
variable {src:Rl} {S:Rd→St} {m N:Nat} (hE:x9 src S m N)
include hE
theorem OY (r:Rd) (P:List Rl):(S r).set m (.map (pX P))=S { r with pre:=P }:=hE.setp r P
theorem afH (r:Rd) (i:Rl):(S r).set (m+1) (.cells [.sl (aF src),.i .i64 r.at_,ahV r.ah,.mp m,.s i,.b r.op,r.ax,.mp (m+2),.mp (m+3)])=S { r with iri:=i }:=hE.sets r { r with iri:=i } rfl
theorem aev (r:Rd) (ha:Wr src r) (cx:Ctx) (hl:cx.lim≤m):
  aj P0 (.fn (.func nD) [] []) [.pt (m+1) 0] (S r) cx=tJ (fun _=>.tu []) S (H7 src r):=by
 refine FQ (jQ _ _ _) ?_;have hN:=hE.n;have hS:=hE.src;have hlim:cx.lim≤m+1:=by omega
 unfold H7;obtain ⟨a,c,q,hx,e1⟩|⟨v1,r1,h1,e1,g1⟩:=spl (iI hE wC0 r ha ⟨cx.lim,N⟩ hl) (aB ha wC0 (by simp))
 ·rw [hx];simp -implicitDefEqProofs [af,ay,hN,e1]
 rw [h1];simp only [OR.bind_ok];have w1:=g1.1;obtain ⟨a,c,q,hx,e2⟩|⟨v2,r2,h2,e2,g2⟩:=spl (iI hE [40] r1 w1 ⟨cx.lim,N⟩ hl) (aB w1 [40] (by simp))
 ·rw [hx];simp -implicitDefEqProofs [af,ay,hN,e1,e2]
 rw [h2];simp only [OR.bind_ok];have w2:=g2.1;obtain ⟨a,c,q,hx,e3⟩|⟨t,r3,h3,e3,g3⟩:=spl (oL hE r2 (w2).at_ ⟨cx.lim,N⟩ hl) (dn w2)
 ·rw [hx];simp -implicitDefEqProofs [af,ay,hN,e1,e2,e3]
 rw [h3];simp only [OR.bind_ok];have w3:=g3.1;have e3b:=oL hE r3 w3.at_ ⟨cx.lim,N⟩ hl;rw [(qw h3).1] at e3b;simp only [dF] at e3b;have kt:=(mM w2 h3).2;have hx:=Bq t.2.1 58;have hc3:=uN hE r3;have hm3:=hE.pm r3;have hf3:=Dj t.2.1 r3.pre;obtain ⟨k,w,a⟩:=t;simp only at hx hf3 kt;have hwl:w.length≤src.length:=kt.len;have hwi:IntKind.i64.wrap ((w.length:Int) - 1)=(w.length:Int) - 1:=w64 (by omega) (by omega);have ef:=pU hE (Ov r3.pre (k,w,a)) r3 w3 ⟨cx.lim,N⟩ hl
 cases hb:Ov r3.pre (k,w,a) with
 | false=>
  rw [hb] at ef;obtain ⟨a2,c2,r2x,hxx⟩:=yV src r3;rw [hxx] at ef ⊢;simp only [dB] at ef;simp only [OR.bind_er,dB];unfold Ov at hb;by_cases q1:¬k=4
  ·simp -implicitDefEqProofs [af,ay,hN,fG,e1,e2,e3,e3b,hx,hc3,hm3,hf3,ef,q1]
  have q1:=Classical.not_not.1 q1;by_cases q2:¬Go.Lib.indexByte w 58=(w.length:Int) - 1
  ·simp -implicitDefEqProofs [af,ay,hN,fG,e1,e2,e3,e3b,hx,hc3,hm3,hf3,ef,q1,q2,hwi]
  have q2:=Classical.not_not.1 q2;by_cases q3:w=[58]
  ·have q4:[58]∈r3.pre:=by
    have h58:Go.Lib.indexByte [58] 58=0:=rfl;rw [q3] at hb
    simpa [q1,h58] using hb
   subst q3;simp only [q4,if_true] at hf3;have h58:Go.Lib.indexByte [58] 58=0:=rfl;have w0:IntKind.i64.wrap 0=0:=rfl;rw [h58] at hx;simp -implicitDefEqProofs [af,ay,hN,fG,e1,e2,e3,e3b,hx,hc3,hm3,hf3,ef,q1,w0]
  ·have h1:=kt.one (by simp [q1])
   cases w with
   | nil=>simp at h1
   | cons c w'=>
    have el:=uG c.toNat;have q3a:¬(c=58∧w'=[]):=fun h=>q3 (by rw [h.1,h.2])
    have q3b:(c == 58 && w'.isEmpty)=false:=by cases h:(c == 58 && w'.isEmpty) with
     | false=>rfl
     | true=>rw [Bool.and_eq_true,beq_iff_eq,List.isEmpty_iff] at h;exact absurd h q3a
    have hwl2:w'.length+1≤src.length:=hwl;have w0:IntKind.i64.wrap (w'.length:Int)=w'.length:=w64 (by omega) (by omega);have hcl:((c::w').length:Int) - 1=w'.length:=by simp
    rw [hcl] at q2
    cases q5:ltI c.toNat with
    | false=>
     rw [q5] at el;rw [q2] at hx;simp -implicitDefEqProofs [af,ay,hN,fG,e1,e2,e3,e3b,hx,hc3,hm3,hf3,ef,q1,q3,q3a,q3b,w0,el]
    | true=>
     have q4:c::w'∈r3.pre:=by simpa [q1,hcl,q2,q3,q5] using hb
     rw [q5] at el;rw [q2] at hx;simp only [q4,if_true] at hf3;simp -implicitDefEqProofs [af,ay,hN,fG,e1,e2,e3,e3b,hx,hc3,hm3,hf3,ef,q1,q3,q3a,q3b,w0,el]
 | true=>
  rw [hb] at ef;rw [o8] at ef ⊢;simp only [dF] at ef;simp only [OR.bind_ok];have q1:k=4:=TP hb
  have hnp:¬w∈r3.pre:=by
   unfold Ov at hb;simp only [Bool.and_eq_true,decide_eq_true_eq,Bool.not_eq_true',decide_eq_false_iff_not] at hb;exact hb.2
  have q2:Go.Lib.indexByte w 58=(w.length:Int) - 1:=by
   unfold Ov at hb;simp only [Bool.and_eq_true,decide_eq_true_eq] at hb;exact hb.1.1.2
  simp only [hnp,if_false] at hf3;by_cases q3:w=[58]
  ·subst q3;have h58:Go.Lib.indexByte [58] 58=0:=rfl;have w0:IntKind.i64.wrap 0=0:=rfl;have q3o:¬([58]:Rl)=[111,119,108,58]:=by simp
   have q3x:¬([58]:Rl)=[120,115,100,58]:=by simp
   rw [h58] at hx;have e5:=lG hE r3 ⟨cx.lim,N⟩ hl;have w5:=dN w3;obtain ⟨a,c,q,hz,e6⟩|⟨v6,r6,h6,e6,g6⟩:=spl (iI hE [61] (cu r3) w5 ⟨cx.lim,N⟩ hl) (aB w5 [61] (by simp))
   ·rw [hz];simp -implicitDefEqProofs [af,ay,hN,fG,e1,e2,e3,e3b,hx,hc3,hm3,hf3,ef,q1,w0,e5,e6]
   rw [h6];simp only [OR.bind_ok];have w6:=g6.1;obtain ⟨a,c,q,hz,e7⟩|⟨u,r7,h7,e7,g7⟩:=spl (oL hE r6 w6.at_ ⟨cx.lim,N⟩ hl) (dn w6)
   ·rw [hz];simp -implicitDefEqProofs [af,ay,hN,fG,e1,e2,e3,e3b,hx,hc3,hm3,hf3,ef,q1,w0,e5,e6,e7]
   rw [h7];simp only [OR.bind_ok];obtain ⟨w7,ku⟩:=mM w6 h7;have e7b:=oL hE r7 w7.at_ ⟨cx.lim,N⟩ hl;rw [(qw h7).1] at e7b;simp only [dF] at e7b;obtain ⟨k2,i2,a2⟩:=u;have hil:i2.length≤src.length:=ku.len;have ef2:=pU hE (zS [58] (k2,i2,a2)) r7 w7 ⟨cx.lim,N⟩ hl
   cases hb2:zS [58] (k2,i2,a2) with
   | false=>
    rw [hb2] at ef2;obtain ⟨a9,c9,r9,h9⟩:=yV src r7;rw [h9] at ef2 ⊢;simp only [dB] at ef2;simp only [OR.bind_er,dB];unfold zS at hb2;by_cases p1:¬k2=2
    ·simp -implicitDefEqProofs [af,ay,hN,fG,e1,e2,e3,e3b,hx,hc3,hm3,hf3,ef,q1,w0,e5,e6,e7,e7b,ef2,p1]
    have p1:=Classical.not_not.1 p1;rw [p1] at hb2;simp [q3o,q3x] at hb2
   | true=>
    rw [hb2] at ef2;rw [o8] at ef2 ⊢;simp only [dF] at ef2;simp only [OR.bind_ok];have p1:k2=2:=FD hb2;have e10:=lG hE r7 ⟨cx.lim,N⟩ hl;have w10:=dN w7;obtain ⟨a,c,q,hz,e11⟩|⟨v11,r11,h11,e11,g11⟩:=spl (iI hE [41] (cu r7) w10 ⟨cx.lim,N⟩ hl) (aB w10 [41] (by simp))
    ·rw [hz];simp -implicitDefEqProofs [af,ay,hN,fG,e1,e2,e3,e3b,hx,hc3,hm3,hf3,ef,q1,w0,e5,e6,e7,e7b,ef2,p1,e10,e11]
    rw [h11];simp only [OR.bind_ok];have hc11:=uN hE r11;have hm11:=hE.pm r11;have hpt:=sU [58] r11.pre;have hs11:=OY hE r11 (qH r11.pre [58]);have hc12:=uN hE { r11 with pre:=qH r11.pre [58] };have hs12:=afH hE { r11 with pre:=qH r11.pre [58] };have h2:=ku.two (.inl p1);simp only at h2;have hwi2:IntKind.i64.wrap ((i2.length:Int) - 1)=(i2.length:Int) - 1:=w64 (by omega) (by omega);have z1:(1:Int)≤(i2.length:Int):=by omega
    have z2:((i2.length:Int) - 1).toNat=i2.length - 1:=by omega
    have z3:i2.tail.take (i2.length - 1 - 1)=xX i2:=by unfold xX;rw [Nat.sub_sub,List.drop_one]
    have z4:1≤i2.length - 1:=by omega
    have hlm:cx.lim≤m:=hl;simp -implicitDefEqProofs [af,ay,hN,fG,e1,e2,e3,e3b,hx,hc3,hm3,hf3,ef,q1,w0,e5,e6,e7,e7b,ef2,p1,e10,e11,hc11,hm11,hpt,hs11,uf,hc12,hs12,hlim,hlm,hwi2,z1,z2,z3,z4]
  by_cases q3o:w=[111,119,108,58]
  ·subst q3o;have h58:Go.Lib.indexByte [111,119,108,58] 58=3:=rfl;have w0:IntKind.i64.wrap 3=3:=rfl;have el:=uG 111;rw [show ltI 111=true from rfl] at el;rw [h58] at hx;have e5:=lG hE r3 ⟨cx.lim,N⟩ hl;have w5:=dN w3;obtain ⟨a,c,q,hz,e6⟩|⟨v6,r6,h6,e6,g6⟩:=spl (iI hE [61] (cu r3) w5 ⟨cx.lim,N⟩ hl) (aB w5 [61] (by simp))
   ·rw [hz];simp -implicitDefEqProofs [af,ay,hN,fG,e1,e2,e3,e3b,hx,hc3,hm3,hf3,ef,q1,w0,el,e5,e6]
   rw [h6];simp only [OR.bind_ok];have w6:=g6.1;obtain ⟨a,c,q,hz,e7⟩|⟨u,r7,h7,e7,g7⟩:=spl (oL hE r6 w6.at_ ⟨cx.lim,N⟩ hl) (dn w6)
   ·rw [hz];simp -implicitDefEqProofs [af,ay,hN,fG,e1,e2,e3,e3b,hx,hc3,hm3,hf3,ef,q1,w0,el,e5,e6,e7]
   rw [h7];simp only [OR.bind_ok];obtain ⟨w7,ku⟩:=mM w6 h7;have e7b:=oL hE r7 w7.at_ ⟨cx.lim,N⟩ hl;rw [(qw h7).1] at e7b;simp only [dF] at e7b;obtain ⟨k2,i2,a2⟩:=u;have hil:i2.length≤src.length:=ku.len;have ef2:=pU hE (zS [111,119,108,58] (k2,i2,a2)) r7 w7 ⟨cx.lim,N⟩ hl
   cases hb2:zS [111,119,108,58] (k2,i2,a2) with
   | false=>
    rw [hb2] at ef2;obtain ⟨a9,c9,r9,h9⟩:=yV src r7;rw [h9] at ef2 ⊢;simp only [dB] at ef2;simp only [OR.bind_er,dB];unfold zS at hb2;by_cases p1:¬k2=2
    ·simp -implicitDefEqProofs [af,ay,hN,fG,e1,e2,e3,e3b,hx,hc3,hm3,hf3,ef,q1,w0,el,e5,e6,e7,e7b,ef2,p1]
    have p1:=Classical.not_not.1 p1
    have p2:¬i2=wC1:=fun h=>by
     rw [p1,h] at hb2;simp at hb2
    simp -implicitDefEqProofs [af,ay,hN,fG,e1,e2,e3,e3b,hx,hc3,hm3,hf3,ef,q1,w0,el,e5,e6,e7,e7b,ef2,p1,p2]
   | true=>
    rw [hb2] at ef2;rw [o8] at ef2 ⊢;simp only [dF] at ef2;simp only [OR.bind_ok];have p1:k2=2:=FD hb2
    have p2:i2=wC1:=by
     unfold zS at hb2;rw [p1] at hb2
     simpa using hb2
    have e10:=lG hE r7 ⟨cx.lim,N⟩ hl;have w10:=dN w7;obtain ⟨a,c,q,hz,e11⟩|⟨v11,r11,h11,e11,g11⟩:=spl (iI hE [41] (cu r7) w10 ⟨cx.lim,N⟩ hl) (aB w10 [41] (by simp))
    ·rw [hz];simp -implicitDefEqProofs [af,ay,hN,fG,e1,e2,e3,e3b,hx,hc3,hm3,hf3,ef,q1,w0,el,e5,e6,e7,e7b,ef2,p1,p2,e10,e11]
    rw [h11];simp only [OR.bind_ok];have hc11:=uN hE r11;have hm11:=hE.pm r11;have hpt:=sU [111,119,108,58] r11.pre;have hs11:=OY hE r11 (qH r11.pre [111,119,108,58]);have hlm:cx.lim≤m:=hl;simp -implicitDefEqProofs [af,ay,hN,fG,e1,e2,e3,e3b,hx,hc3,hm3,hf3,ef,q1,w0,el,e5,e6,e7,e7b,ef2,p1,p2,e10,e11,hc11,hm11,hpt,hs11,hlim,hlm,uf]
  by_cases q3x:w=[120,115,100,58]
  ·subst q3x;have h58:Go.Lib.indexByte [120,115,100,58] 58=3:=rfl;have w0:IntKind.i64.wrap 3=3:=rfl;have el:=uG 120;rw [show ltI 120=true from rfl] at el;rw [h58] at hx;have e5:=lG hE r3 ⟨cx.lim,N⟩ hl;have w5:=dN w3;obtain ⟨a,c,q,hz,e6⟩|⟨v6,r6,h6,e6,g6⟩:=spl (iI hE [61] (cu r3) w5 ⟨cx.lim,N⟩ hl) (aB w5 [61] (by simp))
   ·rw [hz];simp -implicitDefEqProofs [af,ay,hN,fG,e1,e2,e3,e3b,hx,hc3,hm3,hf3,ef,q1,w0,el,e5,e6]
   rw [h6];simp only [OR.bind_ok];have w6:=g6.1;obtain ⟨a,c,q,hz,e7⟩|⟨u,r7,h7,e7,g7⟩:=spl (oL hE r6 w6.at_ ⟨cx.lim,N⟩ hl) (dn w6)
   ·rw [hz];simp -implicitDefEqProofs [af,ay,hN,fG,e1,e2,e3,e3b,hx,hc3,hm3,hf3,ef,q1,w0,el,e5,e6,e7]
   rw [h7];simp only [OR.bind_ok];obtain ⟨w7,ku⟩:=mM w6 h7;have e7b:=oL hE r7 w7.at_ ⟨cx.lim,N⟩ hl;rw [(qw h7).1] at e7b;simp only [dF] at e7b;obtain ⟨k2,i2,a2⟩:=u;have hil:i2.length≤src.length:=ku.len;have ef2:=pU hE (zS [120,115,100,58] (k2,i2,a2)) r7 w7 ⟨cx.lim,N⟩ hl
   cases hb2:zS [120,115,100,58] (k2,i2,a2) with
   | false=>
    rw [hb2] at ef2;obtain ⟨a9,c9,r9,h9⟩:=yV src r7;rw [h9] at ef2 ⊢;simp only [dB] at ef2;simp only [OR.bind_er,dB];unfold zS at hb2;by_cases p1:¬k2=2
    ·simp -implicitDefEqProofs [af,ay,hN,fG,e1,e2,e3,e3b,hx,hc3,hm3,hf3,ef,q1,w0,el,e5,e6,e7,e7b,ef2,p1]
    have p1:=Classical.not_not.1 p1
    have p2:¬i2=wB8:=fun h=>by
     rw [p1,h] at hb2;simp at hb2
    simp -implicitDefEqProofs [af,ay,hN,fG,e1,e2,e3,e3b,hx,hc3,hm3,hf3,ef,q1,w0,el,e5,e6,e7,e7b,ef2,p1,p2]
   | true=>
    rw [hb2] at ef2;rw [o8] at ef2 ⊢;simp only [dF] at ef2;simp only [OR.bind_ok];have p1:k2=2:=FD hb2
    have p2:i2=wB8:=by
     unfold zS at hb2;rw [p1] at hb2
     simpa using hb2
    have e10:=lG hE r7 ⟨cx.lim,N⟩ hl;have w10:=dN w7;obtain ⟨a,c,q,hz,e11⟩|⟨v11,r11,h11,e11,g11⟩:=spl (iI hE [41] (cu r7) w10 ⟨cx.lim,N⟩ hl) (aB w10 [41] (by simp))
    ·rw [hz];simp -implicitDefEqProofs [af,ay,hN,fG,e1,e2,e3,e3b,hx,hc3,hm3,hf3,ef,q1,w0,el,e5,e6,e7,e7b,ef2,p1,p2,e10,e11]
    rw [h11];simp only [OR.bind_ok];have hc11:=uN hE r11;have hm11:=hE.pm r11;have hpt:=sU [120,115,100,58] r11.pre;have hs11:=OY hE r11 (qH r11.pre [120,115,100,58]);have hlm:cx.lim≤m:=hl;simp -implicitDefEqProofs [af,ay,hN,fG,e1,e2,e3,e3b,hx,hc3,hm3,hf3,ef,q1,w0,el,e5,e6,e7,e7b,ef2,p1,p2,e10,e11,hc11,hm11,hpt,hs11,hlim,hlm,uf]
  have h1:=kt.one (by simp [q1])
  cases w with
  | nil=>simp at h1
  | cons c w'=>
   have el:=uG c.toNat;have q3a:¬(c=58∧w'=[]):=fun h=>q3 (by rw [h.1,h.2])
   have q3b:(c == 58 && w'.isEmpty)=false:=by cases h:(c == 58 && w'.isEmpty) with
    | false=>rfl
    | true=>rw [Bool.and_eq_true,beq_iff_eq,List.isEmpty_iff] at h;exact absurd h q3a
   have hwl2:w'.length+1≤src.length:=hwl;have w0:IntKind.i64.wrap (w'.length:Int)=w'.length:=w64 (by omega) (by omega);have hcl:((c::w').length:Int) - 1=w'.length:=by simp
   rw [hcl] at q2;rw [q2] at hx
   have q5:ltI c.toNat=true:=by
    unfold Ov at hb
    simpa [q1,hcl,q2,q3,hnp] using hb
   rw [q5] at el;have q3o:¬c::w'=[111,119,108,58]:=q3o;have q3x:¬c::w'=[120,115,100,58]:=q3x;generalize hW:c::w'=W at *;have wW:IntKind.i64.wrap ((W.length:Int) - 1)=w'.length:=by rw [←hW];simpa using w0
   have hW0:W[0]?=some c:=by rw [←hW];rfl
   have hW1:W.head?=some c:=by rw [←hW];rfl
   have e5:=lG hE r3 ⟨cx.lim,N⟩ hl;have w5:=dN w3;obtain ⟨a,c,q,hz,e6⟩|⟨v6,r6,h6,e6,g6⟩:=spl (iI hE [61] (cu r3) w5 ⟨cx.lim,N⟩ hl) (aB w5 [61] (by simp))
   ·rw [hz];simp -implicitDefEqProofs [af,ay,hN,fG,e1,e2,e3,e3b,hx,hc3,hm3,hf3,ef,q1,w0,el,q3,q3o,q3x,wW,hW0,hW1,e5,e6]
   rw [h6];simp only [OR.bind_ok];have w6:=g6.1;obtain ⟨a,c,q,hz,e7⟩|⟨u,r7,h7,e7,g7⟩:=spl (oL hE r6 w6.at_ ⟨cx.lim,N⟩ hl) (dn w6)
   ·rw [hz];simp -implicitDefEqProofs [af,ay,hN,fG,e1,e2,e3,e3b,hx,hc3,hm3,hf3,ef,q1,w0,el,q3,q3o,q3x,wW,hW0,hW1,e5,e6,e7]
   rw [h7];simp only [OR.bind_ok];obtain ⟨w7,ku⟩:=mM w6 h7;have e7b:=oL hE r7 w7.at_ ⟨cx.lim,N⟩ hl;rw [(qw h7).1] at e7b;simp only [dF] at e7b;obtain ⟨k2,i2,a2⟩:=u;have hil:i2.length≤src.length:=ku.len;have ef2:=pU hE (zS W (k2,i2,a2)) r7 w7 ⟨cx.lim,N⟩ hl
   cases hb2:zS W (k2,i2,a2) with
   | false=>
    rw [hb2] at ef2;obtain ⟨a9,c9,r9,h9⟩:=yV src r7;rw [h9] at ef2 ⊢;simp only [dB] at ef2;simp only [OR.bind_er,dB];unfold zS at hb2;by_cases p1:¬k2=2
    ·simp -implicitDefEqProofs [af,ay,hN,fG,e1,e2,e3,e3b,hx,hc3,hm3,hf3,ef,q1,w0,el,q3,q3o,q3x,wW,hW0,hW1,e5,e6,e7,e7b,ef2,p1]
    have p1:=Classical.not_not.1 p1;rw [p1] at hb2;simp [q3o,q3x] at hb2
   | true=>
    rw [hb2] at ef2;rw [o8] at ef2 ⊢;simp only [dF] at ef2;simp only [OR.bind_ok];have p1:k2=2:=FD hb2;have e10:=lG hE r7 ⟨cx.lim,N⟩ hl;have w10:=dN w7;obtain ⟨a,c,q,hz,e11⟩|⟨v11,r11,h11,e11,g11⟩:=spl (iI hE [41] (cu r7) w10 ⟨cx.lim,N⟩ hl) (aB w10 [41] (by simp))
    ·rw [hz];simp -implicitDefEqProofs [af,ay,hN,fG,e1,e2,e3,e3b,hx,hc3,hm3,hf3,ef,q1,w0,el,q3,q3o,q3x,wW,hW0,hW1,e5,e6,e7,e7b,ef2,p1,e10,e11]
    rw [h11];simp only [OR.bind_ok];have hc11:=uN hE r11;have hm11:=hE.pm r11;have hpt:=sU W r11.pre;have hs11:=OY hE r11 (qH r11.pre W);have hlm:cx.lim≤m:=hl;simp -implicitDefEqProofs [af,ay,hN,fG,e1,e2,e3,e3b,hx,hc3,hm3,hf3,ef,q1,w0,el,q3,q3o,q3x,wW,hW0,hW1,e5,e6,e7,e7b,ef2,p1,e10,e11,hc11,hm11,hpt,hs11,hlim,hlm,uf]
end
end Go.Ai.Z
namespace Go.Ai.Z
theorem OX (N a0:Nat):∀(xs l:List Ax) (r:Rd) {l':List Ax} {q:Rd},zB N a0 xs l r=.ok l' q→q.at_=r.at_∧q.ah=r.ah∧q.op=r.op∧l'=l++xs.map (fun x=>{ x with op:=r.op })∧(∀x∈xs,dW { x with op:=r.op }=0)∧q.pre=r.pre∧q.iri=r.iri
 | [],l,r,l',q,h=>by cases h;simp
 | x::xs,l,r,l',q,h=>by
  unfold zB at h
  split at h
  ·rename_i hc;obtain ⟨h1,h2,h3,h4,h5,h6,h7⟩:=OX N a0 xs _ _ h;refine ⟨h1,h2,h3,by rw [h4];simp,fun y hy=>?_,h6,h7⟩;rcases List.mem_cons.1 hy with rfl|hy
   ·exact hc
   ·exact h5 y hy
  ·cases h
theorem ae2 {src:Rl} {r q:Rd} (h:Wr src r) (h1:q.at_=r.at_) (h2:q.ah=r.ah):Wr src q∧rem src q=rem src r:=⟨⟨by rw [h1];exact h.at_,by rw [h2];exact h.ah⟩,by unfold rem;rw [h1,h2]⟩
theorem O5 {src:Rl} {n N:Nat} {l l':List Ax} {r q:Rd} (hr:Wr src r) (hn:rem src r<n) (hax:r.ax=axV N l) (h:zf src n N l r=.ok l' q):Wr src q∧rem src q+1≤rem src r∧q.ax=axV N l'∧l'.length≤1024:=by
 unfold zf at h;obtain ⟨t,r1,h1,h⟩:=OR.bind_eq h;obtain ⟨u,r2,h2,h⟩:=OR.bind_eq h;obtain ⟨u,r4,h4,h⟩:=OR.bind_eq h;obtain ⟨xs,r5,h5,h⟩:=OR.bind_eq h;obtain ⟨u,r6,h6,h⟩:=OR.bind_eq h;obtain ⟨l2,r7,h7,h⟩:=OR.bind_eq h;have g1:=(dn hr).ok h1;have g2:=(dL g1.1 _).ok h2;have kp:=um src r2;have g4:=(aB (dN g2.1) [40] (by simp)).ok h4;have hre:rem src { r4 with op:=false }<n:=by show rem src r4<n;omega
 have g5:=(FK (n:=n) (w:=t.2.1) (JB g4.1 false) hre).ok h5;have g6:=(aB g5.1 [41] (by simp)).ok h6
 have hax6:r6.ax=axV N l:=by
  rw [g6.2.2.2.2,g5.2.2.2.2];show r4.ax=_;rw [g4.2.2.2.2];show r2.ax=_;rw [g2.2.2.2.2,g1.2.2.2.2,hax]
 have k7:=OX N _ xs l r6 h7;have a7:=U4 N _ xs l r6 hax6 h7;have w7:=ae2 g6.1 k7.1 k7.2.1;have k5:rem src r5≤rem src r4:=g5.2.1
 split at h
 ·cases h
 ·rename_i hlen;cases h;exact ⟨w7.1,by rw [w7.2];omega,a7,by omega⟩
theorem Ac {src:Rl}:∀(n:Nat) (r:Rd),Wr src r→rem src r<n→qY src r 0 (Bj src n r)
 | 0,r,_,hn=>absurd hn (by omega)
 | n+1,r,hr,hn=>by
  unfold Bj;refine qY.bind (k:=0) (j:=0) (jB hr _).p (fun b q e h1 h2=>?_) (by omega);split
  ·refine qY.bind (k:=1) (j:=0) (Me h1) (fun _ q2 e2 h3 h4=>?_) (by omega);exact Ac n q2 h3 (by omega)
  ·exact (aG.mk h1).p
theorem Ad {src:Rl}:∀(k:Nat) (r:Rd),Wr src r→qY src r 0 (C9 src k r)
 | 0,r,hr=>(aG.mk hr).p
 | k+1,r,hr=>by
  unfold C9;refine qY.bind (k:=0) (j:=0) (dn hr).p (fun t q e h1 h2=>?_) (by omega);split
  ·have h:=Ad k (cu q) (dN h1);have kp:=um src q
   cases hx:C9 src k (cu q) with
   | er a c q2=>rw [hx] at h;exact h
   | ok v q2=>rw [hx] at h;obtain ⟨g1,g2,g3⟩:=h;exact ⟨g1,by omega,g3⟩
  ·exact (aG.mk h1).p
def lpE (S:Rd→St) (X:St) (k:Nat) (E:Env) (x:OR Unit):Out:=
 match x with
 | .ok _ r=>.exit k E (S r++X)
 | .er a c r=>.pan (flt a c) (S r++X)
@[simp] theorem adk (S:Rd→St) (X:St) (k:Nat) (E:Env) (v:Unit) (r:Rd):lpE S X k E (.ok v r)=.exit k E (S r++X):=rfl
@[simp] theorem adl (S:Rd→St) (X:St) (k:Nat) (E:Env) (a:Nat) (c:Int) (r:Rd):lpE S X k E (.er a c r)=.pan (flt a c) (S r++X):=rfl
section
variable {src:Rl} {S:Rd→St} {m N:Nat} (hE:x9 src S m N)
include hE
theorem ady (cx:Ctx) (hl:cx.lim≤m):∀(n:Nat) (r:Rd),Wr src r→rem src r<n→
  ig (aC P0.glob (aj P0) cx true iF) [0] [(0,.v (.pt (m+1) 0))] (S r)=lpE S [] 0 [(0,.v (.pt (m+1) 0)),(4,.v (.b false))] (Bj src n r)
 | 0,r,_,hn=>absurd hn (by omega)
 | n+1,r,ha,hn=>by
  unfold Bj;have e1:=Jy hE wC0 r ha cx hl;have g1:=jB ha wC0
  cases h1:isR src wC0 r with
  | er a c q=>
   rw [h1] at e1;simp only [dB] at e1;refine ak fun K hK=>?_;simp -implicitDefEqProofs [iF,e1]
  | ok b r1=>
   rw [h1] at e1;have k1:=g1.ok h1;simp only [dF] at e1;simp only [OR.bind_ok]
   cases b with
   | false=>
    refine ak fun K hK=>?_;simp -implicitDefEqProofs [iF,e1]
   | true=>
    simp only [if_true];have e2:=aev hE r1 k1.1 cx hl;have g2:=Me k1.1
    cases h2:H7 src r1 with
    | er a c q=>
     rw [h2] at e2;simp only [dB] at e2;refine ak fun K hK=>?_;simp -implicitDefEqProofs [iF,e1,e2]
    | ok v r2=>
     rw [h2] at e2;have k2:=g2.ok h2;simp only [dF] at e2;simp only [OR.bind_ok];have ih:=ady cx hl n r2 k2.1 (by omega);refine ak fun K hK=>?_;rw [←hK] at ih;rw [←ih];simp -implicitDefEqProofs [iF,e1,e2]
theorem adx (cx:Ctx) (hl:cx.lim≤m):∀(k:Nat) (i:Nat) (r:Rd),Wr src r→i+k=2→
  ∃j:Int,ig (aC P0.glob (aj P0) cx true iE) [0,2] [(0,.v (.pt (m+1) 0)),(2,.v (.i .i64 i))] (S r)=lpE S [] 2 [(0,.v (.pt (m+1) 0)),(2,.v (.i .i64 j)),(29,.v (.b false))] (C9 src k r)
 | 0,i,r,ha,hi=>by
  have h2:¬(i:Int)<2:=by omega
  refine ⟨i,ak fun K hK=>?_⟩;simp -implicitDefEqProofs [iE,h2,C9]
 | k+1,i,r,ha,hi=>by
  have h2:(i:Int)<2:=by omega
  have hwi:=wI (i:=i) (by omega);unfold C9;have e1:=oL hE r ha.at_ cx hl;have g1:=dn ha
  cases h1:iM src r with
  | er a c q=>
   rw [h1] at e1;simp only [dB] at e1;refine ⟨0,ak fun K hK=>?_⟩;simp -implicitDefEqProofs [iE,h2,e1]
  | ok t r1=>
   rw [h1] at e1;have k1:=g1.ok h1;obtain ⟨t1,t2,t3⟩:=t;simp only [dF,fG] at e1;simp only [OR.bind_ok];by_cases q:t1=2
   ·rw [if_pos q];have e2:=lG hE r1 cx hl;obtain ⟨j,ih⟩:=adx cx hl k (i+1) (cu r1) (dN k1.1) (by omega);refine ⟨j,ak fun K hK=>?_⟩;rw [←hK,show ((i+1:Nat):Int)=(i:Int)+1 from rfl] at ih;rw [←ih];simp -implicitDefEqProofs [iE,h2,e1,q,e2,hwi]
   ·rw [if_neg q];refine ⟨i,ak fun K hK=>?_⟩;simp -implicitDefEqProofs [iE,h2,e1,q]
def ahB (S:Rd→St) (m:Nat) (X:St) (x:OR (List Ax)):Out:=
 match x with
 | .ok l r=>.exit 4 [(0,.v (.pt (m+1) 0)),(36,.v (.b false))] (S r++axT l)
 | .er a c r=>.pan (flt a c) (S r++X)
omit hE in
@[simp] theorem afF (S:Rd→St) (m:Nat) (X:St) (l:List Ax) (r:Rd):ahB S m X (.ok l r)=.exit 4 [(0,.v (.pt (m+1) 0)),(36,.v (.b false))] (S r++axT l):=rfl
omit hE in
@[simp] theorem afG (S:Rd→St) (m:Nat) (X:St) (a:Nat) (c:Int) (r:Rd):ahB S m X (.er a c r)=.pan (flt a c) (S r++X):=rfl
theorem adw (n:Nat) (hn2:n≤100000) (cx:Ctx) (hl:cx.lim≤m) (hb:cx.base≤m):∀(k:Nat) (l:List Ax) (r:Rd),Wr src r→rem src r<k→rem src r<n→r.ax=axV N l→l.length≤1024→
  ∃X,ig (aC P0.glob (aj P0) cx true fJ) [0] [(0,.v (.pt (m+1) 0))] (S r++axT l)=ahB S m X (zF src n N k l r)
 | 0,l,r,_,hk,_,_,_=>absurd hk (by omega)
 | k+1,l,r,ha,hk,hn,hax,hll=>by
  have hA:=hE.app (axT l);unfold zF;have e1:=Jy hA [41] r ha cx hl;have g1:=jB ha [41]
  cases h1:isR src [41] r with
  | er a c q=>
   rw [h1] at e1;simp only [dB] at e1;refine ⟨axT l,ak fun K hK=>?_⟩;simp -implicitDefEqProofs [fJ,e1]
  | ok b r1=>
   rw [h1] at e1;have k1:=g1.ok h1;simp only [dF] at e1;simp only [OR.bind_ok]
   cases b with
   | true=>
    refine ⟨[],ak fun K hK=>?_⟩;simp -implicitDefEqProofs [fJ,e1]
   | false=>
    simp only [Bool.false_eq_true,if_false];have hax1:r1.ax=axV N l:=by rw [k1.2.2.2.2,hax]
    obtain ⟨X,e2⟩:=ahX hE n hn2 l hll r1 hax1 k1.1 (by omega) cx hl hb
    cases h2:zf src n N l r1 with
    | er a c q=>
     rw [h2] at e2;simp only [pJ] at e2;refine ⟨X,ak fun K hK=>?_⟩;simp -implicitDefEqProofs [fJ,e1,e2]
    | ok l' r2=>
     rw [h2] at e2;simp only [VS] at e2;simp only [OR.bind_ok];obtain ⟨z1,z2,z3,z4⟩:=O5 k1.1 (by omega) hax1 h2;obtain ⟨Y,ih⟩:=adw n hn2 cx hl hb k l' r2 z1 (by omega) (by omega) z3 z4;refine ⟨Y,ak fun K hK=>?_⟩;rw [←hK] at ih;rw [←ih];simp -implicitDefEqProofs [fJ,e1,e2]
end
end Go.Ai.Z
namespace Go.Ai.Z
theorem Ky {src:Rl} (n N:Nat):∀(k:Nat) (l:List Ax) (r:Rd) {l':List Ax} {q:Rd},Wr src r→rem src r<n→r.ax=axV N l→l.length≤1024→zF src n N k l r=.ok l' q→Wr src q∧rem src q≤rem src r∧q.ax=axV N l'∧l'.length≤1024
 | 0,l,r,l',q,_,_,_,_,h=>by cases h
 | k+1,l,r,l',q,ha,hn,hax,hll,h=>by
  unfold zF at h;obtain ⟨b,r1,h1,h⟩:=OR.bind_eq h;have k1:=(jB ha [41]).ok h1;have hax1:r1.ax=axV N l:=by rw [k1.2.2.2.2,hax]
  split at h
  ·cases h;exact ⟨k1.1,by omega,hax1,hll⟩
  ·obtain ⟨l2,r2,h2,h⟩:=OR.bind_eq h;obtain ⟨z1,z2,z3,z4⟩:=O5 k1.1 (by omega) hax1 h2;obtain ⟨y1,y2,y3,y4⟩:=Ky n N k l2 r2 z1 (by omega) z3 z4 h;exact ⟨y1,by omega,y3,y4⟩
section
variable {src:Rl} {S:Rd→St} {m N:Nat} (hE:x9 src S m N)
include hE
theorem Zh (n:Nat) (hn2:n≤100000) (r:Rd) (hr:r.ax=.ns) (ha:Wr src r) (hn:rem src r<n) (cx:Ctx) (hl:cx.lim≤m) (hb:cx.base≤m):
  ∃X,aj P0 (.fn (.func lN) [] []) [.pt (m+1) 0] (S r) cx=agq S X (KT src n N r):=by
 unfold KT;have d1:=ady hE cx hl n r ha hn;have dg1:=Ac n r ha hn
 cases hp1:Bj src n r with
 | er a c q=>
  rw [hp1] at d1;simp only [adl,List.append_nil] at d1;simp only [OR.bind_er,pJ];refine ⟨[],eu (by simp) ?_⟩;simp -implicitDefEqProofs [af,aY,d1]
 | ok v0 r0=>
  rw [hp1] at d1;have k1:=dg1.ok hp1;simp only [adk,List.append_nil] at d1;simp only [OR.bind_ok];have w0:=k1.1;obtain ⟨a,c,q,hx,e1⟩|⟨b,r1,h1,e1,g1⟩:=spl (Jy hE wC3 r0 w0 ⟨cx.lim,cx.base⟩ hl) (jB w0 wC3)
  ·rw [hx];simp only [OR.bind_er,pJ];refine ⟨[],eu (by simp) ?_⟩;simp -implicitDefEqProofs [af,aY,d1,e1]
  rw [h1];simp only [OR.bind_ok];have w1:=g1.1;have hc:=uN hE r1;have hm:=hE.pm r1;have hf:=Dj [58] r1.pre;have ef:=pU hE (b && decide ([58]∈r1.pre)) r1 w1 cx hl;have gf:=dL w1 (b && decide ([58]∈r1.pre))
  cases hq:qV src (b && decide ([58]∈r1.pre)) r1 with
  | er a2 c2 r2=>
   rw [hq] at ef;simp only [dB] at ef;simp only [OR.bind_er,pJ];refine ⟨[],eu (by simp) ?_⟩
   cases b with
   | false=>
    simp at ef;simp -implicitDefEqProofs [af,aY,d1,e1,ef]
   | true=>
    by_cases q:[58]∈r1.pre
    ·simp [q] at ef hf;simp -implicitDefEqProofs [af,aY,d1,e1,hc,hm,hf,ef]
    ·simp [q] at ef hf;simp -implicitDefEqProofs [af,aY,d1,e1,hc,hm,hf,ef]
  | ok v2 r2=>
   obtain ⟨hb2,hq2⟩:=yU hq;subst hq2;rw [hq] at ef;simp only [dF] at ef;simp only [OR.bind_ok];rw [Bool.and_eq_true,decide_eq_true_eq] at hb2;obtain ⟨hb3,q⟩:=hb2;subst hb3;simp only [q,if_true,decide_true,Bool.and_true] at ef hf;have ep:=lG hE r2 cx hl;have wp:=dN w1;have kp:=um src r2;have e3:=iI hE [40] (cu r2) wp cx hl;have g3:=aB wp [40] (by simp)
   cases h3:lK src [40] (cu r2) with
   | er a3 c3 r3=>
    rw [h3] at e3;simp only [dB] at e3;simp only [OR.bind_er,pJ];refine ⟨[],eu (by simp) ?_⟩;simp -implicitDefEqProofs [af,aY,d1,e1,hc,hm,hf,ef,ep,e3]
   | ok v3 r3=>
    rw [h3] at e3;have k3:=g3.ok h3;simp only [dF] at e3;simp only [OR.bind_ok];obtain ⟨j,e4⟩:=adx hE cx hl 2 0 r3 k3.1 rfl;rw [show ((0:Nat):Int)=0 from rfl] at e4;have g4:=Ad 2 r3 k3.1
    cases h4:C9 src 2 r3 with
    | er a4 c4 r4=>
     rw [h4] at e4;simp only [adl,List.append_nil] at e4;simp only [OR.bind_er,pJ];refine ⟨[],eu (by simp) ?_⟩;simp -implicitDefEqProofs [af,aY,d1,e1,hc,hm,hf,ef,ep,e3,e4]
    | ok v4 r4=>
     rw [h4] at e4;have k4:=g4.ok h4;simp only [adk,List.append_nil] at e4;simp only [OR.bind_ok];have g1':=g1
     have hax:r4.ax=axV N []:=by
      rw [k4.2.2,k3.2.2.2.2];show r2.ax=_;rw [g1'.2.2.2.2,k1.2.2,hr];rfl
     obtain ⟨X,e5⟩:=adw hE n hn2 cx hl hb n [] r4 k4.1 (by omega) (by omega) hax (by simp);rw [show axT []=[] from rfl,List.append_nil] at e5;have e5:=(YI (body:=aC P0.glob (aj P0) cx true fJ) (keep:=[0]) (env:=[(0,.v (.pt (m+1) 0)),(2,.v (.i .i64 j)),(29,.v (.b false))]) (s:=S r4)).trans e5
     cases h5:zF src n N n [] r4 with
     | er a5 c5 r5=>
      rw [h5] at e5;simp only [afG] at e5;simp only [OR.bind_er,pJ];refine ⟨X,eu (by simp) ?_⟩;simp -implicitDefEqProofs [af,aY,d1,e1,hc,hm,hf,ef,ep,e3,e4,e5]
     | ok l r5=>
      rw [h5] at e5;have w5:=Ky n N n [] r4 k4.1 (by omega) hax (by simp) h5;simp only [afF] at e5;simp only [OR.bind_ok];have hA:=hE.app (axT l);have e6:=lG hA r5 cx hl;have w6:=dN w5.1;have e7:=oL hA (cu r5) w6.at_ cx hl;have g7:=dn w6
      cases h7:iM src (cu r5) with
      | er a7 c7 r7=>
       rw [h7] at e7;simp only [dB] at e7;simp only [OR.bind_er,pJ];refine ⟨axT l,eu (by simp) ?_⟩;simp -implicitDefEqProofs [af,aY,d1,e1,hc,hm,hf,ef,ep,e3,e4,e5,e6,e7]
      | ok t r7=>
       rw [h7] at e7;have w7:=(g7.ok h7).1;obtain ⟨t1,t2,t3⟩:=t;simp only [dF,fG] at e7;simp only [OR.bind_ok];have e8:=pU hA (decide (t1=5)) r7 w7 cx hl
       cases h8:qV src (decide (t1=5)) r7 with
       | er a8 c8 r8=>
        rw [h8] at e8;simp only [dB] at e8;simp only [OR.bind_er,pJ];refine ⟨axT l,eu (by simp) ?_⟩;simp -implicitDefEqProofs [af,aY,d1,e1,hc,hm,hf,ef,ep,e3,e4,e5,e6,e7,e8]
       | ok v8 r8=>
        rw [h8] at e8;simp only [dF] at e8;simp only [OR.bind_ok,VS];refine ⟨[],eu (by simp) ?_⟩;simp -implicitDefEqProofs [af,aY,d1,e1,hc,hm,hf,ef,ep,e3,e4,e5,e6,e7,e8]
end
end Go.Ai.Z
namespace Go.Ai.Z
theorem Vr (s X:St) (k:Nat):(s++X)[s.length+k]?=X[k]?:=by rw [List.getElem?_append_right (by omega),Nat.add_sub_cancel_left]
theorem Uh (s X:St):(s++X)[s.length]?=X[0]?:=Vr s X 0
theorem V8 (s X:St) (k:Nat) (v:fZ):(s++X).set (s.length+k) v=s++X.set k v:=by rw [List.set_append_right _ _ (by omega),Nat.add_sub_cancel_left]
theorem ZC (s X:St) (v:fZ):(s++X).set s.length v=s++X.set 0 v:=V8 s X 0 v
def r00:Rd:=⟨0,[],[],[],false,.ns⟩
def SO (s:St) (src:Rl) (r:Rd):St:=s++[.map (pX r.pre),rO src s.length r,.map (Xd s.length),.map (XJ s.length)]
theorem ahG (s:St) (src:Rl) (hs:src.length≤70000):x9 src (SO s src) s.length (s.length+4) where
 cell r:=by unfold SO;rw [Vr];rfl
 sets r q h:=by unfold SO;rw [V8,←h];rfl
 pm r:=by unfold SO;rw [Uh];rfl
 setp r P:=by
  unfold SO
  have:=V8 s [.map (pX r.pre),rO src s.length r,.map (Xd s.length),.map (XJ s.length)] 0 (.map (pX P))
  rw [Nat.add_zero] at this;rw [this];rfl
 im r:=by unfold SO;rw [Vr];rfl
 cm r:=by unfold SO;rw [Vr];rfl
 n r:=by simp [SO]
 src:=hs
theorem X0 (src:Rl) (s:St) (cx:Ctx) (hl:cx.lim≤s.length) (hb:cx.base≤s.length):
  aj P0 (.fn (.func sO) [] []) [.sl (aF src)] s cx=.ret (.pt (s.length+1) 0) (SO s src r00):=by
 refine MJ (by simp) ?_;have h1:cx.lim≤s.length+1:=by omega
 have h2:cx.lim≤s.length+2:=by omega
 have h3:cx.lim≤s.length+3:=by omega
 have h4:cx.base≤s.length+1:=by omega
 have h5:cx.base≤s.length+2:=by omega
 have h6:cx.base≤s.length+3:=by omega
 simp -implicitDefEqProofs [af,uV,dU,splice,Vr,Uh,V8,hl,h1,h2,h3,h4,h5,h6,CV,jD,uf,SO,rO,r00,Xd,XJ,rdF,pX,ahV]
def P7 (N:Nat) (src:Rl):List Ax×Rl×Nat×Int:=
 if 65536<src.length then ([],[],0,2) else match KT src (src.length+1) N r00 with
  | .ok l r=>(l,r.iri,0,0)
  | .er a c _=>([],[],a,c)
theorem aei {src:Rl} {N:Nat} {l:List Ax} {r:Rd} (h:KT src (src.length+1) N r00=.ok l r):r.ax=axV N l∧l.length≤1024:=by
 unfold KT at h;obtain ⟨u,r0,h0,h⟩:=OR.bind_eq h;obtain ⟨b,r1,h1,h⟩:=OR.bind_eq h;obtain ⟨u,r2,h2,h⟩:=OR.bind_eq h;obtain ⟨u,r3,h3,h⟩:=OR.bind_eq h;obtain ⟨u,r4,h4,h⟩:=OR.bind_eq h;obtain ⟨l2,r5,h5,h⟩:=OR.bind_eq h;obtain ⟨t,r6,h6,h⟩:=OR.bind_eq h;obtain ⟨u,r7,h7,h⟩:=OR.bind_eq h;cases h;have w:Wr src r00:=⟨by simp [r00],by simp [r00]⟩;have hn:rem src r00<src.length+1:=by simp [rem,r00]
 have g0:=(Ac _ _ w hn).ok h0;have g1:=(jB g0.1 _).ok h1;have g2:=(dL g1.1 _).ok h2;have kp:=um src r2;have g3:=(aB (dN g2.1) [40] (by simp)).ok h3;have g4:=(Ad 2 r3 g3.1).ok h4;have hax:r4.ax=axV N []:=by rw [g4.2.2,g3.2.2.2.2];show r2.ax=_;rw [g2.2.2.2.2,g1.2.2.2.2,g0.2.2];rfl
 have g5:=Ky _ N _ [] r4 g4.1 (by omega) hax (by simp) h5;have g6:=(dn (dN g5.1)).ok h6;have g7:=(dL g6.1 _).ok h7;refine ⟨?_,g5.2.2.2⟩;rw [g7.2.2.2.2,g6.2.2.2.2];exact g5.2.2.1
theorem Ip (n:Nat) (x:Ax):(bY x).under n=true:=by
 have h:∀l:List Rl,bW n (l.map AV.s)=true:=fun l=>by induction l with|nil=>rfl|cons a r ih=>simp [bW,AV.under,ih]
 rw [show bY x=.ag (cellsA x) from rfl,cellsA];simp [-abL,AV.under,bW,h]
theorem EN (n:Nat):∀l:List Ax,bW n (l.map bY)=true
 | []=>rfl
 | x::l=>by simp [bW,Ip,EN n l]
def Iy:St:=[.cells [.ns],.cells [.s []],.cells [.i .i64 0],.cells [.i .i64 0]]
theorem aey (src:Rl) (hs:src.length≤70000) (s:St) (cx:Ctx) (hl:cx.lim≤s.length):
  aj P0 (.fn (.func oG) [] []) [.sl (aF src)] s cx=.ret (.tu [vO (P7 (s.length+8) src).1,.s (P7 (s.length+8) src).2.1,.i .i64 (P7 (s.length+8) src).2.2.1,.i .i64 (P7 (s.length+8) src).2.2.2]) s:=by
 refine RS (d:=rH) rfl rfl rfl (by simp) ?_;have hbl:=kK src;have l1:cx.lim≤s.length+1:=by omega
 have l2:cx.lim≤s.length+2:=by omega
 have l3:cx.lim≤s.length+3:=by omega
 unfold P7;by_cases q:65536<src.length
 ·rw [if_pos q];have qi:(65536:Int)<(src.length:Int):=by omega
  simp -implicitDefEqProofs [xM,rH,zh,WO,hbl,qi,hl,l1,l2,l3,Vr,Uh,V8,ZC,vO,frz,AV.under,bW]
 ·rw [if_neg q];have qi:¬(65536:Int)<(src.length:Int):=by omega
  have hE:=ahG (s++Iy) src hs;have hL:(s++Iy).length=s.length+4:=by simp [Iy]
  have e1:=X0 src (s++Iy) ⟨cx.lim,s.length⟩ (by rw [hL];show cx.lim≤_;omega) (by rw [hL];show s.length≤_;omega);obtain ⟨X,e2⟩:=Zh hE (src.length+1) (by omega) r00 rfl ⟨by simp [r00],by simp [r00]⟩ (by simp [rem,r00]) ⟨cx.lim,s.length⟩ (by rw [hL];show cx.lim≤_;omega) (by rw [hL];show s.length≤_;omega);rw [hL,show s.length+4+4=s.length+8 from rfl] at e2;rw [hL] at e1
  cases hd:KT src (src.length+1) (s.length+8) r00 with
  | er a c r=>
   rw [hd] at e2;simp only [pJ] at e2;simp only [Af];obtain ⟨Y,hY⟩:∃Y,SO (s++Iy) src r++X=s++(fZ.cells [.ns]::fZ.cells [.s []]::fZ.cells [.i .i64 0]::fZ.cells [.i .i64 0]::Y):=⟨[.map (pX r.pre),rO src (s++Iy).length r,.map (Xd (s++Iy).length),.map (XJ (s++Iy).length)]++X,by simp [SO,Iy]⟩;rw [hY] at e2;generalize SO (s++Iy) src r00=S1 at *;unfold Iy at *;simp -implicitDefEqProofs [xM,rH,zh,WO,hbl,qi,e1,e2,placeOf,Ew,vG,mV,zl,uY,flt,hl,l1,l2,l3,Vr,Uh,V8,ZC,frz,AV.under,bW,show AV.ns.flat=true from rfl]
  | ok l r=>
   rw [hd] at e2;simp only [VS] at e2;have hax:=(aei hd).1;have hY:SO (s++Iy) src r++axT l=s++(fZ.cells [.ns]::fZ.cells [.s []]::fZ.cells [.i .i64 0]::fZ.cells [.i .i64 0]::.map (pX r.pre)::.cells [.sl (aF src),.i .i64 r.at_,ahV r.ah,.mp (s.length+4),.s r.iri,.b r.op,axV (s.length+8) l,.mp (s.length+4+2),.mp (s.length+4+3)]::.map (Xd (s.length+4))::.map (XJ (s.length+4))::axT l):=by simp [SO,Iy,rO,hax]
   rw [hY] at e2;generalize SO (s++Iy) src r00=S1 at *;unfold Iy at *;have h5:s.length+4+1=s.length+5:=rfl
   cases l with
   | nil=>
    simp only [axV,axT,h5] at e2;simp -implicitDefEqProofs [xM,rH,zh,WO,hbl,qi,e1,e2,placeOf,Ew,vG,mV,zl,uY,flt,hl,l1,l2,l3,Vr,Uh,V8,ZC,frz,zV,AV.under,bW,h5,vO,Ld,Ip,EN,show AV.ns.flat=true from rfl]
   | cons x l=>
    simp only [axV,axT,h5] at e2;simp -implicitDefEqProofs [xM,rH,zh,WO,hbl,qi,e1,e2,placeOf,Ew,vG,mV,zl,uY,flt,hl,l1,l2,l3,Vr,Uh,V8,ZC,frz,zV,AV.under,bW,h5,vO,Ld,Ip,EN,show AV.ns.flat=true from rfl]
end Go.Ai.Z
namespace Go.Ai.Z
inductive SmC:C→C→Prop where
 | mk (k:Int) (n:Rl) (l h:Int) (z w:Bool) (ps qs:List C) (hl:ps.length=qs.length) (hb:ps.length≤1000000)
   (hp:∀(i:Nat) (p q:C),ps[i]?=some p→qs[i]?=some q→SmC p q):SmC (.mk k n l h z ps) (.mk k n l h w qs)
theorem adr (k:Int) (n:Rl) (l h:Int) (z w:Bool) (ps qs:List C) (hl:ps.length=qs.length) (hb:ps.length≤1000000)
  (hp:∀(i:Nat) (p q:C),ps[i]?=some p→qs[i]?=some q→∀(s:St) (cx:Ctx),aj P0 (.fn (.func pq) [] []) [aK p,aK q] s cx=.ret (.b true) s) (s:St) (cx:Ctx):∀(rest:List C) (i:Nat),ps.drop i=rest→i≤ps.length→
  ig (aC P0.glob (aj P0) cx false uU) [2,3,5] [(2,.bx [.i .i64 k,.s n,.i .i64 l,.i .i64 h,slf z (ps.map aK)]),(3,.bx [.i .i64 k,.s n,.i .i64 l,.i .i64 h,slf w (qs.map aK)]),(5,.v (.i .i64 i))] s=
   .exit 0 [(2,.bx [.i .i64 k,.s n,.i .i64 l,.i .i64 h,slf z (ps.map aK)]),(3,.bx [.i .i64 k,.s n,.i .i64 l,.i .i64 h,slf w (qs.map aK)]),(5,.v (.i .i64 ps.length)),(45,.v (.b false))] s
 | [],i,hd,hi=>by
  have h1:i=ps.length:=by have:=drop_nil hd;omega
  subst h1;refine ak fun K hK=>?_;simp -implicitDefEqProofs [uU]
 | c::rest,i,hd,hi=>by
  obtain ⟨h1,h2,h3,h4⟩:=drop_cons hd;have hq:i<qs.length:=by omega
  have h5:qs[i]?=some qs[i]:=List.getElem?_eq_getElem hq;have e1:=hp i c qs[i] h1 h5;generalize qs[i]=d at *;have hwi:=wI (i:=i) (by omega);have ih:=adr k n l h z w ps qs hl hb hp s cx rest (i+1) h2 (by omega);refine ak fun K hK=>?_;rw [←hK,show ((i+1:Nat):Int)=(i:Int)+1 from rfl] at ih;clear hK h4 hd hp;rw [←ih];clear ih;have g1:(ps.map aK)[i]?=some (aK c):=by rw [List.getElem?_map,h1];rfl
  have g2:(qs.map aK)[i]?=some (aK d):=by rw [List.getElem?_map,h5];rfl
  have z1:(ps.map aK).length=ps.length:=List.length_map _;generalize ps.map aK=P at *;generalize qs.map aK=Q at *;have h3i:(i:Int)<(ps.length:Int):=by omega
  simp -implicitDefEqProofs [uU,z1,h3i,g1,g2,e1,hwi]
theorem aeu {a b:C} (h:SmC a b):∀(s:St) (cx:Ctx),aj P0 (.fn (.func pq) [] []) [aK a,aK b] s cx=.ret (.b true) s:=by
 induction h with
 | mk k n l h z w ps qs hl hb hp ih=>
  intro s cx;refine SH (by simp) ?_;have e1:=adr k n l h z w ps qs hl hb ih s ⟨s.length,s.length⟩ ps 0 rfl (by omega);rw [show ((0:Nat):Int)=0 from rfl] at e1;rw [xK,xK (.mk k n l h w qs)];simp -implicitDefEqProofs [-Uj,af,yT,e1,hl]
theorem Z4 (ps:List Rl) (z w:Bool) (hb:ps.length≤1000000) (s:St) (cx:Ctx):∀(rest:List Rl) (i:Nat),ps.drop i=rest→i≤ps.length→
  ig (aC P0.glob (aj P0) cx false oW) [0,1,5] [(0,.v (slf z (ps.map .s))),(1,.v (slf w (ps.map .s))),(5,.v (.i .i64 i))] s=
   .exit 0 [(0,.v (slf z (ps.map .s))),(1,.v (slf w (ps.map .s))),(5,.v (.i .i64 ps.length)),(14,.v (.b false))] s
 | [],i,hd,hi=>by
  have h1:i=ps.length:=by have:=drop_nil hd;omega
  subst h1;refine ak fun K hK=>?_;simp -implicitDefEqProofs [oW]
 | c::rest,i,hd,hi=>by
  obtain ⟨h1,h2,h3,h4⟩:=drop_cons hd;have hwi:=wI (i:=i) (by omega);have ih:=Z4 ps z w hb s cx rest (i+1) h2 (by omega);refine ak fun K hK=>?_;rw [←hK,show ((i+1:Nat):Int)=(i:Int)+1 from rfl] at ih;clear hK h4 hd;rw [←ih];clear ih;have g1:(ps.map AV.s)[i]?=some (.s c):=by rw [List.getElem?_map,h1];rfl
  have z1:(ps.map AV.s).length=ps.length:=List.length_map _;generalize ps.map AV.s=P at *;have h3i:(i:Int)<(ps.length:Int):=by omega
  simp -implicitDefEqProofs [oW,z1,h3i,g1,hwi]
theorem af6 (ps:List Rl) (z w:Bool) (hb:ps.length≤1000000) (s:St) (cx:Ctx):aj P0 (.fn (.func qL) [] []) [slf z (ps.map .s),slf w (ps.map .s)] s cx=.ret (.b true) s:=by
 refine KE (by simp) ?_;have e1:=Z4 ps z w hb s ⟨s.length,s.length⟩ ps 0 rfl (by omega);rw [show ((0:Nat):Int)=0 from rfl] at e1;simp -implicitDefEqProofs [af,tV,e1]
structure SmA (x y:Ax):Prop where
 kind:x.kind=y.kind
 op:x.op=y.op
 l:SmC x.left y.left
 r:SmC x.right y.right
 roles:x.roles=y.roles
 rb:x.roles.length≤1000000
 role:x.role=y.role
 a:x.a=y.a
 b:x.b=y.b
theorem af7 {x y:Ax} (h:SmA x y) (s:St) (cx:Ctx):aj P0 (.fn (.func o9) [] []) [bY x,bY y] s cx=.ret (.b true) s:=by
 refine Jc (by simp) ?_;have e1:=aeu h.l;have e2:=aeu h.r;have e3:=af6 x.roles x.z y.z h.rb
 have e4:∀b:Bool,(b == b)=true:=fun b=>by cases b<;>rfl
 rw [xK,xK y.left] at e1;rw [xK,xK y.right] at e2;obtain ⟨k1,o1,l1,r1,z1,R1,ro1,a1,b1⟩:=x;obtain ⟨k2,o2,l2,r2,z2,R2,ro2,a2,b2⟩:=y;obtain ⟨h1,h2,_,_,h5,_,h6,h7,h8⟩:=h;simp only at h1 h2 h5 h6 h7 h8 e1 e2 e3;subst h1 h2 h5 h6 h7 h8
 cases o1<;>simp -implicitDefEqProofs [-Uj,af,rP,e1,e2,e3]
theorem ZY (X Y:List Ax) (z w:Bool) (hl:X.length=Y.length) (hb:X.length≤1000000) (hp:∀(i:Nat) (p q:Ax),X[i]?=some p→Y[i]?=some q→SmA p q) (s:St) (cx:Ctx):∀(rest:List Ax) (i:Nat),X.drop i=rest→i≤X.length→
  ig (aC P0.glob (aj P0) cx false nJ) [0,1,5] [(0,.v (slf z (X.map bY))),(1,.v (slf w (Y.map bY))),(5,.v (.i .i64 i))] s=
   .exit 0 [(0,.v (slf z (X.map bY))),(1,.v (slf w (Y.map bY))),(5,.v (.i .i64 X.length)),(14,.v (.b false))] s
 | [],i,hd,hi=>by
  have h1:i=X.length:=by have:=drop_nil hd;omega
  subst h1;refine ak fun K hK=>?_;simp -implicitDefEqProofs [nJ]
 | c::rest,i,hd,hi=>by
  obtain ⟨h1,h2,h3,h4⟩:=drop_cons hd;have hq:i<Y.length:=by omega
  have h5:Y[i]?=some Y[i]:=List.getElem?_eq_getElem hq;have e1:=af7 (hp i c Y[i] h1 h5);generalize Y[i]=d at *;have hwi:=wI (i:=i) (by omega);have ih:=ZY X Y z w hl hb hp s cx rest (i+1) h2 (by omega);refine ak fun K hK=>?_;rw [←hK,show ((i+1:Nat):Int)=(i:Int)+1 from rfl] at ih;clear hK h4 hd hp;rw [←ih];clear ih;have g1:(X.map bY)[i]?=some (bY c):=by rw [List.getElem?_map,h1];rfl
  have g2:(Y.map bY)[i]?=some (bY d):=by rw [List.getElem?_map,h5];rfl
  have z1:(X.map bY).length=X.length:=List.length_map _;generalize X.map bY=P at *;generalize Y.map bY=Q at *;have h3i:(i:Int)<(X.length:Int):=by omega
  simp -implicitDefEqProofs [nJ,z1,h3i,g1,g2,e1,hwi]
theorem aes (X Y:List Ax) (z w:Bool) (hl:X.length=Y.length) (hb:X.length≤1000000) (hp:∀(i:Nat) (p q:Ax),X[i]?=some p→Y[i]?=some q→SmA p q) (s:St) (cx:Ctx):
  aj P0 (.fn (.func oC) [] []) [slf z (X.map bY),slf w (Y.map bY)] s cx=.ret (.b true) s:=by
 refine G9 (by simp) ?_;have e1:=ZY X Y z w hl hb hp s ⟨s.length,s.length⟩ X 0 rfl (by omega);rw [show ((0:Nat):Int)=0 from rfl] at e1;simp -implicitDefEqProofs [af,qf,e1,hl]
end Go.Ai.Z
namespace Go.Ai.Z
abbrev Tx:=Int×Rl
theorem abT {c:UInt8} (h:(c.toNat:Int)=35):Dp c=true:=by unfold Dp;rw [h];rfl
theorem JJ:∀(n m:Nat) (v:Rl),v.length≤n→v.length≤m→skN n v=skN m v
 | 0,m,v,h1,h2=>by
  cases v with
  | nil=>cases m<;>rfl
  | cons c r=>simp at h1
 | n+1,m,[],h1,h2=>by cases m<;>rfl
 | n+1,0,c::r,h1,h2=>by simp at h2
 | n+1,m+1,c::r,h1,h2=>by
  simp at h1 h2;unfold skN;split
  ·rw [JJ n m r h1 h2]
  split
  ·rename_i hc;have hk:1≤lC Dp (c::r):=by simp [lC,abT hc]
   have hd:((c::r).drop (lC Dp (c::r))).length≤r.length:=by rw [List.length_drop];simp;omega
   rw [JJ n m _ (by omega) (by omega)]
  ·rfl
def skp (v:Rl):Rl:=v.drop (skN v.length v)
def Nx (v:Rl) (t:Tx) (w:Rl):Prop:=skp v=t.2++w∧t.2≠[]∧kU (t.2++w)=(t.1,t.2.length)
def Ly (P:Rl→Prop):Rl→List Tx→Prop
 | v,[]=>P v
 | v,t::L=>∃w,Nx v t w∧Ly P w L
def NxE (v:Rl):Prop:=skp v=[]
def My (P:Rl→Prop) (src:Rl) (r:Rd) (L:List Tx):Prop:=
 match r.ah with
 | []=>Ly P (src.drop r.at_) L
 | t::_=>∃M,L=(t.1,t.2.1)::M∧Ly P (src.drop r.at_) M
structure Fq (r q:Rd):Prop where
 pre:q.pre=r.pre
 iri:q.iri=r.iri
 op:q.op=r.op
 ax:q.ax=r.ax
theorem Fq.rfl' (r:Rd):Fq r r:=⟨rfl,rfl,rfl,rfl⟩
theorem Fq.tr {r q p:Rd} (h:Fq r q) (g:Fq q p):Fq r p:=⟨g.pre.trans h.pre,g.iri.trans h.iri,g.op.trans h.op,g.ax.trans h.ax⟩
theorem Fq.ps {r q:Rd} (h:Fq r q):Fq r (cu q):=⟨h.pre,h.iri,h.op,h.ax⟩
section
variable {P:Rl→Prop} {src:Rl}
theorem pY {r:Rd} {t:Tx} {L:List Tx} (h:My P src r (t::L)):∃a q,iM src r=.ok (t.1,t.2,a) q∧My P src q (t::L)∧My P src (cu q) L∧Fq r q:=by
 unfold My at h;unfold iM
 cases hh:r.ah with
 | cons u U=>
  rw [hh] at h;obtain ⟨M,h1,h2⟩:=h;rw [List.cons.injEq] at h1;obtain ⟨h1,rfl⟩:=h1;subst h1;refine ⟨u.2.2,r,rfl, ?_, ?_,Fq.rfl' r⟩
  ·unfold My;rw [hh];exact ⟨_,rfl,h2⟩
  ·exact h2
 | nil=>
  rw [hh] at h;obtain ⟨w,⟨h1,h2,h3⟩,h4⟩:=h
  have hs:src.drop (skO src r.at_)=t.2++w:=by
   unfold skO;rw [←List.drop_drop,JJ src.length (src.drop r.at_).length _ (by rw [List.length_drop];omega) (Nat.le_refl _)];exact h1
  have hlt:skO src r.at_<src.length:=by
   apply Classical.byContradiction;intro hc;rw [List.drop_eq_nil_of_le (by omega)] at hs
   cases ht:t.2 with
   | nil=>exact h2 ht
   | cons a b=>rw [ht] at hs;cases hs
  have hl:t.2.length≠0:=fun hc=>h2 (List.length_eq_zero_iff.1 hc);have htk:(t.2++w).take t.2.length=t.2:=by simp
  have hdr:src.drop (skO src r.at_+t.2.length)=w:=by rw [←List.drop_drop,hs];simp
  rw [if_pos hlt,hs,h3,if_neg hl,htk];refine ⟨skO src r.at_,_,rfl, ?_, ?_,⟨rfl,rfl,rfl,rfl⟩⟩
  ·exact ⟨L,rfl,by show Ly P (src.drop (skO src r.at_+t.2.length)) L;rw [hdr];exact h4⟩
  ·show Ly P (src.drop (skO src r.at_+t.2.length)) L;rw [hdr];exact h4
theorem ahx {r:Rd} (h:My NxE src r []):∃a q,iM src r=.ok (5,[],a) q∧Fq r q:=by
 unfold My at h;unfold iM
 cases hh:r.ah with
 | cons u U=>rw [hh] at h;obtain ⟨M,h1,_⟩:=h;cases h1
 | nil=>
  rw [hh] at h
  have hs:src.drop (skO src r.at_)=[]:=by
   unfold skO;rw [←List.drop_drop,JJ src.length (src.drop r.at_).length _ (by rw [List.length_drop];omega) (Nat.le_refl _)];exact h
  rw [if_neg (by have:=List.drop_eq_nil_iff.1 hs;omega)];exact ⟨_,_,rfl,⟨rfl,rfl,rfl,rfl⟩⟩
theorem zD {r:Rd} {t:Tx} {L:List Tx} (h:My P src r (t::L)) (w:Rl):∃q,isR src w r=.ok (decide (t.2=w)) q∧My P src q (t::L)∧My P src (cu q) L∧Fq r q:=by
 obtain ⟨a,q,h1,h2,h3,h4⟩:=pY h;exact ⟨q,by unfold isR;rw [h1];rfl,h2,h3,h4⟩
theorem lH {r:Rd} {t:Tx} {L:List Tx} (h:My P src r (t::L)) {w:Rl} (ht:t.2=w):∃q,lK src w r=.ok () q∧My P src q L∧Fq r q:=by
 obtain ⟨q,h1,h2,h3,h4⟩:=zD h w;refine ⟨cu q, ?_,h3,h4.ps⟩;unfold lK;rw [h1,decide_eq_true ht];rfl
theorem Qk {r:Rd} {t:Tx} {L:List Tx} (h:My P src r (t::L)) {w p:Rl} (ht:t.2=w) (hp:p∈r.pre):∃q,KN src w p r=.ok () q∧My P src q L∧Fq r q:=by
 obtain ⟨q,h1,h2,h3,h4⟩:=zD h w;refine ⟨cu q, ?_,h3,h4.ps⟩;unfold KN;rw [h1,decide_eq_true ht];simp only [OR.bind_ok,h4.pre,hp,decide_true,Bool.and_self,o8]
structure NmP (pre:List Rl) (n:Rl):Prop where
 ne:n≠[]
 own:(58:UInt8) ∉ n→([58]:Rl)∈pre
 far:∀x y,lD 58 n=some (x,y)→x≠[]∧y≠[]∧(58:UInt8) ∉ y∧x++[58]∈pre∧x≠[111,119,108]∧x≠[120,115,100]
theorem ac8 {pre:List Rl} {n:Rl} (h:NmP pre n) (a:Nat):Qj pre (4,owN n,a)=true∧VX (owN n)=n:=by
 unfold owN;by_cases q:(58:UInt8)∈n
 ·rw [if_pos q]
  obtain ⟨x,y,hc⟩:∃x y,lD 58 n=some (x,y):=by
   cases hc:lD 58 n with
   | none=>exact absurd q (yK.1 hc)
   | some p=>exact ⟨p.1,p.2,rfl⟩
  obtain ⟨h1,h2,h3,h4,h5,h6⟩:=h.far x y hc;have he:=vS hc;constructor
  ·unfold Qj;simp only [hc]
   have hy:y.isEmpty=false:=by cases y<;>simp_all
   simp [hy,h3,h4,h5,h6]
  ·unfold VX trimB
   cases n with
   | nil=>rfl
   | cons c r=>
    have hcc:c≠58:=by
     intro hc2;subst hc2;simp [lD] at hc;exact h1 hc.1
    simp only;rw [if_neg hcc]
 ·rw [if_neg q]
  have hn:n.isEmpty=false:=by
   cases n with
   | nil=>exact absurd rfl h.ne
   | cons=>rfl
  constructor
  ·unfold Qj;simp only [lD,if_true];simp [hn,q,h.own q]
  ·simp [VX,trimB]
theorem rG {r:Rd} {n:Rl} {L:List Tx} (h:My P src r ((4,owN n)::L)) (hn:NmP r.pre n):∃q,nY src r=.ok n q∧My P src q L∧Fq r q:=by
 obtain ⟨a,q,h1,h2,h3,h4⟩:=pY h;obtain ⟨k1,k2⟩:=ac8 hn a;refine ⟨cu q, ?_,h3,h4.ps⟩;unfold nY;rw [h1];simp only [OR.bind_ok,h4.pre,k1,o8,k2]
end
theorem aaK {c:UInt8} (h:c=32∨c=10) (v:Rl):skp (c::v)=skp v:=by
 unfold skp
 have:skN (c::v).length (c::v)=1+skN v.length v:=by
  simp only [List.length_cons,skN]
  rw [if_pos (by rcases h with rfl|rfl<;>simp)]
 rw [this,Nat.add_comm];rfl
theorem EP {c:UInt8} (h:¬((c.toNat:Int)=9∨(c.toNat:Int)=10∨(c.toNat:Int)=13∨(c.toNat:Int)=32)) (h2:¬(c.toNat:Int)=35) (v:Rl):skp (c::v)=c::v:=by
 unfold skp
 have:skN (c::v).length (c::v)=0:=by simp only [List.length_cons,skN];rw [if_neg h,if_neg h2]
 rw [this];rfl
theorem ac6 {c:UInt8} (h:c=32∨c=10) {v w:Rl} {t:Tx} (hx:Nx v t w):Nx (c::v) t w:=by
 unfold Nx;rw [aaK h];exact hx
theorem adi {P:Rl→Prop} {c:UInt8} (h:c=32∨c=10) {v:Rl} {t:Tx} {L:List Tx} (hx:Ly P v (t::L)):Ly P (c::v) (t::L):=by
 obtain ⟨w,h1,h2⟩:=hx;exact ⟨w,ac6 h h1,h2⟩
theorem afB {c:UInt8} (h:c=40∨c=41∨c=61) (v:Rl):Nx (c::v) (1,[c]) v:=by
 unfold Nx;refine ⟨?_,by simp, ?_⟩
 ·rw [EP]<;>rcases h with rfl|rfl|rfl<;>simp
 ·rcases h with rfl|rfl|rfl<;>simp [kU]
theorem ac5 (v:Rl):Nx (94::94::v) (1,[94,94]) v:=by
 unfold Nx;refine ⟨?_,by simp, ?_⟩
 ·rw [EP]<;>simp
 ·simp [kU]
theorem aax {c:UInt8} (h:zJ c=true):¬((c.toNat:Int)=9∨(c.toNat:Int)=10∨(c.toNat:Int)=13∨(c.toNat:Int)=32)∧¬(c.toNat:Int)=35∧¬((c.toNat:Int)=40∨(c.toNat:Int)=41∨(c.toNat:Int)=61)∧¬(c.toNat:Int)=94∧¬(c.toNat:Int)=60∧¬(c.toNat:Int)=34:=by
 unfold zJ wdI ltI at h;simp only [Bool.or_eq_true,Bool.and_eq_true,decide_eq_true_eq] at h;omega
theorem JH {p:UInt8→Bool}:∀{w:Rl},w.all p=true→∀{v:Rl},(∀c∈v.head?,p c=false)→lC p (w++v)=w.length
 | [],_,v,hv=>by
  cases v with
  | nil=>rfl
  | cons c v=>have:=hv c (by simp);simp [lC,this]
 | c::w,h,v,hv=>by
  rw [List.all_cons,Bool.and_eq_true] at h;have ih:=JH (p:=p) h.2 hv;unfold lC at ih ⊢;simp [h.1,ih]
theorem afA {w:Rl} (hw:w.all zJ=true) (hn:w≠[]) {v:Rl} (hv:∀c∈v.head?,zJ c=false):Nx (w++v) (4,w) v:=by
 unfold Nx
 cases w with
 | nil=>exact absurd rfl hn
 | cons c w=>
  have hc:zJ c=true:=by rw [List.all_cons,Bool.and_eq_true] at hw;exact hw.1
  obtain ⟨h1,h2,h3,h4,h5,h6⟩:=aax hc;refine ⟨by rw [List.cons_append,EP h1 h2],hn, ?_⟩;have hs:=JH hw hv;rw [List.cons_append] at hs ⊢;simp only [kU,if_neg h3,if_neg h4,if_neg h5,if_neg h6,hs]
theorem aht {p:Rl} (hp:p.all I9=true) (v:Rl):Nx (60::(p++62::v)) (2,60::(p++[62])) v:=by
 unfold Nx;have hs:lC I9 (p++62::v)=p.length:=JH hp (by intro c hc;simp at hc;subst hc;decide)
 refine ⟨by rw [EP]<;>simp,by simp, ?_⟩
 have he:MN I9 62 (60::(p++62::v))=p.length+2:=by
  unfold MN;rw [List.tail_cons,hs]
  have:(60::(p++62::v))[1+p.length]?=some 62:=by rw [Nat.add_comm];simp
  rw [if_pos this];omega
 simp [kU,he]
theorem ahr {p:Rl} (hp:p.all UM=true) (v:Rl):Nx (34::(p++34::v)) (3,34::(p++[34])) v:=by
 unfold Nx;have hs:lC UM (p++34::v)=p.length:=JH hp (by intro c hc;simp at hc;subst hc;decide)
 refine ⟨by rw [EP]<;>simp,by simp, ?_⟩
 have he:MN UM 34 (34::(p++34::v))=p.length+2:=by
  unfold MN;rw [List.tail_cons,hs]
  have:(34::(p++34::v))[1+p.length]?=some 34:=by rw [Nat.add_comm];simp
  rw [if_pos this];omega
 simp [kU,he]
end Go.Ai.Z
namespace Go.Ai.Z
theorem afI {b:UInt8} (h:YT b=true):zJ b=true∧b≠58:=by
 unfold YT ahD aa3 at h;simp only [Bool.or_eq_true,Bool.and_eq_true,decide_eq_true_eq] at h;constructor
 ·unfold zJ wdI ltI;simp only [Bool.or_eq_true,Bool.and_eq_true,decide_eq_true_eq];omega
 ·rintro rfl;revert h;decide
theorem JG:∀{l:Rl},Hy l=true→l.all zJ=true∧(58:UInt8) ∉ l
 | [],_=>⟨rfl,by simp⟩
 | b::r,h=>by
  rw [Ir,Bool.and_eq_true] at h;obtain ⟨h1,h2⟩:=JG h.2;obtain ⟨h3,h4⟩:=afI h.1;exact ⟨by rw [List.all_cons,h3,h1];rfl,by simp [h2,Ne.symm h4]⟩
theorem uh {l:Rl} (h:Ak l=true):l≠[]∧l.all zJ=true∧(58:UInt8) ∉ l∧(∃c r,l=c::r∧ltI c.toNat=true):=by
 unfold Ak at h;rw [Bool.and_eq_true,Bool.and_eq_true] at h;obtain ⟨h1,h2⟩:=JG h.1.2
 cases l with
 | nil=>simp at h
 | cons c r=>exact ⟨by simp,h1,h2,c,r,rfl,h.1.1⟩
def NmV (n:Rl):Prop:=oJ n=true∨LD n=true
theorem Q9 {n:Rl} (h:(58:UInt8) ∉ n):lD 58 n=none:=yK.2 h
theorem TU {n:Rl} (h:NmV n):((58:UInt8) ∉ n∧n≠[]∧n.all zJ=true)∨(∃x y,lD 58 n=some (x,y)∧Ak x=true∧Ak y=true):=by
 rcases h with h|h
 ·unfold oJ at h;rw [Bool.and_eq_true] at h
  cases hc:lD 58 n with
  | none=>
   rw [hc] at h;obtain ⟨h1,h2,h3,_⟩:=uh h.2;exact .inl ⟨h3,h1,h2⟩
  | some p=>
   rw [hc] at h;simp only [Bool.and_eq_true] at h;exact .inr ⟨p.1,p.2,rfl,h.2.1,h.2.2⟩
 ·unfold LD at h;simp only [Bool.and_eq_true,decide_eq_true_eq] at h;obtain ⟨h1,h2⟩:=JG h.2;exact .inl ⟨h2,by rintro rfl;simp at h,h1⟩
theorem ZI {n:Rl} (h:NmV n):(owN n).all zJ=true∧owN n≠[]:=by
 unfold owN;rcases TU h with ⟨h1,h2,h3⟩|⟨x,y,h1,h2,h3⟩
 ·rw [if_neg h1];exact ⟨by rw [List.all_cons,h3];rfl,by simp⟩
 ·have he:=vS h1;rw [if_pos (by rw [he];simp)];obtain ⟨_,k2,_,_⟩:=uh h2;obtain ⟨_,k6,_,_⟩:=uh h3;subst he;refine ⟨?_,by simp⟩;rw [List.all_append,List.all_cons,k2,k6];rfl
structure NmD (pre:List Rl) (n:Rl):Prop where
 own:([58]:Rl)∈pre
 far:∀x y,lD 58 n=some (x,y)→x++[58]∈pre∧x≠[111,119,108]∧x≠[120,115,100]
theorem ahw {pre:List Rl} {n:Rl} (h:NmV n) (hd:NmD pre n):NmP pre n:=by
 rcases TU h with ⟨h1,h2,h3⟩|⟨x,y,h1,h2,h3⟩
 ·exact ⟨h2,fun _=>hd.own,fun x y hc=>by rw [Q9 h1] at hc;cases hc⟩
 ·refine ⟨by rintro rfl;simp [lD] at h1,fun _=>hd.own,fun u v hc=>?_⟩;rw [h1] at hc;cases hc;obtain ⟨k1,_⟩:=uh h2;obtain ⟨k5,_,k7,_⟩:=uh h3;obtain ⟨a1,a2,a3⟩:=hd.far _ _ h1;exact ⟨k1,k5,k7,a1,a2,a3⟩
theorem O1 (n:Rl):(58:UInt8)∈owN n:=by
 unfold owN;split
 ·assumption
 ·simp
theorem LM {pre:List Rl} {n:Rl} (hn:NmP pre n) (w:Rl) (hw:(58:UInt8) ∉ w∨(∃y,lD 58 w=some ([111,119,108],y))∨(∃y,lD 58 w=some ([120,115,100],y))):owN n≠w:=by
 rintro rfl
 have hc:∃x y,lD 58 (owN n)=some (x,y)∧x≠[111,119,108]∧x≠[120,115,100]:=by
  unfold owN;by_cases q:(58:UInt8)∈n
  ·rw [if_pos q]
   cases hc:lD 58 n with
   | none=>exact absurd q (yK.1 hc)
   | some p=>obtain ⟨_,_,_,_,h5,h6⟩:=hn.far p.1 p.2 hc;exact ⟨p.1,p.2,rfl,h5,h6⟩
  ·rw [if_neg q];exact ⟨[],n,by simp [lD],by simp,by simp⟩
 obtain ⟨x,y,h1,h2,h3⟩:=hc;rcases hw with hw|⟨z,hz⟩|⟨z,hz⟩
 ·exact hw (O1 n)
 ·rw [h1] at hz;cases hz;exact h2 rfl
 ·rw [h1] at hz;cases hz;exact h3 rfl
def Par {α:Type} (P:Rl→Prop) (src:Rl) (pre:List Rl) (f:Rd→OR α) (v:α) (T:List Tx):Prop:=
 T≠[]∧(∀t∈T.head?,t.2≠[41])∧∀(r:Rd) (L:List Tx),My P src r (T++L)→r.pre=pre→∃q,f r=.ok v q∧My P src q L∧Fq r q
theorem J6 {α:Type} {P:Rl→Prop} {src:Rl} {pre:List Rl} {f:Rd→OR α}:∀(vs:List α) (T:α→List Tx),(∀v∈vs,Par P src pre f v (T v))→∀(g:α→α) (hg:∀v∈vs,g v=v) (n:Nat) (acc:List α) (r:Rd) (L:List Tx),vs.length<n→2≤acc.length+vs.length→r.pre=pre→
  My P src r (vs.flatMap T++(1,[41])::L)→∃q,nZ src f 2 n acc r=.ok (acc++vs) q∧My P src q ((1,[41])::L)∧Fq r q
 | [],T,_,g,hg,n,acc,r,L,hn,ha,hr,h=>by
  obtain ⟨n,rfl⟩:∃k,n=k+1:=⟨n - 1,by simp at hn;omega⟩;obtain ⟨q,h1,h2,h3,h4⟩:=zD (t:=(1,[41])) h [41];refine ⟨q, ?_,h2,h4⟩;unfold nZ;rw [if_neg (by simp at ha;omega),h1];simp
 | v::vs,T,hT,g,hg,n,acc,r,L,hn,ha,hr,h=>by
  obtain ⟨n,rfl⟩:∃k,n=k+1:=⟨n - 1,by simp at hn;omega⟩;obtain ⟨p1,p2,p3⟩:=hT v (by simp);rw [List.flatMap_cons,List.append_assoc] at h
  have key:∀r1,My P src r1 (T v++(vs.flatMap T++(1,[41])::L))→r1.pre=pre→∃q,((f r1).bind fun v r=>nZ src f 2 n (acc++[v]) r)=.ok (acc++v::vs) q∧My P src q ((1,[41])::L)∧Fq r1 q:=fun r1 h1 hr1=>by
   obtain ⟨q,e1,e2,e3⟩:=p3 r1 _ h1 hr1;obtain ⟨q2,e4,e5,e6⟩:=J6 vs T (fun u hu=>hT u (by simp [hu])) g (fun u hu=>hg u (by simp [hu])) n (acc++[v]) q L (by simp at hn;omega) (by simp at ha ⊢;omega) (e3.pre.trans hr1) e2;exact ⟨q2,by rw [e1,OR.bind_ok,e4];simp,e5,e3.tr e6⟩
  unfold nZ;by_cases z:acc.length<2
  ·rw [if_pos z];simp only [OR.bind_ok,Bool.false_eq_true,if_false];exact key r h hr
  ·rw [if_neg z]
   cases hT':T v with
   | nil=>exact absurd hT' p1
   | cons t T'=>
    have hd:=p2 t (by rw [hT'];rfl);rw [hT',List.cons_append] at h;obtain ⟨q,h1,h2,h3,h4⟩:=zD h [41];rw [h1,decide_eq_false hd];simp only [OR.bind_ok,Bool.false_eq_true,if_false];obtain ⟨q2,k1,k2,k3⟩:=key q (by rw [hT',List.cons_append];exact h2) (h4.pre.trans hr);exact ⟨q2,k1,k2,h4.tr k3⟩
def TS:List Tx:=[(4,wB9),(1,[40]),(4,[58,111,112,101,110]),(3,wD2),(1,[41])]
theorem WJ {P:Rl→Prop} {src:Rl} {r:Rd} {t:Tx} {L:List Tx} (n:Nat) (h:My P src r (t::L)) (ht:t.2≠wB9):∃q,qx src (n+1) r=.ok () q∧My P src q (t::L)∧Fq r q:=by
 obtain ⟨q,h1,h2,h3,h4⟩:=zD h wB9;refine ⟨q, ?_,h2,h4⟩;unfold qx;rw [h1,decide_eq_false ht];simp
theorem adb {P:Rl→Prop} {src:Rl} {r:Rd} {t:Tx} {L:List Tx} (n:Nat) (b:Bool) (h:My P src r ((if b=true then TS else [])++t::L)) (ht:t.2≠wB9) (hp:([58]:Rl)∈r.pre) (ho:r.op=false):
  ∃q,qx src (n+2) r=.ok () q∧My P src q (t::L)∧q.pre=r.pre∧q.iri=r.iri∧q.op=b∧q.ax=r.ax:=by
 cases b with
 | false=>
  obtain ⟨q,h1,h2,h3⟩:=WJ (n+1) h ht;exact ⟨q,h1,h2,h3.pre,h3.iri,h3.op.trans ho,h3.ax⟩
 | true=>
  simp only [if_true,TS,List.cons_append,List.nil_append] at h;obtain ⟨q,h1,h2,h3,h4⟩:=zD h wB9;obtain ⟨q1,a1,a2,a3⟩:=lH h3 (w:=[40]) rfl;obtain ⟨q2,b1,b2,b3⟩:=rG (n:=[111,112,101,110]) (r:=q1) (by exact a2) ⟨by simp,fun _=>by rw [a3.pre];show _∈q.pre;rw [h4.pre];exact hp,fun x y hc=>by simp [lD] at hc⟩;obtain ⟨a,q3,c1,c2,c3,c4⟩:=pY b2;obtain ⟨q4,d1,d2,d3⟩:=lH c3 (w:=[41]) rfl;obtain ⟨q5,f1,f2,f3⟩:=WJ (src:=src) (P:=P) (r:={ q4 with op:=true }) n (t:=t) (L:=L) d2 ht;refine ⟨q5, ?_,f2, ?_, ?_,f3.op, ?_⟩
  ·unfold qx;rw [h1];simp only [decide_true,OR.bind_ok,if_true,a1,b1,c1,o8,d1]
   have:q4.op || (decide True && decide True)=true:=by simp
   simpa using f1
  ·rw [f3.pre];show q4.pre=_;rw [d3.pre];show q3.pre=_;rw [c4.pre,b3.pre,a3.pre];exact h4.pre
  ·rw [f3.iri];show q4.iri=_;rw [d3.iri];show q3.iri=_;rw [c4.iri,b3.iri,a3.iri];exact h4.iri
  ·rw [f3.ax];show q4.ax=_;rw [d3.ax];show q3.ax=_;rw [c4.ax,b3.ax,a3.ax];exact h4.ax
theorem Wx (N a0:Nat):∀(xs l:List Ax) (r:Rd),(∀x∈xs,dW { x with op:=r.op }=0)→∃A,zB N a0 xs l r=.ok (l++xs.map fun x=>{ x with op:=r.op }) { r with ax:=A }
 | [],l,r,_=>⟨r.ax,by simp [zB]⟩
 | x::xs,l,r,h=>by
  obtain ⟨A,hA⟩:=Wx N a0 xs (l++[{ x with op:=r.op }]) { r with ax:=axV N (l++[{ x with op:=r.op }]) } (fun y hy=>h y (by simp [hy]));refine ⟨A, ?_⟩;unfold zB;rw [if_pos (h x (by simp)),hA];simp
theorem afC {P:Rl→Prop} {src:Rl} {n N:Nat} {w:Rl} (hw:adC w=true) {body:List Tx} {xs:List Ax} {op:Bool} {pre:List Rl} (hb:∀(r1:Rd) (L:List Tx),My P src r1 (body++(1,[41])::L)→r1.op=false→r1.pre=pre→
   ∃q,EH src n w r1=.ok xs q∧My P src q ((1,[41])::L)∧q.pre=r1.pre∧q.iri=r1.iri∧q.op=op)
  (hc:∀x∈xs,dW { x with op:=op }=0) (l:List Ax) (hlen:l.length+xs.length≤1024) (r:Rd) (hp:r.pre=pre) (L:List Tx) (h:My P src r ((4,w)::(1,[40])::(body++(1,[41])::L))):
  ∃q,zf src n N l r=.ok (l++xs.map fun x=>{ x with op:=op }) q∧My P src q L∧q.pre=r.pre∧q.iri=r.iri:=by
 obtain ⟨a,q,h1,h2,h3,h4⟩:=pY h;obtain ⟨q1,a1,a2,a3⟩:=lH h3 (w:=[40]) rfl;obtain ⟨q2,b1,b2,b3,b4,b5⟩:=hb { q1 with op:=false } L a2 rfl (by show q1.pre=_;rw [a3.pre];show q.pre=_;rw [h4.pre,hp]);obtain ⟨q3,c1,c2,c3⟩:=lH b2 (w:=[41]) rfl;have hop:q3.op=op:=c3.op.trans b5;obtain ⟨A,hA⟩:=Wx N a xs l q3 (by rw [hop];exact hc);rw [hop] at hA;refine ⟨{ q3 with ax:=A }, ?_,c2, ?_, ?_⟩
 ·unfold zf;rw [h1];simp only [OR.bind_ok,hw,o8,a1,b1,c1,hA];rw [if_neg (by simp;omega),←hop]
 ·show q3.pre=_;rw [c3.pre,b3];show q1.pre=_;rw [a3.pre];exact h4.pre
 ·show q3.iri=_;rw [c3.iri,b4];show q1.iri=_;rw [a3.iri];exact h4.iri
def yc (w u:Rl):List Tx:=[(4,wC0),(1,[40]),(4,w),(1,[61]),(2,u),(1,[41])]
theorem ZR {P:Rl→Prop} {src:Rl} {r:Rd} {w u:Rl} {L:List Tx} (h:My P src r (yc w u++L)) (hw:∀a,Ov r.pre (4,w,a)=true) (hu:∀a,zS w (2,u,a)=true):
  ∃q,H7 src r=.ok () q∧My P src q L∧q.pre=qH r.pre w∧q.iri=if w=[58] then xX u else r.iri:=by
 simp only [yc,List.cons_append,List.nil_append] at h;obtain ⟨q1,a1,a2,a3⟩:=lH h (w:=wC0) rfl;obtain ⟨q2,b1,b2,b3⟩:=lH a2 (w:=[40]) rfl;obtain ⟨a,q3,c1,c2,c3,c4⟩:=pY b2;obtain ⟨q4,d1,d2,d3⟩:=lH c3 (w:=[61]) rfl;obtain ⟨a',q5,e1,e2,e3,e4⟩:=pY d2;obtain ⟨q6,f1,f2,f3⟩:=lH e3 (w:=[41]) rfl;have hpre:q3.pre=r.pre:=by rw [c4.pre,b3.pre,a3.pre]
 have hpre6:q6.pre=r.pre:=by rw [f3.pre];show q5.pre=_;rw [e4.pre,d3.pre];exact hpre
 have hiri6:q6.iri=r.iri:=by rw [f3.iri];show q5.iri=_;rw [e4.iri,d3.iri];show q3.iri=_;rw [c4.iri,b3.iri,a3.iri]
 refine ⟨{ q6 with pre:=qH r.pre w,iri:=if w=[58] then xX u else r.iri }, ?_,f2,rfl,rfl⟩;unfold H7;rw [a1];simp only [OR.bind_ok,b1,c1,hpre,hw a,o8,d1,e1,hu a',f1,hpre6,hiri6]
theorem WL {P:Rl→Prop} {src:Rl} {n N:Nat} {pre:List Rl}:∀(I:List (List Tx×List Ax)),(∀p∈I,(∃t T,p.1=t::T∧t.2≠[41])∧∀(l:List Ax) (r:Rd) (L:List Tx),l.length+p.2.length≤1024→r.pre=pre→My P src r (p.1++L)→∃q,zf src n N l r=.ok (l++p.2) q∧My P src q L∧q.pre=r.pre∧q.iri=r.iri)→
  ∀(k:Nat) (l:List Ax) (r:Rd) (L:List Tx),I.length<k→l.length+(I.flatMap (·.2)).length≤1024→r.pre=pre→My P src r (I.flatMap (·.1)++(1,[41])::L)→
  ∃q,zF src n N k l r=.ok (l++I.flatMap (·.2)) q∧My P src (cu q) L∧q.iri=r.iri∧q.pre=r.pre
 | [],_,k,l,r,L,hk,hl,hr,h=>by
  obtain ⟨k,rfl⟩:∃j,k=j+1:=⟨k - 1,by simp at hk;omega⟩;obtain ⟨q,h1,h2,h3,h4⟩:=zD (t:=(1,[41])) h [41];exact ⟨q,by unfold zF;rw [h1];simp,h3,h4.iri,h4.pre⟩
 | p::I,hI,k,l,r,L,hk,hl,hr,h=>by
  obtain ⟨k,rfl⟩:∃j,k=j+1:=⟨k - 1,by simp at hk;omega⟩;obtain ⟨⟨t,T,e1,e2⟩,e3⟩:=hI p (by simp);rw [List.flatMap_cons,List.append_assoc] at h;rw [List.flatMap_cons,List.length_append] at hl;have h':=h;rw [e1,List.cons_append] at h';obtain ⟨q,h1,h2,h3,h4⟩:=zD h' [41];rw [←List.cons_append,←e1] at h2;obtain ⟨q1,a1,a2,a3,a4⟩:=e3 l q _ (by omega) (h4.pre.trans hr) h2;obtain ⟨q2,b1,b2,b3,b4⟩:=WL I (fun p hp=>hI p (by simp [hp])) k (l++p.2) q1 L (by simp at hk;omega) (by rw [List.length_append];omega) (a3.trans (h4.pre.trans hr)) a2;refine ⟨q2, ?_,b2,b3.trans (a4.trans h4.iri),b4.trans (a3.trans h4.pre)⟩;unfold zF;rw [h1,decide_eq_false e2];simp only [OR.bind_ok,Bool.false_eq_true,if_false,a1,b1];simp [List.flatMap_cons]
end Go.Ai.Z
namespace Go.Ai.Z
open Go.Lib (itoa decDigits atoi decFrom decNat digitVal)
theorem aaj (d:Nat) (h:d<10):KU (UInt8.ofNat (48+d))=true:=by
 have:(UInt8.ofNat (48+d)).toNat=48+d:=by simp;omega
 rw [O8,this];omega
theorem Vx (u:Nat):(decDigits u).all KU=true:=by
 induction u using Nat.strongRecOn with
 | _ u ih=>
  rw [decDigits];split
  ·rename_i h;rw [List.all_cons,List.all_nil,aaj u h];rfl
  ·rename_i h;rw [List.all_append,ih (u / 10) (by omega),List.all_cons,List.all_nil,aaj (u % 10) (by omega)];rfl
theorem Q5 (u:Nat):∃c r,decDigits u=c::r∧(u≠0→c≠48)∧(u=0→r=[]∧c=48)∧c≠45:=by
 induction u using Nat.strongRecOn with
 | _ u ih=>
  rw [decDigits];split
  ·rename_i h;refine ⟨UInt8.ofNat (48+u),[],rfl,fun hu hc=>?_,fun hu=>⟨rfl,by subst hu;rfl⟩,fun hc=>?_⟩
   ·have:=congrArg UInt8.toNat hc
    rw [show (UInt8.ofNat (48+u)).toNat=48+u by simp;omega] at this;simp at this;omega
   ·have:=congrArg UInt8.toNat hc
    rw [show (UInt8.ofNat (48+u)).toNat=48+u by simp;omega] at this;simp at this;omega
  ·rename_i h;obtain ⟨c,r,h1,h2,h3,h4⟩:=ih (u / 10) (by omega);exact ⟨c,r++[UInt8.ofNat (48+u % 10)],by rw [h1];rfl,fun _=>h2 (by omega),fun hu=>absurd hu (by omega),h4⟩
theorem QZ (d:Nat) (h:d<10):digitVal (UInt8.ofNat (48+d))=some d:=by
 unfold digitVal
 have:(UInt8.ofNat (48+d)).toNat=48+d:=by simp;omega
 rw [this,if_pos ⟨by omega,by omega⟩]
 congr 1;omega
theorem Vy:∀(u:Nat) (r:Rl),decFrom 0 (decDigits u++r)=decFrom u r:=by
 intro u
 induction u using Nat.strongRecOn with
 | _ u ih=>
  intro r;rw [decDigits];split
  ·rename_i h;simp only [List.cons_append,List.nil_append,decFrom,QZ u h];simp
  ·rename_i h;rw [List.append_assoc,ih (u / 10) (by omega)];simp only [List.cons_append,List.nil_append,decFrom,QZ (u % 10) (by omega)]
   congr 1;omega
theorem N8 (u:Nat):decNat (decDigits u)=some u:=by
 have h:=Vy u [];rw [List.append_nil] at h;obtain ⟨c,r,hc,_⟩:=Q5 u;unfold decNat;rw [hc] at h ⊢
 simpa [decFrom] using h
theorem aai (u:Nat) (h:u≤1099511627776):(decDigits u).length≤18:=by
 have key:∀(k u:Nat),u<10 ^ (k+1)→(decDigits u).length≤k+1:=by
  intro k
  induction k with
  | zero=>intro u hu;rw [decDigits,dif_pos (by simpa using hu)];simp
  | succ k ih=>
   intro u hu;rw [decDigits];split
   ·simp
   ·have:=ih (u / 10) (by rw [Nat.pow_succ] at hu;omega)
    simp;omega
 exact Nat.le_trans (key 17 u (by omega)) (by omega)
theorem adI (c d:UInt8) (p:Rl):xX (c::(p++[d]))=p:=by
 unfold xX;simp
theorem abg (n:Int) (h1:-1099511627776≤n) (h2:n≤1099511627776) (a:Nat):EI (3,34::(itoa n++[34]),a)=some n:=by
 unfold EI;simp only [if_true];rw [adI];unfold itoa;by_cases hn:n<0
 ·rw [if_pos hn];obtain ⟨c,r,k1,k2,_,_⟩:=Q5 n.natAbs;have hc:=k2 (by omega);have hl:=aai n.natAbs (by omega);have ha:=Vx n.natAbs;have hd:=N8 n.natAbs;have ht:trimB 45 (45::decDigits n.natAbs)=decDigits n.natAbs:=by simp [trimB]
  rw [ht,if_neg (by rw [k1];rw [k1] at hl;simp at hl ⊢;omega),if_neg (by rw [k1];simp [hc]),if_pos ha];simp only [atoi,beq_self_eq_true,if_true,hd,Option.map_some,Option.some.injEq];omega
 ·rw [if_neg hn];obtain ⟨c,r,k1,k2,k3,k4⟩:=Q5 n.toNat;have hl:=aai n.toNat (by omega);have ha:=Vx n.toNat;have hd:=N8 n.toNat;have ht:trimB 45 (decDigits n.toNat)=decDigits n.toNat:=by rw [k1];simp [trimB,k4]
  have hz:¬((decDigits n.toNat).head?=some 48∧decDigits n.toNat≠[48]):=by
   rintro ⟨z1,z2⟩;rw [k1] at z1 z2;simp at z1;by_cases z:n.toNat=0
   ·obtain ⟨k5,k6⟩:=k3 z;subst k5 k6;exact z2 rfl
   ·exact k2 z z1
  rw [ht,if_neg (by rw [k1];rw [k1] at hl;simp at hl ⊢;omega),if_neg hz,if_pos ha];have hcd:KU c=true:=by rw [k1,List.all_cons,Bool.and_eq_true] at ha;exact ha.1
  have b1:(c == 45)=false:=by simpa using k4
  have b2:(c == 43)=false:=by
   cases hq:(c == 43) with
   | false=>rfl
   | true=>rw [beq_iff_eq] at hq;subst hq;exact absurd hcd (by decide)
  rw [k1] at hd ⊢;simp only [atoi,b1,b2,hd,Option.map_some,Bool.false_eq_true,if_false,Option.some.injEq];omega
def QW (w:Rl) (n:Int):List Tx:=[(4,w),(3,34::(itoa n++[34])),(1,[94,94]),(4,wA0)]
mutual
def jR:C→List Tx
 | .mk k n lo hi _ ps=>
  if k=1 then [(4,wB4)]
  else if k=2 then [(4,wB1)]
  else if k=4 then [(4,wB6),(1,[40]),(4,owN n),(1,[41])]
  else if k=5 then (4,wA5)::(1,[40])::(Tv ps++[(1,[41])])
  else if k=6 then (4,wA6)::(1,[40])::(4,owN n)::(Tv ps++[(1,[41])])
  else if k=7 then (4,wA8)::(1,[40])::(4,owN n)::(4,wA7)::(1,[40])::(4,wA0)::(QW wA1 lo++QW wA4 hi++[(1,[41]),(1,[41])])
  else [(4,owN n)]
def Tv:List C→List Tx
 | []=>[]
 | c::r=>jR c++Tv r
end
theorem VY:∀l:List C,Tv l=l.flatMap jR
 | []=>by simp [Tv]
 | c::r=>by simp [Tv,VY r]
mutual
def zc:C→C
 | .mk k n l h _ ps=>.mk k n l h ps.isEmpty (zcs ps)
def zcs:List C→List C
 | []=>[]
 | c::r=>zc c::zcs r
end
theorem acd:∀l:List C,zcs l=l.map zc
 | []=>by simp [zcs]
 | c::r=>by simp [zcs,acd r]
theorem En (c:C):zc c=.mk c.kind c.name c.lo c.hi c.parts.isEmpty (c.parts.map zc):=by cases c;simp [zc,acd]
theorem Gn (c:C):jR c=if c.kind=1 then [(4,wB4)]
  else if c.kind=2 then [(4,wB1)]
  else if c.kind=4 then [(4,wB6),(1,[40]),(4,owN c.name),(1,[41])]
  else if c.kind=5 then (4,wA5)::(1,[40])::(c.parts.flatMap jR++[(1,[41])])
  else if c.kind=6 then (4,wA6)::(1,[40])::(4,owN c.name)::(c.parts.flatMap jR++[(1,[41])])
  else if c.kind=7 then (4,wA8)::(1,[40])::(4,owN c.name)::(4,wA7)::(1,[40])::(4,wA0)::(QW wA1 c.lo++QW wA4 c.hi++[(1,[41]),(1,[41])])
  else [(4,owN c.name)]:=by cases c;simp only [jR,VY];rfl
theorem Bc:∀c:C,jR (zc c)=jR c:=by
 refine C.ind' fun c ih=>?_
 have hp:(c.parts.map zc).flatMap jR=c.parts.flatMap jR:=by
  have:∀l:List C,(∀p∈l,jR (zc p)=jR p)→(l.map zc).flatMap jR=l.flatMap jR:=fun l=>by
   induction l with
   | nil=>intro _;rfl
   | cons a r ihr=>intro h;simp [h a (by simp),ihr (fun p hp=>h p (by simp [hp]))]
  exact this _ ih
 rw [Gn (zc c),Gn c,En];simp only [C.Kv,C.O4,C.adn,C.adM,C.EU,hp];rfl
theorem UI (c:C):jR c≠[]∧∀t∈(jR c).head?,t.2≠[41]:=by
 have hw:∀n:Rl,owN n≠[41]:=fun n h=>by
  have:=O1 n
  rw [h] at this;simp at this
 rw [Gn];split
 ·simp
 split
 ·simp
 split
 ·simp
 split
 ·simp
 split
 ·simp
 split
 ·simp
 ·simpa using hw c.name
theorem Cc (c:C):1≤(jR c).length:=by
 have:=(UI c).1
 cases h:jR c with
 | nil=>exact absurd h this
 | cons a b=>simp
inductive VC (pre:List Rl):C→Prop where
 | mk (c:C) (hs:kS c=true) (hn:c.kind=3∨c.kind=4∨c.kind=6∨c.kind=7→NmP pre c.name) (hp:∀p∈c.parts,VC pre p):VC pre c
theorem zY {c:C} (h:kS c=true) (hk:c.kind=1∨c.kind=2∨c.kind=3∨c.kind=4):c.lo=0∧c.hi=0∧c.parts=[]∧(c.kind=1∨c.kind=2→c.name=[]):=by
 unfold kS at h
 rcases hk with k|k|k|k<;>simp [k] at h<;>simp [h,k]
theorem Lu {c:C} (h:kS c=true) (hk:c.kind=5):c.lo=0∧c.hi=0∧c.name=[]∧2≤c.parts.length:=by
 unfold kS at h;simp [hk] at h;refine ⟨h.1.1.1.1,h.1.1.1.2,h.1.1.2,by have:=h.1.2;omega⟩
theorem PK {c:C} (h:kS c=true) (hk:c.kind=6):c.lo=0∧c.hi=0∧∃p,c.parts=[p]:=by
 unfold kS at h;simp [hk] at h;refine ⟨h.1.1,h.1.2, ?_⟩;exact List.length_eq_one_iff.1 (by omega)
theorem aaL {c:C} (h:kS c=true) (hk:c.kind=7):c.parts=[]∧-1099511627776≤c.lo∧c.lo≤c.hi∧c.hi≤1099511627776:=by
 unfold kS at h;simp [hk] at h;exact ⟨h.1.1.1,h.1.1.2,h.1.2,h.2⟩
theorem UR {c:C} (h:kS c=true):c.kind=1∨c.kind=2∨c.kind=3∨c.kind=4∨c.kind=5∨c.kind=6∨c.kind=7:=by
 unfold kS at h;apply Classical.byContradiction;intro hc;simp only [not_or] at hc;obtain ⟨h1,h2,h3,h4,h5,h6,h7⟩:=hc;simp [h1,h2,h3,h4,h5,h6,h7] at h
theorem ade {P:Rl→Prop} {src:Rl} {r:Rd} {w other:Rl} {n:Int} {L:List Tx} (h:My P src r (QW w n++L)) (hw:Y2 other w=true) (hx:[120,115,100,58]∈r.pre) (h1:-1099511627776≤n) (h2:n≤1099511627776) (lo hi:Int):
  ∃q,SL src other lo hi r=.ok (w,if w=wA1 then n else lo,if w=wA1 then hi else n) q∧My P src q L∧Fq r q:=by
 simp only [QW,List.cons_append,List.nil_append] at h;obtain ⟨a,q1,a1,a2,_,a3⟩:=pY h;obtain ⟨q2,b1,b2,b3⟩:=Qk (p:=[120,115,100,58]) a2 (w:=w) rfl (by rw [a3.pre];exact hx);obtain ⟨a',q3,c1,c2,c3,c4⟩:=pY b2;obtain ⟨q4,d1,d2,d3⟩:=lH c3 (w:=[94,94]) rfl;obtain ⟨q5,e1,e2,e3⟩:=Qk (p:=[120,115,100,58]) d2 (w:=wA0) rfl (by rw [d3.pre];show _∈q3.pre;rw [c4.pre,b3.pre,a3.pre];exact hx);refine ⟨q5, ?_,e2,a3.tr (b3.tr (c4.ps.tr (d3.tr e3)))⟩;unfold SL;rw [a1];simp only [OR.bind_ok,hw,o8,b1,c1,abg n h1 h2,Option.isSome_some,d1,e1,Option.getD_some]
theorem ajL {c:C} (hl:∀p∈c.parts,SmC p (zc p)) (hb:c.parts.length≤1000000):SmC c (zc c):=by
 obtain ⟨k,n,l,h,z,ps⟩:=c;rw [En];refine .mk k n l h z _ ps _ (by simp) hb fun i p q h1 h2=>?_;simp only [C.EU,List.getElem?_map,h1,Option.map_some,Option.some.injEq] at h2;subst h2;exact hl p (List.mem_of_getElem? h1)
section
variable {P:Rl→Prop} {src:Rl} {pre:List Rl}
theorem Bl (ho:[111,119,108,58]∈pre) (hx:[120,115,100,58]∈pre):∀c:C,VC pre c→∀n,(jR c).length≤n→Par P src pre (xZ src n) (zc c) (jR c):=by
 refine C.ind' fun c ih hv n hn=>?_;refine ⟨(UI c).1,(UI c).2,fun r L h hr=>?_⟩
 cases hv with
 | mk _ hs hnm hp=>
 have hpos:=Cc c;obtain ⟨n,rfl⟩:∃k,n=k+1:=⟨n - 1,by omega⟩;unfold xZ;rw [En];rw [Gn] at h hn;rcases UR hs with k|k|k|k|k|k|k
 ·obtain ⟨s1,s2,s3,s4⟩:=zY hs (.inl k);simp only [k,if_true] at h;obtain ⟨a,q,h1,h2,h3,h4⟩:=pY h;obtain ⟨q1,b1,b2,b3⟩:=Qk (p:=[111,119,108,58]) h2 (w:=wB4) rfl (by rw [h4.pre,hr];exact ho);refine ⟨q1, ?_,b2,h4.tr b3⟩;rw [h1];simp only [OR.bind_ok,if_true,UH,b1,k,s1,s2,s3,s4 (.inl k)];rfl
 ·obtain ⟨s1,s2,s3,s4⟩:=zY hs (.inr (.inl k));simp only [k] at h;simp at h;obtain ⟨a,q,h1,h2,h3,h4⟩:=pY h;obtain ⟨q1,b1,b2,b3⟩:=Qk (p:=[111,119,108,58]) h2 (w:=wB1) rfl (by rw [h4.pre,hr];exact ho);refine ⟨q1, ?_,b2,h4.tr b3⟩;rw [h1];simp only [OR.bind_ok];simp [UH,b1,k,s1,s2,s3,s4 (.inr k)]
 ·obtain ⟨s1,s2,s3,s4⟩:=zY hs (.inr (.inr (.inl k)));simp only [k] at h;simp at h;have hm:=hnm (.inl k);obtain ⟨a,q,h1,h2,h3,h4⟩:=pY h;obtain ⟨q1,b1,b2,b3⟩:=rG (n:=c.name) h2 (by rw [h4.pre,hr];exact hm);have e1:=LM hm wB4 (.inr (.inl ⟨_,rfl⟩));have e2:=LM hm wB1 (.inr (.inl ⟨_,rfl⟩));have e3:=LM hm wA5 (.inl (by simp));have e4:=LM hm wA6 (.inl (by simp));have e5:=LM hm wB6 (.inl (by simp));have e6:=LM hm wA8 (.inl (by simp));refine ⟨q1, ?_,b2,h4.tr b3⟩;rw [h1];simp only [OR.bind_ok,if_neg e1,if_neg e2,if_neg e3,if_neg e4,if_neg e5,if_neg e6,b1,k,s1,s2,s3];rfl
 ·obtain ⟨s1,s2,s3,s4⟩:=zY hs (.inr (.inr (.inr k)));simp only [k] at h;simp at h;have hm:=hnm (.inr (.inl k));obtain ⟨a,q,h1,h2,h3,h4⟩:=pY h;obtain ⟨q1,b1,b2,b3⟩:=lH h3 (w:=[40]) rfl;have hpre:q1.pre=pre:=by rw [b3.pre];show q.pre=_;rw [h4.pre,hr]
  obtain ⟨q2,c1,c2,c3⟩:=rG (n:=c.name) b2 (by rw [hpre];exact hm);obtain ⟨q3,d1,d2,d3⟩:=lH c2 (w:=[41]) rfl;refine ⟨q3, ?_,d2,h4.ps.tr (b3.tr (c3.tr d3))⟩;rw [h1];simp only [OR.bind_ok];simp [YE,b1,c1,d1,k,s1,s2,s3]
 ·obtain ⟨s1,s2,s3,s4⟩:=Lu hs k;simp only [k] at h hn;simp at h hn;obtain ⟨a,q,h1,h2,h3,h4⟩:=pY h;obtain ⟨q1,b1,b2,b3⟩:=lH h3 (w:=[40]) rfl;have hpre:q1.pre=pre:=by rw [b3.pre];show q.pre=_;rw [h4.pre,hr]
  have hfl:c.parts.length≤(c.parts.flatMap jR).length:=by
   rw [List.length_flatMap]
   have:∀l:List C,l.length≤(l.map fun a=>(jR a).length).sum:=fun l=>by
    induction l with
    | nil=>simp
    | cons x l ihl=>have:=Cc x;simp;omega
   exact this _
  have hfm:∀p∈c.parts,(jR p).length≤(c.parts.flatMap jR).length:=fun p hp=>by
   rw [List.length_flatMap]
   have:∀l:List C,p∈l→(jR p).length≤(l.map fun a=>(jR a).length).sum:=fun l=>by
    induction l with
    | nil=>intro hh;cases hh
    | cons x l ihl=>
     intro hh;rcases List.mem_cons.1 hh with rfl|hh
     ·simp
     ·have:=ihl hh;simp;omega
   exact this _ hp
  simp only [List.length_flatMap] at hfl hfm
  have hzt:(c.parts.map zc).flatMap jR=c.parts.flatMap jR:=by
   have:∀l:List C,(l.map zc).flatMap jR=l.flatMap jR:=fun l=>by
    induction l with
    | nil=>rfl
    | cons x l ihl=>simp [Bc x,ihl]
   exact this _
  obtain ⟨q2,c1,c2,c3⟩:=J6 (P:=P) (src:=src) (pre:=pre) (f:=xZ src n) (c.parts.map zc) jR (fun v hv=>by
    obtain ⟨p,hp1,rfl⟩:=List.mem_map.1 hv;rw [Bc]
    exact ih p hp1 (hp p hp1) n (by have:=hfm p hp1;omega)) id (fun _ _=>rfl) n [] q1 L (by simp;omega) (by simp;omega) hpre (by rw [hzt];exact b2)
  obtain ⟨q3,d1,d2,d3⟩:=lH c2 (w:=[41]) rfl
  have hne:c.parts.isEmpty=false:=by
   cases hh:c.parts with
   | nil=>rw [hh] at s4;simp at s4
   | cons=>rfl
  refine ⟨q3, ?_,d2,h4.ps.tr (b3.tr (c3.tr d3))⟩;rw [h1];simp only [OR.bind_ok];simp [Zm,b1,c1,d1,k,s1,s2,s3,hne]
 ·obtain ⟨s1,s2,p,s3⟩:=PK hs k;simp only [k,s3] at h hn;simp at h hn;have hm:=hnm (.inr (.inr (.inl k)));obtain ⟨a,q,h1,h2,h3,h4⟩:=pY h;obtain ⟨q1,b1,b2,b3⟩:=lH h3 (w:=[40]) rfl;have hpre:q1.pre=pre:=by rw [b3.pre];show q.pre=_;rw [h4.pre,hr]
  obtain ⟨q2,c1,c2,c3⟩:=rG (n:=c.name) b2 (by rw [hpre];exact hm);obtain ⟨_,_,hpar⟩:=ih p (by rw [s3];simp) (hp p (by rw [s3];simp)) n (by omega);obtain ⟨q3,d1,d2,d3⟩:=hpar q2 _ c2 (by rw [c3.pre];exact hpre);obtain ⟨q4,e1,e2,e3⟩:=lH d2 (w:=[41]) rfl;refine ⟨q4, ?_,e2,h4.ps.tr (b3.tr (c3.tr (d3.tr e3)))⟩;rw [h1];simp only [OR.bind_ok];simp [PI,b1,c1,d1,e1,k,s1,s2,s3]
 ·obtain ⟨s1,s2,s3,s4⟩:=aaL hs k;simp only [k] at h;simp only [show ¬(7:Int)=1 by decide,show ¬(7:Int)=2 by decide,show ¬(7:Int)=4 by decide,show ¬(7:Int)=5 by decide,show ¬(7:Int)=6 by decide,if_true,if_false,List.cons_append,List.append_assoc,List.nil_append] at h;have hm:=hnm (.inr (.inr (.inr k)));obtain ⟨a,q,h1,h2,h3,h4⟩:=pY h;obtain ⟨q1,b1,b2,b3⟩:=lH h3 (w:=[40]) rfl;have hpre:q1.pre=pre:=by rw [b3.pre];show q.pre=_;rw [h4.pre,hr]
  obtain ⟨q2,c1,c2,c3⟩:=rG (n:=c.name) b2 (by rw [hpre];exact hm);obtain ⟨q3,d1,d2,d3,d4⟩:=zD c2 wA7;obtain ⟨q4,e1,e2,e3⟩:=lH d3 (w:=[40]) rfl;have hpre4:q4.pre=pre:=by rw [e3.pre];show q3.pre=_;rw [d4.pre,c3.pre,hpre]
  obtain ⟨q5,f1,f2,f3⟩:=Qk (p:=[120,115,100,58]) e2 (w:=wA0) rfl (by rw [hpre4];exact hx);obtain ⟨q6,g1,g2,g3⟩:=ade (other:=[]) f2 (by decide) (by rw [f3.pre,hpre4];exact hx) s2 (by omega) (-WQ) WQ;have g2':=g2;rw [show QW wA4 c.hi++(1,[41])::(1,[41])::L=(4,wA4)::(3,34::(itoa c.hi++[34]))::(1,[94,94])::(4,wA0)::(1,[41])::(1,[41])::L from rfl] at g2';obtain ⟨q7,i1,i2,i3,i4⟩:=zD g2' [41];obtain ⟨q8,j1,j2,j3⟩:=ade (w:=wA4) (n:=c.hi) (other:=wA1) (L:=(1,[41])::(1,[41])::L) i2 (by decide) (by rw [i4.pre,g3.pre,f3.pre,hpre4];exact hx) (by omega) s4 c.lo WQ;obtain ⟨q9,k1,k2,k3⟩:=lH j2 (w:=[41]) rfl;obtain ⟨q10,l1,l2,l3⟩:=lH k2 (w:=[41]) rfl;refine ⟨q10, ?_,l2,h4.ps.tr (b3.tr (c3.tr (d4.ps.tr (e3.tr (f3.tr (g3.tr (i4.tr (j3.tr (k3.tr l3)))))))))⟩;rw [h1];simp only [OR.bind_ok];simp at g1 i1 j1;simp [Q7,acL,b1,c1,d1,e1,f1,g1,i1,j1,k1,l1,k,s1]
end
end Go.Ai.Z
namespace Go.Ai.Z
theorem acD (c:C):kS (zc c)=kS c:=by rw [En];unfold kS;simp only [C.Kv,C.O4,C.adn,C.adM,C.EU,List.length_map];rfl
theorem ada (c:C):tC (zc c)=tC c:=by rw [En];unfold tC;simp only [C.Kv,C.O4];rfl
theorem ae6:∀c:C,iq (zc c)=iq c:=by
 refine C.ind' fun c ih=>?_
 have hL:∀l:List C,(∀p∈l,iq (zc p)=iq p)→qZ (l.map zc)=qZ l:=fun l=>by
  induction l with
  | nil=>intro _;rfl
  | cons a r ihr=>intro h;simp only [List.map_cons,qZ];rw [h a (by simp),ihr (fun p hp=>h p (by simp [hp]))]
 have hp:(zc c).parts=c.parts.map zc:=by rw [En];rfl
 rw [Cb,Cb c,acD,ada,hp,hL _ ih]
theorem aff:∀c:C,nN (zc c)=nN c:=by
 refine C.ind' fun c ih=>?_
 have hL:∀l:List C,(∀p∈l,nN (zc p)=nN p)→zy (l.map zc)=zy l:=fun l=>by
  induction l with
  | nil=>intro _;rfl
  | cons a r ihr=>intro h;simp only [List.map_cons,zy];rw [h a (by simp),ihr (fun p hp=>h p (by simp [hp]))]
 have hp:(zc c).parts=c.parts.map zc:=by rw [En];rfl
 rw [Ci,Ci c,hp,hL _ ih]
theorem aek:∀c:C,yJ (zc c)=yJ c:=by
 refine C.ind' fun c ih=>?_
 have hL:∀l:List C,(∀p∈l,yJ (zc p)=yJ p)→D9 (l.map zc)=D9 l:=fun l=>by
  induction l with
  | nil=>intro _;rfl
  | cons a r ihr=>intro h;simp only [List.map_cons,D9];rw [h a (by simp),ihr (fun p hp=>h p (by simp [hp]))]
 have hp:(zc c).parts=c.parts.map zc:=by rw [En];rfl
 rw [MO,MO c,hp,hL _ ih]
theorem aao:∀c:C,AP (zc c)=AP c:=by
 refine C.ind' fun c ih=>?_
 have hL:∀l:List C,(∀p∈l,AP (zc p)=AP p)→xP (l.map zc)=xP l:=fun l=>by
  induction l with
  | nil=>intro _;rfl
  | cons a r ihr=>intro h;simp only [List.map_cons,xP];rw [h a (by simp),ihr (fun p hp=>h p (by simp [hp]))]
 have hp:(zc c).parts=c.parts.map zc:=by rw [En];rfl
 have hk:(zc c).kind=c.kind:=by rw [En];rfl
 rw [RD,RD c,hp,hk,hL _ ih]
theorem XQ (c:C):uF (zc c)=uF c:=by unfold uF;rw [aek,aff,ae6]
theorem aee (c:C):emptyS (zc c)=emptyS c:=by rw [En];unfold emptyS;simp only [C.Kv,C.O4,C.adn,C.adM,C.EU,List.length_map];rfl
def zA (x:Ax):Ax:={ x with left:=zc x.left,right:=zc x.right,z:=x.roles.isEmpty }
theorem aep (x:Ax):dW (zA x)=dW x:=by
 unfold dW;have h1:oV (zA x)=oV x:=by unfold oV zA BU;simp only [aee]
 have h2:BQ (zA x) (kG (zA x).kind)=BQ x (kG x.kind):=rfl;have h3:(zA x).kind=x.kind:=rfl;have h4:(zA x).left=zc x.left:=rfl;have h5:(zA x).right=zc x.right:=rfl;rw [h1,h2,h3,h4,h5,XQ,XQ,aao,aao]
structure AOK (x:Ax):Prop where
 k:x.kind=1∨x.kind=2∨x.kind=3∨x.kind=4∨x.kind=5∨x.kind=6∨x.kind=7∨x.kind=8∨x.kind=9
 l:if (kG x.kind).l=true then iq x.left=0∧nN x.left≤64 else emptyS x.left=true
 r:if (kG x.kind).r=true then iq x.right=0∧nN x.right≤64 else emptyS x.right=true
 role:if (kG x.kind).role=true then NmV x.role else x.role=[]
 a:if (kG x.kind).a=true then NmV x.a else x.a=[]
 b:if (kG x.kind).b=true then NmV x.b else x.b=[]
 rs:∀r∈x.roles,NmV r
 lo:(kG x.kind).lo≤x.roles.length
 hi:(x.roles.length:Int)≤(kG x.kind).hi
theorem aok {x:Ax} (h:dW x=0):AOK x:=by
 unfold dW at h
 split at h
 ·cases h
 split at h
 ·cases h
 rename_i hs hn;have hs:oV x=true:=by simpa using hs
 have hn:BQ x (kG x.kind)=true:=by simpa using hn
 unfold TB at h
 split at h
 ·rename_i q;exact absurd h q.2
 split at h
 ·rename_i q;exact absurd h q.2
 rename_i ql qr;unfold oV at hs;simp only [Bool.and_eq_true,Bool.or_eq_true,decide_eq_true_eq] at hs;obtain ⟨⟨⟨⟨⟨⟨⟨s0,s1⟩,s2⟩,s3⟩,s4⟩,s5⟩,s6⟩,s7⟩:=hs;unfold BQ at hn;simp only [Bool.and_eq_true,Bool.or_eq_true,Bool.not_eq_true'] at hn;obtain ⟨⟨⟨n1,n2⟩,n3⟩,n4⟩:=hn
 have hps:∀n:Rl,yP n=true→NmV n:=fun n h=>by
  unfold yP at h;rw [Bool.or_eq_true] at h;exact h
 have hcs:∀c:C,uF c=0→iq c=0∧nN c≤64:=fun c h=>by
  unfold uF at h
  split at h
  ·cases h
  ·rename_i q;exact ⟨h,by omega⟩
 have hk:1≤x.kind∧x.kind≤9:=by simp [BU] at s0;exact s0
 have hall:∀{l:List Rl},allPlain l=true→∀r∈l,oJ r=true:=fun {l}=>by
  induction l with
  | nil=>intro _ r hr;cases hr
  | cons a l ih=>
   intro h r hr;simp only [allPlain,Bool.and_eq_true] at h;rcases List.mem_cons.1 hr with rfl|hr
   ·exact h.1
   ·exact ih h.2 r hr
 refine ⟨by omega, ?_, ?_, ?_, ?_, ?_,fun r hr=>.inl (hall n4 r hr),s6,s7⟩
 ·split
  ·rename_i q;exact hcs _ (Classical.not_not.1 fun e=>ql ⟨q,e⟩)
  ·rename_i q;exact s1.resolve_left q
 ·split
  ·rename_i q;exact hcs _ (Classical.not_not.1 fun e=>qr ⟨q,e⟩)
  ·rename_i q;exact s2.resolve_left q
 ·split
  ·rename_i q;exact .inl (n1.resolve_left (by rw [q];exact Bool.noConfusion))
  ·rename_i q;exact s3.resolve_left q
 ·split
  ·rename_i q;exact hps _ (n2.resolve_left (by rw [q];exact Bool.noConfusion))
  ·rename_i q;exact s4.resolve_left q
 ·split
  ·rename_i q;exact hps _ (n3.resolve_left (by rw [q];exact Bool.noConfusion))
  ·rename_i q;exact s5.resolve_left q
mutual
def nmC:C→List Rl
 | .mk _ n _ _ _ ps=>n::ac9 ps
def ac9:List C→List Rl
 | []=>[]
 | c::r=>nmC c++ac9 r
end
theorem ZO:∀l:List C,ac9 l=l.flatMap nmC
 | []=>by simp [ac9]
 | c::r=>by simp [ac9,ZO r]
theorem YG (c:C):nmC c=c.name::c.parts.flatMap nmC:=by cases c;simp [nmC,ZO]
def nmX (x:Ax):List Rl:=nmC x.left++nmC x.right++x.roles++[x.role,x.a,x.b]
def aeS (pre:List Rl) (n:Rl):Prop:=∀x y,lD 58 n=some (x,y)→x++[58]∈pre∧x≠[111,119,108]∧x≠[120,115,100]
theorem J5 {pre:List Rl} {n:Rl} (h:NmV n) (h58:([58]:Rl)∈pre) (hd:aeS pre n):NmP pre n:=ahw h ⟨h58,hd⟩
theorem agx {pre:List Rl} (h58:([58]:Rl)∈pre):∀c:C,iq c=0→(∀n∈nmC c,aeS pre n)→VC pre c:=by
 refine C.ind' fun c ih hw hd=>?_
 have h0:kS c=true∧tC c=true∧qZ c.parts=0:=by
  rw [Cb] at hw
  split at hw
  ·cases hw
  split at hw
  ·cases hw
  ·rename_i a b;exact ⟨by simpa using a,by simpa using b,hw⟩
 have hL:∀l:List C,qZ l=0→∀p∈l,iq p=0:=fun l=>by
  induction l with
  | nil=>intro _ p hp;cases hp
  | cons a r ihr=>
   intro h p hp;simp only [qZ] at h
   split at h
   ·rename_i ha;rcases List.mem_cons.1 hp with rfl|hp
    ·exact ha
    ·exact ihr h p hp
   ·rename_i ha;exact absurd h ha
 rw [YG] at hd;refine .mk c h0.1 (fun hk=>?_) fun p hp=>ih p hp (hL _ h0.2.2 p hp) fun n hn=>hd n (by rw [List.mem_cons];exact .inr (List.mem_flatMap.2 ⟨p,hp,hn⟩))
 have hv:NmV c.name:=by
  have h1:=h0.2.1;unfold tC at h1
  rcases hk with k|k|k|k<;>simp [k] at h1
  ·exact .inl h1
  ·exact h1
  ·exact .inl h1
  ·exact .inl h1
 exact J5 hv h58 (hd c.name (by simp))
def argX (x:Ax):List Tx:=
 if x.kind=1 then jR x.left++jR x.right
 else if x.kind=2 then jR x.left++jR x.right
 else if x.kind=3 then jR x.left++jR x.right
 else if x.kind=4 then (4,owN x.role)::jR x.right
 else if x.kind=5 then [(4,owN (x.roles.headD [])),(4,owN x.role)]
 else if x.kind=6 then (4,wA2)::(1,[40])::(x.roles.map (fun r=>((4,owN r):Tx))++[(1,[41]),(4,owN x.role)])
 else if x.kind=7 then [(4,owN x.role)]
 else if x.kind=8 then jR x.right++[(4,owN x.a)]
 else [(4,owN x.role),(4,owN x.a),(4,owN x.b)]
def WH (b:Bool):List Tx:=if b=true then TS else []
def yh (x:Ax):List Tx:=(4,yA x.kind)::(1,[40])::(WH x.op++argX x++[(1,[41])])
theorem Gm {pre:List Rl} (c:C) (h:VC pre c):∀t∈(jR c).head?,t.2≠wB9:=by
 cases h with
 | mk _ hs hn hp=>
 rw [Gn];split
 ·simp
 split
 ·simp
 split
 ·simp
 split
 ·simp
 split
 ·simp
 split
 ·simp
 ·intro t ht;simp at ht;subst ht;intro he
  have:=O1 c.name
  simp only at he;rw [he] at this;simp at this
theorem CJ (n:Rl) (w:Rl) (hw:(58:UInt8) ∉ w):owN n≠w:=fun h=>by
 have:=O1 n
 rw [h] at this;exact hw this
theorem vP {c:C} (h:emptyS c=true):zc c=zC:=by
 unfold emptyS at h;simp only [Bool.and_eq_true,decide_eq_true_eq] at h;obtain ⟨⟨⟨⟨h1,h2⟩,h3⟩,h4⟩,h5⟩:=h;have h6:c.parts=[]:=List.length_eq_zero_iff.1 (by omega);rw [En,h1,h2,h3,h4,h6];rfl
section
variable {P:Rl→Prop} {src:Rl} {pre:List Rl}
theorem acX {n:Rl} (hn:NmP pre n):Par P src pre (nY src) n [(4,owN n)]:=by
 refine ⟨by simp,by simpa using CJ n _ (by simp),fun r L h hr=>?_⟩;exact rG h (by rw [hr];exact hn)
theorem JS {α:Type} {f:Rd→OR α} {v:α} {T:List Tx} (h:Par P src pre f v T):∃t T',T=t::T':=by
 cases T with
 | nil=>exact absurd rfl h.1
 | cons t T'=>exact ⟨t,T',rfl⟩
theorem zM {T:List Tx} (h58:([58]:Rl)∈pre) (b:Bool) (hT:∃t T',T=t::T'∧t.2≠wB9) (n:Nat) (hn:2≤n) (r:Rd) (L:List Tx) (h:My P src r (WH b++T++L)) (ho:r.op=false) (hr:r.pre=pre):
  ∃q,qx src n r=.ok () q∧My P src q (T++L)∧q.pre=r.pre∧q.iri=r.iri∧q.op=b:=by
 obtain ⟨t,T',rfl,ht⟩:=hT;obtain ⟨n,rfl⟩:∃k,n=k+2:=⟨n - 2,by omega⟩;rw [List.append_assoc,List.cons_append] at h;obtain ⟨q,h1,h2,h3,h4,h5,_⟩:=adb n b (t:=t) (L:=T'++L) h ht (by rw [hr];exact h58) ho;exact ⟨q,h1,h2,h3,h4,h5⟩
theorem adD (h58:([58]:Rl)∈pre) (ho:[111,119,108,58]∈pre) (hx:[120,115,100,58]∈pre) {x:Ax} (hc:dW x=0) (hd:∀n∈nmX x,aeS pre n) {n N:Nat} (hn:(yh x).length≤n) (l:List Ax) (hl:l.length+1≤1024) (r:Rd) (L:List Tx) (hr:r.pre=pre) (h:My P src r (yh x++L)):
  ∃q,zf src n N l r=.ok (l++[zA x]) q∧My P src q L∧q.pre=r.pre∧q.iri=r.iri:=by
 have A:=aok hc;have hcz:dW { (({ x with op:=false }:Ax) |> zA) with op:=x.op }=0:=(aep x).trans hc;have hvl:∀w:iq x.left=0,VC pre x.left:=fun w=>agx h58 _ w fun n hn=>hd n (by unfold nmX;simp [hn]);have hvr:∀w:iq x.right=0,VC pre x.right:=fun w=>agx h58 _ w fun n hn=>hd n (by unfold nmX;simp [hn]);have hnr:NmV x.role→NmP pre x.role:=fun h=>J5 h h58 (hd _ (by unfold nmX;simp));have hna:NmV x.a→NmP pre x.a:=fun h=>J5 h h58 (hd _ (by unfold nmX;simp));have hnb:NmV x.b→NmP pre x.b:=fun h=>J5 h h58 (hd _ (by unfold nmX;simp));have hnrs:∀r∈x.roles,NmP pre r:=fun r hr=>J5 (A.rs r hr) h58 (hd _ (by unfold nmX;simp [hr]))
 have hfin:∀(w:Rl),yA x.kind=w→adC w=true→(∀(r1:Rd) (L:List Tx),My P src r1 (WH x.op++argX x++((1,[41])::L))→r1.op=false→r1.pre=pre→
   ∃q,EH src n w r1=.ok [zA { x with op:=false }] q∧My P src q ((1,[41])::L)∧q.pre=r1.pre∧q.iri=r1.iri∧q.op=x.op)→
   ∃q,zf src n N l r=.ok (l++[zA x]) q∧My P src q L∧q.pre=r.pre∧q.iri=r.iri:=fun w hw hi hb=>by
  have h2:My P src r ((4,w)::(1,[40])::(WH x.op++argX x++(1,[41])::L)):=by
   unfold yh at h;rw [hw] at h
   simpa using h
  exact afC (n:=n) (N:=N) hi (op:=x.op) (xs:=[zA { x with op:=false }]) hb (fun y hy=>by rw [List.mem_singleton.1 hy];exact hcz) l (by simpa using hl) r hr L h2
 have hn2:2≤n:=by unfold yh at hn;simp at hn;omega
 have hlen:(argX x).length≤n:=by unfold yh at hn;simp at hn;omega
 rcases A.k with k|k|k|k|k|k|k|k|k
 ·have Al:=A.l;have Ar:=A.r;have Ao:=A.role;have Aa:=A.a;have Ab:=A.b;have Alo:=A.lo;have Ahi:=A.hi;simp [k,kG] at Al Ar Ao Aa Ab Alo Ahi;have hro:x.roles=[]:=Ahi;have p1:=Bl (P:=P) (src:=src) ho hx x.left (hvl Al.1) n (by unfold argX at hlen;simp [k] at hlen;omega);have p2:=Bl (P:=P) (src:=src) ho hx x.right (hvr Ar.1) n (by unfold argX at hlen;simp [k] at hlen;omega);refine hfin wC2 (by simp [yA,k]) (by decide) fun r1 L h o p=>?_;have ha:argX x=jR x.left++jR x.right:=by simp [argX,k]
  rw [ha] at h;obtain ⟨t,T',e⟩:=JS p1;obtain ⟨q,a1,a2,a3,a4,a5⟩:=zM h58 x.op ⟨t,T'++jR x.right,by rw [e];rfl,Gm x.left (hvl Al.1) t (by rw [e];rfl)⟩ n hn2 r1 _ h o p;rw [List.append_assoc] at a2;obtain ⟨q1,b1,b2,b3⟩:=p1.2.2 q _ a2 (a3.trans p);obtain ⟨q2,c1,c2,c3⟩:=p2.2.2 q1 _ b2 (b3.pre.trans (a3.trans p));refine ⟨q2, ?_,c2,by rw [c3.pre,b3.pre,a3],by rw [c3.iri,b3.iri,a4],by rw [c3.op,b3.op,a5]⟩;simp [EH,aaC,a1,b1,c1,zA,axC,k,hro,Ao,Aa,Ab]
 ·have Al:=A.l;have Ar:=A.r;have Ao:=A.role;have Aa:=A.a;have Ab:=A.b;have Alo:=A.lo;have Ahi:=A.hi;simp [k,kG] at Al Ar Ao Aa Ab Alo Ahi;have hro:x.roles=[]:=Ahi;have p1:=Bl (P:=P) (src:=src) ho hx x.left (hvl Al.1) n (by unfold argX at hlen;simp [k] at hlen;omega);have p2:=Bl (P:=P) (src:=src) ho hx x.right (hvr Ar.1) n (by unfold argX at hlen;simp [k] at hlen;omega);refine hfin wB3 (by simp [yA,k]) (by decide) fun r1 L h o p=>?_;have ha:argX x=jR x.left++jR x.right:=by simp [argX,k]
  rw [ha] at h;obtain ⟨t,T',e⟩:=JS p1;obtain ⟨q,a1,a2,a3,a4,a5⟩:=zM h58 x.op ⟨t,T'++jR x.right,by rw [e];rfl,Gm x.left (hvl Al.1) t (by rw [e];rfl)⟩ n hn2 r1 _ h o p
  have hn5:5≤n:=by
   have l1:=Cc x.left;have l2:=Cc x.right;unfold yh at hn;rw [ha] at hn;simp at hn;omega
  obtain ⟨q2,c1,c2,c3⟩:=J6 (P:=P) (src:=src) (pre:=pre) (f:=xZ src n) [zc x.left,zc x.right] jR (fun v hv=>by
    rcases List.mem_cons.1 hv with rfl|hv
    ·rw [Bc];exact p1
    ·rw [List.mem_singleton.1 hv,Bc];exact p2) id (fun _ _=>rfl) n [] q L (by simp;omega) (by simp) (a3.trans p) (by simpa [Bc] using a2)
  refine ⟨q2, ?_,c2,by rw [c3.pre,a3],by rw [c3.iri,a4],by rw [c3.op,a5]⟩;simp at c1;simp [EH,abP,a1,c1,zA,axC,k,hro,Ao,Aa,Ab,Js]
 ·have Al:=A.l;have Ar:=A.r;have Ao:=A.role;have Aa:=A.a;have Ab:=A.b;have Alo:=A.lo;have Ahi:=A.hi;simp [k,kG] at Al Ar Ao Aa Ab Alo Ahi;have hro:x.roles=[]:=Ahi;have p1:=Bl (P:=P) (src:=src) ho hx x.left (hvl Al.1) n (by unfold argX at hlen;simp [k] at hlen;omega);have p2:=Bl (P:=P) (src:=src) ho hx x.right (hvr Ar.1) n (by unfold argX at hlen;simp [k] at hlen;omega);refine hfin wB5 (by simp [yA,k]) (by decide) fun r1 L h o p=>?_;have ha:argX x=jR x.left++jR x.right:=by simp [argX,k]
  rw [ha] at h;obtain ⟨t,T',e⟩:=JS p1;obtain ⟨q,a1,a2,a3,a4,a5⟩:=zM h58 x.op ⟨t,T'++jR x.right,by rw [e];rfl,Gm x.left (hvl Al.1) t (by rw [e];rfl)⟩ n hn2 r1 _ h o p
  have hn5:5≤n:=by
   have l1:=Cc x.left;have l2:=Cc x.right;unfold yh at hn;rw [ha] at hn;simp at hn;omega
  obtain ⟨q2,c1,c2,c3⟩:=J6 (P:=P) (src:=src) (pre:=pre) (f:=xZ src n) [zc x.left,zc x.right] jR (fun v hv=>by
    rcases List.mem_cons.1 hv with rfl|hv
    ·rw [Bc];exact p1
    ·rw [List.mem_singleton.1 hv,Bc];exact p2) id (fun _ _=>rfl) n [] q L (by simp;omega) (by simp) (a3.trans p) (by simpa [Bc] using a2)
  refine ⟨q2, ?_,c2,by rw [c3.pre,a3],by rw [c3.iri,a4],by rw [c3.op,a5]⟩;simp at c1;simp [EH,abR,a1,c1,zA,axC,k,hro,Ao,Aa,Ab,Hl]
 ·have Al:=A.l;have Ar:=A.r;have Ao:=A.role;have Aa:=A.a;have Ab:=A.b;have Alo:=A.lo;have Ahi:=A.hi;simp [k,kG] at Al Ar Ao Aa Ab Alo Ahi;have hro:x.roles=[]:=Ahi;have p2:=Bl (P:=P) (src:=src) ho hx x.right (hvr Ar.1) n (by unfold argX at hlen;simp [k] at hlen;omega);refine hfin wB2 (by simp [yA,k]) (by decide) fun r1 L h o p=>?_;have ha:argX x=(4,owN x.role)::jR x.right:=by simp [argX,k]
  rw [ha] at h;obtain ⟨q,a1,a2,a3,a4,a5⟩:=zM h58 x.op ⟨_,_,rfl,CJ x.role _ (by simp)⟩ n hn2 r1 _ h o p;rw [List.cons_append] at a2;obtain ⟨q1,b1,b2,b3⟩:=rG a2 (by rw [a3,p];exact hnr Ao);obtain ⟨q2,c1,c2,c3⟩:=p2.2.2 q1 _ b2 (b3.pre.trans (a3.trans p));refine ⟨q2, ?_,c2,by rw [c3.pre,b3.pre,a3],by rw [c3.iri,b3.iri,a4],by rw [c3.op,b3.op,a5]⟩;simp [EH,abQ,a1,b1,c1,zA,k,hro,Aa,Ab,vP Al]
 ·have Al:=A.l;have Ar:=A.r;have Ao:=A.role;have Aa:=A.a;have Ab:=A.b;have Alo:=A.lo;have Ahi:=A.hi;simp [k,kG] at Al Ar Ao Aa Ab Alo Ahi;obtain ⟨r0,hro⟩:∃r0,x.roles=[r0]:=List.length_eq_one_iff.1 (by omega);refine hfin wA3 (by simp [yA,k]) (by decide) fun r1 L h o p=>?_;have ha:argX x=[(4,owN r0),(4,owN x.role)]:=by simp [argX,k,hro]
  rw [ha] at h;obtain ⟨q,a1,a2,a3,a4,a5⟩:=zM h58 x.op ⟨_,_,rfl,CJ r0 _ (by simp)⟩ n hn2 r1 _ h o p;simp only [List.cons_append,List.nil_append] at a2;obtain ⟨q0,z1,z2,z3,z4⟩:=zD a2 wA2;rw [decide_eq_false (CJ r0 _ (by simp))] at z1;obtain ⟨q1,b1,b2,b3⟩:=rG z2 (by rw [z4.pre,a3,p];exact hnrs r0 (by rw [hro];simp));obtain ⟨q2,c1,c2,c3⟩:=rG b2 (by rw [b3.pre,z4.pre,a3,p];exact hnr Ao);refine ⟨q2, ?_,c2,by rw [c3.pre,b3.pre,z4.pre,a3],by rw [c3.iri,b3.iri,z4.iri,a4],by rw [c3.op,b3.op,z4.op,a5]⟩;simp [EH,Yr,a1,z1,b1,c1,zA,k,hro,Aa,Ab,vP Al,vP Ar]
 ·have Al:=A.l;have Ar:=A.r;have Ao:=A.role;have Aa:=A.a;have Ab:=A.b;have Alo:=A.lo;have Ahi:=A.hi;simp [k,kG] at Al Ar Ao Aa Ab Alo Ahi;refine hfin wA3 (by simp [yA,k]) (by decide) fun r1 L h o p=>?_;have ha:argX x=(4,wA2)::(1,[40])::(x.roles.map (fun r=>((4,owN r):Tx))++[(1,[41]),(4,owN x.role)]):=by simp [argX,k]
  rw [ha] at h;obtain ⟨q,a1,a2,a3,a4,a5⟩:=zM h58 x.op ⟨_,_,rfl,by simp⟩ n hn2 r1 _ h o p;simp only [List.cons_append,List.nil_append,List.append_assoc] at a2;obtain ⟨q0,z1,z2,z3,z4⟩:=zD a2 wA2;obtain ⟨q1,b1,b2,b3⟩:=lH z3 (w:=[40]) rfl;have hpre1:q1.pre=pre:=by rw [b3.pre];show q0.pre=_;rw [z4.pre,a3,p]
  have hfm:x.roles.flatMap (fun r=>([(4,owN r)]:List Tx))=x.roles.map (fun r=>((4,owN r):Tx)):=by
   have:∀l:List Rl,l.flatMap (fun r=>([(4,owN r)]:List Tx))=l.map (fun r=>((4,owN r):Tx)):=fun l=>by
    induction l with
    | nil=>rfl
    | cons a l ih=>simp [ih]
   exact this _
  obtain ⟨q2,c1,c2,c3⟩:=J6 (P:=P) (src:=src) (pre:=pre) (f:=nY src) x.roles (fun r=>[(4,owN r)]) (fun v hv=>acX (hnrs v hv)) id (fun _ _=>rfl) n [] q1 ((4,owN x.role)::(1,[41])::L) (by rw [ha] at hlen;simp at hlen;omega) (by simp;omega) hpre1 (by rw [hfm];exact b2);obtain ⟨q3,d1,d2,d3⟩:=lH c2 (w:=[41]) rfl;obtain ⟨q4,e1,e2,e3⟩:=rG d2 (by rw [d3.pre,c3.pre,hpre1];exact hnr Ao)
  have hne:x.roles.isEmpty=false:=by
   cases hh:x.roles with
   | nil=>rw [hh] at Alo;simp at Alo
   | cons=>rfl
  refine ⟨q4, ?_,e2, ?_, ?_, ?_⟩
  ·simp [EH,Yr,a1,z1,b1,c1,d1,e1,zA,k,hne,Aa,Ab,vP Al,vP Ar]
  ·rw [e3.pre,d3.pre,c3.pre,b3.pre];show q0.pre=_;rw [z4.pre,a3]
  ·rw [e3.iri,d3.iri,c3.iri,b3.iri];show q0.iri=_;rw [z4.iri,a4]
  ·rw [e3.op,d3.op,c3.op,b3.op];show q0.op=_;rw [z4.op,a5]
 ·have Al:=A.l;have Ar:=A.r;have Ao:=A.role;have Aa:=A.a;have Ab:=A.b;have Alo:=A.lo;have Ahi:=A.hi;simp [k,kG] at Al Ar Ao Aa Ab Alo Ahi;have hro:x.roles=[]:=Ahi;refine hfin wA9 (by simp [yA,k]) (by decide) fun r1 L h o p=>?_;have ha:argX x=[(4,owN x.role)]:=by simp [argX,k]
  rw [ha] at h;obtain ⟨q,a1,a2,a3,a4,a5⟩:=zM h58 x.op ⟨_,_,rfl,CJ x.role _ (by simp)⟩ n hn2 r1 _ h o p;rw [List.cons_append] at a2;obtain ⟨q1,b1,b2,b3⟩:=rG a2 (by rw [a3,p];exact hnr Ao);refine ⟨q1, ?_,b2,by rw [b3.pre,a3],by rw [b3.iri,a4],by rw [b3.op,a5]⟩;simp [EH,aaR,a1,b1,zA,k,hro,Aa,Ab,vP Al,vP Ar]
 ·have Al:=A.l;have Ar:=A.r;have Ao:=A.role;have Aa:=A.a;have Ab:=A.b;have Alo:=A.lo;have Ahi:=A.hi;simp [k,kG] at Al Ar Ao Aa Ab Alo Ahi;have hro:x.roles=[]:=Ahi;have p2:=Bl (P:=P) (src:=src) ho hx x.right (hvr Ar.1) n (by unfold argX at hlen;simp [k] at hlen;omega);refine hfin wB7 (by simp [yA,k]) (by decide) fun r1 L h o p=>?_;have ha:argX x=jR x.right++[(4,owN x.a)]:=by simp [argX,k]
  rw [ha] at h;obtain ⟨t,T',e⟩:=JS p2;obtain ⟨q,a1,a2,a3,a4,a5⟩:=zM h58 x.op ⟨t,T'++[(4,owN x.a)],by rw [e];rfl,Gm x.right (hvr Ar.1) t (by rw [e];rfl)⟩ n hn2 r1 _ h o p;rw [List.append_assoc] at a2;obtain ⟨q1,b1,b2,b3⟩:=p2.2.2 q _ a2 (a3.trans p);obtain ⟨q2,c1,c2,c3⟩:=rG b2 (by rw [b3.pre,a3,p];exact hna Aa);refine ⟨q2, ?_,c2,by rw [c3.pre,b3.pre,a3],by rw [c3.iri,b3.iri,a4],by rw [c3.op,b3.op,a5]⟩;simp [EH,aaA,a1,b1,c1,zA,k,hro,Ao,Ab,vP Al]
 ·have Al:=A.l;have Ar:=A.r;have Ao:=A.role;have Aa:=A.a;have Ab:=A.b;have Alo:=A.lo;have Ahi:=A.hi;simp [k,kG] at Al Ar Ao Aa Ab Alo Ahi;have hro:x.roles=[]:=Ahi;refine hfin wB0 (by simp [yA,k]) (by decide) fun r1 L h o p=>?_;have ha:argX x=[(4,owN x.role),(4,owN x.a),(4,owN x.b)]:=by simp [argX,k]
  rw [ha] at h;obtain ⟨q,a1,a2,a3,a4,a5⟩:=zM h58 x.op ⟨_,_,rfl,CJ x.role _ (by simp)⟩ n hn2 r1 _ h o p;simp only [List.cons_append,List.nil_append] at a2;obtain ⟨q1,b1,b2,b3⟩:=rG a2 (by rw [a3,p];exact hnr Ao);obtain ⟨q2,c1,c2,c3⟩:=rG b2 (by rw [b3.pre,a3,p];exact hna Aa);obtain ⟨q3,d1,d2,d3⟩:=rG c2 (by rw [c3.pre,b3.pre,a3,p];exact hnb Ab);refine ⟨q3, ?_,d2,by rw [d3.pre,c3.pre,b3.pre,a3],by rw [d3.iri,c3.iri,b3.iri,a4],by rw [d3.op,c3.op,b3.op,a5]⟩;simp [EH,aa6,a1,b1,c1,d1,zA,k,hro,vP Al,vP Ar]
end
end Go.Ai.Z
namespace Go.Ai.Z
open Go.Lib (itoa decDigits)
def NW (v:Rl):Prop:=∀b∈v.head?,zJ b=false
theorem ac7 (v:Rl):NW (32::v):=by intro b hb;simp at hb;subst hb;decide
theorem ajY (v:Rl):NW (10::v):=by intro b hb;simp at hb;subst hb;decide
theorem ajX (v:Rl):NW (41::v):=by intro b hb;simp at hb;subst hb;decide
theorem ZL (v:Rl):NW (40::v):=by intro b hb;simp at hb;subst hb;decide
theorem ajW (v:Rl):NW (61::v):=by intro b hb;simp at hb;subst hb;decide
def aaD (b:UInt8):Bool:=UM b && !decide (b=60) && !decide (b=62)
structure ab6 (R:Rl→List Tx→Prop):Prop where
 blank:∀{c:UInt8} {v:Rl} {L:List Tx},c=32∨c=10→L≠[]→R v L→R (c::v) L
 word:∀{w v:Rl} {L:List Tx},w.all zJ=true→w≠[]→NW v→R v L→R (w++v) ((4,w)::L)
 sign:∀{c:UInt8} {v:Rl} {L:List Tx},c=40∨c=41∨c=61→R v L→R (c::v) ((1,[c])::L)
 caret:∀{v:Rl} {L:List Tx},R v L→R (94::94::v) ((1,[94,94])::L)
 iri:∀{p v:Rl} {L:List Tx},p.all I9=true→R v L→R (60::(p++62::v)) ((2,60::(p++[62]))::L)
 str:∀{p v:Rl} {L:List Tx},p.all aaD=true→R v L→R (34::(p++34::v)) ((3,34::(p++[34]))::L)
theorem ag5 {p:Rl} (h:p.all aaD=true):p.all UM=true:=by
 rw [List.all_eq_true] at h ⊢;intro b hb
 have:=h b hb
 unfold aaD at this;simp only [Bool.and_eq_true] at this;exact this.1.1
theorem ahy (P:Rl→Prop):ab6 (Ly P) where
 blank h hL hx:=by
  rename_i c v L
  cases L with
  | nil=>exact absurd rfl hL
  | cons t L=>exact adi h hx
 word hw hn hv h:=⟨_,afA hw hn hv,h⟩
 sign hc h:=⟨_,afB hc _,h⟩
 caret h:=⟨_,ac5 _,h⟩
 iri hp h:=⟨_,aht hp _,h⟩
 str hp h:=⟨_,ahr (ag5 hp) _,h⟩
def Pc (R:Rl→List Tx→Prop) (x:Rl) (T:List Tx):Prop:=T≠[]∧∀(v:Rl) (L:List Tx),NW v→R v L→R (x++v) (T++L)
section
variable {R:Rl→List Tx→Prop} (hR:ab6 R)
include hR
theorem vY {w:Rl} (hw:w.all zJ=true) (hn:w≠[]):Pc R w [(4,w)]:=⟨by simp,fun v L hv h=>hR.word hw hn hv h⟩
theorem ZH:∀(A:List (Rl×List Tx)),A≠[]→(∀p∈A,Pc R p.1 p.2)→Pc R (joinL [32] (A.map (·.1))) (A.flatMap (·.2))
 | [],h,_=>absurd rfl h
 | [p],_,h=>by
  have h1:=h p (by simp)
  simpa [joinL] using h1
 | p::q::A,_,h=>by
  have h1:=h p (by simp);have h2:=ZH (q::A) (by simp) (fun r hr=>h r (by simp [hr]));refine ⟨by simp [h1.1],fun v L hv hL=>?_⟩;have h3:=h2.2 v L hv hL;have hne:((q::A).flatMap (·.2))++L≠[]:=fun hh=>h2.1 (List.append_eq_nil_iff.1 hh).1;have h4:=h1.2 (32::(joinL [32] ((q::A).map (·.1))++v)) _ (ac7 _) (hR.blank (.inl rfl) hne h3);have e1:joinL [32] ((p::q::A).map (·.1))++v=p.1++32::(joinL [32] ((q::A).map (·.1))++v):=by simp [joinL]
  have e2:((p::q::A).flatMap (·.2))++L=p.2++(((q::A).flatMap (·.2))++L):=by simp
  rw [e1,e2];exact h4
theorem afj {w:Rl} (hw:w.all zJ=true) (hn:w≠[]) {x:Rl} {T:List Tx} (h:Pc R x T):Pc R (w++[40]++x++[41]) ((4,w)::(1,[40])::(T++[(1,[41])])):=by
 refine ⟨by simp,fun v L hv hL=>?_⟩;have h1:R (41::v) ((1,[41])::L):=hR.sign (.inr (.inl rfl)) hL;have h2:=h.2 (41::v) _ (ajX v) h1;have h3:R (40::(x++41::v)) ((1,[40])::(T++(1,[41])::L)):=hR.sign (.inl rfl) h2;have h4:=(vY hR hw hn).2 _ _ (ZL _) h3;have e1:w++[40]++x++[41]++v=w++40::(x++41::v):=by simp
 rw [e1]
 simpa using h4
theorem yZ {w:Rl} (hw:w.all zJ=true) (hn:w≠[]) (A:List (Rl×List Tx)) (hA:A≠[]) (h:∀p∈A,Pc R p.1 p.2):Pc R (lM w (A.map (·.1))) ((4,w)::(1,[40])::(A.flatMap (·.2)++[(1,[41])])):=
 afj hR hw hn (ZH hR A hA h)
omit hR in
theorem adB (n:Int):(itoa n).all aaD=true:=by
 have hd:∀u:Nat,(decDigits u).all aaD=true:=fun u=>by
  have:=Vx u
  rw [List.all_eq_true] at this ⊢;intro b hb;have h1:=(O8 b).1 (this b hb);unfold aaD UM stI;simp only [Bool.and_eq_true,decide_eq_true_eq,Bool.not_eq_true',decide_eq_false_iff_not]
  refine ⟨⟨by omega, ?_⟩, ?_⟩<;>(rintro rfl;revert h1;decide)
 unfold itoa;split
 ·rw [List.all_cons,hd];rfl
 ·exact hd _
theorem acW {w:Rl} (hw:w.all zJ=true) (hn:w≠[]) (n:Int):Pc R (AA w n) (QW w n):=by
 refine ⟨by simp [QW],fun v L hv hL=>?_⟩;have h1:=(vY hR (w:=wA0) (by decide) (by simp)).2 v L hv hL;have h2:R (94::94::(wA0++v)) ((1,[94,94])::(4,wA0)::L):=hR.caret h1;have h3:R (34::(itoa n++34::94::94::(wA0++v))) ((3,34::(itoa n++[34]))::(1,[94,94])::(4,wA0)::L):=hR.str (adB n) h2;have h4:=(vY hR hw hn).2 _ _ (ac7 _) (hR.blank (.inl rfl) (by simp) h3);have e1:AA w n++v=w++32::34::(itoa n++34::94::94::(wA0++v)):=by simp [AA,ttI]
 rw [e1];exact h4
theorem tK {n:Rl} (h:NmV n):Pc R (owN n) [(4,owN n)]:=vY hR (ZI h).1 (ZI h).2
omit hR in
theorem Pq {c:C} (h:iq c=0):kS c=true∧tC c=true∧∀p∈c.parts,iq p=0:=by
 rw [Cb] at h
 split at h
 ·cases h
 split at h
 ·cases h
 ·rename_i a b;refine ⟨by simpa using a,by simpa using b, ?_⟩
  have hL:∀l:List C,qZ l=0→∀p∈l,iq p=0:=fun l=>by
   induction l with
   | nil=>intro _ p hp;cases hp
   | cons a r ihr=>
    intro h p hp;simp only [qZ] at h
    split at h
    ·rename_i ha;rcases List.mem_cons.1 hp with rfl|hp
     ·exact ha
     ·exact ihr h p hp
    ·rename_i ha;exact absurd h ha
  exact hL _ h
omit hR in
theorem O3 {c:C} (h:tC c=true) (hk:c.kind=3∨c.kind=4∨c.kind=6∨c.kind=7):NmV c.name:=by
 unfold tC at h
 rcases hk with k|k|k|k<;>simp [k] at h
 ·exact .inl h
 ·exact h
 ·exact .inl h
 ·exact .inl h
theorem ET:∀c:C,iq c=0→Pc R (owC c) (jR c):=by
 refine C.ind' fun c ih hw=>?_;obtain ⟨hs,hn,hp⟩:=Pq hw;rw [BO,Gn];rcases UR hs with k|k|k|k|k|k|k
 ·simp only [k,if_true];exact vY hR (by decide) (by simp)
 ·simp only [k];exact vY hR (w:=wB1) (by decide) (by simp)
 ·simp only [k];exact tK hR (O3 hn (.inl k))
 ·simp only [k];exact yZ hR (w:=wB6) (by decide) (by simp) [(owN c.name,[(4,owN c.name)])] (by simp) (fun p hp=>by rw [List.mem_singleton.1 hp];exact tK hR (O3 hn (.inr (.inl k))))
 ·simp only [k]
  have hne:c.parts≠[]:=by
   have:=(Lu hs k).2.2.2
   intro h;rw [h] at this;simp at this
  have h1:=yZ hR (w:=wA5) (by decide) (by simp) (c.parts.map fun p=>(owC p,jR p)) (by simpa using hne) (fun p hp2=>by
   obtain ⟨d,hd,rfl⟩:=List.mem_map.1 hp2
   exact ih d hd (hp d hd))
  rw [List.map_map] at h1;have e2:(c.parts.map fun p=>(owC p,jR p)).flatMap (·.2)=c.parts.flatMap jR:=by rw [List.flatMap_map]
  rw [e2] at h1;exact h1
 ·obtain ⟨s1,s2,p,s3⟩:=PK hs k;simp only [k,s3]
  have h1:=yZ hR (w:=wA6) (by decide) (by simp) [(owN c.name,[(4,owN c.name)]),(owC p,jR p)] (by simp) (fun q hq=>by
   rcases List.mem_cons.1 hq with rfl|hq
   ·exact tK hR (O3 hn (.inr (.inr (.inl k))))
   ·rw [List.mem_singleton.1 hq];exact ih p (by rw [s3];simp) (hp p (by rw [s3];simp)))
  simpa using h1
 ·simp only [k]
  have h0:=yZ hR (w:=wA7) (by decide) (by simp) [(wA0,[(4,wA0)]),(AA wA1 c.lo,QW wA1 c.lo),(AA wA4 c.hi,QW wA4 c.hi)] (by simp) (fun q hq=>by
   rcases List.mem_cons.1 hq with rfl|hq
   ·exact vY hR (by decide) (by simp)
   rcases List.mem_cons.1 hq with rfl|hq
   ·exact acW hR (by decide) (by simp) _
   ·rw [List.mem_singleton.1 hq];exact acW hR (by decide) (by simp) _)
  have h1:=yZ hR (w:=wA8) (by decide) (by simp) [(owN c.name,[(4,owN c.name)]),(lM wA7 [wA0,AA wA1 c.lo,AA wA4 c.hi],_)] (by simp) (fun q hq=>by
   rcases List.mem_cons.1 hq with rfl|hq
   ·exact tK hR (O3 hn (.inr (.inr (.inr k))))
   ·rw [List.mem_singleton.1 hq];exact h0)
  simpa using h1
theorem afi:Pc R fM TS:=by
 refine ⟨by simp [TS],fun v L hv hL=>?_⟩;have h1:R (41::v) ((1,[41])::L):=hR.sign (.inr (.inl rfl)) hL;have h2:R (34::([116,114,117,101]++34::41::v)) ((3,wD2)::(1,[41])::L):=hR.str (by decide) h1;have h3:=(vY hR (w:=[58,111,112,101,110]) (by decide) (by simp)).2 _ _ (ac7 _) (hR.blank (.inl rfl) (by simp) h2);have h4:R (40::([58,111,112,101,110]++32::34::([116,114,117,101]++34::41::v))) ((1,[40])::([(4,[58,111,112,101,110])]++(3,wD2)::(1,[41])::L)):=hR.sign (.inl rfl) h3;have h5:=(vY hR (w:=wB9) (by decide) (by simp)).2 _ _ (ZL _) h4;exact h5
omit hR in
theorem agR (x:Ax) (h:AOK x):(yA x.kind).all zJ=true∧yA x.kind≠[]:=by
 rcases h.k with k|k|k|k|k|k|k|k|k<;>rw [k]<;>exact ⟨by decide,by decide⟩
theorem ajT {x:Ax} (hc:dW x=0):Pc R (owA x) (yh x):=by
 have A:=aok hc
 have hA:∃B:List (Rl×List Tx),B≠[]∧(∀p∈B,Pc R p.1 p.2)∧B.map (·.1)=y5 x∧B.flatMap (·.2)=argX x:=by
  rcases A.k with k|k|k|k|k|k|k|k|k
  ·have Al:=A.l;have Ar:=A.r;simp [k,kG] at Al Ar;exact ⟨[(owC x.left,jR x.left),(owC x.right,jR x.right)],by simp,by simpa using ⟨ET hR _ Al.1,ET hR _ Ar.1⟩,by simp [y5,k],by simp [argX,k]⟩
  ·have Al:=A.l;have Ar:=A.r;simp [k,kG] at Al Ar;exact ⟨[(owC x.left,jR x.left),(owC x.right,jR x.right)],by simp,by simpa using ⟨ET hR _ Al.1,ET hR _ Ar.1⟩,by simp [y5,k],by simp [argX,k]⟩
  ·have Al:=A.l;have Ar:=A.r;simp [k,kG] at Al Ar;exact ⟨[(owC x.left,jR x.left),(owC x.right,jR x.right)],by simp,by simpa using ⟨ET hR _ Al.1,ET hR _ Ar.1⟩,by simp [y5,k],by simp [argX,k]⟩
  ·have Ar:=A.r;have Ao:=A.role;simp [k,kG] at Ar Ao;exact ⟨[(owN x.role,[(4,owN x.role)]),(owC x.right,jR x.right)],by simp,by simpa using ⟨tK hR Ao,ET hR _ Ar.1⟩,by simp [y5,k],by simp [argX,k]⟩
  ·have Ao:=A.role;have Alo:=A.lo;have Ahi:=A.hi;simp [k,kG] at Ao Alo Ahi;obtain ⟨r0,hro⟩:∃r0,x.roles=[r0]:=List.length_eq_one_iff.1 (by omega);exact ⟨[(owN r0,[(4,owN r0)]),(owN x.role,[(4,owN x.role)])],by simp,by simpa using ⟨tK hR (A.rs r0 (by rw [hro];simp)),tK hR Ao⟩,by simp [y5,k,hro],by simp [argX,k,hro]⟩
  ·have Ao:=A.role;have Alo:=A.lo;have Ahi:=A.hi;simp [k,kG] at Ao Alo Ahi;have hne:x.roles≠[]:=by intro h;rw [h] at Alo;simp at Alo
   have h0:=yZ hR (w:=wA2) (by decide) (by simp) (x.roles.map fun r=>(owN r,[(4,owN r)])) (by simpa using hne) (fun q hq=>by
    obtain ⟨r,hr,rfl⟩:=List.mem_map.1 hq
    exact tK hR (A.rs r hr))
   rw [List.map_map,List.flatMap_map] at h0
   have hfm:x.roles.flatMap (fun r=>([(4,owN r)]:List Tx))=x.roles.map (fun r=>((4,owN r):Tx)):=by
    have:∀l:List Rl,l.flatMap (fun r=>([(4,owN r)]:List Tx))=l.map (fun r=>((4,owN r):Tx)):=fun l=>by
     induction l with
     | nil=>rfl
     | cons a l ih=>simp [ih]
    exact this _
   refine ⟨[(lM wA2 (x.roles.map owN),(4,wA2)::(1,[40])::(x.roles.map (fun r=>((4,owN r):Tx))++[(1,[41])])),(owN x.role,[(4,owN x.role)])],by simp, ?_,by simp [y5,k],by simp [argX,k]⟩;intro q hq;rcases List.mem_cons.1 hq with rfl|hq
   ·rw [←hfm];exact h0
   ·rw [List.mem_singleton.1 hq];exact tK hR Ao
  ·have Ao:=A.role;simp [k,kG] at Ao;exact ⟨[(owN x.role,[(4,owN x.role)])],by simp,by simpa using tK hR Ao,by simp [y5,k],by simp [argX,k]⟩
  ·have Ar:=A.r;have Aa:=A.a;simp [k,kG] at Ar Aa;exact ⟨[(owC x.right,jR x.right),(owN x.a,[(4,owN x.a)])],by simp,by simpa using ⟨ET hR _ Ar.1,tK hR Aa⟩,by simp [y5,k],by simp [argX,k]⟩
  ·have Ao:=A.role;have Aa:=A.a;have Ab:=A.b;simp [k,kG] at Ao Aa Ab;exact ⟨[(owN x.role,[(4,owN x.role)]),(owN x.a,[(4,owN x.a)]),(owN x.b,[(4,owN x.b)])],by simp,by simpa using ⟨tK hR Ao,tK hR Aa,tK hR Ab⟩,by simp [y5,k],by simp [argX,k]⟩
 obtain ⟨B,h1,h2,h3,h4⟩:=hA;obtain ⟨w1,w2⟩:=agR x A;unfold owA yh iw WH;rw [←h3,←h4]
 cases x.op with
 | false=>
  simpa using yZ hR w1 w2 B h1 h2
 | true=>
  have:=yZ hR w1 w2 ((fM,TS)::B) (by simp) (fun q hq=>by
   rcases List.mem_cons.1 hq with rfl|hq
   ·exact afi hR
   ·exact h2 q hq)
  simpa using this
end
end Go.Ai.Z
namespace Go.Ai.Z
section
variable {R:Rl→List Tx→Prop} (hR:ab6 R)
include hR
theorem OZ {w u:Rl} (hw:w.all zJ=true) (hn:w≠[]) (hu:u.all I9=true):Pc R (wC6++w++[61,60]++u++[62,41]) (yc w (60::(u++[62]))):=by
 refine ⟨by simp [yc],fun v L hv hL=>?_⟩;have h1:R (41::v) ((1,[41])::L):=hR.sign (.inr (.inl rfl)) hL;have h2:R (60::(u++62::41::v)) ((2,60::(u++[62]))::(1,[41])::L):=hR.iri hu h1;have h3:R (61::60::(u++62::41::v)) ((1,[61])::(2,60::(u++[62]))::(1,[41])::L):=hR.sign (.inr (.inr rfl)) h2;have h4:=(vY hR hw hn).2 _ _ (ajW _) h3;have h5:R (40::(w++61::60::(u++62::41::v))) ((1,[40])::([(4,w)]++(1,[61])::(2,60::(u++[62]))::(1,[41])::L)):=hR.sign (.inl rfl) h4;have h6:=(vY hR (w:=wC0) (by decide) (by simp)).2 _ _ (ZL _) h5;have e:wC6++w++[61,60]++u++[62,41]++v=wC0++40::(w++61::60::(u++62::41::v)):=by simp
 rw [e];exact h6
theorem ahn:Pc R YB [(4,wC3),(1,[40])]:=by
 refine ⟨by simp,fun v L hv hL=>?_⟩;have h1:R (40::v) ((1,[40])::L):=hR.sign (.inl rfl) hL;exact (vY hR (w:=wC3) (by decide) (by simp)).2 _ _ (ZL _) h1
theorem WV:∀(A:List (Rl×List Tx)),(∀p∈A,Pc R p.1 p.2)→∀(v:Rl) (L:List Tx),L≠[]→R v L→R (uO (A.map (·.1))++v) (A.flatMap (·.2)++L)
 | [],_,v,L,_,h=>h
 | p::A,hA,v,L,hL,h=>by
  have h1:=WV A (fun q hq=>hA q (by simp [hq])) v L hL h;have hne:A.flatMap (·.2)++L≠[]:=fun hh=>hL (List.append_eq_nil_iff.1 hh).2;have h2:=(hA p (by simp)).2 _ _ (ajY _) (hR.blank (.inr rfl) hne h1);have e1:uO ((p::A).map (·.1))++v=p.1++10::(uO (A.map (·.1))++v):=by simp [uO]
  have e2:(p::A).flatMap (·.2)++L=p.2++(A.flatMap (·.2)++L):=by simp
  rw [e1,e2];exact h2
end
def U6:Rl:=wC8
def UF:Rl:=wC5
def U5 (p w:Rl):List Tx:=yc (w++[58]) (60::((p++w++[47])++[62]))
def hdX (p:Rl):List Tx:=yc [58] (60::(p++[62]))
def aej (p:Rl) (W:List Rl) (l:List Ax):List Tx:=yc [111,119,108,58] (60::(U6++[62]))++yc [120,115,100,58] (60::(UF++[62]))++W.flatMap (U5 p)++[(4,wC3),(1,[40])]++l.flatMap yh++[(1,[41])]
def QY (p:Rl) (W:List Rl) (l:List Ax):List Tx:=hdX p++aej p W l
def XD (p:Rl) (W:List Rl) (l:List Ax):List (Rl×List Tx):=([(OG p,hdX p),(QJ,yc [111,119,108,58] (60::(U6++[62]))),(QI,yc [120,115,100,58] (60::(UF++[62])))]++W.map (fun w=>(GL p w,U5 p w))++[(YB,[(4,wC3),(1,[40])])]++l.map (fun x=>(owA x,yh x)))
structure WdP (w:Rl):Prop where
 word:Ak w=true
 iri:w.all I9=true
 owl:w≠[111,119,108]
 xsd:w≠[120,115,100]
theorem ae1 {b:UInt8} (h:zJ b=true):I9 b=true:=by
 unfold zJ wdI ltI at h;unfold I9 Xh;simp only [Bool.or_eq_true,Bool.and_eq_true,decide_eq_true_eq] at h ⊢;omega
theorem wdP {w:Rl} (h:Ak w=true) (h1:w≠[111,119,108]) (h2:w≠[120,115,100]):WdP w:=by
 obtain ⟨_,k,_,_⟩:=uh h;refine ⟨h, ?_,h1,h2⟩;rw [List.all_eq_true] at k ⊢;exact fun b hb=>ae1 (k b hb)
theorem afY {R:Rl→List Tx→Prop} (hR:ab6 R) {p:Rl} (hp:p.all I9=true) {W:List Rl} (hW:∀w∈W,WdP w) {l:List Ax} (hl:∀x∈l,dW x=0):∀q∈XD p W l,Pc R q.1 q.2:=fun q hq=>by
 have hh1:OG p=wC6++[58]++[61,60]++p++[62,41]:=by simp [OG]
 have hh2:QJ=wC6++[111,119,108,58]++[61,60]++U6++[62,41]:=rfl;have hh3:QI=wC6++[120,115,100,58]++[61,60]++UF++[62,41]:=rfl;have hpl:∀w,GL p w=wC6++(w++[58])++[61,60]++(p++w++[47])++[62,41]:=fun w=>by simp [GL]
 unfold XD at hq;simp only [List.mem_append,List.mem_cons,List.not_mem_nil,or_false,List.mem_map] at hq;rcases hq with ((((rfl|rfl|rfl)|⟨w,hw,rfl⟩)|rfl)|⟨x,hx,rfl⟩)
 ·rw [hh1];exact OZ hR (by decide) (by simp) hp
 ·rw [hh2];exact OZ hR (by decide) (by simp) (by decide)
 ·rw [hh3];exact OZ hR (by decide) (by simp) (by decide)
 ·show Pc _ (GL p w) (U5 p w);rw [hpl];obtain ⟨k1,k2,k3,_⟩:=uh (hW w hw).word;refine OZ hR (by rw [List.all_append,k2];decide) (by simp) ?_;rw [List.all_append,List.all_append,hp,(hW w hw).iri];decide
 ·exact ahn hR
 ·exact ajT hR (hl x hx)
theorem Y6 (p:Rl) (W:List Rl) (l:List Ax):Ju p W l=uO ((XD p W l).map (·.1))++[41,10]:=by
 unfold Ju Y7 XD;simp [Fz,uO,List.map_map,Function.comp_def]
theorem Y5 (p:Rl) (W:List Rl) (l:List Ax):QY p W l=((XD p W l).flatMap (·.2))++[(1,[41])]:=by
 unfold QY aej XD;simp [List.flatMap_append,List.flatMap_map]
theorem afE {R:Rl→List Tx→Prop} (hR:ab6 R) {z:Rl} (hend:R z []) {p:Rl} (hp:p.all I9=true) {W:List Rl} (hW:∀w∈W,WdP w) {l:List Ax} (hl:∀x∈l,dW x=0):R (uO ((XD p W l).map (·.1))++41::z) (QY p W l):=by
 rw [Y5];exact WV hR (XD p W l) (afY hR hp hW hl) (41::z) [(1,[41])] (by simp) (hR.sign (.inr (.inl rfl)) hend)
theorem ahz {R:Rl→List Tx→Prop} (hR:ab6 R) (hend:R [10] []) {p:Rl} (hp:p.all I9=true) {W:List Rl} (hW:∀w∈W,WdP w) {l:List Ax} (hl:∀x∈l,dW x=0):R (Ju p W l) (QY p W l):=by
 rw [Y6];exact afE hR hend hp hW hl
theorem afe (v:Rl):(skp v).length≤v.length:=by unfold skp;rw [List.length_drop];omega
theorem ahs {v w:Rl} {t:Tx} (h:Nx v t w):w.length+1≤v.length:=by
 obtain ⟨h1,h2,_⟩:=h
 have:=afe v
 rw [h1,List.length_append] at this
 have:t.2.length≠0:=fun hc=>h2 (List.length_eq_zero_iff.1 hc)
 omega
theorem adh {P:Rl→Prop}:∀(L:List Tx) (v:Rl),Ly P v L→L.length≤v.length
 | [],v,_=>by simp
 | t::L,v,⟨w,h1,h2⟩=>by
  have:=ahs h1
  have:=adh L w h2
  simp;omega
def ah4 (w:Rl):Prop:=∃x,w=x++[58]∧(58:UInt8) ∉ x∧(x=[]∨∃c r,x=c::r∧ltI c.toNat=true)
theorem ZG {w:Rl} (h:ah4 w) {pre:List Rl} (hn:w ∉ pre) (a:Nat):Ov pre (4,w,a)=true:=by
 obtain ⟨x,rfl,h1,h2⟩:=h
 have hc:lD 58 (x++[58])=some (x,[]):=by
  have:∀x:Rl,(58:UInt8) ∉ x→lD 58 (x++[58])=some (x,[]):=fun x=>by
   induction x with
   | nil=>intro _;simp [lD]
   | cons c r ih=>
    intro hx;simp only [List.mem_cons,not_or] at hx;simp [lD,Ne.symm hx.1,ih hx.2]
  exact this x h1
 have hi:=DY hc;unfold Ov;simp only [hi];rcases h2 with rfl|⟨c,r,rfl,hl⟩
 ·simpa using hn
 ·simp [hl]
  simpa using hn
theorem ZQ {P:Rl→Prop} {src:Rl}:∀(I:List (Rl×Rl)) (k:Nat) (r:Rd) (t:Tx) (L:List Tx),I.length<k→(∀p∈I,ah4 p.1∧p.1≠[58]∧∀a,zS p.1 (2,p.2,a)=true)→(I.map (·.1)).Nodup→(∀p∈I,p.1 ∉ r.pre)→t.2≠wC0→
  My P src r (I.flatMap (fun p=>yc p.1 p.2)++t::L)→∃q,Bj src k r=.ok () q∧My P src q (t::L)∧q.pre=r.pre++I.map (·.1)∧q.iri=r.iri
 | [],k,r,t,L,hk,_,_,_,ht,h=>by
  obtain ⟨k,rfl⟩:∃j,k=j+1:=⟨k - 1,by simp at hk;omega⟩;obtain ⟨q,h1,h2,h3,h4⟩:=zD h wC0;rw [decide_eq_false ht] at h1;exact ⟨q,by unfold Bj;rw [h1];simp,h2,by simp [h4.pre],h4.iri⟩
 | p::I,k,r,t,L,hk,hI,hnd,hnm,ht,h=>by
  obtain ⟨k,rfl⟩:∃j,k=j+1:=⟨k - 1,by simp at hk;omega⟩;rw [List.flatMap_cons,List.append_assoc] at h;have h':=h;rw [show yc p.1 p.2=(4,wC0)::[(1,[40]),(4,p.1),(1,[61]),(2,p.2),(1,[41])] from rfl,List.cons_append] at h';obtain ⟨q,h1,h2,h3,h4⟩:=zD h' wC0;obtain ⟨g1,g2,g3⟩:=hI p (by simp);have hnq:p.1 ∉ q.pre:=by rw [h4.pre];exact hnm p (by simp)
  obtain ⟨q1,a1,a2,a3,a4⟩:=ZR (src:=src) (P:=P) (r:=q) (w:=p.1) (u:=p.2) (by exact h2) (fun a=>ZG g1 hnq a) g3;have hadd:q1.pre=r.pre++[p.1]:=by rw [a3];unfold qH;rw [if_neg hnq,h4.pre]
  rw [List.map_cons,List.nodup_cons] at hnd
  obtain ⟨q2,b1,b2,b3,b4⟩:=ZQ I k q1 t L (by simp at hk;omega) (fun u hu=>hI u (by simp [hu])) hnd.2 (fun u hu=>by
   rw [hadd,List.mem_append,not_or];refine ⟨hnm u (by simp [hu]), ?_⟩;rw [List.mem_singleton];intro e
   exact hnd.1 (by rw [←e];exact List.mem_map.2 ⟨u,hu,rfl⟩)) ht a2
  refine ⟨q2, ?_,b2,by rw [b3,hadd];simp,by rw [b4,a4,if_neg g2,h4.iri]⟩;unfold Bj;rw [h1,decide_eq_true rfl];simp only [OR.bind_ok,if_true,a1,b1]
def dcl (W:List Rl):List Rl:=[58]::[111,119,108,58]::[120,115,100,58]::W.map (·++[58])
theorem aeh {src p:Rl} {W:List Rl} {l:List Ax} {N:Nat} (h:Ly NxE src (QY p W l)) (hW:∀w∈W,WdP w) (hnd:W.Nodup) (hl:∀x∈l,dW x=0) (hll:l.length≤1024) (hd:∀x∈l,∀n∈nmX x,aeS (dcl W) n):
  ∃r,KT src (src.length+1) N r00=.ok (l.map zA) r∧r.iri=p:=by
 have hlen:=adh _ _ h;have h0:My NxE src r00 (QY p W l):=h
 have hX:QY p W l=hdX p++((yc [111,119,108,58] (60::(U6++[62]))++yc [120,115,100,58] (60::(UF++[62]))++W.flatMap (U5 p))++(4,wC3)::((1,[40])::(l.flatMap yh++[(1,[41])]))):=by
  unfold QY aej;simp
 have hI:yc [111,119,108,58] (60::(U6++[62]))++yc [120,115,100,58] (60::(UF++[62]))++W.flatMap (U5 p)=(([111,119,108,58],60::(U6++[62]))::([120,115,100,58],60::(UF++[62]))::W.map (fun w=>(w++[58],60::((p++w++[47])++[62])))).flatMap (fun p=>yc p.1 p.2):=by
  rw [List.flatMap_cons,List.flatMap_cons,List.flatMap_map,List.append_assoc];rfl
 have hWl:W.length≤(W.flatMap (U5 p)).length:=by
  have:∀W:List Rl,W.length≤(W.flatMap (U5 p)).length:=fun W=>by
   induction W with
   | nil=>simp
   | cons w W ih=>simp only [List.flatMap_cons,List.length_append,List.length_cons,U5,yc] at ih ⊢;omega
  exact this W
 have hll2:∀x∈l,(yh x).length≤(l.flatMap yh).length:=fun x hx=>by
  have:∀l:List Ax,x∈l→(yh x).length≤(l.flatMap yh).length:=fun l=>by
   induction l with
   | nil=>intro hh;cases hh
   | cons y l ih=>
    intro hh;rw [List.flatMap_cons,List.length_append];rcases List.mem_cons.1 hh with rfl|hh
    ·omega
    ·have:=ih hh;omega
  exact this l hx
 have hln:l.length≤(l.flatMap yh).length:=by
  have:∀l:List Ax,l.length≤(l.flatMap yh).length:=fun l=>by
   induction l with
   | nil=>simp
   | cons y l ih=>rw [List.flatMap_cons,List.length_append];simp only [yh,List.length_cons] at ih ⊢;omega
  exact this l
 have hlenX:(hdX p).length+(W.flatMap (U5 p)).length+(l.flatMap yh).length≤src.length:=by rw [hX] at hlen;simp at hlen ⊢;omega
 rw [hX] at h0
 -- the first prefix
 have h0':=h0;rw [show hdX p=(4,wC0)::[(1,[40]),(4,[58]),(1,[61]),(2,60::(p++[62])),(1,[41])] from rfl,List.cons_append] at h0';obtain ⟨q0,a1,a2,a3,a4⟩:=zD h0' wC0;obtain ⟨q1,b1,b2,b3,b4⟩:=ZR (src:=src) (P:=NxE) (r:=q0) (w:=[58]) (u:=60::(p++[62])) (by exact a2) (fun a=>ZG ⟨[],rfl,by simp,.inl rfl⟩ (by rw [a4.pre];simp [r00]) a) (fun a=>by simp [zS]);have hq1:q1.pre=[[58]]:=by rw [b3,a4.pre];rfl
 have hi1:q1.iri=p:=by rw [b4,if_pos rfl];exact adI 60 62 p
 rw [hI] at b2
 have hpw:∀w∈W,ah4 (w++[58]):=fun w hw=>by
  obtain ⟨_,_,k3,c,r,k4,k5⟩:=uh (hW w hw).word;exact ⟨w,rfl,k3,.inr ⟨c,r,k4,k5⟩⟩
 have hwo:∀w:Rl,(w++[58]:Rl)=[111,119,108,58]→w=[111,119,108]:=fun w h=>by
  have:(w++[58]:Rl)=[111,119,108]++[58]:=h
  exact List.append_cancel_right this
 have hwx:∀w:Rl,(w++[58]:Rl)=[120,115,100,58]→w=[120,115,100]:=fun w h=>by
  have:(w++[58]:Rl)=[120,115,100]++[58]:=h
  exact List.append_cancel_right this
 have hfst:((([111,119,108,58],60::(U6++[62]))::([120,115,100,58],60::(UF++[62]))::W.map (fun w=>(w++[58],60::((p++w++[47])++[62])))).map (·.1):List Rl)=[111,119,108,58]::[120,115,100,58]::W.map (·++[58]):=by simp [Function.comp_def]
 obtain ⟨n,hn⟩:∃n,src.length+1=n+1:=⟨src.length,rfl⟩
 obtain ⟨q2,c1,c2,c3,c4⟩:=ZQ (P:=NxE) (src:=src) (([111,119,108,58],60::(U6++[62]))::([120,115,100,58],60::(UF++[62]))::W.map (fun w=>(w++[58],60::((p++w++[47])++[62])))) src.length q1 (4,wC3) ((1,[40])::(l.flatMap yh++[(1,[41])])) (by have h6:(hdX p).length=6:=rfl;simp only [List.length_cons,List.length_map];omega)
  (fun u hu=>by
   rcases List.mem_cons.1 hu with rfl|hu
   ·exact ⟨⟨[111,119,108],rfl,by simp,.inr ⟨_,_,rfl,by decide⟩⟩,by simp,fun a=>by simp [zS,U6]⟩
   rcases List.mem_cons.1 hu with rfl|hu
   ·exact ⟨⟨[120,115,100],rfl,by simp,.inr ⟨_,_,rfl,by decide⟩⟩,by simp,fun a=>by simp [zS,UF]⟩
   ·obtain ⟨w,hw,rfl⟩:=List.mem_map.1 hu;refine ⟨hpw w hw,fun e=>?_,fun a=>?_⟩
    ·have:w=[]:=by simpa using e
     exact (uh (hW w hw).word).1 this
    ·have k1:¬(w++[58]:Rl)=[111,119,108,58]:=fun e=>(hW w hw).owl (hwo w e);have k2:¬(w++[58]:Rl)=[120,115,100,58]:=fun e=>(hW w hw).xsd (hwx w e)
     simp [zS,k1,k2])
  (by
   rw [hfst,List.nodup_cons,List.nodup_cons];refine ⟨?_, ?_, ?_⟩
   ·simp only [List.mem_cons,not_or,List.mem_map,not_exists,not_and];exact ⟨by simp,fun w hw e=>(hW w hw).owl (hwo w e)⟩
   ·simp only [List.mem_map,not_exists,not_and];exact fun w hw e=>(hW w hw).xsd (hwx w e)
   ·exact List.Pairwise.map _ (fun a b hab e=>hab (List.append_cancel_right e)) hnd)
  (fun u hu=>by
   rw [hq1,List.mem_singleton];rcases List.mem_cons.1 hu with rfl|hu
   ·simp
   rcases List.mem_cons.1 hu with rfl|hu
   ·simp
   ·obtain ⟨w,hw,rfl⟩:=List.mem_map.1 hu;intro e
    have:w=[]:=by simpa using e
    exact (uh (hW w hw).word).1 this)
  (by simp) b2
 have hpre2:q2.pre=dcl W:=by rw [c3,hq1,hfst];rfl
 obtain ⟨q3,d1,d2,d3,d4⟩:=zD c2 wC3;obtain ⟨q4,e1,e2,e3⟩:=lH d3 (w:=[40]) rfl;have hpre4:q4.pre=dcl W:=by rw [e3.pre];show q3.pre=_;rw [d4.pre,hpre2]
 -- no IRI behind the sign
 have hf:∃q5,C9 src 2 q4=.ok () q5∧My NxE src q5 (l.flatMap yh++[(1,[41])])∧Fq q4 q5:=by
  have:∃t T,l.flatMap yh++[((1,[41]):Tx)]=t::T∧t.1≠2:=by
   cases l with
   | nil=>exact ⟨_,_,rfl,by simp⟩
   | cons x l=>exact ⟨(4,yA x.kind),_,rfl,by simp⟩
  obtain ⟨t,T,k1,k2⟩:=this;rw [k1] at e2;obtain ⟨a,q5,f1,f2,f3,f4⟩:=pY e2;refine ⟨q5, ?_,by rw [k1];exact f2,f4⟩;unfold C9;rw [f1];simp only [OR.bind_ok];rw [if_neg k2]
 obtain ⟨q5,f1,f2,f3⟩:=hf;have hI2:l.flatMap yh=(l.map fun x=>(yh x,[zA x])).flatMap (·.1):=by rw [List.flatMap_map]
 have hI3:(l.map fun x=>(yh x,[zA x])).flatMap (·.2)=l.map zA:=by
  rw [List.flatMap_map]
  have:∀l:List Ax,l.flatMap (fun x=>[zA x])=l.map zA:=fun l=>by
   induction l with
   | nil=>rfl
   | cons a l ih=>simp [ih]
  exact this l
 rw [hI2] at f2
 obtain ⟨q6,g1,g2,g3,g4⟩:=WL (P:=NxE) (src:=src) (n:=src.length+1) (N:=N) (pre:=dcl W) (l.map fun x=>(yh x,[zA x])) (fun u hu=>by
   obtain ⟨x,hx,rfl⟩:=List.mem_map.1 hu;refine ⟨⟨_,_,rfl, ?_⟩,fun l0 r L h1 h2 h3=>?_⟩
   ·have A:=aok (hl x hx)
    rcases A.k with k|k|k|k|k|k|k|k|k<;>rw [k]<;>decide
   ·exact adD (pre:=dcl W) (by simp [dcl]) (by simp [dcl]) (by simp [dcl]) (hl x hx) (hd x hx) (by have:=hll2 x hx;omega) l0 (by simpa using h1) r L h2 h3)
  (src.length+1) [] q5 [] (by simp;omega) (by rw [hI3];simpa using hll) (f3.pre.trans hpre4) f2
 rw [hI3] at g1;obtain ⟨a8,q8,j1,j2⟩:=ahx g2;refine ⟨q8, ?_, ?_⟩
 ·have hpr:Bj src (src.length+1) r00=.ok () q2:=by
   unfold Bj;rw [a1,decide_eq_true rfl];simp only [OR.bind_ok,if_true,b1,c1]
  have h58:([58]:Rl)∈q3.pre:=by rw [d4.pre,hpre2];simp [dcl]
  unfold KT;rw [hpr];simp only [OR.bind_ok,d1,h58,decide_true,Bool.and_self,o8,e1,f1,g1,j1];simp
 ·rw [j2.iri];show q6.iri=_;rw [g3,f3.iri,e3.iri];show q3.iri=_;rw [d4.iri,c4,hi1]
end Go.Ai.Z
namespace Go.Ai.Z
theorem zN {v:V4} {n:Rl}:n∈v.all ↔ n∈v.c∨n∈v.r∨n∈v.f∨n∈v.i:=by
 unfold V4.all;simp only [List.mem_append,or_assoc]
theorem aeL {v:V4} {c:C} {n:Rl} (h:n∈v.all):n∈(v.add c).all:=by
 rw [zN] at h ⊢;unfold V4.add;split
 ·simp only [jc];rcases h with h|h|h|h<;>simp [h]
 split
 ·simp only [jc];rcases h with h|h|h|h<;>simp [h]
 split
 ·simp only [jc];rcases h with h|h|h|h<;>simp [h]
 split
 ·simp only [jc];rcases h with h|h|h|h<;>simp [h]
 ·exact h
theorem agj {v:V4} {c:C} (hk:c.kind=3∨c.kind=4∨c.kind=6∨c.kind=7):c.name∈(v.add c).all:=by
 rw [zN];unfold V4.add
 rcases hk with k|k|k|k<;>simp [k,jc]
theorem JD {n:Rl}:∀(c:C) (v:V4),n∈v.all→n∈(nT c v).all:=by
 refine C.ind' fun c ih v h=>?_;rw [Ba]
 have hL:∀(l:List C),(∀p∈l,∀v:V4,n∈v.all→n∈(nT p v).all)→∀v:V4,n∈v.all→n∈(xg l v).all:=fun l=>by
  induction l with
  | nil=>intro _ v hv;simpa [xg] using hv
  | cons a r ihr=>intro hp v hv;rw [xg];exact ihr (fun p hp2=>hp p (by simp [hp2])) _ (hp a (by simp) v hv)
 exact hL _ ih _ (aeL h)
theorem aci {n:Rl} (hn:n≠[]):∀(c:C),iq c=0→∀v:V4,n∈nmC c→n∈(nT c v).all:=by
 refine C.ind' fun c ih hw v h=>?_;obtain ⟨h1,h2,h3⟩:=Pq hw
 have hmL:∀(l:List C) (v:V4),n∈v.all→n∈(xg l v).all:=fun l=>by
  induction l with
  | nil=>intro v hv;simpa [xg] using hv
  | cons a r ihr=>intro v hv;rw [xg];exact ihr _ (JD a v hv)
 rw [Ba];rw [YG] at h;rcases List.mem_cons.1 h with h|h
 ·subst h;refine hmL _ _ (agj ?_);rcases UR h1 with k|k|k|k|k|k|k
  ·exact absurd ((zY h1 (.inl k)).2.2.2 (.inl k)) hn
  ·exact absurd ((zY h1 (.inr (.inl k))).2.2.2 (.inr k)) hn
  ·exact .inl k
  ·exact .inr (.inl k)
  ·exact absurd (Lu h1 k).2.2.1 hn
  ·exact .inr (.inr (.inl k))
  ·exact .inr (.inr (.inr k))
 ·obtain ⟨p,hp,hq⟩:=List.mem_flatMap.1 h
  have hL:∀(l:List C),(∀q∈l,∀v:V4,n∈nmC q→n∈(nT q v).all)→p∈l→∀v:V4,n∈(xg l v).all:=fun l=>by
   induction l with
   | nil=>intro _ hp;cases hp
   | cons a r ihr=>
    intro hall hp v;rw [xg];rcases List.mem_cons.1 hp with rfl|hp
    ·exact hmL r _ (hall _ (by simp) v hq)
    ·exact ihr (fun q hq2=>hall q (by simp [hq2])) hp _
  exact hL c.parts (fun q hq2 v hv=>ih q hq2 (h3 q hq2) v hv) hp _
theorem aef {c:C} (h:emptyS c=true):∀n∈nmC c,n=[]:=by
 unfold emptyS at h;simp only [Bool.and_eq_true,decide_eq_true_eq] at h;have h6:c.parts=[]:=List.length_eq_zero_iff.1 (by omega);intro n hn;rw [YG,h6] at hn;simp at hn;rw [hn,h.1.1.1.2]
theorem Qo {rs:List Rl}:∀{V:List Rl} {n:Rl},n∈V∨n∈rs→n∈Eg V rs:=by
 induction rs with
 | nil=>intro V n h;simpa [Eg] using h
 | cons r rs ih=>
  intro V n h;rw [Eg];refine ih ?_;rw [jc];rcases h with h|h
  ·exact .inl (.inr h)
  ·rcases List.mem_cons.1 h with h|h
   ·exact .inl (.inl h)
   ·exact .inr h
theorem aaz {n:Rl} (x:Ax) (v:V4) (h:n∈v.all):n∈(Lr x v).all:=by
 have h2:=JD x.right _ (JD x.left v h);rw [zN] at h2 ⊢;unfold Lr;simp only;rcases h2 with h|h|h|h
 ·exact .inl h
 ·exact .inr (.inl (jc.2 (.inr (Qo (.inl h)))))
 ·exact .inr (.inr (.inl h))
 ·exact .inr (.inr (.inr (jc.2 (.inr (jc.2 (.inr h))))))
theorem ae7 {n:Rl} (hn:n≠[]) {x:Ax} (hx:x.Vd) (v:V4) (h:n∈nmX x):n∈(Lr x v).all:=by
 have hside:∀c:C,(emptyS c=true∨iq c=0∧nN c≤64)→n∈nmC c→iq c=0:=fun c hc h=>by
  rcases hc with hc|hc
  ·exact absurd (aef hc n h) hn
  ·exact hc.1
 have hu:n∈(nT x.right (nT x.left v)).all→n∈(Lr x v).all:=fun h2=>by
  rw [zN] at h2 ⊢;unfold Lr;simp only;rcases h2 with h|h|h|h
  ·exact .inl h
  ·exact .inr (.inl (jc.2 (.inr (Qo (.inl h)))))
  ·exact .inr (.inr (.inl h))
  ·exact .inr (.inr (.inr (jc.2 (.inr (jc.2 (.inr h))))))
 unfold nmX at h;simp only [List.mem_append,List.mem_cons,List.not_mem_nil,or_false] at h;rcases h with ((h|h)|h)|h|h|h
 ·exact hu (JD _ _ (aci hn _ (hside _ hx.l h) v h))
 ·exact hu (aci hn _ (hside _ hx.r h) _ h)
 ·rw [zN];exact .inr (.inl (jc.2 (.inr (Qo (.inr h)))))
 ·rw [zN];exact .inr (.inl (jc.2 (.inl h)))
 ·rw [zN];exact .inr (.inr (.inr (jc.2 (.inr (jc.2 (.inl h))))))
 ·rw [zN];exact .inr (.inr (.inr (jc.2 (.inl h))))
theorem Nk {n:Rl}:∀(l:List Ax) (v:V4),n∈v.all→n∈(nU l v).all
 | [],v,h=>h
 | x::l,v,h=>Nk l _ (aaz x v h)
theorem Tm {n:Rl} (hn:n≠[]):∀(l:List Ax) (v:V4),(∀x∈l,x.Vd)→∀x∈l,n∈nmX x→n∈(nU l v).all
 | [],v,_,x,hx,_=>by cases hx
 | y::l,v,hv,x,hx,h=>by
  rw [nU];rcases List.mem_cons.1 hx with rfl|hx
  ·exact Nk l _ (ae7 hn (hv _ (by simp)) v h)
  ·exact Tm hn l _ (fun z hz=>hv z (by simp [hz])) x hx h
section
variable {l:List Ax} (hv:∀x∈l,x.Vd)
include hv
theorem ahu {n:Rl} (hn:n≠[]) {x:Ax} (hx:x∈l) (h:n∈nmX x):n∈Wu l:=by
 have h1:=Tm hn l V4.nil hv x hx h;have hE:=(Am hv Ve Vf).2.1;unfold Wu;rw [zN] at h1 ⊢;rw [←hE.c n hn,←hE.r n hn,←hE.f n hn,←hE.i n hn];exact h1
theorem ZP {n x y:Rl} (hn:Nd n) (hc:lD 58 n=some (x,y)):Ak x=true:=by
 rcases hn with rfl|h|h
 ·simp [lD] at hc
 ·unfold oJ at h;rw [Bool.and_eq_true,hc] at h;simp only [Bool.and_eq_true] at h;exact h.2.1
 ·unfold LD at h;simp only [Bool.and_eq_true] at h;rw [Q9 (JG h.2).2] at hc;cases hc
theorem ach:∀w∈kF l,Ak w=true:=fun w hw=>by
 obtain ⟨n,hn,h1,h2⟩:=(Zt hv).1 hw;have h3:n≠[]:=fun e=>by rw [e] at h1;exact h2 (h1 ▸ rfl)
 have hnd:=CU hv n ((Gt hv h3).2 hn);unfold Jz at h1
 cases hc:lD 58 n with
 | none=>rw [hc] at h1;exact absurd h1.symm h2
 | some p=>
  rw [hc] at h1;simp only at h1;rw [←h1];exact ZP hv hnd (x:=p.1) (y:=p.2) hc
theorem Zr (h1:JU ∉ kF l) (h2:Ol ∉ kF l):∀w∈kF l,WdP w:=fun w hw=>
 wdP (ach hv w hw) (fun e=>h1 (by rw [e] at hw;exact hw)) (fun e=>h2 (by rw [e] at hw;exact hw))
theorem ae5 (h1:JU ∉ kF l) (h2:Ol ∉ kF l) {x:Ax} (hx:x∈l) {n:Rl} (hn:n∈nmX x):aeS (dcl (kF l)) n:=by
 intro a b hc;have hne:n≠[]:=by rintro rfl;simp [lD] at hc
 have hr:=ahu hv hne hx hn;have hnd:=CU hv n ((Gt hv hne).2 hr);have hw:=ZP hv hnd hc;have hb:Jz n=a:=by unfold Jz;rw [hc]
 have hm:a∈kF l:=(Zt hv).2 ⟨n,hr,hb,(uh hw).1⟩;refine ⟨?_,fun e=>h1 (by rw [e] at hm;exact hm),fun e=>h2 (by rw [e] at hm;exact hm)⟩;unfold dcl;simp only [List.mem_cons,List.mem_map];exact .inr (.inr (.inr ⟨a,hm,rfl⟩))
end
theorem acf {l:List Ax} {p:Rl} (h:Ez l p=0) (hll:l.length≤1024) {src:Rl} (hs:Ly NxE src (QY p (kF l) l)) (N:Nat):
  ∃r,KT src (src.length+1) N r00=.ok (l.map zA) r∧r.iri=p:=by
 unfold Ez at h
 split at h
 ·cases h
 rename_i hp
 split at h
 ·rename_i hc;exact absurd h hc
 rename_i hc;have hc:yM l=0:=Classical.not_not.1 hc
 split at h
 ·cases h
 rename_i hw;have hv:∀x∈l,x.Vd:=fun x hm=>vd (vT hc x hm);have h1:JU ∉ kF l:=fun q=>hw (.inl q);have h2:Ol ∉ kF l:=fun q=>hw (.inr q);have hnd:(kF l).Nodup:=Srt.nodup (by unfold kF;exact acv _);exact aeh hs (Zr hv h1 h2) hnd (vT hc) hll fun x hx n hn=>ae5 hv h1 h2 hx hn
theorem agP {l:List Ax} {p:Rl} (h:Ez l p=0):Ly NxE (Ju p (kF l) l) (QY p (kF l) l)∧(Ju p (kF l) l).length≤65536∧yM l=0:=by
 unfold Ez at h
 split at h
 ·cases h
 rename_i hp
 split at h
 ·rename_i hc;exact absurd h hc
 rename_i hc;have hc:yM l=0:=Classical.not_not.1 hc
 split at h
 ·cases h
 rename_i hw
 split at h
 ·cases h
 rename_i hl;have hv:∀x∈l,x.Vd:=fun x hm=>vd (vT hc x hm);have h1:JU ∉ kF l:=fun q=>hw (.inl q);have h2:Ol ∉ kF l:=fun q=>hw (.inr q)
 have hi:p.all I9=true:=by
  cases q:Xg p with
  | false=>exact absurd (.inr q) hp
  | true=>exact q
 exact ⟨ahz (ahy NxE) (by show skp [10]=[];rfl) hi (Zr hv h1 h2) (vT hc),by omega,hc⟩
end Go.Ai.Z
namespace Go.Ai.Z
theorem acA:∀c:C,wC c≤100000→SmC c (zc c):=by
 refine C.ind' fun c ih hw=>?_;have hl:=Pv c.parts;rw [Eo] at hw;exact ajL (fun p hp=>ih p hp (by have:=Lp hp;omega)) (by omega)
theorem ag8 {x:Ax} (h:x.Few):SmA x (zA x):=⟨rfl,rfl,acA _ (by have:=h.l;omega),acA _ (by have:=h.r;omega),rfl,by have:=h.roles;omega,rfl,rfl,rfl⟩
theorem acN {l:List Ax} {p:Rl} (h:Ez l p=0) (hll:l.length≤1024) {src:Rl} (hs:Ly NxE src (QY p (kF l) l)) (hl:src.length≤65536) (s:St) (cx:Ctx) (hc:cx.lim≤s.length):
  aj P0 (.fn (.func oG) [] []) [.sl (aF src)] s cx=.ret (.tu [slf true ((l.map zA).map bY),.s p,.i .i64 0,.i .i64 0]) s:=by
 obtain ⟨r,h1,h2⟩:=acf h hll hs (s.length+8);have e:=aey src (by omega) s cx hc;unfold P7 at e;rw [if_neg (by omega),h1] at e;simp only [h2] at e;exact e
end Go.Ai.Z
namespace Go.Ai.Z
theorem adE {src:Rl} {n N:Nat} {l l':List Ax} {r q:Rd} (h:zf src n N l r=.ok l' q) (hl:∀x∈l,dW x=0):∀x∈l',dW x=0:=by
 unfold zf at h;obtain ⟨t,r1,h1,h⟩:=OR.bind_eq h;obtain ⟨u,r2,h2,h⟩:=OR.bind_eq h;obtain ⟨u,r4,h4,h⟩:=OR.bind_eq h;obtain ⟨xs,r5,h5,h⟩:=OR.bind_eq h;obtain ⟨u,r6,h6,h⟩:=OR.bind_eq h;obtain ⟨l2,r7,h7,h⟩:=OR.bind_eq h;have k7:=OX N _ xs l r6 h7
 split at h
 ·cases h
 ·cases h;intro x hx;rw [k7.2.2.2.1] at hx;rcases List.mem_append.1 hx with hx|hx
  ·exact hl x hx
  ·obtain ⟨y,hy,rfl⟩:=List.mem_map.1 hx;exact k7.2.2.2.2.1 y hy
theorem Xb {src:Rl} (n N:Nat):∀(k:Nat) (l:List Ax) (r:Rd) {l':List Ax} {q:Rd},zF src n N k l r=.ok l' q→(∀x∈l,dW x=0)→∀x∈l',dW x=0
 | 0,l,r,l',q,h,_=>by cases h
 | k+1,l,r,l',q,h,hl=>by
  unfold zF at h;obtain ⟨b,r1,h1,h⟩:=OR.bind_eq h
  split at h
  ·cases h;exact hl
  ·obtain ⟨l2,r2,h2,h⟩:=OR.bind_eq h;exact Xb n N k l2 r2 h (adE h2 hl)
theorem adF {src:Rl} {n N:Nat} {l l':List Ax} {r q:Rd} (hr:Wr src r) (hn:rem src r<n) (h:zf src n N l r=.ok l' q):q.iri=r.iri:=by
 unfold zf at h;obtain ⟨t,r1,h1,h⟩:=OR.bind_eq h;obtain ⟨u,r2,h2,h⟩:=OR.bind_eq h;obtain ⟨u,r4,h4,h⟩:=OR.bind_eq h;obtain ⟨xs,r5,h5,h⟩:=OR.bind_eq h;obtain ⟨u,r6,h6,h⟩:=OR.bind_eq h;obtain ⟨l2,r7,h7,h⟩:=OR.bind_eq h;have g1:=(dn hr).ok h1;have g2:=(dL g1.1 _).ok h2;have kp:=um src r2;have g4:=(aB (dN g2.1) [40] (by simp)).ok h4;have hre:rem src { r4 with op:=false }<n:=by show rem src r4<n;omega
 have g5:=(FK (n:=n) (w:=t.2.1) (JB g4.1 false) hre).ok h5;have g6:=(aB g5.1 [41] (by simp)).ok h6;have k7:=OX N _ xs l r6 h7
 split at h
 ·cases h
 ·cases h;rw [k7.2.2.2.2.2.2,g6.2.2.2.1,g5.2.2.2.1];show r4.iri=_;rw [g4.2.2.2.1];show r2.iri=_;rw [g2.2.2.2.1,g1.2.2.2.1]
theorem Xc {src:Rl} (n N:Nat):∀(k:Nat) (l:List Ax) (r:Rd) {l':List Ax} {q:Rd},Wr src r→rem src r<n→r.ax=axV N l→zF src n N k l r=.ok l' q→q.iri=r.iri
 | 0,l,r,l',q,_,_,_,h=>by cases h
 | k+1,l,r,l',q,ha,hn,hax,h=>by
  unfold zF at h;obtain ⟨b,r1,h1,h⟩:=OR.bind_eq h;have k1:=(jB ha [41]).ok h1;have hax1:r1.ax=axV N l:=by rw [k1.2.2.2.2,hax]
  split at h
  ·cases h;exact k1.2.2.2.1
  ·obtain ⟨l2,r2,h2,h⟩:=OR.bind_eq h;obtain ⟨z1,z2,z3,z4⟩:=O5 k1.1 (by omega) hax1 h2;rw [Xc n N k l2 r2 z1 (by omega) z3 h,adF k1.1 (by omega) h2,k1.2.2.2.1]
theorem Xf {src:Rl}:∀(k:Nat) (r:Rd) {q:Rd} {u:Unit},Wr src r→C9 src k r=.ok u q→q.iri=r.iri
 | 0,r,q,u,_,h=>by cases h;rfl
 | k+1,r,q,u,hr,h=>by
  unfold C9 at h;obtain ⟨t,r1,h1,h⟩:=OR.bind_eq h;have g1:=(dn hr).ok h1
  split at h
  ·rw [Xf k (cu r1) (dN g1.1) h];exact g1.2.2.2.1
  ·cases h;exact g1.2.2.2.1
theorem acT {src:Rl} {r q:Rd} {u:Unit} (hr:Wr src r) (hi:r.iri.length≤src.length) (h:H7 src r=.ok u q):q.iri.length≤src.length:=by
 unfold H7 at h;obtain ⟨u1,r1,h1,h⟩:=OR.bind_eq h;obtain ⟨u2,r2,h2,h⟩:=OR.bind_eq h;obtain ⟨t,r3,h3,h⟩:=OR.bind_eq h;obtain ⟨u4,r4,h4,h⟩:=OR.bind_eq h;obtain ⟨u5,r5,h5,h⟩:=OR.bind_eq h;obtain ⟨v,r6,h6,h⟩:=OR.bind_eq h;obtain ⟨u7,r7,h7,h⟩:=OR.bind_eq h;obtain ⟨u8,r8,h8,h⟩:=OR.bind_eq h;have g1:=(aB hr _ (by simp)).ok h1;have g2:=(aB g1.1 _ (by simp)).ok h2;have g3:=(dn g2.1).ok h3;have g4:=(dL g3.1 _).ok h4;have g5:=(aB (dN g4.1) _ (by simp)).ok h5;have g6:=(dn g5.1).ok h6;have g7:=(dL g6.1 _).ok h7;have g8:=(aB (dN g7.1) _ (by simp)).ok h8;have k6:=(mM g5.1 h6).2.len;cases h;show (if t.2.1=[58] then xX v.2.1 else r8.iri).length≤_;split
 ·unfold xX;simp only [List.length_take,List.length_drop];omega
 ·rw [g8.2.2.2.1];show r7.iri.length≤_;rw [g7.2.2.2.1,g6.2.2.2.1,g5.2.2.2.1];show r4.iri.length≤_;rw [g4.2.2.2.1,g3.2.2.2.1,g2.2.2.2.1,g1.2.2.2.1];exact hi
theorem Wy {src:Rl}:∀(n:Nat) (r:Rd) {q:Rd} {u:Unit},Wr src r→r.iri.length≤src.length→Bj src n r=.ok u q→q.iri.length≤src.length
 | 0,r,q,u,_,_,h=>by cases h
 | n+1,r,q,u,hr,hi,h=>by
  unfold Bj at h;obtain ⟨b,r1,h1,h⟩:=OR.bind_eq h;have g1:=(jB hr _).ok h1;have hi1:r1.iri.length≤src.length:=by rw [g1.2.2.2.1];exact hi
  split at h
  ·obtain ⟨u2,r2,h2,h⟩:=OR.bind_eq h;have g2:=(Me g1.1).ok h2;exact Wy n r2 g2.1 (acT g1.1 hi1 h2) h
  ·cases h;exact hi1
theorem afW {src:Rl} {N:Nat} {l:List Ax} {r:Rd} (h:KT src (src.length+1) N r00=.ok l r):(∀x∈l,dW x=0)∧r.iri.length≤src.length:=by
 unfold KT at h;obtain ⟨u,r0,h0,h⟩:=OR.bind_eq h;obtain ⟨b,r1,h1,h⟩:=OR.bind_eq h;obtain ⟨u,r2,h2,h⟩:=OR.bind_eq h;obtain ⟨u,r3,h3,h⟩:=OR.bind_eq h;obtain ⟨u,r4,h4,h⟩:=OR.bind_eq h;obtain ⟨l2,r5,h5,h⟩:=OR.bind_eq h;obtain ⟨t,r6,h6,h⟩:=OR.bind_eq h;obtain ⟨u,r7,h7,h⟩:=OR.bind_eq h;cases h;have w:Wr src r00:=⟨by simp [r00],by simp [r00]⟩;have hn:rem src r00<src.length+1:=by simp [rem,r00]
 have g0:=(Ac _ _ w hn).ok h0;have g1:=(jB g0.1 _).ok h1;have g2:=(dL g1.1 _).ok h2;have kp:=um src r2;have g3:=(aB (dN g2.1) [40] (by simp)).ok h3;have g4:=(Ad 2 r3 g3.1).ok h4;have hax:r4.ax=axV N []:=by rw [g4.2.2,g3.2.2.2.2];show r2.ax=_;rw [g2.2.2.2.2,g1.2.2.2.2,g0.2.2];rfl
 have g5:=Ky _ N _ [] r4 g4.1 (by omega) hax (by simp) h5;have g6:=(dn (dN g5.1)).ok h6;have g7:=(dL g6.1 _).ok h7;have i0:=Wy _ _ w (by simp [r00]) h0;refine ⟨Xb _ N _ [] r4 h5 (by simp), ?_⟩;rw [g7.2.2.2.1,g6.2.2.2.1];show r5.iri.length≤_;rw [Xc _ N _ [] r4 g4.1 (by omega) hax h5,Xf 2 r3 g3.1 h4,g3.2.2.2.1];show r2.iri.length≤_;rw [g2.2.2.2.1,g1.2.2.2.1];exact i0
def ErO {α:Type} (src:Rl) (x:OR α):Prop:=
 match x with
 | .ok _ _=>True
 | .er a c _=>a≤src.length∧c≠0
theorem ErO.bind {α β:Type} {src:Rl} {x:OR α} {f:α→Rd→OR β} (h:ErO src x) (hf:∀v q,x=.ok v q→ErO src (f v q)):ErO src (x.bind f):=by
 cases x with
 | er a c q=>exact h
 | ok v q=>exact hf v q rfl
theorem qY.er {α:Type} {src:Rl} {r:Rd} {k:Nat} {x:OR α} (h:qY src r k x):ErO src x:=by
 cases x with
 | er a c q=>exact ⟨h.1,by rw [h.2];decide⟩
 | ok v q=>trivial
theorem aaf {src:Rl} {N a0:Nat} (ha:a0≤src.length):∀(xs l:List Ax) (r:Rd),ErO src (zB N a0 xs l r)
 | [],l,r=>trivial
 | x::xs,l,r=>by
  unfold zB;split
  ·exact aaf ha xs _ _
  ·rename_i hc;exact ⟨ha,hc⟩
theorem afR {src:Rl} {n N:Nat} {l:List Ax} {r:Rd} (hr:Wr src r) (hn:rem src r<n):ErO src (zf src n N l r):=by
 unfold zf;refine (dn hr).p.er.bind fun t r1 h1=>?_;have g1:=(dn hr).ok h1;have a1:=(mM hr h1).2.at_;refine (dL g1.1 _).p.er.bind fun _ r2 h2=>?_;have g2:=(dL g1.1 _).ok h2;have kp:=um src r2;refine (aB (dN g2.1) [40] (by simp)).p.er.bind fun _ r4 h4=>?_;have g4:=(aB (dN g2.1) [40] (by simp)).ok h4;have hre:rem src { r4 with op:=false }<n:=by show rem src r4<n;omega
 refine (FK (n:=n) (w:=t.2.1) (JB g4.1 false) hre).p.er.bind fun xs r5 h5=>?_;have g5:=(FK (n:=n) (w:=t.2.1) (JB g4.1 false) hre).ok h5;refine (aB g5.1 [41] (by simp)).p.er.bind fun _ r6 h6=>?_;refine (aaf a1 xs l r6).bind fun l2 r7 _=>?_;split
 ·exact ⟨a1,by decide⟩
 ·trivial
theorem aag {src:Rl} (n N:Nat):∀(k:Nat) (l:List Ax) (r:Rd),Wr src r→rem src r<n→r.ax=axV N l→rem src r<k→ErO src (zF src n N k l r)
 | 0,l,r,_,_,_,hk=>absurd hk (by omega)
 | k+1,l,r,ha,hn,hax,hk=>by
  unfold zF;refine (jB ha [41]).p.er.bind fun b r1 h1=>?_;have k1:=(jB ha [41]).ok h1;have hax1:r1.ax=axV N l:=by rw [k1.2.2.2.2,hax]
  split
  ·trivial
  ·refine (afR k1.1 (by omega)).bind fun l2 r2 h2=>?_;obtain ⟨z1,z2,z3,z4⟩:=O5 k1.1 (by omega) hax1 h2;exact aag n N k l2 r2 z1 (by omega) z3 (by omega)
theorem ahF (src:Rl) (N:Nat):ErO src (KT src (src.length+1) N r00):=by
 have w:Wr src r00:=⟨by simp [r00],by simp [r00]⟩;have hn:rem src r00<src.length+1:=by simp [rem,r00]
 unfold KT;refine (Ac _ _ w hn).er.bind fun _ r0 h0=>?_;have g0:=(Ac _ _ w hn).ok h0;refine (jB g0.1 _).p.er.bind fun b r1 h1=>?_;have g1:=(jB g0.1 _).ok h1;refine (dL g1.1 _).p.er.bind fun _ r2 h2=>?_;have g2:=(dL g1.1 _).ok h2;have kp:=um src r2;refine (aB (dN g2.1) [40] (by simp)).p.er.bind fun _ r3 h3=>?_;have g3:=(aB (dN g2.1) [40] (by simp)).ok h3;refine (Ad 2 r3 g3.1).er.bind fun _ r4 h4=>?_;have g4:=(Ad 2 r3 g3.1).ok h4;have hax:r4.ax=axV N []:=by rw [g4.2.2,g3.2.2.2.2];show r2.ax=_;rw [g2.2.2.2.2,g1.2.2.2.2,g0.2.2];rfl
 refine (aag _ N _ [] r4 g4.1 (by omega) hax (by omega)).bind fun l2 r5 h5=>?_;have g5:=Ky _ N _ [] r4 g4.1 (by omega) hax (by simp) h5;refine (dn (dN g5.1)).p.er.bind fun t r6 h6=>?_;have g6:=(dn (dN g5.1)).ok h6;refine (dL g6.1 _).p.er.bind fun _ r7 h7=>?_;trivial
end Go.Ai.Z
namespace Go.Ai.Z
theorem aae {x:Ax} (h:dW x=0):x.Few:=by
 have v:=vd h
 have hw:∀c:C,(emptyS c=true∨iq c=0∧nN c≤64)→wC c≤150:=fun c hc=>by
  rcases hc with hc|⟨h1,h2⟩
  ·unfold emptyS at hc;simp at hc;have e1:c.name=[]:=by simp_all
   have e2:c.parts=[]:=by simp_all
   rw [Eo,e1,e2];simp [wL]
  ·rw [agw c h1];omega
 exact ⟨hw _ v.l,hw _ v.r,by have:=v.n;omega,fun r hr=>by have:=(v.rs r hr).len;omega,by have:=v.role.len;omega,by have:=v.a.len;omega,by have:=v.b.len;omega⟩
theorem XP:∀{l:List Ax},(∀x∈l,dW x=0)→yM l=0
 | [],_=>rfl
 | x::l,h=>by rw [yM,if_pos (h x (by simp))];exact XP fun y hy=>h y (by simp [hy])
theorem ZX (X:List Ax) (hl:X.length≤1024) (hx:∀x∈X,dW x=0) (p:Rl) (s:St) (cx:Ctx):∀(rest:List Ax) (i:Nat),X.drop i=rest→
  ∃j:Int,ig (aC P0.glob (aj P0) cx false lJ) [3,4,7] [(3,.v (slf true (X.map bY))),(4,.v (.s p)),(7,.v (.i .i64 i))] s=
   .exit 0 [(3,.v (slf true (X.map bY))),(4,.v (.s p)),(7,.v (.i .i64 j)),(48,.v (.b false))] s
 | [],i,h=>by
  have h1:X.length≤i:=drop_nil h;have h2:¬(i:Int)<(X.length:Int):=by omega
  refine ⟨i,ak fun K hK=>?_⟩;simp -implicitDefEqProofs [lJ,h2]
 | x::r,i,h=>by
  obtain ⟨h1,h2,h3,h4⟩:=drop_cons h;have h3i:(i:Int)<(X.length:Int):=by omega
  have g1:(X.map bY)[i]?=some (bY x):=by rw [List.getElem?_map,h1];rfl
  have hwi:=wI (i:=i) (by omega);have hx0:=hx x (List.mem_of_getElem? h1);have e1:=wP x (aae hx0);rw [hx0] at e1;obtain ⟨j,ih⟩:=ZX X hl hx p s cx r (i+1) h2;refine ⟨j,ak fun K hK=>?_⟩;rw [←hK,show ((i+1:Nat):Int)=(i:Int)+1 from rfl] at ih;clear hK h4 hx;rw [←ih];clear ih;have z1:(X.map bY).length=X.length:=List.length_map _;generalize X.map bY=P at *;simp -implicitDefEqProofs [lJ,z1,h3i,g1,e1,hwi]
theorem X3 (src:Rl) (hs:aj P0 (.fn (.func xU) [] []) [] [] ⟨0,0⟩=.ret (.b true) []) (cx:Ctx):
  aj P0 (.fn (.func oI) [] []) [.sl (aF src)] [] cx=.ret (.b true) []:=by
 have hbl:=kK src;refine D5 (by simp) ?_;by_cases h5:5000<src.length
 ·have h5i:(5000:Int)<(src.length:Int):=by omega
  simp -implicitDefEqProofs [af,iH,hs,hbl,h5i]
 have h5i:¬(5000:Int)<(src.length:Int):=by omega
 have er:=aey src (by omega) [] ⟨0,0⟩ (Nat.le_refl _);have hE:=ahF src (([]:St).length+8);unfold P7 at er;rw [if_neg (by omega)] at er
 cases hd:KT src (src.length+1) (([]:St).length+8) r00 with
 | er a c q=>
  rw [hd] at er hE;obtain ⟨k1,k2⟩:=hE;have k1i:(a:Int)≤(src.length:Int):=by omega
  have k0:(0:Int)≤(a:Int):=by omega
  have en:vO []=.ns:=rfl;simp only [en] at er;simp -implicitDefEqProofs [af,iH,hs,hbl,h5i,er,k2,k1i,k0]
 | ok l r=>
  rw [hd] at er;obtain ⟨_,hll⟩:=aei hd;obtain ⟨hv,hp⟩:=afW hd;have hf:∀x∈l,x.Few:=fun x hm=>aae (hv x hm);have hc:=XP hv;simp only [show vO l=slf true (l.map bY) from rfl] at er;generalize r.iri=p at *;obtain ⟨j,e1⟩:=ZX l hll hv p [] ⟨0,0⟩ l 0 rfl;rw [show ((0:Nat):Int)=0 from rfl] at e1;have hlen:yM l=0→∀x∈l,(owA x).length≤33000:=fun h0 x hm=>aft (good (vT h0 x hm)) (vd (vT h0 x hm));have ew:=XZ true l hll hf hlen p (by omega);have z1:(l.map bY).length=l.length:=List.length_map _;by_cases hW:Ez l p=0
  ·obtain ⟨k1,k2,k3⟩:=agP hW;have e2:=acN hW hll k1 k2 [] ⟨0,0⟩ (Nat.le_refl _)
   have es:=aes l (l.map zA) true true (by simp) (by omega) (fun i a b h1 h2=>by
    rw [List.getElem?_map,h1] at h2;cases h2
    exact ag8 (hf a (List.mem_of_getElem? h1)))
   rw [hW] at ew;have hB:aaw l p=.sl (aF (Ju p (kF l) l)):=by unfold aaw;rw [if_pos hW]
   rw [hB] at ew;generalize Ju p (kF l) l=D at *;have hZp:=LJ true ((l.map zA).map bY);generalize slf true ((l.map zA).map bY)=Z at *;have hYp:=LJ true (l.map bY);generalize slf true (l.map bY)=Y at *;simp -implicitDefEqProofs [af,iH,hs,hbl,h5i,er,e1,ew,e2,es,hZp,hYp]
  ·have hB:aaw l p=.ns:=by unfold aaw;rw [if_neg hW]
   rw [hB] at ew;have hYp:=LJ true (l.map bY);generalize slf true (l.map bY)=Y at *;simp -implicitDefEqProofs [af,iH,hs,hbl,h5i,er,e1,ew,hW,hYp]
end Go.Ai.Z
