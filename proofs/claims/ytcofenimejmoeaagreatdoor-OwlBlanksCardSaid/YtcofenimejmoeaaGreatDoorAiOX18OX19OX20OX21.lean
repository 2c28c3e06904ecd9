/-
 The reader of ontology documents: the lines of prefixes.
-/
import Derived.Test.YtcofenimejmoeaaGreatDoorAiOX11OX12OX13
import Derived.Test.YtcofenimejmoeaaGreatDoorAiK1K2K3K4K5K6K7
import Derived.Test.YtcofenimejmoeaaGreatDoorAiOX1OX2OX3OX4
import Derived.Test.YtcofenimejmoeaaGreatDoorAiOW1OW2OW3OW4OW5
import Derived.Test.YtcofenimejmoeaaGreatDoorAiRchR1R2R3R4R5
set_option maxRecDepth 100000
set_option linter.unusedSimpArgs false
set_option linter.unusedVariables false
set_option linter.unusedSectionVars false
namespace Go.Ai.Z
theorem ahv {src:Rl} {r:Rd} (h:Wr src r) (P:List Rl) (i:Rl):Wr src { r with pre:=P,iri:=i }:=⟨h.at_,h.ah⟩
def uD {α:Type} (src:Rl) (r:Rd) (k:Nat) (x:OR α):Prop:=
 match x with
 | .ok _ q=>Wr src q∧rem src q+k≤rem src r∧q.ax=r.ax
 | .er a c _=>a≤src.length∧c=50
theorem aG.p {α:Type} {src:Rl} {r:Rd} {k:Nat} {x:OR α} (h:aG src r k x):uD src r k x:=by
 cases x with
 | er a c q=>exact h
 | ok v q=>obtain ⟨h1,h2,_,_,h3⟩:=h;exact ⟨h1,h2,h3⟩
theorem uD.ok {α:Type} {src:Rl} {r q:Rd} {v:α} {k:Nat} {x:OR α} (h:uD src r k x) (e:x=.ok v q):Wr src q∧rem src q+k≤rem src r∧q.ax=r.ax:=by subst e;exact h
theorem uD.bind {α β:Type} {src:Rl} {r:Rd} {k j n:Nat} {x:OR α} {f:α→Rd→OR β} (h:uD src r k x)
  (hf:∀v q,x=.ok v q→Wr src q→rem src q+k≤rem src r→uD src q j (f v q)) (hn:n≤k+j):uD src r n (x.bind f):=by
 cases x with
 | er a c q=>exact h
 | ok v q=>
  obtain ⟨h1,h2,h5⟩:=h;have h6:=hf v q rfl h1 h2;rw [OR.bind_ok];generalize f v q=y at *
  cases y with
  | er a c q2=>exact h6
  | ok w q2=>
   obtain ⟨g1,g2,g5⟩:=h6;exact ⟨g1,by omega,g5.trans h5⟩
theorem Zy {α:Type} {src:Rl} {r:Rd} {k:Nat} {x:OR α} (h:Sn src r) (hw:Wr src r) (hx:uD src (bY r) k x):uD src r (k+1) x:=by
 have h1:=h.pass hw
 cases x with
 | er a c q=>exact hx
 | ok v q=>
  obtain ⟨g1,g2,g5⟩:=hx;exact ⟨g1,by omega,g5⟩
theorem UB {P:List Rl} {t:Tk} (h:O1 P t=true):t.1=4:=by
 unfold O1 at h;simp only [Bool.and_eq_true,decide_eq_true_eq] at h;exact h.1.1.1
theorem F6 {w:Rl} {t:Tk} (h:Af w t=true):t.1=2:=by
 unfold Af at h;simp only [Bool.and_eq_true,decide_eq_true_eq] at h;exact h.1.1
theorem UR {src:Rl} {r:Rd} (h:Wr src r):uD src r 1 (Ob src r):=by
 unfold Ob;refine uD.bind (k:=1) (j:=0) (aF h _ (by simp)).p (fun _ q1 e1 h1 k1=>?_) (by omega);refine uD.bind (k:=1) (j:=0) (aF h1 _ (by simp)).p (fun _ q2 e2 h2 k2=>?_) (by omega);refine uD.bind (k:=0) (j:=0) (gK h2).p (fun t q3 e3 h3 k3=>?_) (by omega);refine uD.bind (k:=0) (j:=0) (je h3 _).p (fun _ q4 e4 h4 k4=>?_) (by omega);obtain ⟨hb,hq⟩:=zk e4;subst hq;have hs:=J9 e3 ((oJ h2 e3).2.one (by have:=UB hb;omega));have hp:=hs.pass h4
 have key:uD src q4 (0+1) _:=Zy (k:=0) hs h4 (x:=(lJ src [61] (bY q4)).bind fun _ r=>
  (iI src r).bind fun u r=>(rG src (Af t.2.1 u) r).bind fun _ r=>(lJ src [41] (bY r)).bind fun _ r=>
   .ok () { r with pre:=qR r.pre t.2.1,iri:=if t.2.1=[58] then zF u.2.1 else r.iri }) (by
  refine uD.bind (k:=1) (j:=0) (aF hp.1 _ (by simp)).p (fun _ q5 e5 h5 k5=>?_) (by omega);refine uD.bind (k:=0) (j:=0) (gK h5).p (fun u q6 e6 h6 k6=>?_) (by omega);refine uD.bind (k:=0) (j:=0) (je h6 _).p (fun _ q7 e7 h7 k7=>?_) (by omega);obtain ⟨hb2,hq2⟩:=zk e7;subst hq2;refine uD.bind (k:=0) (j:=0) ?_ (fun _ q8 e8 h8 k8=>?_) (by omega)
  ·have hs2:=J9 e6 ((oJ h5 e6).2.one (by have:=F6 hb2;omega));have hp2:=hs2.pass h7;exact ((qM (k:=1) hs2 h7 (aF hp2.1 _ (by simp))).wk (by omega)).p
  ·exact ⟨ahv h8 _ _,by show rem src q8+0≤_;omega,rfl⟩)
 generalize (lJ src [61] (bY q4)).bind _=y at key ⊢
 cases y with
 | er a c q=>exact key
 | ok v q=>obtain ⟨g1,g2,g3⟩:=key;exact ⟨g1,by omega,g3⟩
section
variable {src:Rl} {S:Rd→St} {m N:Nat} (hE:yE src S m N)
include hE
theorem PL (r:Rd) (P:List Rl):(S r).set m (.map (qx P))=S { r with pre:=P }:=hE.setp r P
theorem agv (r:Rd) (i:Rl):(S r).set (m+1) (.cells [.sl (au src),.i .i64 r.at_,ahV r.ah,.mp m,.s i,.b r.op,r.ax,.mp (m+2),.mp (m+3)])=S { r with iri:=i }:=hE.sets r { r with iri:=i } rfl
theorem afd (r:Rd) (ha:Wr src r) (cx:Ctx) (hl:cx.lim≤m):
  aj P0 (.fn (.func nH) [] []) [.pt (m+1) 0] (S r) cx=uh (fun _=>.tu []) S (Ob src r):=by
 refine Gj (jS _ _ _) ?_;have hN:=hE.n;have hS:=hE.src;have hlim:cx.lim≤m+1:=by omega
 unfold Ob;obtain ⟨a,c,q,hx,e1⟩|⟨v1,r1,h1,e1,g1⟩:=spl (iE hE wC0 r ha ⟨cx.lim,N⟩ hl) (aF ha wC0 (by simp))
 ·rw [hx];simp -implicitDefEqProofs [af,aA,hN,e1]
 rw [h1];simp only [OR.bind_ok];have w1:=g1.1;obtain ⟨a,c,q,hx,e2⟩|⟨v2,r2,h2,e2,g2⟩:=spl (iE hE [40] r1 w1 ⟨cx.lim,N⟩ hl) (aF w1 [40] (by simp))
 ·rw [hx];simp -implicitDefEqProofs [af,aA,hN,e1,e2]
 rw [h2];simp only [OR.bind_ok];have w2:=g2.1;obtain ⟨a,c,q,hx,e3⟩|⟨t,r3,h3,e3,g3⟩:=spl (oN hE r2 (w2).at_ ⟨cx.lim,N⟩ hl) (gK w2)
 ·rw [hx];simp -implicitDefEqProofs [af,aA,hN,e1,e2,e3]
 rw [h3];simp only [OR.bind_ok];have w3:=g3.1;have e3b:=oN hE r3 w3.at_ ⟨cx.lim,N⟩ hl;rw [(qH h3).1] at e3b;simp only [dD] at e3b;have kt:=(oJ w2 h3).2;have hx:=BO t.2.1 58;have hc3:=vG hE r3;have hm3:=hE.pm r3;have hf3:=DK t.2.1 r3.pre;obtain ⟨k,w,a⟩:=t;simp only at hx hf3 kt;have hwl:w.length≤src.length:=kt.len;have hwi:IntKind.i64.wrap ((w.length:Int) - 1)=(w.length:Int) - 1:=w64 (by omega) (by omega);have ef:=qc hE (O1 r3.pre (k,w,a)) r3 w3 ⟨cx.lim,N⟩ hl
 cases hb:O1 r3.pre (k,w,a) with
 | false=>
  rw [hb] at ef;obtain ⟨a2,c2,r2x,hxx⟩:=zl src r3;rw [hxx] at ef ⊢;simp only [dA] at ef;simp only [OR.bind_er,dA];unfold O1 at hb;by_cases q1:¬k=4
  ·simp -implicitDefEqProofs [af,aA,hN,fD,e1,e2,e3,e3b,hx,hc3,hm3,hf3,ef,q1]
  have q1:=Classical.not_not.1 q1;by_cases q2:¬Go.Lib.indexByte w 58=(w.length:Int) - 1
  ·simp -implicitDefEqProofs [af,aA,hN,fD,e1,e2,e3,e3b,hx,hc3,hm3,hf3,ef,q1,q2,hwi]
  have q2:=Classical.not_not.1 q2;by_cases q3:w=[58]
  ·have q4:[58]∈r3.pre:=by
    have h58:Go.Lib.indexByte [58] 58=0:=rfl;rw [q3] at hb
    simpa [q1,h58] using hb
   subst q3;simp only [q4,if_true] at hf3;have h58:Go.Lib.indexByte [58] 58=0:=rfl;have w0:IntKind.i64.wrap 0=0:=rfl;rw [h58] at hx;simp -implicitDefEqProofs [af,aA,hN,fD,e1,e2,e3,e3b,hx,hc3,hm3,hf3,ef,q1,w0]
  ·have h1:=kt.one (by simp [q1])
   cases w with
   | nil=>simp at h1
   | cons c w'=>
    have el:=vg c.toNat;have q3a:¬(c=58∧w'=[]):=fun h=>q3 (by rw [h.1,h.2])
    have q3b:(c == 58 && w'.isEmpty)=false:=by cases h:(c == 58 && w'.isEmpty) with
     | false=>rfl
     | true=>rw [Bool.and_eq_true,beq_iff_eq,List.isEmpty_iff] at h;exact absurd h q3a
    have hwl2:w'.length+1≤src.length:=hwl;have w0:IntKind.i64.wrap (w'.length:Int)=w'.length:=w64 (by omega) (by omega);have hcl:((c::w').length:Int) - 1=w'.length:=by simp
    rw [hcl] at q2
    cases q5:ltI c.toNat with
    | false=>
     rw [q5] at el;rw [q2] at hx;simp -implicitDefEqProofs [af,aA,hN,fD,e1,e2,e3,e3b,hx,hc3,hm3,hf3,ef,q1,q3,q3a,q3b,w0,el]
    | true=>
     have q4:c::w'∈r3.pre:=by simpa [q1,hcl,q2,q3,q5] using hb
     rw [q5] at el;rw [q2] at hx;simp only [q4,if_true] at hf3;simp -implicitDefEqProofs [af,aA,hN,fD,e1,e2,e3,e3b,hx,hc3,hm3,hf3,ef,q1,q3,q3a,q3b,w0,el]
 | true=>
  rw [hb] at ef;rw [pF] at ef ⊢;simp only [dD] at ef;simp only [OR.bind_ok];have q1:k=4:=UB hb
  have hnp:¬w∈r3.pre:=by
   unfold O1 at hb;simp only [Bool.and_eq_true,decide_eq_true_eq,Bool.not_eq_true',decide_eq_false_iff_not] at hb;exact hb.2
  have q2:Go.Lib.indexByte w 58=(w.length:Int) - 1:=by
   unfold O1 at hb;simp only [Bool.and_eq_true,decide_eq_true_eq] at hb;exact hb.1.1.2
  simp only [hnp,if_false] at hf3;by_cases q3:w=[58]
  ·subst q3;have h58:Go.Lib.indexByte [58] 58=0:=rfl;have w0:IntKind.i64.wrap 0=0:=rfl;have q3o:¬([58]:Rl)=[111,119,108,58]:=by simp
   have q3x:¬([58]:Rl)=[120,115,100,58]:=by simp
   rw [h58] at hx;have e5:=lG hE r3 ⟨cx.lim,N⟩ hl;have w5:=iQ w3;obtain ⟨a,c,q,hz,e6⟩|⟨v6,r6,h6,e6,g6⟩:=spl (iE hE [61] (bY r3) w5 ⟨cx.lim,N⟩ hl) (aF w5 [61] (by simp))
   ·rw [hz];simp -implicitDefEqProofs [af,aA,hN,fD,e1,e2,e3,e3b,hx,hc3,hm3,hf3,ef,q1,w0,e5,e6]
   rw [h6];simp only [OR.bind_ok];have w6:=g6.1;obtain ⟨a,c,q,hz,e7⟩|⟨u,r7,h7,e7,g7⟩:=spl (oN hE r6 w6.at_ ⟨cx.lim,N⟩ hl) (gK w6)
   ·rw [hz];simp -implicitDefEqProofs [af,aA,hN,fD,e1,e2,e3,e3b,hx,hc3,hm3,hf3,ef,q1,w0,e5,e6,e7]
   rw [h7];simp only [OR.bind_ok];obtain ⟨w7,ku⟩:=oJ w6 h7;have e7b:=oN hE r7 w7.at_ ⟨cx.lim,N⟩ hl;rw [(qH h7).1] at e7b;simp only [dD] at e7b;obtain ⟨k2,i2,a2⟩:=u;have hil:i2.length≤src.length:=ku.len;have ef2:=qc hE (Af [58] (k2,i2,a2)) r7 w7 ⟨cx.lim,N⟩ hl
   cases hb2:Af [58] (k2,i2,a2) with
   | false=>
    rw [hb2] at ef2;obtain ⟨a9,c9,r9,h9⟩:=zl src r7;rw [h9] at ef2 ⊢;simp only [dA] at ef2;simp only [OR.bind_er,dA];unfold Af at hb2;by_cases p1:¬k2=2
    ·simp -implicitDefEqProofs [af,aA,hN,fD,e1,e2,e3,e3b,hx,hc3,hm3,hf3,ef,q1,w0,e5,e6,e7,e7b,ef2,p1]
    have p1:=Classical.not_not.1 p1;rw [p1] at hb2;simp [q3o,q3x] at hb2
   | true=>
    rw [hb2] at ef2;rw [pF] at ef2 ⊢;simp only [dD] at ef2;simp only [OR.bind_ok];have p1:k2=2:=F6 hb2;have e10:=lG hE r7 ⟨cx.lim,N⟩ hl;have w10:=iQ w7;obtain ⟨a,c,q,hz,e11⟩|⟨v11,r11,h11,e11,g11⟩:=spl (iE hE [41] (bY r7) w10 ⟨cx.lim,N⟩ hl) (aF w10 [41] (by simp))
    ·rw [hz];simp -implicitDefEqProofs [af,aA,hN,fD,e1,e2,e3,e3b,hx,hc3,hm3,hf3,ef,q1,w0,e5,e6,e7,e7b,ef2,p1,e10,e11]
    rw [h11];simp only [OR.bind_ok];have hc11:=vG hE r11;have hm11:=hE.pm r11;have hpt:=tN [58] r11.pre;have hs11:=PL hE r11 (qR r11.pre [58]);have hc12:=vG hE { r11 with pre:=qR r11.pre [58] };have hs12:=agv hE { r11 with pre:=qR r11.pre [58] };have h2:=ku.two (.inl p1);simp only at h2;have hwi2:IntKind.i64.wrap ((i2.length:Int) - 1)=(i2.length:Int) - 1:=w64 (by omega) (by omega);have z1:(1:Int)≤(i2.length:Int):=by omega
    have z2:((i2.length:Int) - 1).toNat=i2.length - 1:=by omega
    have z3:i2.tail.take (i2.length - 1 - 1)=zF i2:=by unfold zF;rw [Nat.sub_sub,List.drop_one]
    have z4:1≤i2.length - 1:=by omega
    have hlm:cx.lim≤m:=hl;simp -implicitDefEqProofs [af,aA,hN,fD,e1,e2,e3,e3b,hx,hc3,hm3,hf3,ef,q1,w0,e5,e6,e7,e7b,ef2,p1,e10,e11,hc11,hm11,hpt,hs11,uH,hc12,hs12,hlim,hlm,hwi2,z1,z2,z3,z4]
  by_cases q3o:w=[111,119,108,58]
  ·subst q3o;have h58:Go.Lib.indexByte [111,119,108,58] 58=3:=rfl;have w0:IntKind.i64.wrap 3=3:=rfl;have el:=vg 111;rw [show ltI 111=true from rfl] at el;rw [h58] at hx;have e5:=lG hE r3 ⟨cx.lim,N⟩ hl;have w5:=iQ w3;obtain ⟨a,c,q,hz,e6⟩|⟨v6,r6,h6,e6,g6⟩:=spl (iE hE [61] (bY r3) w5 ⟨cx.lim,N⟩ hl) (aF w5 [61] (by simp))
   ·rw [hz];simp -implicitDefEqProofs [af,aA,hN,fD,e1,e2,e3,e3b,hx,hc3,hm3,hf3,ef,q1,w0,el,e5,e6]
   rw [h6];simp only [OR.bind_ok];have w6:=g6.1;obtain ⟨a,c,q,hz,e7⟩|⟨u,r7,h7,e7,g7⟩:=spl (oN hE r6 w6.at_ ⟨cx.lim,N⟩ hl) (gK w6)
   ·rw [hz];simp -implicitDefEqProofs [af,aA,hN,fD,e1,e2,e3,e3b,hx,hc3,hm3,hf3,ef,q1,w0,el,e5,e6,e7]
   rw [h7];simp only [OR.bind_ok];obtain ⟨w7,ku⟩:=oJ w6 h7;have e7b:=oN hE r7 w7.at_ ⟨cx.lim,N⟩ hl;rw [(qH h7).1] at e7b;simp only [dD] at e7b;obtain ⟨k2,i2,a2⟩:=u;have hil:i2.length≤src.length:=ku.len;have ef2:=qc hE (Af [111,119,108,58] (k2,i2,a2)) r7 w7 ⟨cx.lim,N⟩ hl
   cases hb2:Af [111,119,108,58] (k2,i2,a2) with
   | false=>
    rw [hb2] at ef2;obtain ⟨a9,c9,r9,h9⟩:=zl src r7;rw [h9] at ef2 ⊢;simp only [dA] at ef2;simp only [OR.bind_er,dA];unfold Af at hb2;by_cases p1:¬k2=2
    ·simp -implicitDefEqProofs [af,aA,hN,fD,e1,e2,e3,e3b,hx,hc3,hm3,hf3,ef,q1,w0,el,e5,e6,e7,e7b,ef2,p1]
    have p1:=Classical.not_not.1 p1
    have p2:¬i2=wC1:=fun h=>by
     rw [p1,h] at hb2;simp at hb2
    simp -implicitDefEqProofs [af,aA,hN,fD,e1,e2,e3,e3b,hx,hc3,hm3,hf3,ef,q1,w0,el,e5,e6,e7,e7b,ef2,p1,p2]
   | true=>
    rw [hb2] at ef2;rw [pF] at ef2 ⊢;simp only [dD] at ef2;simp only [OR.bind_ok];have p1:k2=2:=F6 hb2
    have p2:i2=wC1:=by
     unfold Af at hb2;rw [p1] at hb2
     simpa using hb2
    have e10:=lG hE r7 ⟨cx.lim,N⟩ hl;have w10:=iQ w7;obtain ⟨a,c,q,hz,e11⟩|⟨v11,r11,h11,e11,g11⟩:=spl (iE hE [41] (bY r7) w10 ⟨cx.lim,N⟩ hl) (aF w10 [41] (by simp))
    ·rw [hz];simp -implicitDefEqProofs [af,aA,hN,fD,e1,e2,e3,e3b,hx,hc3,hm3,hf3,ef,q1,w0,el,e5,e6,e7,e7b,ef2,p1,p2,e10,e11]
    rw [h11];simp only [OR.bind_ok];have hc11:=vG hE r11;have hm11:=hE.pm r11;have hpt:=tN [111,119,108,58] r11.pre;have hs11:=PL hE r11 (qR r11.pre [111,119,108,58]);have hlm:cx.lim≤m:=hl;simp -implicitDefEqProofs [af,aA,hN,fD,e1,e2,e3,e3b,hx,hc3,hm3,hf3,ef,q1,w0,el,e5,e6,e7,e7b,ef2,p1,p2,e10,e11,hc11,hm11,hpt,hs11,hlim,hlm,uH]
  by_cases q3x:w=[120,115,100,58]
  ·subst q3x;have h58:Go.Lib.indexByte [120,115,100,58] 58=3:=rfl;have w0:IntKind.i64.wrap 3=3:=rfl;have el:=vg 120;rw [show ltI 120=true from rfl] at el;rw [h58] at hx;have e5:=lG hE r3 ⟨cx.lim,N⟩ hl;have w5:=iQ w3;obtain ⟨a,c,q,hz,e6⟩|⟨v6,r6,h6,e6,g6⟩:=spl (iE hE [61] (bY r3) w5 ⟨cx.lim,N⟩ hl) (aF w5 [61] (by simp))
   ·rw [hz];simp -implicitDefEqProofs [af,aA,hN,fD,e1,e2,e3,e3b,hx,hc3,hm3,hf3,ef,q1,w0,el,e5,e6]
   rw [h6];simp only [OR.bind_ok];have w6:=g6.1;obtain ⟨a,c,q,hz,e7⟩|⟨u,r7,h7,e7,g7⟩:=spl (oN hE r6 w6.at_ ⟨cx.lim,N⟩ hl) (gK w6)
   ·rw [hz];simp -implicitDefEqProofs [af,aA,hN,fD,e1,e2,e3,e3b,hx,hc3,hm3,hf3,ef,q1,w0,el,e5,e6,e7]
   rw [h7];simp only [OR.bind_ok];obtain ⟨w7,ku⟩:=oJ w6 h7;have e7b:=oN hE r7 w7.at_ ⟨cx.lim,N⟩ hl;rw [(qH h7).1] at e7b;simp only [dD] at e7b;obtain ⟨k2,i2,a2⟩:=u;have hil:i2.length≤src.length:=ku.len;have ef2:=qc hE (Af [120,115,100,58] (k2,i2,a2)) r7 w7 ⟨cx.lim,N⟩ hl
   cases hb2:Af [120,115,100,58] (k2,i2,a2) with
   | false=>
    rw [hb2] at ef2;obtain ⟨a9,c9,r9,h9⟩:=zl src r7;rw [h9] at ef2 ⊢;simp only [dA] at ef2;simp only [OR.bind_er,dA];unfold Af at hb2;by_cases p1:¬k2=2
    ·simp -implicitDefEqProofs [af,aA,hN,fD,e1,e2,e3,e3b,hx,hc3,hm3,hf3,ef,q1,w0,el,e5,e6,e7,e7b,ef2,p1]
    have p1:=Classical.not_not.1 p1
    have p2:¬i2=wB8:=fun h=>by
     rw [p1,h] at hb2;simp at hb2
    simp -implicitDefEqProofs [af,aA,hN,fD,e1,e2,e3,e3b,hx,hc3,hm3,hf3,ef,q1,w0,el,e5,e6,e7,e7b,ef2,p1,p2]
   | true=>
    rw [hb2] at ef2;rw [pF] at ef2 ⊢;simp only [dD] at ef2;simp only [OR.bind_ok];have p1:k2=2:=F6 hb2
    have p2:i2=wB8:=by
     unfold Af at hb2;rw [p1] at hb2
     simpa using hb2
    have e10:=lG hE r7 ⟨cx.lim,N⟩ hl;have w10:=iQ w7;obtain ⟨a,c,q,hz,e11⟩|⟨v11,r11,h11,e11,g11⟩:=spl (iE hE [41] (bY r7) w10 ⟨cx.lim,N⟩ hl) (aF w10 [41] (by simp))
    ·rw [hz];simp -implicitDefEqProofs [af,aA,hN,fD,e1,e2,e3,e3b,hx,hc3,hm3,hf3,ef,q1,w0,el,e5,e6,e7,e7b,ef2,p1,p2,e10,e11]
    rw [h11];simp only [OR.bind_ok];have hc11:=vG hE r11;have hm11:=hE.pm r11;have hpt:=tN [120,115,100,58] r11.pre;have hs11:=PL hE r11 (qR r11.pre [120,115,100,58]);have hlm:cx.lim≤m:=hl;simp -implicitDefEqProofs [af,aA,hN,fD,e1,e2,e3,e3b,hx,hc3,hm3,hf3,ef,q1,w0,el,e5,e6,e7,e7b,ef2,p1,p2,e10,e11,hc11,hm11,hpt,hs11,hlim,hlm,uH]
  have h1:=kt.one (by simp [q1])
  cases w with
  | nil=>simp at h1
  | cons c w'=>
   have el:=vg c.toNat;have q3a:¬(c=58∧w'=[]):=fun h=>q3 (by rw [h.1,h.2])
   have q3b:(c == 58 && w'.isEmpty)=false:=by cases h:(c == 58 && w'.isEmpty) with
    | false=>rfl
    | true=>rw [Bool.and_eq_true,beq_iff_eq,List.isEmpty_iff] at h;exact absurd h q3a
   have hwl2:w'.length+1≤src.length:=hwl;have w0:IntKind.i64.wrap (w'.length:Int)=w'.length:=w64 (by omega) (by omega);have hcl:((c::w').length:Int) - 1=w'.length:=by simp
   rw [hcl] at q2;rw [q2] at hx
   have q5:ltI c.toNat=true:=by
    unfold O1 at hb
    simpa [q1,hcl,q2,q3,hnp] using hb
   rw [q5] at el;have q3o:¬c::w'=[111,119,108,58]:=q3o;have q3x:¬c::w'=[120,115,100,58]:=q3x;generalize hW:c::w'=W at *;have wW:IntKind.i64.wrap ((W.length:Int) - 1)=w'.length:=by rw [←hW];simpa using w0
   have hW0:W[0]?=some c:=by rw [←hW];rfl
   have hW1:W.head?=some c:=by rw [←hW];rfl
   have e5:=lG hE r3 ⟨cx.lim,N⟩ hl;have w5:=iQ w3;obtain ⟨a,c,q,hz,e6⟩|⟨v6,r6,h6,e6,g6⟩:=spl (iE hE [61] (bY r3) w5 ⟨cx.lim,N⟩ hl) (aF w5 [61] (by simp))
   ·rw [hz];simp -implicitDefEqProofs [af,aA,hN,fD,e1,e2,e3,e3b,hx,hc3,hm3,hf3,ef,q1,w0,el,q3,q3o,q3x,wW,hW0,hW1,e5,e6]
   rw [h6];simp only [OR.bind_ok];have w6:=g6.1;obtain ⟨a,c,q,hz,e7⟩|⟨u,r7,h7,e7,g7⟩:=spl (oN hE r6 w6.at_ ⟨cx.lim,N⟩ hl) (gK w6)
   ·rw [hz];simp -implicitDefEqProofs [af,aA,hN,fD,e1,e2,e3,e3b,hx,hc3,hm3,hf3,ef,q1,w0,el,q3,q3o,q3x,wW,hW0,hW1,e5,e6,e7]
   rw [h7];simp only [OR.bind_ok];obtain ⟨w7,ku⟩:=oJ w6 h7;have e7b:=oN hE r7 w7.at_ ⟨cx.lim,N⟩ hl;rw [(qH h7).1] at e7b;simp only [dD] at e7b;obtain ⟨k2,i2,a2⟩:=u;have hil:i2.length≤src.length:=ku.len;have ef2:=qc hE (Af W (k2,i2,a2)) r7 w7 ⟨cx.lim,N⟩ hl
   cases hb2:Af W (k2,i2,a2) with
   | false=>
    rw [hb2] at ef2;obtain ⟨a9,c9,r9,h9⟩:=zl src r7;rw [h9] at ef2 ⊢;simp only [dA] at ef2;simp only [OR.bind_er,dA];unfold Af at hb2;by_cases p1:¬k2=2
    ·simp -implicitDefEqProofs [af,aA,hN,fD,e1,e2,e3,e3b,hx,hc3,hm3,hf3,ef,q1,w0,el,q3,q3o,q3x,wW,hW0,hW1,e5,e6,e7,e7b,ef2,p1]
    have p1:=Classical.not_not.1 p1;rw [p1] at hb2;simp [q3o,q3x] at hb2
   | true=>
    rw [hb2] at ef2;rw [pF] at ef2 ⊢;simp only [dD] at ef2;simp only [OR.bind_ok];have p1:k2=2:=F6 hb2;have e10:=lG hE r7 ⟨cx.lim,N⟩ hl;have w10:=iQ w7;obtain ⟨a,c,q,hz,e11⟩|⟨v11,r11,h11,e11,g11⟩:=spl (iE hE [41] (bY r7) w10 ⟨cx.lim,N⟩ hl) (aF w10 [41] (by simp))
    ·rw [hz];simp -implicitDefEqProofs [af,aA,hN,fD,e1,e2,e3,e3b,hx,hc3,hm3,hf3,ef,q1,w0,el,q3,q3o,q3x,wW,hW0,hW1,e5,e6,e7,e7b,ef2,p1,e10,e11]
    rw [h11];simp only [OR.bind_ok];have hc11:=vG hE r11;have hm11:=hE.pm r11;have hpt:=tN W r11.pre;have hs11:=PL hE r11 (qR r11.pre W);have hlm:cx.lim≤m:=hl;simp -implicitDefEqProofs [af,aA,hN,fD,e1,e2,e3,e3b,hx,hc3,hm3,hf3,ef,q1,w0,el,q3,q3o,q3x,wW,hW0,hW1,e5,e6,e7,e7b,ef2,p1,e10,e11,hc11,hm11,hpt,hs11,hlim,hlm,uH]
end
end Go.Ai.Z
namespace Go.Ai.Z
theorem aan (N a0:Nat):∀(xs l:List Ax) (r:Rd) {l':List Ax} {q:Rd},BL N a0 xs l r=.ok l' q→q.at_=r.at_∧q.ah=r.ah∧q.op=r.op∧l'=l++xs.map (fun x=>{ x with op:=r.op })∧(∀x∈xs,iT { x with op:=r.op }=0)∧q.pre=r.pre∧q.iri=r.iri
 | [],l,r,l',q,h=>by cases h;simp
 | x::xs,l,r,l',q,h=>by
  unfold BL at h
  split at h
  ·rename_i hc;obtain ⟨h1,h2,h3,h4,h5,h6,h7⟩:=aan N a0 xs _ _ h;refine ⟨h1,h2,h3,by rw [h4];simp,fun y hy=>?_,h6,h7⟩;rcases List.mem_cons.1 hy with rfl|hy
   ·exact hc
   ·exact h5 y hy
  ·cases h
theorem afK {src:Rl} {r q:Rd} (h:Wr src r) (h1:q.at_=r.at_) (h2:q.ah=r.ah):Wr src q∧rem src q=rem src r:=⟨⟨by rw [h1];exact h.at_,by rw [h2];exact h.ah⟩,by unfold rem;rw [h1,h2]⟩
theorem aaM {src:Rl} {n N:Nat} {l l':List Ax} {r q:Rd} (hr:Wr src r) (hn:rem src r<n) (hax:r.ax=axV N l) (h:FZ src n N l r=.ok l' q):Wr src q∧rem src q+1≤rem src r∧q.ax=axV N l'∧l'.length≤1024:=by
 unfold FZ at h;obtain ⟨t,r1,h1,h⟩:=OR.bind_eq h;obtain ⟨u,r2,h2,h⟩:=OR.bind_eq h;obtain ⟨u,r4,h4,h⟩:=OR.bind_eq h;obtain ⟨xs,r5,h5,h⟩:=OR.bind_eq h;obtain ⟨u,r6,h6,h⟩:=OR.bind_eq h;obtain ⟨l2,r7,h7,h⟩:=OR.bind_eq h;have g1:=(gK hr).ok h1;have g2:=(je g1.1 _).ok h2;have kp:=AZ src r2;have g4:=(aF (iQ g2.1) [40] (by simp)).ok h4;have hre:rem src { r4 with op:=false }<n:=by show rem src r4<n;omega
 have g5:=(X7 (n:=n) (w:=t.2.1) (Ue g4.1 false) hre).ok h5;have g6:=(aF g5.1 [41] (by simp)).ok h6
 have hax6:r6.ax=axV N l:=by
  rw [g6.2.2.2.2,g5.2.2.2.2];show r4.ax=_;rw [g4.2.2.2.2];show r2.ax=_;rw [g2.2.2.2.2,g1.2.2.2.2,hax]
 have k7:=aan N _ xs l r6 h7;have a7:=VK N _ xs l r6 hax6 h7;have w7:=afK g6.1 k7.1 k7.2.1;have k5:rem src r5≤rem src r4:=g5.2.1
 split at h
 ·cases h
 ·rename_i hlen;cases h;exact ⟨w7.1,by rw [w7.2];omega,a7,by omega⟩
theorem Nb {src:Rl}:∀(n:Nat) (r:Rd),Wr src r→rem src r<n→uD src r 0 (EJ src n r)
 | 0,r,_,hn=>absurd hn (by omega)
 | n+1,r,hr,hn=>by
  unfold EJ;refine uD.bind (k:=0) (j:=0) (mV hr _).p (fun b q e h1 h2=>?_) (by omega);split
  ·refine uD.bind (k:=1) (j:=0) (UR h1) (fun _ q2 e2 h3 h4=>?_) (by omega);exact Nb n q2 h3 (by omega)
  ·exact (aG.mk h1).p
theorem Nc {src:Rl}:∀(k:Nat) (r:Rd),Wr src r→uD src r 0 (F5 src k r)
 | 0,r,hr=>(aG.mk hr).p
 | k+1,r,hr=>by
  unfold F5;refine uD.bind (k:=0) (j:=0) (gK hr).p (fun t q e h1 h2=>?_) (by omega);split
  ·have h:=Nc k (bY q) (iQ h1);have kp:=AZ src q
   cases hx:F5 src k (bY q) with
   | er a c q2=>rw [hx] at h;exact h
   | ok v q2=>rw [hx] at h;obtain ⟨g1,g2,g3⟩:=h;exact ⟨g1,by omega,g3⟩
  ·exact (aG.mk h1).p
def lpE (S:Rd→St) (X:St) (k:Nat) (E:Env) (x:OR Unit):Out:=
 match x with
 | .ok _ r=>.exit k E (S r++X)
 | .er a c r=>.pan (flt a c) (S r++X)
@[simp] theorem ad6 (S:Rd→St) (X:St) (k:Nat) (E:Env) (v:Unit) (r:Rd):lpE S X k E (.ok v r)=.exit k E (S r++X):=rfl
@[simp] theorem ad7 (S:Rd→St) (X:St) (k:Nat) (E:Env) (a:Nat) (c:Int) (r:Rd):lpE S X k E (.er a c r)=.pan (flt a c) (S r++X):=rfl
section
variable {src:Rl} {S:Rd→St} {m N:Nat} (hE:yE src S m N)
include hE
theorem aej (cx:Ctx) (hl:cx.lim≤m):∀(n:Nat) (r:Rd),Wr src r→rem src r<n→
  gU (aC P0.glob (aj P0) cx true iC) [0] [(0,.v (.pt (m+1) 0))] (S r)=lpE S [] 0 [(0,.v (.pt (m+1) 0)),(4,.v (.b false))] (EJ src n r)
 | 0,r,_,hn=>absurd hn (by omega)
 | n+1,r,ha,hn=>by
  unfold EJ;have e1:=JX hE wC0 r ha cx hl;have g1:=mV ha wC0
  cases h1:isR src wC0 r with
  | er a c q=>
   rw [h1] at e1;simp only [dA] at e1;refine ak fun K hK=>?_;simp -implicitDefEqProofs [iC,e1]
  | ok b r1=>
   rw [h1] at e1;have k1:=g1.ok h1;simp only [dD] at e1;simp only [OR.bind_ok]
   cases b with
   | false=>
    refine ak fun K hK=>?_;simp -implicitDefEqProofs [iC,e1]
   | true=>
    simp only [if_true];have e2:=afd hE r1 k1.1 cx hl;have g2:=UR k1.1
    cases h2:Ob src r1 with
    | er a c q=>
     rw [h2] at e2;simp only [dA] at e2;refine ak fun K hK=>?_;simp -implicitDefEqProofs [iC,e1,e2]
    | ok v r2=>
     rw [h2] at e2;have k2:=g2.ok h2;simp only [dD] at e2;simp only [OR.bind_ok];have ih:=aej cx hl n r2 k2.1 (by omega);refine ak fun K hK=>?_;rw [←hK] at ih;rw [←ih];simp -implicitDefEqProofs [iC,e1,e2]
theorem aei (cx:Ctx) (hl:cx.lim≤m):∀(k:Nat) (i:Nat) (r:Rd),Wr src r→i+k=2→
  ∃j:Int,gU (aC P0.glob (aj P0) cx true iw) [0,2] [(0,.v (.pt (m+1) 0)),(2,.v (.i .i64 i))] (S r)=lpE S [] 2 [(0,.v (.pt (m+1) 0)),(2,.v (.i .i64 j)),(29,.v (.b false))] (F5 src k r)
 | 0,i,r,ha,hi=>by
  have h2:¬(i:Int)<2:=by omega
  refine ⟨i,ak fun K hK=>?_⟩;simp -implicitDefEqProofs [iw,h2,F5]
 | k+1,i,r,ha,hi=>by
  have h2:(i:Int)<2:=by omega
  have hwi:=wI (i:=i) (by omega);unfold F5;have e1:=oN hE r ha.at_ cx hl;have g1:=gK ha
  cases h1:iI src r with
  | er a c q=>
   rw [h1] at e1;simp only [dA] at e1;refine ⟨0,ak fun K hK=>?_⟩;simp -implicitDefEqProofs [iw,h2,e1]
  | ok t r1=>
   rw [h1] at e1;have k1:=g1.ok h1;obtain ⟨t1,t2,t3⟩:=t;simp only [dD,fD] at e1;simp only [OR.bind_ok];by_cases q:t1=2
   ·rw [if_pos q];have e2:=lG hE r1 cx hl;obtain ⟨j,ih⟩:=aei cx hl k (i+1) (bY r1) (iQ k1.1) (by omega);refine ⟨j,ak fun K hK=>?_⟩;rw [←hK,show ((i+1:Nat):Int)=(i:Int)+1 from rfl] at ih;rw [←ih];simp -implicitDefEqProofs [iw,h2,e1,q,e2,hwi]
   ·rw [if_neg q];refine ⟨i,ak fun K hK=>?_⟩;simp -implicitDefEqProofs [iw,h2,e1,q]
def aie (S:Rd→St) (m:Nat) (X:St) (x:OR (List Ax)):Out:=
 match x with
 | .ok l r=>.exit 4 [(0,.v (.pt (m+1) 0)),(36,.v (.b false))] (S r++axT l)
 | .er a c r=>.pan (flt a c) (S r++X)
omit hE in
@[simp] theorem agt (S:Rd→St) (m:Nat) (X:St) (l:List Ax) (r:Rd):aie S m X (.ok l r)=.exit 4 [(0,.v (.pt (m+1) 0)),(36,.v (.b false))] (S r++axT l):=rfl
omit hE in
@[simp] theorem agu (S:Rd→St) (m:Nat) (X:St) (a:Nat) (c:Int) (r:Rd):aie S m X (.er a c r)=.pan (flt a c) (S r++X):=rfl
theorem aeh (n:Nat) (hn2:n≤100000) (cx:Ctx) (hl:cx.lim≤m) (hb:cx.base≤m):∀(k:Nat) (l:List Ax) (r:Rd),Wr src r→rem src r<k→rem src r<n→r.ax=axV N l→l.length≤1024→
  ∃X,gU (aC P0.glob (aj P0) cx true fF) [0] [(0,.v (.pt (m+1) 0))] (S r++axT l)=aie S m X (IB src n N k l r)
 | 0,l,r,_,hk,_,_,_=>absurd hk (by omega)
 | k+1,l,r,ha,hk,hn,hax,hll=>by
  have hA:=hE.app (axT l);unfold IB;have e1:=JX hA [41] r ha cx hl;have g1:=mV ha [41]
  cases h1:isR src [41] r with
  | er a c q=>
   rw [h1] at e1;simp only [dA] at e1;refine ⟨axT l,ak fun K hK=>?_⟩;simp -implicitDefEqProofs [fF,e1]
  | ok b r1=>
   rw [h1] at e1;have k1:=g1.ok h1;simp only [dD] at e1;simp only [OR.bind_ok]
   cases b with
   | true=>
    refine ⟨[],ak fun K hK=>?_⟩;simp -implicitDefEqProofs [fF,e1]
   | false=>
    simp only [Bool.false_eq_true,if_false];have hax1:r1.ax=axV N l:=by rw [k1.2.2.2.2,hax]
    obtain ⟨X,e2⟩:=aiA hE n hn2 l hll r1 hax1 k1.1 (by omega) cx hl hb
    cases h2:FZ src n N l r1 with
    | er a c q=>
     rw [h2] at e2;simp only [pV] at e2;refine ⟨X,ak fun K hK=>?_⟩;simp -implicitDefEqProofs [fF,e1,e2]
    | ok l' r2=>
     rw [h2] at e2;simp only [WV] at e2;simp only [OR.bind_ok];obtain ⟨z1,z2,z3,z4⟩:=aaM k1.1 (by omega) hax1 h2;obtain ⟨Y,ih⟩:=aeh n hn2 cx hl hb k l' r2 z1 (by omega) (by omega) z3 z4;refine ⟨Y,ak fun K hK=>?_⟩;rw [←hK] at ih;rw [←ih];simp -implicitDefEqProofs [fF,e1,e2]
end
end Go.Ai.Z
namespace Go.Ai.Z
theorem V5 {src:Rl} (n N:Nat):∀(k:Nat) (l:List Ax) (r:Rd) {l':List Ax} {q:Rd},Wr src r→rem src r<n→r.ax=axV N l→l.length≤1024→IB src n N k l r=.ok l' q→Wr src q∧rem src q≤rem src r∧q.ax=axV N l'∧l'.length≤1024
 | 0,l,r,l',q,_,_,_,_,h=>by cases h
 | k+1,l,r,l',q,ha,hn,hax,hll,h=>by
  unfold IB at h;obtain ⟨b,r1,h1,h⟩:=OR.bind_eq h;have k1:=(mV ha [41]).ok h1;have hax1:r1.ax=axV N l:=by rw [k1.2.2.2.2,hax]
  split at h
  ·cases h;exact ⟨k1.1,by omega,hax1,hll⟩
  ·obtain ⟨l2,r2,h2,h⟩:=OR.bind_eq h;obtain ⟨z1,z2,z3,z4⟩:=aaM k1.1 (by omega) hax1 h2;obtain ⟨y1,y2,y3,y4⟩:=V5 n N k l2 r2 z1 (by omega) z3 z4 h;exact ⟨y1,by omega,y3,y4⟩
section
variable {src:Rl} {S:Rd→St} {m N:Nat} (hE:yE src S m N)
include hE
theorem ZU (n:Nat) (hn2:n≤100000) (r:Rd) (hr:r.ax=.ns) (ha:Wr src r) (hn:rem src r<n) (cx:Ctx) (hl:cx.lim≤m) (hb:cx.base≤m):
  ∃X,aj P0 (.fn (.func lN) [] []) [.pt (m+1) 0] (S r) cx=ag7 S X (Wv src n N r):=by
 unfold Wv;have d1:=aej hE cx hl n r ha hn;have dg1:=Nb n r ha hn
 cases hp1:EJ src n r with
 | er a c q=>
  rw [hp1] at d1;simp only [ad7,List.append_nil] at d1;simp only [OR.bind_er,pV];refine ⟨[],dY (by simp) ?_⟩;simp -implicitDefEqProofs [af,aY,d1]
 | ok v0 r0=>
  rw [hp1] at d1;have k1:=dg1.ok hp1;simp only [ad6,List.append_nil] at d1;simp only [OR.bind_ok];have w0:=k1.1;obtain ⟨a,c,q,hx,e1⟩|⟨b,r1,h1,e1,g1⟩:=spl (JX hE wC3 r0 w0 ⟨cx.lim,cx.base⟩ hl) (mV w0 wC3)
  ·rw [hx];simp only [OR.bind_er,pV];refine ⟨[],dY (by simp) ?_⟩;simp -implicitDefEqProofs [af,aY,d1,e1]
  rw [h1];simp only [OR.bind_ok];have w1:=g1.1;have hc:=vG hE r1;have hm:=hE.pm r1;have hf:=DK [58] r1.pre;have ef:=qc hE (b && decide ([58]∈r1.pre)) r1 w1 cx hl;have gf:=je w1 (b && decide ([58]∈r1.pre))
  cases hq:rG src (b && decide ([58]∈r1.pre)) r1 with
  | er a2 c2 r2=>
   rw [hq] at ef;simp only [dA] at ef;simp only [OR.bind_er,pV];refine ⟨[],dY (by simp) ?_⟩
   cases b with
   | false=>
    simp at ef;simp -implicitDefEqProofs [af,aY,d1,e1,ef]
   | true=>
    by_cases q:[58]∈r1.pre
    ·simp [q] at ef hf;simp -implicitDefEqProofs [af,aY,d1,e1,hc,hm,hf,ef]
    ·simp [q] at ef hf;simp -implicitDefEqProofs [af,aY,d1,e1,hc,hm,hf,ef]
  | ok v2 r2=>
   obtain ⟨hb2,hq2⟩:=zk hq;subst hq2;rw [hq] at ef;simp only [dD] at ef;simp only [OR.bind_ok];rw [Bool.and_eq_true,decide_eq_true_eq] at hb2;obtain ⟨hb3,q⟩:=hb2;subst hb3;simp only [q,if_true,decide_true,Bool.and_true] at ef hf;have ep:=lG hE r2 cx hl;have wp:=iQ w1;have kp:=AZ src r2;have e3:=iE hE [40] (bY r2) wp cx hl;have g3:=aF wp [40] (by simp)
   cases h3:lJ src [40] (bY r2) with
   | er a3 c3 r3=>
    rw [h3] at e3;simp only [dA] at e3;simp only [OR.bind_er,pV];refine ⟨[],dY (by simp) ?_⟩;simp -implicitDefEqProofs [af,aY,d1,e1,hc,hm,hf,ef,ep,e3]
   | ok v3 r3=>
    rw [h3] at e3;have k3:=g3.ok h3;simp only [dD] at e3;simp only [OR.bind_ok];obtain ⟨j,e4⟩:=aei hE cx hl 2 0 r3 k3.1 rfl;rw [show ((0:Nat):Int)=0 from rfl] at e4;have g4:=Nc 2 r3 k3.1
    cases h4:F5 src 2 r3 with
    | er a4 c4 r4=>
     rw [h4] at e4;simp only [ad7,List.append_nil] at e4;simp only [OR.bind_er,pV];refine ⟨[],dY (by simp) ?_⟩;simp -implicitDefEqProofs [af,aY,d1,e1,hc,hm,hf,ef,ep,e3,e4]
    | ok v4 r4=>
     rw [h4] at e4;have k4:=g4.ok h4;simp only [ad6,List.append_nil] at e4;simp only [OR.bind_ok];have g1':=g1
     have hax:r4.ax=axV N []:=by
      rw [k4.2.2,k3.2.2.2.2];show r2.ax=_;rw [g1'.2.2.2.2,k1.2.2,hr];rfl
     obtain ⟨X,e5⟩:=aeh hE n hn2 cx hl hb n [] r4 k4.1 (by omega) (by omega) hax (by simp);rw [show axT []=[] from rfl,List.append_nil] at e5;have e5:=(Zk (body:=aC P0.glob (aj P0) cx true fF) (keep:=[0]) (env:=[(0,.v (.pt (m+1) 0)),(2,.v (.i .i64 j)),(29,.v (.b false))]) (s:=S r4)).trans e5
     cases h5:IB src n N n [] r4 with
     | er a5 c5 r5=>
      rw [h5] at e5;simp only [agu] at e5;simp only [OR.bind_er,pV];refine ⟨X,dY (by simp) ?_⟩;simp -implicitDefEqProofs [af,aY,d1,e1,hc,hm,hf,ef,ep,e3,e4,e5]
     | ok l r5=>
      rw [h5] at e5;have w5:=V5 n N n [] r4 k4.1 (by omega) hax (by simp) h5;simp only [agt] at e5;simp only [OR.bind_ok];have hA:=hE.app (axT l);have e6:=lG hA r5 cx hl;have w6:=iQ w5.1;have e7:=oN hA (bY r5) w6.at_ cx hl;have g7:=gK w6
      cases h7:iI src (bY r5) with
      | er a7 c7 r7=>
       rw [h7] at e7;simp only [dA] at e7;simp only [OR.bind_er,pV];refine ⟨axT l,dY (by simp) ?_⟩;simp -implicitDefEqProofs [af,aY,d1,e1,hc,hm,hf,ef,ep,e3,e4,e5,e6,e7]
      | ok t r7=>
       rw [h7] at e7;have w7:=(g7.ok h7).1;obtain ⟨t1,t2,t3⟩:=t;simp only [dD,fD] at e7;simp only [OR.bind_ok];have e8:=qc hA (decide (t1=5)) r7 w7 cx hl
       cases h8:rG src (decide (t1=5)) r7 with
       | er a8 c8 r8=>
        rw [h8] at e8;simp only [dA] at e8;simp only [OR.bind_er,pV];refine ⟨axT l,dY (by simp) ?_⟩;simp -implicitDefEqProofs [af,aY,d1,e1,hc,hm,hf,ef,ep,e3,e4,e5,e6,e7,e8]
       | ok v8 r8=>
        rw [h8] at e8;simp only [dD] at e8;simp only [OR.bind_ok,WV];refine ⟨[],dY (by simp) ?_⟩;simp -implicitDefEqProofs [af,aY,d1,e1,hc,hm,hf,ef,ep,e3,e4,e5,e6,e7,e8]
end
end Go.Ai.Z
namespace Go.Ai.Z
theorem Wn (s X:St) (k:Nat):(s++X)[s.length+k]?=X[k]?:=by rw [List.getElem?_append_right (by omega),Nat.add_sub_cancel_left]
theorem UW (s X:St):(s++X)[s.length]?=X[0]?:=Wn s X 0
theorem Xf (s X:St) (k:Nat) (v:fQ):(s++X).set (s.length+k) v=s++X.set k v:=by rw [List.set_append_right _ _ (by omega),Nat.add_sub_cancel_left]
theorem aak (s X:St) (v:fQ):(s++X).set s.length v=s++X.set 0 v:=Xf s X 0 v
def r00:Rd:=⟨0,[],[],[],false,.ns⟩
def SO (s:St) (src:Rl) (r:Rd):St:=s++[.map (qx r.pre),rO src s.length r,.map (XU s.length),.map (Yq s.length)]
theorem aik (s:St) (src:Rl) (hs:src.length≤70000):yE src (SO s src) s.length (s.length+4) where
 cell r:=by unfold SO;rw [Wn];rfl
 sets r q h:=by unfold SO;rw [Xf,←h];rfl
 pm r:=by unfold SO;rw [UW];rfl
 setp r P:=by
  unfold SO
  have:=Xf s [.map (qx r.pre),rO src s.length r,.map (XU s.length),.map (Yq s.length)] 0 (.map (qx P))
  rw [Nat.add_zero] at this;rw [this];rfl
 im r:=by unfold SO;rw [Wn];rfl
 cm r:=by unfold SO;rw [Wn];rfl
 n r:=by simp [SO]
 src:=hs
theorem YE (src:Rl) (s:St) (cx:Ctx) (hl:cx.lim≤s.length) (hb:cx.base≤s.length):
  aj P0 (.fn (.func tH) [] []) [.sl (au src)] s cx=.ret (.pt (s.length+1) 0) (SO s src r00):=by
 refine Nr (by simp) ?_;have h1:cx.lim≤s.length+1:=by omega
 have h2:cx.lim≤s.length+2:=by omega
 have h3:cx.lim≤s.length+3:=by omega
 have h4:cx.base≤s.length+1:=by omega
 have h5:cx.base≤s.length+2:=by omega
 have h6:cx.base≤s.length+3:=by omega
 simp -implicitDefEqProofs [af,vM,dR,splice,Wn,UW,Xf,hl,h1,h2,h3,h4,h5,h6,Du,jF,uH,SO,rO,r00,XU,Yq,rdF,qx,ahV]
def Uz (N:Nat) (src:Rl):List Ax×Rl×Nat×Int:=
 if 65536<src.length then ([],[],0,2) else match Wv src (src.length+1) N r00 with
  | .ok l r=>(l,r.iri,0,0)
  | .er a c _=>([],[],a,c)
theorem aio {src:Rl} {N:Nat} {l:List Ax} {r:Rd} (h:Wv src (src.length+1) N r00=.ok l r):r.ax=axV N l∧l.length≤1024:=by
 unfold Wv at h;obtain ⟨u,r0,h0,h⟩:=OR.bind_eq h;obtain ⟨b,r1,h1,h⟩:=OR.bind_eq h;obtain ⟨u,r2,h2,h⟩:=OR.bind_eq h;obtain ⟨u,r3,h3,h⟩:=OR.bind_eq h;obtain ⟨u,r4,h4,h⟩:=OR.bind_eq h;obtain ⟨l2,r5,h5,h⟩:=OR.bind_eq h;obtain ⟨t,r6,h6,h⟩:=OR.bind_eq h;obtain ⟨u,r7,h7,h⟩:=OR.bind_eq h;cases h;have w:Wr src r00:=⟨by simp [r00],by simp [r00]⟩;have hn:rem src r00<src.length+1:=by simp [rem,r00]
 have g0:=(Nb _ _ w hn).ok h0;have g1:=(mV g0.1 _).ok h1;have g2:=(je g1.1 _).ok h2;have kp:=AZ src r2;have g3:=(aF (iQ g2.1) [40] (by simp)).ok h3;have g4:=(Nc 2 r3 g3.1).ok h4;have hax:r4.ax=axV N []:=by rw [g4.2.2,g3.2.2.2.2];show r2.ax=_;rw [g2.2.2.2.2,g1.2.2.2.2,g0.2.2];rfl
 have g5:=V5 _ N _ [] r4 g4.1 (by omega) hax (by simp) h5;have g6:=(gK (iQ g5.1)).ok h6;have g7:=(je g6.1 _).ok h7;refine ⟨?_,g5.2.2.2⟩;rw [g7.2.2.2.2,g6.2.2.2.2];exact g5.2.2.1
theorem IW (n:Nat) (x:Ax):(cu x).under n=true:=by
 have h:∀l:List Rl,bW n (l.map AV.s)=true:=fun l=>by induction l with|nil=>rfl|cons a r ih=>simp [bW,AV.under,ih]
 rw [show cu x=.ag (cellsA x) from rfl,cellsA];simp [-acu,AV.under,bW,h]
theorem E5 (n:Nat):∀l:List Ax,bW n (l.map cu)=true
 | []=>rfl
 | x::l=>by simp [bW,IW,E5 n l]
def I7:St:=[.cells [.ns],.cells [.s []],.cells [.i .i64 0],.cells [.i .i64 0]]
theorem aiC (src:Rl) (hs:src.length≤70000) (s:St) (cx:Ctx) (hl:cx.lim≤s.length):
  aj P0 (.fn (.func qm) [] []) [.sl (au src)] s cx=.ret (.tu [yc (Uz (s.length+8) src).1,.s (Uz (s.length+8) src).2.1,.i .i64 (Uz (s.length+8) src).2.2.1,.i .i64 (Uz (s.length+8) src).2.2.2]) s:=by
 refine Tf (d:=rX) rfl rfl rfl (by simp) ?_;have hbl:=jg src;have l1:cx.lim≤s.length+1:=by omega
 have l2:cx.lim≤s.length+2:=by omega
 have l3:cx.lim≤s.length+3:=by omega
 unfold Uz;by_cases q:65536<src.length
 ·rw [if_pos q];have qi:(65536:Int)<(src.length:Int):=by omega
  simp -implicitDefEqProofs [yh,rX,zD,XF,hbl,qi,hl,l1,l2,l3,Wn,UW,Xf,aak,yc,frz,AV.under,bW]
 ·rw [if_neg q];have qi:¬(65536:Int)<(src.length:Int):=by omega
  have hE:=aik (s++I7) src hs;have hL:(s++I7).length=s.length+4:=by simp [I7]
  have e1:=YE src (s++I7) ⟨cx.lim,s.length⟩ (by rw [hL];show cx.lim≤_;omega) (by rw [hL];show s.length≤_;omega);obtain ⟨X,e2⟩:=ZU hE (src.length+1) (by omega) r00 rfl ⟨by simp [r00],by simp [r00]⟩ (by simp [rem,r00]) ⟨cx.lim,s.length⟩ (by rw [hL];show cx.lim≤_;omega) (by rw [hL];show s.length≤_;omega);rw [hL,show s.length+4+4=s.length+8 from rfl] at e2;rw [hL] at e1
  cases hd:Wv src (src.length+1) (s.length+8) r00 with
  | er a c r=>
   rw [hd] at e2;simp only [pV] at e2;simp only [Az];obtain ⟨Y,hY⟩:∃Y,SO (s++I7) src r++X=s++(fQ.cells [.ns]::fQ.cells [.s []]::fQ.cells [.i .i64 0]::fQ.cells [.i .i64 0]::Y):=⟨[.map (qx r.pre),rO src (s++I7).length r,.map (XU (s++I7).length),.map (Yq (s++I7).length)]++X,by simp [SO,I7]⟩;rw [hY] at e2;generalize SO (s++I7) src r00=S1 at *;unfold I7 at *;simp -implicitDefEqProofs [yh,rX,zD,XF,hbl,qi,e1,e2,placeOf,EN,vY,mX,zJ,vO,flt,hl,l1,l2,l3,Wn,UW,Xf,aak,frz,AV.under,bW,show AV.ns.flat=true from rfl]
  | ok l r=>
   rw [hd] at e2;simp only [WV] at e2;have hax:=(aio hd).1;have hY:SO (s++I7) src r++axT l=s++(fQ.cells [.ns]::fQ.cells [.s []]::fQ.cells [.i .i64 0]::fQ.cells [.i .i64 0]::.map (qx r.pre)::.cells [.sl (au src),.i .i64 r.at_,ahV r.ah,.mp (s.length+4),.s r.iri,.b r.op,axV (s.length+8) l,.mp (s.length+4+2),.mp (s.length+4+3)]::.map (XU (s.length+4))::.map (Yq (s.length+4))::axT l):=by simp [SO,I7,rO,hax]
   rw [hY] at e2;generalize SO (s++I7) src r00=S1 at *;unfold I7 at *;have h5:s.length+4+1=s.length+5:=rfl
   cases l with
   | nil=>
    simp only [axV,axT,h5] at e2;simp -implicitDefEqProofs [yh,rX,zD,XF,hbl,qi,e1,e2,placeOf,EN,vY,mX,zJ,vO,flt,hl,l1,l2,l3,Wn,UW,Xf,aak,frz,Ak,AV.under,bW,h5,yc,LX,IW,E5,show AV.ns.flat=true from rfl]
   | cons x l=>
    simp only [axV,axT,h5] at e2;simp -implicitDefEqProofs [yh,rX,zD,XF,hbl,qi,e1,e2,placeOf,EN,vY,mX,zJ,vO,flt,hl,l1,l2,l3,Wn,UW,Xf,aak,frz,Ak,AV.under,bW,h5,yc,LX,IW,E5,show AV.ns.flat=true from rfl]
end Go.Ai.Z
namespace Go.Ai.Z
inductive SmC:C→C→Prop where
 | mk (k:Int) (n:Rl) (l h:Int) (z w:Bool) (ps qs:List C) (hl:ps.length=qs.length) (hb:ps.length≤1000000)
   (hp:∀(i:Nat) (p q:C),ps[i]?=some p→qs[i]?=some q→SmC p q):SmC (.mk k n l h z ps) (.mk k n l h w qs)
theorem aec (k:Int) (n:Rl) (l h:Int) (z w:Bool) (ps qs:List C) (hl:ps.length=qs.length) (hb:ps.length≤1000000)
  (hp:∀(i:Nat) (p q:C),ps[i]?=some p→qs[i]?=some q→∀(s:St) (cx:Ctx),aj P0 (.fn (.func pI) [] []) [aJ p,aJ q] s cx=.ret (.b true) s) (s:St) (cx:Ctx):∀(rest:List C) (i:Nat),ps.drop i=rest→i≤ps.length→
  gU (aC P0.glob (aj P0) cx false vK) [2,3,5] [(2,.bx [.i .i64 k,.s n,.i .i64 l,.i .i64 h,slf z (ps.map aJ)]),(3,.bx [.i .i64 k,.s n,.i .i64 l,.i .i64 h,slf w (qs.map aJ)]),(5,.v (.i .i64 i))] s=
   .exit 0 [(2,.bx [.i .i64 k,.s n,.i .i64 l,.i .i64 h,slf z (ps.map aJ)]),(3,.bx [.i .i64 k,.s n,.i .i64 l,.i .i64 h,slf w (qs.map aJ)]),(5,.v (.i .i64 ps.length)),(45,.v (.b false))] s
 | [],i,hd,hi=>by
  have h1:i=ps.length:=by have:=drop_nil hd;omega
  subst h1;refine ak fun K hK=>?_;simp -implicitDefEqProofs [vK]
 | c::rest,i,hd,hi=>by
  obtain ⟨h1,h2,h3,h4⟩:=drop_cons hd;have hq:i<qs.length:=by omega
  have h5:qs[i]?=some qs[i]:=List.getElem?_eq_getElem hq;have e1:=hp i c qs[i] h1 h5;generalize qs[i]=d at *;have hwi:=wI (i:=i) (by omega);have ih:=aec k n l h z w ps qs hl hb hp s cx rest (i+1) h2 (by omega);refine ak fun K hK=>?_;rw [←hK,show ((i+1:Nat):Int)=(i:Int)+1 from rfl] at ih;clear hK h4 hd hp;rw [←ih];clear ih;have g1:(ps.map aJ)[i]?=some (aJ c):=by rw [List.getElem?_map,h1];rfl
  have g2:(qs.map aJ)[i]?=some (aJ d):=by rw [List.getElem?_map,h5];rfl
  have z1:(ps.map aJ).length=ps.length:=List.length_map _;generalize ps.map aJ=P at *;generalize qs.map aJ=Q at *;have h3i:(i:Int)<(ps.length:Int):=by omega
  simp -implicitDefEqProofs [vK,z1,h3i,g1,g2,e1,hwi]
theorem afc {a b:C} (h:SmC a b):∀(s:St) (cx:Ctx),aj P0 (.fn (.func pI) [] []) [aJ a,aJ b] s cx=.ret (.b true) s:=by
 induction h with
 | mk k n l h z w ps qs hl hb hp ih=>
  intro s cx;refine TK (by simp) ?_;have e1:=aec k n l h z w ps qs hl hb ih s ⟨s.length,s.length⟩ ps 0 rfl (by omega);rw [show ((0:Nat):Int)=0 from rfl] at e1;rw [yg,yg (.mk k n l h w qs)];simp -implicitDefEqProofs [-UY,af,zi,e1,hl]
theorem aaH (ps:List Rl) (z w:Bool) (hb:ps.length≤1000000) (s:St) (cx:Ctx):∀(rest:List Rl) (i:Nat),ps.drop i=rest→i≤ps.length→
  gU (aC P0.glob (aj P0) cx false o9) [0,1,5] [(0,.v (slf z (ps.map .s))),(1,.v (slf w (ps.map .s))),(5,.v (.i .i64 i))] s=
   .exit 0 [(0,.v (slf z (ps.map .s))),(1,.v (slf w (ps.map .s))),(5,.v (.i .i64 ps.length)),(14,.v (.b false))] s
 | [],i,hd,hi=>by
  have h1:i=ps.length:=by have:=drop_nil hd;omega
  subst h1;refine ak fun K hK=>?_;simp -implicitDefEqProofs [o9]
 | c::rest,i,hd,hi=>by
  obtain ⟨h1,h2,h3,h4⟩:=drop_cons hd;have hwi:=wI (i:=i) (by omega);have ih:=aaH ps z w hb s cx rest (i+1) h2 (by omega);refine ak fun K hK=>?_;rw [←hK,show ((i+1:Nat):Int)=(i:Int)+1 from rfl] at ih;clear hK h4 hd;rw [←ih];clear ih;have g1:(ps.map AV.s)[i]?=some (.s c):=by rw [List.getElem?_map,h1];rfl
  have z1:(ps.map AV.s).length=ps.length:=List.length_map _;generalize ps.map AV.s=P at *;have h3i:(i:Int)<(ps.length:Int):=by omega
  simp -implicitDefEqProofs [o9,z1,h3i,g1,hwi]
theorem agQ (ps:List Rl) (z w:Bool) (hb:ps.length≤1000000) (s:St) (cx:Ctx):aj P0 (.fn (.func qX) [] []) [slf z (ps.map .s),slf w (ps.map .s)] s cx=.ret (.b true) s:=by
 refine Lh (by simp) ?_;have e1:=aaH ps z w hb s ⟨s.length,s.length⟩ ps 0 rfl (by omega);rw [show ((0:Nat):Int)=0 from rfl] at e1;simp -implicitDefEqProofs [af,uq,e1]
structure SmA (x y:Ax):Prop where
 kind:x.kind=y.kind
 op:x.op=y.op
 l:SmC x.left y.left
 r:SmC x.right y.right
 roles:x.roles=y.roles
 rb:x.roles.length≤1000000
 role:x.role=y.role
 a:x.a=y.a
 b:x.b=y.b
theorem agR {x y:Ax} (h:SmA x y) (s:St) (cx:Ctx):aj P0 (.fn (.func pG) [] []) [cu x,cu y] s cx=.ret (.b true) s:=by
 refine Jz (by simp) ?_;have e1:=afc h.l;have e2:=afc h.r;have e3:=agQ x.roles x.z y.z h.rb
 have e4:∀b:Bool,(b == b)=true:=fun b=>by cases b<;>rfl
 rw [yg,yg y.left] at e1;rw [yg,yg y.right] at e2;obtain ⟨k1,o1,l1,r1,z1,R1,ro1,a1,b1⟩:=x;obtain ⟨k2,o2,l2,r2,z2,R2,ro2,a2,b2⟩:=y;obtain ⟨h1,h2,_,_,h5,_,h6,h7,h8⟩:=h;simp only at h1 h2 h5 h6 h7 h8 e1 e2 e3;subst h1 h2 h5 h6 h7 h8
 cases o1<;>simp -implicitDefEqProofs [-UY,af,su,e1,e2,e3]
theorem aaG (X Y:List Ax) (z w:Bool) (hl:X.length=Y.length) (hb:X.length≤1000000) (hp:∀(i:Nat) (p q:Ax),X[i]?=some p→Y[i]?=some q→SmA p q) (s:St) (cx:Ctx):∀(rest:List Ax) (i:Nat),X.drop i=rest→i≤X.length→
  gU (aC P0.glob (aj P0) cx false nM) [0,1,5] [(0,.v (slf z (X.map cu))),(1,.v (slf w (Y.map cu))),(5,.v (.i .i64 i))] s=
   .exit 0 [(0,.v (slf z (X.map cu))),(1,.v (slf w (Y.map cu))),(5,.v (.i .i64 X.length)),(14,.v (.b false))] s
 | [],i,hd,hi=>by
  have h1:i=X.length:=by have:=drop_nil hd;omega
  subst h1;refine ak fun K hK=>?_;simp -implicitDefEqProofs [nM]
 | c::rest,i,hd,hi=>by
  obtain ⟨h1,h2,h3,h4⟩:=drop_cons hd;have hq:i<Y.length:=by omega
  have h5:Y[i]?=some Y[i]:=List.getElem?_eq_getElem hq;have e1:=agR (hp i c Y[i] h1 h5);generalize Y[i]=d at *;have hwi:=wI (i:=i) (by omega);have ih:=aaG X Y z w hl hb hp s cx rest (i+1) h2 (by omega);refine ak fun K hK=>?_;rw [←hK,show ((i+1:Nat):Int)=(i:Int)+1 from rfl] at ih;clear hK h4 hd hp;rw [←ih];clear ih;have g1:(X.map cu)[i]?=some (cu c):=by rw [List.getElem?_map,h1];rfl
  have g2:(Y.map cu)[i]?=some (cu d):=by rw [List.getElem?_map,h5];rfl
  have z1:(X.map cu).length=X.length:=List.length_map _;generalize X.map cu=P at *;generalize Y.map cu=Q at *;have h3i:(i:Int)<(X.length:Int):=by omega
  simp -implicitDefEqProofs [nM,z1,h3i,g1,g2,e1,hwi]
theorem afb (X Y:List Ax) (z w:Bool) (hl:X.length=Y.length) (hb:X.length≤1000000) (hp:∀(i:Nat) (p q:Ax),X[i]?=some p→Y[i]?=some q→SmA p q) (s:St) (cx:Ctx):
  aj P0 (.fn (.func oH) [] []) [slf z (X.map cu),slf w (Y.map cu)] s cx=.ret (.b true) s:=by
 refine H9 (by simp) ?_;have e1:=aaG X Y z w hl hb hp s ⟨s.length,s.length⟩ X 0 rfl (by omega);rw [show ((0:Nat):Int)=0 from rfl] at e1;simp -implicitDefEqProofs [af,qC,e1,hl]
end Go.Ai.Z
namespace Go.Ai.Z
abbrev Tx:=Int×Rl
theorem acF {c:UInt8} (h:(c.toNat:Int)=35):Bd c=true:=by unfold Bd;rw [h];rfl
theorem Fe:∀(n m:Nat) (v:Rl),v.length≤n→v.length≤m→skN n v=skN m v
 | 0,m,v,h1,h2=>by
  cases v with
  | nil=>cases m<;>rfl
  | cons c r=>simp at h1
 | n+1,m,[],h1,h2=>by cases m<;>rfl
 | n+1,0,c::r,h1,h2=>by simp at h2
 | n+1,m+1,c::r,h1,h2=>by
  simp at h1 h2;unfold skN;split
  ·rw [Fe n m r h1 h2]
  split
  ·rename_i hc;have hk:1≤kU Bd (c::r):=by simp [kU,acF hc]
   have hd:((c::r).drop (kU Bd (c::r))).length≤r.length:=by rw [List.length_drop];simp;omega
   rw [Fe n m _ (by omega) (by omega)]
  ·rfl
def skp (v:Rl):Rl:=v.drop (skN v.length v)
def Nx (v:Rl) (t:Tx) (w:Rl):Prop:=skp v=t.2++w∧t.2≠[]∧kV (t.2++w)=(t.1,t.2.length)
def Ly (P:Rl→Prop):Rl→List Tx→Prop
 | v,[]=>P v
 | v,t::L=>∃w,Nx v t w∧Ly P w L
def NxE (v:Rl):Prop:=skp v=[]
def My (P:Rl→Prop) (src:Rl) (r:Rd) (L:List Tx):Prop:=
 match r.ah with
 | []=>Ly P (src.drop r.at_) L
 | t::_=>∃M,L=(t.1,t.2.1)::M∧Ly P (src.drop r.at_) M
structure Fq (r q:Rd):Prop where
 pre:q.pre=r.pre
 iri:q.iri=r.iri
 op:q.op=r.op
 ax:q.ax=r.ax
theorem Fq.rfl' (r:Rd):Fq r r:=⟨rfl,rfl,rfl,rfl⟩
theorem Fq.tr {r q p:Rd} (h:Fq r q) (g:Fq q p):Fq r p:=⟨g.pre.trans h.pre,g.iri.trans h.iri,g.op.trans h.op,g.ax.trans h.ax⟩
theorem Fq.ps {r q:Rd} (h:Fq r q):Fq r (bY q):=⟨h.pre,h.iri,h.op,h.ax⟩
section
variable {P:Rl→Prop} {src:Rl}
theorem qA {r:Rd} {t:Tx} {L:List Tx} (h:My P src r (t::L)):∃a q,iI src r=.ok (t.1,t.2,a) q∧My P src q (t::L)∧My P src (bY q) L∧Fq r q:=by
 unfold My at h;unfold iI
 cases hh:r.ah with
 | cons u U=>
  rw [hh] at h;obtain ⟨M,h1,h2⟩:=h;rw [List.cons.injEq] at h1;obtain ⟨h1,rfl⟩:=h1;subst h1;refine ⟨u.2.2,r,rfl, ?_, ?_,Fq.rfl' r⟩
  ·unfold My;rw [hh];exact ⟨_,rfl,h2⟩
  ·exact h2
 | nil=>
  rw [hh] at h;obtain ⟨w,⟨h1,h2,h3⟩,h4⟩:=h
  have hs:src.drop (skO src r.at_)=t.2++w:=by
   unfold skO;rw [←List.drop_drop,Fe src.length (src.drop r.at_).length _ (by rw [List.length_drop];omega) (Nat.le_refl _)];exact h1
  have hlt:skO src r.at_<src.length:=by
   apply Classical.byContradiction;intro hc;rw [List.drop_eq_nil_of_le (by omega)] at hs
   cases ht:t.2 with
   | nil=>exact h2 ht
   | cons a b=>rw [ht] at hs;cases hs
  have hl:t.2.length≠0:=fun hc=>h2 (List.length_eq_zero_iff.1 hc);have htk:(t.2++w).take t.2.length=t.2:=by simp
  have hdr:src.drop (skO src r.at_+t.2.length)=w:=by rw [←List.drop_drop,hs];simp
  rw [if_pos hlt,hs,h3,if_neg hl,htk];refine ⟨skO src r.at_,_,rfl, ?_, ?_,⟨rfl,rfl,rfl,rfl⟩⟩
  ·exact ⟨L,rfl,by show Ly P (src.drop (skO src r.at_+t.2.length)) L;rw [hdr];exact h4⟩
  ·show Ly P (src.drop (skO src r.at_+t.2.length)) L;rw [hdr];exact h4
theorem aib {r:Rd} (h:My NxE src r []):∃a q,iI src r=.ok (5,[],a) q∧Fq r q:=by
 unfold My at h;unfold iI
 cases hh:r.ah with
 | cons u U=>rw [hh] at h;obtain ⟨M,h1,_⟩:=h;cases h1
 | nil=>
  rw [hh] at h
  have hs:src.drop (skO src r.at_)=[]:=by
   unfold skO;rw [←List.drop_drop,Fe src.length (src.drop r.at_).length _ (by rw [List.length_drop];omega) (Nat.le_refl _)];exact h
  rw [if_neg (by have:=List.drop_eq_nil_iff.1 hs;omega)];exact ⟨_,_,rfl,⟨rfl,rfl,rfl,rfl⟩⟩
theorem zS {r:Rd} {t:Tx} {L:List Tx} (h:My P src r (t::L)) (w:Rl):∃q,isR src w r=.ok (decide (t.2=w)) q∧My P src q (t::L)∧My P src (bY q) L∧Fq r q:=by
 obtain ⟨a,q,h1,h2,h3,h4⟩:=qA h;exact ⟨q,by unfold isR;rw [h1];rfl,h2,h3,h4⟩
theorem lH {r:Rd} {t:Tx} {L:List Tx} (h:My P src r (t::L)) {w:Rl} (ht:t.2=w):∃q,lJ src w r=.ok () q∧My P src q L∧Fq r q:=by
 obtain ⟨q,h1,h2,h3,h4⟩:=zS h w;refine ⟨bY q, ?_,h3,h4.ps⟩;unfold lJ;rw [h1,decide_eq_true ht];rfl
theorem QM {r:Rd} {t:Tx} {L:List Tx} (h:My P src r (t::L)) {w p:Rl} (ht:t.2=w) (hp:p∈r.pre):∃q,LC src w p r=.ok () q∧My P src q L∧Fq r q:=by
 obtain ⟨q,h1,h2,h3,h4⟩:=zS h w;refine ⟨bY q, ?_,h3,h4.ps⟩;unfold LC;rw [h1,decide_eq_true ht];simp only [OR.bind_ok,h4.pre,hp,decide_true,Bool.and_self,pF]
structure NmP (pre:List Rl) (n:Rl):Prop where
 ne:n≠[]
 own:(58:UInt8) ∉ n→([58]:Rl)∈pre
 far:∀x y,lD 58 n=some (x,y)→x≠[]∧y≠[]∧(58:UInt8) ∉ y∧x++[58]∈pre∧x≠[111,119,108]∧x≠[120,115,100]
theorem adU {pre:List Rl} {n:Rl} (h:NmP pre n) (a:Nat):QL pre (4,owN n,a)=true∧WZ (owN n)=n:=by
 unfold owN;by_cases q:(58:UInt8)∈n
 ·rw [if_pos q]
  obtain ⟨x,y,hc⟩:∃x y,lD 58 n=some (x,y):=by
   cases hc:lD 58 n with
   | none=>exact absurd q (yY.1 hc)
   | some p=>exact ⟨p.1,p.2,rfl⟩
  obtain ⟨h1,h2,h3,h4,h5,h6⟩:=h.far x y hc;have he:=wF hc;constructor
  ·unfold QL;simp only [hc]
   have hy:y.isEmpty=false:=by cases y<;>simp_all
   simp [hy,h3,h4,h5,h6]
  ·unfold WZ trimB
   cases n with
   | nil=>rfl
   | cons c r=>
    have hcc:c≠58:=by
     intro hc2;subst hc2;simp [lD] at hc;exact h1 hc.1
    simp only;rw [if_neg hcc]
 ·rw [if_neg q]
  have hn:n.isEmpty=false:=by
   cases n with
   | nil=>exact absurd rfl h.ne
   | cons=>rfl
  constructor
  ·unfold QL;simp only [lD,if_true];simp [hn,q,h.own q]
  ·simp [WZ,trimB]
theorem rW {r:Rd} {n:Rl} {L:List Tx} (h:My P src r ((4,owN n)::L)) (hn:NmP r.pre n):∃q,oh src r=.ok n q∧My P src q L∧Fq r q:=by
 obtain ⟨a,q,h1,h2,h3,h4⟩:=qA h;obtain ⟨k1,k2⟩:=adU hn a;refine ⟨bY q, ?_,h3,h4.ps⟩;unfold oh;rw [h1];simp only [OR.bind_ok,h4.pre,k1,pF,k2]
end
theorem Ut {c:UInt8} (h:c=32∨c=10) (v:Rl):skp (c::v)=skp v:=by
 unfold skp
 have:skN (c::v).length (c::v)=1+skN v.length v:=by
  simp only [List.length_cons,skN]
  rw [if_pos (by rcases h with rfl|rfl<;>simp)]
 rw [this,Nat.add_comm];rfl
theorem Fb {c:UInt8} (h:¬((c.toNat:Int)=9∨(c.toNat:Int)=10∨(c.toNat:Int)=13∨(c.toNat:Int)=32)) (h2:¬(c.toNat:Int)=35) (v:Rl):skp (c::v)=c::v:=by
 unfold skp
 have:skN (c::v).length (c::v)=0:=by simp only [List.length_cons,skN];rw [if_neg h,if_neg h2]
 rw [this];rfl
theorem adS {c:UInt8} (h:c=32∨c=10) {v w:Rl} {t:Tx} (hx:Nx v t w):Nx (c::v) t w:=by
 unfold Nx;rw [Ut h];exact hx
theorem ad5 {P:Rl→Prop} {c:UInt8} (h:c=32∨c=10) {v:Rl} {t:Tx} {L:List Tx} (hx:Ly P v (t::L)):Ly P (c::v) (t::L):=by
 obtain ⟨w,h1,h2⟩:=hx;exact ⟨w,adS h h1,h2⟩
theorem VU {c:UInt8} (h:c=40∨c=41∨c=61) (v:Rl):Nx (c::v) (1,[c]) v:=by
 unfold Nx;refine ⟨?_,by simp, ?_⟩
 ·rw [Fb]<;>rcases h with rfl|rfl|rfl<;>simp
 ·rcases h with rfl|rfl|rfl<;>simp [kV]
theorem Xy (v:Rl):Nx (94::94::v) (1,[94,94]) v:=by
 unfold Nx;refine ⟨?_,by simp, ?_⟩
 ·rw [Fb]<;>simp
 ·simp [kV]
theorem Uf {c:UInt8} (h:zW c=true):¬((c.toNat:Int)=9∨(c.toNat:Int)=10∨(c.toNat:Int)=13∨(c.toNat:Int)=32)∧¬(c.toNat:Int)=35∧¬((c.toNat:Int)=40∨(c.toNat:Int)=41∨(c.toNat:Int)=61)∧¬(c.toNat:Int)=94∧¬(c.toNat:Int)=60∧¬(c.toNat:Int)=34:=by
 unfold zW wdI ltI at h;simp only [Bool.or_eq_true,Bool.and_eq_true,decide_eq_true_eq] at h;omega
theorem Fa {p:UInt8→Bool}:∀{w:Rl},w.all p=true→∀{v:Rl},(∀c∈v.head?,p c=false)→kU p (w++v)=w.length
 | [],_,v,hv=>by
  cases v with
  | nil=>rfl
  | cons c v=>have:=hv c (by simp);simp [kU,this]
 | c::w,h,v,hv=>by
  rw [List.all_cons,Bool.and_eq_true] at h;have ih:=Fa (p:=p) h.2 hv;unfold kU at ih ⊢;simp [h.1,ih]
theorem aat {w:Rl} (hw:w.all zW=true) (hn:w≠[]) {v:Rl} (hv:∀c∈v.head?,zW c=false):Nx (w++v) (4,w) v:=by
 unfold Nx
 cases w with
 | nil=>exact absurd rfl hn
 | cons c w=>
  have hc:zW c=true:=by rw [List.all_cons,Bool.and_eq_true] at hw;exact hw.1
  obtain ⟨h1,h2,h3,h4,h5,h6⟩:=Uf hc;refine ⟨by rw [List.cons_append,Fb h1 h2],hn, ?_⟩;have hs:=Fa hw hv;rw [List.cons_append] at hs ⊢;simp only [kV,if_neg h3,if_neg h4,if_neg h5,if_neg h6,hs]
theorem adR {p:Rl} (hp:p.all KZ=true) (v:Rl):Nx (60::(p++62::v)) (2,60::(p++[62])) v:=by
 unfold Nx;have hs:kU KZ (p++62::v)=p.length:=Fa hp (by intro c hc;simp at hc;subst hc;decide)
 refine ⟨by rw [Fb]<;>simp,by simp, ?_⟩
 have he:Nv KZ 62 (60::(p++62::v))=p.length+2:=by
  unfold Nv;rw [List.tail_cons,hs]
  have:(60::(p++62::v))[1+p.length]?=some 62:=by rw [Nat.add_comm];simp
  rw [if_pos this];omega
 simp [kV,he]
theorem adQ {p:Rl} (hp:p.all Vt=true) (v:Rl):Nx (34::(p++34::v)) (3,34::(p++[34])) v:=by
 unfold Nx;have hs:kU Vt (p++34::v)=p.length:=Fa hp (by intro c hc;simp at hc;subst hc;decide)
 refine ⟨by rw [Fb]<;>simp,by simp, ?_⟩
 have he:Nv Vt 34 (34::(p++34::v))=p.length+2:=by
  unfold Nv;rw [List.tail_cons,hs]
  have:(34::(p++34::v))[1+p.length]?=some 34:=by rw [Nat.add_comm];simp
  rw [if_pos this];omega
 simp [kV,he]
end Go.Ai.Z
namespace Go.Ai.Z
theorem agw {b:UInt8} (h:Zw b=true):zW b=true∧b≠58:=by
 unfold Zw aii abI at h;simp only [Bool.or_eq_true,Bool.and_eq_true,decide_eq_true_eq] at h;constructor
 ·unfold zW wdI ltI;simp only [Bool.or_eq_true,Bool.and_eq_true,decide_eq_true_eq];omega
 ·rintro rfl;revert h;decide
theorem J8:∀{l:Rl},Ip l=true→l.all zW=true∧(58:UInt8) ∉ l
 | [],_=>⟨rfl,by simp⟩
 | b::r,h=>by
  rw [IZ,Bool.and_eq_true] at h;obtain ⟨h1,h2⟩:=J8 h.2;obtain ⟨h3,h4⟩:=agw h.1;exact ⟨by rw [List.all_cons,h3,h1];rfl,by simp [h2,Ne.symm h4]⟩
theorem uK {l:Rl} (h:AP l=true):l≠[]∧l.all zW=true∧(58:UInt8) ∉ l∧(∃c r,l=c::r∧ltI c.toNat=true):=by
 unfold AP at h;rw [Bool.and_eq_true,Bool.and_eq_true] at h;obtain ⟨h1,h2⟩:=J8 h.1.2
 cases l with
 | nil=>simp at h
 | cons c r=>exact ⟨by simp,h1,h2,c,r,rfl,h.1.1⟩
def NmV (n:Rl):Prop:=oL n=true∨MF n=true
theorem RX {n:Rl} (h:(58:UInt8) ∉ n):lD 58 n=none:=yY.2 h
theorem UG {n:Rl} (h:NmV n):((58:UInt8) ∉ n∧n≠[]∧n.all zW=true)∨(∃x y,lD 58 n=some (x,y)∧AP x=true∧AP y=true):=by
 rcases h with h|h
 ·unfold oL at h;rw [Bool.and_eq_true] at h
  cases hc:lD 58 n with
  | none=>
   rw [hc] at h;obtain ⟨h1,h2,h3,_⟩:=uK h.2;exact .inl ⟨h3,h1,h2⟩
  | some p=>
   rw [hc] at h;simp only [Bool.and_eq_true] at h;exact .inr ⟨p.1,p.2,rfl,h.2.1,h.2.2⟩
 ·unfold MF at h;simp only [Bool.and_eq_true,decide_eq_true_eq] at h;obtain ⟨h1,h2⟩:=J8 h.2;exact .inl ⟨h2,by rintro rfl;simp at h,h1⟩
theorem aaq {n:Rl} (h:NmV n):(owN n).all zW=true∧owN n≠[]:=by
 unfold owN;rcases UG h with ⟨h1,h2,h3⟩|⟨x,y,h1,h2,h3⟩
 ·rw [if_neg h1];exact ⟨by rw [List.all_cons,h3];rfl,by simp⟩
 ·have he:=wF h1;rw [if_pos (by rw [he];simp)];obtain ⟨_,k2,_,_⟩:=uK h2;obtain ⟨_,k6,_,_⟩:=uK h3;subst he;refine ⟨?_,by simp⟩;rw [List.all_append,List.all_cons,k2,k6];rfl
structure NmD (pre:List Rl) (n:Rl):Prop where
 own:([58]:Rl)∈pre
 far:∀x y,lD 58 n=some (x,y)→x++[58]∈pre∧x≠[111,119,108]∧x≠[120,115,100]
theorem aia {pre:List Rl} {n:Rl} (h:NmV n) (hd:NmD pre n):NmP pre n:=by
 rcases UG h with ⟨h1,h2,h3⟩|⟨x,y,h1,h2,h3⟩
 ·exact ⟨h2,fun _=>hd.own,fun x y hc=>by rw [RX h1] at hc;cases hc⟩
 ·refine ⟨by rintro rfl;simp [lD] at h1,fun _=>hd.own,fun u v hc=>?_⟩;rw [h1] at hc;cases hc;obtain ⟨k1,_⟩:=uK h2;obtain ⟨k5,_,k7,_⟩:=uK h3;obtain ⟨a1,a2,a3⟩:=hd.far _ _ h1;exact ⟨k1,k5,k7,a1,a2,a3⟩
theorem PS (n:Rl):(58:UInt8)∈owN n:=by
 unfold owN;split
 ·assumption
 ·simp
theorem MJ {pre:List Rl} {n:Rl} (hn:NmP pre n) (w:Rl) (hw:(58:UInt8) ∉ w∨(∃y,lD 58 w=some ([111,119,108],y))∨(∃y,lD 58 w=some ([120,115,100],y))):owN n≠w:=by
 rintro rfl
 have hc:∃x y,lD 58 (owN n)=some (x,y)∧x≠[111,119,108]∧x≠[120,115,100]:=by
  unfold owN;by_cases q:(58:UInt8)∈n
  ·rw [if_pos q]
   cases hc:lD 58 n with
   | none=>exact absurd q (yY.1 hc)
   | some p=>obtain ⟨_,_,_,_,h5,h6⟩:=hn.far p.1 p.2 hc;exact ⟨p.1,p.2,rfl,h5,h6⟩
  ·rw [if_neg q];exact ⟨[],n,by simp [lD],by simp,by simp⟩
 obtain ⟨x,y,h1,h2,h3⟩:=hc;rcases hw with hw|⟨z,hz⟩|⟨z,hz⟩
 ·exact hw (PS n)
 ·rw [h1] at hz;cases hz;exact h2 rfl
 ·rw [h1] at hz;cases hz;exact h3 rfl
def Par {α:Type} (P:Rl→Prop) (src:Rl) (pre:List Rl) (f:Rd→OR α) (v:α) (T:List Tx):Prop:=
 T≠[]∧(∀t∈T.head?,t.2≠[41])∧∀(r:Rd) (L:List Tx),My P src r (T++L)→r.pre=pre→∃q,f r=.ok v q∧My P src q L∧Fq r q
theorem KJ {α:Type} {P:Rl→Prop} {src:Rl} {pre:List Rl} {f:Rd→OR α}:∀(vs:List α) (T:α→List Tx),(∀v∈vs,Par P src pre f v (T v))→∀(g:α→α) (hg:∀v∈vs,g v=v) (n:Nat) (acc:List α) (r:Rd) (L:List Tx),vs.length<n→2≤acc.length+vs.length→r.pre=pre→
  My P src r (vs.flatMap T++(1,[41])::L)→∃q,oq src f 2 n acc r=.ok (acc++vs) q∧My P src q ((1,[41])::L)∧Fq r q
 | [],T,_,g,hg,n,acc,r,L,hn,ha,hr,h=>by
  obtain ⟨n,rfl⟩:∃k,n=k+1:=⟨n - 1,by simp at hn;omega⟩;obtain ⟨q,h1,h2,h3,h4⟩:=zS (t:=(1,[41])) h [41];refine ⟨q, ?_,h2,h4⟩;unfold oq;rw [if_neg (by simp at ha;omega),h1];simp
 | v::vs,T,hT,g,hg,n,acc,r,L,hn,ha,hr,h=>by
  obtain ⟨n,rfl⟩:∃k,n=k+1:=⟨n - 1,by simp at hn;omega⟩;obtain ⟨p1,p2,p3⟩:=hT v (by simp);rw [List.flatMap_cons,List.append_assoc] at h
  have key:∀r1,My P src r1 (T v++(vs.flatMap T++(1,[41])::L))→r1.pre=pre→∃q,((f r1).bind fun v r=>oq src f 2 n (acc++[v]) r)=.ok (acc++v::vs) q∧My P src q ((1,[41])::L)∧Fq r1 q:=fun r1 h1 hr1=>by
   obtain ⟨q,e1,e2,e3⟩:=p3 r1 _ h1 hr1;obtain ⟨q2,e4,e5,e6⟩:=KJ vs T (fun u hu=>hT u (by simp [hu])) g (fun u hu=>hg u (by simp [hu])) n (acc++[v]) q L (by simp at hn;omega) (by simp at ha ⊢;omega) (e3.pre.trans hr1) e2;exact ⟨q2,by rw [e1,OR.bind_ok,e4];simp,e5,e3.tr e6⟩
  unfold oq;by_cases z:acc.length<2
  ·rw [if_pos z];simp only [OR.bind_ok,Bool.false_eq_true,if_false];exact key r h hr
  ·rw [if_neg z]
   cases hT':T v with
   | nil=>exact absurd hT' p1
   | cons t T'=>
    have hd:=p2 t (by rw [hT'];rfl);rw [hT',List.cons_append] at h;obtain ⟨q,h1,h2,h3,h4⟩:=zS h [41];rw [h1,decide_eq_false hd];simp only [OR.bind_ok,Bool.false_eq_true,if_false];obtain ⟨q2,k1,k2,k3⟩:=key q (by rw [hT',List.cons_append];exact h2) (h4.pre.trans hr);exact ⟨q2,k1,k2,h4.tr k3⟩
def UE:List Tx:=[(4,wB9),(1,[40]),(4,[58,111,112,101,110]),(3,wD3),(1,[41])]
theorem XB {P:Rl→Prop} {src:Rl} {r:Rd} {t:Tx} {L:List Tx} (n:Nat) (h:My P src r (t::L)) (ht:t.2≠wB9):∃q,qI src (n+1) r=.ok () q∧My P src q (t::L)∧Fq r q:=by
 obtain ⟨q,h1,h2,h3,h4⟩:=zS h wB9;refine ⟨q, ?_,h2,h4⟩;unfold qI;rw [h1,decide_eq_false ht];simp
theorem adX {P:Rl→Prop} {src:Rl} {r:Rd} {t:Tx} {L:List Tx} (n:Nat) (b:Bool) (h:My P src r ((if b=true then UE else [])++t::L)) (ht:t.2≠wB9) (hp:([58]:Rl)∈r.pre) (ho:r.op=false):
  ∃q,qI src (n+2) r=.ok () q∧My P src q (t::L)∧q.pre=r.pre∧q.iri=r.iri∧q.op=b∧q.ax=r.ax:=by
 cases b with
 | false=>
  obtain ⟨q,h1,h2,h3⟩:=XB (n+1) h ht;exact ⟨q,h1,h2,h3.pre,h3.iri,h3.op.trans ho,h3.ax⟩
 | true=>
  simp only [if_true,UE,List.cons_append,List.nil_append] at h;obtain ⟨q,h1,h2,h3,h4⟩:=zS h wB9;obtain ⟨q1,a1,a2,a3⟩:=lH h3 (w:=[40]) rfl;obtain ⟨q2,b1,b2,b3⟩:=rW (n:=[111,112,101,110]) (r:=q1) (by exact a2) ⟨by simp,fun _=>by rw [a3.pre];show _∈q.pre;rw [h4.pre];exact hp,fun x y hc=>by simp [lD] at hc⟩;obtain ⟨a,q3,c1,c2,c3,c4⟩:=qA b2;obtain ⟨q4,d1,d2,d3⟩:=lH c3 (w:=[41]) rfl;obtain ⟨q5,f1,f2,f3⟩:=XB (src:=src) (P:=P) (r:={ q4 with op:=true }) n (t:=t) (L:=L) d2 ht;refine ⟨q5, ?_,f2, ?_, ?_,f3.op, ?_⟩
  ·unfold qI;rw [h1];simp only [decide_true,OR.bind_ok,if_true,a1,b1,c1,pF,d1]
   have:q4.op || (decide True && decide True)=true:=by simp
   simpa using f1
  ·rw [f3.pre];show q4.pre=_;rw [d3.pre];show q3.pre=_;rw [c4.pre,b3.pre,a3.pre];exact h4.pre
  ·rw [f3.iri];show q4.iri=_;rw [d3.iri];show q3.iri=_;rw [c4.iri,b3.iri,a3.iri];exact h4.iri
  ·rw [f3.ax];show q4.ax=_;rw [d3.ax];show q3.ax=_;rw [c4.ax,b3.ax,a3.ax];exact h4.ax
theorem Xr (N a0:Nat):∀(xs l:List Ax) (r:Rd),(∀x∈xs,iT { x with op:=r.op }=0)→∃A,BL N a0 xs l r=.ok (l++xs.map fun x=>{ x with op:=r.op }) { r with ax:=A }
 | [],l,r,_=>⟨r.ax,by simp [BL]⟩
 | x::xs,l,r,h=>by
  obtain ⟨A,hA⟩:=Xr N a0 xs (l++[{ x with op:=r.op }]) { r with ax:=axV N (l++[{ x with op:=r.op }]) } (fun y hy=>h y (by simp [hy]));refine ⟨A, ?_⟩;unfold BL;rw [if_pos (h x (by simp)),hA];simp
theorem agq {P:Rl→Prop} {src:Rl} {n N:Nat} {w:Rl} (hw:aen w=true) {body:List Tx} {xs:List Ax} {op:Bool} {pre:List Rl} (hb:∀(r1:Rd) (L:List Tx),My P src r1 (body++(1,[41])::L)→r1.op=false→r1.pre=pre→
   ∃q,ET src n w r1=.ok xs q∧My P src q ((1,[41])::L)∧q.pre=r1.pre∧q.iri=r1.iri∧q.op=op)
  (hc:∀x∈xs,iT { x with op:=op }=0) (l:List Ax) (hlen:l.length+xs.length≤1024) (r:Rd) (hp:r.pre=pre) (L:List Tx) (h:My P src r ((4,w)::(1,[40])::(body++(1,[41])::L))):
  ∃q,FZ src n N l r=.ok (l++xs.map fun x=>{ x with op:=op }) q∧My P src q L∧q.pre=r.pre∧q.iri=r.iri:=by
 obtain ⟨a,q,h1,h2,h3,h4⟩:=qA h;obtain ⟨q1,a1,a2,a3⟩:=lH h3 (w:=[40]) rfl;obtain ⟨q2,b1,b2,b3,b4,b5⟩:=hb { q1 with op:=false } L a2 rfl (by show q1.pre=_;rw [a3.pre];show q.pre=_;rw [h4.pre,hp]);obtain ⟨q3,c1,c2,c3⟩:=lH b2 (w:=[41]) rfl;have hop:q3.op=op:=c3.op.trans b5;obtain ⟨A,hA⟩:=Xr N a xs l q3 (by rw [hop];exact hc);rw [hop] at hA;refine ⟨{ q3 with ax:=A }, ?_,c2, ?_, ?_⟩
 ·unfold FZ;rw [h1];simp only [OR.bind_ok,hw,pF,a1,b1,c1,hA];rw [if_neg (by simp;omega),←hop]
 ·show q3.pre=_;rw [c3.pre,b3];show q1.pre=_;rw [a3.pre];exact h4.pre
 ·show q3.iri=_;rw [c3.iri,b4];show q1.iri=_;rw [a3.iri];exact h4.iri
def yF (w u:Rl):List Tx:=[(4,wC0),(1,[40]),(4,w),(1,[61]),(2,u),(1,[41])]
theorem aaA {P:Rl→Prop} {src:Rl} {r:Rd} {w u:Rl} {L:List Tx} (h:My P src r (yF w u++L)) (hw:∀a,O1 r.pre (4,w,a)=true) (hu:∀a,Af w (2,u,a)=true):
  ∃q,Ob src r=.ok () q∧My P src q L∧q.pre=qR r.pre w∧q.iri=if w=[58] then zF u else r.iri:=by
 simp only [yF,List.cons_append,List.nil_append] at h;obtain ⟨q1,a1,a2,a3⟩:=lH h (w:=wC0) rfl;obtain ⟨q2,b1,b2,b3⟩:=lH a2 (w:=[40]) rfl;obtain ⟨a,q3,c1,c2,c3,c4⟩:=qA b2;obtain ⟨q4,d1,d2,d3⟩:=lH c3 (w:=[61]) rfl;obtain ⟨a',q5,e1,e2,e3,e4⟩:=qA d2;obtain ⟨q6,f1,f2,f3⟩:=lH e3 (w:=[41]) rfl;have hpre:q3.pre=r.pre:=by rw [c4.pre,b3.pre,a3.pre]
 have hpre6:q6.pre=r.pre:=by rw [f3.pre];show q5.pre=_;rw [e4.pre,d3.pre];exact hpre
 have hiri6:q6.iri=r.iri:=by rw [f3.iri];show q5.iri=_;rw [e4.iri,d3.iri];show q3.iri=_;rw [c4.iri,b3.iri,a3.iri]
 refine ⟨{ q6 with pre:=qR r.pre w,iri:=if w=[58] then zF u else r.iri }, ?_,f2,rfl,rfl⟩;unfold Ob;rw [a1];simp only [OR.bind_ok,b1,c1,hpre,hw a,pF,d1,e1,hu a',f1,hpre6,hiri6]
theorem XC {P:Rl→Prop} {src:Rl} {n N:Nat} {pre:List Rl}:∀(I:List (List Tx×List Ax)),(∀p∈I,(∃t T,p.1=t::T∧t.2≠[41])∧∀(l:List Ax) (r:Rd) (L:List Tx),l.length+p.2.length≤1024→r.pre=pre→My P src r (p.1++L)→∃q,FZ src n N l r=.ok (l++p.2) q∧My P src q L∧q.pre=r.pre∧q.iri=r.iri)→
  ∀(k:Nat) (l:List Ax) (r:Rd) (L:List Tx),I.length<k→l.length+(I.flatMap (·.2)).length≤1024→r.pre=pre→My P src r (I.flatMap (·.1)++(1,[41])::L)→
  ∃q,IB src n N k l r=.ok (l++I.flatMap (·.2)) q∧My P src (bY q) L∧q.iri=r.iri∧q.pre=r.pre
 | [],_,k,l,r,L,hk,hl,hr,h=>by
  obtain ⟨k,rfl⟩:∃j,k=j+1:=⟨k - 1,by simp at hk;omega⟩;obtain ⟨q,h1,h2,h3,h4⟩:=zS (t:=(1,[41])) h [41];exact ⟨q,by unfold IB;rw [h1];simp,h3,h4.iri,h4.pre⟩
 | p::I,hI,k,l,r,L,hk,hl,hr,h=>by
  obtain ⟨k,rfl⟩:∃j,k=j+1:=⟨k - 1,by simp at hk;omega⟩;obtain ⟨⟨t,T,e1,e2⟩,e3⟩:=hI p (by simp);rw [List.flatMap_cons,List.append_assoc] at h;rw [List.flatMap_cons,List.length_append] at hl;have h':=h;rw [e1,List.cons_append] at h';obtain ⟨q,h1,h2,h3,h4⟩:=zS h' [41];rw [←List.cons_append,←e1] at h2;obtain ⟨q1,a1,a2,a3,a4⟩:=e3 l q _ (by omega) (h4.pre.trans hr) h2;obtain ⟨q2,b1,b2,b3,b4⟩:=XC I (fun p hp=>hI p (by simp [hp])) k (l++p.2) q1 L (by simp at hk;omega) (by rw [List.length_append];omega) (a3.trans (h4.pre.trans hr)) a2;refine ⟨q2, ?_,b2,b3.trans (a4.trans h4.iri),b4.trans (a3.trans h4.pre)⟩;unfold IB;rw [h1,decide_eq_false e2];simp only [OR.bind_ok,Bool.false_eq_true,if_false,a1,b1];simp [List.flatMap_cons]
end Go.Ai.Z
namespace Go.Ai.Z
open Go.Lib (itoa decDigits atoi decFrom decNat digitVal)
theorem aaR (d:Nat) (h:d<10):LK (UInt8.ofNat (48+d))=true:=by
 have:(UInt8.ofNat (48+d)).toNat=48+d:=by simp;omega
 rw [PY,this];omega
theorem Wx (u:Nat):(decDigits u).all LK=true:=by
 induction u using Nat.strongRecOn with
 | _ u ih=>
  rw [decDigits];split
  ·rename_i h;rw [List.all_cons,List.all_nil,aaR u h];rfl
  ·rename_i h;rw [List.all_append,ih (u / 10) (by omega),List.all_cons,List.all_nil,aaR (u % 10) (by omega)];rfl
theorem RQ (u:Nat):∃c r,decDigits u=c::r∧(u≠0→c≠48)∧(u=0→r=[]∧c=48)∧c≠45:=by
 induction u using Nat.strongRecOn with
 | _ u ih=>
  rw [decDigits];split
  ·rename_i h;refine ⟨UInt8.ofNat (48+u),[],rfl,fun hu hc=>?_,fun hu=>⟨rfl,by subst hu;rfl⟩,fun hc=>?_⟩
   ·have:=congrArg UInt8.toNat hc
    rw [show (UInt8.ofNat (48+u)).toNat=48+u by simp;omega] at this;simp at this;omega
   ·have:=congrArg UInt8.toNat hc
    rw [show (UInt8.ofNat (48+u)).toNat=48+u by simp;omega] at this;simp at this;omega
  ·rename_i h;obtain ⟨c,r,h1,h2,h3,h4⟩:=ih (u / 10) (by omega);exact ⟨c,r++[UInt8.ofNat (48+u % 10)],by rw [h1];rfl,fun _=>h2 (by omega),fun hu=>absurd hu (by omega),h4⟩
theorem RP (d:Nat) (h:d<10):digitVal (UInt8.ofNat (48+d))=some d:=by
 unfold digitVal
 have:(UInt8.ofNat (48+d)).toNat=48+d:=by simp;omega
 rw [this,if_pos ⟨by omega,by omega⟩]
 congr 1;omega
theorem Wy:∀(u:Nat) (r:Rl),decFrom 0 (decDigits u++r)=decFrom u r:=by
 intro u
 induction u using Nat.strongRecOn with
 | _ u ih=>
  intro r;rw [decDigits];split
  ·rename_i h;simp only [List.cons_append,List.nil_append,decFrom,RP u h];simp
  ·rename_i h;rw [List.append_assoc,ih (u / 10) (by omega)];simp only [List.cons_append,List.nil_append,decFrom,RP (u % 10) (by omega)]
   congr 1;omega
theorem OE (u:Nat):decNat (decDigits u)=some u:=by
 have h:=Wy u [];rw [List.append_nil] at h;obtain ⟨c,r,hc,_⟩:=RQ u;unfold decNat;rw [hc] at h ⊢
 simpa [decFrom] using h
theorem aaQ (u:Nat) (h:u≤1099511627776):(decDigits u).length≤18:=by
 have key:∀(k u:Nat),u<10 ^ (k+1)→(decDigits u).length≤k+1:=by
  intro k
  induction k with
  | zero=>intro u hu;rw [decDigits,dif_pos (by simpa using hu)];simp
  | succ k ih=>
   intro u hu;rw [decDigits];split
   ·simp
   ·have:=ih (u / 10) (by rw [Nat.pow_succ] at hu;omega)
    simp;omega
 exact Nat.le_trans (key 17 u (by omega)) (by omega)
theorem aes (c d:UInt8) (p:Rl):zF (c::(p++[d]))=p:=by
 unfold zF;simp
theorem abT (n:Int) (h1:-1099511627776≤n) (h2:n≤1099511627776) (a:Nat):EU (3,34::(itoa n++[34]),a)=some n:=by
 unfold EU;simp only [if_true];rw [aes];unfold itoa;by_cases hn:n<0
 ·rw [if_pos hn];obtain ⟨c,r,k1,k2,_,_⟩:=RQ n.natAbs;have hc:=k2 (by omega);have hl:=aaQ n.natAbs (by omega);have ha:=Wx n.natAbs;have hd:=OE n.natAbs;have ht:trimB 45 (45::decDigits n.natAbs)=decDigits n.natAbs:=by simp [trimB]
  rw [ht,if_neg (by rw [k1];rw [k1] at hl;simp at hl ⊢;omega),if_neg (by rw [k1];simp [hc]),if_pos ha];simp only [atoi,beq_self_eq_true,if_true,hd,Option.map_some,Option.some.injEq];omega
 ·rw [if_neg hn];obtain ⟨c,r,k1,k2,k3,k4⟩:=RQ n.toNat;have hl:=aaQ n.toNat (by omega);have ha:=Wx n.toNat;have hd:=OE n.toNat;have ht:trimB 45 (decDigits n.toNat)=decDigits n.toNat:=by rw [k1];simp [trimB,k4]
  have hz:¬((decDigits n.toNat).head?=some 48∧decDigits n.toNat≠[48]):=by
   rintro ⟨z1,z2⟩;rw [k1] at z1 z2;simp at z1;by_cases z:n.toNat=0
   ·obtain ⟨k5,k6⟩:=k3 z;subst k5 k6;exact z2 rfl
   ·exact k2 z z1
  rw [ht,if_neg (by rw [k1];rw [k1] at hl;simp at hl ⊢;omega),if_neg hz,if_pos ha];have hcd:LK c=true:=by rw [k1,List.all_cons,Bool.and_eq_true] at ha;exact ha.1
  have b1:(c == 45)=false:=by simpa using k4
  have b2:(c == 43)=false:=by
   cases hq:(c == 43) with
   | false=>rfl
   | true=>rw [beq_iff_eq] at hq;subst hq;exact absurd hcd (by decide)
  rw [k1] at hd ⊢;simp only [atoi,b1,b2,hd,Option.map_some,Bool.false_eq_true,if_false,Option.some.injEq];omega
def RI (w:Rl) (n:Int):List Tx:=[(4,w),(3,34::(itoa n++[34])),(1,[94,94]),(4,wA0)]
mutual
def jT:C→List Tx
 | .mk k n lo hi _ ps=>
  if k=1 then [(4,wB4)]
  else if k=2 then [(4,wB1)]
  else if k=4 then [(4,wB6),(1,[40]),(4,owN n),(1,[41])]
  else if k=5 then (4,wA5)::(1,[40])::(Uk ps++[(1,[41])])
  else if k=6 then (4,wA6)::(1,[40])::(4,owN n)::(Uk ps++[(1,[41])])
  else if k=7 then (4,wA8)::(1,[40])::(4,owN n)::(4,wA7)::(1,[40])::(4,wA0)::(RI wA1 lo++RI wA4 hi++[(1,[41]),(1,[41])])
  else [(4,owN n)]
def Uk:List C→List Tx
 | []=>[]
 | c::r=>jT c++Uk r
end
theorem W9:∀l:List C,Uk l=l.flatMap jT
 | []=>by simp [Uk]
 | c::r=>by simp [Uk,W9 r]
mutual
def zc:C→C
 | .mk k n l h _ ps=>.mk k n l h ps.isEmpty (zcs ps)
def zcs:List C→List C
 | []=>[]
 | c::r=>zc c::zcs r
end
theorem acW:∀l:List C,zcs l=l.map zc
 | []=>by simp [zcs]
 | c::r=>by simp [zcs,acW r]
theorem EG (c:C):zc c=.mk c.kind c.name c.lo c.hi c.parts.isEmpty (c.parts.map zc):=by cases c;simp [zc,acW]
theorem GR (c:C):jT c=if c.kind=1 then [(4,wB4)]
  else if c.kind=2 then [(4,wB1)]
  else if c.kind=4 then [(4,wB6),(1,[40]),(4,owN c.name),(1,[41])]
  else if c.kind=5 then (4,wA5)::(1,[40])::(c.parts.flatMap jT++[(1,[41])])
  else if c.kind=6 then (4,wA6)::(1,[40])::(4,owN c.name)::(c.parts.flatMap jT++[(1,[41])])
  else if c.kind=7 then (4,wA8)::(1,[40])::(4,owN c.name)::(4,wA7)::(1,[40])::(4,wA0)::(RI wA1 c.lo++RI wA4 c.hi++[(1,[41]),(1,[41])])
  else [(4,owN c.name)]:=by cases c;simp only [jT,W9];rfl
theorem BG:∀c:C,jT (zc c)=jT c:=by
 refine C.ind' fun c ih=>?_
 have hp:(c.parts.map zc).flatMap jT=c.parts.flatMap jT:=by
  have:∀l:List C,(∀p∈l,jT (zc p)=jT p)→(l.map zc).flatMap jT=l.flatMap jT:=fun l=>by
   induction l with
   | nil=>intro _;rfl
   | cons a r ihr=>intro h;simp [h a (by simp),ihr (fun p hp=>h p (by simp [hp]))]
  exact this _ ih
 rw [GR (zc c),GR c,EG];simp only [C.KX,C.PV,C.ad8,C.aex,C.Fv,hp];rfl
theorem Vp (c:C):jT c≠[]∧∀t∈(jT c).head?,t.2≠[41]:=by
 have hw:∀n:Rl,owN n≠[41]:=fun n h=>by
  have:=PS n
  rw [h] at this;simp at this
 rw [GR];split
 ·simp
 split
 ·simp
 split
 ·simp
 split
 ·simp
 split
 ·simp
 split
 ·simp
 ·simpa using hw c.name
theorem C9 (c:C):1≤(jT c).length:=by
 have:=(Vp c).1
 cases h:jT c with
 | nil=>exact absurd h this
 | cons a b=>simp
inductive VC (pre:List Rl):C→Prop where
 | mk (c:C) (hs:kS c=true) (hn:c.kind=3∨c.kind=4∨c.kind=6∨c.kind=7→NmP pre c.name) (hp:∀p∈c.parts,VC pre p):VC pre c
theorem Aq {c:C} (h:kS c=true) (hk:c.kind=1∨c.kind=2∨c.kind=3∨c.kind=4):c.lo=0∧c.hi=0∧c.parts=[]∧(c.kind=1∨c.kind=2→c.name=[]):=by
 unfold kS at h
 rcases hk with k|k|k|k<;>simp [k] at h<;>simp [h,k]
theorem MB {c:C} (h:kS c=true) (hk:c.kind=5):c.lo=0∧c.hi=0∧c.name=[]∧2≤c.parts.length:=by
 unfold kS at h;simp [hk] at h;refine ⟨h.1.1.1.1,h.1.1.1.2,h.1.1.2,by have:=h.1.2;omega⟩
theorem Ql {c:C} (h:kS c=true) (hk:c.kind=6):c.lo=0∧c.hi=0∧∃p,c.parts=[p]:=by
 unfold kS at h;simp [hk] at h;refine ⟨h.1.1,h.1.2, ?_⟩;exact List.length_eq_one_iff.1 (by omega)
theorem abn {c:C} (h:kS c=true) (hk:c.kind=7):c.parts=[]∧-1099511627776≤c.lo∧c.lo≤c.hi∧c.hi≤1099511627776:=by
 unfold kS at h;simp [hk] at h;exact ⟨h.1.1.1,h.1.1.2,h.1.2,h.2⟩
theorem Vy {c:C} (h:kS c=true):c.kind=1∨c.kind=2∨c.kind=3∨c.kind=4∨c.kind=5∨c.kind=6∨c.kind=7:=by
 unfold kS at h;apply Classical.byContradiction;intro hc;simp only [not_or] at hc;obtain ⟨h1,h2,h3,h4,h5,h6,h7⟩:=hc;simp [h1,h2,h3,h4,h5,h6,h7] at h
theorem adY {P:Rl→Prop} {src:Rl} {r:Rd} {w other:Rl} {n:Int} {L:List Tx} (h:My P src r (RI w n++L)) (hw:ZG other w=true) (hx:[120,115,100,58]∈r.pre) (h1:-1099511627776≤n) (h2:n≤1099511627776) (lo hi:Int):
  ∃q,TN src other lo hi r=.ok (w,if w=wA1 then n else lo,if w=wA1 then hi else n) q∧My P src q L∧Fq r q:=by
 simp only [RI,List.cons_append,List.nil_append] at h;obtain ⟨a,q1,a1,a2,_,a3⟩:=qA h;obtain ⟨q2,b1,b2,b3⟩:=QM (p:=[120,115,100,58]) a2 (w:=w) rfl (by rw [a3.pre];exact hx);obtain ⟨a',q3,c1,c2,c3,c4⟩:=qA b2;obtain ⟨q4,d1,d2,d3⟩:=lH c3 (w:=[94,94]) rfl;obtain ⟨q5,e1,e2,e3⟩:=QM (p:=[120,115,100,58]) d2 (w:=wA0) rfl (by rw [d3.pre];show _∈q3.pre;rw [c4.pre,b3.pre,a3.pre];exact hx);refine ⟨q5, ?_,e2,a3.tr (b3.tr (c4.ps.tr (d3.tr e3)))⟩;unfold TN;rw [a1];simp only [OR.bind_ok,hw,pF,b1,c1,abT n h1 h2,Option.isSome_some,d1,e1,Option.getD_some]
theorem akp {c:C} (hl:∀p∈c.parts,SmC p (zc p)) (hb:c.parts.length≤1000000):SmC c (zc c):=by
 obtain ⟨k,n,l,h,z,ps⟩:=c;rw [EG];refine .mk k n l h z _ ps _ (by simp) hb fun i p q h1 h2=>?_;simp only [C.Fv,List.getElem?_map,h1,Option.map_some,Option.some.injEq] at h2;subst h2;exact hl p (List.mem_of_getElem? h1)
section
variable {P:Rl→Prop} {src:Rl} {pre:List Rl}
theorem BM (ho:[111,119,108,58]∈pre) (hx:[120,115,100,58]∈pre):∀c:C,VC pre c→∀n,(jT c).length≤n→Par P src pre (yD src n) (zc c) (jT c):=by
 refine C.ind' fun c ih hv n hn=>?_;refine ⟨(Vp c).1,(Vp c).2,fun r L h hr=>?_⟩
 cases hv with
 | mk _ hs hnm hp=>
 have hpos:=C9 c;obtain ⟨n,rfl⟩:∃k,n=k+1:=⟨n - 1,by omega⟩;unfold yD;rw [EG];rw [GR] at h hn;rcases Vy hs with k|k|k|k|k|k|k
 ·obtain ⟨s1,s2,s3,s4⟩:=Aq hs (.inl k);simp only [k,if_true] at h;obtain ⟨a,q,h1,h2,h3,h4⟩:=qA h;obtain ⟨q1,b1,b2,b3⟩:=QM (p:=[111,119,108,58]) h2 (w:=wB4) rfl (by rw [h4.pre,hr];exact ho);refine ⟨q1, ?_,b2,h4.tr b3⟩;rw [h1];simp only [OR.bind_ok,if_true,Vo,b1,k,s1,s2,s3,s4 (.inl k)];rfl
 ·obtain ⟨s1,s2,s3,s4⟩:=Aq hs (.inr (.inl k));simp only [k] at h;simp at h;obtain ⟨a,q,h1,h2,h3,h4⟩:=qA h;obtain ⟨q1,b1,b2,b3⟩:=QM (p:=[111,119,108,58]) h2 (w:=wB1) rfl (by rw [h4.pre,hr];exact ho);refine ⟨q1, ?_,b2,h4.tr b3⟩;rw [h1];simp only [OR.bind_ok];simp [Vo,b1,k,s1,s2,s3,s4 (.inr k)]
 ·obtain ⟨s1,s2,s3,s4⟩:=Aq hs (.inr (.inr (.inl k)));simp only [k] at h;simp at h;have hm:=hnm (.inl k);obtain ⟨a,q,h1,h2,h3,h4⟩:=qA h;obtain ⟨q1,b1,b2,b3⟩:=rW (n:=c.name) h2 (by rw [h4.pre,hr];exact hm);have e1:=MJ hm wB4 (.inr (.inl ⟨_,rfl⟩));have e2:=MJ hm wB1 (.inr (.inl ⟨_,rfl⟩));have e3:=MJ hm wA5 (.inl (by simp));have e4:=MJ hm wA6 (.inl (by simp));have e5:=MJ hm wB6 (.inl (by simp));have e6:=MJ hm wA8 (.inl (by simp));refine ⟨q1, ?_,b2,h4.tr b3⟩;rw [h1];simp only [OR.bind_ok,if_neg e1,if_neg e2,if_neg e3,if_neg e4,if_neg e5,if_neg e6,b1,k,s1,s2,s3];rfl
 ·obtain ⟨s1,s2,s3,s4⟩:=Aq hs (.inr (.inr (.inr k)));simp only [k] at h;simp at h;have hm:=hnm (.inr (.inl k));obtain ⟨a,q,h1,h2,h3,h4⟩:=qA h;obtain ⟨q1,b1,b2,b3⟩:=lH h3 (w:=[40]) rfl;have hpre:q1.pre=pre:=by rw [b3.pre];show q.pre=_;rw [h4.pre,hr]
  obtain ⟨q2,c1,c2,c3⟩:=rW (n:=c.name) b2 (by rw [hpre];exact hm);obtain ⟨q3,d1,d2,d3⟩:=lH c2 (w:=[41]) rfl;refine ⟨q3, ?_,d2,h4.ps.tr (b3.tr (c3.tr d3))⟩;rw [h1];simp only [OR.bind_ok];simp [Zf,b1,c1,d1,k,s1,s2,s3]
 ·obtain ⟨s1,s2,s3,s4⟩:=MB hs k;simp only [k] at h hn;simp at h hn;obtain ⟨a,q,h1,h2,h3,h4⟩:=qA h;obtain ⟨q1,b1,b2,b3⟩:=lH h3 (w:=[40]) rfl;have hpre:q1.pre=pre:=by rw [b3.pre];show q.pre=_;rw [h4.pre,hr]
  have hfl:c.parts.length≤(c.parts.flatMap jT).length:=by
   rw [List.length_flatMap]
   have:∀l:List C,l.length≤(l.map fun a=>(jT a).length).sum:=fun l=>by
    induction l with
    | nil=>simp
    | cons x l ihl=>have:=C9 x;simp;omega
   exact this _
  have hfm:∀p∈c.parts,(jT p).length≤(c.parts.flatMap jT).length:=fun p hp=>by
   rw [List.length_flatMap]
   have:∀l:List C,p∈l→(jT p).length≤(l.map fun a=>(jT a).length).sum:=fun l=>by
    induction l with
    | nil=>intro hh;cases hh
    | cons x l ihl=>
     intro hh;rcases List.mem_cons.1 hh with rfl|hh
     ·simp
     ·have:=ihl hh;simp;omega
   exact this _ hp
  simp only [List.length_flatMap] at hfl hfm
  have hzt:(c.parts.map zc).flatMap jT=c.parts.flatMap jT:=by
   have:∀l:List C,(l.map zc).flatMap jT=l.flatMap jT:=fun l=>by
    induction l with
    | nil=>rfl
    | cons x l ihl=>simp [BG x,ihl]
   exact this _
  obtain ⟨q2,c1,c2,c3⟩:=KJ (P:=P) (src:=src) (pre:=pre) (f:=yD src n) (c.parts.map zc) jT (fun v hv=>by
    obtain ⟨p,hp1,rfl⟩:=List.mem_map.1 hv;rw [BG]
    exact ih p hp1 (hp p hp1) n (by have:=hfm p hp1;omega)) id (fun _ _=>rfl) n [] q1 L (by simp;omega) (by simp;omega) hpre (by rw [hzt];exact b2)
  obtain ⟨q3,d1,d2,d3⟩:=lH c2 (w:=[41]) rfl
  have hne:c.parts.isEmpty=false:=by
   cases hh:c.parts with
   | nil=>rw [hh] at s4;simp at s4
   | cons=>rfl
  refine ⟨q3, ?_,d2,h4.ps.tr (b3.tr (c3.tr d3))⟩;rw [h1];simp only [OR.bind_ok];simp [ZY,b1,c1,d1,k,s1,s2,s3,hne]
 ·obtain ⟨s1,s2,p,s3⟩:=Ql hs k;simp only [k,s3] at h hn;simp at h hn;have hm:=hnm (.inr (.inr (.inl k)));obtain ⟨a,q,h1,h2,h3,h4⟩:=qA h;obtain ⟨q1,b1,b2,b3⟩:=lH h3 (w:=[40]) rfl;have hpre:q1.pre=pre:=by rw [b3.pre];show q.pre=_;rw [h4.pre,hr]
  obtain ⟨q2,c1,c2,c3⟩:=rW (n:=c.name) b2 (by rw [hpre];exact hm);obtain ⟨_,_,hpar⟩:=ih p (by rw [s3];simp) (hp p (by rw [s3];simp)) n (by omega);obtain ⟨q3,d1,d2,d3⟩:=hpar q2 _ c2 (by rw [c3.pre];exact hpre);obtain ⟨q4,e1,e2,e3⟩:=lH d2 (w:=[41]) rfl;refine ⟨q4, ?_,e2,h4.ps.tr (b3.tr (c3.tr (d3.tr e3)))⟩;rw [h1];simp only [OR.bind_ok];simp [Qj,b1,c1,d1,e1,k,s1,s2,s3]
 ·obtain ⟨s1,s2,s3,s4⟩:=abn hs k;simp only [k] at h;simp only [show ¬(7:Int)=1 by decide,show ¬(7:Int)=2 by decide,show ¬(7:Int)=4 by decide,show ¬(7:Int)=5 by decide,show ¬(7:Int)=6 by decide,if_true,if_false,List.cons_append,List.append_assoc,List.nil_append] at h;have hm:=hnm (.inr (.inr (.inr k)));obtain ⟨a,q,h1,h2,h3,h4⟩:=qA h;obtain ⟨q1,b1,b2,b3⟩:=lH h3 (w:=[40]) rfl;have hpre:q1.pre=pre:=by rw [b3.pre];show q.pre=_;rw [h4.pre,hr]
  obtain ⟨q2,c1,c2,c3⟩:=rW (n:=c.name) b2 (by rw [hpre];exact hm);obtain ⟨q3,d1,d2,d3,d4⟩:=zS c2 wA7;obtain ⟨q4,e1,e2,e3⟩:=lH d3 (w:=[40]) rfl;have hpre4:q4.pre=pre:=by rw [e3.pre];show q3.pre=_;rw [d4.pre,c3.pre,hpre]
  obtain ⟨q5,f1,f2,f3⟩:=QM (p:=[120,115,100,58]) e2 (w:=wA0) rfl (by rw [hpre4];exact hx);obtain ⟨q6,g1,g2,g3⟩:=adY (other:=[]) f2 (by decide) (by rw [f3.pre,hpre4];exact hx) s2 (by omega) (-XG) XG;have g2':=g2;rw [show RI wA4 c.hi++(1,[41])::(1,[41])::L=(4,wA4)::(3,34::(itoa c.hi++[34]))::(1,[94,94])::(4,wA0)::(1,[41])::(1,[41])::L from rfl] at g2';obtain ⟨q7,i1,i2,i3,i4⟩:=zS g2' [41];obtain ⟨q8,j1,j2,j3⟩:=adY (w:=wA4) (n:=c.hi) (other:=wA1) (L:=(1,[41])::(1,[41])::L) i2 (by decide) (by rw [i4.pre,g3.pre,f3.pre,hpre4];exact hx) (by omega) s4 c.lo XG;obtain ⟨q9,k1,k2,k3⟩:=lH j2 (w:=[41]) rfl;obtain ⟨q10,l1,l2,l3⟩:=lH k2 (w:=[41]) rfl;refine ⟨q10, ?_,l2,h4.ps.tr (b3.tr (c3.tr (d4.ps.tr (e3.tr (f3.tr (g3.tr (i4.tr (j3.tr (k3.tr l3)))))))))⟩;rw [h1];simp only [OR.bind_ok];simp at g1 i1 j1;simp [RS,adw,b1,c1,d1,e1,f1,g1,i1,j1,k1,l1,k,s1]
end
end Go.Ai.Z
namespace Go.Ai.Z
theorem ado (c:C):kS (zc c)=kS c:=by rw [EG];unfold kS;simp only [C.KX,C.PV,C.ad8,C.aex,C.Fv,List.length_map];rfl
theorem adW (c:C):uf (zc c)=uf c:=by rw [EG];unfold uf;simp only [C.KX,C.PV];rfl
theorem afO:∀c:C,iH (zc c)=iH c:=by
 refine C.ind' fun c ih=>?_
 have hL:∀l:List C,(∀p∈l,iH (zc p)=iH p)→rM (l.map zc)=rM l:=fun l=>by
  induction l with
  | nil=>intro _;rfl
  | cons a r ihr=>intro h;simp only [List.map_cons,rM];rw [h a (by simp),ihr (fun p hp=>h p (by simp [hp]))]
 have hp:(zc c).parts=c.parts.map zc:=by rw [EG];rfl
 rw [CZ,CZ c,ado,adW,hp,hL _ ih]
theorem af0:∀c:C,nY (zc c)=nY c:=by
 refine C.ind' fun c ih=>?_
 have hL:∀l:List C,(∀p∈l,nY (zc p)=nY p)→zQ (l.map zc)=zQ l:=fun l=>by
  induction l with
  | nil=>intro _;rfl
  | cons a r ihr=>intro h;simp only [List.map_cons,zQ];rw [h a (by simp),ihr (fun p hp=>h p (by simp [hp]))]
 have hp:(zc c).parts=c.parts.map zc:=by rw [EG];rfl
 rw [Df,Df c,hp,hL _ ih]
theorem ae3:∀c:C,yX (zc c)=yX c:=by
 refine C.ind' fun c ih=>?_
 have hL:∀l:List C,(∀p∈l,yX (zc p)=yX p)→En (l.map zc)=En l:=fun l=>by
  induction l with
  | nil=>intro _;rfl
  | cons a r ihr=>intro h;simp only [List.map_cons,En];rw [h a (by simp),ihr (fun p hp=>h p (by simp [hp]))]
 have hp:(zc c).parts=c.parts.map zc:=by rw [EG];rfl
 rw [Nw,Nw c,hp,hL _ ih]
theorem aaW:∀c:C,Bl (zc c)=Bl c:=by
 refine C.ind' fun c ih=>?_
 have hL:∀l:List C,(∀p∈l,Bl (zc p)=Bl p)→yt (l.map zc)=yt l:=fun l=>by
  induction l with
  | nil=>intro _;rfl
  | cons a r ihr=>intro h;simp only [List.map_cons,yt];rw [h a (by simp),ihr (fun p hp=>h p (by simp [hp]))]
 have hp:(zc c).parts=c.parts.map zc:=by rw [EG];rfl
 have hk:(zc c).kind=c.kind:=by rw [EG];rfl
 rw [SN,SN c,hp,hk,hL _ ih]
theorem Yw (c:C):ve (zc c)=ve c:=by unfold ve;rw [ae3,af0,afO]
theorem aeY (c:C):emptyS (zc c)=emptyS c:=by rw [EG];unfold emptyS;simp only [C.KX,C.PV,C.ad8,C.aex,C.Fv,List.length_map];rfl
def zA (x:Ax):Ax:={ x with left:=zc x.left,right:=zc x.right,z:=x.roles.isEmpty }
theorem ae8 (x:Ax):iT (zA x)=iT x:=by
 unfold iT;have h1:oZ (zA x)=oZ x:=by unfold oZ zA CU;simp only [aeY]
 have h2:CQ (zA x) (kH (zA x).kind)=CQ x (kH x.kind):=rfl;have h3:(zA x).kind=x.kind:=rfl;have h4:(zA x).left=zc x.left:=rfl;have h5:(zA x).right=zc x.right:=rfl;rw [h1,h2,h3,h4,h5,Yw,Yw,aaW,aaW]
structure AOK (x:Ax):Prop where
 k:x.kind=1∨x.kind=2∨x.kind=3∨x.kind=4∨x.kind=5∨x.kind=6∨x.kind=7∨x.kind=8∨x.kind=9
 l:if (kH x.kind).l=true then iH x.left=0∧nY x.left≤64 else emptyS x.left=true
 r:if (kH x.kind).r=true then iH x.right=0∧nY x.right≤64 else emptyS x.right=true
 role:if (kH x.kind).role=true then NmV x.role else x.role=[]
 a:if (kH x.kind).a=true then NmV x.a else x.a=[]
 b:if (kH x.kind).b=true then NmV x.b else x.b=[]
 rs:∀r∈x.roles,NmV r
 lo:(kH x.kind).lo≤x.roles.length
 hi:(x.roles.length:Int)≤(kH x.kind).hi
theorem aok {x:Ax} (h:iT x=0):AOK x:=by
 unfold iT at h
 split at h
 ·cases h
 split at h
 ·cases h
 rename_i hs hn;have hs:oZ x=true:=by simpa using hs
 have hn:CQ x (kH x.kind)=true:=by simpa using hn
 unfold Un at h
 split at h
 ·rename_i q;exact absurd h q.2
 split at h
 ·rename_i q;exact absurd h q.2
 rename_i ql qr;unfold oZ at hs;simp only [Bool.and_eq_true,Bool.or_eq_true,decide_eq_true_eq] at hs;obtain ⟨⟨⟨⟨⟨⟨⟨s0,s1⟩,s2⟩,s3⟩,s4⟩,s5⟩,s6⟩,s7⟩:=hs;unfold CQ at hn;simp only [Bool.and_eq_true,Bool.or_eq_true,Bool.not_eq_true'] at hn;obtain ⟨⟨⟨n1,n2⟩,n3⟩,n4⟩:=hn
 have hps:∀n:Rl,y8 n=true→NmV n:=fun n h=>by
  unfold y8 at h;rw [Bool.or_eq_true] at h;exact h
 have hcs:∀c:C,ve c=0→iH c=0∧nY c≤64:=fun c h=>by
  unfold ve at h
  split at h
  ·cases h
  ·rename_i q;exact ⟨h,by omega⟩
 have hk:1≤x.kind∧x.kind≤9:=by simp [CU] at s0;exact s0
 have hall:∀{l:List Rl},allPlain l=true→∀r∈l,oL r=true:=fun {l}=>by
  induction l with
  | nil=>intro _ r hr;cases hr
  | cons a l ih=>
   intro h r hr;simp only [allPlain,Bool.and_eq_true] at h;rcases List.mem_cons.1 hr with rfl|hr
   ·exact h.1
   ·exact ih h.2 r hr
 refine ⟨by omega, ?_, ?_, ?_, ?_, ?_,fun r hr=>.inl (hall n4 r hr),s6,s7⟩
 ·split
  ·rename_i q;exact hcs _ (Classical.not_not.1 fun e=>ql ⟨q,e⟩)
  ·rename_i q;exact s1.resolve_left q
 ·split
  ·rename_i q;exact hcs _ (Classical.not_not.1 fun e=>qr ⟨q,e⟩)
  ·rename_i q;exact s2.resolve_left q
 ·split
  ·rename_i q;exact .inl (n1.resolve_left (by rw [q];exact Bool.noConfusion))
  ·rename_i q;exact s3.resolve_left q
 ·split
  ·rename_i q;exact hps _ (n2.resolve_left (by rw [q];exact Bool.noConfusion))
  ·rename_i q;exact s4.resolve_left q
 ·split
  ·rename_i q;exact hps _ (n3.resolve_left (by rw [q];exact Bool.noConfusion))
  ·rename_i q;exact s5.resolve_left q
mutual
def nmC:C→List Rl
 | .mk _ n _ _ _ ps=>n::adV ps
def adV:List C→List Rl
 | []=>[]
 | c::r=>nmC c++adV r
end
theorem aax:∀l:List C,adV l=l.flatMap nmC
 | []=>by simp [adV]
 | c::r=>by simp [adV,aax r]
theorem Zh (c:C):nmC c=c.name::c.parts.flatMap nmC:=by cases c;simp [nmC,aax]
def nmX (x:Ax):List Rl:=nmC x.left++nmC x.right++x.roles++[x.role,x.a,x.b]
def afz (pre:List Rl) (n:Rl):Prop:=∀x y,lD 58 n=some (x,y)→x++[58]∈pre∧x≠[111,119,108]∧x≠[120,115,100]
theorem KI {pre:List Rl} {n:Rl} (h:NmV n) (h58:([58]:Rl)∈pre) (hd:afz pre n):NmP pre n:=aia h ⟨h58,hd⟩
theorem ahc {pre:List Rl} (h58:([58]:Rl)∈pre):∀c:C,iH c=0→(∀n∈nmC c,afz pre n)→VC pre c:=by
 refine C.ind' fun c ih hw hd=>?_
 have h0:kS c=true∧uf c=true∧rM c.parts=0:=by
  rw [CZ] at hw
  split at hw
  ·cases hw
  split at hw
  ·cases hw
  ·rename_i a b;exact ⟨by simpa using a,by simpa using b,hw⟩
 have hL:∀l:List C,rM l=0→∀p∈l,iH p=0:=fun l=>by
  induction l with
  | nil=>intro _ p hp;cases hp
  | cons a r ihr=>
   intro h p hp;simp only [rM] at h
   split at h
   ·rename_i ha;rcases List.mem_cons.1 hp with rfl|hp
    ·exact ha
    ·exact ihr h p hp
   ·rename_i ha;exact absurd h ha
 rw [Zh] at hd;refine .mk c h0.1 (fun hk=>?_) fun p hp=>ih p hp (hL _ h0.2.2 p hp) fun n hn=>hd n (by rw [List.mem_cons];exact .inr (List.mem_flatMap.2 ⟨p,hp,hn⟩))
 have hv:NmV c.name:=by
  have h1:=h0.2.1;unfold uf at h1
  rcases hk with k|k|k|k<;>simp [k] at h1
  ·exact .inl h1
  ·exact h1
  ·exact .inl h1
  ·exact .inl h1
 exact KI hv h58 (hd c.name (by simp))
def argX (x:Ax):List Tx:=
 if x.kind=1 then jT x.left++jT x.right
 else if x.kind=2 then jT x.left++jT x.right
 else if x.kind=3 then jT x.left++jT x.right
 else if x.kind=4 then (4,owN x.role)::jT x.right
 else if x.kind=5 then [(4,owN (x.roles.headD [])),(4,owN x.role)]
 else if x.kind=6 then (4,wA2)::(1,[40])::(x.roles.map (fun r=>((4,owN r):Tx))++[(1,[41]),(4,owN x.role)])
 else if x.kind=7 then [(4,owN x.role)]
 else if x.kind=8 then jT x.right++[(4,owN x.a)]
 else [(4,owN x.role),(4,owN x.a),(4,owN x.b)]
def Xz (b:Bool):List Tx:=if b=true then UE else []
def yH (x:Ax):List Tx:=(4,yN x.kind)::(1,[40])::(Xz x.op++argX x++[(1,[41])])
theorem GN {pre:List Rl} (c:C) (h:VC pre c):∀t∈(jT c).head?,t.2≠wB9:=by
 cases h with
 | mk _ hs hn hp=>
 rw [GR];split
 ·simp
 split
 ·simp
 split
 ·simp
 split
 ·simp
 split
 ·simp
 split
 ·simp
 ·intro t ht;simp at ht;subst ht;intro he
  have:=PS c.name
  simp only at he;rw [he] at this;simp at this
theorem Dl (n:Rl) (w:Rl) (hw:(58:UInt8) ∉ w):owN n≠w:=fun h=>by
 have:=PS n
 rw [h] at this;exact hw this
theorem wE {c:C} (h:emptyS c=true):zc c=zC:=by
 unfold emptyS at h;simp only [Bool.and_eq_true,decide_eq_true_eq] at h;obtain ⟨⟨⟨⟨h1,h2⟩,h3⟩,h4⟩,h5⟩:=h;have h6:c.parts=[]:=List.length_eq_zero_iff.1 (by omega);rw [EG,h1,h2,h3,h4,h6];rfl
section
variable {P:Rl→Prop} {src:Rl} {pre:List Rl}
theorem adI {n:Rl} (hn:NmP pre n):Par P src pre (oh src) n [(4,owN n)]:=by
 refine ⟨by simp,by simpa using Dl n _ (by simp),fun r L h hr=>?_⟩;exact rW h (by rw [hr];exact hn)
theorem Kw {α:Type} {f:Rd→OR α} {v:α} {T:List Tx} (h:Par P src pre f v T):∃t T',T=t::T':=by
 cases T with
 | nil=>exact absurd rfl h.1
 | cons t T'=>exact ⟨t,T',rfl⟩
theorem zZ {T:List Tx} (h58:([58]:Rl)∈pre) (b:Bool) (hT:∃t T',T=t::T'∧t.2≠wB9) (n:Nat) (hn:2≤n) (r:Rd) (L:List Tx) (h:My P src r (Xz b++T++L)) (ho:r.op=false) (hr:r.pre=pre):
  ∃q,qI src n r=.ok () q∧My P src q (T++L)∧q.pre=r.pre∧q.iri=r.iri∧q.op=b:=by
 obtain ⟨t,T',rfl,ht⟩:=hT;obtain ⟨n,rfl⟩:∃k,n=k+2:=⟨n - 2,by omega⟩;rw [List.append_assoc,List.cons_append] at h;obtain ⟨q,h1,h2,h3,h4,h5,_⟩:=adX n b (t:=t) (L:=T'++L) h ht (by rw [hr];exact h58) ho;exact ⟨q,h1,h2,h3,h4,h5⟩
theorem aeo (h58:([58]:Rl)∈pre) (ho:[111,119,108,58]∈pre) (hx:[120,115,100,58]∈pre) {x:Ax} (hc:iT x=0) (hd:∀n∈nmX x,afz pre n) {n N:Nat} (hn:(yH x).length≤n) (l:List Ax) (hl:l.length+1≤1024) (r:Rd) (L:List Tx) (hr:r.pre=pre) (h:My P src r (yH x++L)):
  ∃q,FZ src n N l r=.ok (l++[zA x]) q∧My P src q L∧q.pre=r.pre∧q.iri=r.iri:=by
 have A:=aok hc;have hcz:iT { (({ x with op:=false }:Ax) |> zA) with op:=x.op }=0:=(ae8 x).trans hc;have hvl:∀w:iH x.left=0,VC pre x.left:=fun w=>ahc h58 _ w fun n hn=>hd n (by unfold nmX;simp [hn]);have hvr:∀w:iH x.right=0,VC pre x.right:=fun w=>ahc h58 _ w fun n hn=>hd n (by unfold nmX;simp [hn]);have hnr:NmV x.role→NmP pre x.role:=fun h=>KI h h58 (hd _ (by unfold nmX;simp));have hna:NmV x.a→NmP pre x.a:=fun h=>KI h h58 (hd _ (by unfold nmX;simp));have hnb:NmV x.b→NmP pre x.b:=fun h=>KI h h58 (hd _ (by unfold nmX;simp));have hnrs:∀r∈x.roles,NmP pre r:=fun r hr=>KI (A.rs r hr) h58 (hd _ (by unfold nmX;simp [hr]))
 have hfin:∀(w:Rl),yN x.kind=w→aen w=true→(∀(r1:Rd) (L:List Tx),My P src r1 (Xz x.op++argX x++((1,[41])::L))→r1.op=false→r1.pre=pre→
   ∃q,ET src n w r1=.ok [zA { x with op:=false }] q∧My P src q ((1,[41])::L)∧q.pre=r1.pre∧q.iri=r1.iri∧q.op=x.op)→
   ∃q,FZ src n N l r=.ok (l++[zA x]) q∧My P src q L∧q.pre=r.pre∧q.iri=r.iri:=fun w hw hi hb=>by
  have h2:My P src r ((4,w)::(1,[40])::(Xz x.op++argX x++(1,[41])::L)):=by
   unfold yH at h;rw [hw] at h
   simpa using h
  exact agq (n:=n) (N:=N) hi (op:=x.op) (xs:=[zA { x with op:=false }]) hb (fun y hy=>by rw [List.mem_singleton.1 hy];exact hcz) l (by simpa using hl) r hr L h2
 have hn2:2≤n:=by unfold yH at hn;simp at hn;omega
 have hlen:(argX x).length≤n:=by unfold yH at hn;simp at hn;omega
 rcases A.k with k|k|k|k|k|k|k|k|k
 ·have Al:=A.l;have Ar:=A.r;have Ao:=A.role;have Aa:=A.a;have Ab:=A.b;have Alo:=A.lo;have Ahi:=A.hi;simp [k,kH] at Al Ar Ao Aa Ab Alo Ahi;have hro:x.roles=[]:=Ahi;have p1:=BM (P:=P) (src:=src) ho hx x.left (hvl Al.1) n (by unfold argX at hlen;simp [k] at hlen;omega);have p2:=BM (P:=P) (src:=src) ho hx x.right (hvr Ar.1) n (by unfold argX at hlen;simp [k] at hlen;omega);refine hfin wC2 (by simp [yN,k]) (by decide) fun r1 L h o p=>?_;have ha:argX x=jT x.left++jT x.right:=by simp [argX,k]
  rw [ha] at h;obtain ⟨t,T',e⟩:=Kw p1;obtain ⟨q,a1,a2,a3,a4,a5⟩:=zZ h58 x.op ⟨t,T'++jT x.right,by rw [e];rfl,GN x.left (hvl Al.1) t (by rw [e];rfl)⟩ n hn2 r1 _ h o p;rw [List.append_assoc] at a2;obtain ⟨q1,b1,b2,b3⟩:=p1.2.2 q _ a2 (a3.trans p);obtain ⟨q2,c1,c2,c3⟩:=p2.2.2 q1 _ b2 (b3.pre.trans (a3.trans p));refine ⟨q2, ?_,c2,by rw [c3.pre,b3.pre,a3],by rw [c3.iri,b3.iri,a4],by rw [c3.op,b3.op,a5]⟩;simp [ET,abd,a1,b1,c1,zA,axC,k,hro,Ao,Aa,Ab]
 ·have Al:=A.l;have Ar:=A.r;have Ao:=A.role;have Aa:=A.a;have Ab:=A.b;have Alo:=A.lo;have Ahi:=A.hi;simp [k,kH] at Al Ar Ao Aa Ab Alo Ahi;have hro:x.roles=[]:=Ahi;have p1:=BM (P:=P) (src:=src) ho hx x.left (hvl Al.1) n (by unfold argX at hlen;simp [k] at hlen;omega);have p2:=BM (P:=P) (src:=src) ho hx x.right (hvr Ar.1) n (by unfold argX at hlen;simp [k] at hlen;omega);refine hfin wB3 (by simp [yN,k]) (by decide) fun r1 L h o p=>?_;have ha:argX x=jT x.left++jT x.right:=by simp [argX,k]
  rw [ha] at h;obtain ⟨t,T',e⟩:=Kw p1;obtain ⟨q,a1,a2,a3,a4,a5⟩:=zZ h58 x.op ⟨t,T'++jT x.right,by rw [e];rfl,GN x.left (hvl Al.1) t (by rw [e];rfl)⟩ n hn2 r1 _ h o p
  have hn5:5≤n:=by
   have l1:=C9 x.left;have l2:=C9 x.right;unfold yH at hn;rw [ha] at hn;simp at hn;omega
  obtain ⟨q2,c1,c2,c3⟩:=KJ (P:=P) (src:=src) (pre:=pre) (f:=yD src n) [zc x.left,zc x.right] jT (fun v hv=>by
    rcases List.mem_cons.1 hv with rfl|hv
    ·rw [BG];exact p1
    ·rw [List.mem_singleton.1 hv,BG];exact p2) id (fun _ _=>rfl) n [] q L (by simp;omega) (by simp) (a3.trans p) (by simpa [BG] using a2)
  refine ⟨q2, ?_,c2,by rw [c3.pre,a3],by rw [c3.iri,a4],by rw [c3.op,a5]⟩;simp at c1;simp [ET,acz,a1,c1,zA,axC,k,hro,Ao,Aa,Ab,JR]
 ·have Al:=A.l;have Ar:=A.r;have Ao:=A.role;have Aa:=A.a;have Ab:=A.b;have Alo:=A.lo;have Ahi:=A.hi;simp [k,kH] at Al Ar Ao Aa Ab Alo Ahi;have hro:x.roles=[]:=Ahi;have p1:=BM (P:=P) (src:=src) ho hx x.left (hvl Al.1) n (by unfold argX at hlen;simp [k] at hlen;omega);have p2:=BM (P:=P) (src:=src) ho hx x.right (hvr Ar.1) n (by unfold argX at hlen;simp [k] at hlen;omega);refine hfin wB5 (by simp [yN,k]) (by decide) fun r1 L h o p=>?_;have ha:argX x=jT x.left++jT x.right:=by simp [argX,k]
  rw [ha] at h;obtain ⟨t,T',e⟩:=Kw p1;obtain ⟨q,a1,a2,a3,a4,a5⟩:=zZ h58 x.op ⟨t,T'++jT x.right,by rw [e];rfl,GN x.left (hvl Al.1) t (by rw [e];rfl)⟩ n hn2 r1 _ h o p
  have hn5:5≤n:=by
   have l1:=C9 x.left;have l2:=C9 x.right;unfold yH at hn;rw [ha] at hn;simp at hn;omega
  obtain ⟨q2,c1,c2,c3⟩:=KJ (P:=P) (src:=src) (pre:=pre) (f:=yD src n) [zc x.left,zc x.right] jT (fun v hv=>by
    rcases List.mem_cons.1 hv with rfl|hv
    ·rw [BG];exact p1
    ·rw [List.mem_singleton.1 hv,BG];exact p2) id (fun _ _=>rfl) n [] q L (by simp;omega) (by simp) (a3.trans p) (by simpa [BG] using a2)
  refine ⟨q2, ?_,c2,by rw [c3.pre,a3],by rw [c3.iri,a4],by rw [c3.op,a5]⟩;simp at c1;simp [ET,acC,a1,c1,zA,axC,k,hro,Ao,Aa,Ab,Ig]
 ·have Al:=A.l;have Ar:=A.r;have Ao:=A.role;have Aa:=A.a;have Ab:=A.b;have Alo:=A.lo;have Ahi:=A.hi;simp [k,kH] at Al Ar Ao Aa Ab Alo Ahi;have hro:x.roles=[]:=Ahi;have p2:=BM (P:=P) (src:=src) ho hx x.right (hvr Ar.1) n (by unfold argX at hlen;simp [k] at hlen;omega);refine hfin wB2 (by simp [yN,k]) (by decide) fun r1 L h o p=>?_;have ha:argX x=(4,owN x.role)::jT x.right:=by simp [argX,k]
  rw [ha] at h;obtain ⟨q,a1,a2,a3,a4,a5⟩:=zZ h58 x.op ⟨_,_,rfl,Dl x.role _ (by simp)⟩ n hn2 r1 _ h o p;rw [List.cons_append] at a2;obtain ⟨q1,b1,b2,b3⟩:=rW a2 (by rw [a3,p];exact hnr Ao);obtain ⟨q2,c1,c2,c3⟩:=p2.2.2 q1 _ b2 (b3.pre.trans (a3.trans p));refine ⟨q2, ?_,c2,by rw [c3.pre,b3.pre,a3],by rw [c3.iri,b3.iri,a4],by rw [c3.op,b3.op,a5]⟩;simp [ET,acA,a1,b1,c1,zA,k,hro,Aa,Ab,wE Al]
 ·have Al:=A.l;have Ar:=A.r;have Ao:=A.role;have Aa:=A.a;have Ab:=A.b;have Alo:=A.lo;have Ahi:=A.hi;simp [k,kH] at Al Ar Ao Aa Ab Alo Ahi;obtain ⟨r0,hro⟩:∃r0,x.roles=[r0]:=List.length_eq_one_iff.1 (by omega);refine hfin wA3 (by simp [yN,k]) (by decide) fun r1 L h o p=>?_;have ha:argX x=[(4,owN r0),(4,owN x.role)]:=by simp [argX,k,hro]
  rw [ha] at h;obtain ⟨q,a1,a2,a3,a4,a5⟩:=zZ h58 x.op ⟨_,_,rfl,Dl r0 _ (by simp)⟩ n hn2 r1 _ h o p;simp only [List.cons_append,List.nil_append] at a2;obtain ⟨q0,z1,z2,z3,z4⟩:=zS a2 wA2;rw [decide_eq_false (Dl r0 _ (by simp))] at z1;obtain ⟨q1,b1,b2,b3⟩:=rW z2 (by rw [z4.pre,a3,p];exact hnrs r0 (by rw [hro];simp));obtain ⟨q2,c1,c2,c3⟩:=rW b2 (by rw [b3.pre,z4.pre,a3,p];exact hnr Ao);refine ⟨q2, ?_,c2,by rw [c3.pre,b3.pre,z4.pre,a3],by rw [c3.iri,b3.iri,z4.iri,a4],by rw [c3.op,b3.op,z4.op,a5]⟩;simp [ET,Y3,a1,z1,b1,c1,zA,k,hro,Aa,Ab,wE Al,wE Ar]
 ·have Al:=A.l;have Ar:=A.r;have Ao:=A.role;have Aa:=A.a;have Ab:=A.b;have Alo:=A.lo;have Ahi:=A.hi;simp [k,kH] at Al Ar Ao Aa Ab Alo Ahi;refine hfin wA3 (by simp [yN,k]) (by decide) fun r1 L h o p=>?_;have ha:argX x=(4,wA2)::(1,[40])::(x.roles.map (fun r=>((4,owN r):Tx))++[(1,[41]),(4,owN x.role)]):=by simp [argX,k]
  rw [ha] at h;obtain ⟨q,a1,a2,a3,a4,a5⟩:=zZ h58 x.op ⟨_,_,rfl,by simp⟩ n hn2 r1 _ h o p;simp only [List.cons_append,List.nil_append,List.append_assoc] at a2;obtain ⟨q0,z1,z2,z3,z4⟩:=zS a2 wA2;obtain ⟨q1,b1,b2,b3⟩:=lH z3 (w:=[40]) rfl;have hpre1:q1.pre=pre:=by rw [b3.pre];show q0.pre=_;rw [z4.pre,a3,p]
  have hfm:x.roles.flatMap (fun r=>([(4,owN r)]:List Tx))=x.roles.map (fun r=>((4,owN r):Tx)):=by
   have:∀l:List Rl,l.flatMap (fun r=>([(4,owN r)]:List Tx))=l.map (fun r=>((4,owN r):Tx)):=fun l=>by
    induction l with
    | nil=>rfl
    | cons a l ih=>simp [ih]
   exact this _
  obtain ⟨q2,c1,c2,c3⟩:=KJ (P:=P) (src:=src) (pre:=pre) (f:=oh src) x.roles (fun r=>[(4,owN r)]) (fun v hv=>adI (hnrs v hv)) id (fun _ _=>rfl) n [] q1 ((4,owN x.role)::(1,[41])::L) (by rw [ha] at hlen;simp at hlen;omega) (by simp;omega) hpre1 (by rw [hfm];exact b2);obtain ⟨q3,d1,d2,d3⟩:=lH c2 (w:=[41]) rfl;obtain ⟨q4,e1,e2,e3⟩:=rW d2 (by rw [d3.pre,c3.pre,hpre1];exact hnr Ao)
  have hne:x.roles.isEmpty=false:=by
   cases hh:x.roles with
   | nil=>rw [hh] at Alo;simp at Alo
   | cons=>rfl
  refine ⟨q4, ?_,e2, ?_, ?_, ?_⟩
  ·simp [ET,Y3,a1,z1,b1,c1,d1,e1,zA,k,hne,Aa,Ab,wE Al,wE Ar]
  ·rw [e3.pre,d3.pre,c3.pre,b3.pre];show q0.pre=_;rw [z4.pre,a3]
  ·rw [e3.iri,d3.iri,c3.iri,b3.iri];show q0.iri=_;rw [z4.iri,a4]
  ·rw [e3.op,d3.op,c3.op,b3.op];show q0.op=_;rw [z4.op,a5]
 ·have Al:=A.l;have Ar:=A.r;have Ao:=A.role;have Aa:=A.a;have Ab:=A.b;have Alo:=A.lo;have Ahi:=A.hi;simp [k,kH] at Al Ar Ao Aa Ab Alo Ahi;have hro:x.roles=[]:=Ahi;refine hfin wA9 (by simp [yN,k]) (by decide) fun r1 L h o p=>?_;have ha:argX x=[(4,owN x.role)]:=by simp [argX,k]
  rw [ha] at h;obtain ⟨q,a1,a2,a3,a4,a5⟩:=zZ h58 x.op ⟨_,_,rfl,Dl x.role _ (by simp)⟩ n hn2 r1 _ h o p;rw [List.cons_append] at a2;obtain ⟨q1,b1,b2,b3⟩:=rW a2 (by rw [a3,p];exact hnr Ao);refine ⟨q1, ?_,b2,by rw [b3.pre,a3],by rw [b3.iri,a4],by rw [b3.op,a5]⟩;simp [ET,abu,a1,b1,zA,k,hro,Aa,Ab,wE Al,wE Ar]
 ·have Al:=A.l;have Ar:=A.r;have Ao:=A.role;have Aa:=A.a;have Ab:=A.b;have Alo:=A.lo;have Ahi:=A.hi;simp [k,kH] at Al Ar Ao Aa Ab Alo Ahi;have hro:x.roles=[]:=Ahi;have p2:=BM (P:=P) (src:=src) ho hx x.right (hvr Ar.1) n (by unfold argX at hlen;simp [k] at hlen;omega);refine hfin wB7 (by simp [yN,k]) (by decide) fun r1 L h o p=>?_;have ha:argX x=jT x.right++[(4,owN x.a)]:=by simp [argX,k]
  rw [ha] at h;obtain ⟨t,T',e⟩:=Kw p2;obtain ⟨q,a1,a2,a3,a4,a5⟩:=zZ h58 x.op ⟨t,T'++[(4,owN x.a)],by rw [e];rfl,GN x.right (hvr Ar.1) t (by rw [e];rfl)⟩ n hn2 r1 _ h o p;rw [List.append_assoc] at a2;obtain ⟨q1,b1,b2,b3⟩:=p2.2.2 q _ a2 (a3.trans p);obtain ⟨q2,c1,c2,c3⟩:=rW b2 (by rw [b3.pre,a3,p];exact hna Aa);refine ⟨q2, ?_,c2,by rw [c3.pre,b3.pre,a3],by rw [c3.iri,b3.iri,a4],by rw [c3.op,b3.op,a5]⟩;simp [ET,aa9,a1,b1,c1,zA,k,hro,Ao,Ab,wE Al]
 ·have Al:=A.l;have Ar:=A.r;have Ao:=A.role;have Aa:=A.a;have Ab:=A.b;have Alo:=A.lo;have Ahi:=A.hi;simp [k,kH] at Al Ar Ao Aa Ab Alo Ahi;have hro:x.roles=[]:=Ahi;refine hfin wB0 (by simp [yN,k]) (by decide) fun r1 L h o p=>?_;have ha:argX x=[(4,owN x.role),(4,owN x.a),(4,owN x.b)]:=by simp [argX,k]
  rw [ha] at h;obtain ⟨q,a1,a2,a3,a4,a5⟩:=zZ h58 x.op ⟨_,_,rfl,Dl x.role _ (by simp)⟩ n hn2 r1 _ h o p;simp only [List.cons_append,List.nil_append] at a2;obtain ⟨q1,b1,b2,b3⟩:=rW a2 (by rw [a3,p];exact hnr Ao);obtain ⟨q2,c1,c2,c3⟩:=rW b2 (by rw [b3.pre,a3,p];exact hna Aa);obtain ⟨q3,d1,d2,d3⟩:=rW c2 (by rw [c3.pre,b3.pre,a3,p];exact hnb Ab);refine ⟨q3, ?_,d2,by rw [d3.pre,c3.pre,b3.pre,a3],by rw [d3.iri,c3.iri,b3.iri,a4],by rw [d3.op,c3.op,b3.op,a5]⟩;simp [ET,abL,a1,b1,c1,d1,zA,k,hro,wE Al,wE Ar]
end
end Go.Ai.Z
namespace Go.Ai.Z
open Go.Lib (itoa decDigits)
def NW (v:Rl):Prop:=∀b∈v.head?,zW b=false
theorem adT (v:Rl):NW (32::v):=by intro b hb;simp at hb;subst hb;decide
theorem akB (v:Rl):NW (10::v):=by intro b hb;simp at hb;subst hb;decide
theorem akA (v:Rl):NW (41::v):=by intro b hb;simp at hb;subst hb;decide
theorem aau (v:Rl):NW (40::v):=by intro b hb;simp at hb;subst hb;decide
theorem akz (v:Rl):NW (61::v):=by intro b hb;simp at hb;subst hb;decide
def abe (b:UInt8):Bool:=Vt b && !decide (b=60) && !decide (b=62)
structure acR (R:Rl→List Tx→Prop):Prop where
 blank:∀{c:UInt8} {v:Rl} {L:List Tx},c=32∨c=10→L≠[]→R v L→R (c::v) L
 word:∀{w v:Rl} {L:List Tx},w.all zW=true→w≠[]→NW v→R v L→R (w++v) ((4,w)::L)
 sign:∀{c:UInt8} {v:Rl} {L:List Tx},c=40∨c=41∨c=61→R v L→R (c::v) ((1,[c])::L)
 caret:∀{v:Rl} {L:List Tx},R v L→R (94::94::v) ((1,[94,94])::L)
 iri:∀{p v:Rl} {L:List Tx},p.all KZ=true→R v L→R (60::(p++62::v)) ((2,60::(p++[62]))::L)
 str:∀{p v:Rl} {L:List Tx},p.all abe=true→R v L→R (34::(p++34::v)) ((3,34::(p++[34]))::L)
theorem ac7 {p:Rl} (h:p.all abe=true):p.all Vt=true:=by
 rw [List.all_eq_true] at h ⊢;intro b hb
 have:=h b hb
 unfold abe at this;simp only [Bool.and_eq_true] at this;exact this.1.1
theorem aic (P:Rl→Prop):acR (Ly P) where
 blank h hL hx:=by
  rename_i c v L
  cases L with
  | nil=>exact absurd rfl hL
  | cons t L=>exact ad5 h hx
 word hw hn hv h:=⟨_,aat hw hn hv,h⟩
 sign hc h:=⟨_,VU hc _,h⟩
 caret h:=⟨_,Xy _,h⟩
 iri hp h:=⟨_,adR hp _,h⟩
 str hp h:=⟨_,adQ (ac7 hp) _,h⟩
def Pc (R:Rl→List Tx→Prop) (x:Rl) (T:List Tx):Prop:=T≠[]∧∀(v:Rl) (L:List Tx),NW v→R v L→R (x++v) (T++L)
section
variable {R:Rl→List Tx→Prop} (hR:acR R)
include hR
theorem wM {w:Rl} (hw:w.all zW=true) (hn:w≠[]):Pc R w [(4,w)]:=⟨by simp,fun v L hv h=>hR.word hw hn hv h⟩
theorem aap:∀(A:List (Rl×List Tx)),A≠[]→(∀p∈A,Pc R p.1 p.2)→Pc R (joinL [32] (A.map (·.1))) (A.flatMap (·.2))
 | [],h,_=>absurd rfl h
 | [p],_,h=>by
  have h1:=h p (by simp)
  simpa [joinL] using h1
 | p::q::A,_,h=>by
  have h1:=h p (by simp);have h2:=aap (q::A) (by simp) (fun r hr=>h r (by simp [hr]));refine ⟨by simp [h1.1],fun v L hv hL=>?_⟩;have h3:=h2.2 v L hv hL;have hne:((q::A).flatMap (·.2))++L≠[]:=fun hh=>h2.1 (List.append_eq_nil_iff.1 hh).1;have h4:=h1.2 (32::(joinL [32] ((q::A).map (·.1))++v)) _ (adT _) (hR.blank (.inl rfl) hne h3);have e1:joinL [32] ((p::q::A).map (·.1))++v=p.1++32::(joinL [32] ((q::A).map (·.1))++v):=by simp [joinL]
  have e2:((p::q::A).flatMap (·.2))++L=p.2++(((q::A).flatMap (·.2))++L):=by simp
  rw [e1,e2];exact h4
theorem af6 {w:Rl} (hw:w.all zW=true) (hn:w≠[]) {x:Rl} {T:List Tx} (h:Pc R x T):Pc R (w++[40]++x++[41]) ((4,w)::(1,[40])::(T++[(1,[41])])):=by
 refine ⟨by simp,fun v L hv hL=>?_⟩;have h1:R (41::v) ((1,[41])::L):=hR.sign (.inr (.inl rfl)) hL;have h2:=h.2 (41::v) _ (akA v) h1;have h3:R (40::(x++41::v)) ((1,[40])::(T++(1,[41])::L)):=hR.sign (.inl rfl) h2;have h4:=(wM hR hw hn).2 _ _ (aau _) h3;have e1:w++[40]++x++[41]++v=w++40::(x++41::v):=by simp
 rw [e1]
 simpa using h4
theorem zq {w:Rl} (hw:w.all zW=true) (hn:w≠[]) (A:List (Rl×List Tx)) (hA:A≠[]) (h:∀p∈A,Pc R p.1 p.2):Pc R (lM w (A.map (·.1))) ((4,w)::(1,[40])::(A.flatMap (·.2)++[(1,[41])])):=
 af6 hR hw hn (aap hR A hA h)
omit hR in
theorem aem (n:Int):(itoa n).all abe=true:=by
 have hd:∀u:Nat,(decDigits u).all abe=true:=fun u=>by
  have:=Wx u
  rw [List.all_eq_true] at this ⊢;intro b hb;have h1:=(PY b).1 (this b hb);unfold abe Vt stI;simp only [Bool.and_eq_true,decide_eq_true_eq,Bool.not_eq_true',decide_eq_false_iff_not]
  refine ⟨⟨by omega, ?_⟩, ?_⟩<;>(rintro rfl;revert h1;decide)
 unfold itoa;split
 ·rw [List.all_cons,hd];rfl
 ·exact hd _
theorem adH {w:Rl} (hw:w.all zW=true) (hn:w≠[]) (n:Int):Pc R (Bc w n) (RI w n):=by
 refine ⟨by simp [RI],fun v L hv hL=>?_⟩;have h1:=(wM hR (w:=wA0) (by decide) (by simp)).2 v L hv hL;have h2:R (94::94::(wA0++v)) ((1,[94,94])::(4,wA0)::L):=hR.caret h1;have h3:R (34::(itoa n++34::94::94::(wA0++v))) ((3,34::(itoa n++[34]))::(1,[94,94])::(4,wA0)::L):=hR.str (aem n) h2;have h4:=(wM hR hw hn).2 _ _ (adT _) (hR.blank (.inl rfl) (by simp) h3);have e1:Bc w n++v=w++32::34::(itoa n++34::94::94::(wA0++v)):=by simp [Bc,ttI]
 rw [e1];exact h4
theorem um {n:Rl} (h:NmV n):Pc R (owN n) [(4,owN n)]:=wM hR (aaq h).1 (aaq h).2
omit hR in
theorem Qb {c:C} (h:iH c=0):kS c=true∧uf c=true∧∀p∈c.parts,iH p=0:=by
 rw [CZ] at h
 split at h
 ·cases h
 split at h
 ·cases h
 ·rename_i a b;refine ⟨by simpa using a,by simpa using b, ?_⟩
  have hL:∀l:List C,rM l=0→∀p∈l,iH p=0:=fun l=>by
   induction l with
   | nil=>intro _ p hp;cases hp
   | cons a r ihr=>
    intro h p hp;simp only [rM] at h
    split at h
    ·rename_i ha;rcases List.mem_cons.1 hp with rfl|hp
     ·exact ha
     ·exact ihr h p hp
    ·rename_i ha;exact absurd h ha
  exact hL _ h
omit hR in
theorem PU {c:C} (h:uf c=true) (hk:c.kind=3∨c.kind=4∨c.kind=6∨c.kind=7):NmV c.name:=by
 unfold uf at h
 rcases hk with k|k|k|k<;>simp [k] at h
 ·exact .inl h
 ·exact h
 ·exact .inl h
 ·exact .inl h
theorem Fp:∀c:C,iH c=0→Pc R (owC c) (jT c):=by
 refine C.ind' fun c ih hw=>?_;obtain ⟨hs,hn,hp⟩:=Qb hw;rw [CJ,GR];rcases Vy hs with k|k|k|k|k|k|k
 ·simp only [k,if_true];exact wM hR (by decide) (by simp)
 ·simp only [k];exact wM hR (w:=wB1) (by decide) (by simp)
 ·simp only [k];exact um hR (PU hn (.inl k))
 ·simp only [k];exact zq hR (w:=wB6) (by decide) (by simp) [(owN c.name,[(4,owN c.name)])] (by simp) (fun p hp=>by rw [List.mem_singleton.1 hp];exact um hR (PU hn (.inr (.inl k))))
 ·simp only [k]
  have hne:c.parts≠[]:=by
   have:=(MB hs k).2.2.2
   intro h;rw [h] at this;simp at this
  have h1:=zq hR (w:=wA5) (by decide) (by simp) (c.parts.map fun p=>(owC p,jT p)) (by simpa using hne) (fun p hp2=>by
   obtain ⟨d,hd,rfl⟩:=List.mem_map.1 hp2
   exact ih d hd (hp d hd))
  rw [List.map_map] at h1;have e2:(c.parts.map fun p=>(owC p,jT p)).flatMap (·.2)=c.parts.flatMap jT:=by rw [List.flatMap_map]
  rw [e2] at h1;exact h1
 ·obtain ⟨s1,s2,p,s3⟩:=Ql hs k;simp only [k,s3]
  have h1:=zq hR (w:=wA6) (by decide) (by simp) [(owN c.name,[(4,owN c.name)]),(owC p,jT p)] (by simp) (fun q hq=>by
   rcases List.mem_cons.1 hq with rfl|hq
   ·exact um hR (PU hn (.inr (.inr (.inl k))))
   ·rw [List.mem_singleton.1 hq];exact ih p (by rw [s3];simp) (hp p (by rw [s3];simp)))
  simpa using h1
 ·simp only [k]
  have h0:=zq hR (w:=wA7) (by decide) (by simp) [(wA0,[(4,wA0)]),(Bc wA1 c.lo,RI wA1 c.lo),(Bc wA4 c.hi,RI wA4 c.hi)] (by simp) (fun q hq=>by
   rcases List.mem_cons.1 hq with rfl|hq
   ·exact wM hR (by decide) (by simp)
   rcases List.mem_cons.1 hq with rfl|hq
   ·exact adH hR (by decide) (by simp) _
   ·rw [List.mem_singleton.1 hq];exact adH hR (by decide) (by simp) _)
  have h1:=zq hR (w:=wA8) (by decide) (by simp) [(owN c.name,[(4,owN c.name)]),(lM wA7 [wA0,Bc wA1 c.lo,Bc wA4 c.hi],_)] (by simp) (fun q hq=>by
   rcases List.mem_cons.1 hq with rfl|hq
   ·exact um hR (PU hn (.inr (.inr (.inr k))))
   ·rw [List.mem_singleton.1 hq];exact h0)
  simpa using h1
theorem af5:Pc R fH UE:=by
 refine ⟨by simp [UE],fun v L hv hL=>?_⟩;have h1:R (41::v) ((1,[41])::L):=hR.sign (.inr (.inl rfl)) hL;have h2:R (34::([116,114,117,101]++34::41::v)) ((3,wD3)::(1,[41])::L):=hR.str (by decide) h1;have h3:=(wM hR (w:=[58,111,112,101,110]) (by decide) (by simp)).2 _ _ (adT _) (hR.blank (.inl rfl) (by simp) h2);have h4:R (40::([58,111,112,101,110]++32::34::([116,114,117,101]++34::41::v))) ((1,[40])::([(4,[58,111,112,101,110])]++(3,wD3)::(1,[41])::L)):=hR.sign (.inl rfl) h3;have h5:=(wM hR (w:=wB9) (by decide) (by simp)).2 _ _ (aau _) h4;exact h5
omit hR in
theorem ahw (x:Ax) (h:AOK x):(yN x.kind).all zW=true∧yN x.kind≠[]:=by
 rcases h.k with k|k|k|k|k|k|k|k|k<;>rw [k]<;>exact ⟨by decide,by decide⟩
theorem akw {x:Ax} (hc:iT x=0):Pc R (owA x) (yH x):=by
 have A:=aok hc
 have hA:∃B:List (Rl×List Tx),B≠[]∧(∀p∈B,Pc R p.1 p.2)∧B.map (·.1)=zu x∧B.flatMap (·.2)=argX x:=by
  rcases A.k with k|k|k|k|k|k|k|k|k
  ·have Al:=A.l;have Ar:=A.r;simp [k,kH] at Al Ar;exact ⟨[(owC x.left,jT x.left),(owC x.right,jT x.right)],by simp,by simpa using ⟨Fp hR _ Al.1,Fp hR _ Ar.1⟩,by simp [zu,k],by simp [argX,k]⟩
  ·have Al:=A.l;have Ar:=A.r;simp [k,kH] at Al Ar;exact ⟨[(owC x.left,jT x.left),(owC x.right,jT x.right)],by simp,by simpa using ⟨Fp hR _ Al.1,Fp hR _ Ar.1⟩,by simp [zu,k],by simp [argX,k]⟩
  ·have Al:=A.l;have Ar:=A.r;simp [k,kH] at Al Ar;exact ⟨[(owC x.left,jT x.left),(owC x.right,jT x.right)],by simp,by simpa using ⟨Fp hR _ Al.1,Fp hR _ Ar.1⟩,by simp [zu,k],by simp [argX,k]⟩
  ·have Ar:=A.r;have Ao:=A.role;simp [k,kH] at Ar Ao;exact ⟨[(owN x.role,[(4,owN x.role)]),(owC x.right,jT x.right)],by simp,by simpa using ⟨um hR Ao,Fp hR _ Ar.1⟩,by simp [zu,k],by simp [argX,k]⟩
  ·have Ao:=A.role;have Alo:=A.lo;have Ahi:=A.hi;simp [k,kH] at Ao Alo Ahi;obtain ⟨r0,hro⟩:∃r0,x.roles=[r0]:=List.length_eq_one_iff.1 (by omega);exact ⟨[(owN r0,[(4,owN r0)]),(owN x.role,[(4,owN x.role)])],by simp,by simpa using ⟨um hR (A.rs r0 (by rw [hro];simp)),um hR Ao⟩,by simp [zu,k,hro],by simp [argX,k,hro]⟩
  ·have Ao:=A.role;have Alo:=A.lo;have Ahi:=A.hi;simp [k,kH] at Ao Alo Ahi;have hne:x.roles≠[]:=by intro h;rw [h] at Alo;simp at Alo
   have h0:=zq hR (w:=wA2) (by decide) (by simp) (x.roles.map fun r=>(owN r,[(4,owN r)])) (by simpa using hne) (fun q hq=>by
    obtain ⟨r,hr,rfl⟩:=List.mem_map.1 hq
    exact um hR (A.rs r hr))
   rw [List.map_map,List.flatMap_map] at h0
   have hfm:x.roles.flatMap (fun r=>([(4,owN r)]:List Tx))=x.roles.map (fun r=>((4,owN r):Tx)):=by
    have:∀l:List Rl,l.flatMap (fun r=>([(4,owN r)]:List Tx))=l.map (fun r=>((4,owN r):Tx)):=fun l=>by
     induction l with
     | nil=>rfl
     | cons a l ih=>simp [ih]
    exact this _
   refine ⟨[(lM wA2 (x.roles.map owN),(4,wA2)::(1,[40])::(x.roles.map (fun r=>((4,owN r):Tx))++[(1,[41])])),(owN x.role,[(4,owN x.role)])],by simp, ?_,by simp [zu,k],by simp [argX,k]⟩;intro q hq;rcases List.mem_cons.1 hq with rfl|hq
   ·rw [←hfm];exact h0
   ·rw [List.mem_singleton.1 hq];exact um hR Ao
  ·have Ao:=A.role;simp [k,kH] at Ao;exact ⟨[(owN x.role,[(4,owN x.role)])],by simp,by simpa using um hR Ao,by simp [zu,k],by simp [argX,k]⟩
  ·have Ar:=A.r;have Aa:=A.a;simp [k,kH] at Ar Aa;exact ⟨[(owC x.right,jT x.right),(owN x.a,[(4,owN x.a)])],by simp,by simpa using ⟨Fp hR _ Ar.1,um hR Aa⟩,by simp [zu,k],by simp [argX,k]⟩
  ·have Ao:=A.role;have Aa:=A.a;have Ab:=A.b;simp [k,kH] at Ao Aa Ab;exact ⟨[(owN x.role,[(4,owN x.role)]),(owN x.a,[(4,owN x.a)]),(owN x.b,[(4,owN x.b)])],by simp,by simpa using ⟨um hR Ao,um hR Aa,um hR Ab⟩,by simp [zu,k],by simp [argX,k]⟩
 obtain ⟨B,h1,h2,h3,h4⟩:=hA;obtain ⟨w1,w2⟩:=ahw x A;unfold owA yH gZ Xz;rw [←h3,←h4]
 cases x.op with
 | false=>
  simpa using zq hR w1 w2 B h1 h2
 | true=>
  have:=zq hR w1 w2 ((fH,UE)::B) (by simp) (fun q hq=>by
   rcases List.mem_cons.1 hq with rfl|hq
   ·exact af5 hR
   ·exact h2 q hq)
  simpa using this
end
end Go.Ai.Z
namespace Go.Ai.Z
section
variable {R:Rl→List Tx→Prop} (hR:acR R)
include hR
theorem PN {w u:Rl} (hw:w.all zW=true) (hn:w≠[]) (hu:u.all KZ=true):Pc R (wC6++w++[61,60]++u++[62,41]) (yF w (60::(u++[62]))):=by
 refine ⟨by simp [yF],fun v L hv hL=>?_⟩;have h1:R (41::v) ((1,[41])::L):=hR.sign (.inr (.inl rfl)) hL;have h2:R (60::(u++62::41::v)) ((2,60::(u++[62]))::(1,[41])::L):=hR.iri hu h1;have h3:R (61::60::(u++62::41::v)) ((1,[61])::(2,60::(u++[62]))::(1,[41])::L):=hR.sign (.inr (.inr rfl)) h2;have h4:=(wM hR hw hn).2 _ _ (akz _) h3;have h5:R (40::(w++61::60::(u++62::41::v))) ((1,[40])::([(4,w)]++(1,[61])::(2,60::(u++[62]))::(1,[41])::L)):=hR.sign (.inl rfl) h4;have h6:=(wM hR (w:=wC0) (by decide) (by simp)).2 _ _ (aau _) h5;have e:wC6++w++[61,60]++u++[62,41]++v=wC0++40::(w++61::60::(u++62::41::v)):=by simp
 rw [e];exact h6
theorem ah2:Pc R Zc [(4,wC3),(1,[40])]:=by
 refine ⟨by simp,fun v L hv hL=>?_⟩;have h1:R (40::v) ((1,[40])::L):=hR.sign (.inl rfl) hL;exact (wM hR (w:=wC3) (by decide) (by simp)).2 _ _ (aau _) h1
theorem XL:∀(A:List (Rl×List Tx)),(∀p∈A,Pc R p.1 p.2)→∀(v:Rl) (L:List Tx),L≠[]→R v L→R (vX (A.map (·.1))++v) (A.flatMap (·.2)++L)
 | [],_,v,L,_,h=>h
 | p::A,hA,v,L,hL,h=>by
  have h1:=XL A (fun q hq=>hA q (by simp [hq])) v L hL h;have hne:A.flatMap (·.2)++L≠[]:=fun hh=>hL (List.append_eq_nil_iff.1 hh).2;have h2:=(hA p (by simp)).2 _ _ (akB _) (hR.blank (.inr rfl) hne h1);have e1:vX ((p::A).map (·.1))++v=p.1++10::(vX (A.map (·.1))++v):=by simp [vX]
  have e2:(p::A).flatMap (·.2)++L=p.2++(A.flatMap (·.2)++L):=by simp
  rw [e1,e2];exact h2
end
def VN:Rl:=wC8
def Vk:Rl:=wC5
def VL (p w:Rl):List Tx:=yF (w++[58]) (60::((p++w++[47])++[62]))
def hdX (p:Rl):List Tx:=yF [58] (60::(p++[62]))
def ae2 (p:Rl) (W:List Rl) (l:List Ax):List Tx:=yF [111,119,108,58] (60::(VN++[62]))++yF [120,115,100,58] (60::(Vk++[62]))++W.flatMap (VL p)++[(4,wC3),(1,[40])]++l.flatMap yH++[(1,[41])]
def RN (p:Rl) (W:List Rl) (l:List Ax):List Tx:=hdX p++ae2 p W l
def acB (p:Rl) (W:List Rl) (l:List Ax):List (Rl×List Tx):=([(Pj p,hdX p),(Rt,yF [111,119,108,58] (60::(VN++[62]))),(Rq,yF [120,115,100,58] (60::(Vk++[62])))]++W.map (fun w=>(Ho p w,VL p w))++[(Zc,[(4,wC3),(1,[40])])]++l.map (fun x=>(owA x,yH x)))
structure WdP (w:Rl):Prop where
 word:AP w=true
 iri:w.all KZ=true
 owl:w≠[111,119,108]
 xsd:w≠[120,115,100]
theorem afJ {b:UInt8} (h:zW b=true):KZ b=true:=by
 unfold zW wdI ltI at h;unfold KZ XW;simp only [Bool.or_eq_true,Bool.and_eq_true,decide_eq_true_eq] at h ⊢;omega
theorem wdP {w:Rl} (h:AP w=true) (h1:w≠[111,119,108]) (h2:w≠[120,115,100]):WdP w:=by
 obtain ⟨_,k,_,_⟩:=uK h;refine ⟨h, ?_,h1,h2⟩;rw [List.all_eq_true] at k ⊢;exact fun b hb=>afJ (k b hb)
theorem ad4 {R:Rl→List Tx→Prop} (hR:acR R) (hend:R [10] []) {p:Rl} (hp:p.all KZ=true) {W:List Rl} (hW:∀w∈W,WdP w) {l:List Ax} (hl:∀x∈l,iT x=0):R (Ie p W l) (RN p W l):=by
 have h0:R (41::[10]) [(1,[41])]:=hR.sign (.inr (.inl rfl)) hend;have hh1:Pj p=wC6++[58]++[61,60]++p++[62,41]:=by simp [Pj]
 have hh2:Rt=wC6++[111,119,108,58]++[61,60]++VN++[62,41]:=rfl;have hh3:Rq=wC6++[120,115,100,58]++[61,60]++Vk++[62,41]:=rfl;have hpl:∀w,Ho p w=wC6++(w++[58])++[61,60]++(p++w++[47])++[62,41]:=fun w=>by simp [Ho]
 have hA:=XL hR (acB p W l)
  (fun q hq=>by
   unfold acB at hq;simp only [List.mem_append,List.mem_cons,List.not_mem_nil,or_false,List.mem_map] at hq;rcases hq with ((((rfl|rfl|rfl)|⟨w,hw,rfl⟩)|rfl)|⟨x,hx,rfl⟩)
   ·rw [hh1];exact PN hR (by decide) (by simp) hp
   ·rw [hh2];exact PN hR (by decide) (by simp) (by decide)
   ·rw [hh3];exact PN hR (by decide) (by simp) (by decide)
   ·show Pc _ (Ho p w) (VL p w);rw [hpl];obtain ⟨k1,k2,k3,_⟩:=uK (hW w hw).word;refine PN hR (by rw [List.all_append,k2];decide) (by simp) ?_;rw [List.all_append,List.all_append,hp,(hW w hw).iri];decide
   ·exact ah2 hR
   ·exact akw hR (hl x hx)) [41,10] [(1,[41])] (by simp) h0
 have e1:Ie p W l=vX ((acB p W l).map (·.1))++[41,10]:=by
  unfold Ie ZJ acB;simp [FW,vX,List.map_map,Function.comp_def]
 have e2:RN p W l=((acB p W l).flatMap (·.2))++[(1,[41])]:=by
  unfold RN ae2 acB;simp [List.flatMap_append,List.flatMap_map]
 rw [e1,e2];exact hA
theorem afY (v:Rl):(skp v).length≤v.length:=by unfold skp;rw [List.length_drop];omega
theorem ah6 {v w:Rl} {t:Tx} (h:Nx v t w):w.length+1≤v.length:=by
 obtain ⟨h1,h2,_⟩:=h
 have:=afY v
 rw [h1,List.length_append] at this
 have:t.2.length≠0:=fun hc=>h2 (List.length_eq_zero_iff.1 hc)
 omega
theorem ad3 {P:Rl→Prop}:∀(L:List Tx) (v:Rl),Ly P v L→L.length≤v.length
 | [],v,_=>by simp
 | t::L,v,⟨w,h1,h2⟩=>by
  have:=ah6 h1
  have:=ad3 L w h2
  simp;omega
def aiI (w:Rl):Prop:=∃x,w=x++[58]∧(58:UInt8) ∉ x∧(x=[]∨∃c r,x=c::r∧ltI c.toNat=true)
theorem aao {w:Rl} (h:aiI w) {pre:List Rl} (hn:w ∉ pre) (a:Nat):O1 pre (4,w,a)=true:=by
 obtain ⟨x,rfl,h1,h2⟩:=h
 have hc:lD 58 (x++[58])=some (x,[]):=by
  have:∀x:Rl,(58:UInt8) ∉ x→lD 58 (x++[58])=some (x,[]):=fun x=>by
   induction x with
   | nil=>intro _;simp [lD]
   | cons c r ih=>
    intro hx;simp only [List.mem_cons,not_or] at hx;simp [lD,Ne.symm hx.1,ih hx.2]
  exact this x h1
 have hi:=Eg hc;unfold O1;simp only [hi];rcases h2 with rfl|⟨c,r,rfl,hl⟩
 ·simpa using hn
 ·simp [hl]
  simpa using hn
theorem aaz {P:Rl→Prop} {src:Rl}:∀(I:List (Rl×Rl)) (k:Nat) (r:Rd) (t:Tx) (L:List Tx),I.length<k→(∀p∈I,aiI p.1∧p.1≠[58]∧∀a,Af p.1 (2,p.2,a)=true)→(I.map (·.1)).Nodup→(∀p∈I,p.1 ∉ r.pre)→t.2≠wC0→
  My P src r (I.flatMap (fun p=>yF p.1 p.2)++t::L)→∃q,EJ src k r=.ok () q∧My P src q (t::L)∧q.pre=r.pre++I.map (·.1)∧q.iri=r.iri
 | [],k,r,t,L,hk,_,_,_,ht,h=>by
  obtain ⟨k,rfl⟩:∃j,k=j+1:=⟨k - 1,by simp at hk;omega⟩;obtain ⟨q,h1,h2,h3,h4⟩:=zS h wC0;rw [decide_eq_false ht] at h1;exact ⟨q,by unfold EJ;rw [h1];simp,h2,by simp [h4.pre],h4.iri⟩
 | p::I,k,r,t,L,hk,hI,hnd,hnm,ht,h=>by
  obtain ⟨k,rfl⟩:∃j,k=j+1:=⟨k - 1,by simp at hk;omega⟩;rw [List.flatMap_cons,List.append_assoc] at h;have h':=h;rw [show yF p.1 p.2=(4,wC0)::[(1,[40]),(4,p.1),(1,[61]),(2,p.2),(1,[41])] from rfl,List.cons_append] at h';obtain ⟨q,h1,h2,h3,h4⟩:=zS h' wC0;obtain ⟨g1,g2,g3⟩:=hI p (by simp);have hnq:p.1 ∉ q.pre:=by rw [h4.pre];exact hnm p (by simp)
  obtain ⟨q1,a1,a2,a3,a4⟩:=aaA (src:=src) (P:=P) (r:=q) (w:=p.1) (u:=p.2) (by exact h2) (fun a=>aao g1 hnq a) g3;have hadd:q1.pre=r.pre++[p.1]:=by rw [a3];unfold qR;rw [if_neg hnq,h4.pre]
  rw [List.map_cons,List.nodup_cons] at hnd
  obtain ⟨q2,b1,b2,b3,b4⟩:=aaz I k q1 t L (by simp at hk;omega) (fun u hu=>hI u (by simp [hu])) hnd.2 (fun u hu=>by
   rw [hadd,List.mem_append,not_or];refine ⟨hnm u (by simp [hu]), ?_⟩;rw [List.mem_singleton];intro e
   exact hnd.1 (by rw [←e];exact List.mem_map.2 ⟨u,hu,rfl⟩)) ht a2
  refine ⟨q2, ?_,b2,by rw [b3,hadd];simp,by rw [b4,a4,if_neg g2,h4.iri]⟩;unfold EJ;rw [h1,decide_eq_true rfl];simp only [OR.bind_ok,if_true,a1,b1]
def dcl (W:List Rl):List Rl:=[58]::[111,119,108,58]::[120,115,100,58]::W.map (·++[58])
theorem ae1 {src p:Rl} {W:List Rl} {l:List Ax} {N:Nat} (h:Ly NxE src (RN p W l)) (hW:∀w∈W,WdP w) (hnd:W.Nodup) (hl:∀x∈l,iT x=0) (hll:l.length≤1024) (hd:∀x∈l,∀n∈nmX x,afz (dcl W) n):
  ∃r,Wv src (src.length+1) N r00=.ok (l.map zA) r∧r.iri=p:=by
 have hlen:=ad3 _ _ h;have h0:My NxE src r00 (RN p W l):=h
 have hX:RN p W l=hdX p++((yF [111,119,108,58] (60::(VN++[62]))++yF [120,115,100,58] (60::(Vk++[62]))++W.flatMap (VL p))++(4,wC3)::((1,[40])::(l.flatMap yH++[(1,[41])]))):=by
  unfold RN ae2;simp
 have hI:yF [111,119,108,58] (60::(VN++[62]))++yF [120,115,100,58] (60::(Vk++[62]))++W.flatMap (VL p)=(([111,119,108,58],60::(VN++[62]))::([120,115,100,58],60::(Vk++[62]))::W.map (fun w=>(w++[58],60::((p++w++[47])++[62])))).flatMap (fun p=>yF p.1 p.2):=by
  rw [List.flatMap_cons,List.flatMap_cons,List.flatMap_map,List.append_assoc];rfl
 have hWl:W.length≤(W.flatMap (VL p)).length:=by
  have:∀W:List Rl,W.length≤(W.flatMap (VL p)).length:=fun W=>by
   induction W with
   | nil=>simp
   | cons w W ih=>simp only [List.flatMap_cons,List.length_append,List.length_cons,VL,yF] at ih ⊢;omega
  exact this W
 have hll2:∀x∈l,(yH x).length≤(l.flatMap yH).length:=fun x hx=>by
  have:∀l:List Ax,x∈l→(yH x).length≤(l.flatMap yH).length:=fun l=>by
   induction l with
   | nil=>intro hh;cases hh
   | cons y l ih=>
    intro hh;rw [List.flatMap_cons,List.length_append];rcases List.mem_cons.1 hh with rfl|hh
    ·omega
    ·have:=ih hh;omega
  exact this l hx
 have hln:l.length≤(l.flatMap yH).length:=by
  have:∀l:List Ax,l.length≤(l.flatMap yH).length:=fun l=>by
   induction l with
   | nil=>simp
   | cons y l ih=>rw [List.flatMap_cons,List.length_append];simp only [yH,List.length_cons] at ih ⊢;omega
  exact this l
 have hlenX:(hdX p).length+(W.flatMap (VL p)).length+(l.flatMap yH).length≤src.length:=by rw [hX] at hlen;simp at hlen ⊢;omega
 rw [hX] at h0
 -- the first prefix
 have h0':=h0;rw [show hdX p=(4,wC0)::[(1,[40]),(4,[58]),(1,[61]),(2,60::(p++[62])),(1,[41])] from rfl,List.cons_append] at h0';obtain ⟨q0,a1,a2,a3,a4⟩:=zS h0' wC0;obtain ⟨q1,b1,b2,b3,b4⟩:=aaA (src:=src) (P:=NxE) (r:=q0) (w:=[58]) (u:=60::(p++[62])) (by exact a2) (fun a=>aao ⟨[],rfl,by simp,.inl rfl⟩ (by rw [a4.pre];simp [r00]) a) (fun a=>by simp [Af]);have hq1:q1.pre=[[58]]:=by rw [b3,a4.pre];rfl
 have hi1:q1.iri=p:=by rw [b4,if_pos rfl];exact aes 60 62 p
 rw [hI] at b2
 have hpw:∀w∈W,aiI (w++[58]):=fun w hw=>by
  obtain ⟨_,_,k3,c,r,k4,k5⟩:=uK (hW w hw).word;exact ⟨w,rfl,k3,.inr ⟨c,r,k4,k5⟩⟩
 have hwo:∀w:Rl,(w++[58]:Rl)=[111,119,108,58]→w=[111,119,108]:=fun w h=>by
  have:(w++[58]:Rl)=[111,119,108]++[58]:=h
  exact List.append_cancel_right this
 have hwx:∀w:Rl,(w++[58]:Rl)=[120,115,100,58]→w=[120,115,100]:=fun w h=>by
  have:(w++[58]:Rl)=[120,115,100]++[58]:=h
  exact List.append_cancel_right this
 have hfst:((([111,119,108,58],60::(VN++[62]))::([120,115,100,58],60::(Vk++[62]))::W.map (fun w=>(w++[58],60::((p++w++[47])++[62])))).map (·.1):List Rl)=[111,119,108,58]::[120,115,100,58]::W.map (·++[58]):=by simp [Function.comp_def]
 obtain ⟨n,hn⟩:∃n,src.length+1=n+1:=⟨src.length,rfl⟩
 obtain ⟨q2,c1,c2,c3,c4⟩:=aaz (P:=NxE) (src:=src) (([111,119,108,58],60::(VN++[62]))::([120,115,100,58],60::(Vk++[62]))::W.map (fun w=>(w++[58],60::((p++w++[47])++[62])))) src.length q1 (4,wC3) ((1,[40])::(l.flatMap yH++[(1,[41])])) (by have h6:(hdX p).length=6:=rfl;simp only [List.length_cons,List.length_map];omega)
  (fun u hu=>by
   rcases List.mem_cons.1 hu with rfl|hu
   ·exact ⟨⟨[111,119,108],rfl,by simp,.inr ⟨_,_,rfl,by decide⟩⟩,by simp,fun a=>by simp [Af,VN]⟩
   rcases List.mem_cons.1 hu with rfl|hu
   ·exact ⟨⟨[120,115,100],rfl,by simp,.inr ⟨_,_,rfl,by decide⟩⟩,by simp,fun a=>by simp [Af,Vk]⟩
   ·obtain ⟨w,hw,rfl⟩:=List.mem_map.1 hu;refine ⟨hpw w hw,fun e=>?_,fun a=>?_⟩
    ·have:w=[]:=by simpa using e
     exact (uK (hW w hw).word).1 this
    ·have k1:¬(w++[58]:Rl)=[111,119,108,58]:=fun e=>(hW w hw).owl (hwo w e);have k2:¬(w++[58]:Rl)=[120,115,100,58]:=fun e=>(hW w hw).xsd (hwx w e)
     simp [Af,k1,k2])
  (by
   rw [hfst,List.nodup_cons,List.nodup_cons];refine ⟨?_, ?_, ?_⟩
   ·simp only [List.mem_cons,not_or,List.mem_map,not_exists,not_and];exact ⟨by simp,fun w hw e=>(hW w hw).owl (hwo w e)⟩
   ·simp only [List.mem_map,not_exists,not_and];exact fun w hw e=>(hW w hw).xsd (hwx w e)
   ·exact List.Pairwise.map _ (fun a b hab e=>hab (List.append_cancel_right e)) hnd)
  (fun u hu=>by
   rw [hq1,List.mem_singleton];rcases List.mem_cons.1 hu with rfl|hu
   ·simp
   rcases List.mem_cons.1 hu with rfl|hu
   ·simp
   ·obtain ⟨w,hw,rfl⟩:=List.mem_map.1 hu;intro e
    have:w=[]:=by simpa using e
    exact (uK (hW w hw).word).1 this)
  (by simp) b2
 have hpre2:q2.pre=dcl W:=by rw [c3,hq1,hfst];rfl
 obtain ⟨q3,d1,d2,d3,d4⟩:=zS c2 wC3;obtain ⟨q4,e1,e2,e3⟩:=lH d3 (w:=[40]) rfl;have hpre4:q4.pre=dcl W:=by rw [e3.pre];show q3.pre=_;rw [d4.pre,hpre2]
 -- no IRI behind the sign
 have hf:∃q5,F5 src 2 q4=.ok () q5∧My NxE src q5 (l.flatMap yH++[(1,[41])])∧Fq q4 q5:=by
  have:∃t T,l.flatMap yH++[((1,[41]):Tx)]=t::T∧t.1≠2:=by
   cases l with
   | nil=>exact ⟨_,_,rfl,by simp⟩
   | cons x l=>exact ⟨(4,yN x.kind),_,rfl,by simp⟩
  obtain ⟨t,T,k1,k2⟩:=this;rw [k1] at e2;obtain ⟨a,q5,f1,f2,f3,f4⟩:=qA e2;refine ⟨q5, ?_,by rw [k1];exact f2,f4⟩;unfold F5;rw [f1];simp only [OR.bind_ok];rw [if_neg k2]
 obtain ⟨q5,f1,f2,f3⟩:=hf;have hI2:l.flatMap yH=(l.map fun x=>(yH x,[zA x])).flatMap (·.1):=by rw [List.flatMap_map]
 have hI3:(l.map fun x=>(yH x,[zA x])).flatMap (·.2)=l.map zA:=by
  rw [List.flatMap_map]
  have:∀l:List Ax,l.flatMap (fun x=>[zA x])=l.map zA:=fun l=>by
   induction l with
   | nil=>rfl
   | cons a l ih=>simp [ih]
  exact this l
 rw [hI2] at f2
 obtain ⟨q6,g1,g2,g3,g4⟩:=XC (P:=NxE) (src:=src) (n:=src.length+1) (N:=N) (pre:=dcl W) (l.map fun x=>(yH x,[zA x])) (fun u hu=>by
   obtain ⟨x,hx,rfl⟩:=List.mem_map.1 hu;refine ⟨⟨_,_,rfl, ?_⟩,fun l0 r L h1 h2 h3=>?_⟩
   ·have A:=aok (hl x hx)
    rcases A.k with k|k|k|k|k|k|k|k|k<;>rw [k]<;>decide
   ·exact aeo (pre:=dcl W) (by simp [dcl]) (by simp [dcl]) (by simp [dcl]) (hl x hx) (hd x hx) (by have:=hll2 x hx;omega) l0 (by simpa using h1) r L h2 h3)
  (src.length+1) [] q5 [] (by simp;omega) (by rw [hI3];simpa using hll) (f3.pre.trans hpre4) f2
 rw [hI3] at g1;obtain ⟨a8,q8,j1,j2⟩:=aib g2;refine ⟨q8, ?_, ?_⟩
 ·have hpr:EJ src (src.length+1) r00=.ok () q2:=by
   unfold EJ;rw [a1,decide_eq_true rfl];simp only [OR.bind_ok,if_true,b1,c1]
  have h58:([58]:Rl)∈q3.pre:=by rw [d4.pre,hpre2];simp [dcl]
  unfold Wv;rw [hpr];simp only [OR.bind_ok,d1,h58,decide_true,Bool.and_self,pF,e1,f1,g1,j1];simp
 ·rw [j2.iri];show q6.iri=_;rw [g3,f3.iri,e3.iri];show q3.iri=_;rw [d4.iri,c4,hi1]
end Go.Ai.Z
namespace Go.Ai.Z
theorem Ac {v:V4} {n:Rl}:n∈v.all ↔ n∈v.c∨n∈v.r∨n∈v.f∨n∈v.i:=by
 unfold V4.all;simp only [List.mem_append,or_assoc]
theorem afs {v:V4} {c:C} {n:Rl} (h:n∈v.all):n∈(v.add c).all:=by
 rw [Ac] at h ⊢;unfold V4.add;split
 ·simp only [jb];rcases h with h|h|h|h<;>simp [h]
 split
 ·simp only [jb];rcases h with h|h|h|h<;>simp [h]
 split
 ·simp only [jb];rcases h with h|h|h|h<;>simp [h]
 split
 ·simp only [jb];rcases h with h|h|h|h<;>simp [h]
 ·exact h
theorem ag1 {v:V4} {c:C} (hk:c.kind=3∨c.kind=4∨c.kind=6∨c.kind=7):c.name∈(v.add c).all:=by
 rw [Ac];unfold V4.add
 rcases hk with k|k|k|k<;>simp [k,jb]
theorem J5 {n:Rl}:∀(c:C) (v:V4),n∈v.all→n∈(nU c v).all:=by
 refine C.ind' fun c ih v h=>?_;rw [BF]
 have hL:∀(l:List C),(∀p∈l,∀v:V4,n∈v.all→n∈(nU p v).all)→∀v:V4,n∈v.all→n∈(xJ l v).all:=fun l=>by
  induction l with
  | nil=>intro _ v hv;simpa [xJ] using hv
  | cons a r ihr=>intro hp v hv;rw [xJ];exact ihr (fun p hp2=>hp p (by simp [hp2])) _ (hp a (by simp) v hv)
 exact hL _ ih _ (afs h)
theorem ac1 {n:Rl} (hn:n≠[]):∀(c:C),iH c=0→∀v:V4,n∈nmC c→n∈(nU c v).all:=by
 refine C.ind' fun c ih hw v h=>?_;obtain ⟨h1,h2,h3⟩:=Qb hw
 have hmL:∀(l:List C) (v:V4),n∈v.all→n∈(xJ l v).all:=fun l=>by
  induction l with
  | nil=>intro v hv;simpa [xJ] using hv
  | cons a r ihr=>intro v hv;rw [xJ];exact ihr _ (J5 a v hv)
 rw [BF];rw [Zh] at h;rcases List.mem_cons.1 h with h|h
 ·subst h;refine hmL _ _ (ag1 ?_);rcases Vy h1 with k|k|k|k|k|k|k
  ·exact absurd ((Aq h1 (.inl k)).2.2.2 (.inl k)) hn
  ·exact absurd ((Aq h1 (.inr (.inl k))).2.2.2 (.inr k)) hn
  ·exact .inl k
  ·exact .inr (.inl k)
  ·exact absurd (MB h1 k).2.2.1 hn
  ·exact .inr (.inr (.inl k))
  ·exact .inr (.inr (.inr k))
 ·obtain ⟨p,hp,hq⟩:=List.mem_flatMap.1 h
  have hL:∀(l:List C),(∀q∈l,∀v:V4,n∈nmC q→n∈(nU q v).all)→p∈l→∀v:V4,n∈(xJ l v).all:=fun l=>by
   induction l with
   | nil=>intro _ hp;cases hp
   | cons a r ihr=>
    intro hall hp v;rw [xJ];rcases List.mem_cons.1 hp with rfl|hp
    ·exact hmL r _ (hall _ (by simp) v hq)
    ·exact ihr (fun q hq2=>hall q (by simp [hq2])) hp _
  exact hL c.parts (fun q hq2 v hv=>ih q hq2 (h3 q hq2) v hv) hp _
theorem aeZ {c:C} (h:emptyS c=true):∀n∈nmC c,n=[]:=by
 unfold emptyS at h;simp only [Bool.and_eq_true,decide_eq_true_eq] at h;have h6:c.parts=[]:=List.length_eq_zero_iff.1 (by omega);intro n hn;rw [Zh,h6] at hn;simp at hn;rw [hn,h.1.1.1.2]
theorem QT {rs:List Rl}:∀{V:List Rl} {n:Rl},n∈V∨n∈rs→n∈Ey V rs:=by
 induction rs with
 | nil=>intro V n h;simpa [Ey] using h
 | cons r rs ih=>
  intro V n h;rw [Ey];refine ih ?_;rw [jb];rcases h with h|h
  ·exact .inl (.inr h)
  ·rcases List.mem_cons.1 h with h|h
   ·exact .inl (.inl h)
   ·exact .inr h
theorem aa8 {n:Rl} (x:Ax) (v:V4) (h:n∈v.all):n∈(Md x v).all:=by
 have h2:=J5 x.right _ (J5 x.left v h);rw [Ac] at h2 ⊢;unfold Md;simp only;rcases h2 with h|h|h|h
 ·exact .inl h
 ·exact .inr (.inl (jb.2 (.inr (QT (.inl h)))))
 ·exact .inr (.inr (.inl h))
 ·exact .inr (.inr (.inr (jb.2 (.inr (jb.2 (.inr h))))))
theorem afP {n:Rl} (hn:n≠[]) {x:Ax} (hx:x.Vd) (v:V4) (h:n∈nmX x):n∈(Md x v).all:=by
 have hside:∀c:C,(emptyS c=true∨iH c=0∧nY c≤64)→n∈nmC c→iH c=0:=fun c hc h=>by
  rcases hc with hc|hc
  ·exact absurd (aeZ hc n h) hn
  ·exact hc.1
 have hu:n∈(nU x.right (nU x.left v)).all→n∈(Md x v).all:=fun h2=>by
  rw [Ac] at h2 ⊢;unfold Md;simp only;rcases h2 with h|h|h|h
  ·exact .inl h
  ·exact .inr (.inl (jb.2 (.inr (QT (.inl h)))))
  ·exact .inr (.inr (.inl h))
  ·exact .inr (.inr (.inr (jb.2 (.inr (jb.2 (.inr h))))))
 unfold nmX at h;simp only [List.mem_append,List.mem_cons,List.not_mem_nil,or_false] at h;rcases h with ((h|h)|h)|h|h|h
 ·exact hu (J5 _ _ (ac1 hn _ (hside _ hx.l h) v h))
 ·exact hu (ac1 hn _ (hside _ hx.r h) _ h)
 ·rw [Ac];exact .inr (.inl (jb.2 (.inr (QT (.inr h)))))
 ·rw [Ac];exact .inr (.inl (jb.2 (.inl h)))
 ·rw [Ac];exact .inr (.inr (.inr (jb.2 (.inr (jb.2 (.inl h))))))
 ·rw [Ac];exact .inr (.inr (.inr (jb.2 (.inl h))))
theorem NT {n:Rl}:∀(l:List Ax) (v:V4),n∈v.all→n∈(nV l v).all
 | [],v,h=>h
 | x::l,v,h=>NT l _ (aa8 x v h)
theorem Ug {n:Rl} (hn:n≠[]):∀(l:List Ax) (v:V4),(∀x∈l,x.Vd)→∀x∈l,n∈nmX x→n∈(nV l v).all
 | [],v,_,x,hx,_=>by cases hx
 | y::l,v,hv,x,hx,h=>by
  rw [nV];rcases List.mem_cons.1 hx with rfl|hx
  ·exact NT l _ (afP hn (hv _ (by simp)) v h)
  ·exact Ug hn l _ (fun z hz=>hv z (by simp [hz])) x hx h
section
variable {l:List Ax} (hv:∀x∈l,x.Vd)
include hv
theorem ah8 {n:Rl} (hn:n≠[]) {x:Ax} (hx:x∈l) (h:n∈nmX x):n∈Xp l:=by
 have h1:=Ug hn l V4.nil hv x hx h;have hE:=(AQ hv VW VX).2.1;unfold Xp;rw [Ac] at h1 ⊢;rw [←hE.c n hn,←hE.r n hn,←hE.f n hn,←hE.i n hn];exact h1
theorem aay {n x y:Rl} (hn:Nd n) (hc:lD 58 n=some (x,y)):AP x=true:=by
 rcases hn with rfl|h|h
 ·simp [lD] at hc
 ·unfold oL at h;rw [Bool.and_eq_true,hc] at h;simp only [Bool.and_eq_true] at h;exact h.2.1
 ·unfold MF at h;simp only [Bool.and_eq_true] at h;rw [RX (J8 h.2).2] at hc;cases hc
theorem ac0:∀w∈kz l,AP w=true:=fun w hw=>by
 obtain ⟨n,hn,h1,h2⟩:=(Z9 hv).1 hw;have h3:n≠[]:=fun e=>by rw [e] at h1;exact h2 (h1 ▸ rfl)
 have hnd:=Dt hv n ((GZ hv h3).2 hn);unfold JZ at h1
 cases hc:lD 58 n with
 | none=>rw [hc] at h1;exact absurd h1.symm h2
 | some p=>
  rw [hc] at h1;simp only at h1;rw [←h1];exact aay hv hnd (x:=p.1) (y:=p.2) hc
theorem Vl (h1:Ky ∉ kz l) (h2:OV ∉ kz l):∀w∈kz l,WdP w:=fun w hw=>
 wdP (ac0 hv w hw) (fun e=>h1 (by rw [e] at hw;exact hw)) (fun e=>h2 (by rw [e] at hw;exact hw))
theorem afN (h1:Ky ∉ kz l) (h2:OV ∉ kz l) {x:Ax} (hx:x∈l) {n:Rl} (hn:n∈nmX x):afz (dcl (kz l)) n:=by
 intro a b hc;have hne:n≠[]:=by rintro rfl;simp [lD] at hc
 have hr:=ah8 hv hne hx hn;have hnd:=Dt hv n ((GZ hv hne).2 hr);have hw:=aay hv hnd hc;have hb:JZ n=a:=by unfold JZ;rw [hc]
 have hm:a∈kz l:=(Z9 hv).2 ⟨n,hr,hb,(uK hw).1⟩;refine ⟨?_,fun e=>h1 (by rw [e] at hm;exact hm),fun e=>h2 (by rw [e] at hm;exact hm)⟩;unfold dcl;simp only [List.mem_cons,List.mem_map];exact .inr (.inr (.inr ⟨a,hm,rfl⟩))
end
theorem acY {l:List Ax} {p:Rl} (h:CY l p=0) (hll:l.length≤1024) {src:Rl} (hs:Ly NxE src (RN p (kz l) l)) (N:Nat):
  ∃r,Wv src (src.length+1) N r00=.ok (l.map zA) r∧r.iri=p:=by
 unfold CY at h
 split at h
 ·cases h
 rename_i hp
 split at h
 ·rename_i hc;exact absurd h hc
 rename_i hc;have hc:zH l=0:=Classical.not_not.1 hc
 split at h
 ·cases h
 rename_i hw;have hv:∀x∈l,x.Vd:=fun x hm=>vd (tq hc x hm);have h1:Ky ∉ kz l:=fun q=>hw (.inl q);have h2:OV ∉ kz l:=fun q=>hw (.inr q);have hnd:(kz l).Nodup:=Srt.nodup (by unfold kz;exact adb _);exact ae1 hs (Vl hv h1 h2) hnd (tq hc) hll fun x hx n hn=>afN hv h1 h2 hx hn
theorem ahu {l:List Ax} {p:Rl} (h:CY l p=0):Ly NxE (Ie p (kz l) l) (RN p (kz l) l)∧(Ie p (kz l) l).length≤65536∧zH l=0:=by
 unfold CY at h
 split at h
 ·cases h
 rename_i hp
 split at h
 ·rename_i hc;exact absurd h hc
 rename_i hc;have hc:zH l=0:=Classical.not_not.1 hc
 split at h
 ·cases h
 rename_i hw
 split at h
 ·cases h
 rename_i hl;have hv:∀x∈l,x.Vd:=fun x hm=>vd (tq hc x hm);have h1:Ky ∉ kz l:=fun q=>hw (.inl q);have h2:OV ∉ kz l:=fun q=>hw (.inr q)
 have hi:p.all KZ=true:=by
  cases q:V7 p with
  | false=>exact absurd (.inr q) hp
  | true=>exact q
 exact ⟨ad4 (aic NxE) (by show skp [10]=[];rfl) hi (Vl hv h1 h2) (tq hc),by omega,hc⟩
end Go.Ai.Z
namespace Go.Ai.Z
theorem adi:∀c:C,wC c≤100000→SmC c (zc c):=by
 refine C.ind' fun c ih hw=>?_;have hl:=Qc c.parts;rw [EH] at hw;exact akp (fun p hp=>ih p hp (by have:=Mc hp;omega)) (by omega)
theorem ahM {x:Ax} (h:x.Few):SmA x (zA x):=⟨rfl,rfl,adi _ (by have:=h.l;omega),adi _ (by have:=h.r;omega),rfl,by have:=h.roles;omega,rfl,rfl,rfl⟩
theorem adA {l:List Ax} {p:Rl} (h:CY l p=0) (hll:l.length≤1024) {src:Rl} (hs:Ly NxE src (RN p (kz l) l)) (hl:src.length≤65536) (s:St) (cx:Ctx) (hc:cx.lim≤s.length):
  aj P0 (.fn (.func qm) [] []) [.sl (au src)] s cx=.ret (.tu [slf true ((l.map zA).map cu),.s p,.i .i64 0,.i .i64 0]) s:=by
 obtain ⟨r,h1,h2⟩:=acY h hll hs (s.length+8);have e:=aiC src (by omega) s cx hc;unfold Uz at e;rw [if_neg (by omega),h1] at e;simp only [h2] at e;exact e
end Go.Ai.Z
namespace Go.Ai.Z
def nxb (b:Bool) (c:UInt8):Bool:=if c=34∨c=60∨c=62 then decide (c=34) && !b || decide (c=60) else b
def fls:List Rl:=[[32,9],wD0,[13,10],[]]
inductive Spr:Bool→Rl→Rl→Prop where
 | nil (b:Bool):Spr b [] []
 | keep (b:Bool) (c:UInt8) (v x:Rl) (h:¬(nxb b c=false∧(c=40∨c=41∨c=32))) (hs:Spr (nxb b c) v x):Spr b (c::v) (c::x)
 | fill (b:Bool) (c:UInt8) (v x f:Rl) (h:nxb b c=false) (hc:c=40∨c=41∨c=32) (hf:f∈fls) (hs:Spr false v x):Spr b (c::v) (c::(f++x))
theorem adl (n:Nat) (v:Rl) (h:v.length≤n):v.drop (skN n v)=skp v:=by unfold skp;rw [Fe n v.length v h (Nat.le_refl _)]
theorem Qk {c:UInt8} (h:c=32∨c=10∨c=9∨c=13) (v:Rl):skp (c::v)=skp v:=by
 unfold skp
 have:skN (c::v).length (c::v)=1+skN v.length v:=by
  simp only [List.length_cons,skN]
  rw [if_pos (by rcases h with rfl|rfl|rfl|rfl<;>simp)]
 rw [this,Nat.add_comm];rfl
theorem afZ {w:Rl} (hw:w.all Bd=true) (v:Rl):skp (35::(w++10::v))=skp (10::v):=by
 have hs:kU Bd (35::(w++10::v))=1+w.length:=by
  have:kU Bd ((35::w)++10::v)=(35::w).length:=Fa (by rw [List.all_cons,hw];rfl) (by intro c hc;simp at hc;subst hc;decide)
  rw [List.cons_append] at this;rw [this];simp;omega
 have hd:(35::(w++10::v)).drop (1+w.length)=10::v:=by rw [Nat.add_comm];simp
 have:skN (35::(w++10::v)).length (35::(w++10::v))=1+w.length+skN (w++10::v).length (10::v):=by
  simp only [List.length_cons,skN];rw [if_neg (by decide),if_pos (by decide),hs,hd]
 unfold skp;rw [this,←List.drop_drop,hd];exact adl _ _ (by simp)
theorem adn {f:Rl} (hf:f∈fls) (v:Rl):skp (f++v)=skp v:=by
 unfold fls at hf;simp only [List.mem_cons,List.not_mem_nil,or_false] at hf;rcases hf with rfl|rfl|rfl|rfl
 ·show skp (32::9::v)=_;rw [Qk (.inl rfl),Qk (.inr (.inr (.inl rfl)))]
 ·show skp (35::([32,79,110,116,111,108,111,103,121,40,32,34]++10::v))=_;rw [afZ (by decide),Qk (.inr (.inl rfl))]
 ·show skp (13::10::v)=_;rw [Qk (.inr (.inr (.inr rfl))),Qk (.inr (.inl rfl))]
 ·rfl
theorem ad2 {v x:Rl} (h:skp v=skp x):∀(L:List Tx),Ly NxE x L→Ly NxE v L
 | [],hx=>by show skp v=[];rw [h];exact hx
 | t::L,⟨w,h1,h2⟩=>⟨w,by unfold Nx;rw [h];exact h1,h2⟩
theorem aaB {f x:Rl} (hf:f∈fls) {L:List Tx} (h:Ly NxE x L):Ly NxE (f++x) L:=ad2 (adn hf x) L h
theorem adg {v x:Rl} {b:Bool} (h:Spr b v x):x.head?=v.head?:=by cases h<;>rfl
theorem GV {b:Bool} {w:Rl} (hw:∀c∈w,nxb b c=b∧¬(nxb b c=false∧(c=40∨c=41∨c=32))):∀{v x:Rl},Spr b (w++v) x→∃y,x=w++y∧Spr b v y:=by
 induction w with
 | nil=>intro v x h;exact ⟨x,rfl,h⟩
 | cons c w ih=>
  intro v x h;obtain ⟨h1,h2⟩:=hw c (by simp)
  cases h with
  | keep _ _ _ x _ hs=>
   rw [h1] at hs;obtain ⟨y,rfl,hy⟩:=ih (fun d hd=>hw d (by simp [hd])) hs;exact ⟨y,rfl,hy⟩
  | fill _ _ _ x f h hc hf hs=>exact absurd ⟨h,hc⟩ h2
def SpR (v:Rl) (L:List Tx):Prop:=∀x,Spr false v x→Ly NxE x L
theorem ah7 {v x:Rl} {b:Bool} (h:Spr b v x) (hv:NW v):NW x:=by unfold NW;rw [adg h];exact hv
theorem afU:acR SpR where
 blank:=fun {c v L} hc hL h x hx=>by
  have hb:∀y,Ly NxE y L→Ly NxE (c::y) L:=fun y hy=>ad2 (Ut hc y) L hy
  cases hx with
  | keep _ _ _ x hk hs=>
   refine hb _ (h x ?_)
   have:nxb false c=false:=by rcases hc with rfl|rfl<;>rfl
   rw [this] at hs;exact hs
  | fill _ _ _ x f hk hc2 hf hs=>exact hb _ (aaB hf (h x hs))
 word:=fun {w v L} hw hn hv h x hx=>by
  rw [List.all_eq_true] at hw
  obtain ⟨y,rfl,hy⟩:=GV (fun c hc=>by
   have h1:=Uf (hw c hc)
   have h2:nxb false c=false:=by
    unfold nxb
    have h3:¬(c=34∨c=60∨c=62):=by
     rintro (rfl|rfl|rfl)
     ·exact h1.2.2.2.2.2 rfl
     ·exact h1.2.2.2.2.1 rfl
     ·have:=hw _ hc;revert this;decide
    rw [if_neg h3]
   refine ⟨h2,fun hh=>?_⟩;rcases hh.2 with rfl|rfl|rfl
   ·exact h1.2.2.1 (.inl rfl)
   ·exact h1.2.2.1 (.inr (.inl rfl))
   ·exact h1.1 (.inr (.inr (.inr rfl)))) hx
  exact ⟨y,aat (List.all_eq_true.2 hw) hn (ah7 hy hv),h y hy⟩
 sign:=fun {c v L} hc h x hx=>by
  cases hx with
  | keep _ _ _ x hk hs=>
   have:nxb false c=false:=by rcases hc with rfl|rfl|rfl<;>rfl
   rw [this] at hs;exact ⟨x,VU hc x,h x hs⟩
  | fill _ _ _ x f hk hc2 hf hs=>exact ⟨f++x,VU hc _,aaB hf (h x hs)⟩
 caret:=fun {v L} h x hx=>by
  obtain ⟨y,rfl,hy⟩:=GV (w:=[94,94]) (b:=false) (by decide) hx;exact ⟨y,Xy y,h y hy⟩
 iri:=fun {p v L} hp h x hx=>by
  rw [List.all_eq_true] at hp
  cases hx with
  | fill _ _ _ x f hk hc2 hf hs=>exact absurd hk (by decide)
  | keep _ _ _ x hk hs=>
   rw [show nxb false 60=true from rfl] at hs
   obtain ⟨y,rfl,hy⟩:=GV (w:=p) (fun c hc=>by
    have h1:=hp c hc
    have h3:¬(c=34∨c=60∨c=62):=by
     rintro (rfl|rfl|rfl)<;>(revert h1;decide)
    have h2:nxb true c=true:=by unfold nxb;rw [if_neg h3]
    exact ⟨h2,fun hh=>by rw [h2] at hh;exact Bool.noConfusion hh.1⟩) hs
   cases hy with
   | fill _ _ _ x f hk hc2 hf hs=>rcases hc2 with h|h|h<;>cases h
   | keep _ _ _ z hk2 hs2=>
    rw [show nxb true 62=false from rfl] at hs2;exact ⟨z,adR (List.all_eq_true.2 hp) z,h z hs2⟩
 str:=fun {p v L} hp h x hx=>by
  have hpB:=ac7 hp;rw [List.all_eq_true] at hp
  cases hx with
  | fill _ _ _ x f hk hc2 hf hs=>exact absurd hk (by decide)
  | keep _ _ _ x hk hs=>
   rw [show nxb false 34=true from rfl] at hs
   obtain ⟨y,rfl,hy⟩:=GV (w:=p) (fun c hc=>by
    have h1:=hp c hc
    have h3:¬(c=34∨c=60∨c=62):=by
     rintro (rfl|rfl|rfl)<;>(revert h1;decide)
    have h2:nxb true c=true:=by unfold nxb;rw [if_neg h3]
    exact ⟨h2,fun hh=>by rw [h2] at hh;exact Bool.noConfusion hh.1⟩) hs
   cases hy with
   | fill _ _ _ x f hk hc2 hf hs=>rcases hc2 with h|h|h<;>cases h
   | keep _ _ _ z hk2 hs2=>
    rw [show nxb true 34=false from rfl] at hs2;exact ⟨z,adQ hpB z,h z hs2⟩
theorem afV:SpR [10] []:=fun x hx=>by
 cases hx with
 | fill _ _ _ x f hk hc2 hf hs=>rcases hc2 with h|h|h<;>cases h
 | keep _ _ _ x hk hs=>
  cases hs with
  | nil=>show skp [10]=[];rfl
end Go.Ai.Z
namespace Go.Ai.Z
def enS (v0:Rl) (n:Int) (A:List AV) (b:Bool) (i:Int):Env:=[(0,.v (.sl (au v0))),(1,.v (.i .u64 n)),(5,.own false mW 1 A),(6,.v (.b b)),(7,.v (.i .i64 i))]
def nxN (n i:Int):Int:=IntKind.u64.wrap (IntKind.u64.wrap (n.tdiv 3)+IntKind.u64.wrap i)
theorem adq (v0:Rl) (hv:v0.length≤70000) (s:St) (cx:Ctx) (c:UInt8) (v:Rl) (i:Nat) (inn:Bool) (n:Int) (acc:Rl) (h:v0.drop i=c::v) (hl:acc.length≤2000000):
  ∃(f:Rl) (n':Int),(∀x,Spr (nxb inn c) v x→Spr inn (c::v) (c::(f++x)))∧f.length≤14∧∀K:Env→St→Out,(aC P0.glob (aj P0) cx false dH (enS v0 n (au acc) inn i) s).thn K=K (enS v0 n' (au (acc++c::f)) (nxb inn c) (i+1)) s:=by
 obtain ⟨h1,h2,h3,h4⟩:=drop_cons h;have hbl:=jg v0;have hb:i<(au v0).length:=by rw [hbl];exact h3
 have hg:=AB v0 i hb h1;have hg':(au v0)[i]?=some (.i .u8 c.toNat):=by rw [List.getElem?_eq_getElem hb,hg]
 have hi:(i:Int)<(v0.length:Int):=by omega
 have hwi:=wI (i:=i) (by omega);have hal:=jg acc;have hm1:acc.length+1≤aN:=by unfold aN;omega
 have hm2:acc.length+1+2≤aN:=by unfold aN;omega
 have hm3:acc.length+1+14≤aN:=by unfold aN;omega
 have hm4:acc.length+3≤aN:=by unfold aN;omega
 have hm5:acc.length+15≤aN:=by unfold aN;omega
 have hA:∀f:Rl,au (acc++c::f)=au acc++.i .u8 c.toNat::au f:=fun f=>by simp [au]
 have hkeep:¬(nxb inn c=false∧(c=40∨c=41∨c=32))→∀x,Spr (nxb inn c) v x→Spr inn (c::v) (c::([]++x)):=fun hk x hx=>.keep _ _ _ _ hk hx;have b0:au []=[]:=rfl;have b1:au [32,9]=[.i .u8 32,.i .u8 9]:=rfl;have b2:au [13,10]=[.i .u8 13,.i .u8 10]:=rfl;have b3:au wD0=[.i .u8 35,.i .u8 32,.i .u8 79,.i .u8 110,.i .u8 116,.i .u8 111,.i .u8 108,.i .u8 111,.i .u8 103,.i .u8 121,.i .u8 40,.i .u8 32,.i .u8 34,.i .u8 10]:=rfl;generalize hB:au v0=B at *;generalize au acc=A at *;have heq:∀k:Nat,k<256→((c.toNat:Int)=(k:Int) ↔ c=UInt8.ofNat k):=fun k hk=>⟨fun h=>UInt8.toNat_inj.1 (by rw [UInt8.toNat_ofNat'];omega),fun h=>by rw [h];simp;omega⟩;by_cases q34:c=34
 ·subst q34
  refine ⟨[],n,hkeep (by cases inn<;>decide),by simp,fun K=>?_⟩
  have d0:((34:UInt8).toNat:Int)=34:=rfl
  cases inn<;>simp -implicitDefEqProofs [enS,dH,hB,hbl,hi,hb,hg,hg',hwi,hal,hm1,hA,nxb,show List.range 2=[0,1] from rfl,b0]
 by_cases q60:c=60
 ·subst q60
  refine ⟨[],n,hkeep (by cases inn<;>decide),by simp,fun K=>?_⟩
  have d0:((60:UInt8).toNat:Int)=60:=rfl
  cases inn<;>simp -implicitDefEqProofs [enS,dH,hB,hbl,hi,hb,hg,hg',hwi,hal,hm1,hA,nxb,show List.range 2=[0,1] from rfl,b0]
 by_cases q62:c=62
 ·subst q62
  refine ⟨[],n,hkeep (by cases inn<;>decide),by simp,fun K=>?_⟩
  have d0:((62:UInt8).toNat:Int)=62:=rfl
  cases inn<;>simp -implicitDefEqProofs [enS,dH,hB,hbl,hi,hb,hg,hg',hwi,hal,hm1,hA,nxb,show List.range 2=[0,1] from rfl,b0]
 have hnb:nxb inn c=inn:=by unfold nxb;rw [if_neg (by simp [q34,q60,q62])]
 have d34:¬(c.toNat:Int)=34:=fun h=>q34 ((heq 34 (by omega)).1 h);have d60:¬(c.toNat:Int)=60:=fun h=>q60 ((heq 60 (by omega)).1 h);have d62:¬(c.toNat:Int)=62:=fun h=>q62 ((heq 62 (by omega)).1 h);rw [hnb] at hkeep ⊢
 cases inn with
 | true=>
  refine ⟨[],n,hkeep (by simp),by simp,fun K=>?_⟩;simp -implicitDefEqProofs [enS,dH,hB,hbl,hi,hb,hg,hg',hwi,hal,hm1,hA,nxb,show List.range 2=[0,1] from rfl,d34,d60,d62,b0,b1,b2,b3]
 | false=>
  by_cases qf:c=40∨c=41∨c=32
  ·have hfill:∀f∈fls,∀x,Spr false v x→Spr false (c::v) (c::(f++x)):=fun f hf x hx=>.fill _ _ _ _ f hnb qf hf hx;by_cases r0:n.tmod 4=0
   ·refine ⟨[32,9],nxN n i,hfill _ (by simp [fls]),by simp,fun K=>?_⟩
    rcases qf with rfl|rfl|rfl<;>simp -implicitDefEqProofs [enS,dH,hB,hbl,hi,hb,hg,hg',hwi,hal,hm1,hA,nxb,show List.range 2=[0,1] from rfl,r0,nxN,hm2,hm4,b0,b1,b2,b3]
   by_cases r1:n.tmod 4=1
   ·refine ⟨wD0,nxN n i,hfill _ (by simp [fls]),by simp,fun K=>?_⟩
    rcases qf with rfl|rfl|rfl<;>simp -implicitDefEqProofs [enS,dH,hB,hbl,hi,hb,hg,hg',hwi,hal,hm1,hA,nxb,show List.range 2=[0,1] from rfl,r0,r1,nxN,hm3,hm5,b0,b1,b2,b3]
   by_cases r2:n.tmod 4=2
   ·refine ⟨[13,10],nxN n i,hfill _ (by simp [fls]),by simp,fun K=>?_⟩
    rcases qf with rfl|rfl|rfl<;>simp -implicitDefEqProofs [enS,dH,hB,hbl,hi,hb,hg,hg',hwi,hal,hm1,hA,nxb,show List.range 2=[0,1] from rfl,r0,r1,r2,nxN,hm2,hm4,b0,b1,b2,b3]
   ·refine ⟨[],nxN n i,hfill _ (by simp [fls]),by simp,fun K=>?_⟩
    rcases qf with rfl|rfl|rfl<;>simp -implicitDefEqProofs [enS,dH,hB,hbl,hi,hb,hg,hg',hwi,hal,hm1,hA,nxb,show List.range 2=[0,1] from rfl,r0,r1,r2,nxN,b0,b1,b2,b3]
  ·refine ⟨[],n,hkeep (fun h=>qf h.2),by simp,fun K=>?_⟩;have e1:¬(c.toNat:Int)=40:=fun h=>qf (.inl ((heq 40 (by omega)).1 h));have e2:¬(c.toNat:Int)=41:=fun h=>qf (.inr (.inl ((heq 41 (by omega)).1 h)));have e3:¬(c.toNat:Int)=32:=fun h=>qf (.inr (.inr ((heq 32 (by omega)).1 h)));simp -implicitDefEqProofs [enS,dH,hB,hbl,hi,hb,hg,hg',hwi,hal,hm1,hA,nxb,show List.range 2=[0,1] from rfl,d34,d60,d62,e1,e2,e3,b0,b1,b2,b3]
theorem XM (v0:Rl) (hv:v0.length≤70000) (s:St) (cx:Ctx):∀(v:Rl) (i:Nat) (inn:Bool) (n:Int) (acc:Rl),v0.drop i=v→acc.length+15 * v.length≤2000000→
  ∃(x:Rl) (n':Int) (b':Bool) (j:Int),Spr inn v x∧gU (aC P0.glob (aj P0) cx false dH) [0,1,5,6,7] (enS v0 n (au acc) inn i) s=.exit 0 (enS v0 n' (au (acc++x)) b' j++[(12,.v (.b false))]) s
 | [],i,inn,n,acc,h,hl=>by
  have h1:¬(i:Int)<(v0.length:Int):=by have:=drop_nil h;omega
  have hbl:=jg v0;refine ⟨[],n,inn,i,.nil _,ak fun K hK=>?_⟩;unfold enS;simp -implicitDefEqProofs [dH,hbl,h1]
 | c::v,i,inn,n,acc,h,hl=>by
  obtain ⟨f,n1,h1,h2,h3⟩:=adq v0 hv s cx c v i inn n acc h (by simp at hl;omega);obtain ⟨d1,d2,_,_⟩:=drop_cons h;obtain ⟨x,n',b',j,h4,h5⟩:=XM v0 hv s cx v (i+1) (nxb inn c) n1 (acc++c::f) d2 (by simp at hl ⊢;omega);have he:acc++c::f++x=acc++c::(f++x):=by simp
  rw [he] at h5;refine ⟨c::(f++x),n',b',j,h1 x h4,ak fun K hK=>?_⟩;have hk:iV (enS v0 n (au acc) inn i) [0,1,5,6,7]=enS v0 n (au acc) inn i:=rfl;rw [hk,h3 K,←h5,←hK];rfl
theorem afa (v:Rl) (hv:v.length≤70000) (n:Int) (s:St) (cx:Ctx):∃x,Spr false v x∧aj P0 (.fn (.func vw) [] []) [.sl (au v),.i .u64 n] s cx=.ret (.sl (au x)) s:=by
 obtain ⟨x,n',b',j,h1,h2⟩:=XM v hv s ⟨s.length,s.length⟩ v 0 false n [] rfl (by simp;omega);rw [List.nil_append] at h2;unfold enS at h2;rw [show au []=[] from rfl,show ((0:Nat):Int)=0 from rfl] at h2;refine ⟨x,h1,Py (by simp) ?_⟩;simp -implicitDefEqProofs [af,wU,h2]
theorem afI {R:Rl→List Tx→Prop} (hR:acR R) (hend:R [10] []) {l:List Ax} {p:Rl} (h:CY l p=0):R (Ie p (kz l) l) (RN p (kz l) l):=by
 unfold CY at h
 split at h
 ·cases h
 rename_i hp
 split at h
 ·rename_i hc;exact absurd h hc
 rename_i hc;have hc:zH l=0:=Classical.not_not.1 hc
 split at h
 ·cases h
 rename_i hw;have hv:∀x∈l,x.Vd:=fun x hm=>vd (tq hc x hm)
 have hi:p.all KZ=true:=by
  cases q:V7 p with
  | false=>exact absurd (.inr q) hp
  | true=>exact q
 exact ad4 hR hend hi (Vl hv (fun q=>hw (.inl q)) (fun q=>hw (.inr q))) (tq hc)
theorem WL (z:Bool) (l:List Ax) (hl:l.length≤1125899906842624) (hx:∀x∈l,x.Ok) (p:Rl) (hp:p.length≤1152921504606846976) (n:Int) (hs:aj P0 (.fn (.func yx) [] []) [] [] ⟨0,0⟩=.ret (.b true) []) (cx:Ctx):
  aj P0 (.fn (.func uG) [] []) [slf z (l.map cu),.s p,.i .u64 n] [] cx=.ret (.b true) []:=by
 obtain ⟨b,e1,hb⟩:=JV 8 (by omega) z l hl hx;rw [show ((8:Nat):Int)=8 from rfl] at e1;refine JL (by simp) ?_
 cases b with
 | false=>simp -implicitDefEqProofs [af,jo,hs,e1]
 | true=>
  obtain ⟨h8,hf⟩:=hb rfl;by_cases h4:400<p.length
  ·have h4i:(400:Int)<(p.length:Int):=by omega
   simp -implicitDefEqProofs [af,jo,hs,e1,h4i]
  ·have h4i:¬(400:Int)<(p.length:Int):=by omega
   have hlen:zH l=0→∀x∈l,(owA x).length≤33000:=fun h0 x hm=>agi (good (tq h0 x hm)) (vd (tq h0 x hm));have ew:=YD z l (by omega) hf hlen p (by omega);by_cases hE:CY l p=0
   ·obtain ⟨k1,k2,k3⟩:=ahu hE;have hB:aa6 l p=.sl (au (Ie p (kz l) l)):=by unfold aa6;rw [if_pos hE]
    obtain ⟨x,hsp,ex⟩:=afa (Ie p (kz l) l) (by omega) n [] ⟨0,0⟩;have hly:=afI afU afV hE x hsp;rw [hE,hB] at ew;have hxl:=jg x;by_cases h6:65536<x.length
    ·have h6i:(65536:Int)<(x.length:Int):=by omega
     simp -implicitDefEqProofs [af,jo,hs,e1,h4i,ew,ex,hxl,h6i]
    ·have h6i:¬(65536:Int)<(x.length:Int):=by omega
     have er:=adA hE (by omega) hly (by omega) [] ⟨0,0⟩ (Nat.le_refl _)
     have es:=afb l (l.map zA) z true (by simp) (by omega) (fun i a b h1 h2=>by
      rw [List.getElem?_map,h1] at h2;cases h2
      exact ahM (hf a (List.mem_of_getElem? h1)))
     have hZp:=abz true ((l.map zA).map cu);generalize slf true ((l.map zA).map cu)=Z at *;simp -implicitDefEqProofs [af,jo,hs,e1,h4i,ew,ex,hxl,h6i,er,es,hZp]
   ·have hB:aa6 l p=.ns:=by unfold aa6;rw [if_neg hE]
    rw [hB] at ew;simp -implicitDefEqProofs [af,jo,hs,e1,h4i,ew,hE]
end Go.Ai.Z
