/-
 The reader of ontology documents: the lines of prefixes.
-/
import Derived.Test.YtcofenimejmoeaaGreatDoorAiOX14OX15OX16OX17
set_option maxRecDepth 100000
set_option linter.unusedSimpArgs false
set_option linter.unusedVariables false
set_option linter.unusedSectionVars false
namespace Go.Ai.Z
open Go.Ai
theorem ahc {src:Rl} {r:Rd} (h:Wr src r) (P:List Rl) (i:Rl):Wr src { r with pre:=P,iri:=i }:=⟨h.at_,h.ah⟩
def uq {α:Type} (src:Rl) (r:Rd) (k:Nat) (x:OR α):Prop:=
 match x with
 | .ok _ q=>Wr src q∧rem src q+k≤rem src r∧q.ax=r.ax
 | .er a c _=>a≤src.length∧c=50
theorem aG.p {α:Type} {src:Rl} {r:Rd} {k:Nat} {x:OR α} (h:aG src r k x):uq src r k x:=by
 cases x with
 | er a c q=>exact h
 | ok v q=>obtain ⟨h1,h2,_,_,h3⟩:=h;exact ⟨h1,h2,h3⟩
theorem uq.ok {α:Type} {src:Rl} {r q:Rd} {v:α} {k:Nat} {x:OR α} (h:uq src r k x) (e:x=.ok v q):Wr src q∧rem src q+k≤rem src r∧q.ax=r.ax:=by subst e;exact h
theorem uq.bind {α β:Type} {src:Rl} {r:Rd} {k j n:Nat} {x:OR α} {f:α→Rd→OR β} (h:uq src r k x)
  (hf:∀v q,x=.ok v q→Wr src q→rem src q+k≤rem src r→uq src q j (f v q)) (hn:n≤k+j):uq src r n (x.bind f):=by
 cases x with
 | er a c q=>exact h
 | ok v q=>
  obtain ⟨h1,h2,h5⟩:=h;have h6:=hf v q rfl h1 h2;rw [OR.bind_ok];generalize f v q=y at *
  cases y with
  | er a c q2=>exact h6
  | ok w q2=>
   obtain ⟨g1,g2,g5⟩:=h6;exact ⟨g1,by omega,g5.trans h5⟩
theorem Zk {α:Type} {src:Rl} {r:Rd} {k:Nat} {x:OR α} (h:Sn src r) (hw:Wr src r) (hx:uq src (bY r) k x):uq src r (k+1) x:=by
 have h1:=h.pass hw
 cases x with
 | er a c q=>exact hx
 | ok v q=>
  obtain ⟨g1,g2,g5⟩:=hx;exact ⟨g1,by omega,g5⟩
theorem Ur {P:List Rl} {t:Tk} (h:OW P t=true):t.1=4:=by
 unfold OW at h;simp only [Bool.and_eq_true,decide_eq_true_eq] at h;exact h.1.1.1
theorem FY {w:Rl} {t:Tk} (h:Ad w t=true):t.1=2:=by
 unfold Ad at h;simp only [Bool.and_eq_true,decide_eq_true_eq] at h;exact h.1.1
theorem UH {src:Rl} {r:Rd} (h:Wr src r):uq src r 1 (NV src r):=by
 unfold NV;refine uq.bind (k:=1) (j:=0) (aF h _ (by simp)).p (fun _ q1 e1 h1 k1=>?_) (by omega);refine uq.bind (k:=1) (j:=0) (aF h1 _ (by simp)).p (fun _ q2 e2 h2 k2=>?_) (by omega);refine uq.bind (k:=0) (j:=0) (gJ h2).p (fun t q3 e3 h3 k3=>?_) (by omega);refine uq.bind (k:=0) (j:=0) (je h3 _).p (fun _ q4 e4 h4 k4=>?_) (by omega);obtain ⟨hb,hq⟩:=zh e4;subst hq;have hs:=J3 e3 ((oH h2 e3).2.one (by have:=Ur hb;omega));have hp:=hs.pass h4
 have key:uq src q4 (0+1) _:=Zk (k:=0) hs h4 (x:=(lI src [61] (bY q4)).bind fun _ r=>
  (iH src r).bind fun u r=>(rD src (Ad t.2.1 u) r).bind fun _ r=>(lI src [41] (bY r)).bind fun _ r=>
   .ok () { r with pre:=qO r.pre t.2.1,iri:=if t.2.1=[58] then zB u.2.1 else r.iri }) (by
  refine uq.bind (k:=1) (j:=0) (aF hp.1 _ (by simp)).p (fun _ q5 e5 h5 k5=>?_) (by omega);refine uq.bind (k:=0) (j:=0) (gJ h5).p (fun u q6 e6 h6 k6=>?_) (by omega);refine uq.bind (k:=0) (j:=0) (je h6 _).p (fun _ q7 e7 h7 k7=>?_) (by omega);obtain ⟨hb2,hq2⟩:=zh e7;subst hq2;refine uq.bind (k:=0) (j:=0) ?_ (fun _ q8 e8 h8 k8=>?_) (by omega)
  ·have hs2:=J3 e6 ((oH h5 e6).2.one (by have:=FY hb2;omega));have hp2:=hs2.pass h7;exact ((qJ (k:=1) hs2 h7 (aF hp2.1 _ (by simp))).wk (by omega)).p
  ·exact ⟨ahc h8 _ _,by show rem src q8+0≤_;omega,rfl⟩)
 generalize (lI src [61] (bY q4)).bind _=y at key ⊢
 cases y with
 | er a c q=>exact key
 | ok v q=>obtain ⟨g1,g2,g3⟩:=key;exact ⟨g1,by omega,g3⟩
section
variable {src:Rl} {S:Rd→St} {m N:Nat} (hE:yA src S m N)
include hE
theorem Px (r:Rd) (P:List Rl):(S r).set m (.map (qm P))=S { r with pre:=P }:=hE.setp r P
theorem af5 (r:Rd) (i:Rl):(S r).set (m+1) (.cells [.sl (aC src),.i .i64 r.at_,ahV r.ah,.mp m,.s i,.b r.op,r.ax,.mp (m+2),.mp (m+3)])=S { r with iri:=i }:=hE.sets r { r with iri:=i } rfl
theorem aeQ (r:Rd) (ha:Wr src r) (cx:Ctx) (hl:cx.lim≤m):
  aj P0 (.fn (.func nH) [] []) [.pt (m+1) 0] (S r) cx=tZ (fun _=>.tu []) S (NV src r):=by
 refine Gg (jP _ _ _) ?_;have hN:=hE.n;have hS:=hE.src;have hlim:cx.lim≤m+1:=by omega
 unfold NV;obtain ⟨a,c,q,hx,e1⟩|⟨v1,r1,h1,e1,g1⟩:=spl (iD hE wC0 r ha ⟨cx.lim,N⟩ hl) (aF ha wC0 (by simp))
 ·rw [hx];simp -implicitDefEqProofs [af,ay,hN,e1]
 rw [h1];simp only [OR.bind_ok];have w1:=g1.1;obtain ⟨a,c,q,hx,e2⟩|⟨v2,r2,h2,e2,g2⟩:=spl (iD hE [40] r1 w1 ⟨cx.lim,N⟩ hl) (aF w1 [40] (by simp))
 ·rw [hx];simp -implicitDefEqProofs [af,ay,hN,e1,e2]
 rw [h2];simp only [OR.bind_ok];have w2:=g2.1;obtain ⟨a,c,q,hx,e3⟩|⟨t,r3,h3,e3,g3⟩:=spl (oL hE r2 (w2).at_ ⟨cx.lim,N⟩ hl) (gJ w2)
 ·rw [hx];simp -implicitDefEqProofs [af,ay,hN,e1,e2,e3]
 rw [h3];simp only [OR.bind_ok];have w3:=g3.1;have e3b:=oL hE r3 w3.at_ ⟨cx.lim,N⟩ hl;rw [(qE h3).1] at e3b;simp only [dD] at e3b;have kt:=(oH w2 h3).2;have hx:=BK t.2.1 58;have hc3:=vg hE r3;have hm3:=hE.pm r3;have hf3:=DC t.2.1 r3.pre;obtain ⟨k,w,a⟩:=t;simp only at hx hf3 kt;have hwl:w.length≤src.length:=kt.len;have hwi:IntKind.i64.wrap ((w.length:Int) - 1)=(w.length:Int) - 1:=w64 (by omega) (by omega);have ef:=pY hE (OW r3.pre (k,w,a)) r3 w3 ⟨cx.lim,N⟩ hl
 cases hb:OW r3.pre (k,w,a) with
 | false=>
  rw [hb] at ef;obtain ⟨a2,c2,r2x,hxx⟩:=zi src r3;rw [hxx] at ef ⊢;simp only [dA] at ef;simp only [OR.bind_er,dA];unfold OW at hb;by_cases q1:¬k=4
  ·simp -implicitDefEqProofs [af,ay,hN,fC,e1,e2,e3,e3b,hx,hc3,hm3,hf3,ef,q1]
  have q1:=Classical.not_not.1 q1;by_cases q2:¬Go.Lib.indexByte w 58=(w.length:Int) - 1
  ·simp -implicitDefEqProofs [af,ay,hN,fC,e1,e2,e3,e3b,hx,hc3,hm3,hf3,ef,q1,q2,hwi]
  have q2:=Classical.not_not.1 q2;by_cases q3:w=[58]
  ·have q4:[58]∈r3.pre:=by
    have h58:Go.Lib.indexByte [58] 58=0:=rfl;rw [q3] at hb
    simpa [q1,h58] using hb
   subst q3;simp only [q4,if_true] at hf3;have h58:Go.Lib.indexByte [58] 58=0:=rfl;have w0:IntKind.i64.wrap 0=0:=rfl;rw [h58] at hx;simp -implicitDefEqProofs [af,ay,hN,fC,e1,e2,e3,e3b,hx,hc3,hm3,hf3,ef,q1,w0]
  ·have h1:=kt.one (by simp [q1])
   cases w with
   | nil=>simp at h1
   | cons c w'=>
    have el:=uQ c.toNat;have q3a:¬(c=58∧w'=[]):=fun h=>q3 (by rw [h.1,h.2])
    have q3b:(c == 58 && w'.isEmpty)=false:=by cases h:(c == 58 && w'.isEmpty) with
     | false=>rfl
     | true=>rw [Bool.and_eq_true,beq_iff_eq,List.isEmpty_iff] at h;exact absurd h q3a
    have hwl2:w'.length+1≤src.length:=hwl;have w0:IntKind.i64.wrap (w'.length:Int)=w'.length:=w64 (by omega) (by omega);have hcl:((c::w').length:Int) - 1=w'.length:=by simp
    rw [hcl] at q2
    cases q5:ltI c.toNat with
    | false=>
     rw [q5] at el;rw [q2] at hx;simp -implicitDefEqProofs [af,ay,hN,fC,e1,e2,e3,e3b,hx,hc3,hm3,hf3,ef,q1,q3,q3a,q3b,w0,el]
    | true=>
     have q4:c::w'∈r3.pre:=by simpa [q1,hcl,q2,q3,q5] using hb
     rw [q5] at el;rw [q2] at hx;simp only [q4,if_true] at hf3;simp -implicitDefEqProofs [af,ay,hN,fC,e1,e2,e3,e3b,hx,hc3,hm3,hf3,ef,q1,q3,q3a,q3b,w0,el]
 | true=>
  rw [hb] at ef;rw [pq] at ef ⊢;simp only [dD] at ef;simp only [OR.bind_ok];have q1:k=4:=Ur hb
  have hnp:¬w∈r3.pre:=by
   unfold OW at hb;simp only [Bool.and_eq_true,decide_eq_true_eq,Bool.not_eq_true',decide_eq_false_iff_not] at hb;exact hb.2
  have q2:Go.Lib.indexByte w 58=(w.length:Int) - 1:=by
   unfold OW at hb;simp only [Bool.and_eq_true,decide_eq_true_eq] at hb;exact hb.1.1.2
  simp only [hnp,if_false] at hf3;by_cases q3:w=[58]
  ·subst q3;have h58:Go.Lib.indexByte [58] 58=0:=rfl;have w0:IntKind.i64.wrap 0=0:=rfl;have q3o:¬([58]:Rl)=[111,119,108,58]:=by simp
   have q3x:¬([58]:Rl)=[120,115,100,58]:=by simp
   rw [h58] at hx;have e5:=lF hE r3 ⟨cx.lim,N⟩ hl;have w5:=iP w3;obtain ⟨a,c,q,hz,e6⟩|⟨v6,r6,h6,e6,g6⟩:=spl (iD hE [61] (bY r3) w5 ⟨cx.lim,N⟩ hl) (aF w5 [61] (by simp))
   ·rw [hz];simp -implicitDefEqProofs [af,ay,hN,fC,e1,e2,e3,e3b,hx,hc3,hm3,hf3,ef,q1,w0,e5,e6]
   rw [h6];simp only [OR.bind_ok];have w6:=g6.1;obtain ⟨a,c,q,hz,e7⟩|⟨u,r7,h7,e7,g7⟩:=spl (oL hE r6 w6.at_ ⟨cx.lim,N⟩ hl) (gJ w6)
   ·rw [hz];simp -implicitDefEqProofs [af,ay,hN,fC,e1,e2,e3,e3b,hx,hc3,hm3,hf3,ef,q1,w0,e5,e6,e7]
   rw [h7];simp only [OR.bind_ok];obtain ⟨w7,ku⟩:=oH w6 h7;have e7b:=oL hE r7 w7.at_ ⟨cx.lim,N⟩ hl;rw [(qE h7).1] at e7b;simp only [dD] at e7b;obtain ⟨k2,i2,a2⟩:=u;have hil:i2.length≤src.length:=ku.len;have ef2:=pY hE (Ad [58] (k2,i2,a2)) r7 w7 ⟨cx.lim,N⟩ hl
   cases hb2:Ad [58] (k2,i2,a2) with
   | false=>
    rw [hb2] at ef2;obtain ⟨a9,c9,r9,h9⟩:=zi src r7;rw [h9] at ef2 ⊢;simp only [dA] at ef2;simp only [OR.bind_er,dA];unfold Ad at hb2;by_cases p1:¬k2=2
    ·simp -implicitDefEqProofs [af,ay,hN,fC,e1,e2,e3,e3b,hx,hc3,hm3,hf3,ef,q1,w0,e5,e6,e7,e7b,ef2,p1]
    have p1:=Classical.not_not.1 p1;rw [p1] at hb2;simp [q3o,q3x] at hb2
   | true=>
    rw [hb2] at ef2;rw [pq] at ef2 ⊢;simp only [dD] at ef2;simp only [OR.bind_ok];have p1:k2=2:=FY hb2;have e10:=lF hE r7 ⟨cx.lim,N⟩ hl;have w10:=iP w7;obtain ⟨a,c,q,hz,e11⟩|⟨v11,r11,h11,e11,g11⟩:=spl (iD hE [41] (bY r7) w10 ⟨cx.lim,N⟩ hl) (aF w10 [41] (by simp))
    ·rw [hz];simp -implicitDefEqProofs [af,ay,hN,fC,e1,e2,e3,e3b,hx,hc3,hm3,hf3,ef,q1,w0,e5,e6,e7,e7b,ef2,p1,e10,e11]
    rw [h11];simp only [OR.bind_ok];have hc11:=vg hE r11;have hm11:=hE.pm r11;have hpt:=tH [58] r11.pre;have hs11:=Px hE r11 (qO r11.pre [58]);have hc12:=vg hE { r11 with pre:=qO r11.pre [58] };have hs12:=af5 hE { r11 with pre:=qO r11.pre [58] };have h2:=ku.two (.inl p1);simp only at h2;have hwi2:IntKind.i64.wrap ((i2.length:Int) - 1)=(i2.length:Int) - 1:=w64 (by omega) (by omega);have z1:(1:Int)≤(i2.length:Int):=by omega
    have z2:((i2.length:Int) - 1).toNat=i2.length - 1:=by omega
    have z3:i2.tail.take (i2.length - 1 - 1)=zB i2:=by unfold zB;rw [Nat.sub_sub,List.drop_one]
    have z4:1≤i2.length - 1:=by omega
    have hlm:cx.lim≤m:=hl;simp -implicitDefEqProofs [af,ay,hN,fC,e1,e2,e3,e3b,hx,hc3,hm3,hf3,ef,q1,w0,e5,e6,e7,e7b,ef2,p1,e10,e11,hc11,hm11,hpt,hs11,uy,hc12,hs12,hlim,hlm,hwi2,z1,z2,z3,z4]
  by_cases q3o:w=[111,119,108,58]
  ·subst q3o;have h58:Go.Lib.indexByte [111,119,108,58] 58=3:=rfl;have w0:IntKind.i64.wrap 3=3:=rfl;have el:=uQ 111;rw [show ltI 111=true from rfl] at el;rw [h58] at hx;have e5:=lF hE r3 ⟨cx.lim,N⟩ hl;have w5:=iP w3;obtain ⟨a,c,q,hz,e6⟩|⟨v6,r6,h6,e6,g6⟩:=spl (iD hE [61] (bY r3) w5 ⟨cx.lim,N⟩ hl) (aF w5 [61] (by simp))
   ·rw [hz];simp -implicitDefEqProofs [af,ay,hN,fC,e1,e2,e3,e3b,hx,hc3,hm3,hf3,ef,q1,w0,el,e5,e6]
   rw [h6];simp only [OR.bind_ok];have w6:=g6.1;obtain ⟨a,c,q,hz,e7⟩|⟨u,r7,h7,e7,g7⟩:=spl (oL hE r6 w6.at_ ⟨cx.lim,N⟩ hl) (gJ w6)
   ·rw [hz];simp -implicitDefEqProofs [af,ay,hN,fC,e1,e2,e3,e3b,hx,hc3,hm3,hf3,ef,q1,w0,el,e5,e6,e7]
   rw [h7];simp only [OR.bind_ok];obtain ⟨w7,ku⟩:=oH w6 h7;have e7b:=oL hE r7 w7.at_ ⟨cx.lim,N⟩ hl;rw [(qE h7).1] at e7b;simp only [dD] at e7b;obtain ⟨k2,i2,a2⟩:=u;have hil:i2.length≤src.length:=ku.len;have ef2:=pY hE (Ad [111,119,108,58] (k2,i2,a2)) r7 w7 ⟨cx.lim,N⟩ hl
   cases hb2:Ad [111,119,108,58] (k2,i2,a2) with
   | false=>
    rw [hb2] at ef2;obtain ⟨a9,c9,r9,h9⟩:=zi src r7;rw [h9] at ef2 ⊢;simp only [dA] at ef2;simp only [OR.bind_er,dA];unfold Ad at hb2;by_cases p1:¬k2=2
    ·simp -implicitDefEqProofs [af,ay,hN,fC,e1,e2,e3,e3b,hx,hc3,hm3,hf3,ef,q1,w0,el,e5,e6,e7,e7b,ef2,p1]
    have p1:=Classical.not_not.1 p1
    have p2:¬i2=wC1:=fun h=>by
     rw [p1,h] at hb2;simp at hb2
    simp -implicitDefEqProofs [af,ay,hN,fC,e1,e2,e3,e3b,hx,hc3,hm3,hf3,ef,q1,w0,el,e5,e6,e7,e7b,ef2,p1,p2]
   | true=>
    rw [hb2] at ef2;rw [pq] at ef2 ⊢;simp only [dD] at ef2;simp only [OR.bind_ok];have p1:k2=2:=FY hb2
    have p2:i2=wC1:=by
     unfold Ad at hb2;rw [p1] at hb2
     simpa using hb2
    have e10:=lF hE r7 ⟨cx.lim,N⟩ hl;have w10:=iP w7;obtain ⟨a,c,q,hz,e11⟩|⟨v11,r11,h11,e11,g11⟩:=spl (iD hE [41] (bY r7) w10 ⟨cx.lim,N⟩ hl) (aF w10 [41] (by simp))
    ·rw [hz];simp -implicitDefEqProofs [af,ay,hN,fC,e1,e2,e3,e3b,hx,hc3,hm3,hf3,ef,q1,w0,el,e5,e6,e7,e7b,ef2,p1,p2,e10,e11]
    rw [h11];simp only [OR.bind_ok];have hc11:=vg hE r11;have hm11:=hE.pm r11;have hpt:=tH [111,119,108,58] r11.pre;have hs11:=Px hE r11 (qO r11.pre [111,119,108,58]);have hlm:cx.lim≤m:=hl;simp -implicitDefEqProofs [af,ay,hN,fC,e1,e2,e3,e3b,hx,hc3,hm3,hf3,ef,q1,w0,el,e5,e6,e7,e7b,ef2,p1,p2,e10,e11,hc11,hm11,hpt,hs11,hlim,hlm,uy]
  by_cases q3x:w=[120,115,100,58]
  ·subst q3x;have h58:Go.Lib.indexByte [120,115,100,58] 58=3:=rfl;have w0:IntKind.i64.wrap 3=3:=rfl;have el:=uQ 120;rw [show ltI 120=true from rfl] at el;rw [h58] at hx;have e5:=lF hE r3 ⟨cx.lim,N⟩ hl;have w5:=iP w3;obtain ⟨a,c,q,hz,e6⟩|⟨v6,r6,h6,e6,g6⟩:=spl (iD hE [61] (bY r3) w5 ⟨cx.lim,N⟩ hl) (aF w5 [61] (by simp))
   ·rw [hz];simp -implicitDefEqProofs [af,ay,hN,fC,e1,e2,e3,e3b,hx,hc3,hm3,hf3,ef,q1,w0,el,e5,e6]
   rw [h6];simp only [OR.bind_ok];have w6:=g6.1;obtain ⟨a,c,q,hz,e7⟩|⟨u,r7,h7,e7,g7⟩:=spl (oL hE r6 w6.at_ ⟨cx.lim,N⟩ hl) (gJ w6)
   ·rw [hz];simp -implicitDefEqProofs [af,ay,hN,fC,e1,e2,e3,e3b,hx,hc3,hm3,hf3,ef,q1,w0,el,e5,e6,e7]
   rw [h7];simp only [OR.bind_ok];obtain ⟨w7,ku⟩:=oH w6 h7;have e7b:=oL hE r7 w7.at_ ⟨cx.lim,N⟩ hl;rw [(qE h7).1] at e7b;simp only [dD] at e7b;obtain ⟨k2,i2,a2⟩:=u;have hil:i2.length≤src.length:=ku.len;have ef2:=pY hE (Ad [120,115,100,58] (k2,i2,a2)) r7 w7 ⟨cx.lim,N⟩ hl
   cases hb2:Ad [120,115,100,58] (k2,i2,a2) with
   | false=>
    rw [hb2] at ef2;obtain ⟨a9,c9,r9,h9⟩:=zi src r7;rw [h9] at ef2 ⊢;simp only [dA] at ef2;simp only [OR.bind_er,dA];unfold Ad at hb2;by_cases p1:¬k2=2
    ·simp -implicitDefEqProofs [af,ay,hN,fC,e1,e2,e3,e3b,hx,hc3,hm3,hf3,ef,q1,w0,el,e5,e6,e7,e7b,ef2,p1]
    have p1:=Classical.not_not.1 p1
    have p2:¬i2=wB8:=fun h=>by
     rw [p1,h] at hb2;simp at hb2
    simp -implicitDefEqProofs [af,ay,hN,fC,e1,e2,e3,e3b,hx,hc3,hm3,hf3,ef,q1,w0,el,e5,e6,e7,e7b,ef2,p1,p2]
   | true=>
    rw [hb2] at ef2;rw [pq] at ef2 ⊢;simp only [dD] at ef2;simp only [OR.bind_ok];have p1:k2=2:=FY hb2
    have p2:i2=wB8:=by
     unfold Ad at hb2;rw [p1] at hb2
     simpa using hb2
    have e10:=lF hE r7 ⟨cx.lim,N⟩ hl;have w10:=iP w7;obtain ⟨a,c,q,hz,e11⟩|⟨v11,r11,h11,e11,g11⟩:=spl (iD hE [41] (bY r7) w10 ⟨cx.lim,N⟩ hl) (aF w10 [41] (by simp))
    ·rw [hz];simp -implicitDefEqProofs [af,ay,hN,fC,e1,e2,e3,e3b,hx,hc3,hm3,hf3,ef,q1,w0,el,e5,e6,e7,e7b,ef2,p1,p2,e10,e11]
    rw [h11];simp only [OR.bind_ok];have hc11:=vg hE r11;have hm11:=hE.pm r11;have hpt:=tH [120,115,100,58] r11.pre;have hs11:=Px hE r11 (qO r11.pre [120,115,100,58]);have hlm:cx.lim≤m:=hl;simp -implicitDefEqProofs [af,ay,hN,fC,e1,e2,e3,e3b,hx,hc3,hm3,hf3,ef,q1,w0,el,e5,e6,e7,e7b,ef2,p1,p2,e10,e11,hc11,hm11,hpt,hs11,hlim,hlm,uy]
  have h1:=kt.one (by simp [q1])
  cases w with
  | nil=>simp at h1
  | cons c w'=>
   have el:=uQ c.toNat;have q3a:¬(c=58∧w'=[]):=fun h=>q3 (by rw [h.1,h.2])
   have q3b:(c == 58 && w'.isEmpty)=false:=by cases h:(c == 58 && w'.isEmpty) with
    | false=>rfl
    | true=>rw [Bool.and_eq_true,beq_iff_eq,List.isEmpty_iff] at h;exact absurd h q3a
   have hwl2:w'.length+1≤src.length:=hwl;have w0:IntKind.i64.wrap (w'.length:Int)=w'.length:=w64 (by omega) (by omega);have hcl:((c::w').length:Int) - 1=w'.length:=by simp
   rw [hcl] at q2;rw [q2] at hx
   have q5:ltI c.toNat=true:=by
    unfold OW at hb
    simpa [q1,hcl,q2,q3,hnp] using hb
   rw [q5] at el;have q3o:¬c::w'=[111,119,108,58]:=q3o;have q3x:¬c::w'=[120,115,100,58]:=q3x;generalize hW:c::w'=W at *;have wW:IntKind.i64.wrap ((W.length:Int) - 1)=w'.length:=by rw [←hW];simpa using w0
   have hW0:W[0]?=some c:=by rw [←hW];rfl
   have hW1:W.head?=some c:=by rw [←hW];rfl
   have e5:=lF hE r3 ⟨cx.lim,N⟩ hl;have w5:=iP w3;obtain ⟨a,c,q,hz,e6⟩|⟨v6,r6,h6,e6,g6⟩:=spl (iD hE [61] (bY r3) w5 ⟨cx.lim,N⟩ hl) (aF w5 [61] (by simp))
   ·rw [hz];simp -implicitDefEqProofs [af,ay,hN,fC,e1,e2,e3,e3b,hx,hc3,hm3,hf3,ef,q1,w0,el,q3,q3o,q3x,wW,hW0,hW1,e5,e6]
   rw [h6];simp only [OR.bind_ok];have w6:=g6.1;obtain ⟨a,c,q,hz,e7⟩|⟨u,r7,h7,e7,g7⟩:=spl (oL hE r6 w6.at_ ⟨cx.lim,N⟩ hl) (gJ w6)
   ·rw [hz];simp -implicitDefEqProofs [af,ay,hN,fC,e1,e2,e3,e3b,hx,hc3,hm3,hf3,ef,q1,w0,el,q3,q3o,q3x,wW,hW0,hW1,e5,e6,e7]
   rw [h7];simp only [OR.bind_ok];obtain ⟨w7,ku⟩:=oH w6 h7;have e7b:=oL hE r7 w7.at_ ⟨cx.lim,N⟩ hl;rw [(qE h7).1] at e7b;simp only [dD] at e7b;obtain ⟨k2,i2,a2⟩:=u;have hil:i2.length≤src.length:=ku.len;have ef2:=pY hE (Ad W (k2,i2,a2)) r7 w7 ⟨cx.lim,N⟩ hl
   cases hb2:Ad W (k2,i2,a2) with
   | false=>
    rw [hb2] at ef2;obtain ⟨a9,c9,r9,h9⟩:=zi src r7;rw [h9] at ef2 ⊢;simp only [dA] at ef2;simp only [OR.bind_er,dA];unfold Ad at hb2;by_cases p1:¬k2=2
    ·simp -implicitDefEqProofs [af,ay,hN,fC,e1,e2,e3,e3b,hx,hc3,hm3,hf3,ef,q1,w0,el,q3,q3o,q3x,wW,hW0,hW1,e5,e6,e7,e7b,ef2,p1]
    have p1:=Classical.not_not.1 p1;rw [p1] at hb2;simp [q3o,q3x] at hb2
   | true=>
    rw [hb2] at ef2;rw [pq] at ef2 ⊢;simp only [dD] at ef2;simp only [OR.bind_ok];have p1:k2=2:=FY hb2;have e10:=lF hE r7 ⟨cx.lim,N⟩ hl;have w10:=iP w7;obtain ⟨a,c,q,hz,e11⟩|⟨v11,r11,h11,e11,g11⟩:=spl (iD hE [41] (bY r7) w10 ⟨cx.lim,N⟩ hl) (aF w10 [41] (by simp))
    ·rw [hz];simp -implicitDefEqProofs [af,ay,hN,fC,e1,e2,e3,e3b,hx,hc3,hm3,hf3,ef,q1,w0,el,q3,q3o,q3x,wW,hW0,hW1,e5,e6,e7,e7b,ef2,p1,e10,e11]
    rw [h11];simp only [OR.bind_ok];have hc11:=vg hE r11;have hm11:=hE.pm r11;have hpt:=tH W r11.pre;have hs11:=Px hE r11 (qO r11.pre W);have hlm:cx.lim≤m:=hl;simp -implicitDefEqProofs [af,ay,hN,fC,e1,e2,e3,e3b,hx,hc3,hm3,hf3,ef,q1,w0,el,q3,q3o,q3x,wW,hW0,hW1,e5,e6,e7,e7b,ef2,p1,e10,e11,hc11,hm11,hpt,hs11,hlim,hlm,uy]
end
end Go.Ai.Z
namespace Go.Ai.Z
open Go.Ai
theorem aad (N a0:Nat):∀(xs l:List Ax) (r:Rd) {l':List Ax} {q:Rd},BH N a0 xs l r=.ok l' q→q.at_=r.at_∧q.ah=r.ah∧q.op=r.op∧l'=l++xs.map (fun x=>{ x with op:=r.op })∧(∀x∈xs,iR { x with op:=r.op }=0)∧q.pre=r.pre∧q.iri=r.iri
 | [],l,r,l',q,h=>by cases h;simp
 | x::xs,l,r,l',q,h=>by
  unfold BH at h
  split at h
  ·rename_i hc;obtain ⟨h1,h2,h3,h4,h5,h6,h7⟩:=aad N a0 xs _ _ h;refine ⟨h1,h2,h3,by rw [h4];simp,fun y hy=>?_,h6,h7⟩;rcases List.mem_cons.1 hy with rfl|hy
   ·exact hc
   ·exact h5 y hy
  ·cases h
theorem afo {src:Rl} {r q:Rd} (h:Wr src r) (h1:q.at_=r.at_) (h2:q.ah=r.ah):Wr src q∧rem src q=rem src r:=⟨⟨by rw [h1];exact h.at_,by rw [h2];exact h.ah⟩,by unfold rem;rw [h1,h2]⟩
theorem aaB {src:Rl} {n N:Nat} {l l':List Ax} {r q:Rd} (hr:Wr src r) (hn:rem src r<n) (hax:r.ax=axV N l) (h:FW src n N l r=.ok l' q):Wr src q∧rem src q+1≤rem src r∧q.ax=axV N l'∧l'.length≤1024:=by
 unfold FW at h;obtain ⟨t,r1,h1,h⟩:=OR.bind_eq h;obtain ⟨u,r2,h2,h⟩:=OR.bind_eq h;obtain ⟨u,r4,h4,h⟩:=OR.bind_eq h;obtain ⟨xs,r5,h5,h⟩:=OR.bind_eq h;obtain ⟨u,r6,h6,h⟩:=OR.bind_eq h;obtain ⟨l2,r7,h7,h⟩:=OR.bind_eq h;have g1:=(gJ hr).ok h1;have g2:=(je g1.1 _).ok h2;have kp:=AU src r2;have g4:=(aF (iP g2.1) [40] (by simp)).ok h4;have hre:rem src { r4 with op:=false }<n:=by show rem src r4<n;omega
 have g5:=(XR (n:=n) (w:=t.2.1) (TU g4.1 false) hre).ok h5;have g6:=(aF g5.1 [41] (by simp)).ok h6
 have hax6:r6.ax=axV N l:=by
  rw [g6.2.2.2.2,g5.2.2.2.2];show r4.ax=_;rw [g4.2.2.2.2];show r2.ax=_;rw [g2.2.2.2.2,g1.2.2.2.2,hax]
 have k7:=aad N _ xs l r6 h7;have a7:=Vz N _ xs l r6 hax6 h7;have w7:=afo g6.1 k7.1 k7.2.1;have k5:rem src r5≤rem src r4:=g5.2.1
 split at h
 ·cases h
 ·rename_i hlen;cases h;exact ⟨w7.1,by rw [w7.2];omega,a7,by omega⟩
theorem MR {src:Rl}:∀(n:Nat) (r:Rd),Wr src r→rem src r<n→uq src r 0 (EH src n r)
 | 0,r,_,hn=>absurd hn (by omega)
 | n+1,r,hr,hn=>by
  unfold EH;refine uq.bind (k:=0) (j:=0) (mV hr _).p (fun b q e h1 h2=>?_) (by omega);split
  ·refine uq.bind (k:=1) (j:=0) (UH h1) (fun _ q2 e2 h3 h4=>?_) (by omega);exact MR n q2 h3 (by omega)
  ·exact (aG.mk h1).p
theorem MS {src:Rl}:∀(k:Nat) (r:Rd),Wr src r→uq src r 0 (FX src k r)
 | 0,r,hr=>(aG.mk hr).p
 | k+1,r,hr=>by
  unfold FX;refine uq.bind (k:=0) (j:=0) (gJ hr).p (fun t q e h1 h2=>?_) (by omega);split
  ·have h:=MS k (bY q) (iP h1);have kp:=AU src q
   cases hx:FX src k (bY q) with
   | er a c q2=>rw [hx] at h;exact h
   | ok v q2=>rw [hx] at h;obtain ⟨g1,g2,g3⟩:=h;exact ⟨g1,by omega,g3⟩
  ·exact (aG.mk h1).p
def lpE (S:Rd→St) (X:St) (k:Nat) (E:Env) (x:OR Unit):Out:=
 match x with
 | .ok _ r=>.exit k E (S r++X)
 | .er a c r=>.pan (flt a c) (S r++X)
@[simp] theorem adM (S:Rd→St) (X:St) (k:Nat) (E:Env) (v:Unit) (r:Rd):lpE S X k E (.ok v r)=.exit k E (S r++X):=rfl
@[simp] theorem adN (S:Rd→St) (X:St) (k:Nat) (E:Env) (a:Nat) (c:Int) (r:Rd):lpE S X k E (.er a c r)=.pan (flt a c) (S r++X):=rfl
section
variable {src:Rl} {S:Rd→St} {m N:Nat} (hE:yA src S m N)
include hE
theorem adY (cx:Ctx) (hl:cx.lim≤m):∀(n:Nat) (r:Rd),Wr src r→rem src r<n→
  gQ (aB P0.glob (aj P0) cx true iw) [0] [(0,.v (.pt (m+1) 0))] (S r)=lpE S [] 0 [(0,.v (.pt (m+1) 0)),(4,.v (.b false))] (EH src n r)
 | 0,r,_,hn=>absurd hn (by omega)
 | n+1,r,ha,hn=>by
  unfold EH;have e1:=JQ hE wC0 r ha cx hl;have g1:=mV ha wC0
  cases h1:isR src wC0 r with
  | er a c q=>
   rw [h1] at e1;simp only [dA] at e1;refine ak fun K hK=>?_;simp -implicitDefEqProofs [iw,e1]
  | ok b r1=>
   rw [h1] at e1;have k1:=g1.ok h1;simp only [dD] at e1;simp only [OR.bind_ok]
   cases b with
   | false=>
    refine ak fun K hK=>?_;simp -implicitDefEqProofs [iw,e1]
   | true=>
    simp only [if_true];have e2:=aeQ hE r1 k1.1 cx hl;have g2:=UH k1.1
    cases h2:NV src r1 with
    | er a c q=>
     rw [h2] at e2;simp only [dA] at e2;refine ak fun K hK=>?_;simp -implicitDefEqProofs [iw,e1,e2]
    | ok v r2=>
     rw [h2] at e2;have k2:=g2.ok h2;simp only [dD] at e2;simp only [OR.bind_ok];have ih:=adY cx hl n r2 k2.1 (by omega);refine ak fun K hK=>?_;rw [←hK] at ih;rw [←ih];simp -implicitDefEqProofs [iw,e1,e2]
theorem adX (cx:Ctx) (hl:cx.lim≤m):∀(k:Nat) (i:Nat) (r:Rd),Wr src r→i+k=2→
  ∃j:Int,gQ (aB P0.glob (aj P0) cx true iq) [0,2] [(0,.v (.pt (m+1) 0)),(2,.v (.i .i64 i))] (S r)=lpE S [] 2 [(0,.v (.pt (m+1) 0)),(2,.v (.i .i64 j)),(29,.v (.b false))] (FX src k r)
 | 0,i,r,ha,hi=>by
  have h2:¬(i:Int)<2:=by omega
  refine ⟨i,ak fun K hK=>?_⟩;simp -implicitDefEqProofs [iq,h2,FX]
 | k+1,i,r,ha,hi=>by
  have h2:(i:Int)<2:=by omega
  have hwi:=wI (i:=i) (by omega);unfold FX;have e1:=oL hE r ha.at_ cx hl;have g1:=gJ ha
  cases h1:iH src r with
  | er a c q=>
   rw [h1] at e1;simp only [dA] at e1;refine ⟨0,ak fun K hK=>?_⟩;simp -implicitDefEqProofs [iq,h2,e1]
  | ok t r1=>
   rw [h1] at e1;have k1:=g1.ok h1;obtain ⟨t1,t2,t3⟩:=t;simp only [dD,fC] at e1;simp only [OR.bind_ok];by_cases q:t1=2
   ·rw [if_pos q];have e2:=lF hE r1 cx hl;obtain ⟨j,ih⟩:=adX cx hl k (i+1) (bY r1) (iP k1.1) (by omega);refine ⟨j,ak fun K hK=>?_⟩;rw [←hK,show ((i+1:Nat):Int)=(i:Int)+1 from rfl] at ih;rw [←ih];simp -implicitDefEqProofs [iq,h2,e1,q,e2,hwi]
   ·rw [if_neg q];refine ⟨i,ak fun K hK=>?_⟩;simp -implicitDefEqProofs [iq,h2,e1,q]
def ah0 (S:Rd→St) (m:Nat) (X:St) (x:OR (List Ax)):Out:=
 match x with
 | .ok l r=>.exit 4 [(0,.v (.pt (m+1) 0)),(36,.v (.b false))] (S r++axT l)
 | .er a c r=>.pan (flt a c) (S r++X)
omit hE in
@[simp] theorem af2 (S:Rd→St) (m:Nat) (X:St) (l:List Ax) (r:Rd):ah0 S m X (.ok l r)=.exit 4 [(0,.v (.pt (m+1) 0)),(36,.v (.b false))] (S r++axT l):=rfl
omit hE in
@[simp] theorem af4 (S:Rd→St) (m:Nat) (X:St) (a:Nat) (c:Int) (r:Rd):ah0 S m X (.er a c r)=.pan (flt a c) (S r++X):=rfl
theorem adW (n:Nat) (hn2:n≤100000) (cx:Ctx) (hl:cx.lim≤m) (hb:cx.base≤m):∀(k:Nat) (l:List Ax) (r:Rd),Wr src r→rem src r<k→rem src r<n→r.ax=axV N l→l.length≤1024→
  ∃X,gQ (aB P0.glob (aj P0) cx true fE) [0] [(0,.v (.pt (m+1) 0))] (S r++axT l)=ah0 S m X (Iy src n N k l r)
 | 0,l,r,_,hk,_,_,_=>absurd hk (by omega)
 | k+1,l,r,ha,hk,hn,hax,hll=>by
  have hA:=hE.app (axT l);unfold Iy;have e1:=JQ hA [41] r ha cx hl;have g1:=mV ha [41]
  cases h1:isR src [41] r with
  | er a c q=>
   rw [h1] at e1;simp only [dA] at e1;refine ⟨axT l,ak fun K hK=>?_⟩;simp -implicitDefEqProofs [fE,e1]
  | ok b r1=>
   rw [h1] at e1;have k1:=g1.ok h1;simp only [dD] at e1;simp only [OR.bind_ok]
   cases b with
   | true=>
    refine ⟨[],ak fun K hK=>?_⟩;simp -implicitDefEqProofs [fE,e1]
   | false=>
    simp only [Bool.false_eq_true,if_false];have hax1:r1.ax=axV N l:=by rw [k1.2.2.2.2,hax]
    obtain ⟨X,e2⟩:=ain hE n hn2 l hll r1 hax1 k1.1 (by omega) cx hl hb
    cases h2:FW src n N l r1 with
    | er a c q=>
     rw [h2] at e2;simp only [pU] at e2;refine ⟨X,ak fun K hK=>?_⟩;simp -implicitDefEqProofs [fE,e1,e2]
    | ok l' r2=>
     rw [h2] at e2;simp only [WI] at e2;simp only [OR.bind_ok];obtain ⟨z1,z2,z3,z4⟩:=aaB k1.1 (by omega) hax1 h2;obtain ⟨Y,ih⟩:=adW n hn2 cx hl hb k l' r2 z1 (by omega) (by omega) z3 z4;refine ⟨Y,ak fun K hK=>?_⟩;rw [←hK] at ih;rw [←ih];simp -implicitDefEqProofs [fE,e1,e2]
end
end Go.Ai.Z
namespace Go.Ai.Z
open Go.Ai
theorem VQ {src:Rl} (n N:Nat):∀(k:Nat) (l:List Ax) (r:Rd) {l':List Ax} {q:Rd},Wr src r→rem src r<n→r.ax=axV N l→l.length≤1024→Iy src n N k l r=.ok l' q→Wr src q∧rem src q≤rem src r∧q.ax=axV N l'∧l'.length≤1024
 | 0,l,r,l',q,_,_,_,_,h=>by cases h
 | k+1,l,r,l',q,ha,hn,hax,hll,h=>by
  unfold Iy at h;obtain ⟨b,r1,h1,h⟩:=OR.bind_eq h;have k1:=(mV ha [41]).ok h1;have hax1:r1.ax=axV N l:=by rw [k1.2.2.2.2,hax]
  split at h
  ·cases h;exact ⟨k1.1,by omega,hax1,hll⟩
  ·obtain ⟨l2,r2,h2,h⟩:=OR.bind_eq h;obtain ⟨z1,z2,z3,z4⟩:=aaB k1.1 (by omega) hax1 h2;obtain ⟨y1,y2,y3,y4⟩:=VQ n N k l2 r2 z1 (by omega) z3 z4 h;exact ⟨y1,by omega,y3,y4⟩
section
variable {src:Rl} {S:Rd→St} {m N:Nat} (hE:yA src S m N)
include hE
theorem ZH (n:Nat) (hn2:n≤100000) (r:Rd) (hr:r.ax=.ns) (ha:Wr src r) (hn:rem src r<n) (cx:Ctx) (hl:cx.lim≤m) (hb:cx.base≤m):
  ∃X,aj P0 (.fn (.func lM) [] []) [.pt (m+1) 0] (S r) cx=agN S X (V8 src n N r):=by
 unfold V8;have d1:=adY hE cx hl n r ha hn;have dg1:=MR n r ha hn
 cases hp1:EH src n r with
 | er a c q=>
  rw [hp1] at d1;simp only [adN,List.append_nil] at d1;simp only [OR.bind_er,pU];refine ⟨[],dW (by simp) ?_⟩;simp -implicitDefEqProofs [af,aY,d1]
 | ok v0 r0=>
  rw [hp1] at d1;have k1:=dg1.ok hp1;simp only [adM,List.append_nil] at d1;simp only [OR.bind_ok];have w0:=k1.1;obtain ⟨a,c,q,hx,e1⟩|⟨b,r1,h1,e1,g1⟩:=spl (JQ hE wC3 r0 w0 ⟨cx.lim,cx.base⟩ hl) (mV w0 wC3)
  ·rw [hx];simp only [OR.bind_er,pU];refine ⟨[],dW (by simp) ?_⟩;simp -implicitDefEqProofs [af,aY,d1,e1]
  rw [h1];simp only [OR.bind_ok];have w1:=g1.1;have hc:=vg hE r1;have hm:=hE.pm r1;have hf:=DC [58] r1.pre;have ef:=pY hE (b && decide ([58]∈r1.pre)) r1 w1 cx hl;have gf:=je w1 (b && decide ([58]∈r1.pre))
  cases hq:rD src (b && decide ([58]∈r1.pre)) r1 with
  | er a2 c2 r2=>
   rw [hq] at ef;simp only [dA] at ef;simp only [OR.bind_er,pU];refine ⟨[],dW (by simp) ?_⟩
   cases b with
   | false=>
    simp at ef;simp -implicitDefEqProofs [af,aY,d1,e1,ef]
   | true=>
    by_cases q:[58]∈r1.pre
    ·simp [q] at ef hf;simp -implicitDefEqProofs [af,aY,d1,e1,hc,hm,hf,ef]
    ·simp [q] at ef hf;simp -implicitDefEqProofs [af,aY,d1,e1,hc,hm,hf,ef]
  | ok v2 r2=>
   obtain ⟨hb2,hq2⟩:=zh hq;subst hq2;rw [hq] at ef;simp only [dD] at ef;simp only [OR.bind_ok];rw [Bool.and_eq_true,decide_eq_true_eq] at hb2;obtain ⟨hb3,q⟩:=hb2;subst hb3;simp only [q,if_true,decide_true,Bool.and_true] at ef hf;have ep:=lF hE r2 cx hl;have wp:=iP w1;have kp:=AU src r2;have e3:=iD hE [40] (bY r2) wp cx hl;have g3:=aF wp [40] (by simp)
   cases h3:lI src [40] (bY r2) with
   | er a3 c3 r3=>
    rw [h3] at e3;simp only [dA] at e3;simp only [OR.bind_er,pU];refine ⟨[],dW (by simp) ?_⟩;simp -implicitDefEqProofs [af,aY,d1,e1,hc,hm,hf,ef,ep,e3]
   | ok v3 r3=>
    rw [h3] at e3;have k3:=g3.ok h3;simp only [dD] at e3;simp only [OR.bind_ok];obtain ⟨j,e4⟩:=adX hE cx hl 2 0 r3 k3.1 rfl;rw [show ((0:Nat):Int)=0 from rfl] at e4;have g4:=MS 2 r3 k3.1
    cases h4:FX src 2 r3 with
    | er a4 c4 r4=>
     rw [h4] at e4;simp only [adN,List.append_nil] at e4;simp only [OR.bind_er,pU];refine ⟨[],dW (by simp) ?_⟩;simp -implicitDefEqProofs [af,aY,d1,e1,hc,hm,hf,ef,ep,e3,e4]
    | ok v4 r4=>
     rw [h4] at e4;have k4:=g4.ok h4;simp only [adM,List.append_nil] at e4;simp only [OR.bind_ok];have g1':=g1
     have hax:r4.ax=axV N []:=by
      rw [k4.2.2,k3.2.2.2.2];show r2.ax=_;rw [g1'.2.2.2.2,k1.2.2,hr];rfl
     obtain ⟨X,e5⟩:=adW hE n hn2 cx hl hb n [] r4 k4.1 (by omega) (by omega) hax (by simp);rw [show axT []=[] from rfl,List.append_nil] at e5;have e5:=(Y8 (body:=aB P0.glob (aj P0) cx true fE) (keep:=[0]) (env:=[(0,.v (.pt (m+1) 0)),(2,.v (.i .i64 j)),(29,.v (.b false))]) (s:=S r4)).trans e5
     cases h5:Iy src n N n [] r4 with
     | er a5 c5 r5=>
      rw [h5] at e5;simp only [af4] at e5;simp only [OR.bind_er,pU];refine ⟨X,dW (by simp) ?_⟩;simp -implicitDefEqProofs [af,aY,d1,e1,hc,hm,hf,ef,ep,e3,e4,e5]
     | ok l r5=>
      rw [h5] at e5;have w5:=VQ n N n [] r4 k4.1 (by omega) hax (by simp) h5;simp only [af2] at e5;simp only [OR.bind_ok];have hA:=hE.app (axT l);have e6:=lF hA r5 cx hl;have w6:=iP w5.1;have e7:=oL hA (bY r5) w6.at_ cx hl;have g7:=gJ w6
      cases h7:iH src (bY r5) with
      | er a7 c7 r7=>
       rw [h7] at e7;simp only [dA] at e7;simp only [OR.bind_er,pU];refine ⟨axT l,dW (by simp) ?_⟩;simp -implicitDefEqProofs [af,aY,d1,e1,hc,hm,hf,ef,ep,e3,e4,e5,e6,e7]
      | ok t r7=>
       rw [h7] at e7;have w7:=(g7.ok h7).1;obtain ⟨t1,t2,t3⟩:=t;simp only [dD,fC] at e7;simp only [OR.bind_ok];have e8:=pY hA (decide (t1=5)) r7 w7 cx hl
       cases h8:rD src (decide (t1=5)) r7 with
       | er a8 c8 r8=>
        rw [h8] at e8;simp only [dA] at e8;simp only [OR.bind_er,pU];refine ⟨axT l,dW (by simp) ?_⟩;simp -implicitDefEqProofs [af,aY,d1,e1,hc,hm,hf,ef,ep,e3,e4,e5,e6,e7,e8]
       | ok v8 r8=>
        rw [h8] at e8;simp only [dD] at e8;simp only [OR.bind_ok,WI];refine ⟨[],dW (by simp) ?_⟩;simp -implicitDefEqProofs [af,aY,d1,e1,hc,hm,hf,ef,ep,e3,e4,e5,e6,e7,e8]
end
end Go.Ai.Z
namespace Go.Ai.Z
open Go.Ai
theorem VZ (s X:St) (k:Nat):(s++X)[s.length+k]?=X[k]?:=by rw [List.getElem?_append_right (by omega),Nat.add_sub_cancel_left]
theorem UJ (s X:St):(s++X)[s.length]?=X[0]?:=VZ s X 0
theorem WV (s X:St) (k:Nat) (v:fP):(s++X).set (s.length+k) v=s++X.set k v:=by rw [List.set_append_right _ _ (by omega),Nat.add_sub_cancel_left]
theorem Z8 (s X:St) (v:fP):(s++X).set s.length v=s++X.set 0 v:=WV s X 0 v
def r00:Rd:=⟨0,[],[],[],false,.ns⟩
def SO (s:St) (src:Rl) (r:Rd):St:=s++[.map (qm r.pre),rO src s.length r,.map (XF s.length),.map (Yf s.length)]
theorem ah5 (s:St) (src:Rl) (hs:src.length≤70000):yA src (SO s src) s.length (s.length+4) where
 cell r:=by unfold SO;rw [VZ];rfl
 sets r q h:=by unfold SO;rw [WV,←h];rfl
 pm r:=by unfold SO;rw [UJ];rfl
 setp r P:=by
  unfold SO
  have:=WV s [.map (qm r.pre),rO src s.length r,.map (XF s.length),.map (Yf s.length)] 0 (.map (qm P))
  rw [Nat.add_zero] at this;rw [this];rfl
 im r:=by unfold SO;rw [VZ];rfl
 cm r:=by unfold SO;rw [VZ];rfl
 n r:=by simp [SO]
 src:=hs
theorem Yr (src:Rl) (s:St) (cx:Ctx) (hl:cx.lim≤s.length) (hb:cx.base≤s.length):
  aj P0 (.fn (.func sZ) [] []) [.sl (aC src)] s cx=.ret (.pt (s.length+1) 0) (SO s src r00):=by
 refine Nc (by simp) ?_;have h1:cx.lim≤s.length+1:=by omega
 have h2:cx.lim≤s.length+2:=by omega
 have h3:cx.lim≤s.length+3:=by omega
 have h4:cx.base≤s.length+1:=by omega
 have h5:cx.base≤s.length+2:=by omega
 have h6:cx.base≤s.length+3:=by omega
 simp -implicitDefEqProofs [af,vC,dQ,splice,VZ,UJ,WV,hl,h1,h2,h3,h4,h5,h6,Dn,jC,uy,SO,rO,r00,XF,Yf,rdF,qm,ahV]
def Un (N:Nat) (src:Rl):List Ax×Rl×Nat×Int:=
 if 65536<src.length then ([],[],0,2) else match V8 src (src.length+1) N r00 with
  | .ok l r=>(l,r.iri,0,0)
  | .er a c _=>([],[],a,c)
theorem ah9 {src:Rl} {N:Nat} {l:List Ax} {r:Rd} (h:V8 src (src.length+1) N r00=.ok l r):r.ax=axV N l∧l.length≤1024:=by
 unfold V8 at h;obtain ⟨u,r0,h0,h⟩:=OR.bind_eq h;obtain ⟨b,r1,h1,h⟩:=OR.bind_eq h;obtain ⟨u,r2,h2,h⟩:=OR.bind_eq h;obtain ⟨u,r3,h3,h⟩:=OR.bind_eq h;obtain ⟨u,r4,h4,h⟩:=OR.bind_eq h;obtain ⟨l2,r5,h5,h⟩:=OR.bind_eq h;obtain ⟨t,r6,h6,h⟩:=OR.bind_eq h;obtain ⟨u,r7,h7,h⟩:=OR.bind_eq h;cases h;have w:Wr src r00:=⟨by simp [r00],by simp [r00]⟩;have hn:rem src r00<src.length+1:=by simp [rem,r00]
 have g0:=(MR _ _ w hn).ok h0;have g1:=(mV g0.1 _).ok h1;have g2:=(je g1.1 _).ok h2;have kp:=AU src r2;have g3:=(aF (iP g2.1) [40] (by simp)).ok h3;have g4:=(MS 2 r3 g3.1).ok h4;have hax:r4.ax=axV N []:=by rw [g4.2.2,g3.2.2.2.2];show r2.ax=_;rw [g2.2.2.2.2,g1.2.2.2.2,g0.2.2];rfl
 have g5:=VQ _ N _ [] r4 g4.1 (by omega) hax (by simp) h5;have g6:=(gJ (iP g5.1)).ok h6;have g7:=(je g6.1 _).ok h7;refine ⟨?_,g5.2.2.2⟩;rw [g7.2.2.2.2,g6.2.2.2.2];exact g5.2.2.1
theorem IQ (n:Nat) (x:Ax):(cu x).under n=true:=by
 have h:∀l:List Rl,bW n (l.map AV.s)=true:=fun l=>by induction l with|nil=>rfl|cons a r ih=>simp [bW,AV.under,ih]
 rw [show cu x=.ag (cellsA x) from rfl,cellsA];simp [-acf,AV.under,bW,h]
theorem Fa (n:Nat):∀l:List Ax,bW n (l.map cu)=true
 | []=>rfl
 | x::l=>by simp [bW,IQ,Fa n l]
def IZ:St:=[.cells [.ns],.cells [.s []],.cells [.i .i64 0],.cells [.i .i64 0]]
theorem aip (src:Rl) (hs:src.length≤70000) (s:St) (cx:Ctx) (hl:cx.lim≤s.length):
  aj P0 (.fn (.func qg) [] []) [.sl (aC src)] s cx=.ret (.tu [xW (Un (s.length+8) src).1,.s (Un (s.length+8) src).2.1,.i .i64 (Un (s.length+8) src).2.2.1,.i .i64 (Un (s.length+8) src).2.2.2]) s:=by
 refine SN (d:=rV) rfl rfl rfl (by simp) ?_;have hbl:=lg src;have l1:cx.lim≤s.length+1:=by omega
 have l2:cx.lim≤s.length+2:=by omega
 have l3:cx.lim≤s.length+3:=by omega
 unfold Un;by_cases q:65536<src.length
 ·rw [if_pos q];have qi:(65536:Int)<(src.length:Int):=by omega
  simp -implicitDefEqProofs [xY,rV,zy,Xt,hbl,qi,hl,l1,l2,l3,VZ,UJ,WV,Z8,xW,frz,AV.under,bW]
 ·rw [if_neg q];have qi:¬(65536:Int)<(src.length:Int):=by omega
  have hE:=ah5 (s++IZ) src hs;have hL:(s++IZ).length=s.length+4:=by simp [IZ]
  have e1:=Yr src (s++IZ) ⟨cx.lim,s.length⟩ (by rw [hL];show cx.lim≤_;omega) (by rw [hL];show s.length≤_;omega);obtain ⟨X,e2⟩:=ZH hE (src.length+1) (by omega) r00 rfl ⟨by simp [r00],by simp [r00]⟩ (by simp [rem,r00]) ⟨cx.lim,s.length⟩ (by rw [hL];show cx.lim≤_;omega) (by rw [hL];show s.length≤_;omega);rw [hL,show s.length+4+4=s.length+8 from rfl] at e2;rw [hL] at e1
  cases hd:V8 src (src.length+1) (s.length+8) r00 with
  | er a c r=>
   rw [hd] at e2;simp only [pU] at e2;simp only [Au];obtain ⟨Y,hY⟩:∃Y,SO (s++IZ) src r++X=s++(fP.cells [.ns]::fP.cells [.s []]::fP.cells [.i .i64 0]::fP.cells [.i .i64 0]::Y):=⟨[.map (qm r.pre),rO src (s++IZ).length r,.map (XF (s++IZ).length),.map (Yf (s++IZ).length)]++X,by simp [SO,IZ]⟩;rw [hY] at e2;generalize SO (s++IZ) src r00=S1 at *;unfold IZ at *;simp -implicitDefEqProofs [xY,rV,zy,Xt,hbl,qi,e1,e2,placeOf,EM,vU,mX,zG,vH,flt,hl,l1,l2,l3,VZ,UJ,WV,Z8,frz,AV.under,bW,show AV.ns.flat=true from rfl]
  | ok l r=>
   rw [hd] at e2;simp only [WI] at e2;have hax:=(ah9 hd).1;have hY:SO (s++IZ) src r++axT l=s++(fP.cells [.ns]::fP.cells [.s []]::fP.cells [.i .i64 0]::fP.cells [.i .i64 0]::.map (qm r.pre)::.cells [.sl (aC src),.i .i64 r.at_,ahV r.ah,.mp (s.length+4),.s r.iri,.b r.op,axV (s.length+8) l,.mp (s.length+4+2),.mp (s.length+4+3)]::.map (XF (s.length+4))::.map (Yf (s.length+4))::axT l):=by simp [SO,IZ,rO,hax]
   rw [hY] at e2;generalize SO (s++IZ) src r00=S1 at *;unfold IZ at *;have h5:s.length+4+1=s.length+5:=rfl
   cases l with
   | nil=>
    simp only [axV,axT,h5] at e2;simp -implicitDefEqProofs [xY,rV,zy,Xt,hbl,qi,e1,e2,placeOf,EM,vU,mX,zG,vH,flt,hl,l1,l2,l3,VZ,UJ,WV,Z8,frz,Ah,AV.under,bW,h5,xW,LK,IQ,Fa,show AV.ns.flat=true from rfl]
   | cons x l=>
    simp only [axV,axT,h5] at e2;simp -implicitDefEqProofs [xY,rV,zy,Xt,hbl,qi,e1,e2,placeOf,EM,vU,mX,zG,vH,flt,hl,l1,l2,l3,VZ,UJ,WV,Z8,frz,Ah,AV.under,bW,h5,xW,LK,IQ,Fa,show AV.ns.flat=true from rfl]
end Go.Ai.Z
