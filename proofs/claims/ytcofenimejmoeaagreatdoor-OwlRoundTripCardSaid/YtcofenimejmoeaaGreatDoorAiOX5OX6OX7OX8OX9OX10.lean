/-
 The reader of ontology documents: integers, and what its functions answer.
-/
import Derived.Test.YtcofenimejmoeaaGreatDoorAiOX1OX2OX3OX4
import Derived.Test.YtcofenimejmoeaaGreatDoorAiK8K9K10K11K12
import Derived.Test.YtcofenimejmoeaaGreatDoorAiCircCRefR37R61R62R63K13
set_option maxRecDepth 100000
set_option linter.unusedSimpArgs false
set_option linter.unusedVariables false
set_option linter.unusedSectionVars false
namespace Go.Ai.Z
open Go.Ai
open Go.Lib (atoi decNat decFrom digitVal)
def Ls (b:UInt8):Bool:=decide (48≤(b.toNat:Int)) && decide ((b.toNat:Int)≤57)
def zB (w:Rl):Rl:=(w.drop 1).take (w.length - 2)
def EU (t:Tk):Option Int:=
 if t.1=3 then
  if (trimB 45 (zB t.2.1)).length<1∨18<(trimB 45 (zB t.2.1)).length then none
  else if (trimB 45 (zB t.2.1)).head?=some 48∧zB t.2.1≠[48] then none
  else if (trimB 45 (zB t.2.1)).all Ls=true then atoi (zB t.2.1) else none
 else none
theorem Oz:∀(l:Rl) (acc:Nat),l.all Ls=true→∃n,decFrom acc l=some n
 | [],acc,_=>⟨acc,rfl⟩
 | b::r,acc,h=>by
  rw [List.all_cons,Bool.and_eq_true] at h;obtain ⟨n,hn⟩:=Oz r (acc * 10+(b.toNat - 48)) h.2
  have hd:digitVal b=some (b.toNat - 48):=by
   have h1:=h.1;unfold Ls at h1;rw [Bool.and_eq_true,decide_eq_true_eq,decide_eq_true_eq] at h1;unfold digitVal;rw [if_pos ⟨by omega,by omega⟩]
  refine ⟨n, ?_⟩;simp only [decFrom,hd];exact hn
theorem aeY {s:Rl} (h1:1≤(trimB 45 s).length) (h2:(trimB 45 s).length≤18) (h3:(trimB 45 s).all Ls=true):
  ∃n,atoi s=some n∧(s.length≤18∨(s.length=19∧s.head?=some 45)):=by
 obtain ⟨n,hn⟩:=Oz (trimB 45 s) 0 h3
 have hdn:decNat (trimB 45 s)=some n:=by
  unfold decNat
  cases hh:trimB 45 s with
  | nil=>rw [hh] at h1;simp at h1
  | cons c r=>rw [hh] at hn;simp [hn]
 cases s with
 | nil=>simp [trimB] at h1
 | cons c r=>
  unfold trimB at h2 h3 hdn;simp only at h2 h3 hdn;by_cases q:c=45
  ·subst q;simp at h2 h3 hdn;refine ⟨-(n:Int),by simp [atoi,hdn], ?_⟩;simp only [List.length_cons,List.head?_cons];by_cases z:r.length=18
   ·exact .inr ⟨by omega,trivial⟩
   ·exact .inl (by omega)
  ·rw [if_neg q] at h2 h3 hdn
   have q2:c≠43:=by
    intro hc;subst hc;simp [Ls] at h3
   refine ⟨n, ?_,.inl h2⟩;have b1:(c == 45)=false:=by simpa using q
   have b2:(c == 43)=false:=by simpa using q2
   simp only [atoi,b1,b2,hdn,Option.map_some,Bool.false_eq_true,if_false]
theorem ad8 (w:Rl):(zB w).length=w.length - 2:=by
 unfold zB;rw [List.length_take,List.length_drop];omega
def rem (src:Rl) (r:Rd):Nat:=(src.length - r.at_)+(match r.ah with | []=>0|t::_=>t.2.1.length)
def aG {α:Type} (src:Rl) (r:Rd) (k:Nat) (x:OR α):Prop:=
 match x with
 | .ok _ q=>Wr src q∧rem src q+k≤rem src r∧q.pre=r.pre∧q.iri=r.iri∧q.ax=r.ax
 | .er a c _=>a≤src.length∧c=50
theorem aG.ok {α:Type} {src:Rl} {r q:Rd} {v:α} {k:Nat} {x:OR α} (h:aG src r k x) (e:x=.ok v q):Wr src q∧rem src q+k≤rem src r∧q.pre=r.pre∧q.iri=r.iri∧q.ax=r.ax:=by subst e;exact h
theorem spl {α:Type} {enc:α→AV} {S:Rd→St} {x:OR α} {C:CO} {src:Rl} {r:Rd} {k:Nat} (e:C=tZ enc S x) (g:aG src r k x):
  (∃a c q,x=.er a c q∧C=.pan (flt a c) (S q))∨(∃v q,x=.ok v q∧C=.ret (enc v) (S q)∧Wr src q∧rem src q+k≤rem src r∧q.pre=r.pre∧q.iri=r.iri∧q.ax=r.ax):=by
 cases x with
 | er a c q=>exact .inl ⟨a,c,q,rfl,e⟩
 | ok v q=>exact .inr ⟨v,q,rfl,e,g⟩
theorem aG.mk {α:Type} {src:Rl} {r:Rd} {v:α} (h:Wr src r):aG src r 0 (.ok v r):=⟨h,by omega,rfl,rfl,rfl⟩
theorem aG.bind {α β:Type} {src:Rl} {r:Rd} {k j n:Nat} {x:OR α} {f:α→Rd→OR β} (h:aG src r k x)
  (hf:∀v q,x=.ok v q→Wr src q→rem src q+k≤rem src r→aG src q j (f v q)) (hn:n≤k+j):aG src r n (x.bind f):=by
 cases x with
 | er a c q=>exact h
 | ok v q=>
  obtain ⟨h1,h2,h3,h4,h5⟩:=h;have h6:=hf v q rfl h1 h2;rw [OR.bind_ok];generalize f v q=y at *
  cases y with
  | er a c q2=>exact h6
  | ok w q2=>
   obtain ⟨g1,g2,g3,g4,g5⟩:=h6;exact ⟨g1,by omega,g3.trans h3,g4.trans h4,g5.trans h5⟩
theorem gJ {src:Rl} {r:Rd} (h:Wr src r):aG src r 0 (iH src r):=by
 cases e:iH src r with
 | er a c q=>
  have h1:=Vl h.at_;unfold iH at e
  split at e
  ·cases e
  ·split at e
   ·split at e
    ·cases e;exact ⟨h1,rfl⟩
    ·cases e
   ·cases e
 | ok t q=>
  obtain ⟨p1,p2,p3,p4,p5⟩:=qE e;refine ⟨(oH h e).1, ?_,p2,p3,p5⟩;have h1:=Vl h.at_;have h2:=QI (src.drop (skO src r.at_));rw [List.length_drop] at h2;have h3:r.at_≤skO src r.at_:=by unfold skO;omega
  unfold iH at e
  split at e
  ·cases e;omega
  ·rename_i hh
   split at e
   ·split at e
    ·cases e
    ·cases e;unfold rem;rw [hh];simp only [List.length_take,List.length_drop];omega
   ·cases e;unfold rem;rw [hh];simp only [List.length_nil];omega
theorem afE {src:Rl} {r q:Rd} {t:Tk} (e:iH src r=.ok t q):∃u,q.ah=t::u:=by
 unfold iH at e
 split at e
 ·rename_i u hh;cases e;exact ⟨u,hh⟩
 ·split at e
  ·split at e
   ·cases e
   ·cases e;exact ⟨[],rfl⟩
  ·cases e;exact ⟨[],rfl⟩
theorem Pz {src:Rl} {r q:Rd} {t:Tk} (e:iH src r=.ok t q) (h:Wr src q) (ht:1≤t.2.1.length):Wr src (bY q)∧rem src (bY q)+1≤rem src q∧(bY q).pre=q.pre∧(bY q).iri=q.iri∧(bY q).ax=q.ax:=by
 obtain ⟨u,hu⟩:=afE e;refine ⟨iP h, ?_,rfl,rfl,rfl⟩;unfold rem bY;rw [hu];simp only;omega
theorem je {src:Rl} {r:Rd} (h:Wr src r) (b:Bool):aG src r 0 (rD src b r):=by
 unfold rD;split
 ·exact .mk h
 ·have h1:=gJ h
  cases e:iH src r with
  | er a c q=>rw [e] at h1;exact h1
  | ok t q=>exact ⟨(oH h e).2.at_,rfl⟩
theorem zh {src:Rl} {r q:Rd} {b:Bool} {v:Unit} (e:rD src b r=.ok v q):b=true∧q=r:=by
 cases b with
 | true=>cases e;exact ⟨rfl,rfl⟩
 | false=>
  obtain ⟨a,c,r2,h⟩:=zi src r;rw [h] at e;cases e
theorem mV {src:Rl} {r:Rd} (h:Wr src r) (w:Rl):aG src r 0 (isR src w r):=
 aG.bind (gJ h) (fun _ _ _ h1 _=>aG.mk h1) (by omega)
theorem VR {src:Rl} {r q:Rd} {w:Rl} {b:Bool} (e:isR src w r=.ok b q):∃t,iH src r=.ok t q∧b=decide (t.2.1=w):=by
 unfold isR at e
 cases hp:iH src r with
 | er a c r1=>rw [hp] at e;cases e
 | ok t r1=>rw [hp] at e;cases e;exact ⟨t,rfl,rfl⟩
theorem aF {src:Rl} {r:Rd} (h:Wr src r) (w:Rl) (hw:1≤w.length):aG src r 1 (lI src w r):=by
 unfold lI;refine aG.bind (mV h w) (j:=1) (fun b q e h1 h2=>?_) (by omega);refine aG.bind (je h1 b) (j:=1) (fun v q2 e2 h3 h4=>?_) (by omega);obtain ⟨hb,hq⟩:=zh e2;subst hb;subst hq;obtain ⟨t,e3,e4⟩:=VR e;obtain ⟨p1,_,_,_,_⟩:=qE e3;have e5:=of_decide_eq_true e4.symm;exact Pz p1 h3 (by rw [e5];exact hw)
theorem vZ {src:Rl} {r:Rd} (h:Wr src r) (w p:Rl) (hw:1≤w.length):aG src r 1 (Lj src w p r):=by
 unfold Lj;refine aG.bind (mV h w) (j:=1) (fun b q e h1 h2=>?_) (by omega);refine aG.bind (je h1 _) (j:=1) (fun v q2 e2 h3 h4=>?_) (by omega);obtain ⟨hb,hq⟩:=zh e2;subst hq;rw [Bool.and_eq_true] at hb;obtain ⟨t,e3,e4⟩:=VR e;obtain ⟨p1,_,_,_,_⟩:=qE e3;have e5:=of_decide_eq_true (e4.symm.trans hb.1);exact Pz p1 h3 (by rw [e5];exact hw)
theorem Y7 {pre:List Rl} {t:Tk} (h:QB pre t=true):t.1=4:=by
 unfold QB at h
 split at h
 ·simp at h;exact h.1.1.1.1.1
 ·cases h
theorem bn {src:Rl} {r:Rd} (h:Wr src r):aG src r 1 (nY src r):=by
 unfold nY;refine aG.bind (gJ h) (j:=1) (fun t q e h1 h2=>?_) (by omega);refine aG.bind (je h1 _) (j:=1) (fun v q2 e2 h3 h4=>?_) (by omega);obtain ⟨hb,hq⟩:=zh e2;subst hq;obtain ⟨p1,_,_,_,_⟩:=qE e;exact Pz p1 h3 ((oH h e).2.one (by have:=Y7 hb;omega))
end Go.Ai.Z
namespace Go.Ai.Z
open Go.Ai
def nZ {α:Type} (src:Rl) (f:Rd→OR α) (least:Nat):Nat→List α→Rd→OR (List α)
 | 0,_,r=>.er 0 50 r
 | n+1,l,r=>
  (if l.length<least then .ok false r else isR src [41] r).bind fun b r=>
   if b=true then .ok l r else (f r).bind fun v r=>nZ src f least n (l++[v]) r
def Vb (src w:Rl) (k:Int) (r:Rd):OR C:=(Lj src w [111,119,108,58] r).bind fun _ r=>.ok (C.mk k [] 0 0 true []) r
def ZL (src:Rl) (f:Rd→OR C) (n:Nat) (r:Rd):OR C:=
 (lI src [40] (bY r)).bind fun _ r=>(nZ src f 2 n [] r).bind fun l r=>(lI src [41] r).bind fun _ r=>.ok (C.mk 5 [] 0 0 false l) r
def Qa (src:Rl) (f:Rd→OR C) (r:Rd):OR C:=
 (lI src [40] (bY r)).bind fun _ r=>(nY src r).bind fun s r=>(f r).bind fun c r=>(lI src [41] r).bind fun _ r=>.ok (C.mk 6 s 0 0 false [c]) r
def Y4 (src:Rl) (r:Rd):OR C:=
 (lI src [40] (bY r)).bind fun _ r=>(nY src r).bind fun s r=>(lI src [41] r).bind fun _ r=>.ok (C.mk 4 s 0 0 true []) r
def Zr (other w:Rl):Bool:=(decide (w=wA1) || decide (w=wA4)) && !decide (w=other)
def TA (src other:Rl) (lo hi:Int) (r:Rd):OR (Rl×Int×Int):=
 (iH src r).bind fun t r=>(rD src (Zr other t.2.1) r).bind fun _ r=>(Lj src t.2.1 [120,115,100,58] r).bind fun _ r=>
  (iH src r).bind fun u r=>(rD src (EU u).isSome r).bind fun _ r=>(lI src [94,94] (bY r)).bind fun _ r=>(Lj src wA0 [120,115,100,58] r).bind fun _ r=>
   .ok (t.2.1,if t.2.1=wA1 then (EU u).getD 0 else lo,if t.2.1=wA1 then hi else (EU u).getD 0) r
def Xu:Int:=1099511627776
def ade (src:Rl) (r:Rd):OR (Int×Int):=
 (lI src [40] (bY r)).bind fun _ r=>(Lj src wA0 [120,115,100,58] r).bind fun _ r=>(TA src [] (-Xu) Xu r).bind fun x r=>
  (isR src [41] r).bind fun b r=>(if b=true then .ok x r else TA src x.1 x.2.1 x.2.2 r).bind fun y r=>(lI src [41] r).bind fun _ r=>.ok y.2 r
def RD (src:Rl) (r:Rd):OR C:=
 (lI src [40] (bY r)).bind fun _ r=>(nY src r).bind fun s r=>(isR src wA7 r).bind fun b r=>
  (if b=true then ade src r else (Lj src wA0 [120,115,100,58] r).bind fun _ r=>.ok (-Xu,Xu) r).bind fun x r=>
   (lI src [41] r).bind fun _ r=>.ok (C.mk 7 s x.1 x.2 true []) r
def yw (src:Rl):Nat→Rd→OR C
 | 0,r=>.er 0 50 r
 | n+1,r=>(iH src r).bind fun t r=>
  if t.2.1=wB4 then Vb src wB4 1 r
  else if t.2.1=wB1 then Vb src wB1 2 r
  else if t.2.1=wA5 then ZL src (yw src n) n r
  else if t.2.1=wA6 then Qa src (yw src n) r
  else if t.2.1=wB6 then Y4 src r
  else if t.2.1=wA8 then RD src r
  else (nY src r).bind fun s r=>.ok (C.mk 3 s 0 0 true []) r
def Sn (src:Rl) (r:Rd):Prop:=∃t,iH src r=.ok t r∧1≤t.2.1.length
theorem Sn.pass {src:Rl} {r:Rd} (h:Sn src r) (hw:Wr src r):Wr src (bY r)∧rem src (bY r)+1≤rem src r:=by
 obtain ⟨t,e,h1⟩:=h
 have:=Pz e hw h1
 exact ⟨this.1,this.2.1⟩
theorem qJ {α:Type} {src:Rl} {r:Rd} {k:Nat} {x:OR α} (h:Sn src r) (hw:Wr src r) (hx:aG src (bY r) k x):aG src r (k+1) x:=by
 have h1:=h.pass hw
 cases x with
 | er a c q=>exact hx
 | ok v q=>
  obtain ⟨g1,g2,g3,g4,g5⟩:=hx;exact ⟨g1,by omega,g3,g4,g5⟩
theorem J3 {src:Rl} {r q:Rd} {t:Tk} (e:iH src r=.ok t q) (h:1≤t.2.1.length):Sn src q:=⟨t,(qE e).1,h⟩
theorem Z5 {src:Rl} {r q:Rd} {w:Rl} (e:isR src w r=.ok true q) (h:1≤w.length):Sn src q:=by
 obtain ⟨t,e1,e2⟩:=VR e;exact J3 e1 (by rw [of_decide_eq_true e2.symm];exact h)
theorem xA {α:Type} {src:Rl} {f:Rd→OR α} {least:Nat}:∀(n:Nat) (l:List α) (r:Rd),Wr src r→rem src r<n→(∀q,Wr src q→rem src q≤rem src r→aG src q 1 (f q))→
  aG src r 0 (nZ src f least n l r)
 | 0,l,r,_,hn,_=>absurd hn (by omega)
 | n+1,l,r,hr,hn,hf=>by
  unfold nZ;refine aG.bind (k:=0) (j:=0) ?_ (fun b q e h1 h2=>?_) (by omega)
  ·split
   ·exact .mk hr
   ·exact mV hr _
  split
  ·exact .mk h1
  refine aG.bind (j:=0) (hf q h1 (by omega)) (fun v q2 e2 h3 h4=>?_) (by omega);exact xA n _ q2 h3 (by omega) fun p hp hp2=>hf p hp (by omega)
theorem XO {src:Rl} {r:Rd} (h:Wr src r) (w:Rl) (hw:1≤w.length) (k:Int):aG src r 1 (Vb src w k r):=
 aG.bind (vZ h w _ hw) (fun _ _ _ h1 _=>aG.mk h1) (by omega)
theorem aev {src:Rl} {f:Rd→OR C} {n:Nat} {r:Rd} (h:Wr src r) (hs:Sn src r) (hn:rem src r≤n) (hf:∀q,Wr src q→rem src q<rem src r→aG src q 1 (f q)):aG src r 1 (ZL src f n r):=by
 have h0:=hs.pass h;refine qJ (k:=0) hs h ?_;unfold ZL;refine aG.bind (j:=0) (aF h0.1 _ (by simp)) (fun _ q e h1 h2=>?_) (by omega);refine aG.bind (k:=0) (j:=0) (xA n [] q h1 (by omega) fun p hp hp2=>hf p hp (by omega)) (fun l q2 e h3 h4=>?_) (by omega);exact aG.bind (j:=0) (aF h3 _ (by simp)) (fun _ q e h1 h2=>aG.mk h1) (by omega)
theorem abL {src:Rl} {f:Rd→OR C} {r:Rd} (h:Wr src r) (hs:Sn src r) (hf:∀q,Wr src q→rem src q<rem src r→aG src q 1 (f q)):aG src r 1 (Qa src f r):=by
 have h0:=hs.pass h;refine qJ (k:=0) hs h ?_;unfold Qa;refine aG.bind (j:=0) (aF h0.1 _ (by simp)) (fun _ q e h1 h2=>?_) (by omega);refine aG.bind (j:=0) (bn h1) (fun s q2 e h3 h4=>?_) (by omega);refine aG.bind (j:=0) (hf q2 h3 (by omega)) (fun c q3 e h5 h6=>?_) (by omega);exact aG.bind (j:=0) (aF h5 _ (by simp)) (fun _ q e h1 h2=>aG.mk h1) (by omega)
theorem aef {src:Rl} {r:Rd} (h:Wr src r) (hs:Sn src r):aG src r 1 (Y4 src r):=by
 have h0:=hs.pass h;refine qJ (k:=0) hs h ?_;unfold Y4;refine aG.bind (j:=0) (aF h0.1 _ (by simp)) (fun _ q e h1 h2=>?_) (by omega);refine aG.bind (j:=0) (bn h1) (fun s q2 e h3 h4=>?_) (by omega);exact aG.bind (j:=0) (aF h3 _ (by simp)) (fun _ q e h1 h2=>aG.mk h1) (by omega)
theorem aeC {o w:Rl} (h:Zr o w=true):1≤w.length:=by
 unfold Zr at h;rw [Bool.and_eq_true,Bool.or_eq_true,decide_eq_true_eq,decide_eq_true_eq] at h
 rcases h.1 with h|h<;>rw [h]<;>simp
theorem ad6 {src:Rl} {t:Tk} (ht:afa src t) (h:(EU t).isSome=true):1≤t.2.1.length:=by
 have h3:t.1=3:=by
  unfold EU at h
  split at h
  ·assumption
  ·cases h
 exact ht.one (by omega)
theorem KT {src:Rl} {r:Rd} (h:Wr src r) (o:Rl) (lo hi:Int):aG src r 1 (TA src o lo hi r):=by
 unfold TA;refine aG.bind (k:=0) (j:=1) (gJ h) (fun t q e h1 h2=>?_) (by omega);refine aG.bind (k:=0) (j:=1) (je h1 _) (fun _ q2 e2 h3 h4=>?_) (by omega);obtain ⟨hb,hq⟩:=zh e2;subst hq;refine aG.bind (k:=1) (j:=0) (vZ h3 _ _ (aeC hb)) (fun _ q3 e3 h5 h6=>?_) (by omega);refine aG.bind (k:=0) (j:=0) (gJ h5) (fun u q4 e4 h7 h8=>?_) (by omega);refine aG.bind (k:=0) (j:=0) (je h7 _) (fun _ q5 e5 h9 h10=>?_) (by omega);obtain ⟨hb2,hq2⟩:=zh e5;subst hq2;have hsn:=J3 e4 (ad6 (oH h5 e4).2 hb2);have hp:=hsn.pass h9
 have key:aG src q5 (0+1) ((lI src [94,94] (bY q5)).bind fun _ r=>(Lj src wA0 [120,115,100,58] r).bind fun _ r=>
   .ok (t.2.1,if t.2.1=wA1 then (EU u).getD 0 else lo,if t.2.1=wA1 then hi else (EU u).getD 0) r):=by
  refine qJ hsn h9 ?_;refine aG.bind (k:=1) (j:=0) (aF hp.1 _ (by simp)) (fun _ q6 e6 h11 h12=>?_) (by omega);exact aG.bind (k:=1) (j:=0) (vZ h11 _ _ (by simp)) (fun _ q e h1 h2=>aG.mk h1) (by omega)
 generalize (lI src [94,94] (bY q5)).bind _=y at key ⊢
 cases y with
 | er a c q=>exact key
 | ok v q=>obtain ⟨g1,g2,g3⟩:=key;exact ⟨g1,by omega,g3⟩
theorem aG.wk {α:Type} {src:Rl} {r:Rd} {k j:Nat} {x:OR α} (h:aG src r k x) (hk:j≤k):aG src r j x:=by
 cases x with
 | er a c q=>exact h
 | ok v q=>obtain ⟨g1,g2,g3⟩:=h;exact ⟨g1,by omega,g3⟩
theorem aee {src:Rl} {r:Rd} (h:Wr src r) (hs:Sn src r):aG src r 1 (ade src r):=by
 have h0:=hs.pass h;refine qJ (k:=0) hs h ?_;unfold ade;refine aG.bind (k:=1) (j:=0) (aF h0.1 _ (by simp)) (fun _ q e h1 h2=>?_) (by omega);refine aG.bind (k:=1) (j:=0) (vZ h1 _ _ (by simp)) (fun _ q2 e2 h3 h4=>?_) (by omega);refine aG.bind (k:=1) (j:=0) (KT h3 _ _ _) (fun x q3 e3 h5 h6=>?_) (by omega);refine aG.bind (k:=0) (j:=0) (mV h5 _) (fun b q4 e4 h7 h8=>?_) (by omega);refine aG.bind (k:=0) (j:=0) ?_ (fun y q5 e5 h9 h10=>?_) (by omega)
 ·split
  ·exact .mk h7
  ·exact (KT h7 _ _ _).wk (by omega)
 exact aG.bind (k:=1) (j:=0) (aF h9 _ (by simp)) (fun _ q e h1 h2=>aG.mk h1) (by omega)
theorem ab4 {src:Rl} {r:Rd} (h:Wr src r) (hs:Sn src r):aG src r 1 (RD src r):=by
 have h0:=hs.pass h;refine qJ (k:=0) hs h ?_;unfold RD;refine aG.bind (k:=1) (j:=0) (aF h0.1 _ (by simp)) (fun _ q e h1 h2=>?_) (by omega);refine aG.bind (k:=1) (j:=0) (bn h1) (fun s q2 e2 h3 h4=>?_) (by omega);refine aG.bind (k:=0) (j:=0) (mV h3 _) (fun b q3 e3 h5 h6=>?_) (by omega);refine aG.bind (k:=0) (j:=0) ?_ (fun y q5 e5 h9 h10=>?_) (by omega)
 ·split
  ·rename_i hb;subst hb;exact (aee h5 (Z5 e3 (by simp))).wk (by omega)
  ·exact aG.bind (k:=1) (j:=0) (vZ h5 _ _ (by simp)) (fun _ q e h1 h2=>aG.mk h1) (by omega)
 exact aG.bind (k:=1) (j:=0) (aF h9 _ (by simp)) (fun _ q e h1 h2=>aG.mk h1) (by omega)
theorem mJ {src:Rl}:∀(n:Nat) (r:Rd),Wr src r→rem src r<n→aG src r 1 (yw src n r)
 | 0,r,_,hn=>absurd hn (by omega)
 | n+1,r,hr,hn=>by
  unfold yw;refine aG.bind (k:=0) (j:=1) (gJ hr) (fun t q e h1 h2=>?_) (by omega);have hsn:∀w:Rl,1≤w.length→t.2.1=w→Sn src q:=fun w hw ht=>J3 e (by rw [ht];exact hw);have hf:∀p,Wr src p→rem src p<rem src q→aG src p 1 (yw src n p):=fun p hp hp2=>mJ n p hp (by omega);split
  ·exact XO h1 _ (by simp) _
  split
  ·exact XO h1 _ (by simp) _
  split
  ·rename_i ht;exact aev h1 (hsn _ (by simp) ht) (by omega) hf
  split
  ·rename_i ht;exact abL h1 (hsn _ (by simp) ht) hf
  split
  ·rename_i ht;exact aef h1 (hsn _ (by simp) ht)
  split
  ·rename_i ht;exact ab4 h1 (hsn _ (by simp) ht)
  ·exact aG.bind (k:=1) (j:=0) (bn h1) (fun _ q e h1 h2=>aG.mk h1) (by omega)
end Go.Ai.Z
namespace Go.Ai.Z
open Go.Ai
open Go.Lib (atoi)
theorem PL (b:UInt8):Ls b=true ↔ 48≤(b.toNat:Int)∧(b.toNat:Int)≤57:=by
 unfold Ls;rw [Bool.and_eq_true,decide_eq_true_eq,decide_eq_true_eq]
theorem UE (d w:Rl) (hd:d.length≤100000) (s:St) (cx:Ctx):∀(rest:Rl) (i:Nat),d.drop i=rest→i≤d.length→
  gQ (aB P0.glob (aj P0) cx false mP) [4,39,40,41] [(4,.v (.s w)),(39,.v (.sl (aC d))),(40,.v (.i .i64 d.length)),(41,.v (.i .i64 i))] s=
   if rest.all Ls=true then .exit 0 [(4,.v (.s w)),(39,.v (.sl (aC d))),(40,.v (.i .i64 d.length)),(41,.v (.i .i64 d.length)),(42,.v (.b false))] s
   else .ret [(2,.v (.i .i64 0)),(3,.v (.b false))] s
 | [],i,h,hi=>by
  have h1:¬i<d.length:=Nat.not_lt.2 (drop_nil h);have h2:i=d.length:=by omega
  subst h2;refine ak fun K hK=>?_;simp -implicitDefEqProofs [mP]
 | b::r,i,h,hi=>by
  obtain ⟨h1,h2,h3,h4⟩:=drop_cons h;have hb:i<(aC d).length:=by rw [lg];exact h3
  have hg:=DR d i hb h1;have hg':(aC d)[i]?=some (.i .u8 b.toNat):=by rw [List.getElem?_eq_getElem hb,hg]
  have hwi:=wI (i:=i) (by omega);have h3i:(i:Int)<(d.length:Int):=by omega
  rw [List.all_cons];cases q:Ls b
  ·refine ak fun K hK=>?_;clear hK h4;have q2:¬(48≤(b.toNat:Int)∧(b.toNat:Int)≤57):=fun hh=>by rw [(PL b).2 hh] at q;cases q
   by_cases q3:(b.toNat:Int)<48
   ·simp -implicitDefEqProofs [mP,h3i,hg',hg,hb,q3]
   ·have q4:57<(b.toNat:Int):=by omega
    simp -implicitDefEqProofs [mP,h3i,hg',hg,hb,q3,q4]
  ·obtain ⟨q2,q3⟩:=(PL b).1 q;have q4:¬(b.toNat:Int)<48:=by omega
   have q5:¬57<(b.toNat:Int):=by omega
   have ih:=UE d w hd s cx r (i+1) h2 (by omega);refine ak fun K hK=>?_;rw [←hK,show ((i+1:Nat):Int)=(i:Int)+1 from rfl] at ih;clear hK h4;rw [Bool.true_and,←ih];clear ih;simp -implicitDefEqProofs [mP,h3i,hg',hg,hb,q4,q5,hwi]
theorem WM (b:UInt8) (w:Rl):(trimB b w).length≤w.length:=by
 unfold trimB
 cases w with
 | nil=>simp
 | cons c r=>simp only;split<;>simp
theorem acD (t:Tk) (h2:t.1=3→2≤t.2.1.length) (hl:t.2.1.length≤100000) (s:St) (cx:Ctx):
  aj P0 (.fn (.func wE) [] []) [fC t] s cx=.ret (.tu [.i .i64 ((EU t).getD 0),.b (EU t).isSome]) s:=by
 obtain ⟨k,w,a⟩:=t;refine Rk (by simp) ?_;unfold EU fC;simp only at h2 hl ⊢;by_cases q:k=3
 ·rw [if_pos q];have h3:=h2 q;have hil:=ad8 w;have htl:=WM 45 (zB w);have w1:IntKind.i64.wrap ((w.length:Int) - 1)=(w.length:Int) - 1:=w64 (by omega) (by omega);have e1:=LJ (zB w) 45;have h4:(1:Int)≤(w.length:Int):=by omega
  have h5:((w.length:Int) - 1).toNat=w.length - 1:=by omega
  have h6:w.tail.take (w.length - 1 - 1)=zB w:=by unfold zB;rw [Nat.sub_sub,List.drop_one]
  have h7:1≤w.length - 1:=by omega
  have hloop:=fun s cx=>UE (trimB 45 (zB w)) (zB w) (by omega) s cx (trimB 45 (zB w)) 0 rfl (by omega);rw [show ((0:Nat):Int)=0 from rfl] at hloop;have ha:=aeY (s:=zB w);generalize hd:trimB 45 (zB w)=d at *;generalize zB w=x at *;by_cases q1:d.length<1
  ·rw [if_pos (.inl q1)];have q1i:(d.length:Int)<1:=by omega
   simp -implicitDefEqProofs [af,iK,q,dQ,splice,w1,h4,h5,h6,h7,e1,q1i]
  by_cases q2:18<d.length
  ·rw [if_pos (.inr q2)];have q1i:¬(d.length:Int)<1:=by omega
   have q2i:18<(d.length:Int):=by omega
   simp -implicitDefEqProofs [af,iK,q,dQ,splice,w1,h4,h5,h6,h7,e1,q1i,q2i]
  rw [if_neg (by omega)];have q1i:¬(d.length:Int)<1:=by omega
  have q2i:¬18<(d.length:Int):=by omega
  have q2j:(18:Int)<(d.length:Int) ↔ False:=iff_false_intro q2i
  obtain ⟨c,r,hdc⟩:∃c r,d=c::r:=by
   cases d with
   | nil=>simp at q1
   | cons c r=>exact ⟨c,r,rfl⟩
  have key:∀z:Bool,decide (c=48∧x≠[48])=z→z=true→af P0.glob (aj P0) iK ([]++[.ag [.i .i64 k,.s w,.i .i64 a]]++[]) s cx=.ret (.tu [.i .i64 0,.b false]) s:=by
   intro z hz hz2;rw [hz2,decide_eq_true_eq] at hz;obtain ⟨hc,hx⟩:=hz;subst hc;have hdl:(d.length:Int)=(r.length:Int)+1:=by rw [hdc];simp
   rw [hdl] at q1i q2i;subst hdc;have q3:¬(r.length:Int)+1<1:=by omega
   have q4:¬18<(r.length:Int)+1:=by omega
   simp -implicitDefEqProofs [af,iK,q,dQ,splice,w1,h4,h5,h6,h7,e1,q3,q4,hx]
  by_cases q5:d.head?=some 48∧x≠[48]
  ·rw [if_pos q5];exact key true (by rw [decide_eq_true_eq];rw [hdc] at q5;simpa using q5) rfl
  rw [if_neg q5];have q6:¬(c=48∧x≠[48]):=by rw [hdc] at q5;simpa using q5
  clear key q5;have hcc:(c.toNat:Int)=48 ↔ c=48:=⟨fun hh=>UInt8.toNat_inj.1 (by have:(48:UInt8).toNat=48:=rfl;omega),fun hh=>by subst hh;rfl⟩;have hs2b:(aC d).length=d.length:=lg d;have hl0:=hloop s ⟨s.length,s.length⟩;have hdl:(d.length:Int)=(r.length:Int)+1:=by rw [hdc];simp
  have hall:d.all Ls=true→∃n,atoi x=some n∧(x.length≤18∨(x.length=19∧x.head?=some 45)):=ha (by omega) (by omega)
  have hat:∀n,atoi x=some n→(x.length≤18∨(x.length=19∧x.head?=some 45))→∀(s:St) (cx:Ctx),aj P0 (.fn (.func Bl) [] []) [.s x] s cx=.ret (.tu [.i .i64 n,.ni]) s:=fun n hn hx s cx=>
   sH (h:=Ip XM) rfl (by simp only [Ip,XM,List.nil_append,List.append_nil];rw [if_pos hx,hn];rfl)
  have q3:¬(r.length:Int)+1<1:=by omega
  have q4:¬18<(r.length:Int)+1:=by omega
  by_cases q8:d.all Ls=true
  ·rw [if_pos q8] at hl0 ⊢;obtain ⟨n,hn,hx⟩:=hall q8;have e2:=hat n hn hx;rw [hn];by_cases q7:c=48
   ·have hx48:x=[48]:=Classical.not_not.1 fun hh=>q6 ⟨q7,hh⟩;subst q7;clear hall ha hloop hat;subst hx48;rw [hdc] at hl0 e1 hdl hs2b;simp at hl0 hs2b;simp -implicitDefEqProofs [af,iK,q,dQ,splice,w1,h4,h5,h6,h7,e1,q3,q4,hl0,e2,hs2b,Ti]
   ·have q7i:¬(c.toNat:Int)=48:=fun hh=>q7 (hcc.1 hh);clear hall ha hloop hat;rw [hdc] at hl0 e1 hdl hs2b;simp at hl0 hs2b;simp -implicitDefEqProofs [af,iK,q,dQ,splice,w1,h4,h5,h6,h7,e1,q3,q4,hl0,e2,q7,q7i,hs2b,Ti]
  ·rw [if_neg q8] at hl0 ⊢;by_cases q7:c=48
   ·have hx48:x=[48]:=Classical.not_not.1 fun hh=>q6 ⟨q7,hh⟩;subst q7;clear hall ha hloop hat;subst hx48;rw [hdc] at hl0 e1 hdl hs2b;simp at hl0 hs2b;simp -implicitDefEqProofs [af,iK,q,dQ,splice,w1,h4,h5,h6,h7,e1,q3,q4,hl0,hs2b]
   ·have q7i:¬(c.toNat:Int)=48:=fun hh=>q7 (hcc.1 hh);clear hall ha hloop hat;rw [hdc] at hl0 e1 hdl hs2b;simp at hl0 hs2b;simp -implicitDefEqProofs [af,iK,q,dQ,splice,w1,h4,h5,h6,h7,e1,q3,q4,hl0,q7,q7i,hs2b]
 ·rw [if_neg q];simp -implicitDefEqProofs [af,iK,q,dQ,splice]
end Go.Ai.Z
namespace Go.Ai.Z
open Go.Ai
@[simp] theorem ag1 (t:Tk):(fC t).plain=fC t:=by simp [fC]
abbrev Nv (nm:Rl) (lo hi:Int):fP:=.cells [.i .i64 7,.s nm,.i .i64 lo,.i .i64 hi,.ns]
def agP (S:Rd→St) (nm:Rl) (lo hi:Int) (x:OR (Rl×Int×Int)):CO:=
 match x with
 | .ok v r=>.ret (.s v.1) (S r++[Nv nm v.2.1 v.2.2])
 | .er a c r=>.pan (flt a c) (S r++[Nv nm lo hi])
@[simp] theorem aaS (S:Rd→St) (nm:Rl) (lo hi:Int) (v:Rl×Int×Int) (r:Rd):agP S nm lo hi (.ok v r)=.ret (.s v.1) (S r++[Nv nm v.2.1 v.2.2]):=rfl
@[simp] theorem aaT (S:Rd→St) (nm:Rl) (lo hi:Int) (a:Nat) (c:Int) (r:Rd):agP S nm lo hi (.er a c r)=.pan (flt a c) (S r++[Nv nm lo hi]):=rfl
theorem agO (S:Rd→St) (nm:Rl) (lo hi:Int) (x:OR (Rl×Int×Int)):agP S nm lo hi x≠.fail:=by cases x<;>simp
section
variable {src:Rl} {S:Rd→St} {m N:Nat} (hE:yA src S m N)
include hE
theorem aaK (nm other:Rl) (lo hi:Int) (r:Rd) (ha:Wr src r) (cx:Ctx) (hl:cx.lim≤m):
  aj P0 (.fn (.func lX) [] []) [.pt (m+1) 0,.pt N 0,.s other] (S r++[Nv nm lo hi]) cx=agP S nm lo hi (TA src other lo hi r):=by
 refine Ia (agO _ _ _ _ _) ?_;have hN:=hE.n;have hS:=hE.src;have hlt:=hE.lt;have hE1:=hE.app [Nv nm lo hi];have e1:=oL hE1 r ha.at_ ⟨cx.lim,N+1⟩ hl;have hl2:cx.lim≤N:=by omega
 unfold TA
 cases hp:iH src r with
 | er a c r1=>
  rw [hp] at e1;simp only [dA] at e1;simp -implicitDefEqProofs [af,dh,hN,e1]
 | ok t r1=>
  rw [hp] at e1;obtain ⟨w1,w2⟩:=oH ha hp;obtain ⟨k,w,a⟩:=t;simp only [dD,fC] at e1;simp only [OR.bind_ok];cases qb:Zr other w
  ·have e2:=pY hE1 false r1 w1 ⟨cx.lim,N+1⟩ hl;obtain ⟨a2,c2,r2,hx⟩:=zi src r1;rw [hx] at e2 ⊢;simp only [dA] at e2;unfold Zr at qb;by_cases q1:w=wA1
   ·rw [q1] at e1 qb;simp at qb;rw [←qb];simp -implicitDefEqProofs [af,dh,hN,e1,e2]
   ·by_cases q2:w=wA4
    ·rw [q2] at e1 qb;simp at qb;rw [←qb];simp -implicitDefEqProofs [af,dh,hN,e1,e2]
    ·simp -implicitDefEqProofs [af,dh,hN,e1,e2,q1,q2]
  ·have e2:=pY hE1 true r1 w1 ⟨cx.lim,N+1⟩ hl;rw [pq] at e2 ⊢;simp only [dD] at e2;simp only [OR.bind_ok]
   have hw:(w=wA1∨w=wA4)∧¬w=other:=by
    unfold Zr at qb
    simpa using qb
   obtain ⟨hw,hwo⟩:=hw;have e3:=G8 hE1 w [120,115,100,58] r1 w1 ⟨cx.lim,N+1⟩ hl
   have g3:=vZ w1 w [120,115,100,58] (by rcases hw with hw|hw<;>rw [hw]<;>simp)
   cases h3:Lj src w [120,115,100,58] r1 with
   | er a c r2=>
    rw [h3] at e3;simp only [dA] at e3
    rcases hw with hw|hw<;>rw [hw] at e1 e3 hwo<;>simp -implicitDefEqProofs [af,dh,hN,e1,e2,e3,hwo]
   | ok v3 r3=>
    rw [h3] at e3;have w3:=(g3.ok h3).1;simp only [dD] at e3;simp only [OR.bind_ok];have e4:=oL hE1 r3 w3.at_ ⟨cx.lim,N+1⟩ hl
    cases h4:iH src r3 with
    | er a c r4=>
     rw [h4] at e4;simp only [dA] at e4
     rcases hw with hw|hw<;>rw [hw] at e1 e3 hwo<;>simp -implicitDefEqProofs [af,dh,hN,e1,e2,e3,e4,hwo]
    | ok u r4=>
     rw [h4] at e4;obtain ⟨w4,k4⟩:=oH w3 h4;simp only [dD] at e4;simp only [OR.bind_ok];have e5:=acD u (fun hk=>k4.two (.inr hk)) (by have:=k4.len;omega);have e6:=pY hE1 (EU u).isSome r4 w4 ⟨cx.lim,N+1⟩ hl;have g6:=je w4 (EU u).isSome;generalize (EU u).getD 0=n at *
     cases h6:rD src (EU u).isSome r4 with
     | er a c r5=>
      rw [h6] at e6;simp only [dA] at e6;generalize (EU u).isSome=b at *
      rcases hw with hw|hw<;>rw [hw] at e1 e3 hwo<;>simp -implicitDefEqProofs [af,dh,hN,e1,e2,e3,e4,e5,e6,hwo]
     | ok v5 r5=>
      rw [h6] at e6;have w5:=(g6.ok h6).1;simp only [dD] at e6;simp only [OR.bind_ok];have e7:=lF hE1 r5 ⟨cx.lim,N+1⟩ hl;have w7:=iP w5;have e8:=iD hE1 [94,94] (bY r5) w7 ⟨cx.lim,N+1⟩ hl;have g8:=aF w7 [94,94] (by simp);generalize (EU u).isSome=b at *
      cases h8:lI src [94,94] (bY r5) with
      | er a c r8=>
       rw [h8] at e8;simp only [dA] at e8
       rcases hw with hw|hw<;>rw [hw] at e1 e3 hwo<;>simp -implicitDefEqProofs [af,dh,hN,e1,e2,e3,e4,e5,e6,e7,e8,hwo]
      | ok v8 r8=>
       rw [h8] at e8;have w8:=(g8.ok h8).1;simp only [dD] at e8;simp only [OR.bind_ok];have e9:=G8 hE1 wA0 [120,115,100,58] r8 w8 ⟨cx.lim,N+1⟩ hl
       cases h9:Lj src wA0 [120,115,100,58] r8 with
       | er a c r9=>
        rw [h9] at e9;simp only [dA] at e9
        rcases hw with hw|hw<;>rw [hw] at e1 e3 hwo<;>simp -implicitDefEqProofs [af,dh,hN,e1,e2,e3,e4,e5,e6,e7,e8,e9,hwo]
       | ok v9 r9=>
        rw [h9] at e9;simp only [dD] at e9;have hg:=hE.gN r9 (Nv nm lo hi) [];have hs:=fun y=>hE.sN r9 (Nv nm lo hi) y [];unfold Nv at *
        rcases hw with hw|hw<;>rw [hw] at e1 e3 hwo ⊢<;>simp -implicitDefEqProofs [af,dh,hN,e1,e2,e3,e4,e5,e6,e7,e8,e9,hwo,hg,hs,hl2,Nv]
end
end Go.Ai.Z
namespace Go.Ai.Z
open Go.Ai
def zC:C:=C.mk 0 [] 0 0 true []
def axC (k:Int) (l r:C):Ax:=⟨k,false,l,r,true,[],[],[],[]⟩
def qF (src:Rl):Nat→Rd→OR Unit
 | 0,r=>.er 0 50 r
 | n+1,r=>(isR src wB9 r).bind fun b r=>
  if b=true then
   (lI src [40] (bY r)).bind fun _ r=>(nY src r).bind fun s r=>(iH src r).bind fun t r=>(rD src (decide (t.1=3)) r).bind fun _ r=>(lI src [41] (bY r)).bind fun _ r=>
    qF src n { r with op:=r.op || (decide (s=[111,112,101,110]) && decide (t.2.1=wD2)) }
  else .ok () r
def EL (w:Rl):Bool:=decide (w=[67,108,97,115,115]) || decide (w=wC7) || decide (w=wD0) || decide (w=wC4)
def UY (src:Rl) (r:Rd):OR (List Ax):=
 (iH src r).bind fun t r=>(rD src (EL t.2.1) r).bind fun _ r=>(lI src [40] (bY r)).bind fun _ r=>(nY src r).bind fun _ r=>(lI src [41] r).bind fun _ r=>.ok [] r
def aaZ (src:Rl) (n:Nat) (r:Rd):OR (List Ax):=
 (qF src n r).bind fun _ r=>(yw src n r).bind fun a r=>(yw src n r).bind fun b r=>.ok [axC 1 a b] r
def JJ:List C→List Ax
 | []=>[]
 | [_]=>[]
 | a::b::r=>axC 2 a b::JJ (b::r)
def Ib:List C→List Ax→List Ax
 | [],x=>x
 | a::r,x=>if 1024<x.length then x else Ib r (x++r.map (axC 3 a))
def acj (src:Rl) (n:Nat) (r:Rd):OR (List Ax):=(qF src n r).bind fun _ r=>(nZ src (yw src n) 2 n [] r).bind fun l r=>.ok (JJ l) r
def aco (src:Rl) (n:Nat) (r:Rd):OR (List Ax):=(qF src n r).bind fun _ r=>(nZ src (yw src n) 2 n [] r).bind fun l r=>.ok (Ib l []) r
def ack (src:Rl) (n:Nat) (r:Rd):OR (List Ax):=
 (qF src n r).bind fun _ r=>(nY src r).bind fun s r=>(yw src n r).bind fun c r=>.ok [⟨4,false,zC,c,true,[],s,[],[]⟩] r
def YR (src:Rl) (n:Nat) (r:Rd):OR (List Ax):=
 (qF src n r).bind fun _ r=>(isR src wA2 r).bind fun b r=>
  if b=true then (lI src [40] (bY r)).bind fun _ r=>(nZ src (nY src) 2 n [] r).bind fun l r=>(lI src [41] r).bind fun _ r=>(nY src r).bind fun s r=>.ok [⟨6,false,zC,zC,false,l,s,[],[]⟩] r
  else (nY src r).bind fun a r=>(nY src r).bind fun s r=>.ok [⟨5,false,zC,zC,false,[a],s,[],[]⟩] r
def abj (src:Rl) (n:Nat) (r:Rd):OR (List Ax):=(qF src n r).bind fun _ r=>(nY src r).bind fun s r=>.ok [⟨7,false,zC,zC,true,[],s,[],[]⟩] r
def aaX (src:Rl) (n:Nat) (r:Rd):OR (List Ax):=(qF src n r).bind fun _ r=>(yw src n r).bind fun c r=>(nY src r).bind fun a r=>.ok [⟨8,false,zC,c,true,[],[],a,[]⟩] r
def abA (src:Rl) (n:Nat) (r:Rd):OR (List Ax):=
 (qF src n r).bind fun _ r=>(nY src r).bind fun s r=>(nY src r).bind fun a r=>(nY src r).bind fun b r=>.ok [⟨9,false,zC,zC,true,[],s,a,b⟩] r
def ad3 (w:Rl):Bool:=decide (w=wC9) || decide (w=wC2) || decide (w=wB3) || decide (w=wB5) || decide (w=wB2) || decide (w=wA3) || decide (w=wA9) || decide (w=wB7) || decide (w=wB0)
def ET (src:Rl) (n:Nat) (w:Rl) (r:Rd):OR (List Ax):=
 if w=wC9 then UY src r
 else if w=wC2 then aaZ src n r
 else if w=wB3 then acj src n r
 else if w=wB5 then aco src n r
 else if w=wB2 then ack src n r
 else if w=wA3 then YR src n r
 else if w=wA9 then abj src n r
 else if w=wB7 then aaX src n r
 else abA src n r
def axV (N:Nat) (l:List Ax):AV:=match l with | []=>.ns|x::r=>.st N ((x::r).map cu)
def BH (N a0:Nat):List Ax→List Ax→Rd→OR (List Ax)
 | [],l,r=>.ok l r
 | x::xs,l,r=>if iR { x with op:=r.op }=0 then BH N a0 xs (l++[{ x with op:=r.op }]) { r with ax:=axV N (l++[{ x with op:=r.op }]) } else .er a0 (iR { x with op:=r.op }) r
def FW (src:Rl) (n N:Nat) (l:List Ax) (r:Rd):OR (List Ax):=
 (iH src r).bind fun t r=>(rD src (ad3 t.2.1) r).bind fun _ r=>(lI src [40] (bY r)).bind fun _ r=>(ET src n t.2.1 { r with op:=false }).bind fun xs r=>
  (lI src [41] r).bind fun _ r=>(BH N t.2.2 xs l r).bind fun l r=>if 1024<l.length then .er t.2.2 2 r else .ok l r
def OW (pre:List Rl) (t:Tk):Bool:=
 decide (t.1=4) && decide (Go.Lib.indexByte t.2.1 58=(t.2.1.length:Int) - 1) && (decide (t.2.1=[58]) || (match t.2.1 with | []=>false|c::_=>ltI c.toNat)) && !decide (t.2.1∈pre)
def Ad (w:Rl) (u:Tk):Bool:=
 decide (u.1=2) && (!decide (w=[111,119,108,58]) || decide (u.2.1=wC1)) && (!decide (w=[120,115,100,58]) || decide (u.2.1=wB8))
def NV (src:Rl) (r:Rd):OR Unit:=
 (lI src wC0 r).bind fun _ r=>(lI src [40] r).bind fun _ r=>(iH src r).bind fun t r=>(rD src (OW r.pre t) r).bind fun _ r=>(lI src [61] (bY r)).bind fun _ r=>
  (iH src r).bind fun u r=>(rD src (Ad t.2.1 u) r).bind fun _ r=>(lI src [41] (bY r)).bind fun _ r=>
   .ok () { r with pre:=qO r.pre t.2.1,iri:=if t.2.1=[58] then zB u.2.1 else r.iri }
def EH (src:Rl):Nat→Rd→OR Unit
 | 0,r=>.er 0 50 r
 | n+1,r=>(isR src wC0 r).bind fun b r=>if b=true then (NV src r).bind fun _ r=>EH src n r else .ok () r
def FX (src:Rl):Nat→Rd→OR Unit
 | 0,r=>.ok () r
 | k+1,r=>(iH src r).bind fun t r=>if t.1=2 then FX src k (bY r) else .ok () r
def Iy (src:Rl) (n N:Nat):Nat→List Ax→Rd→OR (List Ax)
 | 0,_,r=>.er 0 50 r
 | k+1,l,r=>(isR src [41] r).bind fun b r=>if b=true then .ok l r else (FW src n N l r).bind fun l r=>Iy src n N k l r
def V8 (src:Rl) (n N:Nat) (r:Rd):OR (List Ax):=
 (EH src n r).bind fun _ r=>(isR src wC3 r).bind fun b r=>(rD src (b && decide ([58]∈r.pre)) r).bind fun _ r=>(lI src [40] (bY r)).bind fun _ r=>
  (FX src 2 r).bind fun _ r=>(Iy src n N n [] r).bind fun l r=>(iH src (bY r)).bind fun t r=>(rD src (decide (t.1=5)) r).bind fun _ r=>.ok l r
end Go.Ai.Z
namespace Go.Ai.Z
open Go.Ai
theorem yR (k:Int) (n:Rl) (l h:Int):AV.ag [.i .i64 k,.s n,.i .i64 l,.i .i64 h,.ns]=aJ (.mk k n l h true []):=by
 rw [xX];rfl
@[simp] theorem akB (S:St) (n:Nat) (c:C):frz S n (aJ c)=some (aJ c):=by simp [frz]
theorem UK (k:Int) (n:Rl) (l h:Int) (c:C) (ps:List C):AV.ag [.i .i64 k,.s n,.i .i64 l,.i .i64 h,.sl (aJ c::ps.map aJ)]=aJ (.mk k n l h false (c::ps)):=by
 rw [xX (.mk k n l h false (c::ps))];rfl
section
variable {src:Rl} {S:Rd→St} {m N:Nat} (hE:yA src S m N)
include hE
theorem akY (r:Rd) (ha:Wr src r) (cx:Ctx) (hl:cx.lim≤m):
  aj P0 (.fn (.func kL) [] []) [.pt (m+1) 0] (S r) cx=tZ aJ S (Vb src wB4 1 r):=by
 refine KZ (jP _ _ _) ?_;have hN:=hE.n;unfold Vb;obtain ⟨a,c,q,hx,e1⟩|⟨v1,r1,h1,e1,g1⟩:=spl (G8 hE wB4 [111,119,108,58] r ha ⟨cx.lim,N⟩ hl) (vZ ha wB4 [111,119,108,58] (by simp))
 ·rw [hx];simp -implicitDefEqProofs [af,o8,hN,e1]
 rw [h1];simp only [OR.bind_ok];have w1:=g1.1;simp -implicitDefEqProofs [af,o8,hN,e1,dQ,splice,yR]
theorem aeS (r:Rd) (ha:Wr src r) (cx:Ctx) (hl:cx.lim≤m):
  aj P0 (.fn (.func iU) [] []) [.pt (m+1) 0] (S r) cx=tZ aJ S (Vb src wB1 2 r):=by
 refine Gi (jP _ _ _) ?_;have hN:=hE.n;unfold Vb;obtain ⟨a,c,q,hx,e1⟩|⟨v1,r1,h1,e1,g1⟩:=spl (G8 hE wB1 [111,119,108,58] r ha ⟨cx.lim,N⟩ hl) (vZ ha wB1 [111,119,108,58] (by simp))
 ·rw [hx];simp -implicitDefEqProofs [af,mG,hN,e1]
 rw [h1];simp only [OR.bind_ok];have w1:=g1.1;simp -implicitDefEqProofs [af,mG,hN,e1,dQ,splice,yR]
theorem acC (r:Rd) (ha:Wr src r) (cx:Ctx) (hl:cx.lim≤m):
  aj P0 (.fn (.func ig) [] []) [.pt (m+1) 0] (S r) cx=tZ aJ S (Y4 src r):=by
 refine EY (jP _ _ _) ?_;have hN:=hE.n;unfold Y4;have e1:=lF hE r ⟨cx.lim,N⟩ hl;have w1:=iP ha;obtain ⟨a,c,q,hx,e2⟩|⟨v2,r2,h2,e2,g2⟩:=spl (iD hE [40] (bY r) w1 ⟨cx.lim,N⟩ hl) (aF w1 [40] (by simp))
 ·rw [hx];simp -implicitDefEqProofs [af,iV,hN,e1,e2]
 rw [h2];simp only [OR.bind_ok];have w2:=g2.1;obtain ⟨a,c,q,hx,e3⟩|⟨s,r3,h3,e3,g3⟩:=spl (qM hE r2 w2 ⟨cx.lim,N⟩ hl) (bn w2)
 ·rw [hx];simp -implicitDefEqProofs [af,iV,hN,e1,e2,e3]
 rw [h3];simp only [OR.bind_ok];have w3:=g3.1;obtain ⟨a,c,q,hx,e4⟩|⟨v4,r4,h4,e4,g4⟩:=spl (iD hE [41] r3 w3 ⟨cx.lim,N⟩ hl) (aF w3 [41] (by simp))
 ·rw [hx];simp -implicitDefEqProofs [af,iV,hN,e1,e2,e3,e4]
 rw [h4];simp only [OR.bind_ok];have w4:=g4.1;simp -implicitDefEqProofs [af,iV,hN,e1,e2,e3,e4,dQ,splice,yR]
theorem aio (r:Rd) (ha:Wr src r) (cx:Ctx) (hl:cx.lim≤m):
  aj P0 (.fn (.func jM) [] []) [.pt (m+1) 0] (S r) cx=tZ aJ S (RD src r):=by
 refine JE (jP _ _ _) ?_;have hN:=hE.n;have hlt:=hE.lt;have hl2:cx.lim≤N:=by omega
 unfold RD ade Xu;have e1:=lF hE r ⟨cx.lim,N⟩ hl;have w1:=iP ha;obtain ⟨a,c,q,hx,e2⟩|⟨v2,r2,h2,e2,g2⟩:=spl (iD hE [40] (bY r) w1 ⟨cx.lim,N⟩ hl) (aF w1 [40] (by simp))
 ·rw [hx];simp -implicitDefEqProofs [af,aS,hN,hl2,hE.gN,hE.sN,hE.tk,dQ,splice,e1,e2]
 rw [h2];simp only [OR.bind_ok];have w2:=g2.1;obtain ⟨a,c,q,hx,e3⟩|⟨s,r3,h3,e3,g3⟩:=spl (qM hE r2 w2 ⟨cx.lim,N⟩ hl) (bn w2)
 ·rw [hx];simp -implicitDefEqProofs [af,aS,hN,hl2,hE.gN,hE.sN,hE.tk,dQ,splice,e1,e2,e3]
 rw [h3];simp only [OR.bind_ok];have w3:=g3.1;have hB:=hE.app [Nv s (-1099511627776) 1099511627776];obtain ⟨a,c,q,hx,e4⟩|⟨b,r4,h4,e4,g4⟩:=spl (JQ hB wA7 r3 w3 ⟨cx.lim,N⟩ hl) (mV w3 wA7)
 ·rw [hx];simp -implicitDefEqProofs [af,aS,hN,hl2,hE.gN,hE.sN,hE.tk,dQ,splice,e1,e2,e3,e4]
 rw [h4];simp only [OR.bind_ok];have w4:=g4.1
 cases b with
 | false=>
  simp only [Bool.false_eq_true,if_false,OR.bind_ok,if_neg];obtain ⟨a,c,q,hx,e5⟩|⟨v5,r5,h5,e5,g5⟩:=spl (G8 hB wA0 [120,115,100,58] r4 w4 ⟨cx.lim,N⟩ hl) (vZ w4 wA0 [120,115,100,58] (by simp))
  ·rw [hx];simp -implicitDefEqProofs [af,aS,hN,hl2,hE.gN,hE.sN,hE.tk,dQ,splice,e1,e2,e3,e4,e5]
  rw [h5];simp only [OR.bind_ok];have w5:=g5.1;obtain ⟨a,c,q,hx,e6⟩|⟨v6,r6,h6,e6,g6⟩:=spl (iD hB [41] r5 w5 ⟨cx.lim,N⟩ hl) (aF w5 [41] (by simp))
  ·rw [hx];simp -implicitDefEqProofs [af,aS,hN,hl2,hE.gN,hE.sN,hE.tk,dQ,splice,e1,e2,e3,e4,e5,e6]
  rw [h6];simp only [OR.bind_ok];have w6:=g6.1;simp -implicitDefEqProofs [af,aS,hN,hl2,hE.gN,hE.sN,hE.tk,dQ,splice,e1,e2,e3,e4,e5,e6,yR]
 | true=>
  simp only [if_true,OR.bind_ok];have e7:=lF hB r4 ⟨cx.lim,N⟩ hl;have w7:=iP w4;obtain ⟨a,c,q,hx,e8⟩|⟨v8,r8,h8,e8,g8⟩:=spl (iD hB [40] (bY r4) w7 ⟨cx.lim,N⟩ hl) (aF w7 [40] (by simp))
  ·rw [hx];simp -implicitDefEqProofs [af,aS,hN,hl2,hE.gN,hE.sN,hE.tk,dQ,splice,e1,e2,e3,e4,e7,e8]
  rw [h8];simp only [OR.bind_ok];have w8:=g8.1;obtain ⟨a,c,q,hx,e9⟩|⟨v9,r9,h9,e9,g9⟩:=spl (G8 hB wA0 [120,115,100,58] r8 w8 ⟨cx.lim,N⟩ hl) (vZ w8 wA0 [120,115,100,58] (by simp))
  ·rw [hx];simp -implicitDefEqProofs [af,aS,hN,hl2,hE.gN,hE.sN,hE.tk,dQ,splice,e1,e2,e3,e4,e7,e8,e9]
  rw [h9];simp only [OR.bind_ok];have w9:=g9.1;have e10:=aaK hE s [] (-1099511627776) (1099511627776) r9 w9 ⟨cx.lim,N⟩ hl;have g10:=KT w9 [] (-1099511627776) (1099511627776)
  cases h10:TA src [] (-1099511627776) (1099511627776) r9 with
  | er a10 c10 r10=>
   rw [h10] at e10;simp only [aaT] at e10;simp -implicitDefEqProofs [af,aS,hN,hl2,hE.gN,hE.sN,hE.tk,dQ,splice,e1,e2,e3,e4,e7,e8,e9,e10]
  | ok x r10=>
   rw [h10] at e10;have w10:=(g10.ok h10).1;simp only [aaS] at e10;simp only [OR.bind_ok];have hB2:=hE.app [Nv s x.2.1 x.2.2];obtain ⟨a,c,q,hx,e11⟩|⟨b2,r11,h11,e11,g11⟩:=spl (JQ hB2 [41] r10 w10 ⟨cx.lim,N⟩ hl) (mV w10 [41])
   ·rw [hx];simp -implicitDefEqProofs [af,aS,hN,hl2,hE.gN,hE.sN,hE.tk,dQ,splice,e1,e2,e3,e4,e7,e8,e9,e10,e11]
   rw [h11];simp only [OR.bind_ok];have w11:=g11.1
   cases b2 with
   | false=>
    simp only [Bool.false_eq_true,if_false,OR.bind_ok,if_neg];have e12:=aaK hE s x.1 (x.2.1) (x.2.2) r11 w11 ⟨cx.lim,N⟩ hl;have g12:=KT w11 x.1 x.2.1 x.2.2
    cases h12:TA src x.1 (x.2.1) (x.2.2) r11 with
    | er a12 c12 r12=>
     rw [h12] at e12;simp only [aaT] at e12;simp -implicitDefEqProofs [af,aS,hN,hl2,hE.gN,hE.sN,hE.tk,dQ,splice,e1,e2,e3,e4,e7,e8,e9,e10,e11,e12]
    | ok y r12=>
     rw [h12] at e12;have w12:=(g12.ok h12).1;simp only [aaS] at e12;simp only [OR.bind_ok];have hB3:=hE.app [Nv s y.2.1 y.2.2];obtain ⟨a,c,q,hx,e13⟩|⟨v13,r13,h13,e13,g13⟩:=spl (iD hB3 [41] r12 w12 ⟨cx.lim,N⟩ hl) (aF w12 [41] (by simp))
     ·rw [hx];simp -implicitDefEqProofs [af,aS,hN,hl2,hE.gN,hE.sN,hE.tk,dQ,splice,e1,e2,e3,e4,e7,e8,e9,e10,e11,e12,e13]
     rw [h13];simp only [OR.bind_ok];have w13:=g13.1;obtain ⟨a,c,q,hx,e14⟩|⟨v14,r14,h14,e14,g14⟩:=spl (iD hB3 [41] r13 w13 ⟨cx.lim,N⟩ hl) (aF w13 [41] (by simp))
     ·rw [hx];simp -implicitDefEqProofs [af,aS,hN,hl2,hE.gN,hE.sN,hE.tk,dQ,splice,e1,e2,e3,e4,e7,e8,e9,e10,e11,e12,e13,e14]
     rw [h14];simp only [OR.bind_ok];have w14:=g14.1;simp -implicitDefEqProofs [af,aS,hN,hl2,hE.gN,hE.sN,hE.tk,dQ,splice,e1,e2,e3,e4,e7,e8,e9,e10,e11,e12,e13,e14,yR]
   | true=>
    simp only [if_true,OR.bind_ok];obtain ⟨a,c,q,hx,e15⟩|⟨v15,r15,h15,e15,g15⟩:=spl (iD hB2 [41] r11 w11 ⟨cx.lim,N⟩ hl) (aF w11 [41] (by simp))
    ·rw [hx];simp -implicitDefEqProofs [af,aS,hN,hl2,hE.gN,hE.sN,hE.tk,dQ,splice,e1,e2,e3,e4,e7,e8,e9,e10,e11,e15]
    rw [h15];simp only [OR.bind_ok];have w15:=g15.1;obtain ⟨a,c,q,hx,e16⟩|⟨v16,r16,h16,e16,g16⟩:=spl (iD hB2 [41] r15 w15 ⟨cx.lim,N⟩ hl) (aF w15 [41] (by simp))
    ·rw [hx];simp -implicitDefEqProofs [af,aS,hN,hl2,hE.gN,hE.sN,hE.tk,dQ,splice,e1,e2,e3,e4,e7,e8,e9,e10,e11,e15,e16]
    rw [h16];simp only [OR.bind_ok];have w16:=g16.1;simp -implicitDefEqProofs [af,aS,hN,hl2,hE.gN,hE.sN,hE.tk,dQ,splice,e1,e2,e3,e4,e7,e8,e9,e10,e11,e15,e16,yR]
end
end Go.Ai.Z
