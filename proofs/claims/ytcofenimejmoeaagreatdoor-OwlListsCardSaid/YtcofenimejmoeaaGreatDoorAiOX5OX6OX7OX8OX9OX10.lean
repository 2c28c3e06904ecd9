/-
 The reader of ontology documents: integers, and what its functions answer.
-/
import Derived.Test.YtcofenimejmoeaaGreatDoorAiOX1OX2OX3OX4
import Derived.Test.YtcofenimejmoeaaGreatDoorAiK8K9K10K11K12
import Derived.Test.YtcofenimejmoeaaGreatDoorAiCircCRefR37R61R62R63K13
set_option maxRecDepth 100000
set_option linter.unusedSimpArgs false
set_option linter.unusedVariables false
set_option linter.unusedSectionVars false
namespace Go.Ai.Z
open Go.Ai
open Go.Lib (atoi decNat decFrom digitVal)
def NJ (b:UInt8):Bool:=decide (48≤(b.toNat:Int)) && decide ((b.toNat:Int)≤57)
def xq (w:Rl):Rl:=(w.drop 1).take (w.length - 2)
def DY (t:Tk):Option Int:=
 if t.1=3 then
  if (trimB 45 (xq t.2.1)).length<1∨18<(trimB 45 (xq t.2.1)).length then none
  else if (trimB 45 (xq t.2.1)).head?=some 48∧xq t.2.1≠[48] then none
  else if (trimB 45 (xq t.2.1)).all NJ=true then atoi (xq t.2.1) else none
 else none
theorem JV:∀(l:Rl) (acc:Nat),l.all NJ=true→∃n,decFrom acc l=some n
 | [],acc,_=>⟨acc,rfl⟩
 | b::r,acc,h=>by
  rw [List.all_cons,Bool.and_eq_true] at h;obtain ⟨n,hn⟩:=JV r (acc * 10+(b.toNat - 48)) h.2
  have hd:digitVal b=some (b.toNat - 48):=by
   have h1:=h.1;unfold NJ at h1;rw [Bool.and_eq_true,decide_eq_true_eq,decide_eq_true_eq] at h1;unfold digitVal;rw [if_pos ⟨by omega,by omega⟩]
  refine ⟨n, ?_⟩;simp only [decFrom,hd];exact hn
theorem aaj {s:Rl} (h1:1≤(trimB 45 s).length) (h2:(trimB 45 s).length≤18) (h3:(trimB 45 s).all NJ=true):
  ∃n,atoi s=some n∧(s.length≤18∨(s.length=19∧s.head?=some 45)):=by
 obtain ⟨n,hn⟩:=JV (trimB 45 s) 0 h3
 have hdn:decNat (trimB 45 s)=some n:=by
  unfold decNat
  cases hh:trimB 45 s with
  | nil=>rw [hh] at h1;simp at h1
  | cons c r=>rw [hh] at hn;simp [hn]
 cases s with
 | nil=>simp [trimB] at h1
 | cons c r=>
  unfold trimB at h2 h3 hdn;simp only at h2 h3 hdn;by_cases q:c=45
  ·subst q;simp at h2 h3 hdn;refine ⟨-(n:Int),by simp [atoi,hdn], ?_⟩;simp only [List.length_cons,List.head?_cons];by_cases z:r.length=18
   ·exact .inr ⟨by omega,trivial⟩
   ·exact .inl (by omega)
  ·rw [if_neg q] at h2 h3 hdn
   have q2:c≠43:=by
    intro hc;subst hc;simp [NJ] at h3
   refine ⟨n, ?_,.inl h2⟩;have b1:(c == 45)=false:=by simpa using q
   have b2:(c == 43)=false:=by simpa using q2
   simp only [atoi,b1,b2,hdn,Option.map_some,Bool.false_eq_true,if_false]
theorem Zr (w:Rl):(xq w).length=w.length - 2:=by
 unfold xq;rw [List.length_take,List.length_drop];omega
def rem (src:Rl) (r:Rd):Nat:=(src.length - r.at_)+(match r.ah with | []=>0|t::_=>t.2.1.length)
def aG {α:Type} (src:Rl) (r:Rd) (k:Nat) (x:OR α):Prop:=
 match x with
 | .ok _ q=>Wr src q∧rem src q+k≤rem src r∧q.pre=r.pre∧q.iri=r.iri∧q.ax=r.ax
 | .er a c _=>a≤src.length∧c=50
theorem aG.ok {α:Type} {src:Rl} {r q:Rd} {v:α} {k:Nat} {x:OR α} (h:aG src r k x) (e:x=.ok v q):Wr src q∧rem src q+k≤rem src r∧q.pre=r.pre∧q.iri=r.iri∧q.ax=r.ax:=by subst e;exact h
theorem spl {α:Type} {enc:α→AV} {S:Rd→St} {x:OR α} {C:CO} {src:Rl} {r:Rd} {k:Nat} (e:C=qy enc S x) (g:aG src r k x):
  (∃a c q,x=.er a c q∧C=.pan (flt a c) (S q))∨(∃v q,x=.ok v q∧C=.ret (enc v) (S q)∧Wr src q∧rem src q+k≤rem src r∧q.pre=r.pre∧q.iri=r.iri∧q.ax=r.ax):=by
 cases x with
 | er a c q=>exact .inl ⟨a,c,q,rfl,e⟩
 | ok v q=>exact .inr ⟨v,q,rfl,e,g⟩
theorem aG.mk {α:Type} {src:Rl} {r:Rd} {v:α} (h:Wr src r):aG src r 0 (.ok v r):=⟨h,by omega,rfl,rfl,rfl⟩
theorem aG.bind {α β:Type} {src:Rl} {r:Rd} {k j n:Nat} {x:OR α} {f:α→Rd→OR β} (h:aG src r k x)
  (hf:∀v q,x=.ok v q→Wr src q→rem src q+k≤rem src r→aG src q j (f v q)) (hn:n≤k+j):aG src r n (x.bind f):=by
 cases x with
 | er a c q=>exact h
 | ok v q=>
  obtain ⟨h1,h2,h3,h4,h5⟩:=h;have h6:=hf v q rfl h1 h2;rw [OR.bind_ok];generalize f v q=y at *
  cases y with
  | er a c q2=>exact h6
  | ok w q2=>
   obtain ⟨g1,g2,g3,g4,g5⟩:=h6;exact ⟨g1,by omega,g3.trans h3,g4.trans h4,g5.trans h5⟩
theorem fA {src:Rl} {r:Rd} (h:Wr src r):aG src r 0 (fP src r):=by
 cases e:fP src r with
 | er a c q=>
  have h1:=Qe h.at_;unfold fP at e
  split at e
  ·cases e
  ·split at e
   ·split at e
    ·cases e;exact ⟨h1,rfl⟩
    ·cases e
   ·cases e
 | ok t q=>
  obtain ⟨p1,p2,p3,p4,p5⟩:=nR e;refine ⟨(lU h e).1, ?_,p2,p3,p5⟩;have h1:=Qe h.at_;have h2:=MO (src.drop (skO src r.at_));rw [List.length_drop] at h2;have h3:r.at_≤skO src r.at_:=by unfold skO;omega
  unfold fP at e
  split at e
  ·cases e;omega
  ·rename_i hh
   split at e
   ·split at e
    ·cases e
    ·cases e;unfold rem;rw [hh];simp only [List.length_take,List.length_drop];omega
   ·cases e;unfold rem;rw [hh];simp only [List.length_nil];omega
theorem aaI {src:Rl} {r q:Rd} {t:Tk} (e:fP src r=.ok t q):∃u,q.ah=t::u:=by
 unfold fP at e
 split at e
 ·rename_i u hh;cases e;exact ⟨u,hh⟩
 ·split at e
  ·split at e
   ·cases e
   ·cases e;exact ⟨[],rfl⟩
  ·cases e;exact ⟨[],rfl⟩
theorem KY {src:Rl} {r q:Rd} {t:Tk} (e:fP src r=.ok t q) (h:Wr src q) (ht:1≤t.2.1.length):Wr src (bP q)∧rem src (bP q)+1≤rem src q∧(bP q).pre=q.pre∧(bP q).iri=q.iri∧(bP q).ax=q.ax:=by
 obtain ⟨u,hu⟩:=aaI e;refine ⟨gq h, ?_,rfl,rfl,rfl⟩;unfold rem bP;rw [hu];simp only;omega
theorem gK {src:Rl} {r:Rd} (h:Wr src r) (b:Bool):aG src r 0 (oN src b r):=by
 unfold oN;split
 ·exact .mk h
 ·have h1:=fA h
  cases e:fP src r with
  | er a c q=>rw [e] at h1;exact h1
  | ok t q=>exact ⟨(lU h e).2.at_,rfl⟩
theorem wo {src:Rl} {r q:Rd} {b:Bool} {v:Unit} (e:oN src b r=.ok v q):b=true∧q=r:=by
 cases b with
 | true=>cases e;exact ⟨rfl,rfl⟩
 | false=>
  obtain ⟨a,c,r2,h⟩:=wu src r;rw [h] at e;cases e
theorem kQ {src:Rl} {r:Rd} (h:Wr src r) (w:Rl):aG src r 0 (isR src w r):=
 aG.bind (fA h) (fun _ _ _ h1 _=>aG.mk h1) (by omega)
theorem QD {src:Rl} {r q:Rd} {w:Rl} {b:Bool} (e:isR src w r=.ok b q):∃t,fP src r=.ok t q∧b=decide (t.2.1=w):=by
 unfold isR at e
 cases hp:fP src r with
 | er a c r1=>rw [hp] at e;cases e
 | ok t r1=>rw [hp] at e;cases e;exact ⟨t,rfl,rfl⟩
theorem aC {src:Rl} {r:Rd} (h:Wr src r) (w:Rl) (hw:1≤w.length):aG src r 1 (jP src w r):=by
 unfold jP;refine aG.bind (kQ h w) (j:=1) (fun b q e h1 h2=>?_) (by omega);refine aG.bind (gK h1 b) (j:=1) (fun v q2 e2 h3 h4=>?_) (by omega);obtain ⟨hb,hq⟩:=wo e2;subst hb;subst hq;obtain ⟨t,e3,e4⟩:=QD e;obtain ⟨p1,_,_,_,_⟩:=nR e3;have e5:=of_decide_eq_true e4.symm;exact KY p1 h3 (by rw [e5];exact hw)
theorem su {src:Rl} {r:Rd} (h:Wr src r) (w p:Rl) (hw:1≤w.length):aG src r 1 (KN src w p r):=by
 unfold KN;refine aG.bind (kQ h w) (j:=1) (fun b q e h1 h2=>?_) (by omega);refine aG.bind (gK h1 _) (j:=1) (fun v q2 e2 h3 h4=>?_) (by omega);obtain ⟨hb,hq⟩:=wo e2;subst hq;rw [Bool.and_eq_true] at hb;obtain ⟨t,e3,e4⟩:=QD e;obtain ⟨p1,_,_,_,_⟩:=nR e3;have e5:=of_decide_eq_true (e4.symm.trans hb.1);exact KY p1 h3 (by rw [e5];exact hw)
theorem UW {pre:List Rl} {t:Tk} (h:MJ pre t=true):t.1=4:=by
 unfold MJ at h
 split at h
 ·simp at h;exact h.1.1.1.1.1
 ·cases h
theorem bf {src:Rl} {r:Rd} (h:Wr src r):aG src r 1 (mr src r):=by
 unfold mr;refine aG.bind (fA h) (j:=1) (fun t q e h1 h2=>?_) (by omega);refine aG.bind (gK h1 _) (j:=1) (fun v q2 e2 h3 h4=>?_) (by omega);obtain ⟨hb,hq⟩:=wo e2;subst hq;obtain ⟨p1,_,_,_,_⟩:=nR e;exact KY p1 h3 ((lU h e).2.one (by have:=UW hb;omega))
end Go.Ai.Z
namespace Go.Ai.Z
open Go.Ai
def lD {α:Type} (src:Rl) (f:Rd→OR α) (least:Nat):Nat→List α→Rd→OR (List α)
 | 0,_,r=>.er 0 50 r
 | n+1,l,r=>
  (if l.length<least then .ok false r else isR src [41] r).bind fun b r=>
   if b=true then .ok l r else (f r).bind fun v r=>lD src f least n (l++[v]) r
def UB (src w:Rl) (k:Int) (r:Rd):OR C:=(KN src w [111,119,108,58] r).bind fun _ r=>.ok (C.mk k [] 0 0 true []) r
def Yn (src:Rl) (f:Rd→OR C) (n:Nat) (r:Rd):OR C:=
 (jP src [40] (bP r)).bind fun _ r=>(lD src f 2 n [] r).bind fun l r=>(jP src [41] r).bind fun _ r=>.ok (C.mk 5 [] 0 0 false l) r
def OY (src:Rl) (f:Rd→OR C) (r:Rd):OR C:=
 (jP src [40] (bP r)).bind fun _ r=>(mr src r).bind fun s r=>(f r).bind fun c r=>(jP src [41] r).bind fun _ r=>.ok (C.mk 6 s 0 0 false [c]) r
def Xl (src:Rl) (r:Rd):OR C:=
 (jP src [40] (bP r)).bind fun _ r=>(mr src r).bind fun s r=>(jP src [41] r).bind fun _ r=>.ok (C.mk 4 s 0 0 true []) r
def X8 (other w:Rl):Bool:=(decide (w=wA4) || decide (w=wB9)) && !decide (w=other)
def TL (src other:Rl) (lo hi:Int) (r:Rd):OR (Rl×Int×Int):=
 (fP src r).bind fun t r=>(oN src (X8 other t.2.1) r).bind fun _ r=>(KN src t.2.1 [120,115,100,58] r).bind fun _ r=>
  (fP src r).bind fun u r=>(oN src (DY u).isSome r).bind fun _ r=>(jP src [94,94] (bP r)).bind fun _ r=>(KN src wA3 [120,115,100,58] r).bind fun _ r=>
   .ok (t.2.1,if t.2.1=wA4 then (DY u).getD 0 else lo,if t.2.1=wA4 then hi else (DY u).getD 0) r
def Za:Int:=1099511627776
def aaH (src:Rl) (r:Rd):OR (Int×Int):=
 (jP src [40] (bP r)).bind fun _ r=>(KN src wA3 [120,115,100,58] r).bind fun _ r=>(TL src [] (-Za) Za r).bind fun x r=>
  (isR src [41] r).bind fun b r=>(if b=true then .ok x r else TL src x.1 x.2.1 x.2.2 r).bind fun y r=>(jP src [41] r).bind fun _ r=>.ok y.2 r
def PV (src:Rl) (r:Rd):OR C:=
 (jP src [40] (bP r)).bind fun _ r=>(mr src r).bind fun s r=>(isR src wB1 r).bind fun b r=>
  (if b=true then aaH src r else (KN src wA3 [120,115,100,58] r).bind fun _ r=>.ok (-Za,Za) r).bind fun x r=>
   (jP src [41] r).bind fun _ r=>.ok (C.mk 7 s x.1 x.2 true []) r
def vS (src:Rl):Nat→Rd→OR C
 | 0,r=>.er 0 50 r
 | n+1,r=>(fP src r).bind fun t r=>
  if t.2.1=wA8 then UB src wA8 1 r
  else if t.2.1=wA7 then UB src wA7 2 r
  else if t.2.1=wA0 then Yn src (vS src n) n r
  else if t.2.1=wA1 then OY src (vS src n) r
  else if t.2.1=wB8 then Xl src r
  else if t.2.1=wA5 then PV src r
  else (mr src r).bind fun s r=>.ok (C.mk 3 s 0 0 true []) r
def Sn (src:Rl) (r:Rd):Prop:=∃t,fP src r=.ok t r∧1≤t.2.1.length
theorem Sn.pass {src:Rl} {r:Rd} (h:Sn src r) (hw:Wr src r):Wr src (bP r)∧rem src (bP r)+1≤rem src r:=by
 obtain ⟨t,e,h1⟩:=h
 have:=KY e hw h1
 exact ⟨this.1,this.2.1⟩
theorem nY {α:Type} {src:Rl} {r:Rd} {k:Nat} {x:OR α} (h:Sn src r) (hw:Wr src r) (hx:aG src (bP r) k x):aG src r (k+1) x:=by
 have h1:=h.pass hw
 cases x with
 | er a c q=>exact hx
 | ok v q=>
  obtain ⟨g1,g2,g3,g4,g5⟩:=hx;exact ⟨g1,by omega,g3,g4,g5⟩
theorem F8 {src:Rl} {r q:Rd} {t:Tk} (e:fP src r=.ok t q) (h:1≤t.2.1.length):Sn src q:=⟨t,(nR e).1,h⟩
theorem VJ {src:Rl} {r q:Rd} {w:Rl} (e:isR src w r=.ok true q) (h:1≤w.length):Sn src q:=by
 obtain ⟨t,e1,e2⟩:=QD e;exact F8 e1 (by rw [of_decide_eq_true e2.symm];exact h)
theorem uf {α:Type} {src:Rl} {f:Rd→OR α} {least:Nat}:∀(n:Nat) (l:List α) (r:Rd),Wr src r→rem src r<n→(∀q,Wr src q→rem src q≤rem src r→aG src q 1 (f q))→
  aG src r 0 (lD src f least n l r)
 | 0,l,r,_,hn,_=>absurd hn (by omega)
 | n+1,l,r,hr,hn,hf=>by
  unfold lD;refine aG.bind (k:=0) (j:=0) ?_ (fun b q e h1 h2=>?_) (by omega)
  ·split
   ·exact .mk hr
   ·exact kQ hr _
  split
  ·exact .mk h1
  refine aG.bind (j:=0) (hf q h1 (by omega)) (fun v q2 e2 h3 h4=>?_) (by omega);exact uf n _ q2 h3 (by omega) fun p hp hp2=>hf p hp (by omega)
theorem Tt {src:Rl} {r:Rd} (h:Wr src r) (w:Rl) (hw:1≤w.length) (k:Int):aG src r 1 (UB src w k r):=
 aG.bind (su h w _ hw) (fun _ _ _ h1 _=>aG.mk h1) (by omega)
theorem ZQ {src:Rl} {f:Rd→OR C} {n:Nat} {r:Rd} (h:Wr src r) (hs:Sn src r) (hn:rem src r≤n) (hf:∀q,Wr src q→rem src q<rem src r→aG src q 1 (f q)):aG src r 1 (Yn src f n r):=by
 have h0:=hs.pass h;refine nY (k:=0) hs h ?_;unfold Yn;refine aG.bind (j:=0) (aC h0.1 _ (by simp)) (fun _ q e h1 h2=>?_) (by omega);refine aG.bind (k:=0) (j:=0) (uf n [] q h1 (by omega) fun p hp hp2=>hf p hp (by omega)) (fun l q2 e h3 h4=>?_) (by omega);exact aG.bind (j:=0) (aC h3 _ (by simp)) (fun _ q e h1 h2=>aG.mk h1) (by omega)
theorem Xz {src:Rl} {f:Rd→OR C} {r:Rd} (h:Wr src r) (hs:Sn src r) (hf:∀q,Wr src q→rem src q<rem src r→aG src q 1 (f q)):aG src r 1 (OY src f r):=by
 have h0:=hs.pass h;refine nY (k:=0) hs h ?_;unfold OY;refine aG.bind (j:=0) (aC h0.1 _ (by simp)) (fun _ q e h1 h2=>?_) (by omega);refine aG.bind (j:=0) (bf h1) (fun s q2 e h3 h4=>?_) (by omega);refine aG.bind (j:=0) (hf q2 h3 (by omega)) (fun c q3 e h5 h6=>?_) (by omega);exact aG.bind (j:=0) (aC h5 _ (by simp)) (fun _ q e h1 h2=>aG.mk h1) (by omega)
theorem ZB {src:Rl} {r:Rd} (h:Wr src r) (hs:Sn src r):aG src r 1 (Xl src r):=by
 have h0:=hs.pass h;refine nY (k:=0) hs h ?_;unfold Xl;refine aG.bind (j:=0) (aC h0.1 _ (by simp)) (fun _ q e h1 h2=>?_) (by omega);refine aG.bind (j:=0) (bf h1) (fun s q2 e h3 h4=>?_) (by omega);exact aG.bind (j:=0) (aC h3 _ (by simp)) (fun _ q e h1 h2=>aG.mk h1) (by omega)
theorem ZX {o w:Rl} (h:X8 o w=true):1≤w.length:=by
 unfold X8 at h;rw [Bool.and_eq_true,Bool.or_eq_true,decide_eq_true_eq,decide_eq_true_eq] at h
 rcases h.1 with h|h<;>rw [h]<;>simp
theorem Zq {src:Rl} {t:Tk} (ht:aau src t) (h:(DY t).isSome=true):1≤t.2.1.length:=by
 have h3:t.1=3:=by
  unfold DY at h
  split at h
  ·assumption
  ·cases h
 exact ht.one (by omega)
theorem G7 {src:Rl} {r:Rd} (h:Wr src r) (o:Rl) (lo hi:Int):aG src r 1 (TL src o lo hi r):=by
 unfold TL;refine aG.bind (k:=0) (j:=1) (fA h) (fun t q e h1 h2=>?_) (by omega);refine aG.bind (k:=0) (j:=1) (gK h1 _) (fun _ q2 e2 h3 h4=>?_) (by omega);obtain ⟨hb,hq⟩:=wo e2;subst hq;refine aG.bind (k:=1) (j:=0) (su h3 _ _ (ZX hb)) (fun _ q3 e3 h5 h6=>?_) (by omega);refine aG.bind (k:=0) (j:=0) (fA h5) (fun u q4 e4 h7 h8=>?_) (by omega);refine aG.bind (k:=0) (j:=0) (gK h7 _) (fun _ q5 e5 h9 h10=>?_) (by omega);obtain ⟨hb2,hq2⟩:=wo e5;subst hq2;have hsn:=F8 e4 (Zq (lU h5 e4).2 hb2);have hp:=hsn.pass h9
 have key:aG src q5 (0+1) ((jP src [94,94] (bP q5)).bind fun _ r=>(KN src wA3 [120,115,100,58] r).bind fun _ r=>
   .ok (t.2.1,if t.2.1=wA4 then (DY u).getD 0 else lo,if t.2.1=wA4 then hi else (DY u).getD 0) r):=by
  refine nY hsn h9 ?_;refine aG.bind (k:=1) (j:=0) (aC hp.1 _ (by simp)) (fun _ q6 e6 h11 h12=>?_) (by omega);exact aG.bind (k:=1) (j:=0) (su h11 _ _ (by simp)) (fun _ q e h1 h2=>aG.mk h1) (by omega)
 generalize (jP src [94,94] (bP q5)).bind _=y at key ⊢
 cases y with
 | er a c q=>exact key
 | ok v q=>obtain ⟨g1,g2,g3⟩:=key;exact ⟨g1,by omega,g3⟩
theorem aG.wk {α:Type} {src:Rl} {r:Rd} {k j:Nat} {x:OR α} (h:aG src r k x) (hk:j≤k):aG src r j x:=by
 cases x with
 | er a c q=>exact h
 | ok v q=>obtain ⟨g1,g2,g3⟩:=h;exact ⟨g1,by omega,g3⟩
theorem ZA {src:Rl} {r:Rd} (h:Wr src r) (hs:Sn src r):aG src r 1 (aaH src r):=by
 have h0:=hs.pass h;refine nY (k:=0) hs h ?_;unfold aaH;refine aG.bind (k:=1) (j:=0) (aC h0.1 _ (by simp)) (fun _ q e h1 h2=>?_) (by omega);refine aG.bind (k:=1) (j:=0) (su h1 _ _ (by simp)) (fun _ q2 e2 h3 h4=>?_) (by omega);refine aG.bind (k:=1) (j:=0) (G7 h3 _ _ _) (fun x q3 e3 h5 h6=>?_) (by omega);refine aG.bind (k:=0) (j:=0) (kQ h5 _) (fun b q4 e4 h7 h8=>?_) (by omega);refine aG.bind (k:=0) (j:=0) ?_ (fun y q5 e5 h9 h10=>?_) (by omega)
 ·split
  ·exact .mk h7
  ·exact (G7 h7 _ _ _).wk (by omega)
 exact aG.bind (k:=1) (j:=0) (aC h9 _ (by simp)) (fun _ q e h1 h2=>aG.mk h1) (by omega)
theorem XT {src:Rl} {r:Rd} (h:Wr src r) (hs:Sn src r):aG src r 1 (PV src r):=by
 have h0:=hs.pass h;refine nY (k:=0) hs h ?_;unfold PV;refine aG.bind (k:=1) (j:=0) (aC h0.1 _ (by simp)) (fun _ q e h1 h2=>?_) (by omega);refine aG.bind (k:=1) (j:=0) (bf h1) (fun s q2 e2 h3 h4=>?_) (by omega);refine aG.bind (k:=0) (j:=0) (kQ h3 _) (fun b q3 e3 h5 h6=>?_) (by omega);refine aG.bind (k:=0) (j:=0) ?_ (fun y q5 e5 h9 h10=>?_) (by omega)
 ·split
  ·rename_i hb;subst hb;exact (ZA h5 (VJ e3 (by simp))).wk (by omega)
  ·exact aG.bind (k:=1) (j:=0) (su h5 _ _ (by simp)) (fun _ q e h1 h2=>aG.mk h1) (by omega)
 exact aG.bind (k:=1) (j:=0) (aC h9 _ (by simp)) (fun _ q e h1 h2=>aG.mk h1) (by omega)
theorem kJ {src:Rl}:∀(n:Nat) (r:Rd),Wr src r→rem src r<n→aG src r 1 (vS src n r)
 | 0,r,_,hn=>absurd hn (by omega)
 | n+1,r,hr,hn=>by
  unfold vS;refine aG.bind (k:=0) (j:=1) (fA hr) (fun t q e h1 h2=>?_) (by omega);have hsn:∀w:Rl,1≤w.length→t.2.1=w→Sn src q:=fun w hw ht=>F8 e (by rw [ht];exact hw);have hf:∀p,Wr src p→rem src p<rem src q→aG src p 1 (vS src n p):=fun p hp hp2=>kJ n p hp (by omega);split
  ·exact Tt h1 _ (by simp) _
  split
  ·exact Tt h1 _ (by simp) _
  split
  ·rename_i ht;exact ZQ h1 (hsn _ (by simp) ht) (by omega) hf
  split
  ·rename_i ht;exact Xz h1 (hsn _ (by simp) ht) hf
  split
  ·rename_i ht;exact ZB h1 (hsn _ (by simp) ht)
  split
  ·rename_i ht;exact XT h1 (hsn _ (by simp) ht)
  ·exact aG.bind (k:=1) (j:=0) (bf h1) (fun _ q e h1 h2=>aG.mk h1) (by omega)
end Go.Ai.Z
namespace Go.Ai.Z
open Go.Ai
open Go.Lib (atoi)
theorem Wv (b:UInt8):NJ b=true ↔ 48≤(b.toNat:Int)∧(b.toNat:Int)≤57:=by
 unfold NJ;rw [Bool.and_eq_true,decide_eq_true_eq,decide_eq_true_eq]
theorem Pq (d w:Rl) (hd:d.length≤100000) (s:St) (cx:Ctx):∀(rest:Rl) (i:Nat),d.drop i=rest→i≤d.length→
  jw (aA P0.glob (aj P0) cx false kP) [4,39,40,41] [(4,.v (.s w)),(39,.v (.sl (aF d))),(40,.v (.i .i64 d.length)),(41,.v (.i .i64 i))] s=
   if rest.all NJ=true then .exit 0 [(4,.v (.s w)),(39,.v (.sl (aF d))),(40,.v (.i .i64 d.length)),(41,.v (.i .i64 d.length)),(42,.v (.b false))] s
   else .ret [(2,.v (.i .i64 0)),(3,.v (.b false))] s
 | [],i,h,hi=>by
  have h1:¬i<d.length:=Nat.not_lt.2 (drop_nil h);have h2:i=d.length:=by omega
  subst h2;refine ay fun K hK=>?_;simp -implicitDefEqProofs [kP]
 | b::r,i,h,hi=>by
  obtain ⟨h1,h2,h3,h4⟩:=drop_cons h;have hb:i<(aF d).length:=by rw [kR];exact h3
  have hg:=zN d i hb h1;have hg':(aF d)[i]?=some (.i .u8 b.toNat):=by rw [List.getElem?_eq_getElem hb,hg]
  have hwi:=wI (i:=i) (by omega);have h3i:(i:Int)<(d.length:Int):=by omega
  rw [List.all_cons];cases q:NJ b
  ·refine ay fun K hK=>?_;clear hK h4;have q2:¬(48≤(b.toNat:Int)∧(b.toNat:Int)≤57):=fun hh=>by rw [(Wv b).2 hh] at q;cases q
   by_cases q3:(b.toNat:Int)<48
   ·simp -implicitDefEqProofs [kP,h3i,hg',hg,hb,q3]
   ·have q4:57<(b.toNat:Int):=by omega
    simp -implicitDefEqProofs [kP,h3i,hg',hg,hb,q3,q4]
  ·obtain ⟨q2,q3⟩:=(Wv b).1 q;have q4:¬(b.toNat:Int)<48:=by omega
   have q5:¬57<(b.toNat:Int):=by omega
   have ih:=Pq d w hd s cx r (i+1) h2 (by omega);refine ay fun K hK=>?_;rw [←hK,show ((i+1:Nat):Int)=(i:Int)+1 from rfl] at ih;clear hK h4;rw [Bool.true_and,←ih];clear ih;simp -implicitDefEqProofs [kP,h3i,hg',hg,hb,q4,q5,hwi]
theorem Rq (b:UInt8) (w:Rl):(trimB b w).length≤w.length:=by
 unfold trimB
 cases w with
 | nil=>simp
 | cons c r=>simp only;split<;>simp
theorem Yl (t:Tk) (h2:t.1=3→2≤t.2.1.length) (hl:t.2.1.length≤100000) (s:St) (cx:Ctx):
  aj P0 (.fn (.func sF) [] []) [dU t] s cx=.ret (.tu [.i .i64 ((DY t).getD 0),.b (DY t).isSome]) s:=by
 obtain ⟨k,w,a⟩:=t;refine Nv (by simp) ?_;unfold DY dU;simp only at h2 hl ⊢;by_cases q:k=3
 ·rw [if_pos q];have h3:=h2 q;have hil:=Zr w;have htl:=Rq 45 (xq w);have w1:IntKind.i64.wrap ((w.length:Int) - 1)=(w.length:Int) - 1:=w64 (by omega) (by omega);have e1:=Ib (xq w) 45;have h4:(1:Int)≤(w.length:Int):=by omega
  have h5:((w.length:Int) - 1).toNat=w.length - 1:=by omega
  have h6:w.tail.take (w.length - 1 - 1)=xq w:=by unfold xq;rw [Nat.sub_sub,List.drop_one]
  have h7:1≤w.length - 1:=by omega
  have hloop:=fun s cx=>Pq (trimB 45 (xq w)) (xq w) (by omega) s cx (trimB 45 (xq w)) 0 rfl (by omega);rw [show ((0:Nat):Int)=0 from rfl] at hloop;have ha:=aaj (s:=xq w);generalize hd:trimB 45 (xq w)=d at *;generalize xq w=x at *;by_cases q1:d.length<1
  ·rw [if_pos (.inl q1)];have q1i:(d.length:Int)<1:=by omega
   simp -implicitDefEqProofs [af,fV,q,dS,splice,w1,h4,h5,h6,h7,e1,q1i]
  by_cases q2:18<d.length
  ·rw [if_pos (.inr q2)];have q1i:¬(d.length:Int)<1:=by omega
   have q2i:18<(d.length:Int):=by omega
   simp -implicitDefEqProofs [af,fV,q,dS,splice,w1,h4,h5,h6,h7,e1,q1i,q2i]
  rw [if_neg (by omega)];have q1i:¬(d.length:Int)<1:=by omega
  have q2i:¬18<(d.length:Int):=by omega
  have q2j:(18:Int)<(d.length:Int) ↔ False:=iff_false_intro q2i
  obtain ⟨c,r,hdc⟩:∃c r,d=c::r:=by
   cases d with
   | nil=>simp at q1
   | cons c r=>exact ⟨c,r,rfl⟩
  have key:∀z:Bool,decide (c=48∧x≠[48])=z→z=true→af P0.glob (aj P0) fV ([]++[.ag [.i .i64 k,.s w,.i .i64 a]]++[]) s cx=.ret (.tu [.i .i64 0,.b false]) s:=by
   intro z hz hz2;rw [hz2,decide_eq_true_eq] at hz;obtain ⟨hc,hx⟩:=hz;subst hc;have hdl:(d.length:Int)=(r.length:Int)+1:=by rw [hdc];simp
   rw [hdl] at q1i q2i;subst hdc;have q3:¬(r.length:Int)+1<1:=by omega
   have q4:¬18<(r.length:Int)+1:=by omega
   simp -implicitDefEqProofs [af,fV,q,dS,splice,w1,h4,h5,h6,h7,e1,q3,q4,hx]
  by_cases q5:d.head?=some 48∧x≠[48]
  ·rw [if_pos q5];exact key true (by rw [decide_eq_true_eq];rw [hdc] at q5;simpa using q5) rfl
  rw [if_neg q5];have q6:¬(c=48∧x≠[48]):=by rw [hdc] at q5;simpa using q5
  clear key q5;have hcc:(c.toNat:Int)=48 ↔ c=48:=⟨fun hh=>UInt8.toNat_inj.1 (by have:(48:UInt8).toNat=48:=rfl;omega),fun hh=>by subst hh;rfl⟩;have hs2b:(aF d).length=d.length:=kR d;have hl0:=hloop s ⟨s.length,s.length⟩;have hdl:(d.length:Int)=(r.length:Int)+1:=by rw [hdc];simp
  have hall:d.all NJ=true→∃n,atoi x=some n∧(x.length≤18∨(x.length=19∧x.head?=some 45)):=ha (by omega) (by omega)
  have hat:∀n,atoi x=some n→(x.length≤18∨(x.length=19∧x.head?=some 45))→∀(s:St) (cx:Ctx),aj P0 (.fn (.func yc) [] []) [.s x] s cx=.ret (.tu [.i .i64 n,.ni]) s:=fun n hn hx s cx=>
   AX (h:=Jv Tq) rfl (by simp only [Jv,Tq,List.nil_append,List.append_nil];rw [if_pos hx,hn];rfl)
  have q3:¬(r.length:Int)+1<1:=by omega
  have q4:¬18<(r.length:Int)+1:=by omega
  by_cases q8:d.all NJ=true
  ·rw [if_pos q8] at hl0 ⊢;obtain ⟨n,hn,hx⟩:=hall q8;have e2:=hat n hn hx;rw [hn];by_cases q7:c=48
   ·have hx48:x=[48]:=Classical.not_not.1 fun hh=>q6 ⟨q7,hh⟩;subst q7;clear hall ha hloop hat;subst hx48;rw [hdc] at hl0 e1 hdl hs2b;simp at hl0 hs2b;simp -implicitDefEqProofs [af,fV,q,dS,splice,w1,h4,h5,h6,h7,e1,q3,q4,hl0,e2,hs2b,Ou]
   ·have q7i:¬(c.toNat:Int)=48:=fun hh=>q7 (hcc.1 hh);clear hall ha hloop hat;rw [hdc] at hl0 e1 hdl hs2b;simp at hl0 hs2b;simp -implicitDefEqProofs [af,fV,q,dS,splice,w1,h4,h5,h6,h7,e1,q3,q4,hl0,e2,q7,q7i,hs2b,Ou]
  ·rw [if_neg q8] at hl0 ⊢;by_cases q7:c=48
   ·have hx48:x=[48]:=Classical.not_not.1 fun hh=>q6 ⟨q7,hh⟩;subst q7;clear hall ha hloop hat;subst hx48;rw [hdc] at hl0 e1 hdl hs2b;simp at hl0 hs2b;simp -implicitDefEqProofs [af,fV,q,dS,splice,w1,h4,h5,h6,h7,e1,q3,q4,hl0,hs2b]
   ·have q7i:¬(c.toNat:Int)=48:=fun hh=>q7 (hcc.1 hh);clear hall ha hloop hat;rw [hdc] at hl0 e1 hdl hs2b;simp at hl0 hs2b;simp -implicitDefEqProofs [af,fV,q,dS,splice,w1,h4,h5,h6,h7,e1,q3,q4,hl0,q7,q7i,hs2b]
 ·rw [if_neg q];simp -implicitDefEqProofs [af,fV,q,dS,splice]
end Go.Ai.Z
namespace Go.Ai.Z
open Go.Ai
@[simp] theorem abS (t:Tk):(dU t).plain=dU t:=by simp [dU]
abbrev Jg (nm:Rl) (lo hi:Int):fE:=.cells [.i .i64 7,.s nm,.i .i64 lo,.i .i64 hi,.ns]
def abG (S:Rd→St) (nm:Rl) (lo hi:Int) (x:OR (Rl×Int×Int)):CO:=
 match x with
 | .ok v r=>.ret (.s v.1) (S r++[Jg nm v.2.1 v.2.2])
 | .er a c r=>.pan (flt a c) (S r++[Jg nm lo hi])
@[simp] theorem WN (S:Rd→St) (nm:Rl) (lo hi:Int) (v:Rl×Int×Int) (r:Rd):abG S nm lo hi (.ok v r)=.ret (.s v.1) (S r++[Jg nm v.2.1 v.2.2]):=rfl
@[simp] theorem WO (S:Rd→St) (nm:Rl) (lo hi:Int) (a:Nat) (c:Int) (r:Rd):abG S nm lo hi (.er a c r)=.pan (flt a c) (S r++[Jg nm lo hi]):=rfl
theorem abE (S:Rd→St) (nm:Rl) (lo hi:Int) (x:OR (Rl×Int×Int)):abG S nm lo hi x≠.fail:=by cases x<;>simp
section
variable {src:Rl} {S:Rd→St} {m N:Nat} (hE:ve src S m N)
include hE
theorem WC (nm other:Rl) (lo hi:Int) (r:Rd) (ha:Wr src r) (cx:Ctx) (hl:cx.lim≤m):
  aj P0 (.fn (.func jZ) [] []) [.pt (m+1) 0,.pt N 0,.s other] (S r++[Jg nm lo hi]) cx=abG S nm lo hi (TL src other lo hi r):=by
 refine D9 (abE _ _ _ _ _) ?_;have hN:=hE.n;have hS:=hE.src;have hlt:=hE.lt;have hE1:=hE.app [Jg nm lo hi];have e1:=lW hE1 r ha.at_ ⟨cx.lim,N+1⟩ hl;have hl2:cx.lim≤N:=by omega
 unfold TL
 cases hp:fP src r with
 | er a c r1=>
  rw [hp] at e1;simp only [bV] at e1;simp -implicitDefEqProofs [af,bM,hN,e1]
 | ok t r1=>
  rw [hp] at e1;obtain ⟨w1,w2⟩:=lU ha hp;obtain ⟨k,w,a⟩:=t;simp only [bY,dU] at e1;simp only [OR.bind_ok];cases qb:X8 other w
  ·have e2:=nG hE1 false r1 w1 ⟨cx.lim,N+1⟩ hl;obtain ⟨a2,c2,r2,hx⟩:=wu src r1;rw [hx] at e2 ⊢;simp only [bV] at e2;unfold X8 at qb;by_cases q1:w=wA4
   ·rw [q1] at e1 qb;simp at qb;rw [←qb];simp -implicitDefEqProofs [af,bM,hN,e1,e2]
   ·by_cases q2:w=wB9
    ·rw [q2] at e1 qb;simp at qb;rw [←qb];simp -implicitDefEqProofs [af,bM,hN,e1,e2]
    ·simp -implicitDefEqProofs [af,bM,hN,e1,e2,q1,q2]
  ·have e2:=nG hE1 true r1 w1 ⟨cx.lim,N+1⟩ hl;rw [pR] at e2 ⊢;simp only [bY] at e2;simp only [OR.bind_ok]
   have hw:(w=wA4∨w=wB9)∧¬w=other:=by
    unfold X8 at qb
    simpa using qb
   obtain ⟨hw,hwo⟩:=hw;have e3:=DJ hE1 w [120,115,100,58] r1 w1 ⟨cx.lim,N+1⟩ hl
   have g3:=su w1 w [120,115,100,58] (by rcases hw with hw|hw<;>rw [hw]<;>simp)
   cases h3:KN src w [120,115,100,58] r1 with
   | er a c r2=>
    rw [h3] at e3;simp only [bV] at e3
    rcases hw with hw|hw<;>rw [hw] at e1 e3 hwo<;>simp -implicitDefEqProofs [af,bM,hN,e1,e2,e3,hwo]
   | ok v3 r3=>
    rw [h3] at e3;have w3:=(g3.ok h3).1;simp only [bY] at e3;simp only [OR.bind_ok];have e4:=lW hE1 r3 w3.at_ ⟨cx.lim,N+1⟩ hl
    cases h4:fP src r3 with
    | er a c r4=>
     rw [h4] at e4;simp only [bV] at e4
     rcases hw with hw|hw<;>rw [hw] at e1 e3 hwo<;>simp -implicitDefEqProofs [af,bM,hN,e1,e2,e3,e4,hwo]
    | ok u r4=>
     rw [h4] at e4;obtain ⟨w4,k4⟩:=lU w3 h4;simp only [bY] at e4;simp only [OR.bind_ok];have e5:=Yl u (fun hk=>k4.two (.inr hk)) (by have:=k4.len;omega);have e6:=nG hE1 (DY u).isSome r4 w4 ⟨cx.lim,N+1⟩ hl;have g6:=gK w4 (DY u).isSome;generalize (DY u).getD 0=n at *
     cases h6:oN src (DY u).isSome r4 with
     | er a c r5=>
      rw [h6] at e6;simp only [bV] at e6;generalize (DY u).isSome=b at *
      rcases hw with hw|hw<;>rw [hw] at e1 e3 hwo<;>simp -implicitDefEqProofs [af,bM,hN,e1,e2,e3,e4,e5,e6,hwo]
     | ok v5 r5=>
      rw [h6] at e6;have w5:=(g6.ok h6).1;simp only [bY] at e6;simp only [OR.bind_ok];have e7:=jM hE1 r5 ⟨cx.lim,N+1⟩ hl;have w7:=gq w5;have e8:=fK hE1 [94,94] (bP r5) w7 ⟨cx.lim,N+1⟩ hl;have g8:=aC w7 [94,94] (by simp);generalize (DY u).isSome=b at *
      cases h8:jP src [94,94] (bP r5) with
      | er a c r8=>
       rw [h8] at e8;simp only [bV] at e8
       rcases hw with hw|hw<;>rw [hw] at e1 e3 hwo<;>simp -implicitDefEqProofs [af,bM,hN,e1,e2,e3,e4,e5,e6,e7,e8,hwo]
      | ok v8 r8=>
       rw [h8] at e8;have w8:=(g8.ok h8).1;simp only [bY] at e8;simp only [OR.bind_ok];have e9:=DJ hE1 wA3 [120,115,100,58] r8 w8 ⟨cx.lim,N+1⟩ hl
       cases h9:KN src wA3 [120,115,100,58] r8 with
       | er a c r9=>
        rw [h9] at e9;simp only [bV] at e9
        rcases hw with hw|hw<;>rw [hw] at e1 e3 hwo<;>simp -implicitDefEqProofs [af,bM,hN,e1,e2,e3,e4,e5,e6,e7,e8,e9,hwo]
       | ok v9 r9=>
        rw [h9] at e9;simp only [bY] at e9;have hg:=hE.gN r9 (Jg nm lo hi) [];have hs:=fun y=>hE.sN r9 (Jg nm lo hi) y [];unfold Jg at *
        rcases hw with hw|hw<;>rw [hw] at e1 e3 hwo ⊢<;>simp -implicitDefEqProofs [af,bM,hN,e1,e2,e3,e4,e5,e6,e7,e8,e9,hwo,hg,hs,hl2,Jg]
end
end Go.Ai.Z
namespace Go.Ai.Z
open Go.Ai
def zC:C:=C.mk 0 [] 0 0 true []
def axC (k:Int) (l r:C):Ax:=⟨k,false,l,r,true,[],[],[],[]⟩
def nC (src:Rl):Nat→Rd→OR Unit
 | 0,r=>.er 0 50 r
 | n+1,r=>(isR src wA9 r).bind fun b r=>
  if b=true then
   (jP src [40] (bP r)).bind fun _ r=>(mr src r).bind fun s r=>(fP src r).bind fun t r=>(oN src (decide (t.1=3)) r).bind fun _ r=>(jP src [41] (bP r)).bind fun _ r=>
    nC src n { r with op:=r.op || (decide (s=[111,112,101,110]) && decide (t.2.1=wD2)) }
  else .ok () r
def Bg (w:Rl):Bool:=decide (w=[67,108,97,115,115]) || decide (w=wC8) || decide (w=wD0) || decide (w=wC4)
def PU (src:Rl) (r:Rd):OR (List Ax):=
 (fP src r).bind fun t r=>(oN src (Bg t.2.1) r).bind fun _ r=>(jP src [40] (bP r)).bind fun _ r=>(mr src r).bind fun _ r=>(jP src [41] r).bind fun _ r=>.ok [] r
def YB (src:Rl) (n:Nat) (r:Rd):OR (List Ax):=
 (nC src n r).bind fun _ r=>(vS src n r).bind fun a r=>(vS src n r).bind fun b r=>.ok [axC 1 a b] r
def vN:List C→List Ax
 | []=>[]
 | [_]=>[]
 | a::b::r=>axC 2 a b::vN (b::r)
def AL:List C→List Ax→List Ax
 | [],x=>x
 | a::r,x=>if 1024<x.length then x else AL r (x++r.map (axC 3 a))
def X9 (src:Rl) (n:Nat) (r:Rd):OR (List Ax):=(nC src n r).bind fun _ r=>(lD src (vS src n) 2 n [] r).bind fun l r=>.ok (vN l) r
def Ya (src:Rl) (n:Nat) (r:Rd):OR (List Ax):=(nC src n r).bind fun _ r=>(lD src (vS src n) 2 n [] r).bind fun l r=>.ok (AL l []) r
def Z7 (src:Rl) (n:Nat) (r:Rd):OR (List Ax):=
 (nC src n r).bind fun _ r=>(mr src r).bind fun s r=>(vS src n r).bind fun c r=>.ok [⟨4,false,zC,c,true,[],s,[],[]⟩] r
def YP (src:Rl) (n:Nat) (r:Rd):OR (List Ax):=
 (nC src n r).bind fun _ r=>(isR src wC1 r).bind fun b r=>
  if b=true then (jP src [40] (bP r)).bind fun _ r=>(lD src (mr src) 2 n [] r).bind fun l r=>(jP src [41] r).bind fun _ r=>(mr src r).bind fun s r=>.ok [⟨6,false,zC,zC,false,l,s,[],[]⟩] r
  else (mr src r).bind fun a r=>(mr src r).bind fun s r=>.ok [⟨5,false,zC,zC,false,[a],s,[],[]⟩] r
def YQ (src:Rl) (n:Nat) (r:Rd):OR (List Ax):=(nC src n r).bind fun _ r=>(mr src r).bind fun s r=>.ok [⟨7,false,zC,zC,true,[],s,[],[]⟩] r
def Yz (src:Rl) (n:Nat) (r:Rd):OR (List Ax):=(nC src n r).bind fun _ r=>(vS src n r).bind fun c r=>(mr src r).bind fun a r=>.ok [⟨8,false,zC,c,true,[],[],a,[]⟩] r
def Zf (src:Rl) (n:Nat) (r:Rd):OR (List Ax):=
 (nC src n r).bind fun _ r=>(mr src r).bind fun s r=>(mr src r).bind fun a r=>(mr src r).bind fun b r=>.ok [⟨9,false,zC,zC,true,[],s,a,b⟩] r
def aaZ (w:Rl):Bool:=decide (w=wC9) || decide (w=wC7) || decide (w=wA2) || decide (w=wA6) || decide (w=wB5) || decide (w=wB2) || decide (w=wB0) || decide (w=wC2) || decide (w=wB7)
def Oy (src:Rl) (n:Nat) (w:Rl) (r:Rd):OR (List Ax):=
 if w=wC9 then PU src r
 else if w=wC7 then YB src n r
 else if w=wA2 then X9 src n r
 else if w=wA6 then Ya src n r
 else if w=wB5 then Z7 src n r
 else if w=wB2 then YP src n r
 else if w=wB0 then YQ src n r
 else if w=wC2 then Yz src n r
 else Zf src n r
def axV (N:Nat) (l:List Ax):AV:=match l with | []=>.ns|x::r=>.st N ((x::r).map iH)
def yC (N a0:Nat):List Ax→List Ax→Rd→OR (List Ax)
 | [],l,r=>.ok l r
 | x::xs,l,r=>if pq { x with op:=r.op }=0 then yC N a0 xs (l++[{ x with op:=r.op }]) { r with ax:=axV N (l++[{ x with op:=r.op }]) } else .er a0 (pq { x with op:=r.op }) r
def En (src:Rl) (n N:Nat) (l:List Ax) (r:Rd):OR (List Ax):=
 (fP src r).bind fun t r=>(oN src (aaZ t.2.1) r).bind fun _ r=>(jP src [40] (bP r)).bind fun _ r=>(Oy src n t.2.1 { r with op:=false }).bind fun xs r=>
  (jP src [41] r).bind fun _ r=>(yC N t.2.2 xs l r).bind fun l r=>if 1024<l.length then .er t.2.2 2 r else .ok l r
def Mc (pre:List Rl) (t:Tk):Bool:=
 decide (t.1=4) && decide (Go.Lib.indexByte t.2.1 58=(t.2.1.length:Int) - 1) && (decide (t.2.1=[58]) || (match t.2.1 with | []=>false|c::_=>ltI c.toNat)) && !decide (t.2.1∈pre)
def zx (w:Rl) (u:Tk):Bool:=
 decide (u.1=2) && (!decide (w=[111,119,108,58]) || decide (u.2.1=wB6)) && (!decide (w=[120,115,100,58]) || decide (u.2.1=wB3))
def Jw (src:Rl) (r:Rd):OR Unit:=
 (jP src wC0 r).bind fun _ r=>(jP src [40] r).bind fun _ r=>(fP src r).bind fun t r=>(oN src (Mc r.pre t) r).bind fun _ r=>(jP src [61] (bP r)).bind fun _ r=>
  (fP src r).bind fun u r=>(oN src (zx t.2.1 u) r).bind fun _ r=>(jP src [41] (bP r)).bind fun _ r=>
   .ok () { r with pre:=rX r.pre t.2.1,iri:=if t.2.1=[58] then xq u.2.1 else r.iri }
def Eg (src:Rl):Nat→Rd→OR Unit
 | 0,r=>.er 0 50 r
 | n+1,r=>(isR src wC0 r).bind fun b r=>if b=true then (Jw src r).bind fun _ r=>Eg src n r else .ok () r
def Bf (src:Rl):Nat→Rd→OR Unit
 | 0,r=>.ok () r
 | k+1,r=>(fP src r).bind fun t r=>if t.1=2 then Bf src k (bP r) else .ok () r
def Ci (src:Rl) (n N:Nat):Nat→List Ax→Rd→OR (List Ax)
 | 0,_,r=>.er 0 50 r
 | k+1,l,r=>(isR src [41] r).bind fun b r=>if b=true then .ok l r else (En src n N l r).bind fun l r=>Ci src n N k l r
def NH (src:Rl) (n N:Nat) (r:Rd):OR (List Ax):=
 (Eg src n r).bind fun _ r=>(isR src wC6 r).bind fun b r=>(oN src (b && decide ([58]∈r.pre)) r).bind fun _ r=>(jP src [40] (bP r)).bind fun _ r=>
  (Bf src 2 r).bind fun _ r=>(Ci src n N n [] r).bind fun l r=>(fP src (bP r)).bind fun t r=>(oN src (decide (t.1=5)) r).bind fun _ r=>.ok l r
end Go.Ai.Z
namespace Go.Ai.Z
open Go.Ai
theorem vM (k:Int) (n:Rl) (l h:Int):AV.ag [.i .i64 k,.s n,.i .i64 l,.i .i64 h,.ns]=aK (.mk k n l h true []):=by
 rw [uN];rfl
@[simp] theorem afv (S:St) (n:Nat) (c:C):frz S n (aK c)=some (aK c):=by simp [frz]
theorem PD (k:Int) (n:Rl) (l h:Int) (c:C) (ps:List C):AV.ag [.i .i64 k,.s n,.i .i64 l,.i .i64 h,.sl (aK c::ps.map aK)]=aK (.mk k n l h false (c::ps)):=by
 rw [uN (.mk k n l h false (c::ps))];rfl
section
variable {src:Rl} {S:Rd→St} {m N:Nat} (hE:ve src S m N)
include hE
theorem afV (r:Rd) (ha:Wr src r) (cx:Ctx) (hl:cx.lim≤m):
  aj P0 (.fn (.func jk) [] []) [.pt (m+1) 0] (S r) cx=qy aK S (UB src wA8 1 r):=by
 refine Hf (iT _ _ _) ?_;have hN:=hE.n;unfold UB;obtain ⟨a,c,q,hx,e1⟩|⟨v1,r1,h1,e1,g1⟩:=spl (DJ hE wA8 [111,119,108,58] r ha ⟨cx.lim,N⟩ hl) (su ha wA8 [111,119,108,58] (by simp))
 ·rw [hx];simp -implicitDefEqProofs [af,mJ,hN,e1]
 rw [h1];simp only [OR.bind_ok];have w1:=g1.1;simp -implicitDefEqProofs [af,mJ,hN,e1,dS,splice,vM]
theorem aaf (r:Rd) (ha:Wr src r) (cx:Ctx) (hl:cx.lim≤m):
  aj P0 (.fn (.func gy) [] []) [.pt (m+1) 0] (S r) cx=qy aK S (UB src wA7 2 r):=by
 refine CW (iT _ _ _) ?_;have hN:=hE.n;unfold UB;obtain ⟨a,c,q,hx,e1⟩|⟨v1,r1,h1,e1,g1⟩:=spl (DJ hE wA7 [111,119,108,58] r ha ⟨cx.lim,N⟩ hl) (su ha wA7 [111,119,108,58] (by simp))
 ·rw [hx];simp -implicitDefEqProofs [af,kF,hN,e1]
 rw [h1];simp only [OR.bind_ok];have w1:=g1.1;simp -implicitDefEqProofs [af,kF,hN,e1,dS,splice,vM]
theorem Yk (r:Rd) (ha:Wr src r) (cx:Ctx) (hl:cx.lim≤m):
  aj P0 (.fn (.func fG) [] []) [.pt (m+1) 0] (S r) cx=qy aK S (Xl src r):=by
 refine BD (iT _ _ _) ?_;have hN:=hE.n;unfold Xl;have e1:=jM hE r ⟨cx.lim,N⟩ hl;have w1:=gq ha;obtain ⟨a,c,q,hx,e2⟩|⟨v2,r2,h2,e2,g2⟩:=spl (fK hE [40] (bP r) w1 ⟨cx.lim,N⟩ hl) (aC w1 [40] (by simp))
 ·rw [hx];simp -implicitDefEqProofs [af,gB,hN,e1,e2]
 rw [h2];simp only [OR.bind_ok];have w2:=g2.1;obtain ⟨a,c,q,hx,e3⟩|⟨s,r3,h3,e3,g3⟩:=spl (oq hE r2 w2 ⟨cx.lim,N⟩ hl) (bf w2)
 ·rw [hx];simp -implicitDefEqProofs [af,gB,hN,e1,e2,e3]
 rw [h3];simp only [OR.bind_ok];have w3:=g3.1;obtain ⟨a,c,q,hx,e4⟩|⟨v4,r4,h4,e4,g4⟩:=spl (fK hE [41] r3 w3 ⟨cx.lim,N⟩ hl) (aC w3 [41] (by simp))
 ·rw [hx];simp -implicitDefEqProofs [af,gB,hN,e1,e2,e3,e4]
 rw [h4];simp only [OR.bind_ok];have w4:=g4.1;simp -implicitDefEqProofs [af,gB,hN,e1,e2,e3,e4,dS,splice,vM]
theorem adh (r:Rd) (ha:Wr src r) (cx:Ctx) (hl:cx.lim≤m):
  aj P0 (.fn (.func iR) [] []) [.pt (m+1) 0] (S r) cx=qy aK S (PV src r):=by
 refine FP (iT _ _ _) ?_;have hN:=hE.n;have hlt:=hE.lt;have hl2:cx.lim≤N:=by omega
 unfold PV aaH Za;have e1:=jM hE r ⟨cx.lim,N⟩ hl;have w1:=gq ha;obtain ⟨a,c,q,hx,e2⟩|⟨v2,r2,h2,e2,g2⟩:=spl (fK hE [40] (bP r) w1 ⟨cx.lim,N⟩ hl) (aC w1 [40] (by simp))
 ·rw [hx];simp -implicitDefEqProofs [af,aQ,hN,hl2,hE.gN,hE.sN,hE.tk,dS,splice,e1,e2]
 rw [h2];simp only [OR.bind_ok];have w2:=g2.1;obtain ⟨a,c,q,hx,e3⟩|⟨s,r3,h3,e3,g3⟩:=spl (oq hE r2 w2 ⟨cx.lim,N⟩ hl) (bf w2)
 ·rw [hx];simp -implicitDefEqProofs [af,aQ,hN,hl2,hE.gN,hE.sN,hE.tk,dS,splice,e1,e2,e3]
 rw [h3];simp only [OR.bind_ok];have w3:=g3.1;have hB:=hE.app [Jg s (-1099511627776) 1099511627776];obtain ⟨a,c,q,hx,e4⟩|⟨b,r4,h4,e4,g4⟩:=spl (FZ hB wB1 r3 w3 ⟨cx.lim,N⟩ hl) (kQ w3 wB1)
 ·rw [hx];simp -implicitDefEqProofs [af,aQ,hN,hl2,hE.gN,hE.sN,hE.tk,dS,splice,e1,e2,e3,e4]
 rw [h4];simp only [OR.bind_ok];have w4:=g4.1
 cases b with
 | false=>
  simp only [Bool.false_eq_true,if_false,OR.bind_ok,if_neg];obtain ⟨a,c,q,hx,e5⟩|⟨v5,r5,h5,e5,g5⟩:=spl (DJ hB wA3 [120,115,100,58] r4 w4 ⟨cx.lim,N⟩ hl) (su w4 wA3 [120,115,100,58] (by simp))
  ·rw [hx];simp -implicitDefEqProofs [af,aQ,hN,hl2,hE.gN,hE.sN,hE.tk,dS,splice,e1,e2,e3,e4,e5]
  rw [h5];simp only [OR.bind_ok];have w5:=g5.1;obtain ⟨a,c,q,hx,e6⟩|⟨v6,r6,h6,e6,g6⟩:=spl (fK hB [41] r5 w5 ⟨cx.lim,N⟩ hl) (aC w5 [41] (by simp))
  ·rw [hx];simp -implicitDefEqProofs [af,aQ,hN,hl2,hE.gN,hE.sN,hE.tk,dS,splice,e1,e2,e3,e4,e5,e6]
  rw [h6];simp only [OR.bind_ok];have w6:=g6.1;simp -implicitDefEqProofs [af,aQ,hN,hl2,hE.gN,hE.sN,hE.tk,dS,splice,e1,e2,e3,e4,e5,e6,vM]
 | true=>
  simp only [if_true,OR.bind_ok];have e7:=jM hB r4 ⟨cx.lim,N⟩ hl;have w7:=gq w4;obtain ⟨a,c,q,hx,e8⟩|⟨v8,r8,h8,e8,g8⟩:=spl (fK hB [40] (bP r4) w7 ⟨cx.lim,N⟩ hl) (aC w7 [40] (by simp))
  ·rw [hx];simp -implicitDefEqProofs [af,aQ,hN,hl2,hE.gN,hE.sN,hE.tk,dS,splice,e1,e2,e3,e4,e7,e8]
  rw [h8];simp only [OR.bind_ok];have w8:=g8.1;obtain ⟨a,c,q,hx,e9⟩|⟨v9,r9,h9,e9,g9⟩:=spl (DJ hB wA3 [120,115,100,58] r8 w8 ⟨cx.lim,N⟩ hl) (su w8 wA3 [120,115,100,58] (by simp))
  ·rw [hx];simp -implicitDefEqProofs [af,aQ,hN,hl2,hE.gN,hE.sN,hE.tk,dS,splice,e1,e2,e3,e4,e7,e8,e9]
  rw [h9];simp only [OR.bind_ok];have w9:=g9.1;have e10:=WC hE s [] (-1099511627776) (1099511627776) r9 w9 ⟨cx.lim,N⟩ hl;have g10:=G7 w9 [] (-1099511627776) (1099511627776)
  cases h10:TL src [] (-1099511627776) (1099511627776) r9 with
  | er a10 c10 r10=>
   rw [h10] at e10;simp only [WO] at e10;simp -implicitDefEqProofs [af,aQ,hN,hl2,hE.gN,hE.sN,hE.tk,dS,splice,e1,e2,e3,e4,e7,e8,e9,e10]
  | ok x r10=>
   rw [h10] at e10;have w10:=(g10.ok h10).1;simp only [WN] at e10;simp only [OR.bind_ok];have hB2:=hE.app [Jg s x.2.1 x.2.2];obtain ⟨a,c,q,hx,e11⟩|⟨b2,r11,h11,e11,g11⟩:=spl (FZ hB2 [41] r10 w10 ⟨cx.lim,N⟩ hl) (kQ w10 [41])
   ·rw [hx];simp -implicitDefEqProofs [af,aQ,hN,hl2,hE.gN,hE.sN,hE.tk,dS,splice,e1,e2,e3,e4,e7,e8,e9,e10,e11]
   rw [h11];simp only [OR.bind_ok];have w11:=g11.1
   cases b2 with
   | false=>
    simp only [Bool.false_eq_true,if_false,OR.bind_ok,if_neg];have e12:=WC hE s x.1 (x.2.1) (x.2.2) r11 w11 ⟨cx.lim,N⟩ hl;have g12:=G7 w11 x.1 x.2.1 x.2.2
    cases h12:TL src x.1 (x.2.1) (x.2.2) r11 with
    | er a12 c12 r12=>
     rw [h12] at e12;simp only [WO] at e12;simp -implicitDefEqProofs [af,aQ,hN,hl2,hE.gN,hE.sN,hE.tk,dS,splice,e1,e2,e3,e4,e7,e8,e9,e10,e11,e12]
    | ok y r12=>
     rw [h12] at e12;have w12:=(g12.ok h12).1;simp only [WN] at e12;simp only [OR.bind_ok];have hB3:=hE.app [Jg s y.2.1 y.2.2];obtain ⟨a,c,q,hx,e13⟩|⟨v13,r13,h13,e13,g13⟩:=spl (fK hB3 [41] r12 w12 ⟨cx.lim,N⟩ hl) (aC w12 [41] (by simp))
     ·rw [hx];simp -implicitDefEqProofs [af,aQ,hN,hl2,hE.gN,hE.sN,hE.tk,dS,splice,e1,e2,e3,e4,e7,e8,e9,e10,e11,e12,e13]
     rw [h13];simp only [OR.bind_ok];have w13:=g13.1;obtain ⟨a,c,q,hx,e14⟩|⟨v14,r14,h14,e14,g14⟩:=spl (fK hB3 [41] r13 w13 ⟨cx.lim,N⟩ hl) (aC w13 [41] (by simp))
     ·rw [hx];simp -implicitDefEqProofs [af,aQ,hN,hl2,hE.gN,hE.sN,hE.tk,dS,splice,e1,e2,e3,e4,e7,e8,e9,e10,e11,e12,e13,e14]
     rw [h14];simp only [OR.bind_ok];have w14:=g14.1;simp -implicitDefEqProofs [af,aQ,hN,hl2,hE.gN,hE.sN,hE.tk,dS,splice,e1,e2,e3,e4,e7,e8,e9,e10,e11,e12,e13,e14,vM]
   | true=>
    simp only [if_true,OR.bind_ok];obtain ⟨a,c,q,hx,e15⟩|⟨v15,r15,h15,e15,g15⟩:=spl (fK hB2 [41] r11 w11 ⟨cx.lim,N⟩ hl) (aC w11 [41] (by simp))
    ·rw [hx];simp -implicitDefEqProofs [af,aQ,hN,hl2,hE.gN,hE.sN,hE.tk,dS,splice,e1,e2,e3,e4,e7,e8,e9,e10,e11,e15]
    rw [h15];simp only [OR.bind_ok];have w15:=g15.1;obtain ⟨a,c,q,hx,e16⟩|⟨v16,r16,h16,e16,g16⟩:=spl (fK hB2 [41] r15 w15 ⟨cx.lim,N⟩ hl) (aC w15 [41] (by simp))
    ·rw [hx];simp -implicitDefEqProofs [af,aQ,hN,hl2,hE.gN,hE.sN,hE.tk,dS,splice,e1,e2,e3,e4,e7,e8,e9,e10,e11,e15,e16]
    rw [h16];simp only [OR.bind_ok];have w16:=g16.1;simp -implicitDefEqProofs [af,aQ,hN,hl2,hE.gN,hE.sN,hE.tk,dS,splice,e1,e2,e3,e4,e7,e8,e9,e10,e11,e15,e16,vM]
end
end Go.Ai.Z
