/-
 The tokens of a printed axiom are read back.
-/
import Derived.Test.YtcofenimejmoeaaGreatDoorAiOY1OY2OY3OY4
import Derived.Test.YtcofenimejmoeaaGreatDoorAiOW1OW2OW3OW4OW5
import Derived.Test.YtcofenimejmoeaaGreatDoorAiCircCRefR37R61R62R63K13
import Derived.Test.YtcofenimejmoeaaGreatDoorAiOX18OX19OX20OX21
import Derived.Test.YtcofenimejmoeaaGreatDoorAiOW6OW7OW8OW9OW10OW11OX0OW12OW13OW14OW15OW16OW17
import Derived.Test.YtcofenimejmoeaaGreatDoorAiRchR1R2R3R4R5
set_option maxRecDepth 100000
set_option linter.unusedSimpArgs false
set_option linter.unusedVariables false
set_option linter.unusedSectionVars false
namespace Go.Ai.Z
open Go.Ai
structure AOK (x:Ax):Prop where
 k:x.kind=1∨x.kind=2∨x.kind=3∨x.kind=4∨x.kind=5∨x.kind=6∨x.kind=7∨x.kind=8∨x.kind=9
 l:if (oJ x.kind).l=true then rM x.left=0∧wR x.left≤64 else emptyS x.left=true
 r:if (oJ x.kind).r=true then rM x.right=0∧wR x.right≤64 else emptyS x.right=true
 role:if (oJ x.kind).role=true then NmV x.role else x.role=[]
 a:if (oJ x.kind).a=true then NmV x.a else x.a=[]
 b:if (oJ x.kind).b=true then NmV x.b else x.b=[]
 rs:∀r∈x.roles,NmV r
 lo:(oJ x.kind).lo≤x.roles.length
 hi:(x.roles.length:Int)≤(oJ x.kind).hi
mutual
def nmC:C→List Rl
 | .mk _ n _ _ _ ps=>n::afh ps
def afh:List C→List Rl
 | []=>[]
 | c::r=>nmC c++afh r
end
def Ei (b:Bool):List Tx:=if b=true then VS else []
theorem Sz (n:Rl) (w:Rl) (hw:(58:UInt8) ∉ w):owN n≠w:=fun h=>by
 have:=VQ n
 rw [h] at this;exact hw this
section
variable {P:Rl→Prop} {src:Rl} {pre:List Rl}
theorem aaT {T:List Tx} (h58:([58]:Rl)∈pre) (b:Bool) (hT:∃t T',T=t::T'∧t.2≠wA9) (n:Nat) (hn:2≤n) (r:Rd) (L:List Tx) (h:My P src r (Ei b++T++L)) (ho:r.op=false) (hr:r.pre=pre):
  ∃q,nC src n r=.ok () q∧My P src q (T++L)∧q.pre=r.pre∧q.iri=r.iri∧q.op=b:=by
 obtain ⟨t,T',rfl,ht⟩:=hT;obtain ⟨n,rfl⟩:∃k,n=k+2:=⟨n - 2,by omega⟩;rw [List.append_assoc,List.cons_append] at h;obtain ⟨q,h1,h2,h3,h4,h5,_⟩:=Y6 n b (t:=t) (L:=T'++L) h ht (by rw [hr];exact h58) ho;exact ⟨q,h1,h2,h3,h4,h5⟩
end
end Go.Ai.Z
namespace Go.Ai.Z
open Go.Ai
open Go.Lib (itoa decDigits)
def NW (v:Rl):Prop:=∀b∈v.head?,DL b=false
theorem afg (v:Rl):NW (32::v):=by intro b hb;simp at hb;subst hb;decide
theorem abT (v:Rl):NW (41::v):=by intro b hb;simp at hb;subst hb;decide
theorem SG (v:Rl):NW (40::v):=by intro b hb;simp at hb;subst hb;decide
theorem afe (v:Rl):NW (61::v):=by intro b hb;simp at hb;subst hb;decide
def acj (b:UInt8):Bool:=Rx b && !decide (b=60) && !decide (b=62)
structure VE (R:Rl→List Tx→Prop):Prop where
 blank:∀{c:UInt8} {v:Rl} {L:List Tx},c=32∨c=10→L≠[]→R v L→R (c::v) L
 word:∀{w v:Rl} {L:List Tx},w.all DL=true→w≠[]→NW v→R v L→R (w++v) ((4,w)::L)
 sign:∀{c:UInt8} {v:Rl} {L:List Tx},c=40∨c=41∨c=61→R v L→R (c::v) ((1,[c])::L)
 caret:∀{v:Rl} {L:List Tx},R v L→R (94::94::v) ((1,[94,94])::L)
 iri:∀{p v:Rl} {L:List Tx},p.all Tn=true→R v L→R (60::(p++62::v)) ((2,60::(p++[62]))::L)
 str:∀{p v:Rl} {L:List Tx},p.all acj=true→R v L→R (34::(p++34::v)) ((3,34::(p++[34]))::L)
theorem aci {p:Rl} (h:p.all acj=true):p.all Rx=true:=by
 rw [List.all_eq_true] at h ⊢;intro b hb
 have:=h b hb
 unfold acj at this;simp only [Bool.and_eq_true] at this;exact this.1.1
theorem Zb (P:Rl→Prop):VE (Ly P) where
 blank h hL hx:=by
  rename_i c v L
  cases L with
  | nil=>exact absurd rfl hL
  | cons t L=>exact Zc h hx
 word hw hn hv h:=⟨_,aaQ hw hn hv,h⟩
 sign hc h:=⟨_,aaR hc _,h⟩
 caret h:=⟨_,Y3 _,h⟩
 iri hp h:=⟨_,acM hp _,h⟩
 str hp h:=⟨_,acK (aci hp) _,h⟩
section
variable {R:Rl→List Tx→Prop} (hR:VE R)
include hR
end
end Go.Ai.Z
namespace Go.Ai.Z
open Go.Ai
section
variable {R:Rl→List Tx→Prop} (hR:VE R)
include hR
end
structure WdP (w:Rl):Prop where
 word:Ba w=true
 iri:w.all Tn=true
 owl:w≠[111,119,108]
 xsd:w≠[120,115,100]
theorem aaF (v:Rl):(skp v).length≤v.length:=by unfold skp;rw [List.length_drop];omega
theorem acL {v w:Rl} {t:Tx} (h:Nx v t w):w.length+1≤v.length:=by
 obtain ⟨h1,h2,_⟩:=h
 have:=aaF v
 rw [h1,List.length_append] at this
 have:t.2.length≠0:=fun hc=>h2 (List.length_eq_zero_iff.1 hc)
 omega
theorem Qx {P:Rl→Prop}:∀(L:List Tx) (v:Rl),Ly P v L→L.length≤v.length
 | [],v,_=>by simp
 | t::L,v,⟨w,h1,h2⟩=>by
  have:=acL h1
  have:=Qx L w h2
  simp;omega
end Go.Ai.Z
namespace Go.Ai.Z
open Go.Ai
def qj (n:Rl):C:=.mk 3 n 0 0 true []
structure NmO (n:Rl):Prop where
 v:NmV n
 own:(58:UInt8) ∉ n
theorem NmO.ne {n:Rl} (h:NmO n):n≠[]:=by
 rcases Pj h.v with ⟨_,h2,_⟩|⟨x,y,h1,_,_⟩
 ·exact h2
 ·rintro rfl;simp [lN] at h1
theorem NmO.owN {n:Rl} (h:NmO n):owN n=58::n:=by unfold Go.Ai.Z.owN;rw [if_neg h.own]
theorem NmO.p {n:Rl} (h:NmO n) {pre:List Rl} (hp:([58]:Rl)∈pre):NmP pre n:=⟨h.ne,fun _=>hp,fun x y hc=>by rw [Vk h.own] at hc;cases hc⟩
def yt (ns:List Rl):Rl:=ns.flatMap fun n=>[32,58]++n
def Fb (ns:List Rl):List Tx:=ns.map fun n=>(4,owN n)
theorem QB {R:Rl→List Tx→Prop} (hR:VE R):∀(ns:List Rl),(∀n∈ns,NmO n)→∀(v:Rl) (L:List Tx),NW v→R v L→R (yt ns++v) (Fb ns++L)
 | [],_,v,L,_,h=>h
 | n::ns,hn,v,L,hv,h=>by
  have ih:=QB hR ns (fun m hm=>hn m (by simp [hm])) v L hv h;have h0:=hn n (by simp)
  have hnw:NW (yt ns++v):=by
   cases ns with
   | nil=>exact hv
   | cons m r=>exact afg _
  have h1:=hR.word (VP h0.v).1 (VP h0.v).2 hnw ih;have h2:=hR.blank (c:=32) (.inl rfl) (by simp) h1;have e:yt (n::ns)++v=32::(owN n++(yt ns++v)):=by rw [h0.owN];simp [yt]
  rw [e];exact h2
def NE (ns:List Rl):Rl:=wC3++yt ns++[41,41]
def NI (ns:List Rl):Rl:=wB4++yt ns++[41,41]
def hdT (I T:List Tx):List Tx:=Sj [58] [60,62]++((4,wC6)::(1,[40])::(I++(T++[(1,[41])])))
theorem aff (v:Rl):NW (34::v):=by intro b hb;simp at hb;subst hb;decide
theorem Zg {R:Rl→List Tx→Prop} (hR:VE R) {v:Rl} {I T:List Tx} (h:R v (I++(T++[(1,[41])]))):R (wC5++v) (hdT I T):=by
 have h1:=hR.word (w:=wC6) (by decide) (by simp) (SG v) (hR.sign (c:=40) (.inl rfl) h);have h2:=hR.sign (c:=40) (.inl rfl) (hR.word (w:=[58]) (by decide) (by simp) (afe _) (hR.sign (c:=61) (.inr (.inr rfl)) (hR.iri (p:=[]) rfl (hR.sign (c:=41) (.inr (.inl rfl)) h1))));exact hR.word (w:=wC0) (by decide) (by simp) (SG _) h2
theorem aaV {R:Rl→List Tx→Prop} (hR:VE R) (hend:R [] []) (ns:List Rl) (hn:∀n∈ns,NmO n):
  R (NE ns) (hdT [(2,[60,97,62]),(2,[60,98,62])] ((4,wA2)::(1,[40])::(Ei false++Fb ns++[(1,[41])]))):=by
 have h0:=QB hR ns hn [41,41] [(1,[41]),(1,[41])] (abT _) (hR.sign (.inr (.inl rfl)) (hR.sign (.inr (.inl rfl)) hend));have h1:=hR.word (w:=wA2) (by decide) (by simp) (SG _) (hR.sign (c:=40) (.inl rfl) h0);have h2:=hR.iri (p:=[97]) (by decide) (hR.iri (p:=[98]) (by decide) h1);have h3:=Zg hR (I:=[(2,[60,97,62]),(2,[60,98,62])]) (T:=(4,wA2)::(1,[40])::(Ei false++Fb ns++[(1,[41])])) (v:=60::([97]++62::60::([98]++62::(wA2++40::(yt ns++[41,41]))))) (by simpa [Ei] using h2);have e:NE ns=wC5++60::([97]++62::60::([98]++62::(wA2++40::(yt ns++[41,41])))):=by simp [NE]
 rw [e];exact h3
theorem aaW {R:Rl→List Tx→Prop} (hR:VE R) (hend:R [] []) (ns:List Rl) (hn:∀n∈ns,NmO n):
  R (NI ns) (hdT [(2,[60,97,62])] ((4,wA6)::(1,[40])::(Ei true++Fb ns++[(1,[41])]))):=by
 have h0:=QB hR ns hn [41,41] [(1,[41]),(1,[41])] (abT _) (hR.sign (.inr (.inl rfl)) (hR.sign (.inr (.inl rfl)) hend));have h1:=hR.word (w:=wA9) (by decide) (by simp) (SG _) (hR.sign (c:=40) (.inl rfl) (hR.word (w:=[58,111,112,101,110]) (by decide) (by simp) (aff _) (hR.str (p:=[116,114,117,101]) (by decide) (hR.sign (c:=41) (.inr (.inl rfl)) h0))));have h2:=hR.iri (p:=[97]) (by decide) (hR.word (w:=wA6) (by decide) (by simp) (SG _) (hR.sign (c:=40) (.inl rfl) h1));have h3:=Zg hR (I:=[(2,[60,97,62])]) (T:=(4,wA6)::(1,[40])::(Ei true++Fb ns++[(1,[41])])) (v:=60::([97]++62::(wA6++40::(wA9++40::([58,111,112,101,110]++34::([116,114,117,101]++34::41::(yt ns++[41,41]))))))) (by simpa [Ei,VS] using h2);have e:NI ns=wC5++60::([97]++62::(wA6++40::(wA9++40::([58,111,112,101,110]++34::([116,114,117,101]++34::41::(yt ns++[41,41])))))):=by simp [NI]
 rw [e];exact h3
section
variable {P:Rl→Prop} {src:Rl} {pre:List Rl}
theorem aaJ (h58:([58]:Rl)∈pre) {n:Rl} (hn:NmO n) (k:Nat):Par P src pre (vS src (k+1)) (qj n) [(4,owN n)]:=by
 have hm:=hn.p h58;refine ⟨by simp,by simpa using Sz n _ (by simp),fun r L h hr=>?_⟩;obtain ⟨a,q,h1,h2,h3,h4⟩:=wZ h;obtain ⟨q1,b1,b2,b3⟩:=VW (n:=n) h2 (by rw [h4.pre,hr];exact hm);have e1:=Iw hm wA8 (.inr (.inl ⟨_,rfl⟩));have e2:=Iw hm wA7 (.inr (.inl ⟨_,rfl⟩));have e3:=Iw hm wA0 (.inl (by simp));have e4:=Iw hm wA1 (.inl (by simp));have e5:=Iw hm wB8 (.inl (by simp));have e6:=Iw hm wA5 (.inl (by simp));refine ⟨q1, ?_,b2,h4.tr b3⟩;unfold vS;rw [h1];simp only [OR.bind_ok,if_neg e1,if_neg e2,if_neg e3,if_neg e4,if_neg e5,if_neg e6,b1];rfl
theorem Y7 (h58:([58]:Rl)∈pre) (ns:List Rl) (hn:∀n∈ns,NmO n) (h2:2≤ns.length) (b:Bool) (n:Nat) (hl:ns.length+1<n) (r:Rd) (L:List Tx) (h:My P src r (Ei b++Fb ns++(1,[41])::L)) (ho:r.op=false) (hr:r.pre=pre):
  ∃q q2,nC src n r=.ok () q∧lD src (vS src n) 2 n [] q=.ok (ns.map qj) q2∧My P src q2 ((1,[41])::L)∧q2.pre=r.pre∧q2.iri=r.iri∧q2.op=b:=by
 have hT:∃t T',Fb ns=t::T'∧t.2≠wA9:=by
  cases ns with
  | nil=>simp at h2
  | cons m r=>exact ⟨_,_,rfl,Sz m _ (by simp)⟩
 obtain ⟨q,a1,a2,a3,a4,a5⟩:=aaT h58 b hT n (by omega) r _ h ho hr
 have hfm:(ns.map qj).flatMap (fun c=>([(4,owN c.name)]:List Tx))=Fb ns:=by
  have:∀ns:List Rl,(ns.map qj).flatMap (fun c=>([(4,owN c.name)]:List Tx))=Fb ns:=fun ns=>by
   induction ns with
   | nil=>rfl
   | cons m r ih=>simp only [List.map_cons,List.flatMap_cons,ih];rfl
  exact this ns
 obtain ⟨n,rfl⟩:∃k,n=k+1:=⟨n - 1,by omega⟩
 obtain ⟨q2,c1,c2,c3⟩:=VX (P:=P) (src:=src) (pre:=pre) (f:=vS src (n+1)) (ns.map qj) (fun c=>[(4,owN c.name)]) (fun v hv=>by
   obtain ⟨m,hm,rfl⟩:=List.mem_map.1 hv
   exact aaJ h58 (hn m hm) n) id (fun _ _=>rfl) (n+1) [] q L (by simp;omega) (by simpa using h2) (a3.trans hr) (by rw [hfm];exact a2)
 exact ⟨q,q2,a1,c1,c2,c3.pre.trans a3,c3.iri.trans a4,c3.op.trans a5⟩
end
theorem Wx {k:Int} {op:Bool} {a b:Rl} (ha:NmO a) (hb:NmO b) (hk:k=2∨k=3) (hpa:iZ a=true) (hpb:iZ b=true):pq { axC k (qj a) (qj b) with op:=op }=0:=by
 have hc:∀n,iZ n=true→qQ (qj n)=0:=fun n hn=>by
  unfold qQ qj;simp [yX,FX,wR,Jq,Lu,wJ,yT,hn,xJ]
 have hs:uq { axC k (qj a) (qj b) with op:=op }=true:=by rcases hk with rfl|rfl<;>rfl
 have hn:MI { axC k (qj a) (qj b) with op:=op } (oJ k)=true:=by rcases hk with rfl|rfl<;>rfl
 have h1:({ axC k (qj a) (qj b) with op:=op }:Ax).kind=k:=rfl;unfold pq;rw [hs,h1,hn];unfold Rw;have h2:({ axC k (qj a) (qj b) with op:=op }:Ax).left=qj a:=rfl;have h3:({ axC k (qj a) (qj b) with op:=op }:Ax).right=qj b:=rfl;rw [h2,h3,hc a hpa,hc b hpb];have h4:∀n,Bl (qj n)=false:=fun n=>by rw [Un];rfl
 rw [h4,h4]
 rcases hk with rfl|rfl<;>simp
theorem Ws {src:Rl} {I T:List Tx} {xs:List Ax} {N:Nat} (h:Ly NxE src (hdT I T)) (hI:I.length≤2) (hI2:∀t∈I,t.1=2) (hT:∃t T',T=t::T'∧t.1≠2∧t.2≠[41])
  (hit:∀(r:Rd) (L:List Tx),r.pre=[[58]]→My NxE src r (T++L)→∃q,En src (src.length+1) N [] r=.ok xs q∧My NxE src q L∧q.pre=r.pre∧q.iri=r.iri):
  ∃r,NH src (src.length+1) N r00=.ok xs r∧r.iri=[]:=by
 obtain ⟨t,T',rfl,ht1,ht2⟩:=hT;have hlen:=Qx _ _ h;have h0:My NxE src r00 (hdT I (t::T')):=h;unfold hdT at h0 hlen;have h0':=h0;rw [show Sj [58] [60,62]=(4,wC0)::[(1,[40]),(4,[58]),(1,[61]),(2,[60,62]),(1,[41])] from rfl,List.cons_append] at h0';obtain ⟨q0,a1,a2,a3,a4⟩:=Ej h0' wC0;obtain ⟨q1,b1,b2,b3,b4⟩:=aaS (src:=src) (P:=NxE) (r:=q0) (w:=[58]) (u:=[60,62]) (by exact a2) (fun a=>by rw [a4.pre];simp [Mc,r00];rfl) (fun a=>by simp [zx]);have hq1:q1.pre=[[58]]:=by rw [b3,a4.pre];rfl
 have hi1:q1.iri=[]:=by rw [b4,if_pos rfl];rfl
 obtain ⟨n,hn⟩:∃n,src.length=n+1:=⟨src.length - 1,by simp [Sj] at hlen;omega⟩;obtain ⟨q2,c1,c2,c3,c4⟩:=Ej b2 wC0;rw [decide_eq_false (by simp)] at c1;have hq2:q2.pre=[[58]]:=by rw [c4.pre,hq1]
 obtain ⟨q3,d1,d2,d3,d4⟩:=Ej c2 wC6;obtain ⟨q4,e1,e2,e3⟩:=wY d3 (w:=[40]) rfl;have hq4:q4.pre=[[58]]:=by rw [e3.pre];show q3.pre=_;rw [d4.pre,hq2]
 have hiri:∀(I:List Tx) (k:Nat) (r:Rd),I.length≤k→(∀t∈I,t.1=2)→My NxE src r (I++(t::(T'++[(1,[41])])))→∃q,Bf src k r=.ok () q∧My NxE src q (t::(T'++[(1,[41])]))∧Fq r q:=fun I=>by
  induction I with
  | nil=>
   intro k r _ _ hm
   cases k with
   | zero=>exact ⟨r,rfl,hm,Fq.rfl' r⟩
   | succ k=>
    obtain ⟨a,q,f1,f2,f3,f4⟩:=wZ hm;refine ⟨q, ?_,f2,f4⟩;unfold Bf;rw [f1];simp only [OR.bind_ok];rw [if_neg ht1]
  | cons u I ih=>
   intro k r hk hu hm;obtain ⟨k,rfl⟩:∃j,k=j+1:=⟨k - 1,by simp at hk;omega⟩;obtain ⟨a,q,f1,f2,f3,f4⟩:=wZ hm;obtain ⟨q2,g1,g2,g3⟩:=ih k (bP q) (by simp at hk;omega) (fun v hv=>hu v (by simp [hv])) f3;refine ⟨q2, ?_,g2,f4.ps.tr g3⟩;unfold Bf;rw [f1];simp only [OR.bind_ok];rw [if_pos (hu u (by simp))];exact g1
 obtain ⟨q5,f1,f2,f3⟩:=hiri I 2 q4 hI hI2 (by simpa using e2);obtain ⟨q6,g1,g2,g3,g4⟩:=Ej f2 [41];rw [decide_eq_false ht2] at g1;obtain ⟨q7,i1,i2,i3,i4⟩:=hit q6 [(1,[41])] (by rw [g4.pre,f3.pre,hq4]) (by simpa using g2);obtain ⟨q8,j1,j2,j3,j4⟩:=Ej i2 [41];obtain ⟨a9,q9,k1,k2⟩:=acO j3;refine ⟨q9, ?_, ?_⟩
 ·have hpr:Eg src (src.length+1) r00=.ok () q2:=by
   rw [hn];unfold Eg;rw [a1,decide_eq_true rfl];simp only [OR.bind_ok,if_true,b1];unfold Eg;rw [c1];simp
  have h58:([58]:Rl)∈q3.pre:=by rw [d4.pre,hq2];simp
  have hits:Ci src (src.length+1) N (src.length+1) [] q5=.ok xs q8:=by
   rw [show Ci src (src.length+1) N (src.length+1) [] q5=(isR src [41] q5).bind fun b r=>if b=true then .ok [] r else (En src (src.length+1) N [] r).bind fun l r=>Ci src (src.length+1) N src.length l r from rfl,g1];simp only [OR.bind_ok,Bool.false_eq_true,if_false,i1];rw [hn];unfold Ci;rw [j1];simp
  unfold NH;rw [hpr];simp only [OR.bind_ok,d1,h58,decide_true,Bool.and_self,pR,e1,f1,hits,k1]
 ·rw [k2.iri];show q8.iri=_;rw [j4.iri,i4,g4.iri,f3.iri,e3.iri];show q3.iri=_;rw [d4.iri,c4.iri,hi1]
end Go.Ai.Z
namespace Go.Ai.Z
open Go.Ai
def aps:List C→List Ax
 | []=>[]
 | a::r=>r.map (axC 3 a)++aps r
theorem Wu:∀(l:List C) (x:List Ax),x.length+(aps l).length≤1024→AL l x=x++aps l
 | [],x,_=>by simp [AL,aps]
 | a::r,x,h=>by
  simp only [aps,List.length_append] at h;unfold AL;rw [if_neg (by omega),Wu r _ (by rw [List.length_append];omega)];simp [aps]
theorem Q9:∀l:List C,2 * (aps l).length+l.length=l.length * l.length
 | []=>rfl
 | a::r=>by
  have ih:=Q9 r;simp only [aps,List.length_append,List.length_map,List.length_cons,Nat.add_mul,Nat.mul_add];omega
theorem QN:∀(l:List C) (x:Ax),x∈vN l→∃a b,a∈l∧b∈l∧x=axC 2 a b
 | [],x,h=>by cases h
 | [_],x,h=>by cases h
 | a::b::r,x,h=>by
  rcases List.mem_cons.1 h with rfl|h
  ·exact ⟨a,b,by simp,by simp,rfl⟩
  ·obtain ⟨p,q,h1,h2,h3⟩:=QN (b::r) x h;exact ⟨p,q,List.mem_cons_of_mem _ h1,List.mem_cons_of_mem _ h2,h3⟩
theorem WH:∀(l:List C) (x:Ax),x∈aps l→∃a b,a∈l∧b∈l∧x=axC 3 a b
 | [],x,h=>by cases h
 | a::r,x,h=>by
  rcases List.mem_append.1 h with h|h
  ·obtain ⟨b,hb,rfl⟩:=List.mem_map.1 h;exact ⟨a,b,by simp,by simp [hb],rfl⟩
  ·obtain ⟨p,q,h1,h2,h3⟩:=WH r x h;exact ⟨p,q,List.mem_cons_of_mem _ h1,List.mem_cons_of_mem _ h2,h3⟩
def opA (x:Ax):Ax:={ x with op:=true }
theorem abf {ns:List Rl} (hn:∀n∈ns,NmO n∧iZ n=true) (h2:2≤ns.length) (h6:ns.length≤6) (N:Nat):∃r,NH (NE ns) ((NE ns).length+1) N r00=.ok (vN (ns.map qj)) r∧r.iri=[]:=by
 have h:=aaV (Zb NxE) (by show skp []=[];rfl) ns (fun n hm=>(hn n hm).1);have hlen:=Qx _ _ h;refine Ws h (by simp) (by simp) ⟨_,_,rfl,by simp,by simp⟩ fun r L hr hm=>?_;have hll:(Fb ns).length=ns.length:=by simp [Fb]
 have hns:ns.length+1<(NE ns).length+1:=by simp [hdT,hll] at hlen;omega
 have hx:∀x∈vN (ns.map qj),pq { x with op:=false }=0:=fun x hx=>by
  obtain ⟨a,b,ha,hb,rfl⟩:=QN _ _ hx;obtain ⟨a,ha2,rfl⟩:=List.mem_map.1 ha;obtain ⟨b,hb2,rfl⟩:=List.mem_map.1 hb;exact Wx (hn a ha2).1 (hn b hb2).1 (.inl rfl) (hn a ha2).2 (hn b hb2).2
 obtain ⟨q,a1,a2,a3,a4⟩:=VY (P:=NxE) (src:=NE ns) (n:=(NE ns).length+1) (N:=N) (w:=wA2) (by decide) (body:=Ei false++Fb ns) (xs:=vN (ns.map qj)) (op:=false) (pre:=[[58]]) (fun r1 L h o p=>by
   obtain ⟨q,q2,b1,b2,b3,b4,b5,b6⟩:=Y7 (by simp) ns (fun n hm=>(hn n hm).1) h2 false _ hns r1 L h o p;refine ⟨q2, ?_,b3,b4,b5,b6⟩
   simp [Oy,X9,b1,b2]) hx [] (by have:=ND (ns.map qj);simp at this ⊢;omega) r hr L (by simpa using hm)
 refine ⟨q, ?_,a2,a3,a4⟩;rw [a1,List.nil_append]
 congr 1
 refine (List.map_congr_left fun x hx=>?_).trans (List.map_id _);obtain ⟨a,b,_,_,rfl⟩:=QN _ _ hx;rfl
theorem abg {ns:List Rl} (hn:∀n∈ns,NmO n∧iZ n=true) (h2:2≤ns.length) (h6:ns.length≤6) (N:Nat):∃r,NH (NI ns) ((NI ns).length+1) N r00=.ok ((aps (ns.map qj)).map opA) r∧r.iri=[]:=by
 have h:=aaW (Zb NxE) (by show skp []=[];rfl) ns (fun n hm=>(hn n hm).1);have hlen:=Qx _ _ h;have hal:=Q9 (ns.map qj)
 have ha:(aps (ns.map qj)).length≤100:=by
  have:(ns.map qj).length * (ns.map qj).length≤6 * 6:=Nat.mul_le_mul (by simpa using h6) (by simpa using h6)
  omega
 refine Ws h (by simp) (by simp) ⟨_,_,rfl,by simp,by simp⟩ fun r L hr hm=>?_;have hll:(Fb ns).length=ns.length:=by simp [Fb]
 have hns:ns.length+1<(NI ns).length+1:=by simp [hdT,hll] at hlen;omega
 have hx:∀x∈aps (ns.map qj),pq { x with op:=true }=0:=fun x hx=>by
  obtain ⟨a,b,ha,hb,rfl⟩:=WH _ _ hx;obtain ⟨a,ha2,rfl⟩:=List.mem_map.1 ha;obtain ⟨b,hb2,rfl⟩:=List.mem_map.1 hb;exact Wx (hn a ha2).1 (hn b hb2).1 (.inr rfl) (hn a ha2).2 (hn b hb2).2
 have hd:AL (ns.map qj) []=aps (ns.map qj):=by rw [Wu _ _ (by simp;omega)];rfl
 obtain ⟨q,a1,a2,a3,a4⟩:=VY (P:=NxE) (src:=NI ns) (n:=(NI ns).length+1) (N:=N) (w:=wA6) (by decide) (body:=Ei true++Fb ns) (xs:=aps (ns.map qj)) (op:=true) (pre:=[[58]]) (fun r1 L h o p=>by
   obtain ⟨q,q2,b1,b2,b3,b4,b5,b6⟩:=Y7 (by simp) ns (fun n hm=>(hn n hm).1) h2 true _ hns r1 L h o p;refine ⟨q2, ?_,b3,b4,b5,b6⟩
   simp [Oy,Ya,b1,b2,hd]) hx [] (by simp;omega) r hr L (by simpa using hm)
 exact ⟨q,a1,a2,a3,a4⟩
theorem Z4 {ns:List Rl} (hn:∀n∈ns,iZ n=true) (h6:ns.length≤6):(NE ns).length≤1000∧(NI ns).length≤1000:=by
 have h:∀ns:List Rl,(∀n∈ns,iZ n=true)→(yt ns).length≤26 * ns.length:=fun ns=>by
  induction ns with
  | nil=>intro _;simp [yt]
  | cons a r ih=>
   intro h;have h1:=ih fun n hn=>h n (by simp [hn]);have h2:=h a (by simp);unfold iZ at h2;rw [Bool.and_eq_true,decide_eq_true_iff] at h2;have h3:=h2.1;have e:yt (a::r)=[32,58]++a++yt r:=by simp [yt]
   rw [e];simp only [List.length_append,List.length_cons,List.length_nil];omega
 have:=h ns hn
 simp only [NE,NI,List.length_append,List.length_cons,List.length_nil];omega
theorem P5 {src:Rl} {xs:List Ax} (hs:src.length≤1000) (h:∀N,∃r,NH src (src.length+1) N r00=.ok xs r∧r.iri=[]) (s:St) (cx:Ctx) (hc:cx.lim≤s.length):
  aj P0 (.fn (.func lT) [] []) [.sl (aF src)] s cx=.ret (.tu [slf true (xs.map iH),.s [],.i .i64 0,.i .i64 0]) s:=by
 obtain ⟨r,h1,h2⟩:=h (s.length+8);have e:=adi src (by omega) s cx hc;unfold O4 at e;rw [if_neg (by omega),h1] at e;simp only [h2] at e;exact e
end Go.Ai.Z
namespace Go.Ai.Z
open Go.Ai
theorem b58 {b:UInt8} (h:(b.toNat:Int)=58):b=58:=UInt8.toNat.inj (by have:(58:UInt8).toNat=58:=rfl;omega)
section
variable (z:Bool) (l:List C) (hl:l.length≤6) (s:St) (cx:Ctx)
theorem Tc (i:Nat) (c:C) (hi:l[i]?=some c) (hc:c.name.length≤24):∀(rest:Rl) (k:Nat),c.name.drop k=rest→
  jw (aA P0.glob (aj P0) cx false kH) [0,3,4] [(0,.v (slf z (l.map aK))),(3,.v (.i .i64 i)),(4,.v (.i .i64 k))] s=
   if (58:UInt8)∈rest then .ret [(2,.v (.b true))] s else .exit 2 [(0,.v (slf z (l.map aK))),(3,.v (.i .i64 i)),(4,.v (.i .i64 (max k c.name.length:Nat))),(55,.v (.b false))] s
 | [],k,h=>by
  have h1:c.name.length≤k:=drop_nil h;have h2:¬(k:Int)<(c.name.length:Int):=by omega
  have g1:(l.map aK)[i]?=some (aK c):=by rw [List.getElem?_map,hi];rfl
  rw [if_neg (by simp),Nat.max_eq_left h1];refine ay fun K hK=>?_;simp -implicitDefEqProofs [kH,g1,h2]
 | b::r,k,h=>by
  obtain ⟨h1,h2,h3,h4⟩:=drop_cons h;have h3i:(k:Int)<(c.name.length:Int):=by omega
  have g1:(l.map aK)[i]?=some (aK c):=by rw [List.getElem?_map,hi];rfl
  have hwi:=wI (i:=k) (by omega);have ih:=Tc i c hi hc r (k+1) h2;have hmx:max (k+1) c.name.length=max k c.name.length:=by omega
  rw [hmx] at ih;refine ay fun K hK=>?_;rw [←hK,show ((k+1:Nat):Int)=(k:Int)+1 from rfl] at ih;clear hK;by_cases q:b=58
  ·subst q;simp -implicitDefEqProofs [kH,g1,h3i,h1]
  ·have q1:¬(b.toNat:Int)=58:=fun e=>q (b58 e);have q2:((58:UInt8)∈b::r)=(58∈r):=propext (List.mem_cons.trans (or_iff_right fun e=>q e.symm));simp only [q2];rw [←ih];simp -implicitDefEqProofs [kH,g1,h3i,h1,q1,hwi]
def Ae (c:C):Bool:=decide (c.kind=3) && decide (qQ c=0) && !decide ((58:UInt8)∈c.name)
theorem ac3 {c:C} (hk:c.kind=3) (h:qQ c=0):c.lo=0∧c.hi=0∧c.parts=[]∧iZ c.name=true:=by
 unfold qQ at h
 split at h
 ·cases h
 rw [Lu] at h
 split at h
 ·cases h
 rename_i h1
 split at h
 ·cases h
 rename_i h2;rw [Bool.not_eq_false] at h1 h2;unfold wJ at h1;unfold yT at h2;simp [hk] at h1 h2;exact ⟨h1.1.1,h1.1.2,h1.2,h2⟩
theorem O8 {n:Rl} (h:iZ n=true):n.length≤24:=by
 unfold iZ at h;rw [Bool.and_eq_true,decide_eq_true_iff] at h;exact h.1
include hl in
theorem Td (hx:∀c∈l,c.Ok):∀(rest:List C) (i:Nat),l.drop i=rest→
  ∃j:Int,jw (aA P0.glob (aj P0) cx false gZ) [0,3] [(0,.v (slf z (l.map aK))),(3,.v (.i .i64 i))] s=
   if rest.all Ae=true then .exit 0 [(0,.v (slf z (l.map aK))),(3,.v (.i .i64 j)),(31,.v (.b false))] s else .ret [(2,.v (.b true))] s
 | [],i,h=>by
  have h1:l.length≤i:=drop_nil h;have h2:¬(i:Int)<(l.length:Int):=by omega
  refine ⟨i,ay fun K hK=>?_⟩;simp -implicitDefEqProofs [gZ,h2]
 | c::r,i,h=>by
  obtain ⟨h1,h2,h3,h4⟩:=drop_cons h;have h3i:(i:Int)<(l.length:Int):=by omega
  have g1:(l.map aK)[i]?=some (aK c):=by rw [List.getElem?_map,h1];rfl
  have hwi:=wI (i:=i) (by omega);obtain ⟨j,ih⟩:=Td hx r (i+1) h2;have e1:=fun s cx=>qw c (Z.C.Ok.lng (hx c (List.mem_of_getElem? h1))) s cx;refine ⟨j,ay fun K hK=>?_⟩;have hKk:∀e t,K e t=K (fQ e [0,3]) t:=fun e t=>by rw [hK];exact Fe _ _ _ _
  rw [←hK,show ((i+1:Nat):Int)=(i:Int)+1 from rfl] at ih;clear hK;by_cases q1:c.kind=3
  ·have e1:∀s cx,aj P0 (.fn (.func fF) [] []) [.ag [.i .i64 3,.s c.name,.i .i64 c.lo,.i .i64 c.hi,slf c.z (c.parts.map aK)]] s cx=.ret (.i .i64 (qQ c)) s:=fun s cx=>by rw [←q1,Jc];exact e1 s cx
   by_cases q2:qQ c=0
   ·have e2:=Tc z l s cx i c h1 (O8 (ac3 q1 q2).2.2.2) c.name 0 rfl;rw [show ((0:Nat):Int)=0 from rfl] at e2;by_cases q3:(58:UInt8)∈c.name
    ·rw [if_pos q3] at e2;simp -implicitDefEqProofs [gZ,g1,h3i,e1,q1,q2,q3,e2,Ae]
    ·rw [if_neg q3] at e2;have q4:(c::r).all Ae=r.all Ae:=by simp [Ae,q1,q2,q3]
     rw [q4,←ih];simp -implicitDefEqProofs [gZ,g1,h3i,e1,q1,q2,e2,hwi]
   ·simp -implicitDefEqProofs [gZ,g1,h3i,e1,q1,q2,Ae]
  ·simp -implicitDefEqProofs [gZ,g1,h3i,e1,q1,Ae]
include hl in
theorem S9 (hx:∀c∈l,c.name.length≤24):∀(rest:List C) (i:Nat) (acc:Rl),l.drop i=rest→acc.length+26 * rest.length≤1000→
  ∃j:Int,jw (aA P0.glob (aj P0) cx false mP) [0,5,6] [(0,.v (slf z (l.map aK))),(5,.v (.s acc)),(6,.v (.i .i64 i))] s=
   .exit 4 [(0,.v (slf z (l.map aK))),(5,.v (.s (acc++yt (rest.map C.name)))),(6,.v (.i .i64 j)),(69,.v (.b false))] s
 | [],i,acc,h,hb=>by
  have h1:l.length≤i:=drop_nil h;have h2:¬(i:Int)<(l.length:Int):=by omega
  refine ⟨i,ay fun K hK=>?_⟩;simp -implicitDefEqProofs [mP,h2,yt]
 | c::r,i,acc,h,hb=>by
  obtain ⟨h1,h2,h3,h4⟩:=drop_cons h;have h3i:(i:Int)<(l.length:Int):=by omega
  have g1:(l.map aK)[i]?=some (aK c):=by rw [List.getElem?_map,h1];rfl
  have hwi:=wI (i:=i) (by omega);have hcl:=hx c (List.mem_of_getElem? h1);obtain ⟨j,ih⟩:=S9 hx r (i+1) (acc++[32,58]++c.name) h2 (by simp at hb ⊢;omega);refine ⟨j,ay fun K hK=>?_⟩;rw [←hK,show ((i+1:Nat):Int)=(i:Int)+1 from rfl] at ih;clear hK;have he:acc++yt ((c::r).map C.name)=acc++[32,58]++c.name++yt (r.map C.name):=by simp [yt]
  rw [he,←ih];simp at hb;have b1:acc.length≤4611686018427387902:=by omega
  have b2:acc.length+(c.name.length+1+1)≤4611686018427387904:=by omega
  simp -implicitDefEqProofs [mP,g1,h3i,hwi,b1,b2]
end
def nmK (c:C):C:=qj c.name
theorem acN {c:C} (h:Ae c=true):c=.mk 3 c.name 0 0 c.z []:=by
 unfold Ae at h;simp only [Bool.and_eq_true,decide_eq_true_eq] at h;obtain ⟨h1,h2,h3,_⟩:=ac3 h.1.1 h.1.2;obtain ⟨k,n,lo,hi,z,ps⟩:=c;simp only [C.Wh,C.afj,C.afs,C.Sr] at h h1 h2 h3;rw [h.1.1,h1,h2,h3];rfl
theorem abP {c:C} (h:Ae c=true):SmC (nmK c) c:=by
 rw [acN h];exact .mk 3 c.name 0 0 true c.z [] [] rfl (by simp) (fun i p q h=>by simp at h)
theorem ae5 {k:Int} {b:Bool} {c d:C} (hc:Ae c=true) (hd:Ae d=true):SmA { axC k (nmK c) (nmK d) with op:=b } ⟨k,b,c,d,true,[],[],[],[]⟩:=
 ⟨rfl,rfl,abP hc,abP hd,rfl,by simp [axC],rfl,rfl,rfl⟩
theorem WB {k:Int} {b:Bool} {c d:C} (hc:Ae c=true) (hd:Ae d=true) (s:St) (cx:Ctx):
  aj P0 (.fn (.func jF) [] []) [iH { axC k (nmK c) (nmK d) with op:=b },.ag [.i .i64 k,.b b,.i .i64 c.kind,.s c.name,.i .i64 c.lo,.i .i64 c.hi,slf c.z (c.parts.map aK),.i .i64 d.kind,.s d.name,.i .i64 d.lo,.i .i64 d.hi,slf d.z (d.parts.map aK),.ns,.s [],.s [],.s []]] s cx=.ret (.b true) s:=
 abp (ae5 hc hd) s cx
theorem Wp:∀(l:List C) (i:Nat) (a b:C),l[i]?=some a→l[i+1]?=some b→(vN l)[i]?=some (axC 2 a b)
 | [],i,a,b,h,_=>by simp at h
 | [_],i,a,b,_,h=>by simp at h
 | p::q::r,0,a,b,h1,h2=>by
  simp at h1 h2;subst h1 h2;rfl
 | p::q::r,i+1,a,b,h1,h2=>by
  have:=Wp (q::r) i a b (by simpa using h1) (by simpa using h2)
  simpa [vN] using this
section
variable (z:Bool) (l:List C) (hl:l.length≤6) (hx:∀c∈l,Ae c=true) (s:St) (cx:Ctx) (X Y:List Ax) (hY:Y.length≤1000)
def enL (z:Bool) (l:List C) (X Y:List Ax) (n:Nat):Env:=[(0,.v (slf z (l.map aK))),(7,.v (slf true (X.map iH))),(11,.v (slf true (Y.map iH))),(15,.v (.i .i64 n))]
include hl hx hY in
theorem SX (i:Nat) (c:C) (hi:l[i]?=some c):∀(rest:List C) (k n:Nat) (Z:List Ax),l.drop k=rest→Y.drop n=rest.map (fun d=>opA (axC 3 (nmK c) (nmK d)))++Z→
  ∃j:Int,jw (aA P0.glob (aj P0) cx false mO) [0,7,11,15,16,17] (enL z l X Y n++[(16,.v (.i .i64 i)),(17,.v (.i .i64 k))]) s=
   .exit 8 (enL z l X Y (n+rest.length)++[(16,.v (.i .i64 i)),(17,.v (.i .i64 j)),(158,.v (.b false))]) s
 | [],k,n,Z,h,hZ=>by
  have h1:l.length≤k:=drop_nil h;have h2:¬(k:Int)<(l.length:Int):=by omega
  refine ⟨k,ay fun K hK=>?_⟩;unfold enL;simp -implicitDefEqProofs [mO,h2]
 | d::r,k,n,Z,h,hZ=>by
  obtain ⟨h1,h2,h3,h4⟩:=drop_cons h;have h3i:(k:Int)<(l.length:Int):=by omega
  have g1:(l.map aK)[i]?=some (aK c):=by rw [List.getElem?_map,hi];rfl
  have g2:(l.map aK)[k]?=some (aK d):=by rw [List.getElem?_map,h1];rfl
  obtain ⟨y1,y2,y3,_⟩:=drop_cons hZ;have g3:(Y.map iH)[n]?=some (iH (opA (axC 3 (nmK c) (nmK d)))):=by rw [List.getElem?_map,y1];rfl
  have hwi:=wI (i:=k) (by omega);have hwn:=wI (i:=n) (by omega);obtain ⟨j,ih⟩:=SX i c hi r (k+1) (n+1) Z h2 y2;have e1:=WB (k:=3) (b:=true) (hx c (List.mem_of_getElem? hi)) (hx d (List.mem_of_getElem? h1));have e2:({ axC 3 (nmK c) (nmK d) with op:=true }:Ax)=opA (axC 3 (nmK c) (nmK d)):=rfl;rw [e2] at e1;refine ⟨j,ay fun K hK=>?_⟩;rw [show n+(d::r).length=n+1+r.length by simp;omega];rw [←hK] at ih;clear hK h4 hZ hx y2;rw [←ih];clear ih;unfold enL;generalize opA (axC 3 (nmK c) (nmK d))=R at *;generalize Y.map iH=Q at *;generalize X.map iH=XX at *;have z1:(l.map aK).length=l.length:=List.length_map _;generalize l.map aK=P at *;simp -implicitDefEqProofs [mO,z1,h3i,g1,g2,g3,e1,hwi,hwn,dS]
include hl hx hY in
theorem SY (hX:X=vN (l.map nmK)):∀(rest:List C) (i n:Nat),l.drop i=rest→Y.drop n=(aps (rest.map nmK)).map opA→
  ∃(j m:Int),jw (aA P0.glob (aj P0) cx false kG) [0,7,11,15,16] (enL z l X Y n++[(16,.v (.i .i64 i))]) s=
    .exit 6 [(0,.v (slf z (l.map aK))),(7,.v (slf true (X.map iH))),(11,.v (slf true (Y.map iH))),(15,.v (.i .i64 m)),(16,.v (.i .i64 j)),(129,.v (.b false))] s
 | [],i,n,h,hZ=>by
  have h1:l.length≤i:=drop_nil h;have h2:¬(i:Int)<(l.length:Int):=by omega
  refine ⟨i,n,ay fun K hK=>?_⟩;unfold enL;simp -implicitDefEqProofs [kG,h2]
 | d::r,i,n,h,hZ=>by
  obtain ⟨h1,h2,h3,h4⟩:=drop_cons h;have h3i:(i:Int)<(l.length:Int):=by omega
  have g1:(l.map aK)[i]?=some (aK d):=by rw [List.getElem?_map,h1];rfl
  have hwi:=wI (i:=i) (by omega)
  have hZ1:Y.drop n=r.map (fun x=>opA (axC 3 (nmK d) (nmK x)))++(aps (r.map nmK)).map opA:=by
   rw [hZ];simp [aps,List.map_append,Function.comp_def]
  have hZ2:Y.drop (n+r.length)=(aps (r.map nmK)).map opA:=by
   rw [←List.drop_drop,hZ1,List.drop_append,List.drop_eq_nil_of_le (by simp)];simp
  obtain ⟨k,e4⟩:=SX z l hl hx s cx X Y hY i d h1 r (i+1) n _ h2 hZ1;obtain ⟨j,m,ih⟩:=SY hX r (i+1) (n+r.length) h2 hZ2;refine ⟨j,m,ay fun K hK=>?_⟩;have hKk:∀e t,K e t=K (fQ e [0,7,11,15,16]) t:=fun e t=>by rw [hK];exact Fe _ _ _ _
  rw [←hK] at ih;clear hK h4 hZ hZ1 hZ2;rw [←ih];clear ih;unfold enL at e4 ⊢
  cases i with
  | zero=>
   clear hx hX;simp only [List.cons_append,List.nil_append] at e4 ⊢;generalize Y.map iH=Q at *;generalize X.map iH=XX at *;have z1:(l.map aK).length=l.length:=List.length_map _;generalize l.map aK=P at *;simp at e4;have h0:0<l.length:=by omega
   simp -implicitDefEqProofs [kG,z1,h0,g1,e4,hwi,show IntKind.i64.wrap 1=1 from w64 (by decide) (by decide)]
  | succ i=>
   obtain ⟨a,ha⟩:∃a,l[i]?=some a:=⟨l[i],List.getElem?_eq_getElem (by omega)⟩;have g2:(l.map aK)[i]?=some (aK a):=by rw [List.getElem?_map,ha];rfl
   have g3:(X.map iH)[i]?=some (iH (axC 2 (nmK a) (nmK d))):=by
    rw [hX,List.getElem?_map,Wp (l.map nmK) i (nmK a) (nmK d) (by rw [List.getElem?_map,ha];rfl) (by rw [List.getElem?_map,h1];rfl)];rfl
   have e1:=WB (k:=2) (b:=false) (hx a (List.mem_of_getElem? ha)) (hx d (List.mem_of_getElem? h1));have e2:({ axC 2 (nmK a) (nmK d) with op:=false }:Ax)=axC 2 (nmK a) (nmK d):=rfl;rw [e2] at e1;clear hx hX e2;have w0:IntKind.i64.wrap (i:Int)=i:=w64 (by omega) (by omega);simp only [List.cons_append,List.nil_append] at e4 ⊢;generalize axC 2 (nmK a) (nmK d)=R at *;generalize Y.map iH=Q at *;generalize X.map iH=XX at *;have z1:(l.map aK).length=l.length:=List.length_map _;generalize l.map aK=P at *;rw [show ((i+1+1:Nat):Int)=(i:Int)+1+1 from rfl] at e4;rw [show ((i+1:Nat):Int)=(i:Int)+1 from rfl] at *;have p0:(0:Int)≤(i:Int)+1:=by omega
   have p1:(0:Int)<(i:Int)+1:=by omega
   have p2:((i:Int)+1).toNat=i+1:=by omega
   simp -implicitDefEqProofs [kG,z1,h3i,g1,g2,g3,e1,e4,hwi,w0,dS,p0,p1,p2]
end
end Go.Ai.Z
namespace Go.Ai.Z
open Go.Ai
theorem ZY:∀l:List C,l≠[]→(vN l).length+1=l.length
 | [],h=>absurd rfl h
 | [_],_=>rfl
 | a::b::r,_=>by have:=ZY (b::r) (by simp);simp only [vN,List.length_cons] at this ⊢;omega
theorem Ui (z:Bool) (l:List C) (hl:l.length≤1125899906842624) (hx:∀x∈l,x.Ok) (hs:aj P0 (.fn (.func uU) [] []) [] [] ⟨0,0⟩=.ret (.b true) []) (cx:Ctx):
  aj P0 (.fn (.func rJ) [] []) [slf z (l.map aK)] [] cx=.ret (.b true) []:=by
 refine Ho (by simp) ?_;have z1:(l.map aK).length=l.length:=List.length_map _;by_cases h2:l.length<2
 ·have h2i:(l.length:Int)<2:=by omega
  simp -implicitDefEqProofs [af,jC,hs,z1,h2i]
 have h2i:¬(l.length:Int)<2:=by omega
 by_cases h6:6<l.length
 ·have h6i:(6:Int)<(l.length:Int):=by omega
  simp -implicitDefEqProofs [af,jC,hs,z1,h2i,h6i]
 have h6i:¬(6:Int)<(l.length:Int):=by omega
 obtain ⟨j0,e0⟩:=Td z l (by omega) [] ⟨0,0⟩ hx l 0 rfl;rw [show ((0:Nat):Int)=0 from rfl] at e0;by_cases ha:l.all Ae=true
 ·rw [if_pos ha] at e0;have hn:∀c∈l,Ae c=true:=List.all_eq_true.1 ha
  have hp:∀c∈l,iZ c.name=true:=fun c hc=>by
   have h:=hn c hc;unfold Ae at h;simp only [Bool.and_eq_true,decide_eq_true_eq] at h;exact (ac3 h.1.1 h.1.2).2.2.2
  have h58:∀c∈l,(58:UInt8) ∉ c.name:=fun c hc=>by
   have h:=hn c hc;unfold Ae at h;simp only [Bool.and_eq_true,Bool.not_eq_true',decide_eq_false_iff_not] at h;exact h.2
  have hN:∀n∈l.map C.name,NmO n∧iZ n=true:=fun n hm=>by
   obtain ⟨c,hc,rfl⟩:=List.mem_map.1 hm;exact ⟨⟨.inl (hp c hc),h58 c hc⟩,hp c hc⟩
  obtain ⟨j2,e2⟩:=S9 z l (by omega) [] ⟨0,0⟩ (fun c hc=>O8 (hp c hc)) l 0 [] rfl (by simp;omega);rw [show ((0:Nat):Int)=0 from rfl,List.nil_append] at e2;obtain ⟨l1,l2⟩:=Z4 (fun n hm=>(hN n hm).2) (by simpa using (by omega:l.length≤6));have r1:=P5 l1 (abf hN (by simp;omega) (by simp;omega)) [] ⟨0,0⟩ (Nat.le_refl _);have r2:=P5 l2 (abg hN (by simp;omega) (by simp;omega)) [] ⟨0,0⟩ (Nat.le_refl _);have hmm:(l.map C.name).map qj=l.map nmK:=by rw [List.map_map];rfl
  rw [hmm] at r1 r2;have hXl:=ZY (l.map nmK) (by intro e;simp at e;subst e;simp at h2);have hYl:=Q9 (l.map nmK);simp only [List.length_map] at hXl hYl
  have hYl2:(((aps (l.map nmK)).map opA).length:Int)=(l.length:Int) * ((l.length:Int) - 1) / 2:=by
   rw [List.length_map]
   have:(2:Int) * ((aps (l.map nmK)).length:Int)+(l.length:Int)=(l.length:Int) * (l.length:Int):=by exact_mod_cast hYl
   rw [Int.mul_sub,Int.mul_one];omega
  have hYb:((aps (l.map nmK)).map opA).length≤1000:=by
   have:l.length * l.length≤6 * 6:=Nat.mul_le_mul (by omega) (by omega)
   simp;omega
  obtain ⟨j3,m3,e3⟩:=SY z l (by omega) hn [] ⟨0,0⟩ (vN (l.map nmK)) ((aps (l.map nmK)).map opA) hYb rfl l 0 0 rfl rfl;unfold enL at e3;simp only [List.cons_append,List.nil_append] at e3;rw [show ((0:Nat):Int)=0 from rfl] at e3;have hA:(aps (l.map nmK)).length=((aps (l.map nmK)).map opA).length:=by simp
  have z2:((vN (l.map nmK)).map iH).length=(vN (l.map nmK)).length:=List.length_map _;have z3:(((aps (l.map nmK)).map opA).map iH).length=((aps (l.map nmK)).map opA).length:=List.length_map _;generalize (aps (l.map nmK)).map opA=Y at *;generalize vN (l.map nmK)=X at *;have q1:=O7 true (X.map iH);have q2:=O7 true (Y.map iH);have b1:(X.length:Int)=(l.length:Int) - 1:=by omega
  have b2:(Y.length:Int)=(l.length:Int) * ((l.length:Int) - 1) / 2:=hYl2;have w1:IntKind.i64.wrap ((l.length:Int) - 1)=(l.length:Int) - 1:=w64 (by omega) (by omega);have hb:(l.length:Int) * ((l.length:Int) - 1)≤2005∧0≤(l.length:Int) * ((l.length:Int) - 1):=by omega
  have w2:IntKind.i64.wrap ((l.length:Int) * ((l.length:Int) - 1))=(l.length:Int) * ((l.length:Int) - 1):=w64 (by omega) (by omega);have w3:IntKind.i64.wrap (((l.length:Int) * ((l.length:Int) - 1)).tdiv 2)=(Y.length:Int):=by rw [Int.tdiv_eq_ediv_of_nonneg hb.2,←b2];exact w64 (by omega) (by omega)
  unfold NE at r1 l1;unfold NI at r2;simp only [List.length_append] at l1;simp only [List.cons_append,List.nil_append,List.append_assoc] at r1 r2;generalize yt (l.map C.name)=T at *;generalize X.map iH=XX at *;generalize Y.map iH=YY at *;generalize l.map aK=P at *;have t4611686018427387857:T.length≤4611686018427387857:=by omega
  have t4611686018427387841:T.length≤4611686018427387841:=by omega
  have t4611686018427387839:T.length≤4611686018427387839:=by omega
  have t1:T.length≤4611686018427387859:=by omega
  clear hn hp h58 hN hXl hYl hYl2 hYb ha hx hA hmm hb;simp -implicitDefEqProofs [af,jC,hs,z1,h2i,h6i,e0,e2,r1,r2,e3,z2,z3,b1,w1,w2,w3,q1,q2,t4611686018427387841,t4611686018427387839,t1,t4611686018427387857]
 ·rw [if_neg ha] at e0;simp -implicitDefEqProofs [af,jC,hs,z1,h2i,h6i,e0]
end Go.Ai.Z
