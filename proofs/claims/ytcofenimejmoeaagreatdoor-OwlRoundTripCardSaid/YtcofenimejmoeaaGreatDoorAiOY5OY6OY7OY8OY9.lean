/-
 The tokens of a printed axiom are read back.
-/
import Derived.Test.YtcofenimejmoeaaGreatDoorAiOY1OY2OY3OY4
import Derived.Test.YtcofenimejmoeaaGreatDoorAiOW1OW2OW3OW4OW5
import Derived.Test.YtcofenimejmoeaaGreatDoorAiCircCRefR37R61R62R63K13
import Derived.Test.YtcofenimejmoeaaGreatDoorAiOX18OX19OX20OX21
import Derived.Test.YtcofenimejmoeaaGreatDoorAiOW15OW16OW17
import Derived.Test.YtcofenimejmoeaaGreatDoorAiK8K9K10K11K12
set_option maxRecDepth 100000
set_option linter.unusedSimpArgs false
set_option linter.unusedVariables false
set_option linter.unusedSectionVars false
namespace Go.Ai.Z
open Go.Ai
theorem ac5 (c:C):kQ (zc c)=kQ c:=by rw [zl];unfold kQ;simp only [C.Ed,C.GV,C.aat,C.aaC,C.Df,List.length_map];rfl
theorem adF (c:C):tX (zc c)=tX c:=by rw [zl];unfold tX;simp only [C.Ed,C.GV];rfl
theorem afs:∀c:C,iG (zc c)=iG c:=by
 refine C.ind' fun c ih=>?_
 have hL:∀l:List C,(∀p∈l,iG (zc p)=iG p)→rG (l.map zc)=rG l:=fun l=>by
  induction l with
  | nil=>intro _;rfl
  | cons a r ihr=>intro h;simp only [List.map_cons,rG];rw [h a (by simp),ihr (fun p hp=>h p (by simp [hp]))]
 have hp:(zc c).parts=c.parts.map zc:=by rw [zl];rfl
 rw [CU,CU c,ac5,adF,hp,hL _ ih]
theorem afC:∀c:C,nV (zc c)=nV c:=by
 refine C.ind' fun c ih=>?_
 have hL:∀l:List C,(∀p∈l,nV (zc p)=nV p)→zN (l.map zc)=zN l:=fun l=>by
  induction l with
  | nil=>intro _;rfl
  | cons a r ihr=>intro h;simp only [List.map_cons,zN];rw [h a (by simp),ihr (fun p hp=>h p (by simp [hp]))]
 have hp:(zc c).parts=c.parts.map zc:=by rw [zl];rfl
 rw [CX,CX c,hp,hL _ ih]
theorem aeJ:∀c:C,yT (zc c)=yT c:=by
 refine C.ind' fun c ih=>?_
 have hL:∀l:List C,(∀p∈l,yT (zc p)=yT p)→En (l.map zc)=En l:=fun l=>by
  induction l with
  | nil=>intro _;rfl
  | cons a r ihr=>intro h;simp only [List.map_cons,En];rw [h a (by simp),ihr (fun p hp=>h p (by simp [hp]))]
 have hp:(zc c).parts=c.parts.map zc:=by rw [zl];rfl
 rw [Nl,Nl c,hp,hL _ ih]
theorem aaM:∀c:C,Bf (zc c)=Bf c:=by
 refine C.ind' fun c ih=>?_
 have hL:∀l:List C,(∀p∈l,Bf (zc p)=Bf p)→x9 (l.map zc)=x9 l:=fun l=>by
  induction l with
  | nil=>intro _;rfl
  | cons a r ihr=>intro h;simp only [List.map_cons,x9];rw [h a (by simp),ihr (fun p hp=>h p (by simp [hp]))]
 have hp:(zc c).parts=c.parts.map zc:=by rw [zl];rfl
 have hk:(zc c).kind=c.kind:=by rw [zl];rfl
 rw [Sz,Sz c,hp,hk,hL _ ih]
theorem Yj (c:C):uP (zc c)=uP c:=by unfold uP;rw [aeJ,afC,afs]
theorem aeD (c:C):emptyS (zc c)=emptyS c:=by rw [zl];unfold emptyS;simp only [C.Ed,C.GV,C.aat,C.aaC,C.Df,List.length_map];rfl
def zA (x:Ax):Ax:={ x with left:=zc x.left,right:=zc x.right,z:=x.roles.isEmpty }
theorem Yk (x:Ax):iR (zA x)=iR x:=by
 unfold iR;have h1:oV (zA x)=oV x:=by unfold oV zA CJ;simp only [aeD]
 have h2:CB (zA x) (kF (zA x).kind)=CB x (kF x.kind):=rfl;have h3:(zA x).kind=x.kind:=rfl;have h4:(zA x).left=zc x.left:=rfl;have h5:(zA x).right=zc x.right:=rfl;rw [h1,h2,h3,h4,h5,Yj,Yj,aaM,aaM]
structure AOK (x:Ax):Prop where
 k:x.kind=1∨x.kind=2∨x.kind=3∨x.kind=4∨x.kind=5∨x.kind=6∨x.kind=7∨x.kind=8∨x.kind=9
 l:if (kF x.kind).l=true then iG x.left=0∧nV x.left≤64 else emptyS x.left=true
 r:if (kF x.kind).r=true then iG x.right=0∧nV x.right≤64 else emptyS x.right=true
 role:if (kF x.kind).role=true then NmV x.role else x.role=[]
 a:if (kF x.kind).a=true then NmV x.a else x.a=[]
 b:if (kF x.kind).b=true then NmV x.b else x.b=[]
 rs:∀r∈x.roles,NmV r
 lo:(kF x.kind).lo≤x.roles.length
 hi:(x.roles.length:Int)≤(kF x.kind).hi
theorem aok {x:Ax} (h:iR x=0):AOK x:=by
 unfold iR at h
 split at h
 ·cases h
 split at h
 ·cases h
 rename_i hs hn;have hs:oV x=true:=by simpa using hs
 have hn:CB x (kF x.kind)=true:=by simpa using hn
 unfold Uf at h
 split at h
 ·rename_i q;exact absurd h q.2
 split at h
 ·rename_i q;exact absurd h q.2
 rename_i ql qr;unfold oV at hs;simp only [Bool.and_eq_true,Bool.or_eq_true,decide_eq_true_eq] at hs;obtain ⟨⟨⟨⟨⟨⟨⟨s0,s1⟩,s2⟩,s3⟩,s4⟩,s5⟩,s6⟩,s7⟩:=hs;unfold CB at hn;simp only [Bool.and_eq_true,Bool.or_eq_true,Bool.not_eq_true'] at hn;obtain ⟨⟨⟨n1,n2⟩,n3⟩,n4⟩:=hn
 have hps:∀n:Rl,y5 n=true→NmV n:=fun n h=>by
  unfold y5 at h;rw [Bool.or_eq_true] at h;exact h
 have hcs:∀c:C,uP c=0→iG c=0∧nV c≤64:=fun c h=>by
  unfold uP at h
  split at h
  ·cases h
  ·rename_i q;exact ⟨h,by omega⟩
 have hk:1≤x.kind∧x.kind≤9:=by simp [CJ] at s0;exact s0
 have hall:∀{l:List Rl},allPlain l=true→∀r∈l,oJ r=true:=fun {l}=>by
  induction l with
  | nil=>intro _ r hr;cases hr
  | cons a l ih=>
   intro h r hr;simp only [allPlain,Bool.and_eq_true] at h;rcases List.mem_cons.1 hr with rfl|hr
   ·exact h.1
   ·exact ih h.2 r hr
 refine ⟨by omega, ?_, ?_, ?_, ?_, ?_,fun r hr=>.inl (hall n4 r hr),s6,s7⟩
 ·split
  ·rename_i q;exact hcs _ (Classical.not_not.1 fun e=>ql ⟨q,e⟩)
  ·rename_i q;exact s1.resolve_left q
 ·split
  ·rename_i q;exact hcs _ (Classical.not_not.1 fun e=>qr ⟨q,e⟩)
  ·rename_i q;exact s2.resolve_left q
 ·split
  ·rename_i q;exact .inl (n1.resolve_left (by rw [q];exact Bool.noConfusion))
  ·rename_i q;exact s3.resolve_left q
 ·split
  ·rename_i q;exact hps _ (n2.resolve_left (by rw [q];exact Bool.noConfusion))
  ·rename_i q;exact s4.resolve_left q
 ·split
  ·rename_i q;exact hps _ (n3.resolve_left (by rw [q];exact Bool.noConfusion))
  ·rename_i q;exact s5.resolve_left q
mutual
def nmC:C→List Rl
 | .mk _ n _ _ _ ps=>n::adE ps
def adE:List C→List Rl
 | []=>[]
 | c::r=>nmC c++adE r
end
theorem aam:∀l:List C,adE l=l.flatMap nmC
 | []=>by simp [adE]
 | c::r=>by simp [adE,aam r]
theorem Y6 (c:C):nmC c=c.name::c.parts.flatMap nmC:=by cases c;simp [nmC,aam]
def nmX (x:Ax):List Rl:=nmC x.left++nmC x.right++x.roles++[x.role,x.a,x.b]
def afd (pre:List Rl) (n:Rl):Prop:=∀x y,lC 58 n=some (x,y)→x++[58]∈pre∧x≠[111,119,108]∧x≠[120,115,100]
theorem KD {pre:List Rl} {n:Rl} (h:NmV n) (h58:([58]:Rl)∈pre) (hd:afd pre n):NmP pre n:=ahU h ⟨h58,hd⟩
theorem agT {pre:List Rl} (h58:([58]:Rl)∈pre):∀c:C,iG c=0→(∀n∈nmC c,afd pre n)→VC pre c:=by
 refine C.ind' fun c ih hw hd=>?_
 have h0:kQ c=true∧tX c=true∧rG c.parts=0:=by
  rw [CU] at hw
  split at hw
  ·cases hw
  split at hw
  ·cases hw
  ·rename_i a b;exact ⟨by simpa using a,by simpa using b,hw⟩
 have hL:∀l:List C,rG l=0→∀p∈l,iG p=0:=fun l=>by
  induction l with
  | nil=>intro _ p hp;cases hp
  | cons a r ihr=>
   intro h p hp;simp only [rG] at h
   split at h
   ·rename_i ha;rcases List.mem_cons.1 hp with rfl|hp
    ·exact ha
    ·exact ihr h p hp
   ·rename_i ha;exact absurd h ha
 rw [Y6] at hd;refine .mk c h0.1 (fun hk=>?_) fun p hp=>ih p hp (hL _ h0.2.2 p hp) fun n hn=>hd n (by rw [List.mem_cons];exact .inr (List.mem_flatMap.2 ⟨p,hp,hn⟩))
 have hv:NmV c.name:=by
  have h1:=h0.2.1;unfold tX at h1
  rcases hk with k|k|k|k<;>simp [k] at h1
  ·exact .inl h1
  ·exact h1
  ·exact .inl h1
  ·exact .inl h1
 exact KD hv h58 (hd c.name (by simp))
def argX (x:Ax):List Tx:=
 if x.kind=1 then jQ x.left++jQ x.right
 else if x.kind=2 then jQ x.left++jQ x.right
 else if x.kind=3 then jQ x.left++jQ x.right
 else if x.kind=4 then (4,owN x.role)::jQ x.right
 else if x.kind=5 then [(4,owN (x.roles.headD [])),(4,owN x.role)]
 else if x.kind=6 then (4,wA2)::(1,[40])::(x.roles.map (fun r=>((4,owN r):Tx))++[(1,[41]),(4,owN x.role)])
 else if x.kind=7 then [(4,owN x.role)]
 else if x.kind=8 then jQ x.right++[(4,owN x.a)]
 else [(4,owN x.role),(4,owN x.a),(4,owN x.b)]
def Xm (b:Bool):List Tx:=if b=true then Uu else []
def yD (x:Ax):List Tx:=(4,yJ x.kind)::(1,[40])::(Xm x.op++argX x++[(1,[41])])
theorem GI {pre:List Rl} (c:C) (h:VC pre c):∀t∈(jQ c).head?,t.2≠wB9:=by
 cases h with
 | mk _ hs hn hp=>
 rw [GK];split
 ·simp
 split
 ·simp
 split
 ·simp
 split
 ·simp
 split
 ·simp
 split
 ·simp
 ·intro t ht;simp at ht;subst ht;intro he
  have:=PD c.name
  simp only at he;rw [he] at this;simp at this
theorem Dh (n:Rl) (w:Rl) (hw:(58:UInt8) ∉ w):owN n≠w:=fun h=>by
 have:=PD n
 rw [h] at this;exact hw this
theorem wo {c:C} (h:emptyS c=true):zc c=zC:=by
 unfold emptyS at h;simp only [Bool.and_eq_true,decide_eq_true_eq] at h;obtain ⟨⟨⟨⟨h1,h2⟩,h3⟩,h4⟩,h5⟩:=h;have h6:c.parts=[]:=List.length_eq_zero_iff.1 (by omega);rw [zl,h1,h2,h3,h4,h6];rfl
section
variable {P:Rl→Prop} {src:Rl} {pre:List Rl}
theorem adr {n:Rl} (hn:NmP pre n):Par P src pre (nY src) n [(4,owN n)]:=by
 refine ⟨by simp,by simpa using Dh n _ (by simp),fun r L h hr=>?_⟩;exact rU h (by rw [hr];exact hn)
theorem Kq {α:Type} {f:Rd→OR α} {v:α} {T:List Tx} (h:Par P src pre f v T):∃t T',T=t::T':=by
 cases T with
 | nil=>exact absurd rfl h.1
 | cons t T'=>exact ⟨t,T',rfl⟩
theorem zX {T:List Tx} (h58:([58]:Rl)∈pre) (b:Bool) (hT:∃t T',T=t::T'∧t.2≠wB9) (n:Nat) (hn:2≤n) (r:Rd) (L:List Tx) (h:My P src r (Xm b++T++L)) (ho:r.op=false) (hr:r.pre=pre):
  ∃q,qF src n r=.ok () q∧My P src q (T++L)∧q.pre=r.pre∧q.iri=r.iri∧q.op=b:=by
 obtain ⟨t,T',rfl,ht⟩:=hT;obtain ⟨n,rfl⟩:∃k,n=k+2:=⟨n - 2,by omega⟩;rw [List.append_assoc,List.cons_append] at h;obtain ⟨q,h1,h2,h3,h4,h5,_⟩:=adG n b (t:=t) (L:=T'++L) h ht (by rw [hr];exact h58) ho;exact ⟨q,h1,h2,h3,h4,h5⟩
theorem ad4 (h58:([58]:Rl)∈pre) (ho:[111,119,108,58]∈pre) (hx:[120,115,100,58]∈pre) {x:Ax} (hc:iR x=0) (hd:∀n∈nmX x,afd pre n) {n N:Nat} (hn:(yD x).length≤n) (l:List Ax) (hl:l.length+1≤1024) (r:Rd) (L:List Tx) (hr:r.pre=pre) (h:My P src r (yD x++L)):
  ∃q,FW src n N l r=.ok (l++[zA x]) q∧My P src q L∧q.pre=r.pre∧q.iri=r.iri:=by
 have A:=aok hc;have hcz:iR { (({ x with op:=false }:Ax) |> zA) with op:=x.op }=0:=(Yk x).trans hc;have hvl:∀w:iG x.left=0,VC pre x.left:=fun w=>agT h58 _ w fun n hn=>hd n (by unfold nmX;simp [hn]);have hvr:∀w:iG x.right=0,VC pre x.right:=fun w=>agT h58 _ w fun n hn=>hd n (by unfold nmX;simp [hn]);have hnr:NmV x.role→NmP pre x.role:=fun h=>KD h h58 (hd _ (by unfold nmX;simp));have hna:NmV x.a→NmP pre x.a:=fun h=>KD h h58 (hd _ (by unfold nmX;simp));have hnb:NmV x.b→NmP pre x.b:=fun h=>KD h h58 (hd _ (by unfold nmX;simp));have hnrs:∀r∈x.roles,NmP pre r:=fun r hr=>KD (A.rs r hr) h58 (hd _ (by unfold nmX;simp [hr]))
 have hfin:∀(w:Rl),yJ x.kind=w→ad3 w=true→(∀(r1:Rd) (L:List Tx),My P src r1 (Xm x.op++argX x++((1,[41])::L))→r1.op=false→r1.pre=pre→
   ∃q,ET src n w r1=.ok [zA { x with op:=false }] q∧My P src q ((1,[41])::L)∧q.pre=r1.pre∧q.iri=r1.iri∧q.op=x.op)→
   ∃q,FW src n N l r=.ok (l++[zA x]) q∧My P src q L∧q.pre=r.pre∧q.iri=r.iri:=fun w hw hi hb=>by
  have h2:My P src r ((4,w)::(1,[40])::(Xm x.op++argX x++(1,[41])::L)):=by
   unfold yD at h;rw [hw] at h
   simpa using h
  exact afZ (n:=n) (N:=N) hi (op:=x.op) (xs:=[zA { x with op:=false }]) hb (fun y hy=>by rw [List.mem_singleton.1 hy];exact hcz) l (by simpa using hl) r hr L h2
 have hn2:2≤n:=by unfold yD at hn;simp at hn;omega
 have hlen:(argX x).length≤n:=by unfold yD at hn;simp at hn;omega
 rcases A.k with k|k|k|k|k|k|k|k|k
 ·have Al:=A.l;have Ar:=A.r;have Ao:=A.role;have Aa:=A.a;have Ab:=A.b;have Alo:=A.lo;have Ahi:=A.hi;simp [k,kF] at Al Ar Ao Aa Ab Alo Ahi;have hro:x.roles=[]:=Ahi;have p1:=BI (P:=P) (src:=src) ho hx x.left (hvl Al.1) n (by unfold argX at hlen;simp [k] at hlen;omega);have p2:=BI (P:=P) (src:=src) ho hx x.right (hvr Ar.1) n (by unfold argX at hlen;simp [k] at hlen;omega);refine hfin wC2 (by simp [yJ,k]) (by decide) fun r1 L h o p=>?_;have ha:argX x=jQ x.left++jQ x.right:=by simp [argX,k]
  rw [ha] at h;obtain ⟨t,T',e⟩:=Kq p1;obtain ⟨q,a1,a2,a3,a4,a5⟩:=zX h58 x.op ⟨t,T'++jQ x.right,by rw [e];rfl,GI x.left (hvl Al.1) t (by rw [e];rfl)⟩ n hn2 r1 _ h o p;rw [List.append_assoc] at a2;obtain ⟨q1,b1,b2,b3⟩:=p1.2.2 q _ a2 (a3.trans p);obtain ⟨q2,c1,c2,c3⟩:=p2.2.2 q1 _ b2 (b3.pre.trans (a3.trans p));refine ⟨q2, ?_,c2,by rw [c3.pre,b3.pre,a3],by rw [c3.iri,b3.iri,a4],by rw [c3.op,b3.op,a5]⟩;simp [ET,aaZ,a1,b1,c1,zA,axC,k,hro,Ao,Aa,Ab]
 ·have Al:=A.l;have Ar:=A.r;have Ao:=A.role;have Aa:=A.a;have Ab:=A.b;have Alo:=A.lo;have Ahi:=A.hi;simp [k,kF] at Al Ar Ao Aa Ab Alo Ahi;have hro:x.roles=[]:=Ahi;have p1:=BI (P:=P) (src:=src) ho hx x.left (hvl Al.1) n (by unfold argX at hlen;simp [k] at hlen;omega);have p2:=BI (P:=P) (src:=src) ho hx x.right (hvr Ar.1) n (by unfold argX at hlen;simp [k] at hlen;omega);refine hfin wB3 (by simp [yJ,k]) (by decide) fun r1 L h o p=>?_;have ha:argX x=jQ x.left++jQ x.right:=by simp [argX,k]
  rw [ha] at h;obtain ⟨t,T',e⟩:=Kq p1;obtain ⟨q,a1,a2,a3,a4,a5⟩:=zX h58 x.op ⟨t,T'++jQ x.right,by rw [e];rfl,GI x.left (hvl Al.1) t (by rw [e];rfl)⟩ n hn2 r1 _ h o p
  have hn5:5≤n:=by
   have l1:=CV x.left;have l2:=CV x.right;unfold yD at hn;rw [ha] at hn;simp at hn;omega
  obtain ⟨q2,c1,c2,c3⟩:=KE (P:=P) (src:=src) (pre:=pre) (f:=yw src n) [zc x.left,zc x.right] jQ (fun v hv=>by
    rcases List.mem_cons.1 hv with rfl|hv
    ·rw [BA];exact p1
    ·rw [List.mem_singleton.1 hv,BA];exact p2) id (fun _ _=>rfl) n [] q L (by simp;omega) (by simp) (a3.trans p) (by simpa [BA] using a2)
  refine ⟨q2, ?_,c2,by rw [c3.pre,a3],by rw [c3.iri,a4],by rw [c3.op,a5]⟩;simp at c1;simp [ET,acj,a1,c1,zA,axC,k,hro,Ao,Aa,Ab,JJ]
 ·have Al:=A.l;have Ar:=A.r;have Ao:=A.role;have Aa:=A.a;have Ab:=A.b;have Alo:=A.lo;have Ahi:=A.hi;simp [k,kF] at Al Ar Ao Aa Ab Alo Ahi;have hro:x.roles=[]:=Ahi;have p1:=BI (P:=P) (src:=src) ho hx x.left (hvl Al.1) n (by unfold argX at hlen;simp [k] at hlen;omega);have p2:=BI (P:=P) (src:=src) ho hx x.right (hvr Ar.1) n (by unfold argX at hlen;simp [k] at hlen;omega);refine hfin wB5 (by simp [yJ,k]) (by decide) fun r1 L h o p=>?_;have ha:argX x=jQ x.left++jQ x.right:=by simp [argX,k]
  rw [ha] at h;obtain ⟨t,T',e⟩:=Kq p1;obtain ⟨q,a1,a2,a3,a4,a5⟩:=zX h58 x.op ⟨t,T'++jQ x.right,by rw [e];rfl,GI x.left (hvl Al.1) t (by rw [e];rfl)⟩ n hn2 r1 _ h o p
  have hn5:5≤n:=by
   have l1:=CV x.left;have l2:=CV x.right;unfold yD at hn;rw [ha] at hn;simp at hn;omega
  obtain ⟨q2,c1,c2,c3⟩:=KE (P:=P) (src:=src) (pre:=pre) (f:=yw src n) [zc x.left,zc x.right] jQ (fun v hv=>by
    rcases List.mem_cons.1 hv with rfl|hv
    ·rw [BA];exact p1
    ·rw [List.mem_singleton.1 hv,BA];exact p2) id (fun _ _=>rfl) n [] q L (by simp;omega) (by simp) (a3.trans p) (by simpa [BA] using a2)
  refine ⟨q2, ?_,c2,by rw [c3.pre,a3],by rw [c3.iri,a4],by rw [c3.op,a5]⟩;simp at c1;simp [ET,aco,a1,c1,zA,axC,k,hro,Ao,Aa,Ab,Ib]
 ·have Al:=A.l;have Ar:=A.r;have Ao:=A.role;have Aa:=A.a;have Ab:=A.b;have Alo:=A.lo;have Ahi:=A.hi;simp [k,kF] at Al Ar Ao Aa Ab Alo Ahi;have hro:x.roles=[]:=Ahi;have p2:=BI (P:=P) (src:=src) ho hx x.right (hvr Ar.1) n (by unfold argX at hlen;simp [k] at hlen;omega);refine hfin wB2 (by simp [yJ,k]) (by decide) fun r1 L h o p=>?_;have ha:argX x=(4,owN x.role)::jQ x.right:=by simp [argX,k]
  rw [ha] at h;obtain ⟨q,a1,a2,a3,a4,a5⟩:=zX h58 x.op ⟨_,_,rfl,Dh x.role _ (by simp)⟩ n hn2 r1 _ h o p;rw [List.cons_append] at a2;obtain ⟨q1,b1,b2,b3⟩:=rU a2 (by rw [a3,p];exact hnr Ao);obtain ⟨q2,c1,c2,c3⟩:=p2.2.2 q1 _ b2 (b3.pre.trans (a3.trans p));refine ⟨q2, ?_,c2,by rw [c3.pre,b3.pre,a3],by rw [c3.iri,b3.iri,a4],by rw [c3.op,b3.op,a5]⟩;simp [ET,ack,a1,b1,c1,zA,k,hro,Aa,Ab,wo Al]
 ·have Al:=A.l;have Ar:=A.r;have Ao:=A.role;have Aa:=A.a;have Ab:=A.b;have Alo:=A.lo;have Ahi:=A.hi;simp [k,kF] at Al Ar Ao Aa Ab Alo Ahi;obtain ⟨r0,hro⟩:∃r0,x.roles=[r0]:=List.length_eq_one_iff.1 (by omega);refine hfin wA3 (by simp [yJ,k]) (by decide) fun r1 L h o p=>?_;have ha:argX x=[(4,owN r0),(4,owN x.role)]:=by simp [argX,k,hro]
  rw [ha] at h;obtain ⟨q,a1,a2,a3,a4,a5⟩:=zX h58 x.op ⟨_,_,rfl,Dh r0 _ (by simp)⟩ n hn2 r1 _ h o p;simp only [List.cons_append,List.nil_append] at a2;obtain ⟨q0,z1,z2,z3,z4⟩:=zO a2 wA2;rw [decide_eq_false (Dh r0 _ (by simp))] at z1;obtain ⟨q1,b1,b2,b3⟩:=rU z2 (by rw [z4.pre,a3,p];exact hnrs r0 (by rw [hro];simp));obtain ⟨q2,c1,c2,c3⟩:=rU b2 (by rw [b3.pre,z4.pre,a3,p];exact hnr Ao);refine ⟨q2, ?_,c2,by rw [c3.pre,b3.pre,z4.pre,a3],by rw [c3.iri,b3.iri,z4.iri,a4],by rw [c3.op,b3.op,z4.op,a5]⟩;simp [ET,YR,a1,z1,b1,c1,zA,k,hro,Aa,Ab,wo Al,wo Ar]
 ·have Al:=A.l;have Ar:=A.r;have Ao:=A.role;have Aa:=A.a;have Ab:=A.b;have Alo:=A.lo;have Ahi:=A.hi;simp [k,kF] at Al Ar Ao Aa Ab Alo Ahi;refine hfin wA3 (by simp [yJ,k]) (by decide) fun r1 L h o p=>?_;have ha:argX x=(4,wA2)::(1,[40])::(x.roles.map (fun r=>((4,owN r):Tx))++[(1,[41]),(4,owN x.role)]):=by simp [argX,k]
  rw [ha] at h;obtain ⟨q,a1,a2,a3,a4,a5⟩:=zX h58 x.op ⟨_,_,rfl,by simp⟩ n hn2 r1 _ h o p;simp only [List.cons_append,List.nil_append,List.append_assoc] at a2;obtain ⟨q0,z1,z2,z3,z4⟩:=zO a2 wA2;obtain ⟨q1,b1,b2,b3⟩:=lG z3 (w:=[40]) rfl;have hpre1:q1.pre=pre:=by rw [b3.pre];show q0.pre=_;rw [z4.pre,a3,p]
  have hfm:x.roles.flatMap (fun r=>([(4,owN r)]:List Tx))=x.roles.map (fun r=>((4,owN r):Tx)):=by
   have:∀l:List Rl,l.flatMap (fun r=>([(4,owN r)]:List Tx))=l.map (fun r=>((4,owN r):Tx)):=fun l=>by
    induction l with
    | nil=>rfl
    | cons a l ih=>simp [ih]
   exact this _
  obtain ⟨q2,c1,c2,c3⟩:=KE (P:=P) (src:=src) (pre:=pre) (f:=nY src) x.roles (fun r=>[(4,owN r)]) (fun v hv=>adr (hnrs v hv)) id (fun _ _=>rfl) n [] q1 ((4,owN x.role)::(1,[41])::L) (by rw [ha] at hlen;simp at hlen;omega) (by simp;omega) hpre1 (by rw [hfm];exact b2);obtain ⟨q3,d1,d2,d3⟩:=lG c2 (w:=[41]) rfl;obtain ⟨q4,e1,e2,e3⟩:=rU d2 (by rw [d3.pre,c3.pre,hpre1];exact hnr Ao)
  have hne:x.roles.isEmpty=false:=by
   cases hh:x.roles with
   | nil=>rw [hh] at Alo;simp at Alo
   | cons=>rfl
  refine ⟨q4, ?_,e2, ?_, ?_, ?_⟩
  ·simp [ET,YR,a1,z1,b1,c1,d1,e1,zA,k,hne,Aa,Ab,wo Al,wo Ar]
  ·rw [e3.pre,d3.pre,c3.pre,b3.pre];show q0.pre=_;rw [z4.pre,a3]
  ·rw [e3.iri,d3.iri,c3.iri,b3.iri];show q0.iri=_;rw [z4.iri,a4]
  ·rw [e3.op,d3.op,c3.op,b3.op];show q0.op=_;rw [z4.op,a5]
 ·have Al:=A.l;have Ar:=A.r;have Ao:=A.role;have Aa:=A.a;have Ab:=A.b;have Alo:=A.lo;have Ahi:=A.hi;simp [k,kF] at Al Ar Ao Aa Ab Alo Ahi;have hro:x.roles=[]:=Ahi;refine hfin wA9 (by simp [yJ,k]) (by decide) fun r1 L h o p=>?_;have ha:argX x=[(4,owN x.role)]:=by simp [argX,k]
  rw [ha] at h;obtain ⟨q,a1,a2,a3,a4,a5⟩:=zX h58 x.op ⟨_,_,rfl,Dh x.role _ (by simp)⟩ n hn2 r1 _ h o p;rw [List.cons_append] at a2;obtain ⟨q1,b1,b2,b3⟩:=rU a2 (by rw [a3,p];exact hnr Ao);refine ⟨q1, ?_,b2,by rw [b3.pre,a3],by rw [b3.iri,a4],by rw [b3.op,a5]⟩;simp [ET,abj,a1,b1,zA,k,hro,Aa,Ab,wo Al,wo Ar]
 ·have Al:=A.l;have Ar:=A.r;have Ao:=A.role;have Aa:=A.a;have Ab:=A.b;have Alo:=A.lo;have Ahi:=A.hi;simp [k,kF] at Al Ar Ao Aa Ab Alo Ahi;have hro:x.roles=[]:=Ahi;have p2:=BI (P:=P) (src:=src) ho hx x.right (hvr Ar.1) n (by unfold argX at hlen;simp [k] at hlen;omega);refine hfin wB7 (by simp [yJ,k]) (by decide) fun r1 L h o p=>?_;have ha:argX x=jQ x.right++[(4,owN x.a)]:=by simp [argX,k]
  rw [ha] at h;obtain ⟨t,T',e⟩:=Kq p2;obtain ⟨q,a1,a2,a3,a4,a5⟩:=zX h58 x.op ⟨t,T'++[(4,owN x.a)],by rw [e];rfl,GI x.right (hvr Ar.1) t (by rw [e];rfl)⟩ n hn2 r1 _ h o p;rw [List.append_assoc] at a2;obtain ⟨q1,b1,b2,b3⟩:=p2.2.2 q _ a2 (a3.trans p);obtain ⟨q2,c1,c2,c3⟩:=rU b2 (by rw [b3.pre,a3,p];exact hna Aa);refine ⟨q2, ?_,c2,by rw [c3.pre,b3.pre,a3],by rw [c3.iri,b3.iri,a4],by rw [c3.op,b3.op,a5]⟩;simp [ET,aaX,a1,b1,c1,zA,k,hro,Ao,Ab,wo Al]
 ·have Al:=A.l;have Ar:=A.r;have Ao:=A.role;have Aa:=A.a;have Ab:=A.b;have Alo:=A.lo;have Ahi:=A.hi;simp [k,kF] at Al Ar Ao Aa Ab Alo Ahi;have hro:x.roles=[]:=Ahi;refine hfin wB0 (by simp [yJ,k]) (by decide) fun r1 L h o p=>?_;have ha:argX x=[(4,owN x.role),(4,owN x.a),(4,owN x.b)]:=by simp [argX,k]
  rw [ha] at h;obtain ⟨q,a1,a2,a3,a4,a5⟩:=zX h58 x.op ⟨_,_,rfl,Dh x.role _ (by simp)⟩ n hn2 r1 _ h o p;simp only [List.cons_append,List.nil_append] at a2;obtain ⟨q1,b1,b2,b3⟩:=rU a2 (by rw [a3,p];exact hnr Ao);obtain ⟨q2,c1,c2,c3⟩:=rU b2 (by rw [b3.pre,a3,p];exact hna Aa);obtain ⟨q3,d1,d2,d3⟩:=rU c2 (by rw [c3.pre,b3.pre,a3,p];exact hnb Ab);refine ⟨q3, ?_,d2,by rw [d3.pre,c3.pre,b3.pre,a3],by rw [d3.iri,c3.iri,b3.iri,a4],by rw [d3.op,c3.op,b3.op,a5]⟩;simp [ET,abA,a1,b1,c1,d1,zA,k,hro,wo Al,wo Ar]
end
end Go.Ai.Z
namespace Go.Ai.Z
open Go.Ai
open Go.Lib (itoa decDigits)
def NW (v:Rl):Prop:=∀b∈v.head?,zU b=false
theorem adC (v:Rl):NW (32::v):=by intro b hb;simp at hb;subst hb;decide
theorem akp (v:Rl):NW (10::v):=by intro b hb;simp at hb;subst hb;decide
theorem ako (v:Rl):NW (41::v):=by intro b hb;simp at hb;subst hb;decide
theorem aaj (v:Rl):NW (40::v):=by intro b hb;simp at hb;subst hb;decide
theorem akn (v:Rl):NW (61::v):=by intro b hb;simp at hb;subst hb;decide
def aa0 (b:UInt8):Bool:=Vj b && !decide (b=60) && !decide (b=62)
structure agM (R:Rl→List Tx→Prop):Prop where
 blank:∀{c:UInt8} {v:Rl} {L:List Tx},c=32∨c=10→L≠[]→R v L→R (c::v) L
 word:∀{w v:Rl} {L:List Tx},w.all zU=true→w≠[]→NW v→R v L→R (w++v) ((4,w)::L)
 sign:∀{c:UInt8} {v:Rl} {L:List Tx},c=40∨c=41∨c=61→R v L→R (c::v) ((1,[c])::L)
 caret:∀{v:Rl} {L:List Tx},R v L→R (94::94::v) ((1,[94,94])::L)
 iri:∀{p v:Rl} {L:List Tx},p.all MN=true→R v L→R (60::(p++62::v)) ((2,60::(p++[62]))::L)
 str:∀{p v:Rl} {L:List Tx},p.all aa0=true→R v L→R (34::(p++34::v)) ((3,34::(p++[34]))::L)
theorem ahs {p:Rl} (h:p.all aa0=true):p.all Vj=true:=by
 rw [List.all_eq_true] at h ⊢;intro b hb
 have:=h b hb
 unfold aa0 at this;simp only [Bool.and_eq_true] at this;exact this.1.1
theorem ahX (P:Rl→Prop):agM (Ly P) where
 blank h hL hx:=by
  rename_i c v L
  cases L with
  | nil=>exact absurd rfl hL
  | cons t L=>exact adL h hx
 word hw hn hv h:=⟨_,afX hw hn hv,h⟩
 sign hc h:=⟨_,afY hc _,h⟩
 caret h:=⟨_,adA _,h⟩
 iri hp h:=⟨_,ahR hp _,h⟩
 str hp h:=⟨_,ahP (ahs hp) _,h⟩
def Pc (R:Rl→List Tx→Prop) (x:Rl) (T:List Tx):Prop:=T≠[]∧∀(v:Rl) (L:List Tx),NW v→R v L→R (x++v) (T++L)
section
variable {R:Rl→List Tx→Prop} (hR:agM R)
include hR
theorem wH {w:Rl} (hw:w.all zU=true) (hn:w≠[]):Pc R w [(4,w)]:=⟨by simp,fun v L hv h=>hR.word hw hn hv h⟩
theorem aaf:∀(A:List (Rl×List Tx)),A≠[]→(∀p∈A,Pc R p.1 p.2)→Pc R (joinL [32] (A.map (·.1))) (A.flatMap (·.2))
 | [],h,_=>absurd rfl h
 | [p],_,h=>by
  have h1:=h p (by simp)
  simpa [joinL] using h1
 | p::q::A,_,h=>by
  have h1:=h p (by simp);have h2:=aaf (q::A) (by simp) (fun r hr=>h r (by simp [hr]));refine ⟨by simp [h1.1],fun v L hv hL=>?_⟩;have h3:=h2.2 v L hv hL;have hne:((q::A).flatMap (·.2))++L≠[]:=fun hh=>h2.1 (List.append_eq_nil_iff.1 hh).1;have h4:=h1.2 (32::(joinL [32] ((q::A).map (·.1))++v)) _ (adC _) (hR.blank (.inl rfl) hne h3);have e1:joinL [32] ((p::q::A).map (·.1))++v=p.1++32::(joinL [32] ((q::A).map (·.1))++v):=by simp [joinL]
  have e2:((p::q::A).flatMap (·.2))++L=p.2++(((q::A).flatMap (·.2))++L):=by simp
  rw [e1,e2];exact h4
theorem afG {w:Rl} (hw:w.all zU=true) (hn:w≠[]) {x:Rl} {T:List Tx} (h:Pc R x T):Pc R (w++[40]++x++[41]) ((4,w)::(1,[40])::(T++[(1,[41])])):=by
 refine ⟨by simp,fun v L hv hL=>?_⟩;have h1:R (41::v) ((1,[41])::L):=hR.sign (.inr (.inl rfl)) hL;have h2:=h.2 (41::v) _ (ako v) h1;have h3:R (40::(x++41::v)) ((1,[40])::(T++(1,[41])::L)):=hR.sign (.inl rfl) h2;have h4:=(wH hR hw hn).2 _ _ (aaj _) h3;have e1:w++[40]++x++[41]++v=w++40::(x++41::v):=by simp
 rw [e1]
 simpa using h4
theorem zo {w:Rl} (hw:w.all zU=true) (hn:w≠[]) (A:List (Rl×List Tx)) (hA:A≠[]) (h:∀p∈A,Pc R p.1 p.2):Pc R (lK w (A.map (·.1))) ((4,w)::(1,[40])::(A.flatMap (·.2)++[(1,[41])])):=
 afG hR hw hn (aaf hR A hA h)
omit hR in
theorem ad2 (n:Int):(itoa n).all aa0=true:=by
 have hd:∀u:Nat,(decDigits u).all aa0=true:=fun u=>by
  have:=V9 u
  rw [List.all_eq_true] at this ⊢;intro b hb;have h1:=(PL b).1 (this b hb);unfold aa0 Vj stI;simp only [Bool.and_eq_true,decide_eq_true_eq,Bool.not_eq_true',decide_eq_false_iff_not]
  refine ⟨⟨by omega, ?_⟩, ?_⟩<;>(rintro rfl;revert h1;decide)
 unfold itoa;split
 ·rw [List.all_cons,hd];rfl
 ·exact hd _
theorem adq {w:Rl} (hw:w.all zU=true) (hn:w≠[]) (n:Int):Pc R (A7 w n) (Rw w n):=by
 refine ⟨by simp [Rw],fun v L hv hL=>?_⟩;have h1:=(wH hR (w:=wA0) (by decide) (by simp)).2 v L hv hL;have h2:R (94::94::(wA0++v)) ((1,[94,94])::(4,wA0)::L):=hR.caret h1;have h3:R (34::(itoa n++34::94::94::(wA0++v))) ((3,34::(itoa n++[34]))::(1,[94,94])::(4,wA0)::L):=hR.str (ad2 n) h2;have h4:=(wH hR hw hn).2 _ _ (adC _) (hR.blank (.inl rfl) (by simp) h3);have e1:A7 w n++v=w++32::34::(itoa n++34::94::94::(wA0++v)):=by simp [A7,ttI]
 rw [e1];exact h4
theorem uf {n:Rl} (h:NmV n):Pc R (owN n) [(4,owN n)]:=wH hR (aag h).1 (aag h).2
omit hR in
theorem PY {c:C} (h:iG c=0):kQ c=true∧tX c=true∧∀p∈c.parts,iG p=0:=by
 rw [CU] at h
 split at h
 ·cases h
 split at h
 ·cases h
 ·rename_i a b;refine ⟨by simpa using a,by simpa using b, ?_⟩
  have hL:∀l:List C,rG l=0→∀p∈l,iG p=0:=fun l=>by
   induction l with
   | nil=>intro _ p hp;cases hp
   | cons a r ihr=>
    intro h p hp;simp only [rG] at h
    split at h
    ·rename_i ha;rcases List.mem_cons.1 hp with rfl|hp
     ·exact ha
     ·exact ihr h p hp
    ·rename_i ha;exact absurd h ha
  exact hL _ h
omit hR in
theorem PG {c:C} (h:tX c=true) (hk:c.kind=3∨c.kind=4∨c.kind=6∨c.kind=7):NmV c.name:=by
 unfold tX at h
 rcases hk with k|k|k|k<;>simp [k] at h
 ·exact .inl h
 ·exact h
 ·exact .inl h
 ·exact .inl h
theorem Fp:∀c:C,iG c=0→Pc R (owC c) (jQ c):=by
 refine C.ind' fun c ih hw=>?_;obtain ⟨hs,hn,hp⟩:=PY hw;rw [zH,GK];rcases Vo hs with k|k|k|k|k|k|k
 ·simp only [k,if_true];exact wH hR (by decide) (by simp)
 ·simp only [k];exact wH hR (w:=wB1) (by decide) (by simp)
 ·simp only [k];exact uf hR (PG hn (.inl k))
 ·simp only [k];exact zo hR (w:=wB6) (by decide) (by simp) [(owN c.name,[(4,owN c.name)])] (by simp) (fun p hp=>by rw [List.mem_singleton.1 hp];exact uf hR (PG hn (.inr (.inl k))))
 ·simp only [k]
  have hne:c.parts≠[]:=by
   have:=(LY hs k).2.2.2
   intro h;rw [h] at this;simp at this
  have h1:=zo hR (w:=wA5) (by decide) (by simp) (c.parts.map fun p=>(owC p,jQ p)) (by simpa using hne) (fun p hp2=>by
   obtain ⟨d,hd,rfl⟩:=List.mem_map.1 hp2
   exact ih d hd (hp d hd))
  rw [List.map_map] at h1;have e2:(c.parts.map fun p=>(owC p,jQ p)).flatMap (·.2)=c.parts.flatMap jQ:=by rw [List.flatMap_map]
  rw [e2] at h1;exact h1
 ·obtain ⟨s1,s2,p,s3⟩:=Qb hs k;simp only [k,s3]
  have h1:=zo hR (w:=wA6) (by decide) (by simp) [(owN c.name,[(4,owN c.name)]),(owC p,jQ p)] (by simp) (fun q hq=>by
   rcases List.mem_cons.1 hq with rfl|hq
   ·exact uf hR (PG hn (.inr (.inr (.inl k))))
   ·rw [List.mem_singleton.1 hq];exact ih p (by rw [s3];simp) (hp p (by rw [s3];simp)))
  simpa using h1
 ·simp only [k]
  have h0:=zo hR (w:=wA7) (by decide) (by simp) [(wA0,[(4,wA0)]),(A7 wA1 c.lo,Rw wA1 c.lo),(A7 wA4 c.hi,Rw wA4 c.hi)] (by simp) (fun q hq=>by
   rcases List.mem_cons.1 hq with rfl|hq
   ·exact wH hR (by decide) (by simp)
   rcases List.mem_cons.1 hq with rfl|hq
   ·exact adq hR (by decide) (by simp) _
   ·rw [List.mem_singleton.1 hq];exact adq hR (by decide) (by simp) _)
  have h1:=zo hR (w:=wA8) (by decide) (by simp) [(owN c.name,[(4,owN c.name)]),(lK wA7 [wA0,A7 wA1 c.lo,A7 wA4 c.hi],_)] (by simp) (fun q hq=>by
   rcases List.mem_cons.1 hq with rfl|hq
   ·exact uf hR (PG hn (.inr (.inr (.inr k))))
   ·rw [List.mem_singleton.1 hq];exact h0)
  simpa using h1
theorem afF:Pc R fG Uu:=by
 refine ⟨by simp [Uu],fun v L hv hL=>?_⟩;have h1:R (41::v) ((1,[41])::L):=hR.sign (.inr (.inl rfl)) hL;have h2:R (34::([116,114,117,101]++34::41::v)) ((3,wD2)::(1,[41])::L):=hR.str (by decide) h1;have h3:=(wH hR (w:=[58,111,112,101,110]) (by decide) (by simp)).2 _ _ (adC _) (hR.blank (.inl rfl) (by simp) h2);have h4:R (40::([58,111,112,101,110]++32::34::([116,114,117,101]++34::41::v))) ((1,[40])::([(4,[58,111,112,101,110])]++(3,wD2)::(1,[41])::L)):=hR.sign (.inl rfl) h3;have h5:=(wH hR (w:=wB9) (by decide) (by simp)).2 _ _ (aaj _) h4;exact h5
omit hR in
theorem ahd (x:Ax) (h:AOK x):(yJ x.kind).all zU=true∧yJ x.kind≠[]:=by
 rcases h.k with k|k|k|k|k|k|k|k|k<;>rw [k]<;>exact ⟨by decide,by decide⟩
theorem akk {x:Ax} (hc:iR x=0):Pc R (owA x) (yD x):=by
 have A:=aok hc
 have hA:∃B:List (Rl×List Tx),B≠[]∧(∀p∈B,Pc R p.1 p.2)∧B.map (·.1)=yK x∧B.flatMap (·.2)=argX x:=by
  rcases A.k with k|k|k|k|k|k|k|k|k
  ·have Al:=A.l;have Ar:=A.r;simp [k,kF] at Al Ar;exact ⟨[(owC x.left,jQ x.left),(owC x.right,jQ x.right)],by simp,by simpa using ⟨Fp hR _ Al.1,Fp hR _ Ar.1⟩,by simp [yK,k],by simp [argX,k]⟩
  ·have Al:=A.l;have Ar:=A.r;simp [k,kF] at Al Ar;exact ⟨[(owC x.left,jQ x.left),(owC x.right,jQ x.right)],by simp,by simpa using ⟨Fp hR _ Al.1,Fp hR _ Ar.1⟩,by simp [yK,k],by simp [argX,k]⟩
  ·have Al:=A.l;have Ar:=A.r;simp [k,kF] at Al Ar;exact ⟨[(owC x.left,jQ x.left),(owC x.right,jQ x.right)],by simp,by simpa using ⟨Fp hR _ Al.1,Fp hR _ Ar.1⟩,by simp [yK,k],by simp [argX,k]⟩
  ·have Ar:=A.r;have Ao:=A.role;simp [k,kF] at Ar Ao;exact ⟨[(owN x.role,[(4,owN x.role)]),(owC x.right,jQ x.right)],by simp,by simpa using ⟨uf hR Ao,Fp hR _ Ar.1⟩,by simp [yK,k],by simp [argX,k]⟩
  ·have Ao:=A.role;have Alo:=A.lo;have Ahi:=A.hi;simp [k,kF] at Ao Alo Ahi;obtain ⟨r0,hro⟩:∃r0,x.roles=[r0]:=List.length_eq_one_iff.1 (by omega);exact ⟨[(owN r0,[(4,owN r0)]),(owN x.role,[(4,owN x.role)])],by simp,by simpa using ⟨uf hR (A.rs r0 (by rw [hro];simp)),uf hR Ao⟩,by simp [yK,k,hro],by simp [argX,k,hro]⟩
  ·have Ao:=A.role;have Alo:=A.lo;have Ahi:=A.hi;simp [k,kF] at Ao Alo Ahi;have hne:x.roles≠[]:=by intro h;rw [h] at Alo;simp at Alo
   have h0:=zo hR (w:=wA2) (by decide) (by simp) (x.roles.map fun r=>(owN r,[(4,owN r)])) (by simpa using hne) (fun q hq=>by
    obtain ⟨r,hr,rfl⟩:=List.mem_map.1 hq
    exact uf hR (A.rs r hr))
   rw [List.map_map,List.flatMap_map] at h0
   have hfm:x.roles.flatMap (fun r=>([(4,owN r)]:List Tx))=x.roles.map (fun r=>((4,owN r):Tx)):=by
    have:∀l:List Rl,l.flatMap (fun r=>([(4,owN r)]:List Tx))=l.map (fun r=>((4,owN r):Tx)):=fun l=>by
     induction l with
     | nil=>rfl
     | cons a l ih=>simp [ih]
    exact this _
   refine ⟨[(lK wA2 (x.roles.map owN),(4,wA2)::(1,[40])::(x.roles.map (fun r=>((4,owN r):Tx))++[(1,[41])])),(owN x.role,[(4,owN x.role)])],by simp, ?_,by simp [yK,k],by simp [argX,k]⟩;intro q hq;rcases List.mem_cons.1 hq with rfl|hq
   ·rw [←hfm];exact h0
   ·rw [List.mem_singleton.1 hq];exact uf hR Ao
  ·have Ao:=A.role;simp [k,kF] at Ao;exact ⟨[(owN x.role,[(4,owN x.role)])],by simp,by simpa using uf hR Ao,by simp [yK,k],by simp [argX,k]⟩
  ·have Ar:=A.r;have Aa:=A.a;simp [k,kF] at Ar Aa;exact ⟨[(owC x.right,jQ x.right),(owN x.a,[(4,owN x.a)])],by simp,by simpa using ⟨Fp hR _ Ar.1,uf hR Aa⟩,by simp [yK,k],by simp [argX,k]⟩
  ·have Ao:=A.role;have Aa:=A.a;have Ab:=A.b;simp [k,kF] at Ao Aa Ab;exact ⟨[(owN x.role,[(4,owN x.role)]),(owN x.a,[(4,owN x.a)]),(owN x.b,[(4,owN x.b)])],by simp,by simpa using ⟨uf hR Ao,uf hR Aa,uf hR Ab⟩,by simp [yK,k],by simp [argX,k]⟩
 obtain ⟨B,h1,h2,h3,h4⟩:=hA;obtain ⟨w1,w2⟩:=ahd x A;unfold owA yD gY Xm;rw [←h3,←h4]
 cases x.op with
 | false=>
  simpa using zo hR w1 w2 B h1 h2
 | true=>
  have:=zo hR w1 w2 ((fG,Uu)::B) (by simp) (fun q hq=>by
   rcases List.mem_cons.1 hq with rfl|hq
   ·exact afF hR
   ·exact h2 q hq)
  simpa using this
end
end Go.Ai.Z
namespace Go.Ai.Z
open Go.Ai
section
variable {R:Rl→List Tx→Prop} (hR:agM R)
include hR
theorem Py {w u:Rl} (hw:w.all zU=true) (hn:w≠[]) (hu:u.all MN=true):Pc R (wC6++w++[61,60]++u++[62,41]) (yB w (60::(u++[62]))):=by
 refine ⟨by simp [yB],fun v L hv hL=>?_⟩;have h1:R (41::v) ((1,[41])::L):=hR.sign (.inr (.inl rfl)) hL;have h2:R (60::(u++62::41::v)) ((2,60::(u++[62]))::(1,[41])::L):=hR.iri hu h1;have h3:R (61::60::(u++62::41::v)) ((1,[61])::(2,60::(u++[62]))::(1,[41])::L):=hR.sign (.inr (.inr rfl)) h2;have h4:=(wH hR hw hn).2 _ _ (akn _) h3;have h5:R (40::(w++61::60::(u++62::41::v))) ((1,[40])::([(4,w)]++(1,[61])::(2,60::(u++[62]))::(1,[41])::L)):=hR.sign (.inl rfl) h4;have h6:=(wH hR (w:=wC0) (by decide) (by simp)).2 _ _ (aaj _) h5;have e:wC6++w++[61,60]++u++[62,41]++v=wC0++40::(w++61::60::(u++62::41::v)):=by simp
 rw [e];exact h6
theorem ahK:Pc R Y1 [(4,wC3),(1,[40])]:=by
 refine ⟨by simp,fun v L hv hL=>?_⟩;have h1:R (40::v) ((1,[40])::L):=hR.sign (.inl rfl) hL;exact (wH hR (w:=wC3) (by decide) (by simp)).2 _ _ (aaj _) h1
theorem Xz:∀(A:List (Rl×List Tx)),(∀p∈A,Pc R p.1 p.2)→∀(v:Rl) (L:List Tx),L≠[]→R v L→R (vT (A.map (·.1))++v) (A.flatMap (·.2)++L)
 | [],_,v,L,_,h=>h
 | p::A,hA,v,L,hL,h=>by
  have h1:=Xz A (fun q hq=>hA q (by simp [hq])) v L hL h;have hne:A.flatMap (·.2)++L≠[]:=fun hh=>hL (List.append_eq_nil_iff.1 hh).2;have h2:=(hA p (by simp)).2 _ _ (akp _) (hR.blank (.inr rfl) hne h1);have e1:vT ((p::A).map (·.1))++v=p.1++10::(vT (A.map (·.1))++v):=by simp [vT]
  have e2:(p::A).flatMap (·.2)++L=p.2++(A.flatMap (·.2)++L):=by simp
  rw [e1,e2];exact h2
end
def VD:Rl:=wC8
def U8:Rl:=wC5
def VA (p w:Rl):List Tx:=yB (w++[58]) (60::((p++w++[47])++[62]))
def hdX (p:Rl):List Tx:=yB [58] (60::(p++[62]))
def aeI (p:Rl) (W:List Rl) (l:List Ax):List Tx:=yB [111,119,108,58] (60::(VD++[62]))++yB [120,115,100,58] (60::(U8++[62]))++W.flatMap (VA p)++[(4,wC3),(1,[40])]++l.flatMap yD++[(1,[41])]
def TB (p:Rl) (W:List Rl) (l:List Ax):List Tx:=hdX p++aeI p W l
def acn (p:Rl) (W:List Rl) (l:List Ax):List (Rl×List Tx):=([(O6 p,hdX p),(Rf,yB [111,119,108,58] (60::(VD++[62]))),(Q9,yB [120,115,100,58] (60::(U8++[62])))]++W.map (fun w=>(Hg p w,VA p w))++[(Y1,[(4,wC3),(1,[40])])]++l.map (fun x=>(owA x,yD x)))
structure WdP (w:Rl):Prop where
 word:AB w=true
 iri:w.all MN=true
 owl:w≠[111,119,108]
 xsd:w≠[120,115,100]
theorem afn {b:UInt8} (h:zU b=true):MN b=true:=by
 unfold zU wdI ltI at h;unfold MN XI;simp only [Bool.or_eq_true,Bool.and_eq_true,decide_eq_true_eq] at h ⊢;omega
theorem wdP {w:Rl} (h:AB w=true) (h1:w≠[111,119,108]) (h2:w≠[120,115,100]):WdP w:=by
 obtain ⟨_,k,_,_⟩:=uD h;refine ⟨h, ?_,h1,h2⟩;rw [List.all_eq_true] at k ⊢;exact fun b hb=>afn (k b hb)
theorem ahY {R:Rl→List Tx→Prop} (hR:agM R) (hend:R [10] []) {p:Rl} (hp:p.all MN=true) {W:List Rl} (hW:∀w∈W,WdP w) {l:List Ax} (hl:∀x∈l,iR x=0):R (E8 p W l) (TB p W l):=by
 have h0:R (41::[10]) [(1,[41])]:=hR.sign (.inr (.inl rfl)) hend;have hh1:O6 p=wC6++[58]++[61,60]++p++[62,41]:=by simp [O6]
 have hh2:Rf=wC6++[111,119,108,58]++[61,60]++VD++[62,41]:=rfl;have hh3:Q9=wC6++[120,115,100,58]++[61,60]++U8++[62,41]:=rfl;have hpl:∀w,Hg p w=wC6++(w++[58])++[61,60]++(p++w++[47])++[62,41]:=fun w=>by simp [Hg]
 have hA:=Xz hR (acn p W l)
  (fun q hq=>by
   unfold acn at hq;simp only [List.mem_append,List.mem_cons,List.not_mem_nil,or_false,List.mem_map] at hq;rcases hq with ((((rfl|rfl|rfl)|⟨w,hw,rfl⟩)|rfl)|⟨x,hx,rfl⟩)
   ·rw [hh1];exact Py hR (by decide) (by simp) hp
   ·rw [hh2];exact Py hR (by decide) (by simp) (by decide)
   ·rw [hh3];exact Py hR (by decide) (by simp) (by decide)
   ·show Pc _ (Hg p w) (VA p w);rw [hpl];obtain ⟨k1,k2,k3,_⟩:=uD (hW w hw).word;refine Py hR (by rw [List.all_append,k2];decide) (by simp) ?_;rw [List.all_append,List.all_append,hp,(hW w hw).iri];decide
   ·exact ahK hR
   ·exact akk hR (hl x hx)) [41,10] [(1,[41])] (by simp) h0
 have e1:E8 p W l=vT ((acn p W l).map (·.1))++[41,10]:=by
  unfold E8 X9 acn;simp [FT,vT,List.map_map,Function.comp_def]
 have e2:TB p W l=((acn p W l).flatMap (·.2))++[(1,[41])]:=by
  unfold TB aeI acn;simp [List.flatMap_append,List.flatMap_map]
 rw [e1,e2];exact hA
theorem afB (v:Rl):(skp v).length≤v.length:=by unfold skp;rw [List.length_drop];omega
theorem ahQ {v w:Rl} {t:Tx} (h:Nx v t w):w.length+1≤v.length:=by
 obtain ⟨h1,h2,_⟩:=h
 have:=afB v
 rw [h1,List.length_append] at this
 have:t.2.length≠0:=fun hc=>h2 (List.length_eq_zero_iff.1 hc)
 omega
theorem adK {P:Rl→Prop}:∀(L:List Tx) (v:Rl),Ly P v L→L.length≤v.length
 | [],v,_=>by simp
 | t::L,v,⟨w,h1,h2⟩=>by
  have:=ahQ h1
  have:=adK L w h2
  simp;omega
def aiw (w:Rl):Prop:=∃x,w=x++[58]∧(58:UInt8) ∉ x∧(x=[]∨∃c r,x=c::r∧ltI c.toNat=true)
theorem aae {w:Rl} (h:aiw w) {pre:List Rl} (hn:w ∉ pre) (a:Nat):OW pre (4,w,a)=true:=by
 obtain ⟨x,rfl,h1,h2⟩:=h
 have hc:lC 58 (x++[58])=some (x,[]):=by
  have:∀x:Rl,(58:UInt8) ∉ x→lC 58 (x++[58])=some (x,[]):=fun x=>by
   induction x with
   | nil=>intro _;simp [lC]
   | cons c r ih=>
    intro hx;simp only [List.mem_cons,not_or] at hx;simp [lC,Ne.symm hx.1,ih hx.2]
  exact this x h1
 have hi:=Eg hc;unfold OW;simp only [hi];rcases h2 with rfl|⟨c,r,rfl,hl⟩
 ·simpa using hn
 ·simp [hl]
  simpa using hn
theorem aao {P:Rl→Prop} {src:Rl}:∀(I:List (Rl×Rl)) (k:Nat) (r:Rd) (t:Tx) (L:List Tx),I.length<k→(∀p∈I,aiw p.1∧p.1≠[58]∧∀a,Ad p.1 (2,p.2,a)=true)→(I.map (·.1)).Nodup→(∀p∈I,p.1 ∉ r.pre)→t.2≠wC0→
  My P src r (I.flatMap (fun p=>yB p.1 p.2)++t::L)→∃q,EH src k r=.ok () q∧My P src q (t::L)∧q.pre=r.pre++I.map (·.1)∧q.iri=r.iri
 | [],k,r,t,L,hk,_,_,_,ht,h=>by
  obtain ⟨k,rfl⟩:∃j,k=j+1:=⟨k - 1,by simp at hk;omega⟩;obtain ⟨q,h1,h2,h3,h4⟩:=zO h wC0;rw [decide_eq_false ht] at h1;exact ⟨q,by unfold EH;rw [h1];simp,h2,by simp [h4.pre],h4.iri⟩
 | p::I,k,r,t,L,hk,hI,hnd,hnm,ht,h=>by
  obtain ⟨k,rfl⟩:∃j,k=j+1:=⟨k - 1,by simp at hk;omega⟩;rw [List.flatMap_cons,List.append_assoc] at h;have h':=h;rw [show yB p.1 p.2=(4,wC0)::[(1,[40]),(4,p.1),(1,[61]),(2,p.2),(1,[41])] from rfl,List.cons_append] at h';obtain ⟨q,h1,h2,h3,h4⟩:=zO h' wC0;obtain ⟨g1,g2,g3⟩:=hI p (by simp);have hnq:p.1 ∉ q.pre:=by rw [h4.pre];exact hnm p (by simp)
  obtain ⟨q1,a1,a2,a3,a4⟩:=aap (src:=src) (P:=P) (r:=q) (w:=p.1) (u:=p.2) (by exact h2) (fun a=>aae g1 hnq a) g3;have hadd:q1.pre=r.pre++[p.1]:=by rw [a3];unfold qO;rw [if_neg hnq,h4.pre]
  rw [List.map_cons,List.nodup_cons] at hnd
  obtain ⟨q2,b1,b2,b3,b4⟩:=aao I k q1 t L (by simp at hk;omega) (fun u hu=>hI u (by simp [hu])) hnd.2 (fun u hu=>by
   rw [hadd,List.mem_append,not_or];refine ⟨hnm u (by simp [hu]), ?_⟩;rw [List.mem_singleton];intro e
   exact hnd.1 (by rw [←e];exact List.mem_map.2 ⟨u,hu,rfl⟩)) ht a2
  refine ⟨q2, ?_,b2,by rw [b3,hadd];simp,by rw [b4,a4,if_neg g2,h4.iri]⟩;unfold EH;rw [h1,decide_eq_true rfl];simp only [OR.bind_ok,if_true,a1,b1]
def dcl (W:List Rl):List Rl:=[58]::[111,119,108,58]::[120,115,100,58]::W.map (·++[58])
theorem aeH {src p:Rl} {W:List Rl} {l:List Ax} {N:Nat} (h:Ly NxE src (TB p W l)) (hW:∀w∈W,WdP w) (hnd:W.Nodup) (hl:∀x∈l,iR x=0) (hll:l.length≤1024) (hd:∀x∈l,∀n∈nmX x,afd (dcl W) n):
  ∃r,V8 src (src.length+1) N r00=.ok (l.map zA) r∧r.iri=p:=by
 have hlen:=adK _ _ h;have h0:My NxE src r00 (TB p W l):=h
 have hX:TB p W l=hdX p++((yB [111,119,108,58] (60::(VD++[62]))++yB [120,115,100,58] (60::(U8++[62]))++W.flatMap (VA p))++(4,wC3)::((1,[40])::(l.flatMap yD++[(1,[41])]))):=by
  unfold TB aeI;simp
 have hI:yB [111,119,108,58] (60::(VD++[62]))++yB [120,115,100,58] (60::(U8++[62]))++W.flatMap (VA p)=(([111,119,108,58],60::(VD++[62]))::([120,115,100,58],60::(U8++[62]))::W.map (fun w=>(w++[58],60::((p++w++[47])++[62])))).flatMap (fun p=>yB p.1 p.2):=by
  rw [List.flatMap_cons,List.flatMap_cons,List.flatMap_map,List.append_assoc];rfl
 have hWl:W.length≤(W.flatMap (VA p)).length:=by
  have:∀W:List Rl,W.length≤(W.flatMap (VA p)).length:=fun W=>by
   induction W with
   | nil=>simp
   | cons w W ih=>simp only [List.flatMap_cons,List.length_append,List.length_cons,VA,yB] at ih ⊢;omega
  exact this W
 have hll2:∀x∈l,(yD x).length≤(l.flatMap yD).length:=fun x hx=>by
  have:∀l:List Ax,x∈l→(yD x).length≤(l.flatMap yD).length:=fun l=>by
   induction l with
   | nil=>intro hh;cases hh
   | cons y l ih=>
    intro hh;rw [List.flatMap_cons,List.length_append];rcases List.mem_cons.1 hh with rfl|hh
    ·omega
    ·have:=ih hh;omega
  exact this l hx
 have hln:l.length≤(l.flatMap yD).length:=by
  have:∀l:List Ax,l.length≤(l.flatMap yD).length:=fun l=>by
   induction l with
   | nil=>simp
   | cons y l ih=>rw [List.flatMap_cons,List.length_append];simp only [yD,List.length_cons] at ih ⊢;omega
  exact this l
 have hlenX:(hdX p).length+(W.flatMap (VA p)).length+(l.flatMap yD).length≤src.length:=by rw [hX] at hlen;simp at hlen ⊢;omega
 rw [hX] at h0
 -- the first prefix
 have h0':=h0;rw [show hdX p=(4,wC0)::[(1,[40]),(4,[58]),(1,[61]),(2,60::(p++[62])),(1,[41])] from rfl,List.cons_append] at h0';obtain ⟨q0,a1,a2,a3,a4⟩:=zO h0' wC0;obtain ⟨q1,b1,b2,b3,b4⟩:=aap (src:=src) (P:=NxE) (r:=q0) (w:=[58]) (u:=60::(p++[62])) (by exact a2) (fun a=>aae ⟨[],rfl,by simp,.inl rfl⟩ (by rw [a4.pre];simp [r00]) a) (fun a=>by simp [Ad]);have hq1:q1.pre=[[58]]:=by rw [b3,a4.pre];rfl
 have hi1:q1.iri=p:=by rw [b4,if_pos rfl];exact ad7 60 62 p
 rw [hI] at b2
 have hpw:∀w∈W,aiw (w++[58]):=fun w hw=>by
  obtain ⟨_,_,k3,c,r,k4,k5⟩:=uD (hW w hw).word;exact ⟨w,rfl,k3,.inr ⟨c,r,k4,k5⟩⟩
 have hwo:∀w:Rl,(w++[58]:Rl)=[111,119,108,58]→w=[111,119,108]:=fun w h=>by
  have:(w++[58]:Rl)=[111,119,108]++[58]:=h
  exact List.append_cancel_right this
 have hwx:∀w:Rl,(w++[58]:Rl)=[120,115,100,58]→w=[120,115,100]:=fun w h=>by
  have:(w++[58]:Rl)=[120,115,100]++[58]:=h
  exact List.append_cancel_right this
 have hfst:((([111,119,108,58],60::(VD++[62]))::([120,115,100,58],60::(U8++[62]))::W.map (fun w=>(w++[58],60::((p++w++[47])++[62])))).map (·.1):List Rl)=[111,119,108,58]::[120,115,100,58]::W.map (·++[58]):=by simp [Function.comp_def]
 obtain ⟨n,hn⟩:∃n,src.length+1=n+1:=⟨src.length,rfl⟩
 obtain ⟨q2,c1,c2,c3,c4⟩:=aao (P:=NxE) (src:=src) (([111,119,108,58],60::(VD++[62]))::([120,115,100,58],60::(U8++[62]))::W.map (fun w=>(w++[58],60::((p++w++[47])++[62])))) src.length q1 (4,wC3) ((1,[40])::(l.flatMap yD++[(1,[41])])) (by have h6:(hdX p).length=6:=rfl;simp only [List.length_cons,List.length_map];omega)
  (fun u hu=>by
   rcases List.mem_cons.1 hu with rfl|hu
   ·exact ⟨⟨[111,119,108],rfl,by simp,.inr ⟨_,_,rfl,by decide⟩⟩,by simp,fun a=>by simp [Ad,VD]⟩
   rcases List.mem_cons.1 hu with rfl|hu
   ·exact ⟨⟨[120,115,100],rfl,by simp,.inr ⟨_,_,rfl,by decide⟩⟩,by simp,fun a=>by simp [Ad,U8]⟩
   ·obtain ⟨w,hw,rfl⟩:=List.mem_map.1 hu;refine ⟨hpw w hw,fun e=>?_,fun a=>?_⟩
    ·have:w=[]:=by simpa using e
     exact (uD (hW w hw).word).1 this
    ·have k1:¬(w++[58]:Rl)=[111,119,108,58]:=fun e=>(hW w hw).owl (hwo w e);have k2:¬(w++[58]:Rl)=[120,115,100,58]:=fun e=>(hW w hw).xsd (hwx w e)
     simp [Ad,k1,k2])
  (by
   rw [hfst,List.nodup_cons,List.nodup_cons];refine ⟨?_, ?_, ?_⟩
   ·simp only [List.mem_cons,not_or,List.mem_map,not_exists,not_and];exact ⟨by simp,fun w hw e=>(hW w hw).owl (hwo w e)⟩
   ·simp only [List.mem_map,not_exists,not_and];exact fun w hw e=>(hW w hw).xsd (hwx w e)
   ·exact List.Pairwise.map _ (fun a b hab e=>hab (List.append_cancel_right e)) hnd)
  (fun u hu=>by
   rw [hq1,List.mem_singleton];rcases List.mem_cons.1 hu with rfl|hu
   ·simp
   rcases List.mem_cons.1 hu with rfl|hu
   ·simp
   ·obtain ⟨w,hw,rfl⟩:=List.mem_map.1 hu;intro e
    have:w=[]:=by simpa using e
    exact (uD (hW w hw).word).1 this)
  (by simp) b2
 have hpre2:q2.pre=dcl W:=by rw [c3,hq1,hfst];rfl
 obtain ⟨q3,d1,d2,d3,d4⟩:=zO c2 wC3;obtain ⟨q4,e1,e2,e3⟩:=lG d3 (w:=[40]) rfl;have hpre4:q4.pre=dcl W:=by rw [e3.pre];show q3.pre=_;rw [d4.pre,hpre2]
 -- no IRI behind the sign
 have hf:∃q5,FX src 2 q4=.ok () q5∧My NxE src q5 (l.flatMap yD++[(1,[41])])∧Fq q4 q5:=by
  have:∃t T,l.flatMap yD++[((1,[41]):Tx)]=t::T∧t.1≠2:=by
   cases l with
   | nil=>exact ⟨_,_,rfl,by simp⟩
   | cons x l=>exact ⟨(4,yJ x.kind),_,rfl,by simp⟩
  obtain ⟨t,T,k1,k2⟩:=this;rw [k1] at e2;obtain ⟨a,q5,f1,f2,f3,f4⟩:=qw e2;refine ⟨q5, ?_,by rw [k1];exact f2,f4⟩;unfold FX;rw [f1];simp only [OR.bind_ok];rw [if_neg k2]
 obtain ⟨q5,f1,f2,f3⟩:=hf;have hI2:l.flatMap yD=(l.map fun x=>(yD x,[zA x])).flatMap (·.1):=by rw [List.flatMap_map]
 have hI3:(l.map fun x=>(yD x,[zA x])).flatMap (·.2)=l.map zA:=by
  rw [List.flatMap_map]
  have:∀l:List Ax,l.flatMap (fun x=>[zA x])=l.map zA:=fun l=>by
   induction l with
   | nil=>rfl
   | cons a l ih=>simp [ih]
  exact this l
 rw [hI2] at f2
 obtain ⟨q6,g1,g2,g3,g4⟩:=Xp (P:=NxE) (src:=src) (n:=src.length+1) (N:=N) (pre:=dcl W) (l.map fun x=>(yD x,[zA x])) (fun u hu=>by
   obtain ⟨x,hx,rfl⟩:=List.mem_map.1 hu;refine ⟨⟨_,_,rfl, ?_⟩,fun l0 r L h1 h2 h3=>?_⟩
   ·have A:=aok (hl x hx)
    rcases A.k with k|k|k|k|k|k|k|k|k<;>rw [k]<;>decide
   ·exact ad4 (pre:=dcl W) (by simp [dcl]) (by simp [dcl]) (by simp [dcl]) (hl x hx) (hd x hx) (by have:=hll2 x hx;omega) l0 (by simpa using h1) r L h2 h3)
  (src.length+1) [] q5 [] (by simp;omega) (by rw [hI3];simpa using hll) (f3.pre.trans hpre4) f2
 rw [hI3] at g1;obtain ⟨a8,q8,j1,j2⟩:=ahW g2;refine ⟨q8, ?_, ?_⟩
 ·have hpr:EH src (src.length+1) r00=.ok () q2:=by
   unfold EH;rw [a1,decide_eq_true rfl];simp only [OR.bind_ok,if_true,b1,c1]
  have h58:([58]:Rl)∈q3.pre:=by rw [d4.pre,hpre2];simp [dcl]
  unfold V8;rw [hpr];simp only [OR.bind_ok,d1,h58,decide_true,Bool.and_self,pq,e1,f1,g1,j1];simp
 ·rw [j2.iri];show q6.iri=_;rw [g3,f3.iri,e3.iri];show q3.iri=_;rw [d4.iri,c4,hi1]
end Go.Ai.Z
namespace Go.Ai.Z
open Go.Ai
theorem zY {v:V4} {n:Rl}:n∈v.all ↔ n∈v.c∨n∈v.r∨n∈v.f∨n∈v.i:=by
 unfold V4.all;simp only [List.mem_append,or_assoc]
theorem ae6 {v:V4} {c:C} {n:Rl} (h:n∈v.all):n∈(v.add c).all:=by
 rw [zY] at h ⊢;unfold V4.add;split
 ·simp only [ja];rcases h with h|h|h|h<;>simp [h]
 split
 ·simp only [ja];rcases h with h|h|h|h<;>simp [h]
 split
 ·simp only [ja];rcases h with h|h|h|h<;>simp [h]
 split
 ·simp only [ja];rcases h with h|h|h|h<;>simp [h]
 ·exact h
theorem agG {v:V4} {c:C} (hk:c.kind=3∨c.kind=4∨c.kind=6∨c.kind=7):c.name∈(v.add c).all:=by
 rw [zY];unfold V4.add
 rcases hk with k|k|k|k<;>simp [k,ja]
theorem JV {n:Rl}:∀(c:C) (v:V4),n∈v.all→n∈(mW c v).all:=by
 refine C.ind' fun c ih v h=>?_;rw [yZ]
 have hL:∀(l:List C),(∀p∈l,∀v:V4,n∈v.all→n∈(mW p v).all)→∀v:V4,n∈v.all→n∈(vN l v).all:=fun l=>by
  induction l with
  | nil=>intro _ v hv;simpa [vN] using hv
  | cons a r ihr=>intro hp v hv;rw [vN];exact ihr (fun p hp2=>hp p (by simp [hp2])) _ (hp a (by simp) v hv)
 exact hL _ ih _ (ae6 h)
theorem acP {n:Rl} (hn:n≠[]):∀(c:C),iG c=0→∀v:V4,n∈nmC c→n∈(mW c v).all:=by
 refine C.ind' fun c ih hw v h=>?_;obtain ⟨h1,h2,h3⟩:=PY hw
 have hmL:∀(l:List C) (v:V4),n∈v.all→n∈(vN l v).all:=fun l=>by
  induction l with
  | nil=>intro v hv;simpa [vN] using hv
  | cons a r ihr=>intro v hv;rw [vN];exact ihr _ (JV a v hv)
 rw [yZ];rw [Y6] at h;rcases List.mem_cons.1 h with h|h
 ·subst h;refine hmL _ _ (agG ?_);rcases Vo h1 with k|k|k|k|k|k|k
  ·exact absurd ((Am h1 (.inl k)).2.2.2 (.inl k)) hn
  ·exact absurd ((Am h1 (.inr (.inl k))).2.2.2 (.inr k)) hn
  ·exact .inl k
  ·exact .inr (.inl k)
  ·exact absurd (LY h1 k).2.2.1 hn
  ·exact .inr (.inr (.inl k))
  ·exact .inr (.inr (.inr k))
 ·obtain ⟨p,hp,hq⟩:=List.mem_flatMap.1 h
  have hL:∀(l:List C),(∀q∈l,∀v:V4,n∈nmC q→n∈(mW q v).all)→p∈l→∀v:V4,n∈(vN l v).all:=fun l=>by
   induction l with
   | nil=>intro _ hp;cases hp
   | cons a r ihr=>
    intro hall hp v;rw [vN];rcases List.mem_cons.1 hp with rfl|hp
    ·exact hmL r _ (hall _ (by simp) v hq)
    ·exact ihr (fun q hq2=>hall q (by simp [hq2])) hp _
  exact hL c.parts (fun q hq2 v hv=>ih q hq2 (h3 q hq2) v hv) hp _
theorem aeE {c:C} (h:emptyS c=true):∀n∈nmC c,n=[]:=by
 unfold emptyS at h;simp only [Bool.and_eq_true,decide_eq_true_eq] at h;have h6:c.parts=[]:=List.length_eq_zero_iff.1 (by omega);intro n hn;rw [Y6,h6] at hn;simp at hn;rw [hn,h.1.1.1.2]
theorem QG {rs:List Rl}:∀{V:List Rl} {n:Rl},n∈V∨n∈rs→n∈Ey V rs:=by
 induction rs with
 | nil=>intro V n h;simpa [Ey] using h
 | cons r rs ih=>
  intro V n h;rw [Ey];refine ih ?_;rw [ja];rcases h with h|h
  ·exact .inl (.inr h)
  ·rcases List.mem_cons.1 h with h|h
   ·exact .inl (.inl h)
   ·exact .inr h
theorem aaW {n:Rl} (x:Ax) (v:V4) (h:n∈v.all):n∈(Hf x v).all:=by
 have h2:=JV x.right _ (JV x.left v h);rw [zY] at h2 ⊢;unfold Hf;simp only;rcases h2 with h|h|h|h
 ·exact .inl h
 ·exact .inr (.inl (ja.2 (.inr (QG (.inl h)))))
 ·exact .inr (.inr (.inl h))
 ·exact .inr (.inr (.inr (ja.2 (.inr (ja.2 (.inr h))))))
theorem afu {n:Rl} (hn:n≠[]) {x:Ax} (hx:x.Vd) (v:V4) (h:n∈nmX x):n∈(Hf x v).all:=by
 have hside:∀c:C,(emptyS c=true∨iG c=0∧nV c≤64)→n∈nmC c→iG c=0:=fun c hc h=>by
  rcases hc with hc|hc
  ·exact absurd (aeE hc n h) hn
  ·exact hc.1
 have hu:n∈(mW x.right (mW x.left v)).all→n∈(Hf x v).all:=fun h2=>by
  rw [zY] at h2 ⊢;unfold Hf;simp only;rcases h2 with h|h|h|h
  ·exact .inl h
  ·exact .inr (.inl (ja.2 (.inr (QG (.inl h)))))
  ·exact .inr (.inr (.inl h))
  ·exact .inr (.inr (.inr (ja.2 (.inr (ja.2 (.inr h))))))
 unfold nmX at h;simp only [List.mem_append,List.mem_cons,List.not_mem_nil,or_false] at h;rcases h with ((h|h)|h)|h|h|h
 ·exact hu (JV _ _ (acP hn _ (hside _ hx.l h) v h))
 ·exact hu (acP hn _ (hside _ hx.r h) _ h)
 ·rw [zY];exact .inr (.inl (ja.2 (.inr (QG (.inr h)))))
 ·rw [zY];exact .inr (.inl (ja.2 (.inl h)))
 ·rw [zY];exact .inr (.inr (.inr (ja.2 (.inr (ja.2 (.inl h))))))
 ·rw [zY];exact .inr (.inr (.inr (ja.2 (.inl h))))
theorem NJ {n:Rl}:∀(l:List Ax) (v:V4),n∈v.all→n∈(mr l v).all
 | [],v,h=>h
 | x::l,v,h=>NJ l _ (aaW x v h)
theorem TW {n:Rl} (hn:n≠[]):∀(l:List Ax) (v:V4),(∀x∈l,x.Vd)→∀x∈l,n∈nmX x→n∈(mr l v).all
 | [],v,_,x,hx,_=>by cases hx
 | y::l,v,hv,x,hx,h=>by
  rw [mr];rcases List.mem_cons.1 hx with rfl|hx
  ·exact NJ l _ (afu hn (hv _ (by simp)) v h)
  ·exact TW hn l _ (fun z hz=>hv z (by simp [hz])) x hx h
section
variable {l:List Ax} (hv:∀x∈l,x.Vd)
include hv
theorem ahS {n:Rl} (hn:n≠[]) {x:Ax} (hx:x∈l) (h:n∈nmX x):n∈Xe l:=by
 have h1:=TW hn l V4.nil hv x hx h;have hE:=(AL hv VK VL).2.1;unfold Xe;rw [zY] at h1 ⊢;rw [←hE.c n hn,←hE.r n hn,←hE.f n hn,←hE.i n hn];exact h1
theorem aan {n x y:Rl} (hn:Nd n) (hc:lC 58 n=some (x,y)):AB x=true:=by
 rcases hn with rfl|h|h
 ·simp [lC] at hc
 ·unfold oJ at h;rw [Bool.and_eq_true,hc] at h;simp only [Bool.and_eq_true] at h;exact h.2.1
 ·unfold L6 at h;simp only [Bool.and_eq_true] at h;rw [RG (JY h.2).2] at hc;cases hc
theorem acO:∀w∈jU l,AB w=true:=fun w hw=>by
 obtain ⟨n,hn,h1,h2⟩:=(ZT hv).1 hw;have h3:n≠[]:=fun e=>by rw [e] at h1;exact h2 (h1 ▸ rfl)
 have hnd:=Dl hv n ((GU hv h3).2 hn);unfold JR at h1
 cases hc:lC 58 n with
 | none=>rw [hc] at h1;exact absurd h1.symm h2
 | some p=>
  rw [hc] at h1;simp only at h1;rw [←h1];exact aan hv hnd (x:=p.1) (y:=p.2) hc
theorem ZR (h1:Kr ∉ jU l) (h2:OM ∉ jU l):∀w∈jU l,WdP w:=fun w hw=>
 wdP (acO hv w hw) (fun e=>h1 (by rw [e] at hw;exact hw)) (fun e=>h2 (by rw [e] at hw;exact hw))
theorem afr (h1:Kr ∉ jU l) (h2:OM ∉ jU l) {x:Ax} (hx:x∈l) {n:Rl} (hn:n∈nmX x):afd (dcl (jU l)) n:=by
 intro a b hc;have hne:n≠[]:=by rintro rfl;simp [lC] at hc
 have hr:=ahS hv hne hx hn;have hnd:=Dl hv n ((GU hv hne).2 hr);have hw:=aan hv hnd hc;have hb:JR n=a:=by unfold JR;rw [hc]
 have hm:a∈jU l:=(ZT hv).2 ⟨n,hr,hb,(uD hw).1⟩;refine ⟨?_,fun e=>h1 (by rw [e] at hm;exact hm),fun e=>h2 (by rw [e] at hm;exact hm)⟩;unfold dcl;simp only [List.mem_cons,List.mem_map];exact .inr (.inr (.inr ⟨a,hm,rfl⟩))
end
theorem acL {l:List Ax} {p:Rl} (h:Ce l p=0) (hll:l.length≤1024) {src:Rl} (hs:Ly NxE src (TB p (jU l) l)) (N:Nat):
  ∃r,V8 src (src.length+1) N r00=.ok (l.map zA) r∧r.iri=p:=by
 unfold Ce at h
 split at h
 ·cases h
 rename_i hp
 split at h
 ·rename_i hc;exact absurd h hc
 rename_i hc;have hc:yx l=0:=Classical.not_not.1 hc
 split at h
 ·cases h
 rename_i hw;have hv:∀x∈l,x.Vd:=fun x hm=>vd (wz hc x hm);have h1:Kr ∉ jU l:=fun q=>hw (.inl q);have h2:OM ∉ jU l:=fun q=>hw (.inr q);have hnd:(jU l).Nodup:=Srt.nodup (by unfold jU;exact acZ _);exact aeH hs (ZR hv h1 h2) hnd (wz hc) hll fun x hx n hn=>afr hv h1 h2 hx hn
theorem ahb {l:List Ax} {p:Rl} (h:Ce l p=0):Ly NxE (E8 p (jU l) l) (TB p (jU l) l)∧(E8 p (jU l) l).length≤65536∧yx l=0:=by
 unfold Ce at h
 split at h
 ·cases h
 rename_i hp
 split at h
 ·rename_i hc;exact absurd h hc
 rename_i hc;have hc:yx l=0:=Classical.not_not.1 hc
 split at h
 ·cases h
 rename_i hw
 split at h
 ·cases h
 rename_i hl;have hv:∀x∈l,x.Vd:=fun x hm=>vd (wz hc x hm);have h1:Kr ∉ jU l:=fun q=>hw (.inl q);have h2:OM ∉ jU l:=fun q=>hw (.inr q)
 have hi:p.all MN=true:=by
  cases q:XH p with
  | false=>exact absurd (.inr q) hp
  | true=>exact q
 exact ⟨ahY (ahX NxE) (by show skp [10]=[];rfl) hi (ZR hv h1 h2) (wz hc),by omega,hc⟩
end Go.Ai.Z
namespace Go.Ai.Z
open Go.Ai
theorem ahL:∀c:C,owC (zc c)=owC c:=by
 refine C.ind' fun c ih=>?_
 have hp:(c.parts.map zc).map owC=c.parts.map owC:=by
  rw [List.map_map];exact List.map_congr_left fun p hp=>ih p hp
 rw [zH (zc c),zH c,zl];simp only [C.Ed,C.GV,C.aat,C.aaC,C.Df,hp];rfl
theorem adu (x:Ax):owA (zA x)=owA x:=by
 unfold owA gY yK zA;simp only [ahL]
theorem ait (v:V4) (c:C):v.add (zc c)=v.add c:=by
 rw [zl];unfold V4.add;simp only [C.Ed,C.GV];rfl
theorem ahf:∀(c:C) (v:V4),mW (zc c) v=mW c v:=by
 refine C.ind' fun c ih v=>?_
 have hL:∀(l:List C),(∀p∈l,∀v:V4,mW (zc p) v=mW p v)→∀v:V4,vN (l.map zc) v=vN l v:=fun l=>by
  induction l with
  | nil=>intro _ v;rfl
  | cons a r ihr=>intro hp v;simp only [List.map_cons,vN];rw [hp a (by simp),ihr (fun p hp2=>hp p (by simp [hp2]))]
 have hp:(zc c).parts=c.parts.map zc:=by rw [zl];rfl
 rw [yZ,yZ c,hp,hL _ ih,ait]
theorem aft (x:Ax) (v:V4):Hf (zA x) v=Hf x v:=by unfold Hf zA;simp only [ahf]
theorem TV:∀(l:List Ax) (v:V4),mr (l.map zA) v=mr l v
 | [],v=>rfl
 | x::l,v=>by simp only [List.map_cons,mr];rw [aft,TV l]
theorem acN (l:List Ax):jU (l.map zA)=jU l:=by unfold jU EI vA vR vF vI;rw [TV]
theorem Zx:∀(l:List Ax),yx (l.map zA)=yx l
 | []=>rfl
 | x::l=>by simp only [List.map_cons,yx];rw [Yk,Zx l]
theorem aeG (p:Rl) (W:List Rl) (l:List Ax):E8 p W (l.map zA)=E8 p W l:=by
 unfold E8 X9;rw [List.map_map]
 congr 3
 exact List.map_congr_left fun x _=>adu x
theorem ZQ (l:List Ax) (p:Rl):Ce (l.map zA) p=Ce l p:=by unfold Ce;rw [Zx,acN,aeG]
theorem afm (l:List Ax) (p:Rl):U9 (l.map zA) p=U9 l p:=by unfold U9;rw [ZQ,acN,aeG]
theorem agS:∀c:C,wC (zc c)=wC c:=by
 refine C.ind' fun c ih=>?_
 have hL:∀l:List C,(∀p∈l,wC (zc p)=wC p)→wL (l.map zc)=wL l:=fun l=>by
  induction l with
  | nil=>intro _;rfl
  | cons a r ihr=>intro h;simp only [List.map_cons,wL];rw [h a (by simp),ihr (fun p hp=>h p (by simp [hp]))]
 have hp:(zc c).parts=c.parts.map zc:=by rw [zl];rfl
 have hn:(zc c).name=c.name:=by rw [zl];rfl
 rw [Bz,Bz c,hp,hn,hL _ ih]
theorem ah4 {x:Ax} (h:x.Few):(zA x).Few:=⟨by show wC (zc x.left)≤150;rw [agS];exact h.l,by show wC (zc x.right)≤150;rw [agS];exact h.r,h.roles,h.rs,h.role,h.a,h.b⟩
theorem ac3:∀c:C,wC c≤100000→SmC c (zc c):=by
 refine C.ind' fun c ih hw=>?_;have hl:=PZ c.parts;rw [Bz] at hw;exact akd (fun p hp=>ih p hp (by have:=LW hp;omega)) (by omega)
theorem ahv {x:Ax} (h:x.Few):SmA x (zA x):=⟨rfl,rfl,ac3 _ (by have:=h.l;omega),ac3 _ (by have:=h.r;omega),rfl,by have:=h.roles;omega,rfl,rfl,rfl⟩
theorem adh {l:List Ax} {p:Rl} (h:Ce l p=0) (hll:l.length≤1024) {src:Rl} (hs:Ly NxE src (TB p (jU l) l)) (hl:src.length≤65536) (s:St) (cx:Ctx) (hc:cx.lim≤s.length):
  aj P0 (.fn (.func qg) [] []) [.sl (aC src)] s cx=.ret (.tu [slf true ((l.map zA).map cu),.s p,.i .i64 0,.i .i64 0]) s:=by
 obtain ⟨r,h1,h2⟩:=acL h hll hs (s.length+8);have e:=aip src (by omega) s cx hc;unfold Un at e;rw [if_neg (by omega),h1] at e;simp only [h2] at e;exact e
theorem Yt (z:Bool) (l:List Ax) (hl:l.length≤1125899906842624) (hx:∀x∈l,x.Ok) (p:Rl) (hp:p.length≤1152921504606846976) (hs:aj P0 (.fn (.func yh) [] []) [] [] ⟨0,0⟩=.ret (.b true) []) (cx:Ctx):
  aj P0 (.fn (.func pO) [] []) [slf z (l.map cu),.s p] [] cx=.ret (.b true) []:=by
 obtain ⟨b,e1,hb⟩:=JM 15 (by omega) z l hl hx;rw [show ((15:Nat):Int)=15 from rfl] at e1;refine E5 (by simp) ?_
 cases b with
 | false=>simp -implicitDefEqProofs [af,iW,hs,e1]
 | true=>
  obtain ⟨v,hf⟩:=hb rfl;by_cases h4:400<p.length
  ·have u:(400:Int)<(p.length:Int):=by omega
   simp -implicitDefEqProofs [af,iW,hs,e1,u]
  ·have u:¬(400:Int)<(p.length:Int):=by omega
   have L:yx l=0→∀x∈l,(owA x).length≤33000:=fun h0 x hm=>afQ (good (wz h0 x hm)) (vd (wz h0 x hm));have ew:=OH z l v hf L p (by omega);by_cases hE:Ce l p=0
   ·obtain ⟨k1,k2,k3⟩:=ahb hE;have er:=fun s cx=>adh hE (by omega) k1 k2 s cx;have er0:=er [] ⟨0,0⟩ (Nat.le_refl _)
    have es:=aeO l (l.map zA) z true (by simp) (by omega) (fun i a b h1 h2=>by
     rw [List.getElem?_map,h1] at h2;cases h2
     exact ahv (hf a (List.mem_of_getElem? h1)))
    have w:=OH true (l.map zA) (by simpa using v) (fun x hm=>by
     obtain ⟨y,hy,rfl⟩:=List.mem_map.1 hm
     exact ah4 (hf y hy)) (fun h0 x hm=>by
     obtain ⟨y,hy,rfl⟩:=List.mem_map.1 hm;rw [adu]
     exact L (by rw [←Zx];exact h0) y hy) p (by omega)
    rw [ZQ,afm,hE] at w;rw [hE] at ew;have hB:U9 l p=.sl (aC (E8 p (jU l) l)):=by unfold U9;rw [if_pos hE]
    rw [hB] at ew w;generalize E8 p (jU l) l=D at *;have hZp:=abo true ((l.map zA).map cu);generalize slf true ((l.map zA).map cu)=Z at *;simp -implicitDefEqProofs [af,iW,hs,e1,u,ew,er0,es,w,aeV,hZp]
   ·have hB:U9 l p=.ns:=by unfold U9;rw [if_neg hE]
    rw [hB] at ew;simp -implicitDefEqProofs [af,iW,hs,e1,u,ew,hE]
end Go.Ai.Z
