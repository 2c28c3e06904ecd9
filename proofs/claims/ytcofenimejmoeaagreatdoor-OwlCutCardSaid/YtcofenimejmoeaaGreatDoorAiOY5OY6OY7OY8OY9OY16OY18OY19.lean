/-
 The tokens of a printed axiom are read back.
-/
import Derived.Test.YtcofenimejmoeaaGreatDoorAiOX18OX19OX20OX21
import Derived.Test.YtcofenimejmoeaaGreatDoorAiOW1OW2OW3OW4OW5
import Derived.Test.YtcofenimejmoeaaGreatDoorAiRchR1R2R3R4R5
import Derived.Test.YtcofenimejmoeaaGreatDoorAiK1K2K3K4K5K6K7
set_option maxRecDepth 100000
set_option linter.unusedSimpArgs false
set_option linter.unusedVariables false
set_option linter.unusedSectionVars false
namespace Go.Ai.Z
theorem aed (c:C):kU (zc c)=kU c:=by rw [FB];unfold kU;simp only [C.LW,C.Qz,C.aeV,C.afj,C.Gh,List.length_map];rfl
theorem aeM (c:C):uq (zc c)=uq c:=by rw [FB];unfold uq;simp only [C.LW,C.Qz];rfl
theorem agJ:∀c:C,iL (zc c)=iL c:=by
 refine C.ind' fun c ih=>?_
 have hL:∀l:List C,(∀p∈l,iL (zc p)=iL p)→rW (l.map zc)=rW l:=fun l=>by
  induction l with
  | nil=>intro _;rfl
  | cons a r ihr=>intro h;simp only [List.map_cons,rW];rw [h a (by simp),ihr (fun p hp=>h p (by simp [hp]))]
 have hp:(zc c).parts=c.parts.map zc:=by rw [FB];rfl
 rw [Dx,Dx c,aed,aeM,hp,hL _ ih]
theorem agS:∀c:C,oD (zc c)=oD c:=by
 refine C.ind' fun c ih=>?_
 have hL:∀l:List C,(∀p∈l,oD (zc p)=oD p)→Ac (l.map zc)=Ac l:=fun l=>by
  induction l with
  | nil=>intro _;rfl
  | cons a r ihr=>intro h;simp only [List.map_cons,Ac];rw [h a (by simp),ihr (fun p hp=>h p (by simp [hp]))]
 have hp:(zc c).parts=c.parts.map zc:=by rw [FB];rfl
 rw [DC,DC c,hp,hL _ ih]
theorem afS:∀c:C,zh (zc c)=zh c:=by
 refine C.ind' fun c ih=>?_
 have hL:∀l:List C,(∀p∈l,zh (zc p)=zh p)→EZ (l.map zc)=EZ l:=fun l=>by
  induction l with
  | nil=>intro _;rfl
  | cons a r ihr=>intro h;simp only [List.map_cons,EZ];rw [h a (by simp),ihr (fun p hp=>h p (by simp [hp]))]
 have hp:(zc c).parts=c.parts.map zc:=by rw [FB];rfl
 rw [Oi,Oi c,hp,hL _ ih]
theorem abV:∀c:C,BF (zc c)=BF c:=by
 refine C.ind' fun c ih=>?_
 have hL:∀l:List C,(∀p∈l,BF (zc p)=BF p)→yG (l.map zc)=yG l:=fun l=>by
  induction l with
  | nil=>intro _;rfl
  | cons a r ihr=>intro h;simp only [List.map_cons,yG];rw [h a (by simp),ihr (fun p hp=>h p (by simp [hp]))]
 have hp:(zc c).parts=c.parts.map zc:=by rw [FB];rfl
 have hk:(zc c).kind=c.kind:=by rw [FB];rfl
 rw [Uf,Uf c,hp,hk,hL _ ih]
theorem Ze (c:C):vz (zc c)=vz c:=by unfold vz;rw [afS,agS,agJ]
theorem afJ (c:C):emptyS (zc c)=emptyS c:=by rw [FB];unfold emptyS;simp only [C.LW,C.Qz,C.aeV,C.afj,C.Gh,List.length_map];rfl
def zA (x:Ax):Ax:={ x with left:=zc x.left,right:=zc x.right,z:=x.roles.isEmpty }
theorem afY (x:Ax):fH (zA x)=fH x:=by
 unfold fH;have h1:pJ (zA x)=pJ x:=by unfold pJ zA Dp;simp only [afJ]
 have h2:Dl (zA x) (kJ (zA x).kind)=Dl x (kJ x.kind):=rfl;have h3:(zA x).kind=x.kind:=rfl;have h4:(zA x).left=zc x.left:=rfl;have h5:(zA x).right=zc x.right:=rfl;rw [h1,h2,h3,h4,h5,Ze,Ze,abV,abV]
structure AOK (x:Ax):Prop where
 k:x.kind=1∨x.kind=2∨x.kind=3∨x.kind=4∨x.kind=5∨x.kind=6∨x.kind=7∨x.kind=8∨x.kind=9
 l:if (kJ x.kind).l=true then iL x.left=0∧oD x.left≤64 else emptyS x.left=true
 r:if (kJ x.kind).r=true then iL x.right=0∧oD x.right≤64 else emptyS x.right=true
 role:if (kJ x.kind).role=true then NmV x.role else x.role=[]
 a:if (kJ x.kind).a=true then NmV x.a else x.a=[]
 b:if (kJ x.kind).b=true then NmV x.b else x.b=[]
 rs:∀r∈x.roles,NmV r
 lo:(kJ x.kind).lo≤x.roles.length
 hi:(x.roles.length:Int)≤(kJ x.kind).hi
theorem aok {x:Ax} (h:fH x=0):AOK x:=by
 unfold fH at h
 split at h
 ·cases h
 split at h
 ·cases h
 rename_i hs hn;have hs:pJ x=true:=by simpa using hs
 have hn:Dl x (kJ x.kind)=true:=by simpa using hn
 unfold U9 at h
 split at h
 ·rename_i q;exact absurd h q.2
 split at h
 ·rename_i q;exact absurd h q.2
 rename_i ql qr;unfold pJ at hs;simp only [Bool.and_eq_true,Bool.or_eq_true,decide_eq_true_eq] at hs;obtain ⟨⟨⟨⟨⟨⟨⟨s0,s1⟩,s2⟩,s3⟩,s4⟩,s5⟩,s6⟩,s7⟩:=hs;unfold Dl at hn;simp only [Bool.and_eq_true,Bool.or_eq_true,Bool.not_eq_true'] at hn;obtain ⟨⟨⟨n1,n2⟩,n3⟩,n4⟩:=hn
 have A:∀n:Rl,zo n=true→NmV n:=fun n h=>by
  unfold zo at h;rw [Bool.or_eq_true] at h;exact h
 have p:∀c:C,vz c=0→iL c=0∧oD c≤64:=fun c h=>by
  unfold vz at h
  split at h
  ·cases h
  ·rename_i q;exact ⟨h,by omega⟩
 have hk:1≤x.kind∧x.kind≤9:=by simp [Dp] at s0;exact s0
 have I:∀{l:List Rl},allPlain l=true→∀r∈l,oV r=true:=fun {l}=>by
  induction l with
  | nil=>intro _ r hr;cases hr
  | cons a l ih=>
   intro h r hr;simp only [allPlain,Bool.and_eq_true] at h;rcases List.mem_cons.1 hr with rfl|hr
   ·exact h.1
   ·exact ih h.2 r hr
 refine ⟨by omega, ?_, ?_, ?_, ?_, ?_,fun r hr=>.inl (I n4 r hr),s6,s7⟩
 ·split
  ·rename_i q;exact p _ (Classical.not_not.1 fun e=>ql ⟨q,e⟩)
  ·rename_i q;exact s1.resolve_left q
 ·split
  ·rename_i q;exact p _ (Classical.not_not.1 fun e=>qr ⟨q,e⟩)
  ·rename_i q;exact s2.resolve_left q
 ·split
  ·rename_i q;exact .inl (n1.resolve_left (by rw [q];exact Bool.noConfusion))
  ·rename_i q;exact s3.resolve_left q
 ·split
  ·rename_i q;exact A _ (n2.resolve_left (by rw [q];exact Bool.noConfusion))
  ·rename_i q;exact s4.resolve_left q
 ·split
  ·rename_i q;exact A _ (n3.resolve_left (by rw [q];exact Bool.noConfusion))
  ·rename_i q;exact s5.resolve_left q
mutual
def nmC:C→List Rl
 | .mk _ n _ _ _ ps=>n::aeL ps
def aeL:List C→List Rl
 | []=>[]
 | c::r=>nmC c++aeL r
end
theorem abu:∀l:List C,aeL l=l.flatMap nmC
 | []=>by simp [aeL]
 | c::r=>by simp [aeL,abu r]
theorem aae (c:C):nmC c=c.name::c.parts.flatMap nmC:=by cases c;simp [nmC,abu]
def nmX (x:Ax):List Rl:=nmC x.left++nmC x.right++x.roles++[x.role,x.a,x.b]
def ZA (pre:List Rl) (n:Rl):Prop:=∀x y,lH 58 n=some (x,y)→x++[58]∈pre∧x≠[111,119,108]∧x≠[120,115,100]
theorem LC {pre:List Rl} {n:Rl} (h:NmV n) (p:([58]:Rl)∈pre) (hd:ZA pre n):NmP pre n:=ai8 h ⟨p,hd⟩
theorem ah8 {pre:List Rl} (x:([58]:Rl)∈pre):∀c:C,iL c=0→(∀n∈nmC c,ZA pre n)→VC pre c:=by
 refine C.ind' fun c ih hw hd=>?_
 have h0:kU c=true∧uq c=true∧rW c.parts=0:=by
  rw [Dx] at hw
  split at hw
  ·cases hw
  split at hw
  ·cases hw
  ·rename_i a b;exact ⟨by simpa using a,by simpa using b,hw⟩
 have hL:∀l:List C,rW l=0→∀p∈l,iL p=0:=fun l=>by
  induction l with
  | nil=>intro _ p hp;cases hp
  | cons a r ihr=>
   intro h p hp;simp only [rW] at h
   split at h
   ·rename_i ha;rcases List.mem_cons.1 hp with rfl|hp
    ·exact ha
    ·exact ihr h p hp
   ·rename_i ha;exact absurd h ha
 rw [aae] at hd;refine .mk c h0.1 (fun hk=>?_) fun p hp=>ih p hp (hL _ h0.2.2 p hp) fun n hn=>hd n (by rw [List.mem_cons];exact .inr (List.mem_flatMap.2 ⟨p,hp,hn⟩))
 have hv:NmV c.name:=by
  have h1:=h0.2.1;unfold uq at h1
  rcases hk with k|k|k|k<;>simp [k] at h1
  ·exact .inl h1
  ·exact h1
  ·exact .inl h1
  ·exact .inl h1
 exact LC hv x (hd c.name (by simp))
def argX (x:Ax):List Tx:=
 if x.kind=1 then jA x.left++jA x.right
 else if x.kind=2 then jA x.left++jA x.right
 else if x.kind=3 then jA x.left++jA x.right
 else if x.kind=4 then (4,owN x.role)::jA x.right
 else if x.kind=5 then [(4,owN (x.roles.headD [])),(4,owN x.role)]
 else if x.kind=6 then (4,wA2)::(1,[40])::(x.roles.map (fun r=>((4,owN r):Tx))++[(1,[41]),(4,owN x.role)])
 else if x.kind=7 then [(4,owN x.role)]
 else if x.kind=8 then jA x.right++[(4,owN x.a)]
 else [(4,owN x.role),(4,owN x.a),(4,owN x.b)]
def Gv (b:Bool):List Tx:=if b=true then RQ else []
def qH (x:Ax):List Tx:=(4,vM x.kind)::(1,[40])::(Gv x.op++argX x++[(1,[41])])
theorem HY {pre:List Rl} (c:C) (h:VC pre c):∀t∈(jA c).head?,t.2≠wC1:=by
 cases h with
 | mk _ hs hn hp=>
 rw [BR];split
 ·simp
 split
 ·simp
 split
 ·simp
 split
 ·simp
 split
 ·simp
 split
 ·simp
 ·intro t ht;simp at ht;subst ht;intro he
  have:=Qx c.name
  simp only at he;rw [he] at this;simp at this
theorem DL (n:Rl) (w:Rl) (hw:(58:UInt8) ∉ w):owN n≠w:=fun h=>by
 have:=Qx n
 rw [h] at this;exact hw this
theorem wK {c:C} (h:emptyS c=true):zc c=zC:=by
 unfold emptyS at h;simp only [Bool.and_eq_true,decide_eq_true_eq] at h;obtain ⟨⟨⟨⟨h1,h2⟩,h3⟩,h4⟩,h5⟩:=h;have h6:c.parts=[]:=List.length_eq_zero_iff.1 (by omega);rw [FB,h1,h2,h3,h4,h6];rfl
section
variable {P:Rl→Prop} {src:Rl} {pre:List Rl}
theorem aey {n:Rl} (hn:NmP pre n):Par P src pre (nG src) n [(4,owN n)]:=by
 refine ⟨by simp,by simpa using DL n _ (by simp),fun r L h hr=>?_⟩;exact sF h (by rw [hr];exact hn)
theorem Le {α:Type} {f:Rd→OR α} {v:α} {T:List Tx} (h:Par P src pre f v T):∃t T',T=t::T':=by
 cases T with
 | nil=>exact absurd rfl h.1
 | cons t T'=>exact ⟨t,T',rfl⟩
theorem Am {T:List Tx} (p:([58]:Rl)∈pre) (b:Bool) (hT:∃t T',T=t::T'∧t.2≠wC1) (n:Nat) (hn:2≤n) (r:Rd) (L:List Tx) (h:My P src r (Gv b++T++L)) (ho:r.op=false) (hr:r.pre=pre):
  ∃q,oH src n r=.ok () q∧My P src q (T++L)∧q.pre=r.pre∧q.iri=r.iri∧q.op=b:=by
 obtain ⟨t,T',rfl,ht⟩:=hT;obtain ⟨n,rfl⟩:∃k,n=k+2:=⟨n - 2,by omega⟩;rw [List.append_assoc,List.cons_append] at h;obtain ⟨q,h1,h2,h3,h4,h5,_⟩:=aeO n b (t:=t) (L:=T'++L) h ht (by rw [hr];exact p) ho;exact ⟨q,h1,h2,h3,h4,h5⟩
theorem YC (R:([58]:Rl)∈pre) (ho:[111,119,108,58]∈pre) (hx:[120,115,100,58]∈pre) {x:Ax} (hc:fH x=0) (hd:∀n∈nmX x,ZA pre n) {n N:Nat} (hn:(qH x).length≤n) (l:List Ax) (hl:l.length+1≤1024) (r:Rd) (L:List Tx) (hr:r.pre=pre) (h:My P src r (qH x++L)):
  ∃q,Bo src n N l r=.ok (l++[zA x]) q∧My P src q L∧q.pre=r.pre∧q.iri=r.iri:=by
 have A:=aok hc;have a8:fH { (({ x with op:=false }:Ax) |> zA) with op:=x.op }=0:=(afY x).trans hc;have W:∀w:iL x.left=0,VC pre x.left:=fun w=>ah8 R _ w fun n hn=>hd n (by unfold nmX;simp [hn]);have Y:∀w:iL x.right=0,VC pre x.right:=fun w=>ah8 R _ w fun n hn=>hd n (by unfold nmX;simp [hn]);have Z:NmV x.role→NmP pre x.role:=fun h=>LC h R (hd _ (by unfold nmX;simp));have a7:NmV x.a→NmP pre x.a:=fun h=>LC h R (hd _ (by unfold nmX;simp));have b5:NmV x.b→NmP pre x.b:=fun h=>LC h R (hd _ (by unfold nmX;simp));have a6:∀r∈x.roles,NmP pre r:=fun r hr=>LC (A.rs r hr) R (hd _ (by unfold nmX;simp [hr]))
 have Q:∀(w:Rl),vM x.kind=w→acQ w=true→(∀(r1:Rd) (L:List Tx),My P src r1 (Gv x.op++argX x++((1,[41])::L))→r1.op=false→r1.pre=pre→
   ∃q,D6 src n w r1=.ok [zA { x with op:=false }] q∧My P src q ((1,[41])::L)∧q.pre=r1.pre∧q.iri=r1.iri∧q.op=x.op)→
   ∃q,Bo src n N l r=.ok (l++[zA x]) q∧My P src q L∧q.pre=r.pre∧q.iri=r.iri:=fun w hw hi hb=>by
  have h2:My P src r ((4,w)::(1,[40])::(Gv x.op++argX x++(1,[41])::L)):=by
   unfold qH at h;rw [hw] at h
   simpa using h
  exact ahg (n:=n) (N:=N) hi (op:=x.op) (xs:=[zA { x with op:=false }]) hb (fun y hy=>by rw [List.mem_singleton.1 hy];exact a8) l (by simpa using hl) r hr L h2
 have S:2≤n:=by unfold qH at hn;simp at hn;omega
 have I:(argX x).length≤n:=by unfold qH at hn;simp at hn;omega
 rcases A.k with k|k|k|k|k|k|k|k|k
 ·have Al:=A.l;have Ar:=A.r;have Ao:=A.role;have Aa:=A.a;have Ab:=A.b;have K:=A.lo;have J:=A.hi;simp [k,kJ] at Al Ar Ao Aa Ab K J;have O:x.roles=[]:=J;have p1:=Ce (P:=P) (src:=src) ho hx x.left (W Al.1) n (by unfold argX at I;simp [k] at I;omega);have p2:=Ce (P:=P) (src:=src) ho hx x.right (Y Ar.1) n (by unfold argX at I;simp [k] at I;omega);refine Q wC3 (by simp [vM,k]) (by decide) fun r1 L h o p=>?_;have ha:argX x=jA x.left++jA x.right:=by simp [argX,k]
  rw [ha] at h;obtain ⟨t,T',e⟩:=Le p1;obtain ⟨q,a1,a2,a3,a4,a5⟩:=Am R x.op ⟨t,T'++jA x.right,by rw [e];rfl,HY x.left (W Al.1) t (by rw [e];rfl)⟩ n S r1 _ h o p;rw [List.append_assoc] at a2;obtain ⟨q1,b1,b2,b3⟩:=p1.2.2 q _ a2 (a3.trans p);obtain ⟨q2,c1,c2,c3⟩:=p2.2.2 q1 _ b2 (b3.pre.trans (a3.trans p));refine ⟨q2, ?_,c2,by rw [c3.pre,b3.pre,a3],by rw [c3.iri,b3.iri,a4],by rw [c3.op,b3.op,a5]⟩;simp [D6,ZJ,a1,b1,c1,zA,axC,k,O,Ao,Aa,Ab]
 ·have Al:=A.l;have Ar:=A.r;have Ao:=A.role;have Aa:=A.a;have Ab:=A.b;have K:=A.lo;have J:=A.hi;simp [k,kJ] at Al Ar Ao Aa Ab K J;have O:x.roles=[]:=J;have p1:=Ce (P:=P) (src:=src) ho hx x.left (W Al.1) n (by unfold argX at I;simp [k] at I;omega);have p2:=Ce (P:=P) (src:=src) ho hx x.right (Y Ar.1) n (by unfold argX at I;simp [k] at I;omega);refine Q wB3 (by simp [vM,k]) (by decide) fun r1 L h o p=>?_;have ha:argX x=jA x.left++jA x.right:=by simp [argX,k]
  rw [ha] at h;obtain ⟨t,T',e⟩:=Le p1;obtain ⟨q,a1,a2,a3,a4,a5⟩:=Am R x.op ⟨t,T'++jA x.right,by rw [e];rfl,HY x.left (W Al.1) t (by rw [e];rfl)⟩ n S r1 _ h o p
  have b0:5≤n:=by
   have l1:=Dy x.left;have l2:=Dy x.right;unfold qH at hn;rw [ha] at hn;simp at hn;omega
  obtain ⟨q2,c1,c2,c3⟩:=LD (P:=P) (src:=src) (pre:=pre) (f:=xC src n) [zc x.left,zc x.right] jA (fun v hv=>by
    rcases List.mem_cons.1 hv with rfl|hv
    ·rw [BQ];exact p1
    ·rw [List.mem_singleton.1 hv,BQ];exact p2) id (fun _ _=>rfl) n [] q L (by simp;omega) (by simp) (a3.trans p) (by simpa [BQ] using a2)
  refine ⟨q2, ?_,c2,by rw [c3.pre,a3],by rw [c3.iri,a4],by rw [c3.op,a5]⟩;simp at c1;simp [D6,aaB,a1,c1,zA,axC,k,O,Ao,Aa,Ab,Kv]
 ·have Al:=A.l;have Ar:=A.r;have Ao:=A.role;have Aa:=A.a;have Ab:=A.b;have K:=A.lo;have J:=A.hi;simp [k,kJ] at Al Ar Ao Aa Ab K J;have O:x.roles=[]:=J;have p1:=Ce (P:=P) (src:=src) ho hx x.left (W Al.1) n (by unfold argX at I;simp [k] at I;omega);have p2:=Ce (P:=P) (src:=src) ho hx x.right (Y Ar.1) n (by unfold argX at I;simp [k] at I;omega);refine Q wB6 (by simp [vM,k]) (by decide) fun r1 L h o p=>?_;have ha:argX x=jA x.left++jA x.right:=by simp [argX,k]
  rw [ha] at h;obtain ⟨t,T',e⟩:=Le p1;obtain ⟨q,a1,a2,a3,a4,a5⟩:=Am R x.op ⟨t,T'++jA x.right,by rw [e];rfl,HY x.left (W Al.1) t (by rw [e];rfl)⟩ n S r1 _ h o p
  have b0:5≤n:=by
   have l1:=Dy x.left;have l2:=Dy x.right;unfold qH at hn;rw [ha] at hn;simp at hn;omega
  obtain ⟨q2,c1,c2,c3⟩:=LD (P:=P) (src:=src) (pre:=pre) (f:=xC src n) [zc x.left,zc x.right] jA (fun v hv=>by
    rcases List.mem_cons.1 hv with rfl|hv
    ·rw [BQ];exact p1
    ·rw [List.mem_singleton.1 hv,BQ];exact p2) id (fun _ _=>rfl) n [] q L (by simp;omega) (by simp) (a3.trans p) (by simpa [BQ] using a2)
  refine ⟨q2, ?_,c2,by rw [c3.pre,a3],by rw [c3.iri,a4],by rw [c3.op,a5]⟩;simp at c1;simp [D6,aaI,a1,c1,zA,axC,k,O,Ao,Aa,Ab,IL]
 ·have Al:=A.l;have Ar:=A.r;have Ao:=A.role;have Aa:=A.a;have Ab:=A.b;have K:=A.lo;have J:=A.hi;simp [k,kJ] at Al Ar Ao Aa Ab K J;have O:x.roles=[]:=J;have p2:=Ce (P:=P) (src:=src) ho hx x.right (Y Ar.1) n (by unfold argX at I;simp [k] at I;omega);refine Q wB2 (by simp [vM,k]) (by decide) fun r1 L h o p=>?_;have ha:argX x=(4,owN x.role)::jA x.right:=by simp [argX,k]
  rw [ha] at h;obtain ⟨q,a1,a2,a3,a4,a5⟩:=Am R x.op ⟨_,_,rfl,DL x.role _ (by simp)⟩ n S r1 _ h o p;rw [List.cons_append] at a2;obtain ⟨q1,b1,b2,b3⟩:=sF a2 (by rw [a3,p];exact Z Ao);obtain ⟨q2,c1,c2,c3⟩:=p2.2.2 q1 _ b2 (b3.pre.trans (a3.trans p));refine ⟨q2, ?_,c2,by rw [c3.pre,b3.pre,a3],by rw [c3.iri,b3.iri,a4],by rw [c3.op,b3.op,a5]⟩;simp [D6,aaE,a1,b1,c1,zA,k,O,Aa,Ab,wK Al]
 ·have Al:=A.l;have Ar:=A.r;have Ao:=A.role;have Aa:=A.a;have Ab:=A.b;have K:=A.lo;have J:=A.hi;simp [k,kJ] at Al Ar Ao Aa Ab K J;obtain ⟨r0,O⟩:∃r0,x.roles=[r0]:=List.length_eq_one_iff.1 (by omega);refine Q wA4 (by simp [vM,k]) (by decide) fun r1 L h o p=>?_;have ha:argX x=[(4,owN r0),(4,owN x.role)]:=by simp [argX,k,O]
  rw [ha] at h;obtain ⟨q,a1,a2,a3,a4,a5⟩:=Am R x.op ⟨_,_,rfl,DL r0 _ (by simp)⟩ n S r1 _ h o p;simp only [List.cons_append,List.nil_append] at a2;obtain ⟨q0,z1,z2,z3,z4⟩:=yh a2 wA2;rw [decide_eq_false (DL r0 _ (by simp))] at z1;obtain ⟨q1,b1,b2,b3⟩:=sF z2 (by rw [z4.pre,a3,p];exact a6 r0 (by rw [O];simp));obtain ⟨q2,c1,c2,c3⟩:=sF b2 (by rw [b3.pre,z4.pre,a3,p];exact Z Ao);refine ⟨q2, ?_,c2,by rw [c3.pre,b3.pre,z4.pre,a3],by rw [c3.iri,b3.iri,z4.iri,a4],by rw [c3.op,b3.op,z4.op,a5]⟩;simp [D6,X7,a1,z1,b1,c1,zA,k,O,Aa,Ab,wK Al,wK Ar]
 ·have Al:=A.l;have Ar:=A.r;have Ao:=A.role;have Aa:=A.a;have Ab:=A.b;have K:=A.lo;have J:=A.hi;simp [k,kJ] at Al Ar Ao Aa Ab K J;refine Q wA4 (by simp [vM,k]) (by decide) fun r1 L h o p=>?_;have ha:argX x=(4,wA2)::(1,[40])::(x.roles.map (fun r=>((4,owN r):Tx))++[(1,[41]),(4,owN x.role)]):=by simp [argX,k]
  rw [ha] at h;obtain ⟨q,a1,a2,a3,a4,a5⟩:=Am R x.op ⟨_,_,rfl,by simp⟩ n S r1 _ h o p;simp only [List.cons_append,List.nil_append,List.append_assoc] at a2;obtain ⟨q0,z1,z2,z3,z4⟩:=yh a2 wA2;obtain ⟨q1,b1,b2,b3⟩:=kX z3 (w:=[40]) rfl;have a0:q1.pre=pre:=by rw [b3.pre];show q0.pre=_;rw [z4.pre,a3,p]
  have b4:x.roles.flatMap (fun r=>([(4,owN r)]:List Tx))=x.roles.map (fun r=>((4,owN r):Tx)):=by
   have:∀l:List Rl,l.flatMap (fun r=>([(4,owN r)]:List Tx))=l.map (fun r=>((4,owN r):Tx)):=fun l=>by
    induction l with
    | nil=>rfl
    | cons a l ih=>simp [ih]
   exact this _
  obtain ⟨q2,c1,c2,c3⟩:=LD (P:=P) (src:=src) (pre:=pre) (f:=nG src) x.roles (fun r=>[(4,owN r)]) (fun v hv=>aey (a6 v hv)) id (fun _ _=>rfl) n [] q1 ((4,owN x.role)::(1,[41])::L) (by rw [ha] at I;simp at I;omega) (by simp;omega) a0 (by rw [b4];exact b2);obtain ⟨q3,d1,d2,d3⟩:=kX c2 (w:=[41]) rfl;obtain ⟨q4,e1,e2,e3⟩:=sF d2 (by rw [d3.pre,c3.pre,a0];exact Z Ao)
  have a9:x.roles.isEmpty=false:=by
   cases hh:x.roles with
   | nil=>rw [hh] at K;simp at K
   | cons=>rfl
  refine ⟨q4, ?_,e2, ?_, ?_, ?_⟩
  ·simp [D6,X7,a1,z1,b1,c1,d1,e1,zA,k,a9,Aa,Ab,wK Al,wK Ar]
  ·rw [e3.pre,d3.pre,c3.pre,b3.pre];show q0.pre=_;rw [z4.pre,a3]
  ·rw [e3.iri,d3.iri,c3.iri,b3.iri];show q0.iri=_;rw [z4.iri,a4]
  ·rw [e3.op,d3.op,c3.op,b3.op];show q0.op=_;rw [z4.op,a5]
 ·have Al:=A.l;have Ar:=A.r;have Ao:=A.role;have Aa:=A.a;have Ab:=A.b;have K:=A.lo;have J:=A.hi;simp [k,kJ] at Al Ar Ao Aa Ab K J;have O:x.roles=[]:=J;refine Q wA9 (by simp [vM,k]) (by decide) fun r1 L h o p=>?_;have ha:argX x=[(4,owN x.role)]:=by simp [argX,k]
  rw [ha] at h;obtain ⟨q,a1,a2,a3,a4,a5⟩:=Am R x.op ⟨_,_,rfl,DL x.role _ (by simp)⟩ n S r1 _ h o p;rw [List.cons_append] at a2;obtain ⟨q1,b1,b2,b3⟩:=sF a2 (by rw [a3,p];exact Z Ao);refine ⟨q1, ?_,b2,by rw [b3.pre,a3],by rw [b3.iri,a4],by rw [b3.op,a5]⟩;simp [D6,ZW,a1,b1,zA,k,O,Aa,Ab,wK Al,wK Ar]
 ·have Al:=A.l;have Ar:=A.r;have Ao:=A.role;have Aa:=A.a;have Ab:=A.b;have K:=A.lo;have J:=A.hi;simp [k,kJ] at Al Ar Ao Aa Ab K J;have O:x.roles=[]:=J;have p2:=Ce (P:=P) (src:=src) ho hx x.right (Y Ar.1) n (by unfold argX at I;simp [k] at I;omega);refine Q wB9 (by simp [vM,k]) (by decide) fun r1 L h o p=>?_;have ha:argX x=jA x.right++[(4,owN x.a)]:=by simp [argX,k]
  rw [ha] at h;obtain ⟨t,T',e⟩:=Le p2;obtain ⟨q,a1,a2,a3,a4,a5⟩:=Am R x.op ⟨t,T'++[(4,owN x.a)],by rw [e];rfl,HY x.right (Y Ar.1) t (by rw [e];rfl)⟩ n S r1 _ h o p;rw [List.append_assoc] at a2;obtain ⟨q1,b1,b2,b3⟩:=p2.2.2 q _ a2 (a3.trans p);obtain ⟨q2,c1,c2,c3⟩:=sF b2 (by rw [b3.pre,a3,p];exact a7 Aa);refine ⟨q2, ?_,c2,by rw [c3.pre,b3.pre,a3],by rw [c3.iri,b3.iri,a4],by rw [c3.op,b3.op,a5]⟩;simp [D6,ZH,a1,b1,c1,zA,k,O,Ao,Ab,wK Al]
 ·have Al:=A.l;have Ar:=A.r;have Ao:=A.role;have Aa:=A.a;have Ab:=A.b;have K:=A.lo;have J:=A.hi;simp [k,kJ] at Al Ar Ao Aa Ab K J;have O:x.roles=[]:=J;refine Q wB0 (by simp [vM,k]) (by decide) fun r1 L h o p=>?_;have ha:argX x=[(4,owN x.role),(4,owN x.a),(4,owN x.b)]:=by simp [argX,k]
  rw [ha] at h;obtain ⟨q,a1,a2,a3,a4,a5⟩:=Am R x.op ⟨_,_,rfl,DL x.role _ (by simp)⟩ n S r1 _ h o p;simp only [List.cons_append,List.nil_append] at a2;obtain ⟨q1,b1,b2,b3⟩:=sF a2 (by rw [a3,p];exact Z Ao);obtain ⟨q2,c1,c2,c3⟩:=sF b2 (by rw [b3.pre,a3,p];exact a7 Aa);obtain ⟨q3,d1,d2,d3⟩:=sF c2 (by rw [c3.pre,b3.pre,a3,p];exact b5 Ab);refine ⟨q3, ?_,d2,by rw [d3.pre,c3.pre,b3.pre,a3],by rw [d3.iri,c3.iri,b3.iri,a4],by rw [d3.op,c3.op,b3.op,a5]⟩;simp [D6,aaj,a1,b1,c1,d1,zA,k,O,wK Al,wK Ar]
end
end Go.Ai.Z
namespace Go.Ai.Z
open Go.Lib (itoa decDigits)
def NW (v:Rl):Prop:=∀b∈v.head?,zF b=false
theorem aeJ (v:Rl):NW (32::v):=by intro b hb;simp at hb;subst hb;decide
theorem aij (v:Rl):NW (10::v):=by intro b hb;simp at hb;subst hb;decide
theorem alF (v:Rl):NW (41::v):=by intro b hb;simp at hb;subst hb;decide
theorem abq (v:Rl):NW (40::v):=by intro b hb;simp at hb;subst hb;decide
theorem alE (v:Rl):NW (61::v):=by intro b hb;simp at hb;subst hb;decide
def ace (b:UInt8):Bool:=QY b && !decide (b=60) && !decide (b=62)
structure aaZ (R:Rl→List Tx→Prop):Prop where
 blank:∀{c:UInt8} {v:Rl} {L:List Tx},c=32∨c=10→L≠[]→R v L→R (c::v) L
 word:∀{w v:Rl} {L:List Tx},w.all zF=true→w≠[]→NW v→R v L→R (w++v) ((4,w)::L)
 sign:∀{c:UInt8} {v:Rl} {L:List Tx},c=40∨c=41∨c=61→R v L→R (c::v) ((1,[c])::L)
 caret:∀{v:Rl} {L:List Tx},R v L→R (94::94::v) ((1,[94,94])::L)
 iri:∀{p v:Rl} {L:List Tx},p.all Dq=true→R v L→R (60::(p++62::v)) ((2,60::(p++[62]))::L)
 str:∀{p v:Rl} {L:List Tx},p.all ace=true→R v L→R (34::(p++34::v)) ((3,34::(p++[34]))::L)
theorem ad3 {p:Rl} (h:p.all ace=true):p.all QY=true:=by
 rw [List.all_eq_true] at h ⊢;intro b hb
 have:=h b hb
 unfold ace at this;simp only [Bool.and_eq_true] at this;exact this.1.1
theorem aeS (P:Rl→Prop):aaZ (Ly P) where
 blank h hL hx:=by
  rename_i c v L
  cases L with
  | nil=>exact absurd rfl hL
  | cons t L=>exact SI h hx
 word hw hn hv h:=⟨_,WU hw hn hv,h⟩
 sign hc h:=⟨_,abo hc _,h⟩
 caret h:=⟨_,Yh _,h⟩
 iri hp h:=⟨_,aeH hp _,h⟩
 str hp h:=⟨_,aeG (ad3 hp) _,h⟩
def Pc (R:Rl→List Tx→Prop) (x:Rl) (T:List Tx):Prop:=T≠[]∧∀(v:Rl) (L:List Tx),NW v→R v L→R (x++v) (T++L)
section
variable {R:Rl→List Tx→Prop} (hR:aaZ R)
include hR
theorem wU {w:Rl} (hw:w.all zF=true) (hn:w≠[]):Pc R w [(4,w)]:=⟨by simp,fun v L hv h=>hR.word hw hn hv h⟩
theorem abh:∀(A:List (Rl×List Tx)),A≠[]→(∀p∈A,Pc R p.1 p.2)→Pc R (joinL [32] (A.map (·.1))) (A.flatMap (·.2))
 | [],h,_=>absurd rfl h
 | [p],_,h=>by
  have h1:=h p (by simp)
  simpa [joinL] using h1
 | p::q::A,_,h=>by
  have h1:=h p (by simp);have h2:=abh (q::A) (by simp) (fun r hr=>h r (by simp [hr]));refine ⟨by simp [h1.1],fun v L hv hL=>?_⟩;have h3:=h2.2 v L hv hL;have x:((q::A).flatMap (·.2))++L≠[]:=fun hh=>h2.1 (List.append_eq_nil_iff.1 hh).1;have h4:=h1.2 (32::(joinL [32] ((q::A).map (·.1))++v)) _ (aeJ _) (hR.blank (.inl rfl) x h3);have e1:joinL [32] ((p::q::A).map (·.1))++v=p.1++32::(joinL [32] ((q::A).map (·.1))++v):=by simp [joinL]
  have e2:((p::q::A).flatMap (·.2))++L=p.2++(((q::A).flatMap (·.2))++L):=by simp
  rw [e1,e2];exact h4
theorem agZ {w:Rl} (hw:w.all zF=true) (hn:w≠[]) {x:Rl} {T:List Tx} (h:Pc R x T):Pc R (w++[40]++x++[41]) ((4,w)::(1,[40])::(T++[(1,[41])])):=by
 refine ⟨by simp,fun v L hv hL=>?_⟩;have h1:R (41::v) ((1,[41])::L):=hR.sign (.inr (.inl rfl)) hL;have h2:=h.2 (41::v) _ (alF v) h1;have h3:R (40::(x++41::v)) ((1,[40])::(T++(1,[41])::L)):=hR.sign (.inl rfl) h2;have h4:=(wU hR hw hn).2 _ _ (abq _) h3;have e1:w++[40]++x++[41]++v=w++40::(x++41::v):=by simp
 rw [e1]
 simpa using h4
theorem zH {w:Rl} (hw:w.all zF=true) (hn:w≠[]) (A:List (Rl×List Tx)) (hA:A≠[]) (h:∀p∈A,Pc R p.1 p.2):Pc R (lN w (A.map (·.1))) ((4,w)::(1,[40])::(A.flatMap (·.2)++[(1,[41])])):=
 agZ hR hw hn (abh hR A hA h)
omit hR in
theorem ae9 (n:Int):(itoa n).all ace=true:=by
 have hd:∀u:Nat,(decDigits u).all ace=true:=fun u=>by
  have:=Xm u
  rw [List.all_eq_true] at this ⊢;intro b hb;have h1:=(QE b).1 (this b hb);unfold ace QY stI;simp only [Bool.and_eq_true,decide_eq_true_eq,Bool.not_eq_true',decide_eq_false_iff_not]
  refine ⟨⟨by omega, ?_⟩, ?_⟩<;>(rintro rfl;revert h1;decide)
 unfold itoa;split
 ·rw [List.all_cons,hd];rfl
 ·exact hd _
theorem aex {w:Rl} (hw:w.all zF=true) (hn:w≠[]) (n:Int):Pc R (Bv w n) (Oh w n):=by
 refine ⟨by simp [Oh],fun v L hv hL=>?_⟩;have h1:=(wU hR (w:=wA1) (by decide) (by simp)).2 v L hv hL;have h2:R (94::94::(wA1++v)) ((1,[94,94])::(4,wA1)::L):=hR.caret h1;have h3:R (34::(itoa n++34::94::94::(wA1++v))) ((3,34::(itoa n++[34]))::(1,[94,94])::(4,wA1)::L):=hR.str (ae9 n) h2;have h4:=(wU hR hw hn).2 _ _ (aeJ _) (hR.blank (.inl rfl) (by simp) h3);have e1:Bv w n++v=w++32::34::(itoa n++34::94::94::(wA1++v)):=by simp [Bv,ttI]
 rw [e1];exact h4
theorem uD {n:Rl} (h:NmV n):Pc R (owN n) [(4,owN n)]:=wU hR (abj h).1 (abj h).2
omit hR in
theorem QT {c:C} (h:iL c=0):kU c=true∧uq c=true∧∀p∈c.parts,iL p=0:=by
 rw [Dx] at h
 split at h
 ·cases h
 split at h
 ·cases h
 ·rename_i a b;refine ⟨by simpa using a,by simpa using b, ?_⟩
  have hL:∀l:List C,rW l=0→∀p∈l,iL p=0:=fun l=>by
   induction l with
   | nil=>intro _ p hp;cases hp
   | cons a r ihr=>
    intro h p hp;simp only [rW] at h
    split at h
    ·rename_i ha;rcases List.mem_cons.1 hp with rfl|hp
     ·exact ha
     ·exact ihr h p hp
    ·rename_i ha;exact absurd h ha
  exact hL _ h
omit hR in
theorem Qy {c:C} (h:uq c=true) (hk:c.kind=3∨c.kind=4∨c.kind=6∨c.kind=7):NmV c.name:=by
 unfold uq at h
 rcases hk with k|k|k|k<;>simp [k] at h
 ·exact .inl h
 ·exact h
 ·exact .inl h
 ·exact .inl h
theorem Gg:∀c:C,iL c=0→Pc R (owC c) (jA c):=by
 refine C.ind' fun c ih hw=>?_;obtain ⟨hs,hn,hp⟩:=QT hw;rw [Di,BR];rcases Wv hs with k|k|k|k|k|k|k
 ·simp only [k,if_true];exact wU hR (by decide) (by simp)
 ·simp only [k];exact wU hR (w:=wB1) (by decide) (by simp)
 ·simp only [k];exact uD hR (Qy hn (.inl k))
 ·simp only [k];exact zH hR (w:=wB8) (by decide) (by simp) [(owN c.name,[(4,owN c.name)])] (by simp) (fun p hp=>by rw [List.mem_singleton.1 hp];exact uD hR (Qy hn (.inr (.inl k))))
 ·simp only [k]
  have x:c.parts≠[]:=by
   have:=(Nv hs k).2.2.2
   intro h;rw [h] at this;simp at this
  have h1:=zH hR (w:=wA6) (by decide) (by simp) (c.parts.map fun p=>(owC p,jA p)) (by simpa using x) (fun p A=>by
   obtain ⟨d,hd,rfl⟩:=List.mem_map.1 A
   exact ih d hd (hp d hd))
  rw [List.map_map] at h1;have e2:(c.parts.map fun p=>(owC p,jA p)).flatMap (·.2)=c.parts.flatMap jA:=by rw [List.flatMap_map]
  rw [e2] at h1;exact h1
 ·obtain ⟨s1,s2,p,s3⟩:=Q7 hs k;simp only [k,s3]
  have h1:=zH hR (w:=wA7) (by decide) (by simp) [(owN c.name,[(4,owN c.name)]),(owC p,jA p)] (by simp) (fun q hq=>by
   rcases List.mem_cons.1 hq with rfl|hq
   ·exact uD hR (Qy hn (.inr (.inr (.inl k))))
   ·rw [List.mem_singleton.1 hq];exact ih p (by rw [s3];simp) (hp p (by rw [s3];simp)))
  simpa using h1
 ·simp only [k]
  have h0:=zH hR (w:=wA5) (by decide) (by simp) [(wA1,[(4,wA1)]),(Bv wA0 c.lo,Oh wA0 c.lo),(Bv wA3 c.hi,Oh wA3 c.hi)] (by simp) (fun q hq=>by
   rcases List.mem_cons.1 hq with rfl|hq
   ·exact wU hR (by decide) (by simp)
   rcases List.mem_cons.1 hq with rfl|hq
   ·exact aex hR (by decide) (by simp) _
   ·rw [List.mem_singleton.1 hq];exact aex hR (by decide) (by simp) _)
  have h1:=zH hR (w:=wA8) (by decide) (by simp) [(owN c.name,[(4,owN c.name)]),(lN wA5 [wA1,Bv wA0 c.lo,Bv wA3 c.hi],_)] (by simp) (fun q hq=>by
   rcases List.mem_cons.1 hq with rfl|hq
   ·exact uD hR (Qy hn (.inr (.inr (.inr k))))
   ·rw [List.mem_singleton.1 hq];exact h0)
  simpa using h1
theorem agY:Pc R fO RQ:=by
 refine ⟨by simp [RQ],fun v L hv hL=>?_⟩;have h1:R (41::v) ((1,[41])::L):=hR.sign (.inr (.inl rfl)) hL;have h2:R (34::([116,114,117,101]++34::41::v)) ((3,wD0)::(1,[41])::L):=hR.str (by decide) h1;have h3:=(wU hR (w:=[58,111,112,101,110]) (by decide) (by simp)).2 _ _ (aeJ _) (hR.blank (.inl rfl) (by simp) h2);have h4:R (40::([58,111,112,101,110]++32::34::([116,114,117,101]++34::41::v))) ((1,[40])::([(4,[58,111,112,101,110])]++(3,wD0)::(1,[41])::L)):=hR.sign (.inl rfl) h3;have h5:=(wU hR (w:=wC1) (by decide) (by simp)).2 _ _ (abq _) h4;exact h5
omit hR in
theorem aiv (x:Ax) (h:AOK x):(vM x.kind).all zF=true∧vM x.kind≠[]:=by
 rcases h.k with k|k|k|k|k|k|k|k|k<;>rw [k]<;>exact ⟨by decide,by decide⟩
theorem alB {x:Ax} (hc:fH x=0):Pc R (owA x) (qH x):=by
 have A:=aok hc
 have hA:∃B:List (Rl×List Tx),B≠[]∧(∀p∈B,Pc R p.1 p.2)∧B.map (·.1)=zI x∧B.flatMap (·.2)=argX x:=by
  rcases A.k with k|k|k|k|k|k|k|k|k
  ·have Al:=A.l;have Ar:=A.r;simp [k,kJ] at Al Ar;exact ⟨[(owC x.left,jA x.left),(owC x.right,jA x.right)],by simp,by simpa using ⟨Gg hR _ Al.1,Gg hR _ Ar.1⟩,by simp [zI,k],by simp [argX,k]⟩
  ·have Al:=A.l;have Ar:=A.r;simp [k,kJ] at Al Ar;exact ⟨[(owC x.left,jA x.left),(owC x.right,jA x.right)],by simp,by simpa using ⟨Gg hR _ Al.1,Gg hR _ Ar.1⟩,by simp [zI,k],by simp [argX,k]⟩
  ·have Al:=A.l;have Ar:=A.r;simp [k,kJ] at Al Ar;exact ⟨[(owC x.left,jA x.left),(owC x.right,jA x.right)],by simp,by simpa using ⟨Gg hR _ Al.1,Gg hR _ Ar.1⟩,by simp [zI,k],by simp [argX,k]⟩
  ·have Ar:=A.r;have Ao:=A.role;simp [k,kJ] at Ar Ao;exact ⟨[(owN x.role,[(4,owN x.role)]),(owC x.right,jA x.right)],by simp,by simpa using ⟨uD hR Ao,Gg hR _ Ar.1⟩,by simp [zI,k],by simp [argX,k]⟩
  ·have Ao:=A.role;have I:=A.lo;have J:=A.hi;simp [k,kJ] at Ao I J;obtain ⟨r0,K⟩:∃r0,x.roles=[r0]:=List.length_eq_one_iff.1 (by omega);exact ⟨[(owN r0,[(4,owN r0)]),(owN x.role,[(4,owN x.role)])],by simp,by simpa using ⟨uD hR (A.rs r0 (by rw [K];simp)),uD hR Ao⟩,by simp [zI,k,K],by simp [argX,k,K]⟩
  ·have Ao:=A.role;have I:=A.lo;have J:=A.hi;simp [k,kJ] at Ao I J;have O:x.roles≠[]:=by intro h;rw [h] at I;simp at I
   have h0:=zH hR (w:=wA2) (by decide) (by simp) (x.roles.map fun r=>(owN r,[(4,owN r)])) (by simpa using O) (fun q hq=>by
    obtain ⟨r,hr,rfl⟩:=List.mem_map.1 hq
    exact uD hR (A.rs r hr))
   rw [List.map_map,List.flatMap_map] at h0
   have P:x.roles.flatMap (fun r=>([(4,owN r)]:List Tx))=x.roles.map (fun r=>((4,owN r):Tx)):=by
    have:∀l:List Rl,l.flatMap (fun r=>([(4,owN r)]:List Tx))=l.map (fun r=>((4,owN r):Tx)):=fun l=>by
     induction l with
     | nil=>rfl
     | cons a l ih=>simp [ih]
    exact this _
   refine ⟨[(lN wA2 (x.roles.map owN),(4,wA2)::(1,[40])::(x.roles.map (fun r=>((4,owN r):Tx))++[(1,[41])])),(owN x.role,[(4,owN x.role)])],by simp, ?_,by simp [zI,k],by simp [argX,k]⟩;intro q hq;rcases List.mem_cons.1 hq with rfl|hq
   ·rw [←P];exact h0
   ·rw [List.mem_singleton.1 hq];exact uD hR Ao
  ·have Ao:=A.role;simp [k,kJ] at Ao;exact ⟨[(owN x.role,[(4,owN x.role)])],by simp,by simpa using uD hR Ao,by simp [zI,k],by simp [argX,k]⟩
  ·have Ar:=A.r;have Aa:=A.a;simp [k,kJ] at Ar Aa;exact ⟨[(owC x.right,jA x.right),(owN x.a,[(4,owN x.a)])],by simp,by simpa using ⟨Gg hR _ Ar.1,uD hR Aa⟩,by simp [zI,k],by simp [argX,k]⟩
  ·have Ao:=A.role;have Aa:=A.a;have Ab:=A.b;simp [k,kJ] at Ao Aa Ab;exact ⟨[(owN x.role,[(4,owN x.role)]),(owN x.a,[(4,owN x.a)]),(owN x.b,[(4,owN x.b)])],by simp,by simpa using ⟨uD hR Ao,uD hR Aa,uD hR Ab⟩,by simp [zI,k],by simp [argX,k]⟩
 obtain ⟨B,h1,h2,h3,h4⟩:=hA;obtain ⟨w1,w2⟩:=aiv x A;unfold owA qH iC Gv;rw [←h3,←h4]
 cases x.op with
 | false=>
  simpa using zH hR w1 w2 B h1 h2
 | true=>
  have:=zH hR w1 w2 ((fO,RQ)::B) (by simp) (fun q hq=>by
   rcases List.mem_cons.1 hq with rfl|hq
   ·exact agY hR
   ·exact h2 q hq)
  simpa using this
end
end Go.Ai.Z
namespace Go.Ai.Z
section
variable {R:Rl→List Tx→Prop} (hR:aaZ R)
include hR
theorem Qv {w u:Rl} (hw:w.all zF=true) (hn:w≠[]) (hu:u.all Dq=true):Pc R (wC6++w++[61,60]++u++[62,41]) (uU w (60::(u++[62]))):=by
 refine ⟨by simp [uU],fun v L hv hL=>?_⟩;have h1:R (41::v) ((1,[41])::L):=hR.sign (.inr (.inl rfl)) hL;have h2:R (60::(u++62::41::v)) ((2,60::(u++[62]))::(1,[41])::L):=hR.iri hu h1;have h3:R (61::60::(u++62::41::v)) ((1,[61])::(2,60::(u++[62]))::(1,[41])::L):=hR.sign (.inr (.inr rfl)) h2;have h4:=(wU hR hw hn).2 _ _ (alE _) h3;have h5:R (40::(w++61::60::(u++62::41::v))) ((1,[40])::([(4,w)]++(1,[61])::(2,60::(u++[62]))::(1,[41])::L)):=hR.sign (.inl rfl) h4;have h6:=(wU hR (w:=wB7) (by decide) (by simp)).2 _ _ (abq _) h5;have e:wC6++w++[61,60]++u++[62,41]++v=wB7++40::(w++61::60::(u++62::41::v)):=by simp
 rw [e];exact h6
theorem ai0:Pc R Z8 [(4,wB5),(1,[40])]:=by
 refine ⟨by simp,fun v L hv hL=>?_⟩;have h1:R (40::v) ((1,[40])::L):=hR.sign (.inl rfl) hL;exact (wU hR (w:=wB5) (by decide) (by simp)).2 _ _ (abq _) h1
theorem Yv:∀(A:List (Rl×List Tx)),(∀p∈A,Pc R p.1 p.2)→∀(v:Rl) (L:List Tx),L≠[]→R v L→R (rM (A.map (·.1))++v) (A.flatMap (·.2)++L)
 | [],_,v,L,_,h=>h
 | p::A,hA,v,L,hL,h=>by
  have h1:=Yv A (fun q hq=>hA q (by simp [hq])) v L hL h;have x:A.flatMap (·.2)++L≠[]:=fun hh=>hL (List.append_eq_nil_iff.1 hh).2;have h2:=(hA p (by simp)).2 _ _ (aij _) (hR.blank (.inr rfl) x h1);have e1:rM ((p::A).map (·.1))++v=p.1++10::(rM (A.map (·.1))++v):=by simp [rM]
  have e2:(p::A).flatMap (·.2)++L=p.2++(A.flatMap (·.2)++L):=by simp
  rw [e1,e2];exact h2
end
def RD:Rl:=wC8
def QO:Rl:=wC5
def Uw (p w:Rl):List Tx:=uU (w++[58]) (60::((p++w++[47])++[62]))
def hdX (p:Rl):List Tx:=uU [58] (60::(p++[62]))
def afP (p:Rl) (W:List Rl) (l:List Ax):List Tx:=uU [111,119,108,58] (60::(RD++[62]))++uU [120,115,100,58] (60::(QO++[62]))++W.flatMap (Uw p)++[(4,wB5),(1,[40])]++l.flatMap qH++[(1,[41])]
def Qn (p:Rl) (W:List Rl) (l:List Ax):List Tx:=hdX p++afP p W l
def TB (p:Rl) (W:List Rl) (l:List Ax):List (Rl×List Tx):=([(Qd p,hdX p),(Tc,uU [111,119,108,58] (60::(RD++[62]))),(S9,uU [120,115,100,58] (60::(QO++[62])))]++W.map (fun w=>(Il p w,Uw p w))++[(Z8,[(4,wB5),(1,[40])])]++l.map (fun x=>(owA x,qH x)))
structure WdP (w:Rl):Prop where
 word:Ba w=true
 iri:w.all Dq=true
 owl:w≠[111,119,108]
 xsd:w≠[120,115,100]
theorem agF {b:UInt8} (h:zF b=true):Dq b=true:=by
 unfold zF wdI ltI at h;unfold Dq YE;simp only [Bool.or_eq_true,Bool.and_eq_true,decide_eq_true_eq] at h ⊢;omega
theorem wdP {w:Rl} (h:Ba w=true) (h1:w≠[111,119,108]) (h2:w≠[120,115,100]):WdP w:=by
 obtain ⟨_,k,_,_⟩:=qM h;refine ⟨h, ?_,h1,h2⟩;rw [List.all_eq_true] at k ⊢;exact fun b hb=>agF (k b hb)
theorem abO {R:Rl→List Tx→Prop} (hR:aaZ R) {p:Rl} (hp:p.all Dq=true) {W:List Rl} (hW:∀w∈W,WdP w) {l:List Ax} (hl:∀x∈l,fH x=0):∀q∈TB p W l,Pc R q.1 q.2:=fun q hq=>by
 have J:Qd p=wC6++[58]++[61,60]++p++[62,41]:=by simp [Qd]
 have I:Tc=wC6++[111,119,108,58]++[61,60]++RD++[62,41]:=rfl;have K:S9=wC6++[120,115,100,58]++[61,60]++QO++[62,41]:=rfl;have A:∀w,Il p w=wC6++(w++[58])++[61,60]++(p++w++[47])++[62,41]:=fun w=>by simp [Il]
 unfold TB at hq;simp only [List.mem_append,List.mem_cons,List.not_mem_nil,or_false,List.mem_map] at hq;rcases hq with ((((rfl|rfl|rfl)|⟨w,hw,rfl⟩)|rfl)|⟨x,hx,rfl⟩)
 ·rw [J];exact Qv hR (by decide) (by simp) hp
 ·rw [I];exact Qv hR (by decide) (by simp) (by decide)
 ·rw [K];exact Qv hR (by decide) (by simp) (by decide)
 ·show Pc _ (Il p w) (Uw p w);rw [A];obtain ⟨k1,k2,k3,_⟩:=qM (hW w hw).word;refine Qv hR (by rw [List.all_append,k2];decide) (by simp) ?_;rw [List.all_append,List.all_append,hp,(hW w hw).iri];decide
 ·exact ai0 hR
 ·exact alB hR (hl x hx)
theorem TA (p:Rl) (W:List Rl) (l:List Ax):Kz p W l=rM ((TB p W l).map (·.1))++[41,10]:=by
 unfold Kz aaG TB;simp [GH,rM,List.map_map,Function.comp_def]
theorem aaF (p:Rl) (W:List Rl) (l:List Ax):Qn p W l=((TB p W l).flatMap (·.2))++[(1,[41])]:=by
 unfold Qn afP TB;simp [List.flatMap_append,List.flatMap_map]
theorem abx {R:Rl→List Tx→Prop} (hR:aaZ R) {z:Rl} (A:R z []) {p:Rl} (hp:p.all Dq=true) {W:List Rl} (hW:∀w∈W,WdP w) {l:List Ax} (hl:∀x∈l,fH x=0):R (rM ((TB p W l).map (·.1))++41::z) (Qn p W l):=by
 rw [aaF];exact Yv hR (TB p W l) (abO hR hp hW hl) (41::z) [(1,[41])] (by simp) (hR.sign (.inr (.inl rfl)) A)
theorem aja {R:Rl→List Tx→Prop} (hR:aaZ R) (A:R [10] []) {p:Rl} (hp:p.all Dq=true) {W:List Rl} (hW:∀w∈W,WdP w) {l:List Ax} (hl:∀x∈l,fH x=0):R (Kz p W l) (Qn p W l):=by
 rw [TA];exact abx hR A hp hW hl
theorem agR (v:Rl):(skp v).length≤v.length:=by unfold skp;rw [List.length_drop];omega
theorem ai4 {v w:Rl} {t:Tx} (h:Nx v t w):w.length+1≤v.length:=by
 obtain ⟨h1,h2,_⟩:=h
 have:=agR v
 rw [h1,List.length_append] at this
 have:t.2.length≠0:=fun hc=>h2 (List.length_eq_zero_iff.1 hc)
 omega
theorem aaf {P:Rl→Prop}:∀(L:List Tx) (v:Rl),Ly P v L→L.length≤v.length
 | [],v,_=>by simp
 | t::L,v,⟨w,h1,h2⟩=>by
  have:=ai4 h1
  have:=aaf L w h2
  simp;omega
def agu (w:Rl):Prop:=∃x,w=x++[58]∧(58:UInt8) ∉ x∧(x=[]∨∃c r,x=c::r∧ltI c.toNat=true)
theorem WL {w:Rl} (h:agu w) {pre:List Rl} (hn:w ∉ pre) (a:Nat):PY pre (4,w,a)=true:=by
 obtain ⟨x,rfl,h1,h2⟩:=h
 have hc:lH 58 (x++[58])=some (x,[]):=by
  have:∀x:Rl,(58:UInt8) ∉ x→lH 58 (x++[58])=some (x,[]):=fun x=>by
   induction x with
   | nil=>intro _;simp [lH]
   | cons c r ih=>
    intro hx;simp only [List.mem_cons,not_or] at hx;simp [lH,Ne.symm hx.1,ih hx.2]
  exact this x h1
 have hi:=ET hc;unfold PY;simp only [hi];rcases h2 with rfl|⟨c,r,rfl,hl⟩
 ·simpa using hn
 ·simp [hl]
  simpa using hn
theorem abw {P:Rl→Prop} {src:Rl}:∀(I:List (Rl×Rl)) (k:Nat) (r:Rd) (t:Tx) (L:List Tx),I.length<k→(∀p∈I,agu p.1∧p.1≠[58]∧∀a,xY p.1 (2,p.2,a)=true)→(I.map (·.1)).Nodup→(∀p∈I,p.1 ∉ r.pre)→t.2≠wB7→
  My P src r (I.flatMap (fun p=>uU p.1 p.2)++t::L)→∃q,pK src k r=.ok () q∧My P src q (t::L)∧q.pre=r.pre++I.map (·.1)∧q.iri=r.iri
 | [],k,r,t,L,hk,_,_,_,ht,h=>by
  obtain ⟨k,rfl⟩:∃j,k=j+1:=⟨k - 1,by simp at hk;omega⟩;obtain ⟨q,h1,h2,h3,h4⟩:=yh h wB7;rw [decide_eq_false ht] at h1;exact ⟨q,by unfold pK;rw [h1];simp,h2,by simp [h4.pre],h4.iri⟩
 | p::I,k,r,t,L,hk,hI,hnd,hnm,ht,h=>by
  obtain ⟨k,rfl⟩:∃j,k=j+1:=⟨k - 1,by simp at hk;omega⟩;rw [List.flatMap_cons,List.append_assoc] at h;have h':=h;rw [show uU p.1 p.2=(4,wB7)::[(1,[40]),(4,p.1),(1,[61]),(2,p.2),(1,[41])] from rfl,List.cons_append] at h';obtain ⟨q,h1,h2,h3,h4⟩:=yh h' wB7;obtain ⟨g1,g2,g3⟩:=hI p (by simp);have A:p.1 ∉ q.pre:=by rw [h4.pre];exact hnm p (by simp)
  obtain ⟨q1,a1,a2,a3,a4⟩:=WX (src:=src) (P:=P) (r:=q) (w:=p.1) (u:=p.2) (by exact h2) (fun a=>WL g1 A a) g3;have x:q1.pre=r.pre++[p.1]:=by rw [a3];unfold qJ;rw [if_neg A,h4.pre]
  rw [List.map_cons,List.nodup_cons] at hnd
  obtain ⟨q2,b1,b2,b3,b4⟩:=abw I k q1 t L (by simp at hk;omega) (fun u hu=>hI u (by simp [hu])) hnd.2 (fun u hu=>by
   rw [x,List.mem_append,not_or];refine ⟨hnm u (by simp [hu]), ?_⟩;rw [List.mem_singleton];intro e
   exact hnd.1 (by rw [←e];exact List.mem_map.2 ⟨u,hu,rfl⟩)) ht a2
  refine ⟨q2, ?_,b2,by rw [b3,x];simp,by rw [b4,a4,if_neg g2,h4.iri]⟩;unfold pK;rw [h1,decide_eq_true rfl];simp only [OR.bind_ok,if_true,a1,b1]
def dcl (W:List Rl):List Rl:=[58]::[111,119,108,58]::[120,115,100,58]::W.map (·++[58])
theorem afO {src p:Rl} {W:List Rl} {l:List Ax} {N:Nat} (h:Ly NxE src (Qn p W l)) (hW:∀w∈W,WdP w) (b7:W.Nodup) (hl:∀x∈l,fH x=0) (b8:l.length≤1024) (hd:∀x∈l,∀n∈nmX x,ZA (dcl W) n):
  ∃r,ML src (src.length+1) N r00=.ok (l.map zA) r∧r.iri=p:=by
 have K:=aaf _ _ h;have h0:My NxE src r00 (Qn p W l):=h
 have hX:Qn p W l=hdX p++((uU [111,119,108,58] (60::(RD++[62]))++uU [120,115,100,58] (60::(QO++[62]))++W.flatMap (Uw p))++(4,wB5)::((1,[40])::(l.flatMap qH++[(1,[41])]))):=by
  unfold Qn afP;simp
 have hI:uU [111,119,108,58] (60::(RD++[62]))++uU [120,115,100,58] (60::(QO++[62]))++W.flatMap (Uw p)=(([111,119,108,58],60::(RD++[62]))::([120,115,100,58],60::(QO++[62]))::W.map (fun w=>(w++[58],60::((p++w++[47])++[62])))).flatMap (fun p=>uU p.1 p.2):=by
  rw [List.flatMap_cons,List.flatMap_cons,List.flatMap_map,List.append_assoc];rfl
 have c0:W.length≤(W.flatMap (Uw p)).length:=by
  have:∀W:List Rl,W.length≤(W.flatMap (Uw p)).length:=fun W=>by
   induction W with
   | nil=>simp
   | cons w W ih=>simp only [List.flatMap_cons,List.length_append,List.length_cons,Uw,uU] at ih ⊢;omega
  exact this W
 have a0:∀x∈l,(qH x).length≤(l.flatMap qH).length:=fun x hx=>by
  have:∀l:List Ax,x∈l→(qH x).length≤(l.flatMap qH).length:=fun l=>by
   induction l with
   | nil=>intro hh;cases hh
   | cons y l ih=>
    intro hh;rw [List.flatMap_cons,List.length_append];rcases List.mem_cons.1 hh with rfl|hh
    ·omega
    ·have:=ih hh;omega
  exact this l hx
 have b9:l.length≤(l.flatMap qH).length:=by
  have:∀l:List Ax,l.length≤(l.flatMap qH).length:=fun l=>by
   induction l with
   | nil=>simp
   | cons y l ih=>rw [List.flatMap_cons,List.length_append];simp only [qH,List.length_cons] at ih ⊢;omega
  exact this l
 have a9:(hdX p).length+(W.flatMap (Uw p)).length+(l.flatMap qH).length≤src.length:=by rw [hX] at K;simp at K ⊢;omega
 rw [hX] at h0
 -- the first prefix
 have Z:=h0;rw [show hdX p=(4,wB7)::[(1,[40]),(4,[58]),(1,[61]),(2,60::(p++[62])),(1,[41])] from rfl,List.cons_append] at Z;obtain ⟨q0,a1,a2,a3,a4⟩:=yh Z wB7;obtain ⟨q1,b1,b2,b3,b4⟩:=WX (src:=src) (P:=NxE) (r:=q0) (w:=[58]) (u:=60::(p++[62])) (by exact a2) (fun a=>WL ⟨[],rfl,by simp,.inl rfl⟩ (by rw [a4.pre];simp [r00]) a) (fun a=>by simp [xY]);have S:q1.pre=[[58]]:=by rw [b3,a4.pre];rfl
 have a5:q1.iri=p:=by rw [b4,if_pos rfl];exact afe 60 62 p
 rw [hI] at b2
 have a7:∀w∈W,agu (w++[58]):=fun w hw=>by
  obtain ⟨_,_,k3,c,r,k4,k5⟩:=qM (hW w hw).word;exact ⟨w,rfl,k3,.inr ⟨c,r,k4,k5⟩⟩
 have Y:∀w:Rl,(w++[58]:Rl)=[111,119,108,58]→w=[111,119,108]:=fun w h=>by
  have:(w++[58]:Rl)=[111,119,108]++[58]:=h
  exact List.append_cancel_right this
 have R:∀w:Rl,(w++[58]:Rl)=[120,115,100,58]→w=[120,115,100]:=fun w h=>by
  have:(w++[58]:Rl)=[120,115,100]++[58]:=h
  exact List.append_cancel_right this
 have J:((([111,119,108,58],60::(RD++[62]))::([120,115,100,58],60::(QO++[62]))::W.map (fun w=>(w++[58],60::((p++w++[47])++[62])))).map (·.1):List Rl)=[111,119,108,58]::[120,115,100,58]::W.map (·++[58]):=by simp [Function.comp_def]
 obtain ⟨n,hn⟩:∃n,src.length+1=n+1:=⟨src.length,rfl⟩
 obtain ⟨q2,c1,c2,c3,c4⟩:=abw (P:=NxE) (src:=src) (([111,119,108,58],60::(RD++[62]))::([120,115,100,58],60::(QO++[62]))::W.map (fun w=>(w++[58],60::((p++w++[47])++[62])))) src.length q1 (4,wB5) ((1,[40])::(l.flatMap qH++[(1,[41])])) (by have h6:(hdX p).length=6:=rfl;simp only [List.length_cons,List.length_map];omega)
  (fun u hu=>by
   rcases List.mem_cons.1 hu with rfl|hu
   ·exact ⟨⟨[111,119,108],rfl,by simp,.inr ⟨_,_,rfl,by decide⟩⟩,by simp,fun a=>by simp [xY,RD]⟩
   rcases List.mem_cons.1 hu with rfl|hu
   ·exact ⟨⟨[120,115,100],rfl,by simp,.inr ⟨_,_,rfl,by decide⟩⟩,by simp,fun a=>by simp [xY,QO]⟩
   ·obtain ⟨w,hw,rfl⟩:=List.mem_map.1 hu;refine ⟨a7 w hw,fun e=>?_,fun a=>?_⟩
    ·have:w=[]:=by simpa using e
     exact (qM (hW w hw).word).1 this
    ·have k1:¬(w++[58]:Rl)=[111,119,108,58]:=fun e=>(hW w hw).owl (Y w e);have k2:¬(w++[58]:Rl)=[120,115,100,58]:=fun e=>(hW w hw).xsd (R w e)
     simp [xY,k1,k2])
  (by
   rw [J,List.nodup_cons,List.nodup_cons];refine ⟨?_, ?_, ?_⟩
   ·simp only [List.mem_cons,not_or,List.mem_map,not_exists,not_and];exact ⟨by simp,fun w hw e=>(hW w hw).owl (Y w e)⟩
   ·simp only [List.mem_map,not_exists,not_and];exact fun w hw e=>(hW w hw).xsd (R w e)
   ·exact List.Pairwise.map _ (fun a b b5 e=>b5 (List.append_cancel_right e)) b7)
  (fun u hu=>by
   rw [S,List.mem_singleton];rcases List.mem_cons.1 hu with rfl|hu
   ·simp
   rcases List.mem_cons.1 hu with rfl|hu
   ·simp
   ·obtain ⟨w,hw,rfl⟩:=List.mem_map.1 hu;intro e
    have:w=[]:=by simpa using e
    exact (qM (hW w hw).word).1 this)
  (by simp) b2
 have I:q2.pre=dcl W:=by rw [c3,S,J];rfl
 obtain ⟨q3,d1,d2,d3,d4⟩:=yh c2 wB5;obtain ⟨q4,e1,e2,e3⟩:=kX d3 (w:=[40]) rfl;have O:q4.pre=dcl W:=by rw [e3.pre];show q3.pre=_;rw [d4.pre,I]
 -- no IRI behind the sign
 have hf:∃q5,Ae src 2 q4=.ok () q5∧My NxE src q5 (l.flatMap qH++[(1,[41])])∧Fq q4 q5:=by
  have:∃t T,l.flatMap qH++[((1,[41]):Tx)]=t::T∧t.1≠2:=by
   cases l with
   | nil=>exact ⟨_,_,rfl,by simp⟩
   | cons x l=>exact ⟨(4,vM x.kind),_,rfl,by simp⟩
  obtain ⟨t,T,k1,k2⟩:=this;rw [k1] at e2;obtain ⟨a,q5,f1,f2,f3,f4⟩:=pO e2;refine ⟨q5, ?_,by rw [k1];exact f2,f4⟩;unfold Ae;rw [f1];simp only [OR.bind_ok];rw [if_neg k2]
 obtain ⟨q5,f1,f2,f3⟩:=hf;have b6:l.flatMap qH=(l.map fun x=>(qH x,[zA x])).flatMap (·.1):=by rw [List.flatMap_map]
 have Q:(l.map fun x=>(qH x,[zA x])).flatMap (·.2)=l.map zA:=by
  rw [List.flatMap_map]
  have:∀l:List Ax,l.flatMap (fun x=>[zA x])=l.map zA:=fun l=>by
   induction l with
   | nil=>rfl
   | cons a l ih=>simp [ih]
  exact this l
 rw [b6] at f2
 obtain ⟨q6,g1,g2,g3,g4⟩:=Yl (P:=NxE) (src:=src) (n:=src.length+1) (N:=N) (pre:=dcl W) (l.map fun x=>(qH x,[zA x])) (fun u hu=>by
   obtain ⟨x,hx,rfl⟩:=List.mem_map.1 hu;refine ⟨⟨_,_,rfl, ?_⟩,fun l0 r L h1 h2 h3=>?_⟩
   ·have A:=aok (hl x hx)
    rcases A.k with k|k|k|k|k|k|k|k|k<;>rw [k]<;>decide
   ·exact YC (pre:=dcl W) (by simp [dcl]) (by simp [dcl]) (by simp [dcl]) (hl x hx) (hd x hx) (by have:=a0 x hx;omega) l0 (by simpa using h1) r L h2 h3)
  (src.length+1) [] q5 [] (by simp;omega) (by rw [Q];simpa using b8) (f3.pre.trans O) f2
 rw [Q] at g1;obtain ⟨a8,q8,j1,j2⟩:=ai9 g2;refine ⟨q8, ?_, ?_⟩
 ·have a6:pK src (src.length+1) r00=.ok () q2:=by
   unfold pK;rw [a1,decide_eq_true rfl];simp only [OR.bind_ok,if_true,b1,c1]
  have b0:([58]:Rl)∈q3.pre:=by rw [d4.pre,I];simp [dcl]
  unfold ML;rw [a6];simp only [OR.bind_ok,d1,b0,decide_true,Bool.and_self,oM,e1,f1,g1,j1];simp
 ·rw [j2.iri];show q6.iri=_;rw [g3,f3.iri,e3.iri];show q3.iri=_;rw [d4.iri,c4,a5]
end Go.Ai.Z
namespace Go.Ai.Z
theorem Ap {v:V4} {n:Rl}:n∈v.all ↔ n∈v.c∨n∈v.r∨n∈v.f∨n∈v.i:=by
 unfold V4.all;simp only [List.mem_append,or_assoc]
theorem agm {v:V4} {c:C} {n:Rl} (h:n∈v.all):n∈(v.add c).all:=by
 rw [Ap] at h ⊢;unfold V4.add;split
 ·simp only [jd];rcases h with h|h|h|h<;>simp [h]
 split
 ·simp only [jd];rcases h with h|h|h|h<;>simp [h]
 split
 ·simp only [jd];rcases h with h|h|h|h<;>simp [h]
 split
 ·simp only [jd];rcases h with h|h|h|h<;>simp [h]
 ·exact h
theorem ahX {v:V4} {c:C} (hk:c.kind=3∨c.kind=4∨c.kind=6∨c.kind=7):c.name∈(v.add c).all:=by
 rw [Ap];unfold V4.add
 rcases hk with k|k|k|k<;>simp [k,jd]
theorem KL {n:Rl}:∀(c:C) (v:V4),n∈v.all→n∈(ou c v).all:=by
 refine C.ind' fun c ih v h=>?_;rw [BP]
 have hL:∀(l:List C),(∀p∈l,∀v:V4,n∈v.all→n∈(ou p v).all)→∀v:V4,n∈v.all→n∈(xU l v).all:=fun l=>by
  induction l with
  | nil=>intro _ v hv;simpa [xU] using hv
  | cons a r ihr=>intro hp v hv;rw [xU];exact ihr (fun p x=>hp p (by simp [x])) _ (hp a (by simp) v hv)
 exact hL _ ih _ (agm h)
theorem adU {n:Rl} (hn:n≠[]):∀(c:C),iL c=0→∀v:V4,n∈nmC c→n∈(ou c v).all:=by
 refine C.ind' fun c ih hw v h=>?_;obtain ⟨h1,h2,h3⟩:=QT hw
 have I:∀(l:List C) (v:V4),n∈v.all→n∈(xU l v).all:=fun l=>by
  induction l with
  | nil=>intro v hv;simpa [xU] using hv
  | cons a r ihr=>intro v hv;rw [xU];exact ihr _ (KL a v hv)
 rw [BP];rw [aae] at h;rcases List.mem_cons.1 h with h|h
 ·subst h;refine I _ _ (ahX ?_);rcases Wv h1 with k|k|k|k|k|k|k
  ·exact absurd ((AQ h1 (.inl k)).2.2.2 (.inl k)) hn
  ·exact absurd ((AQ h1 (.inr (.inl k))).2.2.2 (.inr k)) hn
  ·exact .inl k
  ·exact .inr (.inl k)
  ·exact absurd (Nv h1 k).2.2.1 hn
  ·exact .inr (.inr (.inl k))
  ·exact .inr (.inr (.inr k))
 ·obtain ⟨p,hp,hq⟩:=List.mem_flatMap.1 h
  have hL:∀(l:List C),(∀q∈l,∀v:V4,n∈nmC q→n∈(ou q v).all)→p∈l→∀v:V4,n∈(xU l v).all:=fun l=>by
   induction l with
   | nil=>intro _ hp;cases hp
   | cons a r ihr=>
    intro A hp v;rw [xU];rcases List.mem_cons.1 hp with rfl|hp
    ·exact I r _ (A _ (by simp) v hq)
    ·exact ihr (fun q x=>A q (by simp [x])) hp _
  exact hL c.parts (fun q x v hv=>ih q x (h3 q x) v hv) hp _
theorem afK {c:C} (h:emptyS c=true):∀n∈nmC c,n=[]:=by
 unfold emptyS at h;simp only [Bool.and_eq_true,decide_eq_true_eq] at h;have h6:c.parts=[]:=List.length_eq_zero_iff.1 (by omega);intro n hn;rw [aae,h6] at hn;simp at hn;rw [hn,h.1.1.1.2]
theorem Sj {rs:List Rl}:∀{V:List Rl} {n:Rl},n∈V∨n∈rs→n∈Fh V rs:=by
 induction rs with
 | nil=>intro V n h;simpa [Fh] using h
 | cons r rs ih=>
  intro V n h;rw [Fh];refine ih ?_;rw [jd];rcases h with h|h
  ·exact .inl (.inr h)
  ·rcases List.mem_cons.1 h with h|h
   ·exact .inl (.inl h)
   ·exact .inr h
theorem ab9 {n:Rl} (x:Ax) (v:V4) (h:n∈v.all):n∈(Np x v).all:=by
 have h2:=KL x.right _ (KL x.left v h);rw [Ap] at h2 ⊢;unfold Np;simp only;rcases h2 with h|h|h|h
 ·exact .inl h
 ·exact .inr (.inl (jd.2 (.inr (Sj (.inl h)))))
 ·exact .inr (.inr (.inl h))
 ·exact .inr (.inr (.inr (jd.2 (.inr (jd.2 (.inr h))))))
theorem agK {n:Rl} (hn:n≠[]) {x:Ax} (hx:x.Vd) (v:V4) (h:n∈nmX x):n∈(Np x v).all:=by
 have p:∀c:C,(emptyS c=true∨iL c=0∧oD c≤64)→n∈nmC c→iL c=0:=fun c hc h=>by
  rcases hc with hc|hc
  ·exact absurd (afK hc n h) hn
  ·exact hc.1
 have hu:n∈(ou x.right (ou x.left v)).all→n∈(Np x v).all:=fun h2=>by
  rw [Ap] at h2 ⊢;unfold Np;simp only;rcases h2 with h|h|h|h
  ·exact .inl h
  ·exact .inr (.inl (jd.2 (.inr (Sj (.inl h)))))
  ·exact .inr (.inr (.inl h))
  ·exact .inr (.inr (.inr (jd.2 (.inr (jd.2 (.inr h))))))
 unfold nmX at h;simp only [List.mem_append,List.mem_cons,List.not_mem_nil,or_false] at h;rcases h with ((h|h)|h)|h|h|h
 ·exact hu (KL _ _ (adU hn _ (p _ hx.l h) v h))
 ·exact hu (adU hn _ (p _ hx.r h) _ h)
 ·rw [Ap];exact .inr (.inl (jd.2 (.inr (Sj (.inr h)))))
 ·rw [Ap];exact .inr (.inl (jd.2 (.inl h)))
 ·rw [Ap];exact .inr (.inr (.inr (jd.2 (.inr (jd.2 (.inl h))))))
 ·rw [Ap];exact .inr (.inr (.inr (jd.2 (.inl h))))
theorem OE {n:Rl}:∀(l:List Ax) (v:V4),n∈v.all→n∈(oz l v).all
 | [],v,h=>h
 | x::l,v,h=>OE l _ (ab9 x v h)
theorem U2 {n:Rl} (hn:n≠[]):∀(l:List Ax) (v:V4),(∀x∈l,x.Vd)→∀x∈l,n∈nmX x→n∈(oz l v).all
 | [],v,_,x,hx,_=>by cases hx
 | y::l,v,hv,x,hx,h=>by
  rw [oz];rcases List.mem_cons.1 hx with rfl|hx
  ·exact OE l _ (agK hn (hv _ (by simp)) v h)
  ·exact U2 hn l _ (fun z hz=>hv z (by simp [hz])) x hx h
section
variable {l:List Ax} (hv:∀x∈l,x.Vd)
include hv
theorem ai6 {n:Rl} (hn:n≠[]) {x:Ax} (hx:x∈l) (h:n∈nmX x):n∈X8 l:=by
 have h1:=U2 hn l V4.nil hv x hx h;have hE:=(Bc hv WV WW).2.1;unfold X8;rw [Ap] at h1 ⊢;rw [←hE.c n hn,←hE.r n hn,←hE.f n hn,←hE.i n hn];exact h1
theorem abv {n x y:Rl} (hn:Nd n) (hc:lH 58 n=some (x,y)):Ba x=true:=by
 rcases hn with rfl|h|h
 ·simp [lH] at hc
 ·unfold oV at h;rw [Bool.and_eq_true,hc] at h;simp only [Bool.and_eq_true] at h;exact h.2.1
 ·unfold Ny at h;simp only [Bool.and_eq_true] at h;rw [TK (KP h.2).2] at hc;cases hc
theorem adT:∀w∈jc l,Ba w=true:=fun w hw=>by
 obtain ⟨n,hn,h1,h2⟩:=(aa0 hv).1 hw;have h3:n≠[]:=fun e=>by rw [e] at h1;exact h2 (h1 ▸ rfl)
 have A:=DU hv n ((H9 hv h3).2 hn);unfold KG at h1
 cases hc:lH 58 n with
 | none=>rw [hc] at h1;exact absurd h1.symm h2
 | some p=>
  rw [hc] at h1;simp only at h1;rw [←h1];exact abv hv A (x:=p.1) (y:=p.2) hc
theorem V8 (h1:Jw ∉ jc l) (h2:Nk ∉ jc l):∀w∈jc l,WdP w:=fun w hw=>
 wdP (adT hv w hw) (fun e=>h1 (by rw [e] at hw;exact hw)) (fun e=>h2 (by rw [e] at hw;exact hw))
theorem aa2 (h1:Jw ∉ jc l) (h2:Nk ∉ jc l) {x:Ax} (hx:x∈l) {n:Rl} (hn:n∈nmX x):ZA (dcl (jc l)) n:=by
 intro a b hc;have p:n≠[]:=by rintro rfl;simp [lH] at hc
 have hr:=ai6 hv p hx hn;have A:=DU hv n ((H9 hv p).2 hr);have hw:=abv hv A hc;have hb:KG n=a:=by unfold KG;rw [hc]
 have hm:a∈jc l:=(aa0 hv).2 ⟨n,hr,hb,(qM hw).1⟩;refine ⟨?_,fun e=>h1 (by rw [e] at hm;exact hm),fun e=>h2 (by rw [e] at hm;exact hm)⟩;unfold dcl;simp only [List.mem_cons,List.mem_map];exact .inr (.inr (.inr ⟨a,hm,rfl⟩))
end
theorem adQ {l:List Ax} {p:Rl} (h:Dc l p=0) (I:l.length≤1024) {src:Rl} (hs:Ly NxE src (Qn p (jc l) l)) (N:Nat):
  ∃r,ML src (src.length+1) N r00=.ok (l.map zA) r∧r.iri=p:=by
 unfold Dc at h
 split at h
 ·cases h
 rename_i hp
 split at h
 ·rename_i hc;exact absurd h hc
 rename_i hc;have hc:zS l=0:=Classical.not_not.1 hc
 split at h
 ·cases h
 rename_i hw;have hv:∀x∈l,x.Vd:=fun x hm=>vd (tV hc x hm);have h1:Jw ∉ jc l:=fun q=>hw (.inl q);have h2:Nk ∉ jc l:=fun q=>hw (.inr q);have A:(jc l).Nodup:=Srt.nodup (by unfold jc;exact XQ _);exact afO hs (V8 hv h1 h2) A (tV hc) I fun x hx n hn=>aa2 hv h1 h2 hx hn
theorem ait {l:List Ax} {p:Rl} (h:Dc l p=0):Ly NxE (Kz p (jc l) l) (Qn p (jc l) l)∧(Kz p (jc l) l).length≤65536∧zS l=0:=by
 unfold Dc at h
 split at h
 ·cases h
 rename_i hp
 split at h
 ·rename_i hc;exact absurd h hc
 rename_i hc;have hc:zS l=0:=Classical.not_not.1 hc
 split at h
 ·cases h
 rename_i hw
 split at h
 ·cases h
 rename_i hl;have hv:∀x∈l,x.Vd:=fun x hm=>vd (tV hc x hm);have h1:Jw ∉ jc l:=fun q=>hw (.inl q);have h2:Nk ∉ jc l:=fun q=>hw (.inr q)
 have hi:p.all Dq=true:=by
  cases q:Xa p with
  | false=>exact absurd (.inr q) hp
  | true=>exact q
 exact ⟨aja (aeS NxE) (by show skp [10]=[];rfl) hi (V8 hv h1 h2) (tV hc),by omega,hc⟩
end Go.Ai.Z
namespace Go.Ai.Z
theorem aea:∀c:C,wC c≤100000→SmC c (zc c):=by
 refine C.ind' fun c ih hw=>?_;have hl:=QU c.parts;rw [FC] at hw;exact alr (fun p hp=>ih p hp (by have:=Nl hp;omega)) (by omega)
theorem aiL {x:Ax} (h:x.Few):SmA x (zA x):=⟨rfl,rfl,aea _ (by have:=h.l;omega),aea _ (by have:=h.r;omega),rfl,by have:=h.roles;omega,rfl,rfl,rfl⟩
theorem aen {l:List Ax} {p:Rl} (h:Dc l p=0) (x:l.length≤1024) {src:Rl} (hs:Ly NxE src (Qn p (jc l) l)) (hl:src.length≤65536) (s:St) (cx:Ctx) (hc:cx.lim≤s.length):
  aj P0 (.fn (.func mg) [] []) [.sl (aC src)] s cx=.ret (.tu [slf true ((l.map zA).map cu),.s p,.i .i64 0,.i .i64 0]) s:=by
 obtain ⟨r,h1,h2⟩:=adQ h x hs (s.length+8);have e:=af7 src (by omega) s cx hc;unfold Ru at e;rw [if_neg (by omega),h1] at e;simp only [h2] at e;exact e
end Go.Ai.Z
namespace Go.Ai.Z
def ErO {α:Type} (src:Rl) (x:OR α):Prop:=
 match x with
 | .ok _ _=>True
 | .er a c _=>a≤src.length∧c≠0
theorem ErO.bind {α β:Type} {src:Rl} {x:OR α} {f:α→Rd→OR β} (h:ErO src x) (hf:∀v q,x=.ok v q→ErO src (f v q)):ErO src (x.bind f):=by
 cases x with
 | er a c q=>exact h
 | ok v q=>exact hf v q rfl
theorem qG.er {α:Type} {src:Rl} {r:Rd} {k:Nat} {x:OR α} (h:qG src r k x):ErO src x:=by
 cases x with
 | er a c q=>exact ⟨h.1,by rw [h.2];decide⟩
 | ok v q=>trivial
theorem abL {src:Rl} {N a0:Nat} (ha:a0≤src.length):∀(xs l:List Ax) (r:Rd),ErO src (Ad N a0 xs l r)
 | [],l,r=>trivial
 | x::xs,l,r=>by
  unfold Ad;split
  ·exact abL ha xs _ _
  ·rename_i hc;exact ⟨ha,hc⟩
theorem ahu {src:Rl} {n N:Nat} {l:List Ax} {r:Rd} (hr:Wr src r) (hn:rem src r<n):ErO src (Bo src n N l r):=by
 unfold Bo;refine (dI hr).p.er.bind fun t r1 h1=>?_;have g1:=(dI hr).ok h1;have a1:=(nP hr h1).2.at_;refine (dM g1.1 _).p.er.bind fun _ r2 h2=>?_;have g2:=(dM g1.1 _).ok h2;have kp:=uQ src r2;refine (aF (dV g2.1) [40] (by simp)).p.er.bind fun _ r4 h4=>?_;have g4:=(aF (dV g2.1) [40] (by simp)).ok h4;have x:rem src { r4 with op:=false }<n:=by show rem src r4<n;omega
 refine (Eb (n:=n) (w:=t.2.1) (I4 g4.1 false) x).p.er.bind fun xs r5 h5=>?_;have g5:=(Eb (n:=n) (w:=t.2.1) (I4 g4.1 false) x).ok h5;refine (aF g5.1 [41] (by simp)).p.er.bind fun _ r6 h6=>?_;refine (abL a1 xs l r6).bind fun l2 r7 _=>?_;split
 ·exact ⟨a1,by decide⟩
 ·trivial
theorem abM {src:Rl} (n N:Nat):∀(k:Nat) (l:List Ax) (r:Rd),Wr src r→rem src r<n→r.ax=axV N l→rem src r<k→ErO src (zM src n N k l r)
 | 0,l,r,_,_,_,hk=>absurd hk (by omega)
 | k+1,l,r,ha,hn,hax,hk=>by
  unfold zM;refine (fV ha [41]).p.er.bind fun b r1 h1=>?_;have k1:=(fV ha [41]).ok h1;have x:r1.ax=axV N l:=by rw [k1.2.2.2.2,hax]
  split
  ·trivial
  ·refine (ahu k1.1 (by omega)).bind fun l2 r2 h2=>?_;obtain ⟨z1,z2,z3,z4⟩:=QB k1.1 (by omega) x h2;exact abM n N k l2 r2 z1 (by omega) z3 (by omega)
theorem ajg (src:Rl) (N:Nat):ErO src (ML src (src.length+1) N r00):=by
 have w:Wr src r00:=⟨by simp [r00],by simp [r00]⟩;have hn:rem src r00<src.length+1:=by simp [rem,r00]
 unfold ML;refine (D8 _ _ w hn).er.bind fun _ r0 h0=>?_;have g0:=(D8 _ _ w hn).ok h0;refine (fV g0.1 _).p.er.bind fun b r1 h1=>?_;have g1:=(fV g0.1 _).ok h1;refine (dM g1.1 _).p.er.bind fun _ r2 h2=>?_;have g2:=(dM g1.1 _).ok h2;have kp:=uQ src r2;refine (aF (dV g2.1) [40] (by simp)).p.er.bind fun _ r3 h3=>?_;have g3:=(aF (dV g2.1) [40] (by simp)).ok h3;refine (Ec 2 r3 g3.1).er.bind fun _ r4 h4=>?_;have g4:=(Ec 2 r3 g3.1).ok h4;have x:r4.ax=axV N []:=by rw [g4.2.2,g3.2.2.2.2];show r2.ax=_;rw [g2.2.2.2.2,g1.2.2.2.2,g0.2.2];rfl
 refine (abM _ N _ [] r4 g4.1 (by omega) x (by omega)).bind fun l2 r5 h5=>?_;have g5:=QA _ N _ [] r4 g4.1 (by omega) x (by simp) h5;refine (dI (dV g5.1)).p.er.bind fun t r6 h6=>?_;have g6:=(dI (dV g5.1)).ok h6;refine (dM g6.1 _).p.er.bind fun _ r7 h7=>?_;trivial
end Go.Ai.Z
namespace Go.Ai.Z
def NxF (v:Rl):Prop:=(jG (skp v)).2=0
def tlE (E:List Tx):Prop:=E=[]∨∃w:Rl,E=[(4,w)]∧w.all zF=true
def agv (v:Rl) (L:List Tx):Prop:=∀u:Rl,u <+: v→∃L1 E,L1 <+: L∧tlE E∧Ly NxF u (L1++E)
theorem Cc {α:Type} {u w v:List α} (h:u <+: w++v):u <+: w∨∃x,u=w++x∧x <+: v:=by
 rcases List.prefix_or_prefix_of_prefix h (List.prefix_append w v) with h1|⟨x,rfl⟩
 ·exact .inl h1
 ·exact .inr ⟨x,rfl,(List.prefix_append_right_inj w).1 h⟩
theorem yc {c:UInt8} {u v:Rl} (h:u <+: c::v):u=[]∨∃x,u=c::x∧x <+: v:=by
 cases u with
 | nil=>exact .inl rfl
 | cons d x=>
  obtain ⟨rfl,h2⟩:=List.cons_prefix_cons.1 h;exact .inr ⟨x,rfl,h2⟩
theorem XD {p:UInt8→Bool} {u w:Rl} (h:u <+: w) (hw:w.all p=true):u.all p=true:=by
 obtain ⟨y,rfl⟩:=h;rw [List.all_append,Bool.and_eq_true] at hw;exact hw.1
theorem Wq {p:UInt8→Bool}:∀{x:Rl},x.all p=true→kW p x=x.length
 | [],_=>rfl
 | c::x,h=>by
  rw [List.all_cons,Bool.and_eq_true] at h
  have:=Wq h.2
  unfold kW at this ⊢;rw [List.takeWhile_cons,h.1];simp [this]
theorem abn {x:Rl} (h:x.all Dq=true):NxF (60::x):=by
 unfold NxF;rw [Bg (by decide) (by decide)];rw [show jG (60::x)=(2,G9 Dq 62 (60::x)) by simp [jG]];unfold G9;rw [List.tail_cons,Wq h,List.getElem?_eq_none (by simp;omega)];rfl
theorem abm {x:Rl} (h:x.all QY=true):NxF (34::x):=by
 unfold NxF;rw [Bg (by decide) (by decide)];rw [show jG (34::x)=(3,G9 QY 34 (34::x)) by simp [jG]];unfold G9;rw [List.tail_cons,Wq h,List.getElem?_eq_none (by simp;omega)];rfl
theorem abp:NxF []:=rfl
theorem pre_nil (L:List Tx):∃L1 E,L1 <+: L∧tlE E∧Ly NxF [] (L1++E):=⟨[],[],List.nil_prefix,.inl rfl,abp⟩
theorem Lc {u:Rl} (L:List Tx) (h:NxF u):∃L1 E,L1 <+: L∧tlE E∧Ly NxF u (L1++E):=⟨[],[],List.nil_prefix,.inl rfl,h⟩
theorem La {x u:Rl} {t:Tx} {L:List Tx} (hn:Nx u t x) (h:∃L1 E,L1 <+: L∧tlE E∧Ly NxF x (L1++E)):∃L1 E,L1 <+: t::L∧tlE E∧Ly NxF u (L1++E):=by
 obtain ⟨L1,E,h1,h2,h3⟩:=h;exact ⟨t::L1,E,List.cons_prefix_cons.2 ⟨rfl,h1⟩,h2,⟨x,hn,h3⟩⟩
theorem ai5 {x v:Rl} (h:x <+: v) (hv:NW v):NW x:=by
 cases x with
 | nil=>intro b hb;simp at hb
 | cons c x=>
  obtain ⟨y,rfl⟩:=h;intro b hb;exact hv b (by simpa using hb)
theorem agU:aaZ agv where
 blank:=by
  intro c v L hc hL h u hu;rcases yc hu with rfl|⟨x,rfl,hx⟩
  ·exact pre_nil _
  ·obtain ⟨L1,E,h1,h2,h3⟩:=h x hx;refine ⟨L1,E,h1,h2, ?_⟩;generalize L1++E=M at *
   cases M with
   | nil=>show NxF (c::x);unfold NxF;rw [Nu hc];exact h3
   | cons t M=>exact SI hc h3
 word:=by
  intro w v L hw hn hv h u hu;rcases Cc hu with h1|⟨x,rfl,hx⟩
  ·by_cases hu0:u=[]
   ·subst hu0;exact pre_nil _
   ·have A:=XD h1 hw;refine ⟨[],[(4,u)],List.nil_prefix,.inr ⟨u,rfl,A⟩,⟨[], ?_,abp⟩⟩
    have:=WU A hu0 (v:=[]) (by intro c hc;simp at hc)
    rwa [List.append_nil] at this
  ·exact La (WU hw hn (ai5 hx hv)) (h x hx)
 sign:=by
  intro c v L hc h u hu;rcases yc hu with rfl|⟨x,rfl,hx⟩
  ·exact pre_nil _
  ·exact La (abo hc x) (h x hx)
 caret:=by
  intro v L h u hu;rcases yc hu with rfl|⟨x,rfl,hx⟩
  ·exact pre_nil _
  ·rcases yc hx with rfl|⟨y,rfl,hy⟩
   ·exact Lc _ rfl
   ·exact La (Yh y) (h y hy)
 iri:=by
  intro p v L hp h u hu;rcases yc hu with rfl|⟨x,rfl,hx⟩
  ·exact pre_nil _
  ·rcases Cc hx with h1|⟨y,rfl,hy⟩
   ·exact Lc _ (abn (XD h1 hp))
   ·rcases yc hy with rfl|⟨z,rfl,hz⟩
    ·exact Lc _ (abn (by rwa [List.append_nil]))
    ·exact La (aeH hp z) (h z hz)
 str:=by
  intro p v L hp h u hu;have I:=ad3 hp;rcases yc hu with rfl|⟨x,rfl,hx⟩
  ·exact pre_nil _
  ·rcases Cc hx with h1|⟨y,rfl,hy⟩
   ·exact Lc _ (abm (XD h1 I))
   ·rcases yc hy with rfl|⟨z,rfl,hz⟩
    ·exact Lc _ (abm (by rwa [List.append_nil]))
    ·exact La (aeG I z) (h z hz)
def aaH (p:Rl) (W:List Rl) (l:List Ax):Rl:=rM ((TB p W l).map (·.1))
def ajm (p:Rl) (W:List Rl) (l:List Ax):List Tx:=(TB p W l).flatMap (·.2)
theorem Vm:∀(A:List (Rl×List Tx)),(∀p∈A,Pc agv p.1 p.2)→agv (rM (A.map (·.1))) (A.flatMap (·.2))
 | [],_=>fun u hu=>by rw [List.prefix_nil.1 hu];exact pre_nil _
 | p::A,hA=>by
  have h1:=Vm A (fun q hq=>hA q (by simp [hq]))
  have h2:agv (10::rM (A.map (·.1))) (A.flatMap (·.2)):=fun u hu=>by
   rcases yc hu with rfl|⟨x,rfl,hx⟩
   ·exact pre_nil _
   ·obtain ⟨L1,E,h1,h2,h3⟩:=h1 x hx;refine ⟨L1,E,h1,h2, ?_⟩;generalize L1++E=M at *
    cases M with
    | nil=>show NxF (10::x);unfold NxF;rw [Nu (.inr rfl)];exact h3
    | cons t M=>exact SI (.inr rfl) h3
  have h3:=(hA p (by simp)).2 _ _ (aij _) h2;have e1:rM ((p::A).map (·.1))=p.1++10::rM (A.map (·.1)):=by simp [rM]
  have e2:(p::A).flatMap (·.2)=p.2++A.flatMap (·.2):=by simp
  rw [e1,e2];exact h3
theorem agV {p:Rl} (hp:p.all Dq=true) {W:List Rl} (hW:∀w∈W,WdP w) {l:List Ax} (hl:∀x∈l,fH x=0):agv (aaH p W l) (ajm p W l):=Vm _ (abO agU hp hW hl)
end Go.Ai.Z
namespace Go.Ai.Z
def dpT (w:Rl):Int:=if w=[40] then 1 else if w=[41] then -1 else 0
def dep:List Tx→Int
 | []=>0
 | t::L=>dpT t.2+dep L
theorem CS:∀(L M:List Tx),dep (L++M)=dep L+dep M
 | [],M=>by simp [dep]
 | t::L,M=>by simp only [List.cons_append,dep];rw [CS L M];omega
def TkL (L:List Tx):Prop:=∀t∈L,t.1≠1→dpT t.2=0
def Mz (src:Rl) (r:Rd) (L:List Tx):Prop:=My NxF src r L∨L=[]∧∃a A,r.ah=(5,[],a)::A
theorem EO {src:Rl} {r q:Rd} {t:Tk} {L:List Tx} (h:Mz src r L) (e:fM src r=.ok t q):Mz src q L∧((L=[]∧t.1=5∧t.2.1=[])∨∃M,L=(t.1,t.2.1)::M∧Mz src (bQ q) M):=by
 rcases h with h|⟨rfl,a,A,ha⟩
 ·cases L with
  | cons u M=>
   obtain ⟨a,q2,h1,h2,h3,_⟩:=pO h;rw [h1] at e;cases e;exact ⟨.inl h2,.inr ⟨M,rfl,.inl h3⟩⟩
  | nil=>
   unfold My at h;unfold fM at e
   cases hh:r.ah with
   | cons u U=>rw [hh] at h;obtain ⟨M,h1,_⟩:=h;cases h1
   | nil=>
    rw [hh] at h e;have h1:(jG (skp (src.drop r.at_))).2=0:=h
    have hs:src.drop (skO src r.at_)=skp (src.drop r.at_):=by
     unfold skO;rw [←List.drop_drop,F6 src.length (src.drop r.at_).length _ (by rw [List.length_drop];omega) (Nat.le_refl _)];rfl
    rw [hs] at e;simp only [h1,if_true] at e
    split at e
    ·cases e
    ·cases e;exact ⟨.inr ⟨rfl,_,_,rfl⟩,.inl ⟨rfl,rfl,rfl⟩⟩
 ·unfold fM at e;rw [ha] at e;cases e;exact ⟨.inr ⟨rfl,a,A,ha⟩,.inl ⟨rfl,rfl,rfl⟩⟩
def vY {α:Type} (src:Rl) (r:Rd) (d:Int) (x:OR α):Prop:=
 match x with
 | .er _ _ _=>True
 | .ok _ q=>∀L,TkL L→Mz src r L→∃L1 L2,L=L1++L2∧Mz src q L2∧dep L1=d
theorem TkL.snd {L M:List Tx} (h:TkL (L++M)):TkL M:=fun t ht=>h t (by simp [ht])
theorem vY.mk {α:Type} {src:Rl} {r:Rd} {v:α}:vY src r 0 (.ok v r):=fun L _ h=>⟨[],L,rfl,h,rfl⟩
theorem vY.bind {α β:Type} {src:Rl} {r:Rd} {d e n:Int} {x:OR α} {f:α→Rd→OR β} (h:vY src r d x) (hf:∀v q,x=.ok v q→vY src q e (f v q)) (hn:n=d+e):vY src r n (x.bind f):=by
 cases x with
 | er a c q=>trivial
 | ok v q=>
  have hf:=hf v q rfl;rw [OR.bind_ok];generalize f v q=y at *
  cases y with
  | er a c q2=>trivial
  | ok w q2=>
   intro L hT hm;obtain ⟨L1,L2,rfl,h2,h3⟩:=h L hT hm;obtain ⟨M1,M2,rfl,k2,k3⟩:=hf L2 hT.snd h2;exact ⟨L1++M1,M2,by simp,k2,by rw [CS,h3,k3,hn]⟩
theorem wO {α:Type} {src:Rl} {q:Rd} {t:Tk} {c d n:Int} {x:OR α} (e:fM src q=.ok t q) (h5:t.2.1≠[]∨t.1≠5) (hc:dpT t.2.1=c∨(t.1≠1∧c=0)) (hx:vY src (bQ q) d x) (hn:n=c+d):vY src q n x:=by
 cases x with
 | er a c q=>trivial
 | ok v p=>
  intro L hT hm;obtain ⟨_,⟨rfl,k1,k2⟩|⟨M,rfl,hM⟩⟩:=EO hm e
  ·rcases h5 with h5|h5
   ·exact absurd k2 h5
   ·exact absurd k1 h5
  ·obtain ⟨L1,L2,rfl,h2,h3⟩:=hx M (fun t ht=>hT t (by simp [ht])) hM;refine ⟨_::L1,L2,rfl,h2, ?_⟩
   have:dpT t.2.1=c:=by
    rcases hc with hc|⟨hc,rfl⟩
    ·exact hc
    ·exact hT _ (List.mem_cons_self ..) hc
   show dpT t.2.1+dep L1=n;omega
section
variable {src:Rl}
theorem BG {r:Rd}:vY src r 0 (fM src r):=by
 cases e:fM src r with
 | er a c q=>trivial
 | ok t q=>exact fun L hT hm=>⟨[],L,rfl,(EO hm e).1,rfl⟩
theorem BH {r:Rd} {b:Bool}:vY src r 0 (oU src b r):=by
 cases e:oU src b r with
 | er a c q=>trivial
 | ok v q=>obtain ⟨_,rfl⟩:=lu e;exact .mk
theorem KH {r:Rd} {w:Rl}:vY src r 0 (isR src w r):=BG.bind (fun _ _ _=>.mk) rfl
theorem vG {r:Rd} (w:Rl) (hw:w≠[]):vY src r (dpT w) (jM src w r):=by
 unfold jM;refine KH.bind (e:=dpT w) (fun b q e=>?_) (by omega);refine BH.bind (e:=dpT w) (fun v q2 e2=>?_) (by omega);obtain ⟨hb,hq⟩:=lu e2;subst hb;subst hq;obtain ⟨t,e3,e4⟩:=Aw e;obtain ⟨p1,_,_,_,_⟩:=jk e3;have e5:=of_decide_eq_true e4.symm;exact wO (c:=dpT w) (d:=0) p1 (.inl (by rw [e5];exact hw)) (.inl (by rw [e5])) .mk (by omega)
theorem MX {r:Rd} (w p:Rl) (hw:w≠[]) (h0:dpT w=0):vY src r 0 (IK src w p r):=by
 unfold IK;refine KH.bind (e:=0) (fun b q e=>?_) rfl;refine BH.bind (e:=0) (fun v q2 e2=>?_) rfl;obtain ⟨hb,hq⟩:=lu e2;subst hq;rw [Bool.and_eq_true] at hb;obtain ⟨t,e3,e4⟩:=Aw e;obtain ⟨p1,_,_,_,_⟩:=jk e3;have e5:=of_decide_eq_true (e4.symm.trans hb.1);exact wO p1 (.inl (by rw [e5];exact hw)) (c:=0) (.inl (by rw [e5];exact h0)) .mk rfl
theorem nM {r:Rd}:vY src r 0 (nG src r):=by
 unfold nG;refine BG.bind (e:=0) (fun t q e=>?_) rfl;refine BH.bind (e:=0) (fun v q2 e2=>?_) rfl;obtain ⟨hb,hq⟩:=lu e2;subst hq;obtain ⟨p1,_,_,_,_⟩:=jk e;have h4:=RS hb;exact wO p1 (.inr (by omega)) (.inr ⟨by omega,rfl⟩) .mk rfl
theorem MW {α:Type} {f:Rd→OR α} {least:Nat} (hf:∀q,vY src q 0 (f q)):∀(n:Nat) (l:List α) (r:Rd),vY src r 0 (mW src f least n l r)
 | 0,l,r=>trivial
 | n+1,l,r=>by
  unfold mW;refine vY.bind (d:=0) (e:=0) ?_ (fun b q e=>?_) rfl
  ·split
   ·exact .mk
   ·exact KH
  split
  ·exact .mk
  exact (hf q).bind (fun v q2 e2=>MW hf n _ q2) rfl
theorem QJ {α β:Type} {r:Rd} {g:Rd→OR α} {f:α→Rd→OR β} (hg:∀q,vY src q 0 (g q)) (hf:∀v q,vY src q 0 (f v q)):vY src r 0 ((jM src [40] r).bind fun _ r=>(g r).bind fun v r=>(jM src [41] r).bind fun _ r=>f v r):=by
 refine (vG [40] (by simp)).bind (e:=-1) (fun _ q _=>?_) (by decide);refine (hg q).bind (e:=-1) (fun v q _=>?_) rfl;exact (vG [41] (by simp)).bind (e:=0) (fun _ q _=>hf v q) (by decide)
theorem abW {r:Rd} (w:Rl) (hw:w≠[]) (h0:dpT w=0) (k:Int):vY src r 0 (Us src w k r):=(MX w _ hw h0).bind (fun _ _ _=>.mk) rfl
theorem abX {r:Rd} (o:Rl) (lo hi:Int):vY src r 0 (Qm src o lo hi r):=by
 unfold Qm;refine BG.bind (e:=0) (fun t q e=>?_) rfl;refine BH.bind (e:=0) (fun _ q2 e2=>?_) rfl;obtain ⟨hb,hq⟩:=lu e2;subst hq
 have h0:dpT t.2.1=0:=by
  unfold YV at hb;rw [Bool.and_eq_true,Bool.or_eq_true,decide_eq_true_eq,decide_eq_true_eq] at hb
  rcases hb.1 with h|h<;>rw [h]<;>decide
 refine (MX _ _ (by intro hc;have:=YU hb;rw [hc] at this;simp at this) h0).bind (e:=0) (fun _ q3 e3=>?_) rfl;refine BG.bind (e:=0) (fun u q4 e4=>?_) rfl;refine BH.bind (e:=0) (fun _ q5 e5=>?_) rfl;obtain ⟨p,x⟩:=lu e5;subst x
 have h3:u.1=3:=by
  unfold ES at p
  split at p
  ·assumption
  ·cases p
 obtain ⟨p1,_,_,_,_⟩:=jk e4;refine wO p1 (.inr (by omega)) (.inr ⟨by omega,rfl⟩) (d:=0) ?_ rfl;refine (vG [94,94] (by simp)).bind (e:=0) (fun _ q _=>?_) (by decide);exact (MX _ _ (by simp) (by decide)).bind (fun _ _ _=>.mk) rfl
theorem ahN {r:Rd} (h:∃t,fM src r=.ok t r∧t.2.1≠[]∧dpT t.2.1=0):vY src r 0 (ZR src r):=by
 obtain ⟨t,p1,p2,p3⟩:=h;refine wO p1 (.inl p2) (.inl p3) (d:=0) ?_ rfl;unfold ZR;refine (vG [40] (by simp)).bind (e:=-1) (fun _ q _=>?_) (by decide);refine (MX _ _ (by simp) (by decide)).bind (e:=-1) (fun _ q _=>?_) rfl;refine (abX _ _ _).bind (e:=-1) (fun x q _=>?_) rfl;refine KH.bind (e:=-1) (fun b q _=>?_) rfl;refine vY.bind (d:=0) (e:=-1) ?_ (fun y q _=>?_) rfl
 ·split
  ·exact .mk
  ·exact abX _ _ _
 exact (vG [41] (by simp)).bind (e:=0) (fun _ q _=>.mk) (by decide)
theorem QK:∀(n:Nat) (r:Rd),vY src r 0 (xC src n r)
 | 0,r=>trivial
 | n+1,r=>by
  unfold xC;refine BG.bind (e:=0) (fun t q e=>?_) rfl;obtain ⟨p1,_,_,_,_⟩:=jk e;have p:∀{α:Type} {x:OR α} (w:Rl),w≠[]→dpT w=0→t.2.1=w→vY src (bQ q) 0 x→vY src q 0 x:=fun w h1 h2 h3 hx=>wO p1 (.inl (by rw [h3];exact h1)) (c:=0) (.inl (by rw [h3];exact h2)) hx rfl;split
  ·exact abW _ (by simp) (by decide) _
  split
  ·exact abW _ (by simp) (by decide) _
  split
  ·rename_i ht;refine p _ (by simp) (by decide) ht ?_;unfold Zu;exact QJ (fun q=>MW (QK n) n [] q) (fun _ _=>.mk)
  split
  ·rename_i ht;refine p _ (by simp) (by decide) ht ?_;unfold OJ;refine (vG [40] (by simp)).bind (e:=-1) (fun _ q _=>?_) (by decide);refine nM.bind (e:=-1) (fun s q _=>?_) rfl;refine (QK n q).bind (e:=-1) (fun c q _=>?_) rfl;exact (vG [41] (by simp)).bind (e:=0) (fun _ q _=>.mk) (by decide)
  split
  ·rename_i ht;refine p _ (by simp) (by decide) ht ?_;unfold Yi;exact QJ (fun q=>nM) (fun _ _=>.mk)
  split
  ·rename_i ht;refine p _ (by simp) (by decide) ht ?_;unfold Px;refine (vG [40] (by simp)).bind (e:=-1) (fun _ q _=>?_) (by decide);refine nM.bind (e:=-1) (fun s q _=>?_) rfl;refine KH.bind (e:=-1) (fun b q e=>?_) rfl;refine vY.bind (d:=0) (e:=-1) ?_ (fun y q _=>?_) rfl
   ·split
    ·rename_i hb;subst hb;obtain ⟨t,e3,e4⟩:=Aw e;obtain ⟨p1,_,_,_,_⟩:=jk e3;have e5:=of_decide_eq_true e4.symm;exact ahN ⟨t,p1,by rw [e5];simp,by rw [e5];decide⟩
    ·exact (MX _ _ (by simp) (by decide)).bind (fun _ _ _=>.mk) rfl
   exact (vG [41] (by simp)).bind (e:=0) (fun _ q _=>.mk) (by decide)
  ·exact nM.bind (fun _ _ _=>.mk) rfl
theorem ajD {α:Type} {r:Rd} {d:Int} {b:Bool} {x:OR α} (h:vY src { r with op:=b } d x):vY src r d x:=h
theorem V3:∀(n:Nat) (r:Rd),vY src r 0 (oH src n r)
 | 0,r=>trivial
 | n+1,r=>by
  unfold oH;refine KH.bind (e:=0) (fun b q e=>?_) rfl;split
  ·rename_i hb;subst hb;obtain ⟨t,e3,e4⟩:=Aw e;obtain ⟨p1,_,_,_,_⟩:=jk e3;have e5:=of_decide_eq_true e4.symm;refine wO p1 (.inl (by rw [e5];simp)) (.inl (by rw [e5];decide)) (c:=0) (d:=0) ?_ rfl;refine (vG [40] (by simp)).bind (e:=-1) (fun _ q _=>?_) (by decide);refine nM.bind (e:=-1) (fun s q _=>?_) rfl;refine BG.bind (e:=-1) (fun t q e3=>?_) rfl;refine BH.bind (e:=-1) (fun _ q4 e4=>?_) rfl;obtain ⟨hb,hq⟩:=lu e4;subst hq;have hk:t.1=3:=of_decide_eq_true hb;obtain ⟨p1,_,_,_,_⟩:=jk e3;refine wO p1 (.inr (by omega)) (.inr ⟨by omega,rfl⟩) (d:=-1) ?_ rfl;refine (vG [41] (by simp)).bind (e:=0) (fun _ q _=>?_) (by decide);exact ajD (V3 n _)
  ·exact .mk
theorem ahO {n:Nat} {w:Rl} {r:Rd}:vY src r 0 (D6 src n w r):=by
 have p:∀r,vY src r 0 (oH src n r):=V3 n;have A:∀r,vY src r 0 (mW src (xC src n) 2 n [] r):=MW (QK n) n [];have x:=QK (src:=src) n;unfold D6;split
 ·unfold TI;refine BG.bind (e:=0) (fun t q e=>?_) rfl;refine BH.bind (e:=0) (fun _ q2 e2=>?_) rfl;obtain ⟨hb,hq⟩:=lu e2;subst hq;obtain ⟨p1,_,_,_,_⟩:=jk e
  have h0:t.2.1≠[]∧dpT t.2.1=0:=by
   unfold Ei at hb;rw [Bool.or_eq_true,Bool.or_eq_true,Bool.or_eq_true,decide_eq_true_eq,decide_eq_true_eq,decide_eq_true_eq,decide_eq_true_eq] at hb
   rcases hb with ((hb|hb)|hb)|hb<;>rw [hb]<;>exact ⟨by simp,by decide⟩
  exact wO p1 (.inl h0.1) (.inl h0.2) (QJ (fun q=>nM) (fun _ _=>.mk)) rfl
 split
 ·unfold ZJ;exact (p r).bind (e:=0) (fun _ q _=>(x q).bind (e:=0) (fun _ q _=>(x q).bind (e:=0) (fun _ q _=>.mk) rfl) rfl) rfl
 split
 ·unfold aaB;exact (p r).bind (e:=0) (fun _ q _=>(A q).bind (e:=0) (fun _ q _=>.mk) rfl) rfl
 split
 ·unfold aaI;exact (p r).bind (e:=0) (fun _ q _=>(A q).bind (e:=0) (fun _ q _=>.mk) rfl) rfl
 split
 ·unfold aaE;exact (p r).bind (e:=0) (fun _ q _=>nM.bind (e:=0) (fun _ q _=>(x q).bind (e:=0) (fun _ q _=>.mk) rfl) rfl) rfl
 split
 ·unfold X7;refine (p r).bind (e:=0) (fun _ q _=>?_) rfl;refine KH.bind (e:=0) (fun b q e=>?_) rfl;split
  ·rename_i hb;subst hb;obtain ⟨t,e3,e4⟩:=Aw e;obtain ⟨p1,_,_,_,_⟩:=jk e3;have e5:=of_decide_eq_true e4.symm;refine wO p1 (.inl (by rw [e5];simp)) (.inl (by rw [e5];decide)) (c:=0) (d:=0) ?_ rfl;exact QJ (fun q=>MW (fun q=>nM) n [] q) (fun _ q=>nM.bind (e:=0) (fun _ q _=>.mk) rfl)
  ·exact nM.bind (e:=0) (fun _ q _=>nM.bind (e:=0) (fun _ q _=>.mk) rfl) rfl
 split
 ·unfold ZW;exact (p r).bind (e:=0) (fun _ q _=>nM.bind (e:=0) (fun _ q _=>.mk) rfl) rfl
 split
 ·unfold ZH;exact (p r).bind (e:=0) (fun _ q _=>(x q).bind (e:=0) (fun _ q _=>nM.bind (e:=0) (fun _ q _=>.mk) rfl) rfl) rfl
 ·unfold aaj;exact (p r).bind (e:=0) (fun _ q _=>nM.bind (e:=0) (fun _ q _=>nM.bind (e:=0) (fun _ q _=>nM.bind (e:=0) (fun _ q _=>.mk) rfl) rfl) rfl) rfl
end
end Go.Ai.Z
namespace Go.Ai.Z
structure Dk (A:List Tx):Prop where
 pos:∀Z,Z <+: A→0≤dep Z
 zero:dep A=0
theorem WM {α:Type} {Z:List α} (h:Z <+: []):Z=[]:=List.prefix_nil.1 h
theorem Dk.nil:Dk []:=⟨fun Z h=>by rw [WM h];exact Int.le_refl 0,rfl⟩
theorem Dk.app {A B:List Tx} (hA:Dk A) (hB:Dk B):Dk (A++B):=by
 refine ⟨fun Z h=>?_,by rw [CS,hA.zero,hB.zero];rfl⟩;rcases Cc h with h|⟨X,rfl,h'⟩
 ·exact hA.pos Z h
 ·rw [CS,hA.zero];have:=hB.pos X h';omega
theorem Ld {α:Type} {Z:List α} {t:α} (h:Z <+: [t]):Z=[]∨Z=[t]:=by
 cases Z with
 | nil=>exact .inl rfl
 | cons u Z=>
  obtain ⟨rfl,h2⟩:=List.cons_prefix_cons.1 h;rw [WM h2];exact .inr rfl
theorem Dk.tok {t:Tx} (h:dpT t.2=0):Dk [t]:=by
 refine ⟨fun Z hZ=>?_,by show dpT t.2+0=0;omega⟩;rcases Ld hZ with rfl|rfl
 ·exact Int.le_refl 0
 ·show 0≤dpT t.2+0;omega
theorem Dk.cons {t:Tx} {A:List Tx} (h:dpT t.2=0) (hA:Dk A):Dk (t::A):=(Dk.tok h).app hA
theorem Dk.par {A:List Tx} {j k:Int} (hA:Dk A):Dk ((j,[40])::(A++[(k,[41])])):=by
 have h1:dpT [40]=1:=by decide
 have h2:dpT [41]=-1:=by decide
 refine ⟨fun Z hZ=>?_,by show dpT _+dep (A++[_])=0;rw [CS,hA.zero];show dpT [40]+(0+(dpT [41]+0))=0;omega⟩
 cases Z with
 | nil=>exact Int.le_refl 0
 | cons u Z=>
  obtain ⟨rfl,h3⟩:=List.cons_prefix_cons.1 hZ;show 0≤dpT [40]+dep Z;rcases Cc h3 with h|⟨X,rfl,h'⟩
  ·have:=hA.pos Z h;omega
  ·rw [CS,hA.zero];rcases Ld h' with rfl|rfl
   ·show 0≤dpT [40]+(0+0);omega
   ·show 0≤dpT [40]+(0+(dpT [41]+0));omega
theorem Dk.map {α:Type} {f:α→List Tx}:∀(l:List α),(∀a∈l,Dk (f a))→Dk (l.flatMap f)
 | [],_=>.nil
 | a::l,h=>by rw [List.flatMap_cons];exact (h a (by simp)).app (Dk.map l fun b hb=>h b (by simp [hb]))
theorem Ky (n:Rl):dpT (owN n)=0:=by
 unfold dpT owN;split
 ·rename_i h;rw [if_neg,if_neg]<;>rintro rfl<;>simp at h
 ·rw [if_neg,if_neg]<;>simp
theorem afN {w:Rl} (h:2≤w.length):dpT w=0:=by
 unfold dpT
 rw [if_neg,if_neg]<;>rintro rfl<;>simp at h
theorem afQ:∀c:C,Dk (jA c):=by
 refine C.ind' fun c ih=>?_;rw [BR];have hp:=Dk.map c.parts ih;have hq:∀w:Rl,dpT (34::(w++[34]))=0:=fun w=>afN (by simp);split
 ·exact .tok (by decide)
 split
 ·exact .tok (by decide)
 split
 ·exact .cons (by decide) ((Dk.tok (Ky _)).par)
 split
 ·exact .cons (by decide) hp.par
 split
 ·exact .cons (by decide) (Dk.par (A:=(4,owN c.name)::c.parts.flatMap jA) (.cons (Ky _) hp))
 split
 ·have hf:∀(w:Rl) (n:Int),dpT w=0→Dk (Oh w n):=fun w n h=>.cons h (.cons (hq _) (.cons (by decide) (.tok (by decide))));have h1:=Dk.par (j:=1) (k:=1) (Dk.cons (t:=(4,wA1)) (by decide) ((hf wA0 c.lo (by decide)).app (hf wA3 c.hi (by decide))));have h2:=Dk.par (j:=1) (k:=1) (Dk.cons (t:=(4,owN c.name)) (Ky _) (Dk.cons (t:=(4,wA5)) (by decide) h1));have h3:=Dk.cons (t:=(4,wA8)) (by decide) h2
  simpa using h3
 ·exact .tok (Ky _)
theorem afR (x:Ax):Dk (Gv x.op++argX x):=by
 have hl:=afQ x.left;have hr:=afQ x.right;have ho:∀n,dpT (owN n)=0:=Ky;refine Dk.app ?_ ?_
 ·unfold Gv;split
  ·exact .cons (by decide) (Dk.par (j:=1) (k:=1) (A:=[(4,[58,111,112,101,110]),(3,wD0)]) (.cons (by decide) (.tok (by decide))))
  ·exact .nil
 ·unfold argX;split
  ·exact hl.app hr
  split
  ·exact hl.app hr
  split
  ·exact hl.app hr
  split
  ·exact .cons (ho _) hr
  split
  ·exact .cons (ho _) (.tok (ho _))
  split
  ·have hm:Dk (x.roles.map fun r=>((4,owN r):Tx)):=by
    have h:=Dk.map (f:=fun r=>[((4,owN r):Tx)]) x.roles (fun r _=>.tok (ho r));rw [List.map_eq_flatMap];exact h
   have h1:=(hm.par (j:=1) (k:=1)).app (Dk.tok (t:=(4,owN x.role)) (ho _));have h2:=Dk.cons (t:=(4,wA2)) (by decide) h1
   simpa using h2
  split
  ·exact .tok (ho _)
  split
  ·exact hr.app (.tok (ho _))
  ·exact .cons (ho _) (.cons (ho _) (.tok (ho _)))
theorem afM (k:Int):dpT (vM k)=0:=by
 unfold vM
 repeat' split
 all_goals decide
theorem ad1 {x:Ax} {Z:List Tx} (h:Z <+: qH x) (h2:2≤Z.length) (p:Z≠qH x):1≤dep Z:=by
 unfold qH at h p
 cases Z with
 | nil=>simp at h2
 | cons a Z=>
  obtain ⟨rfl,h3⟩:=List.cons_prefix_cons.1 h
  cases Z with
  | nil=>simp at h2
  | cons b Z=>
   obtain ⟨rfl,h4⟩:=List.cons_prefix_cons.1 h3;have h1:dpT [40]=1:=by decide
   have k1:dpT (vM x.kind)=0:=afM _;show 1≤dpT (vM x.kind)+(dpT [40]+dep Z);rcases Cc h4 with h|⟨X,rfl,h'⟩
   ·have:=(afR x).pos Z h;omega
   ·rw [CS,(afR x).zero];rcases Ld h' with rfl|rfl
    ·show 1≤_+(_+(0+0));omega
    ·exact absurd rfl p
def FY {α:Type} (x:OR α):Prop:=∃a q,x=.er a 50 q
theorem FY.bind {α β:Type} {x:OR α} {f:α→Rd→OR β} (h:FY x):FY (x.bind f):=by obtain ⟨a,q,rfl⟩:=h;exact ⟨a,q,rfl⟩
theorem qG.step {α β:Type} {src:Rl} {r:Rd} {k:Nat} {x:OR α} {f:α→Rd→OR β} (h:qG src r k x) (hf:∀v q,x=.ok v q→FY (f v q)):FY (x.bind f):=by
 cases x with
 | er a c q=>obtain ⟨_,rfl⟩:=h;exact ⟨a,q,rfl⟩
 | ok v q=>exact hf v q rfl
section
variable {src:Rl}
theorem Vt {r q:Rd} {w:Rl} {b:Bool} {L:List Tx} (h:Mz src r L) (e:isR src w r=.ok b q) (hw:w≠[]):Mz src q L∧(b=true→∃k M,L=(k,w)::M∧Mz src (bQ q) M)∧(b=false→∀k M,L≠(k,w)::M):=by
 obtain ⟨t,e1,e2⟩:=Aw e;obtain ⟨h1,h2⟩:=EO h e1;refine ⟨h1,fun hb=>?_,fun hb k M hL=>?_⟩
 ·have e5:=of_decide_eq_true (e2.symm.trans hb);rcases h2 with ⟨_,_,h3⟩|⟨M,h3,h4⟩
  ·exact absurd (e5.symm.trans h3) hw
  ·exact ⟨t.1,M,by rw [h3,e5],h4⟩
 ·have e5:=of_decide_eq_false (e2.symm.trans hb);rcases h2 with ⟨h3,_,_⟩|⟨M2,h3,_⟩
  ·rw [h3] at hL;cases hL
  ·rw [h3] at hL;cases hL;exact e5 rfl
theorem EN {r q:Rd} {w:Rl} {u:Unit} {L:List Tx} (h:Mz src r L) (e:jM src w r=.ok u q) (hw:w≠[]):∃k M,L=(k,w)::M∧Mz src q M:=by
 unfold jM at e;obtain ⟨b,r1,e1,e⟩:=OR.bind_eq e;obtain ⟨u,r2,e2,e⟩:=OR.bind_eq e;obtain ⟨rfl,rfl⟩:=lu e2;cases e;exact (Vt h e1 hw).2.1 rfl
theorem aeN {r:Rd} {t:Tx} {M:List Tx} (h:Mz src r (t::M)):My NxF src r (t::M):=by
 rcases h with h|⟨h,_⟩
 ·exact h
 ·cases h
theorem afa {n N:Nat} {l:List Ax} {r:Rd} {M:List Tx} (hr:Wr src r) (hn:rem src r<n) (hT:TkL M) (hm:Mz src r M)
  (A:∀t k B k' B',M=t::(k,[40])::(B++(k',[41])::B')→dpT t.2=0→dep B=0→False):FY (Bo src n N l r):=by
 unfold Bo;refine (dI hr).p.step fun t r1 h1=>?_;have g1:=(dI hr).ok h1;refine (dM g1.1 _).p.step fun _ r2 h2=>?_;have g2:=(dM g1.1 _).ok h2;obtain ⟨hw,rfl⟩:=lu h2;have kp:=uQ src r2;refine (aF (dV g2.1) [40] (by simp)).p.step fun _ r4 h4=>?_;have g4:=(aF (dV g2.1) [40] (by simp)).ok h4;have x:rem src { r4 with op:=false }<n:=by show rem src r4<n;omega
 refine (Eb (n:=n) (w:=t.2.1) (I4 g4.1 false) x).p.step fun xs r5 h5=>?_;have g5:=(Eb (n:=n) (w:=t.2.1) (I4 g4.1 false) x).ok h5;refine (aF g5.1 [41] (by simp)).p.step fun _ r6 h6=>?_
 have hd:t.2.1≠[]∧dpT t.2.1=0:=by
  unfold acQ at hw;simp only [Bool.or_eq_true,decide_eq_true_eq] at hw
  rcases hw with (((((((hw|hw)|hw)|hw)|hw)|hw)|hw)|hw)|hw<;>rw [hw]<;>exact ⟨by simp,by decide⟩
 obtain ⟨_,⟨_,_,h7⟩|⟨M1,rfl,m1⟩⟩:=EO hm h1
 ·exact absurd h7 hd.1
 obtain ⟨k,M2,rfl,m2⟩:=EN m1 h4 (by simp);have hb:=ahO (src:=src) (n:=n) (w:=t.2.1) (r:={ r4 with op:=false });rw [h5] at hb;obtain ⟨B,M3,rfl,m3,hB⟩:=hb M2 (fun u hu=>hT u (by simp [hu])) m2;obtain ⟨k',B',rfl,_⟩:=EN m3 h6 (by simp);exact (A (t.1,t.2.1) k B k' B' rfl hd.2 hB).elim
theorem Nq {E:List Tx} (h:tlE E) {k:Int} {w:Rl} {M:List Tx} (e:E=(k,w)::M):M=[]∧w.all zF=true:=by
 rcases h with rfl|⟨v,rfl,hv⟩
 ·cases e
 ·cases e;exact ⟨rfl,hv⟩
theorem Wi {E M:List Tx} {k:Int} (h:tlE E):E≠(k,[40])::M∧E≠(k,[41])::M:=by
 refine ⟨fun e=>?_,fun e=>?_⟩
 ·have:=(Nq h e).2;revert this;decide
 ·have:=(Nq h e).2;revert this;decide
theorem aky {E:List Tx} (h:tlE E):TkL E:=by
 rcases h with rfl|⟨v,rfl,hv⟩
 ·intro t ht;cases ht
 ·intro t ht _;rw [List.mem_singleton.1 ht];show dpT v=0;unfold dpT;rw [if_neg,if_neg]
  ·rintro rfl;revert hv;decide
  ·rintro rfl;revert hv;decide
theorem afi {x:Ax} {L E:List Tx} (hL:L <+: qH x) (A:L≠qH x) (hE:tlE E):∀t k B k' B',L++E=t::(k,[40])::(B++(k',[41])::B')→dpT t.2=0→dep B=0→False:=by
 intro t k B k' B' e ht hB;have h1:dpT [40]=1:=by decide
 have h2:dpT [41]=-1:=by decide
 have hZ:(t::(k,[40])::(B++[(k',[41])])) <+: L++E:=⟨B',by rw [e];simp⟩
 have I:dep (t::(k,[40])::(B++[(k',[41])]))=0:=by
  show dpT t.2+(dpT [40]+dep (B++[_]))=0;rw [CS,hB,ht];show 0+(dpT [40]+(0+(dpT [41]+0)))=0;omega
 have key:(t::(k,[40])::(B++[(k',[41])])) <+: L:=by
  rcases Cc hZ with h|⟨X,hX,p⟩
  ·exact h
  ·rcases hE with rfl|⟨w,rfl,hw⟩
   ·rw [WM p,List.append_nil] at hX;rw [hX];exact List.prefix_rfl
   ·rcases Ld p with rfl|rfl
    ·rw [List.append_nil] at hX;rw [hX];exact List.prefix_rfl
    ·have h3:((t::(k,[40])::(B++[(k',[41])])).getLast?)=some ((4,w):Tx):=by rw [hX];simp
     have h4:((t::(k,[40])::(B++[(k',[41])])).getLast?)=some ((k',[41]):Tx):=by
      exact List.getLast?_concat (l:=t::(k,[40])::B)
     rw [h3] at h4;cases h4;exact absurd hw (by decide)
 have h3:=ad1 (key.trans hL) (by simp) (fun h=>A (List.IsPrefix.eq_of_length hL (by
  have a1:=key.length_le;have a2:=hL.length_le;rw [h] at a1
  omega)))
 omega
end
end Go.Ai.Z
namespace Go.Ai.Z
section
variable {src:Rl}
def FK (src:Rl) (n N:Nat):Unit→Rd→OR (List Ax):=fun _ r=>(isR src wB5 r).bind fun b r=>(oU src (b && decide ([58]∈r.pre)) r).bind fun _ r=>(jM src [40] (bQ r)).bind fun _ r=>
  (Ae src 2 r).bind fun _ r=>(zM src n N n [] r).bind fun l r=>(fM src (bQ r)).bind fun t r=>(oU src (decide (t.1=5)) r).bind fun _ r=>.ok l r
theorem afU {n N:Nat} {r:Rd} {M:List Tx} (hr:Wr src r) (hm:Mz src r M) (x:∀k k' M',M≠(k,wB5)::(k',[40])::M'):FY (FK src n N () r):=by
 unfold FK;refine (fV hr _).p.step fun b r1 h1=>?_;have g1:=(fV hr _).ok h1;refine (dM g1.1 _).p.step fun _ r2 h2=>?_;have g2:=(dM g1.1 _).ok h2;obtain ⟨hb,rfl⟩:=lu h2;rw [Bool.and_eq_true] at hb;obtain ⟨k,M1,rfl,m1⟩:=(Vt hm h1 (by simp)).2.1 hb.1;refine (aF (dV g2.1) [40] (by simp)).p.step fun _ r4 h4=>?_;obtain ⟨k',M2,rfl,m2⟩:=EN m1 h4 (by simp);exact (x k k' M2 rfl).elim
theorem Ns {α:Type} {L A B:List α} (h:L <+: A++B):(L <+: A∧L≠A)∨∃L',L=A++L'∧L' <+: B:=by
 rcases Cc h with h|h
 ·by_cases e:L=A
  ·exact .inr ⟨[],by rw [e,List.append_nil],List.nil_prefix⟩
  ·exact .inl ⟨h,e⟩
 ·exact .inr h
theorem VS {n N:Nat} {pre:List Rl} (Q:([58]:Rl)∈pre) (ho:[111,119,108,58]∈pre) (hx:[120,115,100,58]∈pre):∀(xs:List Ax) (k:Nat) (l:List Ax) (r:Rd) (L E:List Tx),
  (∀x∈xs,fH x=0∧∀m∈nmX x,ZA pre m)→L.length≤n→l.length+xs.length≤1024→r.pre=pre→L <+: xs.flatMap qH→tlE E→TkL (L++E)→Mz src r (L++E)→Wr src r→rem src r<n→rem src r<k→r.ax=axV N l→FY (zM src n N k l r)
 | [],k,l,r,L,E,hv,hLn,hll,hpre,hL,hE,hT,hm,hr,hn,hk,hax=>by
  obtain ⟨k,rfl⟩:∃j,k=j+1:=⟨k - 1,by omega⟩;have O:L=[]:=List.prefix_nil.1 hL;subst O;unfold zM;refine (fV hr _).p.step fun b r1 h1=>?_;have g1:=(fV hr _).ok h1;obtain ⟨m1,m2,m3⟩:=Vt hm h1 (by simp)
  cases b with
  | true=>obtain ⟨k,M,e,_⟩:=m2 rfl;exact ((Wi hE).2 e).elim
  | false=>
   refine FY.bind (afa g1.1 (by omega) hT m1 fun t k B k' B' e _ _=>?_)
   have:=(Nq hE (k:=t.1) (w:=t.2) e).1
   cases this
 | x::xs,k,l,r,L,E,hv,hLn,hll,hpre,hL,hE,hT,hm,hr,hn,hk,hax=>by
  obtain ⟨k,rfl⟩:∃j,k=j+1:=⟨k - 1,by omega⟩;obtain ⟨v1,v2⟩:=hv x (by simp);have I:vM x.kind≠[41]:=fun h=>by have:=afM x.kind;rw [h] at this;revert this;decide
  rw [List.flatMap_cons] at hL;simp only [List.length_cons] at hll;rcases Ns hL with ⟨h1,h2⟩|⟨L',rfl,R⟩
  ·unfold zM;refine (fV hr _).p.step fun b r1 e1=>?_;have g1:=(fV hr _).ok e1;obtain ⟨m1,m2,m3⟩:=Vt hm e1 (by simp)
   cases b with
   | true=>
    obtain ⟨k,M,e,_⟩:=m2 rfl
    cases L with
    | nil=>exact ((Wi hE).2 e).elim
    | cons a L=>
     unfold qH at h1;obtain ⟨rfl,_⟩:=List.cons_prefix_cons.1 h1;rw [List.cons_append,List.cons.injEq,Prod.mk.injEq] at e;exact (I e.1.2).elim
   | false=>exact FY.bind (afa g1.1 (by omega) hT m1 (afi h1 h2 hE))
  ·rw [List.length_append] at hLn;have v3:(qH x).length≤n:=by omega
   have A:=hm;rw [show qH x=(4,vM x.kind)::(1,[40])::(Gv x.op++argX x++[(1,[41])]) from rfl] at A;have K:=aeN A;obtain ⟨q,h1,h2,h3,h4⟩:=yh K [41];rw [decide_eq_false I] at h1;have g1:=(fV hr _).ok h1;have J:q.pre=pre:=by rw [h4.pre,hpre]
   have P:My NxF src q (qH x++(L'++E)):=by rw [←List.append_assoc];exact h2
   obtain ⟨q2,a1,a2,a3,a4⟩:=YC (N:=N) Q ho hx v1 v2 v3 l (by omega) q (L'++E) J P;obtain ⟨z1,z2,z3,z4⟩:=QB g1.1 (by omega) (by rw [h4.ax,hax]) a1;have ih:=VS (n:=n) (N:=N) Q ho hx xs k (l++[zA x]) q2 L' E (fun y hy=>hv y (by simp [hy])) (by omega) (by simp;omega) (by rw [a3,J]) R hE (by rw [List.append_assoc] at hT;exact hT.snd) (.inl a2) z1 (by omega) (by omega) z3;unfold zM;rw [h1];simp only [OR.bind_ok,Bool.false_eq_true,if_false,a1];exact ih
theorem Vl {r q:Rd} {u:Unit} {M:List Tx} (hr:Wr src r) (h:Cb src r=.ok u q) (hm:Mz src r M):∃a1 a2 a3 a4 a5 k M',M=a1::a2::a3::a4::a5::(k,[41])::M':=by
 unfold Cb at h;obtain ⟨u1,r1,h1,h⟩:=OR.bind_eq h;obtain ⟨u2,r2,h2,h⟩:=OR.bind_eq h;obtain ⟨t,r3,h3,h⟩:=OR.bind_eq h;obtain ⟨u4,r4,h4,h⟩:=OR.bind_eq h;obtain ⟨u5,r5,h5,h⟩:=OR.bind_eq h;obtain ⟨v,r6,h6,h⟩:=OR.bind_eq h;obtain ⟨u7,r7,h7,h⟩:=OR.bind_eq h;obtain ⟨u8,r8,h8,h⟩:=OR.bind_eq h;obtain ⟨c4,rfl⟩:=lu h4;obtain ⟨c7,rfl⟩:=lu h7;obtain ⟨k1,M1,rfl,m1⟩:=EN hm h1 (by simp);obtain ⟨k2,M2,rfl,m2⟩:=EN m1 h2 (by simp);obtain ⟨_,⟨_,e3,_⟩|⟨M3,rfl,m3⟩⟩:=EO m2 h3
 ·have:=ND c4;omega
 obtain ⟨k5,M5,rfl,m5⟩:=EN m3 h5 (by simp);obtain ⟨_,⟨_,e6,_⟩|⟨M6,rfl,m6⟩⟩:=EO m5 h6
 ·have:=D7 c7;omega
 obtain ⟨k8,M8,rfl,m8⟩:=EN m6 h8 (by simp);exact ⟨_,_,_,_,_,k8,M8,rfl⟩
theorem Y5 {n N:Nat} {T:List Tx}:∀(I:List (Rl×Rl)) (k:Nat) (r:Rd) (L E:List Tx),L <+: I.flatMap (fun p=>uU p.1 p.2)++(4,wB5)::T→tlE E→Mz src r (L++E)→Wr src r→rem src r<k→(∀p∈I,agu p.1∧∀a,xY p.1 (2,p.2,a)=true)→(I.map (·.1)).Nodup→(∀p∈I,p.1 ∉ r.pre)→
  FY ((pK src k r).bind (FK src n N))∨∃q L',pK src k r=.ok () q∧L' <+: (4,wB5)::T∧L=I.flatMap (fun p=>uU p.1 p.2)++L'∧Mz src q (L'++E)∧Wr src q∧rem src q≤rem src r∧q.pre=r.pre++I.map (·.1)∧q.ax=r.ax
 | [],k,r,L,E,hL,hE,hm,hr,hk,hI,hnd,hnm=>by
  obtain ⟨k,rfl⟩:∃j,k=j+1:=⟨k - 1,by omega⟩;have gi:=fV hr wB7
  cases h1:isR src wB7 r with
  | er a c q=>rw [h1] at gi;obtain ⟨_,rfl⟩:=gi;exact .inl ⟨a,q,by unfold pK;rw [h1];rfl⟩
  | ok b q=>
   have g1:=gi.ok h1;obtain ⟨m1,m2,m3⟩:=Vt hm h1 (by simp)
   cases b with
   | false=>exact .inr ⟨q,L,by unfold pK;rw [h1];rfl,hL,rfl,m1,g1.1,by omega,by simp [g1.2.2.1],g1.2.2.2.2⟩
   | true=>
    left
    have e:(pK src (k+1) r).bind (FK src n N)=((Cb src q).bind fun _ r=>pK src k r).bind (FK src n N):=by
     conv=>lhs;unfold pK
     rw [h1];rfl
    rw [e];refine FY.bind (FY.bind ?_);obtain ⟨k1,M,hM,m4⟩:=m2 rfl
    have K:L=[]:=by
     cases L with
     | nil=>rfl
     | cons a L=>
      obtain ⟨rfl,_⟩:=List.cons_prefix_cons.1 hL;cases hM
    subst K;obtain ⟨rfl,_⟩:=Nq hE hM
    cases h2:Cb src q with
    | er a c p=>have:=D9 g1.1;rw [h2] at this;obtain ⟨_,rfl⟩:=this;exact ⟨a,p,rfl⟩
    | ok u p=>
     obtain ⟨a1,a2,a3,a4,a5,k,M',hh⟩:=Vl g1.1 h2 m1;rw [hM] at hh;cases hh
 | p::I,k,r,L,E,hL,hE,hm,hr,hk,hI,hnd,hnm=>by
  obtain ⟨k,rfl⟩:∃j,k=j+1:=⟨k - 1,by omega⟩;obtain ⟨g1,g3⟩:=hI p (by simp);rw [List.flatMap_cons,List.append_assoc] at hL;rcases Ns hL with ⟨h1,h2⟩|⟨L',rfl,O⟩
  ·left;have gi:=fV hr wB7
   cases e1:isR src wB7 r with
   | er a c q=>rw [e1] at gi;obtain ⟨_,rfl⟩:=gi;exact ⟨a,q,by unfold pK;rw [e1];rfl⟩
   | ok b q=>
    have k1:=gi.ok e1;obtain ⟨m1,m2,m3⟩:=Vt hm e1 (by simp)
    cases b with
    | false=>
     have e:(pK src (k+1) r).bind (FK src n N)=FK src n N () q:=by
      conv=>lhs;unfold pK
      rw [e1];rfl
     rw [e];refine afU k1.1 m1 fun k k' M' hM=>?_
     cases L with
     | nil=>have:=(Nq hE hM).1;cases this
     | cons a L=>
      unfold uU at h1;obtain ⟨rfl,_⟩:=List.cons_prefix_cons.1 h1;cases hM
    | true=>
     have e:(pK src (k+1) r).bind (FK src n N)=((Cb src q).bind fun _ r=>pK src k r).bind (FK src n N):=by
      conv=>lhs;unfold pK
      rw [e1];rfl
     rw [e];refine FY.bind (FY.bind ?_)
     cases e2:Cb src q with
     | er a c p=>have:=D9 k1.1;rw [e2] at this;obtain ⟨_,rfl⟩:=this;exact ⟨a,p,rfl⟩
     | ok u p'=>
      obtain ⟨a1,a2,a3,a4,a5,k,M',hh⟩:=Vl k1.1 e2 m1;have Q:(uU p.1 p.2).length=6:=rfl;have l1:=h1.length_le;have l2:L.length≠6:=fun hc=>h2 (h1.eq_of_length (by omega))
      have l3:L.length+E.length=6+M'.length:=by
       have:=congrArg List.length hh
       simp at this;omega
      rcases hE with rfl|⟨w,rfl,hw⟩
      ·simp at l3;omega
      ·simp at l3;have l4:L.length=5:=by omega
       have c1:(L++[((4,w):Tx)])[5]?=some (4,w):=by rw [List.getElem?_append_right (by omega),l4];rfl
       rw [hh] at c1;simp at c1;obtain ⟨_,rfl⟩:=c1;exact absurd hw (by decide)
  ·have h:=hm;rw [List.append_assoc] at h;have J:=aeN (M:=[(1,[40]),(4,p.1),(1,[61]),(2,p.2),(1,[41])]++(L'++E)) (t:=(4,wB7)) h;obtain ⟨q,h1,h2,h3,h4⟩:=yh J wB7;rw [decide_eq_true rfl] at h1;have k1:=(fV hr wB7).ok h1;have A:p.1 ∉ q.pre:=by rw [h4.pre];exact hnm p (by simp)
   obtain ⟨q1,a1,a2,a3,a4⟩:=WX (src:=src) (P:=NxF) (r:=q) (w:=p.1) (u:=p.2) (L:=L'++E) (by exact h2) (fun a=>WL g1 A a) g3;have k2:=(D9 k1.1).ok a1;have x:q1.pre=r.pre++[p.1]:=by rw [a3];unfold qJ;rw [if_neg A,h4.pre]
   rw [List.map_cons,List.nodup_cons] at hnd
   have ih:=Y5 (n:=n) (N:=N) (T:=T) I k q1 L' E O hE (.inl a2) k2.1 (by omega) (fun u hu=>hI u (by simp [hu])) hnd.2 (fun u hu=>by
    rw [x,List.mem_append,not_or];refine ⟨hnm u (by simp [hu]), ?_⟩;rw [List.mem_singleton];intro e
    exact hnd.1 (by rw [←e];exact List.mem_map.2 ⟨u,hu,rfl⟩))
   have e:pK src (k+1) r=pK src k q1:=by
    conv=>lhs;unfold pK
    rw [h1];simp only [OR.bind_ok,if_true,a1]
   rw [e];rcases ih with ih|⟨q2,L2,b1,b2,b3,b4,b5,b6,b7,b8⟩
   ·exact .inl ih
   ·exact .inr ⟨q2,L2,b1,b2,by rw [b3,List.flatMap_cons,List.append_assoc],b4,b5,by omega,by rw [b7,x];simp,by rw [b8,k2.2.2,k1.2.2.2.2]⟩
theorem afb {r:Rd} {M:List Tx} (hr:Wr src r) (hm:Mz src r M) (h2:∀t M',M=t::M'→t.1≠2):FY (Ae src 2 r)∨∃q,Ae src 2 r=.ok () q∧Mz src q M∧Wr src q∧rem src q≤rem src r∧q.pre=r.pre∧q.ax=r.ax:=by
 have g:=dI hr
 cases h1:fM src r with
 | er a c q=>rw [h1] at g;obtain ⟨_,rfl⟩:=g;exact .inl ⟨a,q,by unfold Ae;rw [h1];rfl⟩
 | ok t q=>
  have k:=g.ok h1;obtain ⟨m1,m2⟩:=EO hm h1
  have ht:t.1≠2:=by
   rcases m2 with ⟨_,h,_⟩|⟨M',h,_⟩
   ·omega
   ·exact h2 _ _ h
  exact .inr ⟨q,by unfold Ae;rw [h1];simp only [OR.bind_ok,if_neg ht],m1,k.1,by omega,k.2.2.1,k.2.2.2.2⟩
end
end Go.Ai.Z
namespace Go.Ai.Z
def acA (p:Rl) (W:List Rl):List (Rl×Rl):=([58],60::(p++[62]))::([111,119,108,58],60::(RD++[62]))::([120,115,100,58],60::(QO++[62]))::W.map (fun w=>(w++[58],60::((p++w++[47])++[62])))
theorem Yb (p:Rl) (W:List Rl):(acA p W).map (·.1)=dcl W:=by simp [acA,dcl,Function.comp_def]
theorem ahz (p:Rl) (W:List Rl) (l:List Ax):ajm p W l=(acA p W).flatMap (fun p=>uU p.1 p.2)++(4,wB5)::((1,[40])::l.flatMap qH):=by
 unfold ajm TB acA hdX Uw;simp [List.flatMap_append,List.flatMap_map]
theorem agW {p:Rl} {W:List Rl} (hW:∀w∈W,WdP w):∀u∈acA p W,agu u.1∧∀a,xY u.1 (2,u.2,a)=true:=by
 have A:∀w:Rl,(w++[58]:Rl)=[111,119,108,58]→w=[111,119,108]:=fun w h=>by
  have:(w++[58]:Rl)=[111,119,108]++[58]:=h
  exact List.append_cancel_right this
 have x:∀w:Rl,(w++[58]:Rl)=[120,115,100,58]→w=[120,115,100]:=fun w h=>by
  have:(w++[58]:Rl)=[120,115,100]++[58]:=h
  exact List.append_cancel_right this
 intro u hu;rcases List.mem_cons.1 hu with rfl|hu
 ·exact ⟨⟨[],rfl,by simp,.inl rfl⟩,fun a=>by simp [xY]⟩
 rcases List.mem_cons.1 hu with rfl|hu
 ·exact ⟨⟨[111,119,108],rfl,by simp,.inr ⟨_,_,rfl,by decide⟩⟩,fun a=>by simp [xY,RD]⟩
 rcases List.mem_cons.1 hu with rfl|hu
 ·exact ⟨⟨[120,115,100],rfl,by simp,.inr ⟨_,_,rfl,by decide⟩⟩,fun a=>by simp [xY,QO]⟩
 ·obtain ⟨w,hw,rfl⟩:=List.mem_map.1 hu;obtain ⟨_,_,k3,c,r,k4,k5⟩:=qM (hW w hw).word;refine ⟨⟨w,rfl,k3,.inr ⟨c,r,k4,k5⟩⟩,fun a=>?_⟩;have k1:¬(w++[58]:Rl)=[111,119,108,58]:=fun e=>(hW w hw).owl (A w e);have k2:¬(w++[58]:Rl)=[120,115,100,58]:=fun e=>(hW w hw).xsd (x w e);simp [xY,k1,k2]
theorem ajn {W:List Rl} (hW:∀w∈W,WdP w) (J:W.Nodup):(dcl W).Nodup:=by
 have x:∀w:Rl,(w++[58]:Rl)=[111,119,108,58]→w=[111,119,108]:=fun w h=>by
  have:(w++[58]:Rl)=[111,119,108]++[58]:=h
  exact List.append_cancel_right this
 have p:∀w:Rl,(w++[58]:Rl)=[120,115,100,58]→w=[120,115,100]:=fun w h=>by
  have:(w++[58]:Rl)=[120,115,100]++[58]:=h
  exact List.append_cancel_right this
 have I:∀w∈W,(w++[58]:Rl)≠[58]:=fun w hw e=>(qM (hW w hw).word).1 (by simpa using e);unfold dcl;rw [List.nodup_cons,List.nodup_cons,List.nodup_cons];refine ⟨?_, ?_, ?_, ?_⟩
 ·simp only [List.mem_cons,not_or,List.mem_map,not_exists,not_and];exact ⟨by simp,by simp,fun w hw e=>I w hw e⟩
 ·simp only [List.mem_cons,not_or,List.mem_map,not_exists,not_and];exact ⟨by simp,fun w hw e=>(hW w hw).owl (x w e)⟩
 ·simp only [List.mem_map,not_exists,not_and];exact fun w hw e=>(hW w hw).xsd (p w e)
 ·exact List.Pairwise.map _ (fun a b A e=>A (List.append_cancel_right e)) J
theorem TkL.app {A B:List Tx} (hA:TkL A) (hB:TkL B):TkL (A++B):=fun t ht=>(List.mem_append.1 ht).elim (hA t) (hB t)
theorem TkL.pfx {A B:List Tx} (h:A <+: B) (hB:TkL B):TkL A:=by
 obtain ⟨X,rfl⟩:=h;exact fun t ht=>hB t (by simp [ht])
theorem ad2:∀c:C,TkL (jA c):=by
 refine C.ind' fun c ih=>?_;rw [BR]
 have hp:∀t∈c.parts.flatMap jA,t.1≠1→dpT t.2=0:=fun t ht=>by
  obtain ⟨p,h1,h2⟩:=List.mem_flatMap.1 ht;exact ih p h1 t h2
 have hq:∀w:Rl,dpT (34::(w++[34]))=0:=fun w=>afN (by simp);have ho:=Ky
 repeat' split
 all_goals intro t ht h1
 all_goals simp only [Oh,List.mem_cons,List.mem_append,List.not_mem_nil,or_false] at ht
 ·subst ht;decide
 ·subst ht;decide
 ·rcases ht with rfl|rfl|rfl|rfl<;>first|exact ho _|decide|exact absurd rfl h1
 ·rcases ht with rfl|rfl|ht|rfl<;>first|exact ho _|decide|exact absurd rfl h1|exact hp t ht h1
 ·rcases ht with rfl|rfl|rfl|ht|rfl<;>first|exact ho _|decide|exact absurd rfl h1|exact hp t ht h1
 ·rcases ht with rfl|rfl|rfl|rfl|rfl|rfl | ((rfl|rfl|rfl|rfl) | (rfl|rfl|rfl|rfl))|rfl|rfl<;>first|exact ho _|exact hq _|decide|exact absurd rfl h1
 ·subst ht;exact ho _
theorem akz (x:Ax):TkL (qH x):=by
 have hl:=ad2 x.left;have hr:=ad2 x.right;have ho:=Ky
 have hn:TkL (Gv x.op):=by
  unfold Gv;split
  ·intro t ht h1;simp only [RQ,List.mem_cons,List.not_mem_nil,or_false] at ht
   rcases ht with rfl|rfl|rfl|rfl|rfl<;>first|decide|exact absurd rfl h1
  ·intro t ht;cases ht
 have ha:TkL (argX x):=by
  unfold argX;split
  ·exact hl.app hr
  split
  ·exact hl.app hr
  split
  ·exact hl.app hr
  split
  ·intro t ht h1;rcases List.mem_cons.1 ht with rfl|ht
   ·exact ho _
   ·exact hr t ht h1
  split
  ·intro t ht h1;simp only [List.mem_cons,List.not_mem_nil,or_false] at ht
   rcases ht with rfl|rfl<;>exact ho _
  split
  ·intro t ht h1;simp only [List.mem_cons,List.mem_append,List.mem_map,List.not_mem_nil,or_false] at ht
   rcases ht with rfl|rfl|⟨r,_,rfl⟩|rfl|rfl<;>first|exact ho _|decide|exact absurd rfl h1
  split
  ·intro t ht h1;rw [List.mem_singleton.1 ht];exact ho _
  split
  ·refine hr.app fun t ht h1=>?_;rw [List.mem_singleton.1 ht];exact ho _
  ·intro t ht h1;simp only [List.mem_cons,List.not_mem_nil,or_false] at ht
   rcases ht with rfl|rfl|rfl<;>exact ho _
 intro t ht h1;unfold qH at ht;simp only [List.mem_cons,List.mem_append,List.not_mem_nil,or_false] at ht;rcases ht with rfl|rfl | (ht|ht)|rfl
 ·exact afM _
 ·exact absurd rfl h1
 ·exact hn t ht h1
 ·exact ha t ht h1
 ·exact absurd rfl h1
theorem ahD {v p:Rl} {W:List Rl} {l:List Ax} {N:Nat} (hv:v <+: aaH p W l) (hp:p.all Dq=true) (hW:∀w∈W,WdP w) (Z:W.Nodup) (hl:∀x∈l,fH x=0) (a0:l.length≤1024) (hd:∀x∈l,∀n∈nmX x,ZA (dcl W) n):
  FY (ML v (v.length+1) N r00):=by
 obtain ⟨L,E,hL,hE,P⟩:=agV hp hW hl v hv;have hm:Mz v r00 (L++E):=.inl P;have Q:=aaf _ _ P;rw [List.length_append] at Q;rw [ahz] at hL;have w:Wr v r00:=⟨by simp [r00],by simp [r00]⟩;have hn:rem v r00<v.length+1:=by simp [rem,r00]
 have key:=Y5 (n:=v.length+1) (N:=N) (acA p W) (v.length+1) r00 L E hL hE hm w hn (agW hW) (by rw [Yb];exact ajn hW Z) (fun u _=>by simp [r00]);rcases key with h|⟨q,L',b1,b2,b3,b4,b5,b6,b7,b8⟩
 ·exact h
 have e:ML v (v.length+1) N r00=FK v (v.length+1) N () q:=by
  have:ML v (v.length+1) N r00=(pK v (v.length+1) r00).bind (FK v (v.length+1) N):=rfl
  rw [this,b1];rfl
 rw [e];have J:q.pre=dcl W:=by rw [b7,Yb];rfl
 rcases Ns (A:=[(4,wB5),(1,[40])]) (B:=l.flatMap qH) b2 with ⟨h1,h2⟩|⟨L2,rfl,I⟩
 ·refine afU b5 b4 fun k k' M' hM=>?_
  cases L' with
  | nil=>have:=(Nq hE hM).1;cases this
  | cons a L'=>
   obtain ⟨rfl,h3⟩:=List.cons_prefix_cons.1 h1;rcases Ld h3 with rfl|rfl
   ·rw [List.cons_append,List.cons.injEq] at hM;exact (Wi hE).1 hM.2
   ·exact h2 rfl
 ·have m:=aeN (t:=(4,wB5)) (M:=(1,[40])::(L2++E)) (by simpa using b4);obtain ⟨q1,c1,c2,c3,c4⟩:=yh m wB5;rw [decide_eq_true rfl] at c1;have g1:=(fV b5 wB5).ok c1;have Y:([58]:Rl)∈q1.pre:=by rw [c4.pre,J];simp [dcl]
  obtain ⟨q2,d1,d2,d3⟩:=kX c3 (w:=[40]) rfl;have g2:=(aF (dV g1.1) [40] (by simp)).ok d1;have kp:=uQ v q1
  have hT:TkL (L2++E):=by
   refine TkL.app (TkL.pfx I fun t ht=>?_) (aky hE);obtain ⟨x,_,h2⟩:=List.mem_flatMap.1 ht;exact akz x t h2
  have K:q2.pre=dcl W:=by rw [d3.pre];show q1.pre=_;rw [c4.pre,J]
  have S:q2.ax=axV N []:=by rw [d3.ax];show q1.ax=_;rw [c4.ax,b8];rfl
  have R:∀(t:Tx) (M':List Tx),L2++E=t::M'→t.1≠2:=fun t M' he=>by
   cases L2 with
   | nil=>
    rcases hE with rfl|⟨w,rfl,_⟩
    ·cases he
    ·cases he;exact show (4:Int)≠2 by decide
   | cons a L2=>
    cases l with
    | nil=>exact absurd I (by simp)
    | cons x l=>
     rw [List.flatMap_cons] at I;obtain ⟨rfl,_⟩:=List.cons_prefix_cons.1 (show a::L2 <+: (4,vM x.kind)::((1,[40])::(Gv x.op++argX x++[(1,[41])])++l.flatMap qH) from I);cases he;exact show (4:Int)≠2 by decide
  have O:L2.length≤v.length+1:=by
   have:L.length=_:=congrArg List.length b3
   simp at this;omega
  unfold FK;rw [c1];simp only [OR.bind_ok,Y,decide_true,Bool.and_self,oM,d1];rcases afb (src:=v) g2.1 (.inl d2) R with h|⟨q3,f1,f2,f3,f4,f5,f6⟩
  ·exact h.bind
  ·rw [f1];simp only [OR.bind_ok];exact FY.bind (VS (n:=v.length+1) (N:=N) (pre:=dcl W) (by simp [dcl]) (by simp [dcl]) (by simp [dcl]) l (v.length+1) [] q3 L2 E (fun x hx=>⟨hl x hx,hd x hx⟩) O (by simpa using a0) (by rw [f5,K]) I hE hT f2 f3 (by omega) (by omega) (by rw [f6,S]))
end Go.Ai.Z
namespace Go.Ai.Z
theorem adR {l:List Ax} {p:Rl} (h:Dc l p=0):p.all Dq=true∧(∀w∈jc l,WdP w)∧(jc l).Nodup∧(∀x∈l,fH x=0)∧∀x∈l,∀n∈nmX x,ZA (dcl (jc l)) n:=by
 unfold Dc at h
 split at h
 ·cases h
 rename_i hp
 split at h
 ·rename_i hc;exact absurd h hc
 rename_i hc;have hc:zS l=0:=Classical.not_not.1 hc
 split at h
 ·cases h
 rename_i hw;have hv:∀x∈l,x.Vd:=fun x hm=>vd (tV hc x hm)
 have hi:p.all Dq=true:=by
  cases q:Xa p with
  | false=>exact absurd (.inr q) hp
  | true=>exact q
 have h1:Jw ∉ jc l:=fun q=>hw (.inl q);have h2:Nk ∉ jc l:=fun q=>hw (.inr q);exact ⟨hi,V8 hv h1 h2,Srt.nodup (by unfold jc;exact XQ _),tV hc,fun x hx n hn=>aa2 hv h1 h2 hx hn⟩
theorem aeo {l:List Ax} {p:Rl} (h:Dc l p=0) (x:l.length≤1024) {v:Rl} (hv:v <+: aaH p (jc l) l) (hl:v.length≤65536) (s:St) (cx:Ctx) (hc:cx.lim≤s.length):
  ∃a:Nat,a≤v.length∧aj P0 (.fn (.func mg) [] []) [.sl (aC v)] s cx=.ret (.tu [.ns,.s [],.i .i64 a,.i .i64 50]) s:=by
 obtain ⟨k1,k2,k3,k4,k5⟩:=adR h;obtain ⟨a,q,e1⟩:=ahD (N:=s.length+8) hv k1 k2 k3 k4 x k5;have e2:=ajg v (s.length+8);rw [e1] at e2;have e:=af7 v (by omega) s cx hc;unfold Ru at e;rw [if_neg (by omega),e1] at e;exact ⟨a,e2.1,e⟩
theorem adI (z:Bool) (l:List Ax) (hl:l.length≤1125899906842624) (hx:∀x∈l,x.Ok) (p:Rl) (hp:p.length≤1152921504606846976) (n:Int) (hn:IntKind.u64.min≤n∧n≤IntKind.u64.max) (hs:aj P0 (.fn (.func yJ) [] []) [] [] ⟨0,0⟩=.ret (.b true) []) (cx:Ctx):
  aj P0 (.fn (.func yK) [] []) [slf z (l.map cu),.s p,.i .u64 n] [] cx=.ret (.b true) []:=by
 obtain ⟨b,e1,hb⟩:=KC 8 (by omega) z l hl hx;rw [show ((8:Nat):Int)=8 from rfl] at e1;have n0:0≤n:=hn.1;refine Ql (by simp) ?_
 cases b with
 | false=>simp -implicitDefEqProofs [af,nD,hs,e1]
 | true=>
  obtain ⟨h8,hf⟩:=hb rfl;by_cases h4:400<p.length
  ·have A:(400:Int)<(p.length:Int):=by omega
   simp -implicitDefEqProofs [af,nD,hs,e1,A]
  ·have A:¬(400:Int)<(p.length:Int):=by omega
   have J:zS l=0→∀x∈l,(owA x).length≤33000:=fun h0 x hm=>ag9 (good (tV h0 x hm)) (vd (tV h0 x hm));have ew:=Zm z l (by omega) hf J p (by omega);by_cases hE:Dc l p=0
   ·obtain ⟨k1,k2,k3⟩:=ait hE;obtain ⟨d1,d2,d3,d4,d5⟩:=adR hE;have hB:ab6 l p=.sl (aC (Kz p (jc l) l)):=by unfold ab6;rw [if_pos hE]
    have hD:Kz p (jc l) l=aaH p (jc l) l++[41,10]:=TA _ _ _;rw [hE,hB] at ew;have a0:Ly NxE (aaH p (jc l) l++[41]) (Qn p (jc l) l):=abx (aeS NxE) (z:=[]) rfl d1 d2 d4;have O:∀v,v <+: aaH p (jc l) l→v.length≤65536→∃a:Nat,a≤v.length∧aj P0 (.fn (.func mg) [] []) [.sl (aC v)] [] ⟨0,0⟩=.ret (.tu [.ns,.s [],.i .i64 a,.i .i64 50]) []:=fun v hv R=>aeo hE (by omega) hv R [] ⟨0,0⟩ (Nat.le_refl _);have I:=fun h=>aen hE (by omega) a0 h [] ⟨0,0⟩ (Nat.le_refl _)
    have es:=af0 l (l.map zA) z true (by simp) (by omega) (fun i a b h1 h2=>by
     rw [List.getElem?_map,h1] at h2;cases h2
     exact aiL (hf a (List.mem_of_getElem? h1)))
    rw [hD] at ew k2;generalize aaH p (jc l) l=H at *;have P:=acC true ((l.map zA).map cu);generalize slf true ((l.map zA).map cu)=Z at *;have a1:(H++[41,10]).length=H.length+2:=by simp
    have I:=I (by simp at k2 ⊢;omega)
    -- the beginning
    have S:(0:Int)≤n.tmod ((H.length:Int)+1):=Int.tmod_nonneg _ n0;have a2:n.tmod ((H.length:Int)+1)<(H.length:Int)+1:=Int.tmod_lt_of_pos _ (by omega);obtain ⟨k,hk⟩:∃k:Nat,n.tmod ((H.length:Int)+1)=k:=⟨_,(Int.toNat_of_nonneg S).symm⟩;have W:k≤H.length:=by omega
    obtain ⟨a,ha,Q⟩:=O (H.take k) (List.take_prefix _ _) (by rw [List.length_take];omega);rw [List.length_take] at ha;have t1:(aC (H++[41,10])).take k=aC (H.take k):=by rw [KF,List.take_append_of_le_length W]
    have t2:(aC (H++[41,10])).take (H.length+1)=aC (H++[41]):=by
     rw [KF,show H++[41,10]=(H++[41])++[10] by simp,List.take_append_of_le_length (by simp),List.take_of_length_le (by simp)]
    have Y:(aC (H++[41,10])).length=H.length+2:=by rw [kM];simp
    have K:(aC (H++[41,10])).all (fun e=>e.cells.length == 1)=true:=by simp [aC]
    generalize aC (H++[41,10])=B at *;have l2:¬(H.length:Int)+2<2:=by omega
    have u1:IntKind.i64.wrap ((H.length:Int)+2 - 1)=(H.length:Int)+1:=by rw [w64]<;>omega
    have u2:IntKind.u64.wrap ((H.length:Int)+1)=(H.length:Int)+1:=by rw [IntKind.wrap_u64];omega
    have u3:IntKind.u64.wrap (k:Int)=k:=by rw [IntKind.wrap_u64];omega
    have u4:IntKind.i64.wrap (k:Int)=k:=w64 (by omega) (by omega);have l3:¬(H.length:Int)+1=0:=by omega
    have l4:(k:Int).toNat=k:=rfl;have l5:k≤H.length+2:=by omega
    have l6:((H.length:Int)+1).toNat=H.length+1:=by omega
    have l7:(0:Int)≤(H.length:Int)+1:=by omega
    have l8:(a:Int)≤(k:Int):=by omega
    have l9:∀e∈B,e.cells.length=1:=fun e he=>by have:=List.all_eq_true.1 K e he;simpa using this
    simp -implicitDefEqProofs [af,nD,hs,e1,A,ew,Y,K,l3,l4,l5,l6,l7,l8,l2,u1,u2,u3,u4,hk,t1,t2,Q,I,es,P]
    done
   ·have hB:ab6 l p=.ns:=by unfold ab6;rw [if_neg hE]
    rw [hB] at ew;simp -implicitDefEqProofs [af,nD,hs,e1,A,ew,hE]
end Go.Ai.Z
