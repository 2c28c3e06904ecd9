/-
 The reference's names and Vocabulary.
-/
import Derived.Test.YtcofenimejmoeaaGreatDoorAiOW8OW9
import Derived.Test.YtcofenimejmoeaaGreatDoorAiK8K9K10K11K12
set_option maxRecDepth 100000
set_option linter.unusedSimpArgs false
set_option linter.unusedVariables false
set_option linter.unusedSectionVars false
namespace Go.Ai.Z
def Ei (v:V4):List AV:=[iG v.c,iG v.r,iG v.f,iG v.i]
def V4.addS (v:V4) (x:C):V4:=
 if x.kind=3 then { v with c:=kS v.c x.name } else if x.kind=6 then { v with r:=kS v.r x.name }
 else if x.kind=7 then { v with f:=kS v.f x.name } else if x.kind=4 then { v with i:=kS v.i x.name } else v
mutual
def qG:C→V4→V4
 | .mk k n l h z ps,v=>OA ps (v.addS (.mk k n l h z ps))
def OA:List C→V4→V4
 | [],v=>v
 | p::r,v=>OA r (qG p v)
end
theorem NR (x:C) (v:V4):qG x v=OA x.parts (v.addS x):=by cases x;simp [qG]
structure SB1 (n:Nat) (V:List Rl):Prop where
 srt:Srt V
 len:V.length≤n
theorem SB1.add {n:Nat} {V:List Rl} (h:SB1 n V) (k:Rl):SB1 (n+1) (kS V k):=⟨Sm h.srt,by have:=RJ V k;have:=h.len;omega⟩
theorem SB1.le {n m:Nat} {V:List Rl} (h:SB1 n V) (hm:n≤m):SB1 m V:=⟨h.srt,Nat.le_trans h.len hm⟩
structure SB (n:Nat) (v:V4):Prop where
 c:SB1 n v.c
 r:SB1 n v.r
 f:SB1 n v.f
 i:SB1 n v.i
theorem SB.le {n m:Nat} {v:V4} (h:SB n v) (hm:n≤m):SB m v:=⟨h.c.le hm,h.r.le hm,h.f.le hm,h.i.le hm⟩
theorem SB.add {n:Nat} {v:V4} (h:SB n v) (x:C):SB (n+1) (v.addS x):=by
 have h':=h.le (Nat.le_succ n)
 unfold V4.addS
 split
 ·exact ⟨h.c.add _,h'.r,h'.f,h'.i⟩
 ·split
  ·exact ⟨h'.c,h.r.add _,h'.f,h'.i⟩
  ·split
   ·exact ⟨h'.c,h'.r,h.f.add _,h'.i⟩
   ·split
    ·exact ⟨h'.c,h'.r,h'.f,h.i.add _⟩
    ·exact h'
theorem Oz:∀(x:C) (n:Nat) (v:V4),SB n v→SB (n+wC x) (qG x v):=by
 refine C.ind' fun x ih n v hv=>?_
 have hL:∀(l:List C),(∀p∈l,∀(n:Nat) (v:V4),SB n v→SB (n+wC p) (qG p v))→∀(n:Nat) (v:V4),SB n v→SB (n+wL l) (OA l v):=by
  intro l
  induction l with
  | nil=>intro _ n v hv;simpa [OA,wL] using hv
  | cons p r ihr=>
   intro h n v hv
   have h1:=h p (by simp) n v hv
   have h2:=ihr (fun q hq=>h q (by simp [hq])) _ _ h1
   simp only [OA,wL]
   rw [show n+(wC p+wL r)=n+wC p+wL r by omega]
   exact h2
 rw [NR,nY]
 exact (hL x.parts ih (n+1) (v.addS x) (hv.add x)).le (by omega)
theorem kK {n:Nat} {V:List Rl} (h:SB1 n V) (hn:n≤100000) (x:Rl) (s:St) (cx:Ctx):ai P0 (.fn (.func gy) [] []) [iG V,.s x] s cx=.ret (iG (kS V x)) s:=by
 have e:=JV true V x (by have:=h.len;omega) s cx
 rw [J4 h.srt] at e
 have h0:iG (kS V x)=.sl ((kS V x).map .s):=by
  have hm:x∈kS V x:=FO.2 (.inl rfl)
  cases hh:kS V x with
  | nil=>rw [hh] at hm;cases hm
  | cons a r=>rfl
 rw [h0];exact e
theorem GR (x:C) (hw:wC x≤1000) (s:St) (cx:Ctx)
  (ih:∀y∈x.parts,∀(n:Nat) (v:V4),SB n v→n+wC y≤50000→∀(s:St) (cx:Ctx),ai P0 (.fn (.func kM) [] []) [.ag (Ei v),bn y] s cx=.ret (.ag (Ei (qG y v))) s):
  ∀(rest:List C) (i:Nat) (n:Nat) (v:V4),x.parts.drop i=rest→SB n v→n+wL rest≤50000→
  ∃j:Int,eX (au P0.glob (ai P0) cx false qy) [2,3,4,5] [(2,.bx (Ei v)),(3,.bx (bn x).cells),(4,.bx [.ns,.ns,.ns,.ns]),(5,.v (.i .i64 i))] s=
   .exit 1 [(2,.bx (Ei (OA rest v))),(3,.bx (bn x).cells),(4,.bx [.ns,.ns,.ns,.ns]),(5,.v (.i .i64 j)),(44,.v (.b false))] s
 | [],i,n,v,h,hv,hn=>by
  have h1:¬i<x.parts.length:=Nat.not_lt.2 (drop_nil h)
  refine ⟨i,aj fun K hK=>?_⟩
  simp [qy,h1,OA]
 | p::r,i,n,v,h,hv,hn=>by
  obtain ⟨h1,h2,h3,h4⟩:=drop_cons h
  have h5:=h4 h3
  have hp:p∈x.parts:=by rw [←h5];exact List.getElem_mem h3
  have hlen:=Ba x.parts
  have hwi:=wI (i:=i) (by rw [nY] at hw;omega)
  simp only [wL] at hn
  have e1:=ih p hp n v hv (by omega)
  obtain ⟨j,ih2⟩:=GR x hw s cx ih r (i+1) (n+wC p) (qG p v) h2 (Oz p n v hv) (by omega)
  refine ⟨j,aj fun K hK=>?_⟩
  rw [←hK,show ((i+1:Nat):Int)=(i:Int)+1 from rfl] at ih2
  clear hK h4 ih
  simp only [Ei] at e1 ih2 ⊢
  simp only [OA]
  rw [←ih2]
  clear ih2
  simp -implicitDefEqProofs [qy,h3,h5,hwi,e1]
theorem Hg:∀(x:C),wC x≤1000→∀(n:Nat) (v:V4),SB n v→n+wC x≤50000→∀(s:St) (cx:Ctx),
  ai P0 (.fn (.func kM) [] []) [.ag (Ei v),bn x] s cx=.ret (.ag (Ei (qG x v))) s:=by
 refine C.ind' fun x ih hw n v hv hn s cx=>?_
 have hw':=hw
 rw [nY] at hw' hn
 obtain ⟨j,h⟩:=GR x hw s ⟨s.length,s.length⟩ (fun y hy n v hv hn=>ih y hy (by have:=wS hy;omega) n v hv hn) x.parts 0 (n+1) (v.addS x) rfl (hv.add x) (by omega)
 rw [←NR] at h
 clear ih
 generalize qG x v=w at *
 refine PO (by simp) ?_
 have ec:=kK hv.c (by omega) x.name
 have er:=kK hv.r (by omega) x.name
 have ef:=kK hv.f (by omega) x.name
 have ei:=kK hv.i (by omega) x.name
 simp only [Ei] at h ⊢
 unfold V4.addS at h
 by_cases k3:x.kind=3
 ·simp [k3] at h
  simp -implicitDefEqProofs [af,jI,k3,ec,h,jY]
 by_cases k4:x.kind=4
 ·simp [k4] at h
  simp -implicitDefEqProofs [af,jI,k4,ei,h,jY]
 by_cases k6:x.kind=6
 ·simp [k6] at h
  simp -implicitDefEqProofs [af,jI,k6,er,h,jY]
 by_cases k7:x.kind=7
 ·simp [k7] at h
  simp -implicitDefEqProofs [af,jI,k7,ef,h,jY]
 ·simp [k3,k4,k6,k7] at h
  simp -implicitDefEqProofs [af,jI,k3,k4,k6,k7,h,jY]
end Go.Ai.Z
namespace Go.Ai.Z
def yt (V:List Rl) (x:Rl):List Rl:=if x=[] then V else kS V x
def aae (x:Ax) (v:V4):V4:=
 let u:=qG x.right (qG x.left v)
 ⟨u.c,x.roles.foldl kS (yt u.r x.role),u.f,yt (yt u.i x.a) x.b⟩
def iV:List Ax→V4→V4
 | [],v=>v
 | x::r,v=>iV r (aae x v)
theorem SB1.yt {n:Nat} {V:List Rl} (h:SB1 n V) (k:Rl):SB1 (n+1) (yt V k):=by
 unfold Go.Ai.Z.yt
 split
 ·exact h.le (Nat.le_succ n)
 ·exact h.add k
theorem SB1.fold {rs:List Rl}:∀{n:Nat} {V:List Rl},SB1 n V→SB1 (n+rs.length) (rs.foldl kS V):=by
 induction rs with
 | nil=>intro n V h;exact h
 | cons r rs ih=>
  intro n V h
  have:=ih (h.add r)
  simp only [List.length_cons,List.foldl_cons]
  rw [show n+(rs.length+1)=n+1+rs.length by omega]
  exact this
theorem X0 {x:Ax} (hx:x.Few) {n:Nat} {v:V4} (h:SB n v):SB (n+1000) (aae x v):=by
 have h1:=Oz x.left n v h
 have h2:=Oz x.right _ _ h1
 have l1:=hx.l
 have l2:=hx.r
 have l3:=hx.roles
 exact ⟨h2.c.le (by omega),((h2.r.yt x.role).fold).le (by omega),h2.f.le (by omega),((h2.i.yt x.a).yt x.b).le (by omega)⟩
theorem SE:∀{l:List Ax},(∀x∈l,x.Few)→∀{n:Nat} {v:V4},SB n v→SB (n+1000 * l.length) (iV l v)
 | [],_,n,v,h=>h
 | x::l,hx,n,v,h=>by
  have h1:=SE (l:=l) (fun y hy=>hx y (by simp [hy])) (X0 (hx x (by simp)) h)
  simp only [List.length_cons,iV]
  rw [show n+1000 * (l.length+1)=n+1000+1000 * l.length by omega]
  exact h1
theorem SB.nil:SB 0 V4.nil:=by
 have h:SB1 0 []:=⟨by simp [Srt],by simp⟩
 exact ⟨h,h,h,h⟩
theorem SY (x:Ax) (hx:x.roles.length≤1000) (A:AV) (i:Int) (c f i':List Rl) (s:St) (cx:Ctx):
  ∀(rest:List Rl) (k n:Nat) (R:List Rl),x.roles.drop k=rest→SB1 n R→n+rest.length≤100000→
  ∃j:Int,eX (au P0.glob (ai P0) cx false kG) [0,2,4,5,6,8]
   [(0,.v A),(2,.bx [.ns,.ns,.ns,.ns]),(4,.bx [iG c,iG R,iG f,iG i']),(5,.v (.i .i64 i)),(6,.bx (cellsA x)),(8,.v (.i .i64 k))] s=
   .exit 2 [(0,.v A),(2,.bx [.ns,.ns,.ns,.ns]),(4,.bx [iG c,iG (rest.foldl kS R),iG f,iG i']),(5,.v (.i .i64 i)),(6,.bx (cellsA x)),(8,.v (.i .i64 j)),(46,.v (.b false))] s
 | [],k,n,R,h,hR,hn=>by
  have h1:¬k<x.roles.length:=Nat.not_lt.2 (drop_nil h)
  refine ⟨k,aj fun K hK=>?_⟩
  simp [kG,h1,cellsA]
 | p::r,k,n,R,h,hR,hn=>by
  obtain ⟨h1,h2,h3,h4⟩:=drop_cons h
  have h5:=h4 h3
  have hwi:=wI (i:=k) (by omega)
  simp only [List.length_cons] at hn
  have e1:=kK hR (by omega) p
  obtain ⟨j,ih⟩:=SY x hx A i c f i' s cx r (k+1) (n+1) (kS R p) h2 (hR.add p) (by omega)
  refine ⟨j,aj fun K hK=>?_⟩
  rw [←hK,show ((k+1:Nat):Int)=(k:Int)+1 from rfl] at ih
  clear hK h4
  simp only [List.foldl_cons,cellsA] at ih ⊢
  rw [←ih]
  clear ih
  simp -implicitDefEqProofs [kG,h3,h5,hwi,e1]
theorem S9 (z:Bool) (l:List Ax) (hl:l.length≤40) (hx:∀x∈l,x.Few) (s:St) (cx:Ctx):
  ∀(rest:List Ax) (i n:Nat) (v:V4),l.drop i=rest→SB n v→n+1000 * rest.length≤45000→
  ∃j:Int,eX (au P0.glob (ai P0) cx false ja) [0,2,4,5]
   [(0,.v (slf z (l.map dD))),(2,.bx [.ns,.ns,.ns,.ns]),(4,.bx (Ei v)),(5,.v (.i .i64 i))] s=
   if rP rest=0 then .exit 0 [(0,.v (slf z (l.map dD))),(2,.bx [.ns,.ns,.ns,.ns]),(4,.bx (Ei (iV rest v))),(5,.v (.i .i64 j)),(13,.v (.b false))] s
   else .ret [(2,.bx [.ns,.ns,.ns,.ns]),(3,.v (.i .i64 (rP rest)))] s
 | [],i,n,v,h,hv,hn=>by
  have h1:¬i<l.length:=Nat.not_lt.2 (drop_nil h)
  refine ⟨i,aj fun K hK=>?_⟩
  simp [ja,h1,rP,iV]
 | x::r,i,n,v,h,hv,hn=>by
  obtain ⟨h1,h2,h3,h4⟩:=drop_cons h
  have h5:=h4 h3
  have hxf:=hx x (by rw [←h5];exact List.getElem_mem h3)
  have hwi:=wI (i:=i) (by omega)
  have e0:=II x hxf
  simp only [List.length_cons] at hn
  by_cases h0:jP x=0
  ·obtain ⟨j,ih⟩:=S9 z l hl hx s cx r (i+1) (n+1000) (aae x v) h2 (X0 hxf hv) (by omega)
   have l1:=hxf.l
   have l2:=hxf.r
   have l3:=hxf.roles
   have en1:=Hg x.left (by omega) n v hv (by omega)
   have v1:=Oz x.left n v hv
   have en2:=Hg x.right (by omega) _ _ v1 (by omega)
   have v2:=Oz x.right _ _ v1
   have er:=kK v2.r (by omega) x.role
   have ea:=kK v2.i (by omega) x.a
   have eb:=kK (v2.i.yt x.a) (by omega) x.b
   obtain ⟨j1,e1⟩:=SY x (by omega) (slf z (l.map dD)) i (qG x.right (qG x.left v)).c (qG x.right (qG x.left v)).f (qG x.right (qG x.left v)).i s cx x.roles 0 _ (yt (qG x.right (qG x.left v)).r x.role) rfl (v2.r.yt x.role) (by omega)
   refine ⟨j,aj fun K hK=>?_⟩
   rw [←hK,show ((i+1:Nat):Int)=(i:Int)+1 from rfl] at ih
   clear hK h4 hx
   rw [rP,if_pos h0]
   simp only [iV]
   rw [←ih]
   clear ih v1 v2
   have hr:Ei (aae x v)=[iG (qG x.right (qG x.left v)).c,iG (x.roles.foldl kS (yt (qG x.right (qG x.left v)).r x.role)),iG (qG x.right (qG x.left v)).f,iG (yt (yt (qG x.right (qG x.left v)).i x.a) x.b)]:=rfl
   rw [hr]
   generalize qG x.right (qG x.left v)=w2 at *
   generalize qG x.left v=w1 at *
   rw [h0] at e0
   simp only [Ei] at en1 en2 ⊢
   have key:∀(R' I':List Rl),yt w2.r x.role=R'→yt (yt w2.i x.a) x.b=I'→True:=fun _ _ _ _=>trivial
   clear key
   simp only [dD,cellsA] at e0 e1
   have hie:∀y:Rl,¬y=[]→y.isEmpty=false:=fun y h=>by cases y<;>simp_all
   have ir:=hie x.role
   have ia:=hie x.a
   have ib:=hie x.b
   clear hie
   by_cases kr:x.role=[]<;>by_cases ka:x.a=[]<;>by_cases kb:x.b=[]<;>simp [yt,kr,ka,kb] at e0 e1 eb ⊢ <;>
    simp -implicitDefEqProofs [ja,h3,h5,hwi,e0,en1,en2,er,ea,eb,kr,ka,kb,ir,ia,ib,e1,cellsA,jY,splice]
  ·refine ⟨i,aj fun K hK=>?_⟩
   clear hK h4 hx
   rw [rP,if_neg h0,if_neg h0]
   simp -implicitDefEqProofs [ja,h3,h5,hwi,e0,h0,Ei,jY,splice]
theorem IE (z:Bool) (l:List Ax) (hl:l.length≤40) (hx:∀x∈l,x.Few) (s:St) (cx:Ctx):
  ai P0 (.fn (.func lm) [] []) [slf z (l.map dD)] s cx=
   .ret (.tu [.ag (if rP l=0 then Ei (iV l V4.nil) else [.ns,.ns,.ns,.ns]),.i .i64 (rP l)]) s:=by
 obtain ⟨j,h⟩:=S9 z l hl hx s ⟨s.length,s.length⟩ l 0 0 V4.nil rfl SB.nil (by omega)
 rw [show Ei V4.nil=[.ns,.ns,.ns,.ns] from rfl] at h
 refine Gn (by simp) ?_
 by_cases h0:rP l=0
 ·rw [if_pos h0] at h ⊢
  rw [h0]
  simp only [Ei] at h ⊢
  simp at h
  simp -implicitDefEqProofs [af,jX,h,jY,splice]
 ·rw [if_neg h0] at h ⊢
  simp at h
  simp -implicitDefEqProofs [af,jX,h,jY,splice]
end Go.Ai.Z
