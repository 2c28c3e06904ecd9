/-
 The plain parser: what follows a concept matters by its first text alone.
-/
import Derived.Test.YtpnlnnfcaeednaaGreatDoorAiY6Y7Y8
import Derived.Test.YtpnlnnfcaeednaaGreatDoorAiT7T8
import Derived.Test.YtpnlnnfcaeednaaGreatDoorAiQ3Q4Q5
set_option maxRecDepth 100000
set_option linter.unusedSimpArgs false
set_option linter.unusedVariables false
set_option linter.unusedSectionVars false
namespace Go.Ai.Z
def jZ (t:Tok):Tk:=(t.1,t.2.1)
theorem xC {t:Tok} {p p':List Tok} (h:p'.map jZ=(t::p).map jZ):∃t' q,p'=t'::q∧t'.1=t.1∧t'.2.1=t.2.1∧q.map jZ=p.map jZ:=by
 cases p' with
 | nil=>simp at h
 | cons t' q=>
  simp only [List.map_cons,List.cons.injEq] at h
  have h1:=h.1
  simp only [jZ,Prod.mk.injEq] at h1
  exact ⟨t',q,rfl,h1.1,h1.2,h.2⟩
def Free {α:Type} (f:List Tok→PR α) (ws:List (List UInt8)) (l:List Tok):Prop:=
 ∀v r,f l=.ok v r→∃p,l=p++r∧∀p' r':List Tok,p'.map jZ=p.map jZ→txt r' ∉ ws→f (p'++r')=.ok v r'
theorem Gw {l:List Tok} (h:WT l) {w:List UInt8} (hw:txt l=w) (hn:w≠[]):∃t q,l=t::q∧t.2.1=w∧WT q:=by
 obtain ⟨t,q,rfl,_,hq⟩:=h.tl (.inl (by rw [hw];exact hn))
 exact ⟨t,q,rfl,hw,hq⟩
theorem ML {l:List Tok} (h:WT l):Free ig [] l:=by
 intro v r e
 unfold ig at e
 split at e
 ·rename_i h1
  obtain ⟨t,q,rfl,_,hq⟩:=h.tl (.inr (by rw [h1.1];decide))
  split at e
  ·rename_i h2
   cases e
   refine ⟨[t],rfl,fun p' r' hp _=>?_⟩
   obtain ⟨t',q',rfl,k1,k2,k3⟩:=xC hp
   have:q'=[]:=by simpa using k3
   subst this
   simp only [D7,dL] at h1 h2
   simp only [List.cons_append,List.nil_append,ig,D7,dL,k1,k2,h1,h2,and_self,if_true,List.tail_cons]
  ·cases e
 ·cases e
theorem MK {w:List UInt8} (hw:w≠[]) {l:List Tok} (h:WT l):Free (kH w) [] l:=by
 intro v r e
 unfold kH at e
 split at e
 ·rename_i h1
  obtain ⟨t,q,rfl,h2,_⟩:=Gw h h1 hw
  cases e
  refine ⟨[t],rfl,fun p' r' hp _=>?_⟩
  obtain ⟨t',q',rfl,k1,k2,k3⟩:=xC hp
  have:q'=[]:=by simpa using k3
  subst this
  simp only [List.cons_append,List.nil_append,kH,dL,k2,h2,if_true,List.tail_cons]
 ·cases e
theorem XK {least:Int} {l:List Tok} (h:WT l):Free (yw least) [] l:=by
 intro v r e
 unfold yw at e
 split at e
 ·rename_i h1
  obtain ⟨t,q,rfl,_,hq⟩:=h.tl (.inr (by rw [h1];decide))
  split at e
  ·rename_i n hn
   split at e
   ·cases e
   ·rename_i h2
    cases e
    refine ⟨[t],rfl,fun p' r' hp _=>?_⟩
    obtain ⟨t',q',rfl,k1,k2,k3⟩:=xC hp
    have:q'=[]:=by simpa using k3
    subst this
    simp only [D7,dL] at h1 hn
    simp only [List.cons_append,List.nil_append,yw,D7,dL,k1,k2,h1,hn,if_true,List.tail_cons]
    rw [if_neg h2]
  ·cases e
 ·cases e
theorem Free.bind {α β:Type} {f:List Tok→PR α} {g:α→List Tok→PR β} {ws vs:List (List UInt8)} {l:List Tok} (hf:Free f vs l) (hg:∀v r,f l=.ok v r→Free (g v) ws r)
  (hv:∀v r u q,f l=.ok v r→g v r=.ok u q→(r=q→∀r':List Tok,txt r' ∉ ws→txt r' ∉ vs)∧(r≠q→txt r ∉ vs)):Free (fun l=>(f l).bind g) ws l:=by
 intro u q e
 obtain ⟨v,r,e1,e2⟩:=aB.1 e
 obtain ⟨p1,h1,k1⟩:=hf v r e1
 obtain ⟨p2,h2,k2⟩:=hg v r e1 u q e2
 obtain ⟨hv1,hv2⟩:=hv v r u q e1 e2
 refine ⟨p1++p2,by rw [h1,h2];simp,fun p' r' hp hr=>?_⟩
 rw [List.map_append] at hp
 obtain ⟨a,b,rfl,ha,hb⟩:=List.map_eq_append_iff.1 hp
 have hmid:txt (b++r') ∉ vs:=by
  cases p2 with
  | nil=>
   have:b=[]:=by simpa using hb
   subst this
   exact hv1 h2 r' hr
  | cons t p2=>
   obtain ⟨t',q',rfl,_,k4,_⟩:=xC hb
   have:=hv2 (by rw [h2];intro hh;have:=congrArg List.length hh;simp at this;omega)
   rw [h2] at this
   simpa [k4] using this
 show (f (a++b++r')).bind g=_
 rw [List.append_assoc,k1 a (b++r') ha hmid]
 exact k2 b r' hb hr
theorem Free.ok {α:Type} (v:α) (ws:List (List UInt8)) (l:List Tok):Free (fun l=>PR.ok v l) ws l:=by
 intro u r e
 cases e
 refine ⟨[],rfl,fun p' r' hp _=>?_⟩
 have:p'=[]:=by simpa using hp
 subst this;rfl
theorem Free.tok {α:Type} {f:List Tok→PR α} {ws:List (List UInt8)} {l:List Tok} {w:List UInt8} (h:WT l) (hw:txt l=w) (hn:w≠[]) (hf:WT l.tail→Free f ws l.tail):Free (fun l=>f l.tail) ws l:=by
 obtain ⟨t,q,rfl,h2,hq⟩:=Gw h hw hn
 intro v r e
 obtain ⟨p,h3,h4⟩:=hf hq v r e
 refine ⟨t::p,by rw [List.tail_cons] at h3;rw [h3];rfl,fun p' r' hp hr=>?_⟩
 obtain ⟨t',q',rfl,k1,k2,k3⟩:=xC hp
 exact h4 q' r' k3 hr
theorem Free.congr {α:Type} {f g:List Tok→PR α} {ws:List (List UInt8)} {l:List Tok} (hg:Free g ws l) (h1:f l=g l) (hlen:∀v r,g l=.ok v r→r.length<l.length) (h2:∀t q,t.1=(hT l).1→t.2.1=txt l→f (t::q)=g (t::q)):Free f ws l:=by
 intro v r e
 rw [h1] at e
 obtain ⟨p,h3,h4⟩:=hg v r e
 refine ⟨p,h3,fun p' r' hp hr=>?_⟩
 have hl:=hlen v r e
 cases p with
 | nil=>rw [List.nil_append] at h3;rw [h3] at hl;omega
 | cons t p=>
  obtain ⟨t',q',rfl,k1,k2,k3⟩:=xC hp
  have:f (t'::q'++r')=g (t'::q'++r'):=h2 t' (q'++r') (by rw [k1,h3];rfl) (by rw [k2,h3];rfl)
  rw [this];exact h4 _ r' hp hr
theorem pW {α:Type} {l r:List Tok} {x:PR α} {v:α} (hg:Good' l x) (e:x=.ok v r):WT r∧r.length<l.length:=by
 rw [e] at hg
 obtain ⟨h1,p,h2,h3⟩:=hg
 refine ⟨h1, ?_⟩
 rw [h3]
 cases p with
 | nil=>exact absurd rfl h2
 | cons a p=>simp;omega
theorem acg {w:List UInt8} {l r:List Tok} {u:Unit} (h:kH w l=.ok u r):txt l=w:=by
 unfold kH at h
 split at h
 ·rename_i h1;exact h1
 ·cases h
theorem XL (n:Nat) (l:List Tok) (cs:List C) {c:C} {r:List Tok} (h:jK n l cs=.ok c r) (hne:l≠r):txt l=Jq:=by
 cases n with
 | zero=>unfold jK at h;cases h
 | succ n=>
  unfold jK at h
  split at h
  ·rename_i h1;exact h1
  ·cases h;exact absurd rfl hne
def yN (nm:List UInt8) (l1:List Tok):PR C:=
 if txt l1=inB then (yw (-1099511627776) l1.tail).bind fun lo l2=>(kH toW l2).bind fun _ l3=>(yw lo l3).bind fun hi l4=>.ok (.mk 7 nm lo hi true []) l4
 else .ok (.mk 3 nm 0 0 true []) l1
theorem Zb (nm:List UInt8) {l:List Tok} (h:WT l):Free (yN nm) [inB] l:=by
 by_cases h1:txt l=inB
 ·have hg:Free (fun l:List Tok=>(yw (-1099511627776) l.tail).bind fun lo l2=>(kH toW l2).bind fun _ l3=>(yw lo l3).bind fun hi l4=>PR.ok (C.mk 7 nm lo hi true []) l4) [inB] l:=by
   refine Free.tok (f:=fun l=>(yw (-1099511627776) l).bind fun lo l2=>(kH toW l2).bind fun _ l3=>(yw lo l3).bind fun hi l4=>PR.ok (C.mk 7 nm lo hi true []) l4) h h1 (by decide) fun hq=>?_
   refine (XK hq).bind (fun lo l2 e2=>?_) (fun _ _ _ _ _ _=>⟨fun _ _ _=>by simp,fun _=>by simp⟩)
   have w2:=(pW (C9 hq) e2).1
   refine (MK (by decide) w2).bind (fun u l3 e3=>?_) (fun _ _ _ _ _ _=>⟨fun _ _ _=>by simp,fun _=>by simp⟩)
   have w3:=(pW (oL (by decide) w2) e3).1
   exact (XK w3).bind (fun hi l4 e4=>Free.ok _ _ _) (fun _ _ _ _ _ _=>⟨fun _ _ _=>by simp,fun _=>by simp⟩)
  refine hg.congr (by unfold yN;rw [if_pos h1]) (fun v r e=>?_) (fun t q _ k2=>by unfold yN;rw [if_pos (by rw [dL,k2,h1])])
  obtain ⟨t,q,rfl,_,hq⟩:=Gw h h1 (by decide)
  have hgd:Good' (t::q) ((yw (-1099511627776) q).bind fun lo l2=>(kH toW l2).bind fun _ l3=>(yw lo l3).bind fun hi l4=>PR.ok (C.mk 7 nm lo hi true []) l4):=
   Good'.tok h (.inl (by rw [h1];decide)) fun r hr e=>by
    have e':r=q:=e
    rw [←e']
    exact ((C9 hr).bind fun lo l2 _ h2=>((oL (by decide) h2).bind fun _ l3 _ h3=>((C9 h3).bind fun hi l4 _ h4=>nK _ h4).zero).zero).zero
  exact (pW hgd e).2
 ·intro v r e
  unfold yN at e
  rw [if_neg h1] at e
  cases e
  refine ⟨[],rfl,fun p' r' hp hr=>?_⟩
  have:p'=[]:=by simpa using hp
  subst this
  unfold yN
  rw [List.nil_append,if_neg (by simpa using hr)]
theorem Ru:∀n:Nat,(∀l,WT l→Free (gZ n) [inB] l)∧(∀l,WT l→Free (uV n) [inB,Jq] l)∧∀cs l,WT l→Free (fun l=>jK n l cs) [inB,Jq] l
 | 0=>⟨fun l _ v r e=>(by unfold gZ at e;cases e),fun l _ v r e=>(by unfold uV at e;cases e),fun cs l _ v r e=>(by simp only [jK] at e;cases e)⟩
 | n+1=>by
  obtain ⟨i1,i2,i3⟩:=Ru n
  have hl:=(iK (n+1)).1
  refine ⟨fun l h=>?_,fun l h=>?_,fun cs l h=>?_⟩
  ·by_cases h1:txt l=evW
   ·refine (Free.tok (f:=fun l=>PR.ok (C.mk 1 [] 0 0 true []) l) h h1 (by decide) fun hq=>Free.ok _ _ _).congr (by unfold gZ;rw [if_pos h1]) (fun v r e=>?_) (fun t q _ k2=>by unfold gZ;rw [if_pos (by rw [dL,k2,h1])])
    cases e
    obtain ⟨t,q,rfl,_,hq⟩:=Gw h h1 (by decide)
    simp
   by_cases h2:txt l=YL
   ·refine (Free.tok (f:=fun l=>PR.ok (C.mk 2 [] 0 0 true []) l) h h2 (by decide) fun hq=>Free.ok _ _ _).congr (by unfold gZ;rw [if_neg h1,if_pos h2]) (fun v r e=>?_) (fun t q _ k2=>by unfold gZ;rw [if_neg (by rw [dL,k2];exact h1),if_pos (by rw [dL,k2,h2])])
    cases e
    obtain ⟨t,q,rfl,_,hq⟩:=Gw h h2 (by decide)
    simp
   by_cases h3:txt l=[123]
   ·have e0:gZ (n+1) l=(ig l.tail).bind fun nm l1=>(kH [125] l1).bind fun _ l2=>.ok (.mk 4 nm 0 0 true []) l2:=by rw [gZ];rw [if_neg h1,if_neg h2,if_pos h3]
    refine (Free.tok (f:=fun l=>(ig l).bind fun nm l1=>(kH [125] l1).bind fun _ l2=>PR.ok (C.mk 4 nm 0 0 true []) l2) h h3 (by decide) fun hq=>?_).congr e0 (fun v r e=>(pW (hl l h) (e0.trans e)).2)
     (fun t q _ k2=>by rw [gZ];rw [if_neg (by rw [dL,k2];exact h1),if_neg (by rw [dL,k2];exact h2),if_pos (by rw [dL,k2,h3])])
    refine (ML hq).bind (fun nm l1 e1=>?_) (fun _ _ _ _ _ _=>⟨fun _ _ _=>by simp,fun _=>by simp⟩)
    exact (MK (by decide) (pW (bF hq) e1).1).bind (fun u l2 e2=>Free.ok _ _ _) (fun _ _ _ _ _ _=>⟨fun _ _ _=>by simp,fun _=>by simp⟩)
   by_cases h4:txt l=P9
   ·have e0:gZ (n+1) l=(ig l.tail).bind fun nm l1=>(gZ n l1).bind fun c l2=>.ok (.mk 6 nm 0 0 false [c]) l2:=by rw [gZ];rw [if_neg h1,if_neg h2,if_neg h3,if_pos h4]
    refine (Free.tok (f:=fun l=>(ig l).bind fun nm l1=>(gZ n l1).bind fun c l2=>PR.ok (C.mk 6 nm 0 0 false [c]) l2) h h4 (by decide) fun hq=>?_).congr e0 (fun v r e=>(pW (hl l h) (e0.trans e)).2)
     (fun t q _ k2=>by rw [gZ];rw [if_neg (by rw [dL,k2];exact h1),if_neg (by rw [dL,k2];exact h2),if_neg (by rw [dL,k2];exact h3),if_pos (by rw [dL,k2,h4])])
    refine (ML hq).bind (fun nm l1 e1=>?_) (fun _ _ _ _ _ _=>⟨fun _ _ _=>by simp,fun _=>by simp⟩)
    exact (i1 l1 (pW (bF hq) e1).1).bind (fun u l2 e2=>Free.ok _ _ _) (fun v r u q _ e3=>⟨fun _ r' hr'=>hr',fun hne=>by cases e3;exact absurd rfl hne⟩)
   by_cases h5:txt l=[40]
   ·have e0:gZ (n+1) l=(uV n l.tail).bind fun c l1=>(kH [41] l1).bind fun _ l2=>.ok c l2:=by rw [gZ];rw [if_neg h1,if_neg h2,if_neg h3,if_neg h4,if_pos h5]
    refine (Free.tok (f:=fun l=>(uV n l).bind fun c l1=>(kH [41] l1).bind fun _ l2=>PR.ok c l2) h h5 (by decide) fun hq=>?_).congr e0 (fun v r e=>(pW (hl l h) (e0.trans e)).2)
     (fun t q _ k2=>by rw [gZ];rw [if_neg (by rw [dL,k2];exact h1),if_neg (by rw [dL,k2];exact h2),if_neg (by rw [dL,k2];exact h3),if_neg (by rw [dL,k2];exact h4),if_pos (by rw [dL,k2,h5])])
    refine (i2 _ hq).bind (fun c l1 e1=>?_) (fun v r u q e1 e2=>?_)
    ·exact (MK (by decide) (pW ((iK n).2.1 _ hq) e1).1).bind (fun u l2 e2=>Free.ok _ _ _) (fun _ _ _ _ _ _=>⟨fun _ _ _=>by simp,fun _=>by simp⟩)
    ·obtain ⟨u',q',e3,e4⟩:=aB.1 e2
     cases e4
     have w1:=(pW ((iK n).2.1 _ hq) e1).1
     have:=(pW (oL (w:=[41]) (by decide) w1) e3).2
     refine ⟨fun h=>by rw [h] at this;omega,fun _=>?_⟩
     rw [acg e3];decide
   ·have e0:gZ (n+1) l=(ig l).bind yN:=by rw [gZ];rw [if_neg h1,if_neg h2,if_neg h3,if_neg h4,if_neg h5];rfl
    refine Free.congr (g:=fun l=>(ig l).bind yN) ?_ e0 (fun v r e=>(pW (hl l h) (e0.trans e)).2)
     (fun t q _ k2=>by rw [gZ];rw [if_neg (by rw [dL,k2];exact h1),if_neg (by rw [dL,k2];exact h2),if_neg (by rw [dL,k2];exact h3),if_neg (by rw [dL,k2];exact h4),if_neg (by rw [dL,k2];exact h5)];rfl)
    exact (ML h).bind (fun nm l1 e1=>Zb nm (pW (bF h) e1).1) (fun _ _ _ _ _ _=>⟨fun _ _ _=>by simp,fun _=>by simp⟩)
  ·have e0:uV (n+1) l=(gZ n l).bind fun c l1=>jK n l1 [c]:=by rw [uV]
   refine Free.congr (g:=fun l=>(gZ n l).bind fun c l1=>jK n l1 [c]) ?_ e0 (fun v r e=>(pW ((iK (n+1)).2.1 l h) (e0.trans e)).2) (fun t q _ k2=>by rw [uV])
   refine (i1 l h).bind (fun c l1 e1=>i3 [c] l1 (pW ((iK n).1 l h) e1).1) (fun v r u q e1 e2=>⟨fun _ r' hr' hm=>hr' (by simp at hm ⊢;exact .inl hm),fun hne=>?_⟩)
   rw [XL n r [v] e2 hne];decide
  ·by_cases h1:txt l=Jq
   ·have e0:jK (n+1) l cs=(gZ n l.tail).bind fun c l1=>jK n l1 (cs++[c]):=by rw [jK];rw [if_pos h1]
    obtain ⟨t,q,rfl,_,hq⟩:=Gw h h1 (by decide)
    refine (Free.tok (f:=fun l=>(gZ n l).bind fun c l1=>jK n l1 (cs++[c])) h h1 (by decide) fun hq=>?_).congr e0 (fun v r e=>?_) (fun t q _ k2=>by rw [jK];rw [if_pos (by rw [dL,k2,h1])])
    ·refine (i1 _ hq).bind (fun c l1 e1=>i3 _ l1 (pW ((iK n).1 _ hq) e1).1) (fun v r u q e1 e2=>⟨fun _ r' hr' hm=>hr' (by simp at hm ⊢;exact .inl hm),fun hne=>?_⟩)
     rw [XL n r _ e2 hne];decide
    ·have hg:Good' (t::q) ((gZ n q).bind fun c l1=>jK n l1 (cs++[c])):=Good'.tok h (.inl (by rw [h1];decide)) fun r hr e=>by
      have e':r=q:=e
      rw [←e']
      exact (((iK n).1 r hr).bind fun c l1 _ h1=>(iK n).2.2 l1 _ h1).zero
     exact (pW hg e).2
   ·intro v r e
    have e0:jK (n+1) l cs=.ok (Yf cs) l:=by rw [jK];rw [if_neg h1]
    rw [show (fun l=>jK (n+1) l cs) l=jK (n+1) l cs from rfl,e0] at e
    cases e
    refine ⟨[],rfl,fun p' r' hp hr=>?_⟩
    have:p'=[]:=by simpa using hp
    subst this
    show jK (n+1) ([]++r') cs=_
    rw [List.nil_append,jK,if_neg (fun hh=>hr (by rw [hh];simp))]
end Go.Ai.Z
namespace Go.Ai.Z
theorem Zk {a b:C} (h:nz a=nz b):∀l,oH a l=oH b l
 | []=>rfl
 | c::r=>by
  have e:(kS c a=0)=(kS c b=0):=by rw [GY,GY,h]
  simp only [oH,e]
theorem Og (a:C):∀l,oH a (oH a l)=oH a l
 | []=>rfl
 | b::r=>by
  have ih:=Og b r
  by_cases h:kS b a=0
  ·have e:oH a (b::r)=oH b r:=by simp only [oH,if_pos h]
   rw [e,Zk ((GY b a).1 h).symm,ih]
  ·have e:oH a (b::r)=b::oH b r:=by simp only [oH,if_neg h]
   rw [e]
   simp only [oH,if_neg h,ih]
theorem Zh (l:List C):comp (comp l)=comp l:=by
 cases l with
 | nil=>rfl
 | cons a r=>simp only [comp,Og]
theorem zK:∀{l:List C},zS l→qJ l=l
 | [],_=>rfl
 | x::r,h=>by
  obtain ⟨h1,h2⟩:=List.pairwise_cons.1 h
  rw [qJ,zK h2]
  cases r with
  | nil=>rfl
  | cons y r=>
   have:=h1 y (by simp)
   have ha:=mX.anti x y trivial trivial
   have hb:=mX.anti y x trivial trivial
   rw [XB,if_neg (by omega)]
structure Atom (p:C):Prop where
 fx:mF p=some p
 k1:p.kind≠1
 k5:p.kind≠5
structure Canon (t:C):Prop where
 fx:mF t=some t
 p:t.kind=5→∀p∈t.parts,Atom p
theorem abB {q:C} (h:Canon q):∀p∈iT q,Atom p:=by
 intro p hp
 unfold iT at hp
 split at hp
 ·cases hp
 ·rename_i h1
  split at hp
  ·rename_i h5;exact h.p h5 p hp
  ·rename_i h5
   have:p=q:=by simpa using hp
   rw [this];exact ⟨h.fx,h1,h5⟩
theorem PZ:∀{l:List C},(∀p∈l,mF p=some p)→jS l=some l
 | [],_=>by simp [jS]
 | p::r,h=>by
  have ih:=PZ (l:=r) (fun q hq=>h q (List.mem_cons_of_mem _ hq))
  simp only [jS,h p (by simp),ih]
theorem XM:∀{l:List C},(∀p∈l,Atom p)→l.flatMap iT=l
 | [],_=>rfl
 | p::r,h=>by
  have:=h p (by simp)
  rw [List.flatMap_cons,XM (fun q hq=>h q (by simp [hq]))]
  simp only [iT,this.k1,this.k5,if_false,List.cons_append,List.nil_append]
theorem YP {qs:List C} {t:C} (hq:∀q∈qs,Canon q) (h:CU qs=some t):Canon t:=by
 have hL:∀p∈qs.flatMap iT,Atom p:=by
  intro p hp
  obtain ⟨q,h1,h2⟩:=List.mem_flatMap.1 hp
  exact abB (hq q h1) p h2
 unfold CU at h
 simp only [] at h
 have hsub:=Dl (qJ (qs.flatMap iT))
 have hsort:zS (comp (qJ (qs.flatMap iT))):=(BJ _).sublist hsub
 have htwice:=Zh (qJ (qs.flatMap iT))
 have hm:∀p∈comp (qJ (qs.flatMap iT)),Atom p:=fun p hp=>hL p ((uG _).mem_iff.1 (hsub.mem hp))
 generalize comp (qJ (qs.flatMap iT))=m at *
 cases hf:m.find? (fun t=>decide (t.kind=2)) with
 | some x=>
  rw [hf] at h
  cases h
  have:=hm t (List.mem_of_find?_eq_some hf)
  exact ⟨this.fx,fun h5=>absurd h5 this.k5⟩
 | none=>
  rw [hf] at h
  rcases m with _|⟨x,_|⟨y,r⟩⟩
  ·cases h
   exact ⟨rfl,fun h5=>by cases h5⟩
  ·cases h
   have:=hm t (by simp)
   exact ⟨this.fx,fun h5=>absurd h5 this.k5⟩
  ·simp only [] at h
   split at h
   ·cases h
   ·rename_i h8
    cases h
    refine ⟨?_,fun _ p hp=>hm p hp⟩
    have e1:jS (x::y::r)=some (x::y::r):=PZ fun p hp=>(hm p hp).fx
    have e2:=XM hm
    have e3:=zK hsort
    rw [mF]
    simp only [show ¬(5:Int)=6 by decide,if_false,if_true,e1,CU,e2,e3,htwice,hf,h8]
theorem canon:∀c t:C,mF c=some t→Canon t:=by
 refine C.ind' fun c ih t h=>?_
 have ihl:∀l:List C,(∀p∈l,∀t,mF p=some t→Canon t)→∀qs,jS l=some qs→∀q∈qs,Canon q:=by
  intro l
  induction l with
  | nil=>intro _ qs h q hq;simp [jS] at h;subst h;cases hq
  | cons p r ihr=>
   intro hp qs h q hq
   simp only [jS] at h
   cases h1:mF p with
   | none=>rw [h1] at h;cases h
   | some x=>
    rw [h1] at h
    cases h2:jS r with
    | none=>rw [h2] at h;cases h
    | some xs=>
     rw [h2] at h
     cases h
     rcases List.mem_cons.1 hq with rfl|hq
     ·exact hp p (by simp) _ h1
     ·exact ihr (fun p' hp'=>hp p' (by simp [hp'])) xs h2 q hq
 have hps:=ihl c.parts ih
 clear ihl
 cases c with
 | mk k n l hh z ps=>
  simp only [C.parts] at hps
  rw [mF] at h
  split at h
  ·rename_i k6
   cases h1:jS ps with
   | none=>rw [h1] at h;cases h
   | some qs=>
    rw [h1] at h
    cases qs with
    | nil=>cases h
    | cons p r=>
     have hc:=hps _ h1 p (by simp)
     simp only [] at h
     split at h
     ·cases h;exact hc
     ·rename_i k2
      cases h
      refine ⟨?_,fun h5=>by cases h5⟩
      rw [mF]
      simp only [if_true,jS,hc.fx,k2,if_false]
  ·split at h
   ·cases h1:jS ps with
    | none=>rw [h1] at h;cases h
    | some qs=>rw [h1] at h;exact YP (hps _ h1) h
   ·rename_i k6 k5
    cases h
    have hk:(nz (.mk k n l hh z ps)).kind=k:=uj _
    refine ⟨?_,fun h5=>absurd (hk.symm.trans h5) k5⟩
    rw [←PW,Z9]
    rw [PW,mF]
    rw [if_neg k6,if_neg k5]
end Go.Ai.Z
namespace Go.Ai.Z
theorem agE (f:Nat) (as cs:List AV) (s s':St) (cx:Ctx) (a e:Int) (h:ah P0 (.fn (.func f) as cs) [] s cx=.pan (flt a e) s'):
  ah P0 (.fn (.func yc) [] []) [.fn (.func f) as cs] s cx=.ret (.tu [.ag [.i .i64 a,.i .i64 e],.b true]) s':=by
 refine Ad (A:=P0) (k:=.tryK (.tu [.ag [.i .i64 0,.i .i64 0],.b false]) ng) rfl rfl (by simp) ?_
 show l7 (ah P0) (ah P0.quiet) (.tryK (.tu [.ag [.i .i64 0,.i .i64 0],.b false]) ng) [.fn (.func f) as cs] s cx=_
 unfold l7
 dsimp only
 rw [h]
 simp [flt]
set_option linter.unusedSectionVars false
section
variable (src:List UInt8) (hl:src.length≤65536) (fp ft:AV) (f:Nat) (as cs:List AV) (hfp:fp=.fn (.func f) as cs) (g:Fn) (as2 cs2:List AV) (hft:ft=.fn g as2 cs2) (s:St) (cx:Ctx) (hlim:cx.lim≤s.length) (hbase:cx.base≤s.length)
include hl hfp hft hlim hbase
end
theorem IE {c:C} (h:jg c=0):wC c≤64:=by
 have hs:dR c≤64:=by unfold jg at h;split at h;cases h;omega
 have hw:iH c=0:=by unfold jg at h;split at h;cases h;exact h
 have key:∀c:C,iH c=0→wC c=dR c:=by
  refine C.ind' fun c ih hv=>?_
  obtain ⟨v1,v2,v3⟩:=O5 hv
  have hn:c.name.length≤24:=by
   have pl:∀{n:List UInt8},lm n=true→n.length≤24:=by
    intro n h;unfold lm at h;rw [Bool.and_eq_true] at h;simpa using h.1
   have rl:∀{n:List UInt8},Qo n=true→n.length≤24:=by
    intro n h;unfold Qo at h;simp only [Bool.and_eq_true,decide_eq_true_eq] at h;exact h.1.1.2
   unfold xM at v2
   unfold oV at v1
   rcases Yz (by unfold oV;exact v1) with k|k|k|k|⟨k,_⟩|⟨k,_⟩|⟨k,_⟩
   ·simp [k] at v1;rw [v1.1.2];simp
   ·simp [k] at v1;rw [v1.1.2];simp
   ·simp [k] at v2;exact pl v2
   ·simp [k] at v2;rcases v2 with v2|v2;exact pl v2;exact rl v2
   ·simp [k] at v2;exact pl v2
   ·simp [k] at v2;exact pl v2
   ·simp [k] at v1;rw [v1.1.1.2];simp
  rw [qm,nT]
  have hl:∀l:List C,(∀p∈l,wC p=dR p)→wL l=fC l:=by
   intro l
   induction l with
   | nil=>intro _;rfl
   | cons p r ih2=>intro h;simp only [wL,fC,h p (by simp),ih2 (fun q hq=>h q (by simp [hq]))]
  rw [hl c.parts fun p hp=>ih p hp (v3 p hp)]
  omega
 rw [key c hw];exact hs
@[simp] theorem ag9 (S:St) (n:Nat) (d:C) (a e:Int):frz S n (.tu [bD d,.i .i64 a,.i .i64 e])=some (.tu [bD d,.i .i64 a,.i .i64 e]):=by
 have hu:(AV.tu [bD d,.i .i64 a,.i .i64 e]).under n=true:=by simp
 rw [frz,if_pos hu]
theorem Jw {T:List Tok} (h:WT T):Suf T T∧idx T T=0:=⟨⟨⟨[],rfl⟩,h⟩,by unfold idx;omega⟩
end Go.Ai.Z
