/-
 The plain parser: what follows a concept matters by its first text alone.
-/
import Derived.Test.YtpnlnnfcaeednaaGreatDoorAiY6Y7Y8
import Derived.Test.YtpnlnnfcaeednaaGreatDoorAiT7T8
import Derived.Test.YtpnlnnfcaeednaaGreatDoorAiQ3Q4Q5
set_option maxRecDepth 100000
set_option linter.unusedSimpArgs false
set_option linter.unusedVariables false
set_option linter.unusedSectionVars false
namespace Go.Ai.Z
def Dk (t:Tok):Tk:=(t.1,t.2.1)
theorem wZ {t:Tok} {p p':List Tok} (h:p'.map Dk=(t::p).map Dk):∃t' q,p'=t'::q∧t'.1=t.1∧t'.2.1=t.2.1∧q.map Dk=p.map Dk:=by
 cases p' with
 | nil=>simp at h
 | cons t' q=>
  simp only [List.map_cons,List.cons.injEq] at h
  have h1:=h.1
  simp only [Dk,Prod.mk.injEq] at h1
  exact ⟨t',q,rfl,h1.1,h1.2,h.2⟩
def Free {α:Type} (f:List Tok→PR α) (ws:List (List UInt8)) (l:List Tok):Prop:=
 ∀v r,f l=.ok v r→∃p,l=p++r∧∀p' r':List Tok,p'.map Dk=p.map Dk→txt r' ∉ ws→f (p'++r')=.ok v r'
theorem Gs {l:List Tok} (h:WT l) {w:List UInt8} (hw:txt l=w) (hn:w≠[]):∃t q,l=t::q∧t.2.1=w∧WT q:=by
 obtain ⟨t,q,rfl,_,hq⟩:=h.tl (.inl (by rw [hw];exact hn))
 exact ⟨t,q,rfl,hw,hq⟩
theorem LY {l:List Tok} (h:WT l):Free iC [] l:=by
 intro v r e
 unfold iC at e
 split at e
 ·rename_i h1
  obtain ⟨t,q,rfl,_,hq⟩:=h.tl (.inr (by rw [h1.1];decide))
  split at e
  ·rename_i h2
   cases e
   refine ⟨[t],rfl,fun p' r' hp _=>?_⟩
   obtain ⟨t',q',rfl,k1,k2,k3⟩:=wZ hp
   have:q'=[]:=by simpa using k3
   subst this
   simp only [Bd,dR] at h1 h2
   simp only [List.cons_append,List.nil_append,iC,Bd,dR,k1,k2,h1,h2,and_self,if_true,List.tail_cons]
  ·cases e
 ·cases e
theorem LX {w:List UInt8} (hw:w≠[]) {l:List Tok} (h:WT l):Free (kT w) [] l:=by
 intro v r e
 unfold kT at e
 split at e
 ·rename_i h1
  obtain ⟨t,q,rfl,h2,_⟩:=Gs h h1 hw
  cases e
  refine ⟨[t],rfl,fun p' r' hp _=>?_⟩
  obtain ⟨t',q',rfl,k1,k2,k3⟩:=wZ hp
  have:q'=[]:=by simpa using k3
  subst this
  simp only [List.cons_append,List.nil_append,kT,dR,k2,h2,if_true,List.tail_cons]
 ·cases e
theorem Xg {least:Int} {l:List Tok} (h:WT l):Free (xW least) [] l:=by
 intro v r e
 unfold xW at e
 split at e
 ·rename_i h1
  obtain ⟨t,q,rfl,_,hq⟩:=h.tl (.inr (by rw [h1];decide))
  split at e
  ·rename_i n hn
   split at e
   ·cases e
   ·rename_i h2
    cases e
    refine ⟨[t],rfl,fun p' r' hp _=>?_⟩
    obtain ⟨t',q',rfl,k1,k2,k3⟩:=wZ hp
    have:q'=[]:=by simpa using k3
    subst this
    simp only [Bd,dR] at h1 hn
    simp only [List.cons_append,List.nil_append,xW,Bd,dR,k1,k2,h1,hn,if_true,List.tail_cons]
    rw [if_neg h2]
  ·cases e
 ·cases e
theorem Free.bind {α β:Type} {f:List Tok→PR α} {g:α→List Tok→PR β} {ws vs:List (List UInt8)} {l:List Tok} (hf:Free f vs l) (hg:∀v r,f l=.ok v r→Free (g v) ws r)
  (hv:∀v r u q,f l=.ok v r→g v r=.ok u q→(r=q→∀r':List Tok,txt r' ∉ ws→txt r' ∉ vs)∧(r≠q→txt r ∉ vs)):Free (fun l=>(f l).bind g) ws l:=by
 intro u q e
 obtain ⟨v,r,e1,e2⟩:=aC.1 e
 obtain ⟨p1,h1,k1⟩:=hf v r e1
 obtain ⟨p2,h2,k2⟩:=hg v r e1 u q e2
 obtain ⟨hv1,hv2⟩:=hv v r u q e1 e2
 refine ⟨p1++p2,by rw [h1,h2];simp,fun p' r' hp hr=>?_⟩
 rw [List.map_append] at hp
 obtain ⟨a,b,rfl,ha,hb⟩:=List.map_eq_append_iff.1 hp
 have hmid:txt (b++r') ∉ vs:=by
  cases p2 with
  | nil=>
   have:b=[]:=by simpa using hb
   subst this
   exact hv1 h2 r' hr
  | cons t p2=>
   obtain ⟨t',q',rfl,_,k4,_⟩:=wZ hb
   have:=hv2 (by rw [h2];intro hh;have:=congrArg List.length hh;simp at this;omega)
   rw [h2] at this
   simpa [k4] using this
 show (f (a++b++r')).bind g=_
 rw [List.append_assoc,k1 a (b++r') ha hmid]
 exact k2 b r' hb hr
theorem Free.ok {α:Type} (v:α) (ws:List (List UInt8)) (l:List Tok):Free (fun l=>PR.ok v l) ws l:=by
 intro u r e
 cases e
 refine ⟨[],rfl,fun p' r' hp _=>?_⟩
 have:p'=[]:=by simpa using hp
 subst this;rfl
theorem Free.tok {α:Type} {f:List Tok→PR α} {ws:List (List UInt8)} {l:List Tok} {w:List UInt8} (h:WT l) (hw:txt l=w) (hn:w≠[]) (hf:WT l.tail→Free f ws l.tail):Free (fun l=>f l.tail) ws l:=by
 obtain ⟨t,q,rfl,h2,hq⟩:=Gs h hw hn
 intro v r e
 obtain ⟨p,h3,h4⟩:=hf hq v r e
 refine ⟨t::p,by rw [List.tail_cons] at h3;rw [h3];rfl,fun p' r' hp hr=>?_⟩
 obtain ⟨t',q',rfl,k1,k2,k3⟩:=wZ hp
 exact h4 q' r' k3 hr
theorem Free.congr {α:Type} {f g:List Tok→PR α} {ws:List (List UInt8)} {l:List Tok} (hg:Free g ws l) (h1:f l=g l) (hlen:∀v r,g l=.ok v r→r.length<l.length) (h2:∀t q,t.1=(hT l).1→t.2.1=txt l→f (t::q)=g (t::q)):Free f ws l:=by
 intro v r e
 rw [h1] at e
 obtain ⟨p,h3,h4⟩:=hg v r e
 refine ⟨p,h3,fun p' r' hp hr=>?_⟩
 have hl:=hlen v r e
 cases p with
 | nil=>rw [List.nil_append] at h3;rw [h3] at hl;omega
 | cons t p=>
  obtain ⟨t',q',rfl,k1,k2,k3⟩:=wZ hp
  have:f (t'::q'++r')=g (t'::q'++r'):=h2 t' (q'++r') (by rw [k1,h3];rfl) (by rw [k2,h3];rfl)
  rw [this];exact h4 _ r' hp hr
theorem pK {α:Type} {l r:List Tok} {x:PR α} {v:α} (hg:Good' l x) (e:x=.ok v r):WT r∧r.length<l.length:=by
 rw [e] at hg
 obtain ⟨h1,p,h2,h3⟩:=hg
 refine ⟨h1, ?_⟩
 rw [h3]
 cases p with
 | nil=>exact absurd rfl h2
 | cons a p=>simp;omega
theorem abd {w:List UInt8} {l r:List Tok} {u:Unit} (h:kT w l=.ok u r):txt l=w:=by
 unfold kT at h
 split at h
 ·rename_i h1;exact h1
 ·cases h
theorem Xh (n:Nat) (l:List Tok) (cs:List C) {c:C} {r:List Tok} (h:jI n l cs=.ok c r) (hne:l≠r):txt l=Jl:=by
 cases n with
 | zero=>unfold jI at h;cases h
 | succ n=>
  unfold jI at h
  split at h
  ·rename_i h1;exact h1
  ·cases h;exact absurd rfl hne
def yE (nm:List UInt8) (l1:List Tok):PR C:=
 if txt l1=inB then (xW (-1099511627776) l1.tail).bind fun lo l2=>(kT toW l2).bind fun _ l3=>(xW lo l3).bind fun hi l4=>.ok (.mk 7 nm lo hi true []) l4
 else .ok (.mk 3 nm 0 0 true []) l1
theorem Yx (nm:List UInt8) {l:List Tok} (h:WT l):Free (yE nm) [inB] l:=by
 by_cases h1:txt l=inB
 ·have hg:Free (fun l:List Tok=>(xW (-1099511627776) l.tail).bind fun lo l2=>(kT toW l2).bind fun _ l3=>(xW lo l3).bind fun hi l4=>PR.ok (C.mk 7 nm lo hi true []) l4) [inB] l:=by
   refine Free.tok (f:=fun l=>(xW (-1099511627776) l).bind fun lo l2=>(kT toW l2).bind fun _ l3=>(xW lo l3).bind fun hi l4=>PR.ok (C.mk 7 nm lo hi true []) l4) h h1 (by decide) fun hq=>?_
   refine (Xg hq).bind (fun lo l2 e2=>?_) (fun _ _ _ _ _ _=>⟨fun _ _ _=>by simp,fun _=>by simp⟩)
   have w2:=(pK (CJ hq) e2).1
   refine (LX (by decide) w2).bind (fun u l3 e3=>?_) (fun _ _ _ _ _ _=>⟨fun _ _ _=>by simp,fun _=>by simp⟩)
   have w3:=(pK (oD (by decide) w2) e3).1
   exact (Xg w3).bind (fun hi l4 e4=>Free.ok _ _ _) (fun _ _ _ _ _ _=>⟨fun _ _ _=>by simp,fun _=>by simp⟩)
  refine hg.congr (by unfold yE;rw [if_pos h1]) (fun v r e=>?_) (fun t q _ k2=>by unfold yE;rw [if_pos (by rw [dR,k2,h1])])
  obtain ⟨t,q,rfl,_,hq⟩:=Gs h h1 (by decide)
  have hgd:Good' (t::q) ((xW (-1099511627776) q).bind fun lo l2=>(kT toW l2).bind fun _ l3=>(xW lo l3).bind fun hi l4=>PR.ok (C.mk 7 nm lo hi true []) l4):=
   Good'.tok h (.inl (by rw [h1];decide)) fun r hr e=>by
    have e':r=q:=e
    rw [←e']
    exact ((CJ hr).bind fun lo l2 _ h2=>((oD (by decide) h2).bind fun _ l3 _ h3=>((CJ h3).bind fun hi l4 _ h4=>nG _ h4).zero).zero).zero
  exact (pK hgd e).2
 ·intro v r e
  unfold yE at e
  rw [if_neg h1] at e
  cases e
  refine ⟨[],rfl,fun p' r' hp hr=>?_⟩
  have:p'=[]:=by simpa using hp
  subst this
  unfold yE
  rw [List.nil_append,if_neg (by simpa using hr)]
theorem QN:∀n:Nat,(∀l,WT l→Free (iw n) [inB] l)∧(∀l,WT l→Free (uN n) [inB,Jl] l)∧∀cs l,WT l→Free (fun l=>jI n l cs) [inB,Jl] l
 | 0=>⟨fun l _ v r e=>(by unfold iw at e;cases e),fun l _ v r e=>(by unfold uN at e;cases e),fun cs l _ v r e=>(by simp only [jI] at e;cases e)⟩
 | n+1=>by
  obtain ⟨i1,i2,i3⟩:=QN n
  have hl:=(iM (n+1)).1
  refine ⟨fun l h=>?_,fun l h=>?_,fun cs l h=>?_⟩
  ·by_cases h1:txt l=evW
   ·refine (Free.tok (f:=fun l=>PR.ok (C.mk 1 [] 0 0 true []) l) h h1 (by decide) fun hq=>Free.ok _ _ _).congr (by unfold iw;rw [if_pos h1]) (fun v r e=>?_) (fun t q _ k2=>by unfold iw;rw [if_pos (by rw [dR,k2,h1])])
    cases e
    obtain ⟨t,q,rfl,_,hq⟩:=Gs h h1 (by decide)
    simp
   by_cases h2:txt l=Yb
   ·refine (Free.tok (f:=fun l=>PR.ok (C.mk 2 [] 0 0 true []) l) h h2 (by decide) fun hq=>Free.ok _ _ _).congr (by unfold iw;rw [if_neg h1,if_pos h2]) (fun v r e=>?_) (fun t q _ k2=>by unfold iw;rw [if_neg (by rw [dR,k2];exact h1),if_pos (by rw [dR,k2,h2])])
    cases e
    obtain ⟨t,q,rfl,_,hq⟩:=Gs h h2 (by decide)
    simp
   by_cases h3:txt l=[123]
   ·have e0:iw (n+1) l=(iC l.tail).bind fun nm l1=>(kT [125] l1).bind fun _ l2=>.ok (.mk 4 nm 0 0 true []) l2:=by rw [iw];rw [if_neg h1,if_neg h2,if_pos h3]
    refine (Free.tok (f:=fun l=>(iC l).bind fun nm l1=>(kT [125] l1).bind fun _ l2=>PR.ok (C.mk 4 nm 0 0 true []) l2) h h3 (by decide) fun hq=>?_).congr e0 (fun v r e=>(pK (hl l h) (e0.trans e)).2)
     (fun t q _ k2=>by rw [iw];rw [if_neg (by rw [dR,k2];exact h1),if_neg (by rw [dR,k2];exact h2),if_pos (by rw [dR,k2,h3])])
    refine (LY hq).bind (fun nm l1 e1=>?_) (fun _ _ _ _ _ _=>⟨fun _ _ _=>by simp,fun _=>by simp⟩)
    exact (LX (by decide) (pK (bF hq) e1).1).bind (fun u l2 e2=>Free.ok _ _ _) (fun _ _ _ _ _ _=>⟨fun _ _ _=>by simp,fun _=>by simp⟩)
   by_cases h4:txt l=Po
   ·have e0:iw (n+1) l=(iC l.tail).bind fun nm l1=>(iw n l1).bind fun c l2=>.ok (.mk 6 nm 0 0 false [c]) l2:=by rw [iw];rw [if_neg h1,if_neg h2,if_neg h3,if_pos h4]
    refine (Free.tok (f:=fun l=>(iC l).bind fun nm l1=>(iw n l1).bind fun c l2=>PR.ok (C.mk 6 nm 0 0 false [c]) l2) h h4 (by decide) fun hq=>?_).congr e0 (fun v r e=>(pK (hl l h) (e0.trans e)).2)
     (fun t q _ k2=>by rw [iw];rw [if_neg (by rw [dR,k2];exact h1),if_neg (by rw [dR,k2];exact h2),if_neg (by rw [dR,k2];exact h3),if_pos (by rw [dR,k2,h4])])
    refine (LY hq).bind (fun nm l1 e1=>?_) (fun _ _ _ _ _ _=>⟨fun _ _ _=>by simp,fun _=>by simp⟩)
    exact (i1 l1 (pK (bF hq) e1).1).bind (fun u l2 e2=>Free.ok _ _ _) (fun v r u q _ e3=>⟨fun _ r' hr'=>hr',fun hne=>by cases e3;exact absurd rfl hne⟩)
   by_cases h5:txt l=[40]
   ·have e0:iw (n+1) l=(uN n l.tail).bind fun c l1=>(kT [41] l1).bind fun _ l2=>.ok c l2:=by rw [iw];rw [if_neg h1,if_neg h2,if_neg h3,if_neg h4,if_pos h5]
    refine (Free.tok (f:=fun l=>(uN n l).bind fun c l1=>(kT [41] l1).bind fun _ l2=>PR.ok c l2) h h5 (by decide) fun hq=>?_).congr e0 (fun v r e=>(pK (hl l h) (e0.trans e)).2)
     (fun t q _ k2=>by rw [iw];rw [if_neg (by rw [dR,k2];exact h1),if_neg (by rw [dR,k2];exact h2),if_neg (by rw [dR,k2];exact h3),if_neg (by rw [dR,k2];exact h4),if_pos (by rw [dR,k2,h5])])
    refine (i2 _ hq).bind (fun c l1 e1=>?_) (fun v r u q e1 e2=>?_)
    ·exact (LX (by decide) (pK ((iM n).2.1 _ hq) e1).1).bind (fun u l2 e2=>Free.ok _ _ _) (fun _ _ _ _ _ _=>⟨fun _ _ _=>by simp,fun _=>by simp⟩)
    ·obtain ⟨u',q',e3,e4⟩:=aC.1 e2
     cases e4
     have w1:=(pK ((iM n).2.1 _ hq) e1).1
     have:=(pK (oD (w:=[41]) (by decide) w1) e3).2
     refine ⟨fun h=>by rw [h] at this;omega,fun _=>?_⟩
     rw [abd e3];decide
   ·have e0:iw (n+1) l=(iC l).bind yE:=by rw [iw];rw [if_neg h1,if_neg h2,if_neg h3,if_neg h4,if_neg h5];rfl
    refine Free.congr (g:=fun l=>(iC l).bind yE) ?_ e0 (fun v r e=>(pK (hl l h) (e0.trans e)).2)
     (fun t q _ k2=>by rw [iw];rw [if_neg (by rw [dR,k2];exact h1),if_neg (by rw [dR,k2];exact h2),if_neg (by rw [dR,k2];exact h3),if_neg (by rw [dR,k2];exact h4),if_neg (by rw [dR,k2];exact h5)];rfl)
    exact (LY h).bind (fun nm l1 e1=>Yx nm (pK (bF h) e1).1) (fun _ _ _ _ _ _=>⟨fun _ _ _=>by simp,fun _=>by simp⟩)
  ·have e0:uN (n+1) l=(iw n l).bind fun c l1=>jI n l1 [c]:=by rw [uN]
   refine Free.congr (g:=fun l=>(iw n l).bind fun c l1=>jI n l1 [c]) ?_ e0 (fun v r e=>(pK ((iM (n+1)).2.1 l h) (e0.trans e)).2) (fun t q _ k2=>by rw [uN])
   refine (i1 l h).bind (fun c l1 e1=>i3 [c] l1 (pK ((iM n).1 l h) e1).1) (fun v r u q e1 e2=>⟨fun _ r' hr' hm=>hr' (by simp at hm ⊢;exact .inl hm),fun hne=>?_⟩)
   rw [Xh n r [v] e2 hne];decide
  ·by_cases h1:txt l=Jl
   ·have e0:jI (n+1) l cs=(iw n l.tail).bind fun c l1=>jI n l1 (cs++[c]):=by rw [jI];rw [if_pos h1]
    obtain ⟨t,q,rfl,_,hq⟩:=Gs h h1 (by decide)
    refine (Free.tok (f:=fun l=>(iw n l).bind fun c l1=>jI n l1 (cs++[c])) h h1 (by decide) fun hq=>?_).congr e0 (fun v r e=>?_) (fun t q _ k2=>by rw [jI];rw [if_pos (by rw [dR,k2,h1])])
    ·refine (i1 _ hq).bind (fun c l1 e1=>i3 _ l1 (pK ((iM n).1 _ hq) e1).1) (fun v r u q e1 e2=>⟨fun _ r' hr' hm=>hr' (by simp at hm ⊢;exact .inl hm),fun hne=>?_⟩)
     rw [Xh n r _ e2 hne];decide
    ·have hg:Good' (t::q) ((iw n q).bind fun c l1=>jI n l1 (cs++[c])):=Good'.tok h (.inl (by rw [h1];decide)) fun r hr e=>by
      have e':r=q:=e
      rw [←e']
      exact (((iM n).1 r hr).bind fun c l1 _ h1=>(iM n).2.2 l1 _ h1).zero
     exact (pK hg e).2
   ·intro v r e
    have e0:jI (n+1) l cs=.ok (XD cs) l:=by rw [jI];rw [if_neg h1]
    rw [show (fun l=>jI (n+1) l cs) l=jI (n+1) l cs from rfl,e0] at e
    cases e
    refine ⟨[],rfl,fun p' r' hp hr=>?_⟩
    have:p'=[]:=by simpa using hp
    subst this
    show jI (n+1) ([]++r') cs=_
    rw [List.nil_append,jI,if_neg (fun hh=>hr (by rw [hh];simp))]
end Go.Ai.Z
namespace Go.Ai.Z
theorem DN:∀{l:List C},BB l→y7 l=l
 | [],_=>rfl
 | x::r,h=>by
  obtain ⟨h1,h2⟩:=List.pairwise_cons.1 h
  rw [y7,DN h2]
  cases r with
  | nil=>rfl
  | cons y r=>
   have:=h1 y (by simp)
   have ha:=nS.anti x y trivial trivial
   have hb:=nS.anti y x trivial trivial
   rw [WZ,if_neg (by omega)]
structure Atom (p:C):Prop where
 fx:zi p=some p
 k1:p.kind≠1
 k5:p.kind≠5
structure Canon (t:C):Prop where
 fx:zi t=some t
 p:t.kind=5→∀p∈t.parts,Atom p
end Go.Ai.Z
namespace Go.Ai.Z
theorem acN (f:Nat) (as cs:List AV) (s s':St) (cx:Ctx) (a e:Int) (h:ah P0 (.fn (.func f) as cs) [] s cx=.pan (flt a e) s'):
  ah P0 (.fn (.func xQ) [] []) [.fn (.func f) as cs] s cx=.ret (.tu [.ag [.i .i64 a,.i .i64 e],.b true]) s':=by
 refine zV (A:=P0) (k:=.tryK (.tu [.ag [.i .i64 0,.i .i64 0],.b false]) mV) rfl rfl (by simp) ?_
 show lX (ah P0) (ah P0.quiet) (.tryK (.tu [.ag [.i .i64 0,.i .i64 0],.b false]) mV) [.fn (.func f) as cs] s cx=_
 unfold lX
 dsimp only
 rw [h]
 simp [flt]
theorem agm {T:List Tok} {m:AV} {S:Nat→St} {l N:Nat} (hE:AP T m S l N) {r:List Tok} (h:Suf T r) (cx:Ctx):ah P0 (.fn (.func nU) [] []) [.pt l 0] (S (idx T r)) cx=
  if (hT r).1=4 then .ret (.tu []) (S (idx T r)) else .pan (flt (hT r).2.2 30) (S (idx T r)):=by
 have h1:=Dc hE h
 have h2:=Iz hE h 30
 by_cases hk:(Z.hT r).1=4
 ·rw [if_pos hk]
  refine yR (by simp) ?_
  simp [af,mQ,hE.n,h1,dL,hk]
 ·rw [if_neg hk]
  refine yR (by simp) ?_
  simp [af,mQ,hE.n,h1,h2,dL,hk]
set_option linter.unusedSectionVars false
section
variable (src:List UInt8) (hl:src.length≤65536) (fp ft:AV) (f:Nat) (as cs:List AV) (hfp:fp=.fn (.func f) as cs) (g:Fn) (as2 cs2:List AV) (hft:ft=.fn g as2 cs2) (s:St) (cx:Ctx) (hlim:cx.lim≤s.length) (hbase:cx.base≤s.length)
include hl hfp hft hlim hbase
theorem ZE (p:Pb) (q:List Pb) (hb:(lexB src).2=p::q):ah P0 (.fn (.func mX) [] []) [.sl (aA src),fp,ft] s cx=.ret (.tu [.i .i64 p.1,.i .i64 p.2]) (s++[.cells [fp]]):=by
 have hcx:(⟨cx.lim,cx.base⟩:Ctx)=cx:=rfl
 have e1:=ER src hl (s++[.cells [fp]]) cx (by simp;omega)
 rw [hb] at e1
 have hpos:(0:Int)<(q.length:Int)+1:=by omega
 refine y8 (by simp) ?_
 subst hft hfp
 simp [af,nJ,e1,hcx,gI,hpos]
theorem VQ (hb:(lexB src).2=[]) (a e:Int) (H1:St)
  (hp:ah P0 (.fn (.func kQ) [] [.pt s.length 0,.pt (s.length+2) 0]) [] (s++[.cells [fp],psO (lexB src).1 0 (wB (s.length+1)),.cells [.pt (s.length+1) 0]]) cx=.pan (flt a e) H1):
  ah P0 (.fn (.func mX) [] []) [.sl (aA src),fp,ft] s cx=.ret (.tu [.i .i64 a,.i .i64 e]) H1:=by
 have hcx:(⟨cx.lim,cx.base⟩:Ctx)=cx:=rfl
 have e1:=ER src hl (s++[.cells [fp]]) cx (by simp;omega)
 rw [hb] at e1
 have e2:=Bv (lexB src).1 (s++[.cells [fp]]) cx (by simp;omega) (by simp;omega)
 have hlen:(s++[dS.cells [fp]]).length=s.length+1:=by simp
 rw [hlen] at e2
 rw [List.append_assoc] at e2
 have e3:=acN _ _ _ _ _ cx _ _ hp
 refine y8 (by simp) ?_
 subst hft hfp
 generalize wB (s.length+1)=M at *
 have b1:cx.lim≤s.length+2:=by omega
 have b2:cx.base≤s.length+2:=by omega
 simp [af,nJ,e1,e2,e3,hcx,b1,b2,splice]
theorem abb (hb:(lexB src).2=[]) (r:AV) (H1 H2:St) (e:Int) (t0:Tok) (ht0:(lexB src).1.head?=some t0)
  (hp:ah P0 (.fn (.func kQ) [] [.pt s.length 0,.pt (s.length+2) 0]) [] (s++[.cells [fp],psO (lexB src).1 0 (wB (s.length+1)),.cells [.pt (s.length+1) 0]]) cx=.ret r H1)
  (ht:ah P0 ft [] H1 cx=.ret (.i .i64 e) H2):
  ah P0 (.fn (.func mX) [] []) [.sl (aA src),fp,ft] s cx=.ret (.tu [.i .i64 (if e=0 then 0 else (t0.2.2:Int)),.i .i64 e]) H2:=by
 have hcx:(⟨cx.lim,cx.base⟩:Ctx)=cx:=rfl
 have e1:=ER src hl (s++[.cells [fp]]) cx (by simp;omega)
 rw [hb] at e1
 have e2:=Bv (lexB src).1 (s++[.cells [fp]]) cx (by simp;omega) (by simp;omega)
 have hlen:(s++[dS.cells [fp]]).length=s.length+1:=by simp
 rw [hlen] at e2
 rw [List.append_assoc] at e2
 have e3:=aeo _ _ _ _ rfl _ _ cx _ hp
 have h0:(lexB src).1[0]?=some t0:=by rw [←List.head?_eq_getElem?];exact ht0
 have h0m:((lexB src).1.map dL)[0]?=some (dL t0):=by rw [List.getElem?_map,h0];rfl
 have h0h:((lexB src).1.map dL).head?=some (dL t0):=by rw [List.head?_map,ht0];rfl
 refine y8 (by simp) ?_
 subst hft hfp
 generalize wB (s.length+1)=M at *
 have b1:cx.lim≤s.length+2:=by omega
 have b2:cx.base≤s.length+2:=by omega
 by_cases he:e=0
 ·simp [af,nJ,e1,e2,e3,ht,he,hcx,b1,b2,splice]
 ·simp [af,nJ,e1,e2,e3,ht,he,hcx,b1,b2,splice,h0,ht0,dL]
end
theorem O7 {c:C} (h:uD c=0):wC c≤64:=by
 have hs:dX c≤64:=by unfold uD at h;split at h;cases h;omega
 have hw:qG c=0:=by unfold uD at h;split at h;cases h;exact h
 have key:∀c:C,qG c=0→wC c=dX c:=by
  refine C.ind' fun c ih hv=>?_
  obtain ⟨v1,v2,v3⟩:=YU hv
  have hn:c.name.length≤24:=by
   have pl:∀{n:List UInt8},lq n=true→n.length≤24:=by
    intro n h;unfold lq at h;rw [Bool.and_eq_true] at h;simpa using h.1
   have rl:∀{n:List UInt8},PV n=true→n.length≤24:=by
    intro n h;unfold PV at h;simp only [Bool.and_eq_true,decide_eq_true_eq] at h;exact h.1.1.2
   unfold Fz at v2
   unfold tZ at v1
   rcases XV (by unfold tZ;exact v1) with k|k|k|k|⟨k,_⟩|⟨k,_⟩|⟨k,_⟩
   ·simp [k] at v1;rw [v1.1.2];simp
   ·simp [k] at v1;rw [v1.1.2];simp
   ·simp [k] at v2;exact pl v2
   ·simp [k] at v2;rcases v2 with v2|v2;exact pl v2;exact rl v2
   ·simp [k] at v2;exact pl v2
   ·simp [k] at v2;exact pl v2
   ·simp [k] at v1;rw [v1.1.1.2];simp
  rw [sD,xA]
  have hl:∀l:List C,(∀p∈l,wC p=dX p)→wL l=jH l:=by
   intro l
   induction l with
   | nil=>intro _;rfl
   | cons p r ih2=>intro h;simp only [wL,jH,h p (by simp),ih2 (fun q hq=>h q (by simp [hq]))]
  rw [hl c.parts fun p hp=>ih p hp (v3 p hp)]
  omega
 rw [key c hw];exact hs
@[simp] theorem af2 (S:St) (n:Nat) (d:C) (a e:Int):frz S n (.tu [bG d,.i .i64 a,.i .i64 e])=some (.tu [bG d,.i .i64 a,.i .i64 e]):=by
 have hu:(AV.tu [bG d,.i .i64 a,.i .i64 e]).under n=true:=by simp
 rw [frz,if_pos hu]
theorem Jr {T:List Tok} (h:WT T):Suf T T∧idx T T=0:=⟨⟨⟨[],rfl⟩,h⟩,by unfold idx;omega⟩
theorem adb {T:List Tok} (h:WT T):T.head?=some (hT T):=by
 have:=h.ne
 cases T with
 | nil=>exact absurd rfl this
 | cons a r=>rfl
end Go.Ai.Z
