/-
 Documents, segment by segment.
-/
import Derived.Test.YtpnlnnfcaeednaaGreatDoorAiX5X6X7X8X9
import Derived.Test.YtpnlnnfcaeednaaGreatDoorAiY9Y10Y11
import Derived.Test.YtpnlnnfcaeednaaGreatDoorAiU1U2U3U4
import Derived.Test.YtpnlnnfcaeednaaGreatDoorAiK10K11K12K13K14KJKLKM
import Derived.Test.YtpnlnnfcaeednaaGreatDoorAiY12X3X4
set_option maxRecDepth 100000
set_option linter.unusedSimpArgs false
set_option linter.unusedVariables false
set_option linter.unusedSectionVars false
namespace Go.Ai.Z
def Seg (p:List Tok):Prop:=∀t∈p,Oy t∧iT t=false
theorem acu {t t':Tok} (h:l7 t'=l7 t):iT t'=iT t:=by
 simp only [l7,Prod.mk.injEq] at h
 unfold iT
 rw [h.1,h.2]
theorem Jp {q:List Tok} {d:Tok} (hd:iT d=true):∀{p:List Tok},(∀t∈p,iT t=false)→upto (p++d::q)=p.map l7
 | [],_=>by rw [List.nil_append,upto,if_pos hd];rfl
 | t::p,hp=>by
  rw [List.cons_append,upto,if_neg (by rw [hp t (by simp)];decide),Jp hd fun u hu=>hp u (by simp [hu])]
  rfl
theorem Lm {r:List Tok} (hr:WT r):∀{p:List Tok},(∀t∈p,Oy t)→WT (p++r)
 | [],_=>hr
 | t::p,h=>.cons t _ (h t (by simp)) (Lm hr fun u hu=>h u (by simp [hu]))
theorem PV:∀{p:List Tok} {d:Tok} {q:List Tok},WT (p++d::q)→(∀t∈p,iT t=false)→(∀t∈p,Oy t)∧WT (d::q)
 | [],d,q,h,_=>⟨fun t ht=>by simp at ht,h⟩
 | t::p,d,q,h,hp=>by
  have ht:=hp t (by simp)
  generalize hl:t::p++d::q=l at h
  cases h with
  | fin a=>
   simp at hl
  | cons u r h1 h2=>
   rw [List.cons_append] at hl
   obtain ⟨rfl,rfl⟩:=List.cons.inj hl
   obtain ⟨k1,k2⟩:=PV h2 fun u hu=>hp u (by simp [hu])
   exact ⟨fun u hu=>by rcases List.mem_cons.1 hu with rfl|hu;exact h1;exact k1 u hu,k2⟩
theorem Vt {p p':List Tok} (h:p'.map l7=p.map l7) {t:Tok} (ht:t∈p'):∃u∈p,l7 t=l7 u:=by
 have:l7 t∈p'.map l7:=List.mem_map.2 ⟨t,ht,rfl⟩
 rw [h] at this
 obtain ⟨u,hu,he⟩:=List.mem_map.1 this
 exact ⟨u,hu,he.symm⟩
theorem Fe {p p':List Tok} (hp:∀t∈p,iT t=false) (h:p'.map l7=p.map l7):∀t∈p',iT t=false:=fun t ht=>by
 obtain ⟨u,hu,he⟩:=Vt h ht
 rw [acu he];exact hp u hu
inductive ZF (α:Type) where
 | ok (v:α) (k:Nat)
 | er (c:Int) (k:Nat)
def ZF.k {α:Type}:ZF α→Nat
 | .ok _ k=>k
 | .er _ k=>k
def ZF.at {α:Type} (x:ZF α) (p:List Tok) (r:List Tok):PR α:=match x with
 | .ok v k=>.ok v (p.drop k++r)
 | .er c k=>.er (hT (p.drop k++r)).2.2 c (p.drop k++r)
theorem XW {l s r:List Tok} (h:l=s++r):r=l.drop s.length:=by rw [h,List.drop_left]
theorem zS.cut {α:Type} {f:List Tok→PR α} (hf:zS f) (hg:∀l,WT l→AY l (f l)) {p:List Tok} (hp:Seg p):
  ∃x:ZF α,x.k≤p.length∧∀p' d q,p'.map l7=p.map l7→iT d=true→WT (p'++d::q)→f (p'++d::q)=x.at p' (d::q):=by
 have w0:WT (p++[(4,[],0)]):=Lm (.fin 0) fun t ht=>(hp t ht).1
 have u0:upto (p++[(4,[],0)])=p.map l7:=Jp (d:=(4,[],0)) rfl fun t ht=>(hp t ht).2
 cases hx:f (p++[(4,[],0)]) with
 | ok v r=>
  obtain ⟨s,hs⟩:=UB (hg _ w0) hx
  have hl:=congrArg List.length hs
  simp only [List.length_append,List.length_cons,List.length_nil] at hl
  have hrw:WT r:=by have:=hg _ w0;rw [hx] at this;exact this.1
  have:=Ll hrw
  refine ⟨.ok v s.length,by show s.length≤p.length;omega,fun p' d q h1 h2 h3=>?_⟩
  have hpl:p'.length=p.length:=by have:=congrArg List.length h1;simpa using this
  have h4:=hf _ _ w0 h3 (by rw [u0,Jp h2 (Fe (fun t ht=>(hp t ht).2) h1),h1])
  cases hy:f (p'++d::q) with
  | er a c r'=>rw [hx,hy] at h4;exact absurd h4 (by simp [Et])
  | ok v' r'=>
   rw [hx,hy] at h4
   obtain ⟨rfl,_,_,_,h5⟩:=h4
   obtain ⟨s',hs'⟩:=UB (hg _ h3) hy
   have hl':=congrArg List.length hs'
   simp only [List.length_append,List.length_cons,List.length_nil] at hl' h5
   have he:s'.length=s.length:=by omega
   show PR.ok v r'=PR.ok v (p'.drop s.length++d::q)
   rw [XW hs',he,List.drop_append_of_le_length (by omega)]
 | er a c r=>
  obtain ⟨s,hs⟩:=Jb (hg _ w0) hx
  have hl:=congrArg List.length hs
  simp only [List.length_append,List.length_cons,List.length_nil] at hl
  have hrw:WT r:=by have:=hg _ w0;rw [hx] at this;exact this.1
  have:=Ll hrw
  refine ⟨.er c s.length,by show s.length≤p.length;omega,fun p' d q h1 h2 h3=>?_⟩
  have hpl:p'.length=p.length:=by have:=congrArg List.length h1;simpa using this
  have h4:=hf _ _ w0 h3 (by rw [u0,Jp h2 (Fe (fun t ht=>(hp t ht).2) h1),h1])
  cases hy:f (p'++d::q) with
  | ok v r'=>rw [hx,hy] at h4;exact absurd h4 (by simp [Et])
  | er a' c' r'=>
   rw [hx,hy] at h4
   obtain ⟨rfl,_,_,_,h5,_,h6⟩:=h4
   obtain ⟨s',hs'⟩:=Jb (hg _ h3) hy
   have hl':=congrArg List.length hs'
   simp only [List.length_append,List.length_cons,List.length_nil] at hl' h5
   have he:s'.length=s.length:=by omega
   show PR.er a' c r'=PR.er _ c (p'.drop s.length++d::q)
   rw [h6,XW hs',he,List.drop_append_of_le_length (by omega)]
theorem WU:∀{p:List Tok} {d:Tok} {q:List Tok},(∀t∈p,t.1≠4∧t.2.1≠[46])→iT d=true→lT (p++d::q)=if d.1=4 then d::q else q
 | [],d,q,_,hd=>by
  rw [List.nil_append,lT]
  split
  ·rfl
  ·rename_i h4
   have hs:d.1=4∨(d.1=3∧d.2.1=[46]):=by simpa [iT] using hd
   rw [if_pos (by rcases hs with h|h;exact absurd h h4;exact h.2)]
 | t::p,d,q,hp,hd=>by
  obtain ⟨h1,h2⟩:=hp t (by simp)
  rw [List.cons_append,lT,if_neg h1,if_neg h2]
  exact WU (fun u hu=>hp u (by simp [hu])) hd
structure ajc where
 x:Ax
 e:Int
 b:Bool
 k:Nat
theorem Rj {p:List Tok} (hp:Seg p) (dot:Bool) (hne:dot=false→p≠[]):∃v:ajc,v.k≤p.length∧∀p' d q,p'.map l7=p.map l7→(∀t∈p',t.2.1=[46]→t.1=3)→(if dot=true then d.1=3∧d.2.1=[46] else d.1=4∧d.2.1=[])→WT (p'++d::q)→
  nN (p'++d::q)=((v.x,((hT (p'.drop v.k++d::q)).2.2:Int),v.e,v.b),if dot=true then q else d::q):=by
 obtain ⟨x,hk,hx⟩:=Qu.cut (fun l h=>(D5 h).zero) hp
 have hds:∀{d:Tok},(if dot=true then d.1=3∧d.2.1=[46] else d.1=4∧d.2.1=[])→iT d=true∧(if d.1=4 then true else false)=!dot:=by
  intro d h
  cases dot with
  | true=>simp only [if_true] at h;exact ⟨by simp [iT,h.1,h.2],by simp [h.1]⟩
  | false=>simp only [Bool.false_eq_true,if_false] at h;exact ⟨by simp [iT,h.1],by simp [h.1]⟩
 have hnd:∀{p':List Tok},p'.map l7=p.map l7→(∀t∈p',t.2.1=[46]→t.1=3)→∀t∈p',t.1≠4∧t.2.1≠[46]:=by
  intro p' h1 h2 t ht
  have:=Fe (fun t ht=>(hp t ht).2) h1 t ht
  have hs:¬(t.1=4∨(t.1=3∧t.2.1=[46])):=fun h=>by
   have:iT t=true:=by simpa [iT] using h
   simp_all
  exact ⟨fun h=>hs (.inl h),fun h=>hs (.inr ⟨h2 t ht h,h⟩)⟩
 have hfail:∀(c:Int) (k:Nat) {p':List Tok} {d:Tok} {q:List Tok},p'.map l7=p.map l7→(∀t∈p',t.2.1=[46]→t.1=3)→(if dot=true then d.1=3∧d.2.1=[46] else d.1=4∧d.2.1=[])→
   vV (p'++d::q)=.er (hT (p'.drop k++d::q)).2.2 c (p'.drop k++d::q)→nN (p'++d::q)=((zA,((hT (p'.drop k++d::q)).2.2:Int),c,true),if dot=true then q else d::q):=by
  intro c k p' d q h1 h2 h3 h4
  obtain ⟨d1,d2⟩:=hds h3
  unfold nN
  rw [h4]
  simp only []
  rw [WU (fun t ht=>hnd h1 h2 t (List.mem_of_mem_drop ht)) d1]
  cases dot with
  | true=>rw [if_neg (by intro h;simp [h] at d2)];rfl
  | false=>rw [if_pos (by by_cases h:d.1=4;exact h;simp [h] at d2)];rfl
 cases x with
 | er c k=>
  refine ⟨⟨zA,c,true,k⟩,hk,fun p' d q h1 h2 h3 h4=>?_⟩
  refine hfail c k h1 h2 h3 ?_
  unfold vV
  rw [hx p' d q h1 (hds h3).1 h4]
  rfl
 | ok y k=>
  by_cases hkk:k=p.length∧dot=true
  ·obtain ⟨rfl,rfl⟩:=hkk
   refine ⟨⟨(tyA y).1,(tyA y).2,decide ((tyA y).2≠0),0⟩,Nat.zero_le _,fun p' d q h1 h2 h3 h4=>?_⟩
   have hpl:p'.length=p.length:=by have:=congrArg List.length h1;simpa using this
   simp only [if_true] at h3
   have hd:vV (p'++d::q)=.ok y q:=by
    unfold vV
    rw [hx p' d q h1 (by simp [iT,h3.1,h3.2]) h4]
    simp only [ZF.at,PR.bind_ok]
    rw [←hpl,List.drop_length,List.nil_append]
    unfold kG
    rw [if_pos (show txt (d::q)=[46] from h3.2)]
    rfl
   unfold nN
   rw [hd]
   rfl
  ·refine ⟨⟨zA,30,true,k⟩,hk,fun p' d q h1 h2 h3 h4=>?_⟩
   have hpl:p'.length=p.length:=by have:=congrArg List.length h1;simpa using this
   refine hfail 30 k h1 h2 h3 ?_
   unfold vV
   rw [hx p' d q h1 (hds h3).1 h4]
   simp only [ZF.at,PR.bind_ok]
   have hne:txt (p'.drop k++d::q)≠[46]:=by
    by_cases hk2:k=p.length
    ·have hdt:dot=false:=by cases dot with|true=>exact absurd ⟨hk2,rfl⟩ hkk|false=>rfl
     subst hdt
     simp only [Bool.false_eq_true,if_false] at h3
     rw [hk2,←hpl,List.drop_length,List.nil_append,dM,h3.2]
     decide
    ·have hk3:k≤p.length:=hk
     cases hdr:p'.drop k with
     | nil=>
      have:=congrArg List.length hdr
      simp only [List.length_drop,List.length_nil] at this
      omega
     | cons t s=>
      rw [List.cons_append,dM]
      exact (hnd h1 h2 t (List.mem_of_mem_drop (i:=k) (by rw [hdr];simp))).2
   unfold kG
   rw [if_neg hne,PR.bind_er]
end Go.Ai.Z
namespace Go.Ai.Z
def La (T:List Tok):Prop:=∀t∈T,t.2.1=[46]→t.1=3
theorem Jg:∀{b:List Tok},(∃t∈b,iT t=true)→∃p d q,b=p++d::q∧(∀t∈p,iT t=false)∧iT d=true
 | [],h=>by obtain ⟨t,ht,_⟩:=h;simp at ht
 | t::b,h=>by
  by_cases ht:iT t=true
  ·exact ⟨[],t,b,rfl,fun u hu=>by simp at hu,ht⟩
  ·obtain ⟨u,hu,hs⟩:=h
   obtain ⟨p,d,q,h1,h2,h3⟩:=Jg (b:=b) (by
    rcases List.mem_cons.1 hu with rfl|hu
    ·exact absurd hs ht
    ·exact ⟨u,hu,hs⟩)
   refine ⟨t::p,d,q,by rw [h1];rfl,fun v hv=>?_,h3⟩
   rcases List.mem_cons.1 hv with rfl|hv
   ·simpa using ht
   ·exact h2 v hv
theorem aec {T:List Tok} (h:WT T):∃t∈T,iT t=true:=by
 induction h with
 | fin a=>exact ⟨_,List.mem_singleton.2 rfl,rfl⟩
 | cons t r _ _ ih=>obtain ⟨u,hu,hs⟩:=ih;exact ⟨u,List.mem_cons_of_mem _ hu,hs⟩
theorem Qd {d:Tok} {q:List Tok} (h:WT (d::q)) (hd:iT d=true):(d.1=4∧d.2.1=[]∧q=[])∨(d.1=3∧d.2.1=[46]∧WT q):=by
 have hs:d.1=4∨(d.1=3∧d.2.1=[46]):=by simpa [iT] using hd
 generalize hl:d::q=l at h
 cases h with
 | fin a=>obtain ⟨rfl,rfl⟩:=List.cons.inj hl;exact .inl ⟨rfl,rfl,rfl⟩
 | cons t r h1 h2=>
  obtain ⟨rfl,rfl⟩:=List.cons.inj hl
  rcases hs with hs|hs
  ·rcases h1.k with k|k|k<;>omega
  ·exact .inr ⟨hs.1,hs.2,h2⟩
theorem L9 {T' p q:List Tok} {d:Tok} (h:T'.map l7=(p++d::q).map l7):∃p' d' q',T'=p'++d'::q'∧p'.map l7=p.map l7∧l7 d'=l7 d∧q'.map l7=q.map l7:=by
 rw [List.map_append,List.map_cons] at h
 obtain ⟨p',r,rfl,h1,h2⟩:=List.map_eq_append_iff.1 h
 obtain ⟨d',q',rfl,h3,h4⟩:=List.map_eq_cons_iff.1 h2
 exact ⟨p',d',q',rfl,h1,h3,h4⟩
theorem agp {p:List Tok} {d:Tok} {q q':List Tok} (k:Nat):hT (p.drop k++d::q)=hT (p.drop k++d::q'):=by
 cases p.drop k<;>rfl
theorem J7 {p:List Tok} {d:Tok} {q:List Tok} (hp:∀t∈p,iT t=false) (hd:p=[]→d.1≠4):(hT (p++d::q)).1≠4:=by
 cases p with
 | nil=>exact hd rfl
 | cons t p=>
  intro h
  have h1:=hp t (by simp)
  have:iT t=true:=by simp only [iT];simp at h;simp [h]
  rw [this] at h1;cases h1
theorem PI:∀(n:Nat) (T:List Tok),WT T→La T→T.length≤n→∃(L:List Ax) (js:List (Nat×Int)),js.Pairwise (fun a b=>a.1<b.1)∧(∀j∈js,j.1<T.length)∧
  ∀(m:Nat) (T':List Tok),T.length≤m→WT T'→T'.map l7=T.map l7→oh m T'=(L,js.map fun j=>(((hT (T'.drop j.1)).2.2:Int),j.2))
 | 0,T,hw,hd,hn=>by have:=Ll hw;omega
 | n+1,T,hw,hd,hn=>by
  obtain ⟨p,d,q,rfl,hp,hs⟩:=Jg (aec hw)
  obtain ⟨hpt,hwd⟩:=PV hw hp
  have hseg:Seg p:=fun t ht=>⟨hpt t ht,hp t ht⟩
  rcases Qd hwd hs with ⟨d1,d2,d3⟩|⟨d1,d2,d3⟩
  ·subst d3
   by_cases hpe:p=[]
   ·subst hpe
    refine ⟨[],[],List.Pairwise.nil,fun j hj=>by simp at hj,fun m T' _ _ hT'=>?_⟩
    obtain ⟨p',d',q',rfl,h1,h2,h3⟩:=L9 hT'
    have hp':p'=[]:=by simpa using h1
    subst hp'
    have:d'.1=4:=by simp only [l7,Prod.mk.injEq] at h2;rw [h2.1];exact d1
    exact xP this
   ·obtain ⟨v,hv1,hv2⟩:=Rj hseg false fun _=>hpe
    refine ⟨if v.b=true then [] else [v.x],if v.b=true then [(v.k,v.e)] else [],by split<;>simp,fun j hj=>?_,fun m T' hm hT1 hT'=>?_⟩
    ·split at hj
     ·simp at hj;subst hj;simp;omega
     ·simp at hj
    ·obtain ⟨p',d',q',rfl,h1,h2,h3⟩:=L9 hT'
     have hq':q'=[]:=by simpa using h3
     subst hq'
     have hd':d'.1=4∧d'.2.1=[]:=by simp only [l7,Prod.mk.injEq] at h2;exact ⟨by rw [h2.1];exact d1,by rw [h2.2];exact d2⟩
     have hp2:=Fe hp h1
     have hdk:∀t∈p',t.2.1=[46]→t.1=3:=fun t ht e=>by
      obtain ⟨u,hu,he⟩:=Vt h1 ht
      simp only [l7,Prod.mk.injEq] at he
      rw [he.1];exact hd u (by simp [hu]) (by rw [←he.2];exact e)
     have hp'ne:p'≠[]:=fun h=>hpe (by rw [h] at h1;simpa using h1.symm)
     obtain ⟨m,rfl⟩:∃m',m=m'+1:=⟨m - 1,by simp at hm;omega⟩
     have hi:=hv2 p' d' [] h1 hdk (by simpa using hd') hT1
     rw [vF m (J7 hp2 fun h=>absurd h hp'ne),hi]
     simp only [Bool.false_eq_true,if_false]
     rw [xP (show (hT [d']).1=4 from hd'.1)]
     cases v.b with
     | true=>
      simp only [if_true,List.map_cons,List.map_nil]
      rw [List.drop_append_of_le_length (by have:=congrArg List.length h1;simp at this;omega)]
     | false=>simp
  ·obtain ⟨v,hv1,hv2⟩:=Rj hseg true fun h=>by cases h
   have hdq:La q:=fun t ht=>hd t (by simp [ht])
   obtain ⟨L,js,i1,i2,i3⟩:=PI n q d3 hdq (by simp at hn;omega)
   refine ⟨if v.b=true then L else v.x::L,(if v.b=true then [(v.k,v.e)] else [])++js.map fun j=>(j.1+(p.length+1),j.2), ?_,fun j hj=>?_,fun m T' hm hT1 hT'=>?_⟩
   ·rw [List.pairwise_append]
    refine ⟨by split<;>simp, ?_,fun a ha b hb=>?_⟩
    ·rw [List.pairwise_map]
     exact i1.imp fun h=>by simp only [];omega
    ·obtain ⟨c,hc,rfl⟩:=List.mem_map.1 hb
     split at ha
     ·simp at ha;subst ha;simp only [];omega
     ·simp at ha
   ·rcases List.mem_append.1 hj with hj|hj
    ·split at hj
     ·simp at hj;subst hj;simp;omega
     ·simp at hj
    ·obtain ⟨c,hc,rfl⟩:=List.mem_map.1 hj
     have:=i2 c hc
     simp only [List.length_append,List.length_cons];omega
   ·obtain ⟨p',d',q',rfl,h1,h2,h3⟩:=L9 hT'
    have hpl:p'.length=p.length:=by have:=congrArg List.length h1;simpa using this
    have hd':d'.1=3∧d'.2.1=[46]:=by simp only [l7,Prod.mk.injEq] at h2;exact ⟨by rw [h2.1];exact d1,by rw [h2.2];exact d2⟩
    have hp2:=Fe hp h1
    have hdk:∀t∈p',t.2.1=[46]→t.1=3:=fun t ht e=>by
     obtain ⟨u,hu,he⟩:=Vt h1 ht
     simp only [l7,Prod.mk.injEq] at he
     rw [he.1];exact hd u (by simp [hu]) (by rw [←he.2];exact e)
    obtain ⟨m,rfl⟩:∃m',m=m'+1:=⟨m - 1,by simp at hm;omega⟩
    have hi:=hv2 p' d' q' h1 hdk (by simpa using hd') hT1
    have hwq:WT q':=by
     have h4:=(PV hT1 hp2).2
     rcases Qd h4 (by simp [iT,hd'.1,hd'.2]) with ⟨k,_⟩|⟨_,_,k⟩
     ·omega
     ·exact k
    rw [vF m (J7 hp2 fun _=>by omega),hi]
    simp only [if_true]
    rw [i3 m q' (by simp at hm;omega) hwq h3]
    have hdr:∀j,(p'++d'::q').drop (j+(p.length+1))=q'.drop j:=fun j=>by
     rw [show j+(p.length+1)=p'.length+(1+j) by omega,←List.drop_drop,List.drop_left,←List.drop_drop];rfl
    cases v.b with
    | true=>
     simp only [if_true,List.map_append,List.map_cons,List.map_nil,List.map_map,List.singleton_append]
     rw [List.drop_append_of_le_length (by omega)]
     refine congrArg (fun z=>(L,_::z)) (List.map_congr_left fun j _=>?_)
     simp only [Function.comp_apply,hdr]
    | false=>
     simp only [Bool.false_eq_true,if_false,List.nil_append,List.map_map]
     congr 2
     funext j
     simp only [Function.comp_apply,hdr]
theorem UI {T:List Tok} (hw:WT T) (hd:La T) {m n:Nat} (hm:T.length≤m) (hn:T.length≤n):oh m T=oh n T:=by
 obtain ⟨L,js,_,_,h⟩:=PI _ T hw hd (Nat.le_refl _)
 rw [h m T hm hw rfl,h n T hn hw rfl]
theorem aeP {Ty:List Tok} (hy:WT Ty) (hdy:La Ty) (a:Nat):∀(n:Nat) (b:List Tok),b.length≤n→(∀t∈b,Oy t)→La b→(b=[]∨∃b0 d,b=b0++[d]∧iT d=true)→
  oh (b++Ty).length (b++Ty)=((oh (b++[(4,[],a)]).length (b++[(4,[],a)])).1++(oh Ty.length Ty).1,(oh (b++[(4,[],a)]).length (b++[(4,[],a)])).2++(oh Ty.length Ty).2):=by
 intro n
 induction n with
 | zero=>
  intro b hb _ _ _
  have:b=[]:=List.eq_nil_of_length_eq_zero (by omega)
  subst this
  rw [List.nil_append,List.nil_append,xP (l:=[(4,[],a)]) rfl]
  simp
 | succ n ih=>
  intro b hb hok hdb he
  rcases he with rfl|⟨b0,d0,rfl,hd0⟩
  ·rw [List.nil_append,List.nil_append,xP (l:=[(4,[],a)]) rfl]
   simp
  ·obtain ⟨p,d,q,hpq,hp,hs⟩:=Jg (b:=b0++[d0]) ⟨d0,by simp,hd0⟩
   have hqe:q=[]∨∃q0 d,q=q0++[d]∧iT d=true:=by
    rcases List.eq_nil_or_concat q with h|⟨q0,d1,h⟩
    ·exact .inl h
    ·refine .inr ⟨q0,d1,by simpa using h, ?_⟩
     have h1:=congrArg List.getLast? hpq
     rw [h] at h1
     have h2:(p++d::q0.concat d1).getLast?=some d1:=by
      rw [show p++d::q0.concat d1=(p++d::q0)++[d1] by simp,List.getLast?_concat]
     rw [h2,List.getLast?_concat] at h1
     rw [←Option.some.inj h1];exact hd0
   rw [hpq] at hok hdb hb ⊢
   have hseg:Seg p:=fun t ht=>⟨hok t (by simp [ht]),hp t ht⟩
   have hokq:∀t∈q,Oy t:=fun t ht=>hok t (by simp [ht])
   have hdq:La q:=fun t ht=>hdb t (by simp [ht])
   have hdt:=hok d (by simp)
   have hd':d.1=3∧d.2.1=[46]:=by
    have hs':d.1=4∨(d.1=3∧d.2.1=[46]):=by simpa [iT] using hs
    rcases hs' with h|h
    ·rcases hdt.k with k|k|k<;>omega
    ·exact h
   obtain ⟨v,hv1,hv2⟩:=Rj hseg true fun h=>by cases h
   have hwe:WT (q++[(4,[],a)]):=Lm (.fin a) hokq
   have hwy:WT (q++Ty):=Lm hy hokq
   have hdky:La (q++Ty):=fun t ht=>by
    rcases List.mem_append.1 ht with h|h
    ·exact hdq t h
    ·exact hdy t h
   have hdke:La (q++[(4,[],a)]):=fun t ht=>by
    rcases List.mem_append.1 ht with h|h
    ·exact hdq t h
    ·simp at h;subst h;intro h;cases h
   have hpk:∀t∈p,t.2.1=[46]→t.1=3:=fun t ht=>hdb t (by simp [ht])
   have i1:=hv2 p d (q++Ty) rfl hpk (by simpa using hd') (Lm (.cons d _ hdt hwy) fun t ht=>(hseg t ht).1)
   have i2:=hv2 p d (q++[(4,[],a)]) rfl hpk (by simpa using hd') (Lm (.cons d _ hdt hwe) fun t ht=>(hseg t ht).1)
   have ih':=ih q (by simp at hb;omega) hokq hdq hqe
   have hk:p=[]→d.1≠4:=fun _=>by omega
   rw [List.append_assoc,List.append_assoc,List.cons_append,List.cons_append]
   have hl1:(p++d::(q++Ty)).length=(p.length+(q++Ty).length)+1:=by simp;omega
   have hl2:(p++d::(q++[(4,[],a)])).length=(p.length+(q++[(4,[],a)]).length)+1:=by simp;omega
   rw [hl1,hl2,vF _ (J7 hp hk),vF _ (J7 hp hk),i1,i2]
   simp only [if_true]
   rw [UI hwy hdky (show (q++Ty).length≤p.length+(q++Ty).length by omega) (Nat.le_refl _),UI hwe hdke (show (q++[(4,[],a)]).length≤p.length+(q++[(4,[],a)]).length by omega) (Nat.le_refl _),ih',agp (q:=q++Ty) (q':=q++[(4,[],a)]) v.k]
   cases v.b<;>simp
end Go.Ai.Z
namespace Go.Ai.Z
theorem ZM {c:C} (h1:oV c=true) (h2:xK c=true) (h3:∀p∈c.parts,iI p=0):iI c=0:=by
 rw [BN,if_neg (by rw [h1];decide),if_neg (by rw [h2];decide)]
 generalize c.parts=l at h3
 induction l with
 | nil=>simp [qV]
 | cons p r ih=>
  rw [qV,if_pos (h3 p (by simp))]
  exact ih fun q hq=>h3 q (by simp [hq])
theorem ZL:∀c:C,iI (nz c)=iI c:=by
 refine C.ind' fun c ih=>?_
 have hl:∀qs:List C,(∀p∈qs,iI (nz p)=iI p)→qV (qs.map nz)=qV qs:=by
  intro qs
  induction qs with
  | nil=>intro _;rfl
  | cons p r ihr=>
   intro hp
   simp only [List.map_cons,qV,hp p (by simp),ihr fun q hq=>hp q (by simp [hq])]
 have h1:oV (nz c)=oV c:=by simp only [oV,uj,xJ,Uj,Uk,nX,List.length_map]
 have h2:xK (nz c)=xK c:=by simp only [xK,uj,xJ]
 rw [BN (nz c),BN c,h1,h2,nX,hl c.parts ih]
theorem X5:∀c:C,ny (nz c)=ny c:=by
 refine C.ind' fun c ih=>?_
 have hl:∀qs:List C,(∀p∈qs,ny (nz p)=ny p)→qL (qs.map nz)=qL qs:=by
  intro qs
  induction qs with
  | nil=>intro _;rfl
  | cons p r ihr=>
   intro hp
   simp only [List.map_cons,qL,hp p (by simp),ihr fun q hq=>hp q (by simp [hq])]
 rw [vG (nz c),vG c,nX,hl c.parts ih]
theorem aay:∀c:C,nD (nz c)=nD c:=by
 refine C.ind' fun c ih=>?_
 have hl:∀qs:List C,(∀p∈qs,nD (nz p)=nD p)→rO (qs.map nz)=rO qs:=by
  intro qs
  induction qs with
  | nil=>intro _;rfl
  | cons p r ihr=>
   intro hp
   simp only [List.map_cons,rO,hp p (by simp),ihr fun q hq=>hp q (by simp [hq])]
 rw [Gi (nz c),Gi c,uj,nX,hl c.parts ih]
theorem adQ (c:C):jl (nz c)=jl c:=by unfold jl;rw [X5,Jv,ZL]
theorem GL {l:List C} {D:Nat} (h:∀p∈l,1+ny p≤D):qL l≤D:=by
 induction l with
 | nil=>exact Nat.zero_le _
 | cons p r ih=>
  have h1:=h p (by simp)
  have h2:=ih fun q hq=>h q (by simp [hq])
  simp only [qL];omega
theorem Zg {l:List C} {p:C} (h:p∈l):1+ny p≤qL l:=by
 induction l with
 | nil=>cases h
 | cons q r ih=>
  simp only [qL]
  rcases List.mem_cons.1 h with rfl|h
  ·omega
  ·have:=ih h;omega
theorem BP {l:List C} {p:C} (h:p∈l):dS p≤fD l:=by
 induction l with
 | nil=>cases h
 | cons q r ih=>
  simp only [fD]
  rcases List.mem_cons.1 h with rfl|h
  ·omega
  ·have:=ih h;omega
theorem aaN {l m:List C} (h:l.Sublist m):fD l≤fD m:=by
 induction h with
 | slnil=>exact Nat.le_refl _
 | cons a _ ih=>simp only [fD];omega
 | cons_cons a _ ih=>simp only [fD];omega
theorem YA {l m:List C} (h:l.Perm m):fD l=fD m:=by
 induction h with
 | nil=>rfl
 | cons a _ ih=>simp only [fD,ih]
 | swap a b l=>simp only [fD];omega
 | trans _ _ h1 h2=>exact h1.trans h2
theorem TT:∀qs:List C,fD (qs.flatMap iV)≤fD qs
 | []=>Nat.le_refl _
 | q::r=>by
  have ih:=TT r
  have hq:fD (iV q)≤dS q:=by
   unfold iV
   split
   ·exact Nat.zero_le _
   ·split
    ·rw [nV];omega
    ·simp [fD]
  rw [List.flatMap_cons,BQ]
  simp only [fD];omega
theorem UX {l:List C}:rO l=true ↔ ∃p∈l,nD p=true:=by
 induction l with
 | nil=>simp [rO]
 | cons p r ih=>simp [rO,ih]
structure Val (t c:C):Prop where
 w:iI t=0
 s:dS t≤dS c
 d:ny t≤ny c
 b:nD t=true→nD c=true
theorem IC:∀{ps qs:List C},(∀p∈ps,∀t,mM p=some t→Val t p)→jS ps=some qs→
  fD qs≤fD ps∧(∀q∈qs,iI q=0∧1+ny q≤qL ps∧(nD q=true→rO ps=true))∧qs.length=ps.length
 | [],qs,_,h=>by simp [jS] at h;subst h;exact ⟨Nat.le_refl _,fun q hq=>(by cases hq),rfl⟩
 | p::r,qs,hp,h=>by
  simp only [jS] at h
  cases h1:mM p with
  | none=>rw [h1] at h;cases h
  | some x=>
   rw [h1] at h
   cases h2:jS r with
   | none=>rw [h2] at h;cases h
   | some xs=>
    rw [h2] at h
    cases h
    obtain ⟨i1,i2,i3⟩:=IC (fun q hq=>hp q (by simp [hq])) h2
    have hv:=hp p (by simp) x h1
    refine ⟨by have:=hv.s;simp only [fD];omega,fun q hq=>?_,by simp [i3]⟩
    rcases List.mem_cons.1 hq with rfl|hq
    ·refine ⟨hv.w,by have:=hv.d;simp only [qL];omega,fun hb=>?_⟩
     simp only [rO,hv.b hb,Bool.true_or]
    ·obtain ⟨j1,j2,j3⟩:=i2 q hq
     refine ⟨j1,by simp only [qL];omega,fun hb=>?_⟩
     simp only [rO,j3 hb,Bool.or_true]
theorem acX {qs:List C} {t:C} {D S:Nat} {B:Prop} (hq:∀q∈qs,iI q=0∧1+ny q≤D∧(nD q=true→B)) (hs:fD qs≤S) (h:CQ qs=some t):
  iI t=0∧dS t≤1+S∧ny t≤D∧(nD t=true→B):=by
 have hL:∀p∈qs.flatMap iV,iI p=0∧1+ny p≤D∧(nD p=true→B):=by
  intro p hp
  obtain ⟨q,h1,h2⟩:=List.mem_flatMap.1 hp
  obtain ⟨w1,w2,w3⟩:=hq q h1
  unfold iV at h2
  split at h2
  ·cases h2
  ·split at h2
   ·rename_i h5
    have hd:=Zg h2
    rw [←vG] at hd
    refine ⟨(Pj w1).2.2 p h2,by omega,fun hb=>w3 ?_⟩
    rw [Gi,if_neg (by omega),if_pos h5]
    exact UX.2 ⟨p,h2,hb⟩
   ·have:p=q:=by simpa using h2
    rw [this];exact ⟨w1,w2,w3⟩
 unfold CQ at h
 simp only [] at h
 have hsub:=Dj (qJ (qs.flatMap iV))
 have hsz:fD (comp (qJ (qs.flatMap iV)))≤S:=by
  have h1:=aaN hsub
  rw [YA (uF _)] at h1
  have:=TT qs;omega
 have hm:∀p∈comp (qJ (qs.flatMap iV)),iI p=0∧1+ny p≤D∧(nD p=true→B):=fun p hp=>hL p ((uF _).mem_iff.1 (hsub.mem hp))
 generalize comp (qJ (qs.flatMap iV))=m at *
 have one:∀p∈m,iI p=0∧dS p≤1+S∧ny p≤D∧(nD p=true→B):=fun p hp=>by
  obtain ⟨k1,k2,k3⟩:=hm p hp
  exact ⟨k1,by have:=BP hp;omega,by omega,k3⟩
 cases hf:m.find? (fun t=>decide (t.kind=2)) with
 | some x=>
  rw [hf] at h
  cases h
  exact one t (List.mem_of_find?_eq_some hf)
 | none=>
  rw [hf] at h
  rcases m with _|⟨x,_|⟨y,r⟩⟩
  ·cases h
   exact ⟨by decide,by show dS aaF≤_;simp [aaF,dS,fD],by simp [aaF,ny,qL],fun hb=>absurd hb (by decide)⟩
  ·cases h
   exact one t (by simp)
  ·simp only [] at h
   split at h
   ·cases h
   ·rename_i h8
    cases h
    refine ⟨ZM ?_ ?_ fun p hp=>(hm p hp).1, ?_, ?_,fun hb=>?_⟩
    ·have h8':((x::y::r).length:Int)≤8:=by omega
     have h2':(2:Int)≤((x::y::r).length:Int):=by simp only [List.length_cons];omega
     simp only [oV,C.kind,C.lo,C.hi,C.name,C.parts,h8',h2']
     rfl
    ·simp [xK,C.kind]
    ·rw [nV];show 1+fD (x::y::r)≤_;omega
    ·rw [vG];exact GL fun p hp=>(hm p hp).2.1
    ·simp only [nD,show ¬(5:Int)=4 by decide,if_false,if_true] at hb
     obtain ⟨p,hp,hb⟩:=UX.1 hb
     exact (hm p hp).2.2 hb
theorem WL:∀c t:C,iI c=0→mM c=some t→Val t c:=by
 refine C.ind' (P:=fun c=>∀t,iI c=0→mM c=some t→Val t c) fun c ih t hw h=>?_
 obtain ⟨v1,v2,v3⟩:=Pj hw
 have hps:∀p∈c.parts,∀t,mM p=some t→Val t p:=fun p hp t=>ih p hp t (v3 p hp)
 cases c with
 | mk k n l hh z ps=>
  simp only [C.parts] at hps
  rw [mM] at h
  split at h
  ·rename_i k6
   cases h1:jS ps with
   | none=>rw [h1] at h;cases h
   | some qs=>
    obtain ⟨i1,i2,i3⟩:=IC hps h1
    rw [h1] at h
    cases qs with
    | nil=>cases h
    | cons p r=>
     obtain ⟨j1,j2,j3⟩:=i2 p (by simp)
     have hsz:=BP (l:=p::r) (p:=p) (by simp)
     simp only [] at h
     split at h
     ·rename_i k2
      cases h
      refine ⟨j1,by rw [nV (C.mk k n l hh z ps)];show _≤1+fD ps;omega,by rw [vG (C.mk k n l hh z ps)];show _≤qL ps;omega,fun hb=>?_⟩
      rw [Gi,if_neg (by omega),if_neg (by omega)] at hb
      cases hb
     ·cases h
      refine ⟨ZM ?_ ?_ fun q hq=>?_, ?_, ?_,fun hb=>?_⟩
      ·simp [oV,C.kind,C.lo,C.hi,C.name,C.parts]
      ·simp only [xK,C.kind,C.name] at v2 ⊢
       simpa [k6] using v2
      ·simp [C.parts] at hq;subst hq;exact j1
      ·rw [nV,nV (C.mk k n l hh z ps)]
       show 1+fD [p]≤1+fD ps
       simp [fD];omega
      ·rw [vG,vG (C.mk k n l hh z ps)]
       exact GL fun q hq=>by simp [C.parts] at hq;subst hq;exact j2
      ·simp [nD] at hb
  ·split at h
   ·rename_i k6 k5
    cases h1:jS ps with
    | none=>rw [h1] at h;cases h
    | some qs=>
     obtain ⟨i1,i2,i3⟩:=IC hps h1
     rw [h1] at h
     obtain ⟨w1,w2,w3,w4⟩:=acX i2 i1 h
     refine ⟨w1,by rw [nV (C.mk k n l hh z ps)];exact w2,by rw [vG (C.mk k n l hh z ps)];exact w3,fun hb=>?_⟩
     simp only [nD]
     rw [if_neg (show ¬k=4 by omega),if_pos k5]
     exact w4 hb
   ·cases h
    exact ⟨by rw [ZL];exact hw,by rw [Jv];exact Nat.le_refl _,by rw [X5];exact Nat.le_refl _,fun hb=>by rw [aay] at hb;exact hb⟩
theorem Zp {c t:C} (h0:jl c=0) (h:mM c=some t):jl t=0:=by
 have hw:iI c=0∧¬(8<ny c∨64<dS c):=by unfold jl at h0;split at h0;cases h0;exact ⟨h0,by assumption⟩
 have hv:=WL c t hw.1 h
 unfold jl
 have:=hv.s;have:=hv.d
 rw [if_neg (by omega)];exact hv.w
end Go.Ai.Z
namespace Go.Ai.Z
theorem adN (c:C):emptyS (nz c)=emptyS c:=by simp only [emptyS,uj,xJ,Uj,Uk,nX,List.length_map]
theorem Jw {b:Bool} {c p c':C} (h:BR b c=some p) (hc:b=true→jl c=0) (hz:b=false→c=zC) (hn:nz c'=p):
  (b=true→jl c'=0)∧(b=false→emptyS c'=true)∧wC c'≤150∧BR b c'=some p∧(b=true→nD c'=true→nD c=true):=by
 cases b with
 | true=>
  have h1:mM c=some p:=by simpa [BR] using h
  have h0:=hc rfl
  have h2:jl c'=0:=by rw [←adQ,hn];exact Zp h0 h1
  have hw:iI c=0:=by unfold jl at h0;split at h0;cases h0;exact h0
  refine ⟨fun _=>h2,fun h=>(by cases h),by have:=IA h2;omega, ?_,fun _ hb=>?_⟩
  ·simp only [BR,if_true]
   rw [←P7,hn];exact (canon c p h1).fx
  ·rw [←aay,hn] at hb
   exact (WL c p hw h1).b hb
 | false=>
  have h1:nz c=p:=by simpa [BR] using h
  rw [hz rfl] at h1
  have h2:nz c'=nz zC:=hn.trans h1.symm
  have hnm:c'.name=[]:=by rw [←xJ,h2,xJ];rfl
  have hpt:c'.parts=[]:=by
   have:c'.parts.map nz=zC.parts.map nz:=by rw [←nX,h2,nX]
   simpa [zC,C.parts] using this
  refine ⟨fun h=>(by cases h),fun _=>by rw [←adN,h2];decide, ?_,by simp only [BR];rw [if_neg (by decide),hn],fun h=>(by cases h)⟩
  rw [qj,hnm,hpt]
  decide
theorem TI {y:Ax} (h:jV y=0):uh y=true∧FC y (iE y.kind)=true∧((iE y.kind).l=true→jl y.left=0)∧((iE y.kind).r=true→jl y.right=0)∧
  ¬((y.kind=2∧(nD y.left=true∨nD y.right=true))∨((y.kind=1∨y.kind=4∨y.kind=8)∧nD y.right=true)):=by
 have h2:=TU h
 unfold jV at h
 split at h
 ·cases h
 rename_i h1
 split at h
 ·cases h
 rename_i h3
 refine ⟨by simpa using h1,by simpa using h3,h2.1,h2.2,fun hb=>?_⟩
 unfold Ns at h
 split at h
 ·rename_i hc;exact absurd h hc.2
 split at h
 ·rename_i hc;exact absurd h hc.2
 exact absurd h (by decide)
theorem Sz {x:Ax} (h1:uh x=true) (h2:FC x (iE x.kind)=true) (h3:(iE x.kind).l=true→jl x.left=0) (h4:(iE x.kind).r=true→jl x.right=0)
  (h5:¬((x.kind=2∧(nD x.left=true∨nD x.right=true))∨((x.kind=1∨x.kind=4∨x.kind=8)∧nD x.right=true))):jV x=0:=by
 unfold jV
 rw [if_neg (by rw [h1];decide),if_neg (by rw [h2];decide)]
 unfold Ns
 rw [if_neg (fun h=>h.2 (h3 h.1)),if_neg (fun h=>h.2 (h4 h.1)),if_neg h5]
theorem IE (x:Ax):uh x=true ↔ BG x=true∧((iE x.kind).l=true∨emptyS x.left=true)∧((iE x.kind).r=true∨emptyS x.right=true)∧((iE x.kind).role=true∨x.role=[])∧((iE x.kind).a=true∨x.a=[])∧((iE x.kind).b=true∨x.b=[])∧
  (iE x.kind).lo≤x.roles.length∧(x.roles.length:Int)≤(iE x.kind).hi:=by
 simp [uh,and_assoc]
theorem aaI {y x t:Ax} {w:Nat} (hp:y.Parsed w) (h0:jV y=0) (ht:zh y=some t) (hx:nzA x=t):jV x=0∧x.Few∧zh x=some t:=by
 obtain ⟨c1,c2,c3,c4,c5⟩:=TI h0
 rw [IE] at c1
 obtain ⟨s1,s2,s3,s4,s5,s6,s7,s8⟩:=c1
 unfold zh at ht
 cases hl:BR (iE y.kind).l y.left with
 | none=>rw [hl] at ht;simp at ht
 | some p=>
  cases hr:BR (iE y.kind).r y.right with
  | none=>rw [hl,hr] at ht;simp at ht
  | some q=>
   rw [hl,hr] at ht
   simp only [] at ht
   by_cases hsw:(y.kind=2∨y.kind=3)∧0<kR p q
   ·rw [if_pos hsw] at ht
    have ht:=Option.some.inj ht
    have hx':=hx.trans ht.symm
    simp only [nzA,Ax.mk.injEq] at hx'
    obtain ⟨e1,e2,e3,e4,-,e5,e6,e7,e8⟩:=hx'
    have hul:(iE y.kind).l=true:=by rcases hsw.1 with k|k<;>rw [k]<;>rfl
    have hur:(iE y.kind).r=true:=by rcases hsw.1 with k|k<;>rw [k]<;>rfl
    have vl:=Jw hr c4 (fun h=>by rw [hur] at h;cases h) e3
    have vr:=Jw hl c3 (fun h=>by rw [hul] at h;cases h) e4
    have hneg:¬0<kR q p:=by
     have:=(nC.anti q p trivial trivial).2 hsw.2
     omega
    refine ⟨Sz ?_ ?_ ?_ ?_ ?_,⟨vl.2.2.1,vr.2.2.1, ?_, ?_, ?_, ?_, ?_⟩, ?_⟩
    ·rw [IE,e1,e5,e6,e7,e8]
     refine ⟨by unfold BG at s1 ⊢;rw [e1];exact s1,.inl hul,.inl hur,s4,s5,s6,s7,s8⟩
    ·rw [e1];unfold FC at c2 ⊢;rw [e5,e6,e7,e8];exact c2
    ·rw [e1];intro _;exact vl.1 hur
    ·rw [e1];intro _;exact vr.1 hul
    ·rw [e1]
     intro hb
     rcases hb with ⟨k,hb⟩|⟨k,hb⟩
     ·rcases hb with hb|hb
      ·exact c5 (.inl ⟨k,.inr (vl.2.2.2.2 hur hb)⟩)
      ·exact c5 (.inl ⟨k,.inl (vr.2.2.2.2 hul hb)⟩)
     ·have:=hsw.1;omega
    ·rw [e5];have:=hp.roles;omega
    ·rw [e5];intro r hr;have:=hp.rs r hr;omega
    ·rw [e6];have:=hp.role;omega
    ·rw [e7];have:=hp.a;omega
    ·rw [e8];have:=hp.b;omega
    ·unfold zh
     have v1:=vl.2.2.2.1
     have v2:=vr.2.2.2.1
     rw [hur] at v1
     rw [hul] at v2
     rw [e1,hul,hur,v1,v2]
     simp only []
     rw [if_neg (fun h=>hneg h.2),←hx]
     simp only [nzA,e3,e4]
     rw [e1]
   ·rw [if_neg hsw] at ht
    have ht:=Option.some.inj ht
    have hx':=hx.trans ht.symm
    simp only [nzA,Ax.mk.injEq] at hx'
    obtain ⟨e1,e2,e3,e4,-,e5,e6,e7,e8⟩:=hx'
    have vl:=Jw hl c3 hp.ul e3
    have vr:=Jw hr c4 hp.ur e4
    refine ⟨Sz ?_ ?_ ?_ ?_ ?_,⟨vl.2.2.1,vr.2.2.1, ?_, ?_, ?_, ?_, ?_⟩, ?_⟩
    ·rw [IE,e1,e5,e6,e7,e8]
     refine ⟨by unfold BG at s1 ⊢;rw [e1];exact s1, ?_, ?_,s4,s5,s6,s7,s8⟩
     ·cases hu:(iE y.kind).l with
      | true=>exact .inl rfl
      | false=>exact .inr (vl.2.1 hu)
     ·cases hu:(iE y.kind).r with
      | true=>exact .inl rfl
      | false=>exact .inr (vr.2.1 hu)
    ·rw [e1];unfold FC at c2 ⊢;rw [e5,e6,e7,e8];exact c2
    ·rw [e1];exact vl.1
    ·rw [e1];exact vr.1
    ·rw [e1]
     intro hb
     rcases hb with ⟨k,hb⟩|⟨k,hb⟩
     ·have hul:(iE y.kind).l=true:=by rw [k];rfl
      have hur:(iE y.kind).r=true:=by rw [k];rfl
      rcases hb with hb|hb
      ·exact c5 (.inl ⟨k,.inl (vl.2.2.2.2 hul hb)⟩)
      ·exact c5 (.inl ⟨k,.inr (vr.2.2.2.2 hur hb)⟩)
     ·have hur:(iE y.kind).r=true:=by rcases k with k|k|k<;>rw [k]<;>rfl
      exact c5 (.inr ⟨k,vr.2.2.2.2 hur hb⟩)
    ·rw [e5];have:=hp.roles;omega
    ·rw [e5];intro r hr;have:=hp.rs r hr;omega
    ·rw [e6];have:=hp.role;omega
    ·rw [e7];have:=hp.a;omega
    ·rw [e8];have:=hp.b;omega
    ·unfold zh
     have v1:=vl.2.2.2.1
     have v2:=vr.2.2.2.1
     rw [e1,v1,v2]
     simp only []
     rw [if_neg (fun h=>hsw h),←hx]
     simp only [nzA,e3,e4]
     rw [e1]
end Go.Ai.Z
namespace Go.Ai.Z
structure Yo (a:Nat) (p:List Tok×List Pb):Prop where
 t:p.1.Pairwise fun x y=>x.2.2<y.2.2
 t0:∀x∈p.1,a≤x.2.2
 b:p.2.Pairwise fun x y=>x.1<y.1
 b0:∀x∈p.2,(a:Int)≤x.1
 tb:∀x∈p.1,∀y∈p.2,(x.2.2:Int)≠y.1
theorem Yo.mono {a a':Nat} {p:List Tok×List Pb} (h:Yo a' p) (ha:a≤a'):Yo a p:=
 ⟨h.t,fun x hx=>by have:=h.t0 x hx;omega,h.b,fun x hx=>by have:=h.b0 x hx;omega,h.tb⟩
theorem JV:∀(n:Nat) (b:List UInt8) (a:Nat) (la:Int) {p:List Tok×List Pb},qO n b a la=some p→Yo a p
 | 0,b,a,la,p,h=>by simp [qO] at h
 | n+1,b,a,la,p,h=>by
  unfold qO at h
  cases hx:b.dropWhile pO with
  | nil=>
   rw [hx] at h
   simp only [Option.some.injEq] at h
   subst h
   exact ⟨by simp,by simp,by simp,by simp,by simp⟩
  | cons c r=>
   rw [hx] at h
   simp only [] at h
   split at h
   ·exact (JV n _ _ _ h).mono (by omega)
   ·have hs:=BV c r
    split at h
    ·obtain ⟨q,hq,rfl⟩:=Option.map_eq_some_iff.1 h
     have hp:=JV n _ _ _ hq
     split
     ·refine ⟨hp.t,fun x hx=>by have:=hp.t0 x hx;omega,List.pairwise_cons.2 ⟨fun y hy=>?_,hp.b⟩,fun x hx=>?_,fun x hx y hy=>?_⟩
      ·have:=hp.b0 y hy;simp only [] at this ⊢;omega
      ·rcases List.mem_cons.1 hx with rfl|hx
       ·simp only [];omega
       ·have:=hp.b0 x hx;omega
      ·rcases List.mem_cons.1 hy with rfl|hy
       ·have:=hp.t0 x hx;simp only [];omega
       ·exact hp.tb x hx y hy
     ·exact hp.mono (by omega)
    ·obtain ⟨q,hq,rfl⟩:=Option.map_eq_some_iff.1 h
     have hp:=JV n _ _ _ hq
     refine ⟨List.pairwise_cons.2 ⟨fun y hy=>?_,hp.t⟩,fun x hx=>?_,hp.b,fun x hx=>by have:=hp.b0 x hx;omega,fun x hx y hy=>?_⟩
     ·have:=hp.t0 y hy;simp only [] at this ⊢;omega
     ·rcases List.mem_cons.1 hx with rfl|hx
      ·simp only [];omega
      ·have:=hp.t0 x hx;omega
     ·rcases List.mem_cons.1 hx with rfl|hx
      ·have:=hp.b0 y hy;simp only [];omega
      ·exact hp.tb x hx y hy
theorem Q8 (src:List UInt8):Yo 0 (fM src):=JV _ _ _ _ (wB src (Nat.lt_succ_self _))
theorem Ph {src:List UInt8} (hl:src.length≤60000):WT (fM src).1:=by rw [←DV];exact (zG (by omega)).1
theorem afP {T:List Tok} (h:T.Pairwise fun x y=>x.2.2<y.2.2) {i j:Nat} (hij:i<j) (hj:j<T.length):(hT (T.drop i)).2.2<(hT (T.drop j)).2.2:=by
 have e:∀{k:Nat} (hk:k<T.length),hT (T.drop k)=T[k]:=fun {k} hk=>by rw [List.drop_eq_getElem_cons hk];rfl
 rw [e hj,e (by omega)]
 exact List.pairwise_iff_getElem.1 h i j (by omega) hj hij
theorem KG {src:List UInt8} (hl:src.length≤60000):(vP src).2.Pairwise (fun p q=>p.1<q.1)∧∀p∈(vP src).2,∃t∈(fM src).1,p.1=(t.2.2:Int):=by
 have hw:=Ph hl
 obtain ⟨L,js,h1,h2,h3⟩:=PI _ _ hw (JU src) (Nat.le_refl _)
 have h4:=h3 _ _ (Nat.le_refl _) hw rfl
 have hp:=(Q8 src).t
 unfold vP
 rw [h4]
 refine ⟨?_,fun p hp=>?_⟩
 ·rw [List.pairwise_map]
  refine h1.imp_of_mem fun {a b} ha hb hab=>?_
  have:=afP hp hab (h2 b hb)
  simp only [];omega
 ·obtain ⟨j,hj,rfl⟩:=List.mem_map.1 hp
  refine ⟨_, ?_,rfl⟩
  rw [List.drop_eq_getElem_cons (h2 j hj)]
  exact List.getElem_mem _
def ZE (D:List Pb):Prop:=D.Pairwise fun p q=>p.1≠q.1
def LtP (D:List Pb):Prop:=D.Pairwise fun p q=>p.1<q.1
theorem ZE.perm {D E:List Pb} (h:ZE D) (hp:D.Perm E):ZE E:=(hp.pairwise_iff fun h=>Ne.symm h).1 h
theorem LtP.dis {D:List Pb} (h:LtP D):ZE D:=List.Pairwise.imp (fun h=>by omega) h
theorem afo {D:List Pb} (h1:lF D) (h2:ZE D):LtP D:=List.Pairwise.imp (fun ⟨h,h'⟩=>by omega) (List.Pairwise.and h1 h2)
theorem aaz {src:List UInt8} (hl:src.length≤60000):ZE ((fM src).2++(vP src).2):=by
 have hp:=Q8 src
 obtain ⟨d1,d2⟩:=KG hl
 refine List.pairwise_append.2 ⟨LtP.dis hp.b,LtP.dis d1,fun p hp' q hq=>?_⟩
 obtain ⟨t,ht,e⟩:=d2 q hq
 have:=hp.tb t ht p hp'
 omega
theorem Qe:∀{W Z:List Pb},LtP W→lF Z→Z.Perm W→Z=W
 | [],Z,_,_,h=>List.Perm.eq_nil h
 | w::W,[],_,_,h=>(List.Perm.eq_nil h.symm).symm
 | w::W,z::Z,hW,hZ,h=>by
  have hW':=List.pairwise_cons.1 hW
  have hZ':=List.pairwise_cons.1 hZ
  have e:z=w:=by
   have h1:=h.mem_iff (a:=z)
   have h2:=h.mem_iff (a:=w)
   simp only [List.mem_cons,true_or,true_iff,iff_true] at h1 h2
   rcases h1 with h1|h1
   ·exact h1
   ·rcases h2 with h2|h2
    ·exact h2.symm
    ·have:=hW'.1 z h1;have:=hZ'.1 w h2;omega
  subst e
  rw [Qe hW'.2 hZ'.2 h.cons_inv]
theorem Um:∀{l m:List Pb},l.Nodup→(∀x∈l,x∈m)→l.length≤m.length
 | [],m,_,_=>Nat.zero_le _
 | x::l,m,h,hs=>by
  obtain ⟨h1,h2⟩:=List.nodup_cons.1 h
  obtain ⟨s,t,rfl⟩:=List.append_of_mem (hs x (by simp))
  have:=Um (l:=l) (m:=s++t) h2 fun y hy=>by
   have:=hs y (by simp [hy])
   simp only [List.mem_append,List.mem_cons] at this ⊢
   rcases this with h|rfl|h
   ·exact .inl h
   ·exact absurd hy h1
   ·exact .inr h
  simp only [List.length_append,List.length_cons] at this ⊢
  omega
theorem aco {B D P W Z:List Pb} {n:Nat} (hW:LtP W) (hZ:lF Z) (h1:W.Perm (B++D++P)) (h2:Z.Perm (B++P)) (hB:LtP (B++D)) (hn:D=[]∨n≤B.length):Z.take n=W.take n:=by
 have hd:ZE (B++D++P):=hW.dis.perm h1
 have hd':=List.pairwise_append.1 hd
 have hBD:=List.pairwise_append.1 hB
 have hZW:Z=W.filter fun p=>decide (p ∉ D):=by
  refine Qe (List.Pairwise.filter _ hW) hZ (h2.trans ?_)
  refine List.Perm.trans ?_ (h1.filter _).symm
  rw [List.filter_append,List.filter_append]
  have f1:B.filter (fun p=>decide (p ∉ D))=B:=List.filter_eq_self.2 fun b hb=>by
   rw [decide_eq_true_eq];intro h;have:=hBD.2.2 b hb b h;omega
  have f2:D.filter (fun p=>decide (p ∉ D))=[]:=List.filter_eq_nil_iff.2 fun d hd=>by simpa using hd
  have f3:P.filter (fun p=>decide (p ∉ D))=P:=List.filter_eq_self.2 fun p hp=>by
   rw [decide_eq_true_eq];intro h;exact hd'.2.2 p (by simp [h]) p hp rfl
  rw [f1,f2,f3,List.append_nil]
 rw [hZW]
 rcases hn with rfl|hn
 ·rw [List.filter_eq_self.2 fun p _=>by simp]
 ·cases hf:W.find? fun p=>decide (p∈D) with
  | none=>
   rw [List.filter_eq_self.2 fun p hp=>by have:=List.find?_eq_none.1 hf p hp;simpa using this]
  | some d=>
   obtain ⟨hd1,W1,W2,rfl,hw1⟩:=List.find?_eq_some_iff_append.1 hf
   have hdD:d∈D:=by simpa using hd1
   have hW':=List.pairwise_append.1 hW
   have hl:B.length≤W1.length:=by
    refine Um (List.Pairwise.imp (fun h e=>by subst e;omega) hBD.1) fun b hb=>?_
    have hlt:=hBD.2.2 b hb d hdD
    have hm:=h1.mem_iff (a:=b)
    simp only [List.mem_append,List.mem_cons,hb,true_or,iff_true] at hm
    rcases hm with h|rfl|h
    ·exact h
    ·omega
    ·have:=(List.pairwise_cons.1 hW'.2.1).1 b h;omega
   have f1:W1.filter (fun p=>decide (p ∉ D))=W1:=List.filter_eq_self.2 fun p hp=>by have:=hw1 p hp;simpa using this
   rw [List.filter_append,f1]
   rw [List.take_append_of_le_length (by omega),List.take_append_of_le_length (by omega)]
theorem afe {k:Nat} {l:List Tok} (h:WT l):WT (l.map (shT k)):=by
 induction h with
 | fin a=>exact .fin _
 | cons t r h1 h2 ih=>exact .cons _ _ ⟨h1.k,h1.ne,h1.len,h1.int⟩ ih
theorem ZJ:∀{b:List Tok} {a:Nat},WT (b++[(4,[],a)])→∀t∈b,Oy t
 | [],a,_,t,ht=>by simp at ht
 | u::b,a,h,t,ht=>by
  generalize hl:u::b++[(4,[],a)]=l at h
  cases h with
  | fin a'=>simp at hl
  | cons v r h1 h2=>
   rw [List.cons_append] at hl
   obtain ⟨rfl,rfl⟩:=List.cons.inj hl
   rcases List.mem_cons.1 ht with rfl|ht
   ·exact h1
   ·exact ZJ h2 t ht
theorem aeQ {T:List Tok} (hw:WT T) (hd:La T) (k:Nat):oh (T.map (shT k)).length (T.map (shT k))=((oh T.length T).1,(oh T.length T).2.map (shP k)):=by
 obtain ⟨L,js,h1,h2,h3⟩:=PI _ T hw hd (Nat.le_refl _)
 rw [h3 _ T (Nat.le_refl _) hw rfl,h3 _ (T.map (shT k)) (by simp) (afe hw) (ZO k T),List.map_map]
 congr 1
 refine List.map_congr_left fun j hj=>?_
 have:=h2 j hj
 have e:hT (T.drop j.1)=T[j.1]:=by rw [List.drop_eq_getElem_cons this];rfl
 rw [Function.comp_apply,e,←List.map_drop,List.drop_eq_getElem_cons this,List.map_cons]
 simp [shT,shP]
def KZ (T:List Tok):Prop:=T.dropLast=[]∨∃b d,T.dropLast=b++[d]∧iT d=true
theorem X4 {x y:List UInt8} (hl:x.length+y.length≤50000) (he:KZ (fM x).1):vP (x++10::y)=((vP x).1++(vP y).1,(vP x).2++(vP y).2.map (shP (x.length+1))):=by
 have hc:=yR x y
 have hwx:=Ph (src:=x) (by omega)
 have hwy:=Ph (src:=y) (by omega)
 have hdx:=JU x
 rw [hc.x1] at hwx hdx
 unfold vP
 rw [hc.t,aeP (afe hwy) (fun t ht=>?_) x.length (body x).length (body x) (Nat.le_refl _) (ZJ hwx) (fun t ht=>hdx t (by simp [ht])) he,aeQ hwy (JU y),hc.x1]
 obtain ⟨u,hu,rfl⟩:=List.mem_map.1 ht
 exact JU y u hu
structure Wx (src:List UInt8) (Z:List Pb):Prop where
 p:Z.Perm ((lexB src).2++(vP src).2)
 s:lF Z
theorem Wx.full {src:List UInt8} {Z:List Pb} (h:Wx src Z) (hl:(Z.take 64).length≠64):Z.take 64=Z∧Z.Perm ((fM src).2++(vP src).2):=by
 have h1:=h.p.length_eq
 have h2:=h.p
 rw [FK] at h1 h2
 simp only [List.length_append,List.length_take] at h1 hl h2
 refine ⟨List.take_of_length_le (by omega), ?_⟩
 rwa [List.take_of_length_le (by omega)] at h2
theorem af0 {k:Nat} {D:List Pb} (h:LtP D):LtP (D.map (shP k)):=by
 unfold LtP;rw [List.pairwise_map]
 exact List.Pairwise.imp (fun h=>by simp only [shP];omega) h
theorem abK {x y:List UInt8} (hl:x.length+y.length≤50000) (he:KZ (fM x).1) {Zx Zy Zb:List Pb} (hx:Wx x Zx) (hy:Wx y Zy) (hb:Wx (x++10::y) Zb) (h1:(Zx.take 64).length≠64) (h2:(Zy.take 64).length≠64):
  Zb.take 64=(Zx++Zy.map (shP (x.length+1))).take 64:=by
 have hc:=yR x y
 have hc':=yR y []
 obtain ⟨_,px⟩:=hx.full h1
 obtain ⟨_,py⟩:=hy.full h2
 have ltx:=afo hx.s ((aaz (by omega)).perm px.symm)
 have lty:=afo hy.s ((aaz (by omega)).perm py.symm)
 have hcat:=X4 hl he
 have bx:∀p∈Zx,p.1≤x.length:=fun p hp=>by
  rcases List.mem_append.1 (px.mem_iff.1 hp) with h|h
  ·have:=hc.x2 p h;omega
  ·obtain ⟨t,ht,e⟩:=(KG (src:=x) (by omega)).2 p h
   rw [hc.x1] at ht
   rcases List.mem_append.1 ht with ht|ht
   ·have:=hc.bd t ht;omega
   ·simp at ht;subst ht;simp at e;omega
 have by':∀p∈Zy,0≤p.1:=fun p hp=>by
  rcases List.mem_append.1 (py.mem_iff.1 hp) with h|h
  ·have:=hc'.x2 p h;omega
  ·obtain ⟨t,ht,e⟩:=(KG (src:=y) (by omega)).2 p h
   omega
 have hW:LtP (Zx++Zy.map (shP (x.length+1))):=by
  refine List.pairwise_append.2 ⟨ltx,af0 lty,fun p hp q hq=>?_⟩
  obtain ⟨r,hr,rfl⟩:=List.mem_map.1 hq
  have:=bx p hp;have:=by' r hr
  simp only [shP];omega
 have hz:=hb.p
 rw [FK,hcat] at hz
 simp only [] at hz
 have hBD:LtP ((fM (x++10::y)).2.take 64++(fM (x++10::y)).2.drop 64):=by rw [List.take_append_drop];exact (Q8 _).b
 refine aco hW hb.s ?_ hz hBD ?_
 ·rw [List.take_append_drop,hc.p]
  refine (px.append (py.map _)).trans ?_
  rw [List.map_append]
  have e:∀A B C D:List Pb,(A++B++(C++D)).Perm (A++C++(B++D)):=fun A B C D=>by
   rw [List.append_assoc,List.append_assoc]
   refine List.Perm.append_left A ?_
   rw [←List.append_assoc,←List.append_assoc]
   exact List.Perm.append_right D List.perm_append_comm
  exact e _ _ _ _
 ·by_cases h:(fM (x++10::y)).2.length≤64
  ·exact .inl (List.drop_eq_nil_of_le h)
  ·right;rw [List.length_take];omega
end Go.Ai.Z
namespace Go.Ai.Z
def Zk:List Int:=[20,21,22,30,2]
def akI:List Int:=10::Zk
theorem acd:∀c:C,iI c=0∨iI c=20∨iI c=21:=by
 refine C.ind' (P:=fun c=>iI c=0∨iI c=20∨iI c=21) fun c ih=>?_
 have hl:∀l:List C,(∀p∈l,iI p=0∨iI p=20∨iI p=21)→qV l=0∨qV l=20∨qV l=21:=by
  intro l h
  induction l with
  | nil=>exact .inl rfl
  | cons p r ih'=>
   simp only [qV]
   split
   ·exact ih' fun q hq=>h q (by simp [hq])
   ·exact h p (by simp)
 rw [BN]
 split
 ·exact .inr (.inr rfl)
 ·split
  ·exact .inr (.inl rfl)
  ·exact hl _ ih
theorem UR (c:C):jl c=0∨jl c=20∨jl c=21:=by
 unfold jl;split
 ·exact .inr (.inr rfl)
 ·exact acd c
theorem Ya (y:Ax):jV y=0∨jV y∈Zk:=by
 unfold jV
 split
 ·exact .inr (by decide)
 split
 ·exact .inr (by decide)
 unfold Ns
 split
 ·rename_i hc
  rcases UR y.left with k|k|k
  ·exact absurd k hc.2
  ·rw [k];exact .inr (by decide)
  ·rw [k];exact .inr (by decide)
 split
 ·rename_i hc
  rcases UR y.right with k|k|k
  ·exact absurd k hc.2
  ·rw [k];exact .inr (by decide)
  ·rw [k];exact .inr (by decide)
 split
 ·exact .inr (by decide)
 ·exact .inl rfl
theorem aeh {y:Ax} (h:y.Parsed 99999) (he:(tyA y).2≠0):(tyA y).2∈Zk:=by
 have ha:=(P5 h).a
 unfold SI at ha
 split at ha
 ·unfold zk at ha
  split at ha
  ·exact absurd ha.2 he
  ·rw [ha];decide
 ·rw [ha.2] at he ⊢
  rcases Ya y with h|h
  ·exact absurd h he
  ·exact h
structure TdA (a:Ax):Prop where
 c:jV a=0
 f:a.Few
 t:zh a=some (nzA a)
theorem afM {y:Ax} (h:y.Parsed 99999) (he:(tyA y).2=0):TdA (tyA y).1:=by
 have ha:=(P5 h).a
 unfold SI at ha
 split at ha
 ·rename_i h0
  unfold zk at ha
  split at ha
  ·rename_i t ht
   obtain ⟨v1,v2,v3⟩:=aaI h h0 ht ha.1
   exact ⟨v1,v2,by rw [v3,ha.1]⟩
  ·rw [ha] at he;cases he
 ·rename_i h0
  exact absurd (ha.2.symm.trans he) h0
theorem afN {T r:List Tok} (h:Suf T r):tw r≤tw T:=by
 obtain ⟨⟨p,rfl⟩,_⟩:=h
 rw [aci];omega
theorem Zf {l r:List Tok} {x:Ax} (hw:WT l) (ht:tw l≤99999) (h:vV l=.ok x r):x.Parsed 99999:=by
 unfold vV at h
 obtain ⟨y,l1,e1,h⟩:=aA.1 h
 obtain ⟨u,l2,e2,h⟩:=aA.1 h
 cases h
 exact (JF hw e1).mono ht
theorem aeO {l r:List Tok} {a c:Int} (hw:WT l) (h:vV l=.er a c r):c∈Zk:=by
 have hn:NZ (vV l):=(Xr hw).bind fun _ _ _=>(CJ _ _).bind fun _ _ _=>NZ.ok _ _
 rcases hn a c r h with h|h|h<;>rw [h]<;>decide
theorem aaq {T:List Tok} (hTw:tw T≤99999):∀(n:Nat) {r:List Tok},Suf T r→(∀a∈(oh n r).1,TdA a)∧∀p∈(oh n r).2,p.2∈Zk
 | 0,r,h=>by simp [oh]
 | n+1,r,h=>by
  by_cases hk:(hT r).1=4
  ·rw [xP hk];simp
  ·obtain ⟨h1,_⟩:=J6 h hk
   obtain ⟨i1,i2⟩:=aaq hTw n h1
   have htr:=afN h
   rw [vF n hk]
   have hit:((nN r).1.2.2.2=true→(nN r).1.2.2.1∈Zk)∧((nN r).1.2.2.2=false→TdA (nN r).1.1):=by
    unfold nN
    cases hp:vV r with
    | er a c q=>exact ⟨fun _=>aeO h.w hp,fun h=>by cases h⟩
    | ok x q=>
     have hpa:=Zf h.w (by omega) hp
     refine ⟨fun he=>aeh hpa (by simpa using he),fun he=>afM hpa (by simpa using he)⟩
   split
   ·rename_i hb
    refine ⟨i1,fun p hp=>?_⟩
    rcases List.mem_cons.1 hp with rfl|hp
    ·exact hit.1 hb
    ·exact i2 p hp
   ·rename_i hb
    refine ⟨fun a ha=>?_,i2⟩
    rcases List.mem_cons.1 ha with rfl|ha
    ·exact hit.2 (by simpa using hb)
    ·exact i1 a ha
theorem VO {src:List UInt8} (hl:src.length≤40000):(∀a∈(vP src).1,TdA a)∧∀p∈(vP src).2,p.2∈Zk:=by
 obtain ⟨hw,ht⟩:=zG (src:=src) (by omega)
 rw [DV] at hw ht
 exact aaq (by omega) _ (Jt hw).1
theorem XY {src:List UInt8} (hl:src.length≤40000) {Z:List Pb} (h:Wx src Z):∀p∈Z,p.2∈akI∧0≤p.1∧p.1≤src.length:=by
 intro p hp
 have hc:=yR src []
 rcases List.mem_append.1 (h.p.mem_iff.1 hp) with h|h
 ·rw [FK] at h
  have:=hc.x2 p (List.mem_of_mem_take h)
  exact ⟨by rw [this.2.2];decide,by omega,by omega⟩
 ·refine ⟨List.mem_cons_of_mem _ ((VO hl).2 p h), ?_⟩
  obtain ⟨t,ht,e⟩:=(KG (src:=src) (by omega)).2 p h
  have:=acj t ht
  omega
end Go.Ai.Z
