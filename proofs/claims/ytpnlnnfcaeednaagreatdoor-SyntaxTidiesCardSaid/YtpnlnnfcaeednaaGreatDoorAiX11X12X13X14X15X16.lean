/-
 Documents, segment by segment.
-/
import Derived.Test.YtpnlnnfcaeednaaGreatDoorAiX5X6X7X8X9
import Derived.Test.YtpnlnnfcaeednaaGreatDoorAiY9Y10Y11
import Derived.Test.YtpnlnnfcaeednaaGreatDoorAiU1U2U3U4
import Derived.Test.YtpnlnnfcaeednaaGreatDoorAiK10K11K12K13K14KJKLKM
import Derived.Test.YtpnlnnfcaeednaaGreatDoorAiY12X3X4
set_option maxRecDepth 100000
set_option linter.unusedSimpArgs false
set_option linter.unusedVariables false
set_option linter.unusedSectionVars false
namespace Go.Ai.Z
def Seg (p:List Tok):Prop:=∀t∈p,X7 t∧jC t=false
theorem ab4 {t t':Tok} (h:lY t'=lY t):jC t'=jC t:=by
 simp only [lY,Prod.mk.injEq] at h
 unfold jC
 rw [h.1,h.2]
theorem Jz {q:List Tok} {d:Tok} (hd:jC d=true):∀{p:List Tok},(∀t∈p,jC t=false)→upto (p++d::q)=p.map lY
 | [],_=>by rw [List.nil_append,upto,if_pos hd];rfl
 | t::p,hp=>by
  rw [List.cons_append,upto,if_neg (by rw [hp t (by simp)];decide),Jz hd fun u hu=>hp u (by simp [hu])]
  rfl
theorem abO {r:List Tok} (hr:WT r):∀{p:List Tok},(∀t∈p,X7 t)→WT (p++r)
 | [],_=>hr
 | t::p,h=>.cons t _ (h t (by simp)) (abO hr fun u hu=>h u (by simp [hu]))
theorem Py:∀{p:List Tok} {d:Tok} {q:List Tok},WT (p++d::q)→(∀t∈p,jC t=false)→(∀t∈p,X7 t)∧WT (d::q)
 | [],d,q,h,_=>⟨fun t ht=>by simp at ht,h⟩
 | t::p,d,q,h,hp=>by
  have ht:=hp t (by simp)
  generalize hl:t::p++d::q=l at h
  cases h with
  | fin a=>
   simp at hl
  | cons u r h1 h2=>
   rw [List.cons_append] at hl
   obtain ⟨rfl,rfl⟩:=List.cons.inj hl
   obtain ⟨k1,k2⟩:=Py h2 fun u hu=>hp u (by simp [hu])
   exact ⟨fun u hu=>by rcases List.mem_cons.1 hu with rfl|hu;exact h1;exact k1 u hu,k2⟩
theorem U9 {p p':List Tok} (h:p'.map lY=p.map lY) {t:Tok} (ht:t∈p'):∃u∈p,lY t=lY u:=by
 have:lY t∈p'.map lY:=List.mem_map.2 ⟨t,ht,rfl⟩
 rw [h] at this
 obtain ⟨u,hu,he⟩:=List.mem_map.1 this
 exact ⟨u,hu,he.symm⟩
theorem FB {p p':List Tok} (hp:∀t∈p,jC t=false) (h:p'.map lY=p.map lY):∀t∈p',jC t=false:=fun t ht=>by
 obtain ⟨u,hu,he⟩:=U9 h ht
 rw [ab4 he];exact hp u hu
inductive Zn (α:Type) where
 | ok (v:α) (k:Nat)
 | er (c:Int) (k:Nat)
def Zn.k {α:Type}:Zn α→Nat
 | .ok _ k=>k
 | .er _ k=>k
def Zn.at {α:Type} (x:Zn α) (p:List Tok) (r:List Tok):PR α:=match x with
 | .ok v k=>.ok v (p.drop k++r)
 | .er c k=>.er (hT (p.drop k++r)).2.2 c (p.drop k++r)
theorem XD {l s r:List Tok} (h:l=s++r):r=l.drop s.length:=by rw [h,List.drop_left]
theorem zN.cut {α:Type} {f:List Tok→PR α} (hf:zN f) (hg:∀l,WT l→AX l (f l)) {p:List Tok} (hp:Seg p):
  ∃x:Zn α,x.k≤p.length∧∀p' d q,p'.map lY=p.map lY→jC d=true→WT (p'++d::q)→f (p'++d::q)=x.at p' (d::q):=by
 have w0:WT (p++[(4,[],0)]):=abO (.fin 0) fun t ht=>(hp t ht).1
 have u0:upto (p++[(4,[],0)])=p.map lY:=Jz (d:=(4,[],0)) rfl fun t ht=>(hp t ht).2
 cases hx:f (p++[(4,[],0)]) with
 | ok v r=>
  obtain ⟨s,hs⟩:=Uh (hg _ w0) hx
  have hl:=congrArg List.length hs
  simp only [List.length_append,List.length_cons,List.length_nil] at hl
  have hrw:WT r:=by have:=hg _ w0;rw [hx] at this;exact this.1
  have:=Pz hrw
  refine ⟨.ok v s.length,by show s.length≤p.length;omega,fun p' d q h1 h2 h3=>?_⟩
  have hpl:p'.length=p.length:=by have:=congrArg List.length h1;simpa using this
  have h4:=hf _ _ w0 h3 (by rw [u0,Jz h2 (FB (fun t ht=>(hp t ht).2) h1),h1])
  cases hy:f (p'++d::q) with
  | er a c r'=>rw [hx,hy] at h4;exact absurd h4 (by simp [Ez])
  | ok v' r'=>
   rw [hx,hy] at h4
   obtain ⟨rfl,_,_,_,h5⟩:=h4
   obtain ⟨s',hs'⟩:=Uh (hg _ h3) hy
   have hl':=congrArg List.length hs'
   simp only [List.length_append,List.length_cons,List.length_nil] at hl' h5
   have he:s'.length=s.length:=by omega
   show PR.ok v r'=PR.ok v (p'.drop s.length++d::q)
   rw [XD hs',he,List.drop_append_of_le_length (by omega)]
 | er a c r=>
  obtain ⟨s,hs⟩:=Jl (hg _ w0) hx
  have hl:=congrArg List.length hs
  simp only [List.length_append,List.length_cons,List.length_nil] at hl
  have hrw:WT r:=by have:=hg _ w0;rw [hx] at this;exact this.1
  have:=Pz hrw
  refine ⟨.er c s.length,by show s.length≤p.length;omega,fun p' d q h1 h2 h3=>?_⟩
  have hpl:p'.length=p.length:=by have:=congrArg List.length h1;simpa using this
  have h4:=hf _ _ w0 h3 (by rw [u0,Jz h2 (FB (fun t ht=>(hp t ht).2) h1),h1])
  cases hy:f (p'++d::q) with
  | ok v r'=>rw [hx,hy] at h4;exact absurd h4 (by simp [Ez])
  | er a' c' r'=>
   rw [hx,hy] at h4
   obtain ⟨rfl,_,_,_,h5,_,h6⟩:=h4
   obtain ⟨s',hs'⟩:=Jl (hg _ h3) hy
   have hl':=congrArg List.length hs'
   simp only [List.length_append,List.length_cons,List.length_nil] at hl' h5
   have he:s'.length=s.length:=by omega
   show PR.er a' c r'=PR.er _ c (p'.drop s.length++d::q)
   rw [h6,XD hs',he,List.drop_append_of_le_length (by omega)]
theorem Wy:∀{p:List Tok} {d:Tok} {q:List Tok},(∀t∈p,t.1≠4∧t.2.1≠[46])→jC d=true→lS (p++d::q)=if d.1=4 then d::q else q
 | [],d,q,_,hd=>by
  rw [List.nil_append,lS]
  split
  ·rfl
  ·rename_i h4
   have hs:d.1=4∨(d.1=3∧d.2.1=[46]):=by simpa [jC] using hd
   rw [if_pos (by rcases hs with h|h;exact absurd h h4;exact h.2)]
 | t::p,d,q,hp,hd=>by
  obtain ⟨h1,h2⟩:=hp t (by simp)
  rw [List.cons_append,lS,if_neg h1,if_neg h2]
  exact Wy (fun u hu=>hp u (by simp [hu])) hd
structure aiU where
 x:Ax
 e:Int
 b:Bool
 k:Nat
theorem Xj {p:List Tok} (hp:Seg p) (dot:Bool) (hne:dot=false→p≠[]):∃v:aiU,v.k≤p.length∧∀p' d q,p'.map lY=p.map lY→(∀t∈p',t.2.1=[46]→t.1=3)→(if dot=true then d.1=3∧d.2.1=[46] else d.1=4∧d.2.1=[])→WT (p'++d::q)→
  nI (p'++d::q)=((v.x,((hT (p'.drop v.k++d::q)).2.2:Int),v.e,v.b),if dot=true then q else d::q):=by
 obtain ⟨x,hk,hx⟩:=Qe.cut (fun l h=>(D7 h).zero) hp
 have hds:∀{d:Tok},(if dot=true then d.1=3∧d.2.1=[46] else d.1=4∧d.2.1=[])→jC d=true∧(if d.1=4 then true else false)=!dot:=by
  intro d h
  cases dot with
  | true=>simp only [if_true] at h;exact ⟨by simp [jC,h.1,h.2],by simp [h.1]⟩
  | false=>simp only [Bool.false_eq_true,if_false] at h;exact ⟨by simp [jC,h.1],by simp [h.1]⟩
 have hnd:∀{p':List Tok},p'.map lY=p.map lY→(∀t∈p',t.2.1=[46]→t.1=3)→∀t∈p',t.1≠4∧t.2.1≠[46]:=by
  intro p' h1 h2 t ht
  have:=FB (fun t ht=>(hp t ht).2) h1 t ht
  have hs:¬(t.1=4∨(t.1=3∧t.2.1=[46])):=fun h=>by
   have:jC t=true:=by simpa [jC] using h
   simp_all
  exact ⟨fun h=>hs (.inl h),fun h=>hs (.inr ⟨h2 t ht h,h⟩)⟩
 have hfail:∀(c:Int) (k:Nat) {p':List Tok} {d:Tok} {q:List Tok},p'.map lY=p.map lY→(∀t∈p',t.2.1=[46]→t.1=3)→(if dot=true then d.1=3∧d.2.1=[46] else d.1=4∧d.2.1=[])→
   vS (p'++d::q)=.er (hT (p'.drop k++d::q)).2.2 c (p'.drop k++d::q)→nI (p'++d::q)=((zA,((hT (p'.drop k++d::q)).2.2:Int),c,true),if dot=true then q else d::q):=by
  intro c k p' d q h1 h2 h3 h4
  obtain ⟨d1,d2⟩:=hds h3
  unfold nI
  rw [h4]
  simp only []
  rw [Wy (fun t ht=>hnd h1 h2 t (List.mem_of_mem_drop ht)) d1]
  cases dot with
  | true=>rw [if_neg (by intro h;simp [h] at d2)];rfl
  | false=>rw [if_pos (by by_cases h:d.1=4;exact h;simp [h] at d2)];rfl
 cases x with
 | er c k=>
  refine ⟨⟨zA,c,true,k⟩,hk,fun p' d q h1 h2 h3 h4=>?_⟩
  refine hfail c k h1 h2 h3 ?_
  unfold vS
  rw [hx p' d q h1 (hds h3).1 h4]
  rfl
 | ok y k=>
  by_cases hkk:k=p.length∧dot=true
  ·obtain ⟨rfl,rfl⟩:=hkk
   refine ⟨⟨(tyA y).1,(tyA y).2,decide ((tyA y).2≠0),0⟩,Nat.zero_le _,fun p' d q h1 h2 h3 h4=>?_⟩
   have hpl:p'.length=p.length:=by have:=congrArg List.length h1;simpa using this
   simp only [if_true] at h3
   have hd:vS (p'++d::q)=.ok y q:=by
    unfold vS
    rw [hx p' d q h1 (by simp [jC,h3.1,h3.2]) h4]
    simp only [Zn.at,PR.bind_ok]
    rw [←hpl,List.drop_length,List.nil_append]
    unfold kJ
    rw [if_pos (show txt (d::q)=[46] from h3.2)]
    rfl
   unfold nI
   rw [hd]
   rfl
  ·refine ⟨⟨zA,30,true,k⟩,hk,fun p' d q h1 h2 h3 h4=>?_⟩
   have hpl:p'.length=p.length:=by have:=congrArg List.length h1;simpa using this
   refine hfail 30 k h1 h2 h3 ?_
   unfold vS
   rw [hx p' d q h1 (hds h3).1 h4]
   simp only [Zn.at,PR.bind_ok]
   have hne:txt (p'.drop k++d::q)≠[46]:=by
    by_cases hk2:k=p.length
    ·have hdt:dot=false:=by cases dot with|true=>exact absurd ⟨hk2,rfl⟩ hkk|false=>rfl
     subst hdt
     simp only [Bool.false_eq_true,if_false] at h3
     rw [hk2,←hpl,List.drop_length,List.nil_append,dL,h3.2]
     decide
    ·have hk3:k≤p.length:=hk
     cases hdr:p'.drop k with
     | nil=>
      have:=congrArg List.length hdr
      simp only [List.length_drop,List.length_nil] at this
      omega
     | cons t s=>
      rw [List.cons_append,dL]
      exact (hnd h1 h2 t (List.mem_of_mem_drop (i:=k) (by rw [hdr];simp))).2
   unfold kJ
   rw [if_neg hne,PR.bind_er]
end Go.Ai.Z
namespace Go.Ai.Z
def afg (T:List Tok):Prop:=∀t∈T,t.2.1=[46]→t.1=3
theorem Ri:∀{b:List Tok},(∃t∈b,jC t=true)→∃p d q,b=p++d::q∧(∀t∈p,jC t=false)∧jC d=true
 | [],h=>by obtain ⟨t,ht,_⟩:=h;simp at ht
 | t::b,h=>by
  by_cases ht:jC t=true
  ·exact ⟨[],t,b,rfl,fun u hu=>by simp at hu,ht⟩
  ·obtain ⟨u,hu,hs⟩:=h
   obtain ⟨p,d,q,h1,h2,h3⟩:=Ri (b:=b) (by
    rcases List.mem_cons.1 hu with rfl|hu
    ·exact absurd hs ht
    ·exact ⟨u,hu,hs⟩)
   refine ⟨t::p,d,q,by rw [h1];rfl,fun v hv=>?_,h3⟩
   rcases List.mem_cons.1 hv with rfl|hv
   ·simpa using ht
   ·exact h2 v hv
theorem adX {T:List Tok} (h:WT T):∃t∈T,jC t=true:=by
 induction h with
 | fin a=>exact ⟨_,List.mem_singleton.2 rfl,rfl⟩
 | cons t r _ _ ih=>obtain ⟨u,hu,hs⟩:=ih;exact ⟨u,List.mem_cons_of_mem _ hu,hs⟩
theorem PV {d:Tok} {q:List Tok} (h:WT (d::q)) (hd:jC d=true):(d.1=4∧d.2.1=[]∧q=[])∨(d.1=3∧d.2.1=[46]∧WT q):=by
 have hs:d.1=4∨(d.1=3∧d.2.1=[46]):=by simpa [jC] using hd
 generalize hl:d::q=l at h
 cases h with
 | fin a=>obtain ⟨rfl,rfl⟩:=List.cons.inj hl;exact .inl ⟨rfl,rfl,rfl⟩
 | cons t r h1 h2=>
  obtain ⟨rfl,rfl⟩:=List.cons.inj hl
  rcases hs with hs|hs
  ·rcases h1.k with k|k|k<;>omega
  ·exact .inr ⟨hs.1,hs.2,h2⟩
theorem LU {T' p q:List Tok} {d:Tok} (h:T'.map lY=(p++d::q).map lY):∃p' d' q',T'=p'++d'::q'∧p'.map lY=p.map lY∧lY d'=lY d∧q'.map lY=q.map lY:=by
 rw [List.map_append,List.map_cons] at h
 obtain ⟨p',r,rfl,h1,h2⟩:=List.map_eq_append_iff.1 h
 obtain ⟨d',q',rfl,h3,h4⟩:=List.map_eq_cons_iff.1 h2
 exact ⟨p',d',q',rfl,h1,h3,h4⟩
theorem Xo {p:List Tok} {d:Tok} {q:List Tok} (hp:∀t∈p,jC t=false) (hd:p=[]→d.1≠4):(hT (p++d::q)).1≠4:=by
 cases p with
 | nil=>exact hd rfl
 | cons t p=>
  intro h
  have h1:=hp t (by simp)
  have:jC t=true:=by simp only [jC];simp at h;simp [h]
  rw [this] at h1;cases h1
theorem ZX:∀(n:Nat) (T:List Tok),WT T→afg T→T.length≤n→∃(L:List Ax) (js:List (Nat×Int)),js.Pairwise (fun a b=>a.1<b.1)∧(∀j∈js,j.1<T.length)∧
  ∀(m:Nat) (T':List Tok),T.length≤m→WT T'→T'.map lY=T.map lY→rU m T'=(L,js.map fun j=>(((hT (T'.drop j.1)).2.2:Int),j.2))
 | 0,T,hw,hd,hn=>by have:=Pz hw;omega
 | n+1,T,hw,hd,hn=>by
  obtain ⟨p,d,q,rfl,hp,hs⟩:=Ri (adX hw)
  obtain ⟨hpt,hwd⟩:=Py hw hp
  have hseg:Seg p:=fun t ht=>⟨hpt t ht,hp t ht⟩
  rcases PV hwd hs with ⟨d1,d2,d3⟩|⟨d1,d2,d3⟩
  ·subst d3
   by_cases hpe:p=[]
   ·subst hpe
    refine ⟨[],[],List.Pairwise.nil,fun j hj=>by simp at hj,fun m T' _ _ hT'=>?_⟩
    obtain ⟨p',d',q',rfl,h1,h2,h3⟩:=LU hT'
    have hp':p'=[]:=by simpa using h1
    subst hp'
    have:d'.1=4:=by simp only [lY,Prod.mk.injEq] at h2;rw [h2.1];exact d1
    exact AB this
   ·obtain ⟨v,hv1,hv2⟩:=Xj hseg false fun _=>hpe
    refine ⟨if v.b=true then [] else [v.x],if v.b=true then [(v.k,v.e)] else [],by split<;>simp,fun j hj=>?_,fun m T' hm hT1 hT'=>?_⟩
    ·split at hj
     ·simp at hj;subst hj;simp;omega
     ·simp at hj
    ·obtain ⟨p',d',q',rfl,h1,h2,h3⟩:=LU hT'
     have hq':q'=[]:=by simpa using h3
     subst hq'
     have hd':d'.1=4∧d'.2.1=[]:=by simp only [lY,Prod.mk.injEq] at h2;exact ⟨by rw [h2.1];exact d1,by rw [h2.2];exact d2⟩
     have hp2:=FB hp h1
     have hdk:∀t∈p',t.2.1=[46]→t.1=3:=fun t ht e=>by
      obtain ⟨u,hu,he⟩:=U9 h1 ht
      simp only [lY,Prod.mk.injEq] at he
      rw [he.1];exact hd u (by simp [hu]) (by rw [←he.2];exact e)
     have hp'ne:p'≠[]:=fun h=>hpe (by rw [h] at h1;simpa using h1.symm)
     obtain ⟨m,rfl⟩:∃m',m=m'+1:=⟨m - 1,by simp at hm;omega⟩
     have hi:=hv2 p' d' [] h1 hdk (by simpa using hd') hT1
     rw [yF m (Xo hp2 fun h=>absurd h hp'ne),hi]
     simp only [Bool.false_eq_true,if_false]
     rw [AB (show (hT [d']).1=4 from hd'.1)]
     cases v.b with
     | true=>
      simp only [if_true,List.map_cons,List.map_nil]
      rw [List.drop_append_of_le_length (by have:=congrArg List.length h1;simp at this;omega)]
     | false=>simp
  ·obtain ⟨v,hv1,hv2⟩:=Xj hseg true fun h=>by cases h
   have hdq:afg q:=fun t ht=>hd t (by simp [ht])
   obtain ⟨L,js,i1,i2,i3⟩:=ZX n q d3 hdq (by simp at hn;omega)
   refine ⟨if v.b=true then L else v.x::L,(if v.b=true then [(v.k,v.e)] else [])++js.map fun j=>(j.1+(p.length+1),j.2), ?_,fun j hj=>?_,fun m T' hm hT1 hT'=>?_⟩
   ·rw [List.pairwise_append]
    refine ⟨by split<;>simp, ?_,fun a ha b hb=>?_⟩
    ·rw [List.pairwise_map]
     exact i1.imp fun h=>by simp only [];omega
    ·obtain ⟨c,hc,rfl⟩:=List.mem_map.1 hb
     split at ha
     ·simp at ha;subst ha;simp only [];omega
     ·simp at ha
   ·rcases List.mem_append.1 hj with hj|hj
    ·split at hj
     ·simp at hj;subst hj;simp;omega
     ·simp at hj
    ·obtain ⟨c,hc,rfl⟩:=List.mem_map.1 hj
     have:=i2 c hc
     simp only [List.length_append,List.length_cons];omega
   ·obtain ⟨p',d',q',rfl,h1,h2,h3⟩:=LU hT'
    have hpl:p'.length=p.length:=by have:=congrArg List.length h1;simpa using this
    have hd':d'.1=3∧d'.2.1=[46]:=by simp only [lY,Prod.mk.injEq] at h2;exact ⟨by rw [h2.1];exact d1,by rw [h2.2];exact d2⟩
    have hp2:=FB hp h1
    have hdk:∀t∈p',t.2.1=[46]→t.1=3:=fun t ht e=>by
     obtain ⟨u,hu,he⟩:=U9 h1 ht
     simp only [lY,Prod.mk.injEq] at he
     rw [he.1];exact hd u (by simp [hu]) (by rw [←he.2];exact e)
    obtain ⟨m,rfl⟩:∃m',m=m'+1:=⟨m - 1,by simp at hm;omega⟩
    have hi:=hv2 p' d' q' h1 hdk (by simpa using hd') hT1
    have hwq:WT q':=by
     have h4:=(Py hT1 hp2).2
     rcases PV h4 (by simp [jC,hd'.1,hd'.2]) with ⟨k,_⟩|⟨_,_,k⟩
     ·omega
     ·exact k
    rw [yF m (Xo hp2 fun _=>by omega),hi]
    simp only [if_true]
    rw [i3 m q' (by simp at hm;omega) hwq h3]
    have hdr:∀j,(p'++d'::q').drop (j+(p.length+1))=q'.drop j:=fun j=>by
     rw [show j+(p.length+1)=p'.length+(1+j) by omega,←List.drop_drop,List.drop_left,←List.drop_drop];rfl
    cases v.b with
    | true=>
     simp only [if_true,List.map_append,List.map_cons,List.map_nil,List.map_map,List.singleton_append]
     rw [List.drop_append_of_le_length (by omega)]
     refine congrArg (fun z=>(L,_::z)) (List.map_congr_left fun j _=>?_)
     simp only [Function.comp_apply,hdr]
    | false=>
     simp only [Bool.false_eq_true,if_false,List.nil_append,List.map_map]
     congr 2
     funext j
     simp only [Function.comp_apply,hdr]
end Go.Ai.Z
namespace Go.Ai.Z
theorem Zu {c:C} (h1:oO c=true) (h2:xH c=true) (h3:∀p∈c.parts,iJ p=0):iJ c=0:=by
 rw [BP,if_neg (by rw [h1];decide),if_neg (by rw [h2];decide)]
 generalize c.parts=l at h3
 induction l with
 | nil=>simp [qP]
 | cons p r ih=>
  rw [qP,if_pos (h3 p (by simp))]
  exact ih fun q hq=>h3 q (by simp [hq])
theorem Zt:∀c:C,iJ (nz c)=iJ c:=by
 refine C.ind' fun c ih=>?_
 have hl:∀qs:List C,(∀p∈qs,iJ (nz p)=iJ p)→qP (qs.map nz)=qP qs:=by
  intro qs
  induction qs with
  | nil=>intro _;rfl
  | cons p r ihr=>
   intro hp
   simp only [List.map_cons,qP,hp p (by simp),ihr fun q hq=>hp q (by simp [hq])]
 have h1:oO (nz c)=oO c:=by simp only [oO,qJ,xG,TN,TP,nS,List.length_map]
 have h2:xH (nz c)=xH c:=by simp only [xH,qJ,xG]
 rw [BP (nz c),BP c,h1,h2,nS,hl c.parts ih]
theorem XG:∀c:C,mY (nz c)=mY c:=by
 refine C.ind' fun c ih=>?_
 have hl:∀qs:List C,(∀p∈qs,mY (nz p)=mY p)→qH (qs.map nz)=qH qs:=by
  intro qs
  induction qs with
  | nil=>intro _;rfl
  | cons p r ihr=>
   intro hp
   simp only [List.map_cons,qH,hp p (by simp),ihr fun q hq=>hp q (by simp [hq])]
 rw [vw (nz c),vw c,nS,hl c.parts ih]
theorem aag:∀c:C,ng (nz c)=ng c:=by
 refine C.ind' fun c ih=>?_
 have hl:∀qs:List C,(∀p∈qs,ng (nz p)=ng p)→rF (qs.map nz)=rF qs:=by
  intro qs
  induction qs with
  | nil=>intro _;rfl
  | cons p r ihr=>
   intro hp
   simp only [List.map_cons,rF,hp p (by simp),ihr fun q hq=>hp q (by simp [hq])]
 rw [Gu (nz c),Gu c,qJ,nS,hl c.parts ih]
theorem adC (c:C):jl (nz c)=jl c:=by unfold jl;rw [XG,DF,Zt]
theorem G7 {l:List C} {D:Nat} (h:∀p∈l,1+mY p≤D):qH l≤D:=by
 induction l with
 | nil=>exact Nat.zero_le _
 | cons p r ih=>
  have h1:=h p (by simp)
  have h2:=ih fun q hq=>h q (by simp [hq])
  simp only [qH];omega
theorem Y3 {l:List C} {p:C} (h:p∈l):1+mY p≤qH l:=by
 induction l with
 | nil=>cases h
 | cons q r ih=>
  simp only [qH]
  rcases List.mem_cons.1 h with rfl|h
  ·omega
  ·have:=ih h;omega
theorem BR {l:List C} {p:C} (h:p∈l):dH p≤dY l:=by
 induction l with
 | nil=>cases h
 | cons q r ih=>
  simp only [dY]
  rcases List.mem_cons.1 h with rfl|h
  ·omega
  ·have:=ih h;omega
theorem aau {l m:List C} (h:l.Sublist m):dY l≤dY m:=by
 induction h with
 | slnil=>exact Nat.le_refl _
 | cons a _ ih=>simp only [dY];omega
 | cons_cons a _ ih=>simp only [dY];omega
theorem Yl {l m:List C} (h:l.Perm m):dY l=dY m:=by
 induction h with
 | nil=>rfl
 | cons a _ ih=>simp only [dY,ih]
 | swap a b l=>simp only [dY];omega
 | trans _ _ h1 h2=>exact h1.trans h2
theorem Tn:∀qs:List C,dY (qs.flatMap iV)≤dY qs
 | []=>Nat.le_refl _
 | q::r=>by
  have ih:=Tn r
  have hq:dY (iV q)≤dH q:=by
   unfold iV
   split
   ·exact Nat.zero_le _
   ·split
    ·rw [oN];omega
    ·simp [dY]
  rw [List.flatMap_cons,BU]
  simp only [dY];omega
theorem UD {l:List C}:rF l=true ↔ ∃p∈l,ng p=true:=by
 induction l with
 | nil=>simp [rF]
 | cons p r ih=>simp [rF,ih]
structure Val (t c:C):Prop where
 w:iJ t=0
 s:dH t≤dH c
 d:mY t≤mY c
 b:ng t=true→ng c=true
theorem IU:∀{ps qs:List C},(∀p∈ps,∀t,mJ p=some t→Val t p)→jT ps=some qs→
  dY qs≤dY ps∧(∀q∈qs,iJ q=0∧1+mY q≤qH ps∧(ng q=true→rF ps=true))∧qs.length=ps.length
 | [],qs,_,h=>by simp [jT] at h;subst h;exact ⟨Nat.le_refl _,fun q hq=>(by cases hq),rfl⟩
 | p::r,qs,hp,h=>by
  simp only [jT] at h
  cases h1:mJ p with
  | none=>rw [h1] at h;cases h
  | some x=>
   rw [h1] at h
   cases h2:jT r with
   | none=>rw [h2] at h;cases h
   | some xs=>
    rw [h2] at h
    cases h
    obtain ⟨i1,i2,i3⟩:=IU (fun q hq=>hp q (by simp [hq])) h2
    have hv:=hp p (by simp) x h1
    refine ⟨by have:=hv.s;simp only [dY];omega,fun q hq=>?_,by simp [i3]⟩
    rcases List.mem_cons.1 hq with rfl|hq
    ·refine ⟨hv.w,by have:=hv.d;simp only [qH];omega,fun hb=>?_⟩
     simp only [rF,hv.b hb,Bool.true_or]
    ·obtain ⟨j1,j2,j3⟩:=i2 q hq
     refine ⟨j1,by simp only [qH];omega,fun hb=>?_⟩
     simp only [rF,j3 hb,Bool.or_true]
theorem acF {qs:List C} {t:C} {D S:Nat} {B:Prop} (hq:∀q∈qs,iJ q=0∧1+mY q≤D∧(ng q=true→B)) (hs:dY qs≤S) (h:CU qs=some t):
  iJ t=0∧dH t≤1+S∧mY t≤D∧(ng t=true→B):=by
 have hL:∀p∈qs.flatMap iV,iJ p=0∧1+mY p≤D∧(ng p=true→B):=by
  intro p hp
  obtain ⟨q,h1,h2⟩:=List.mem_flatMap.1 hp
  obtain ⟨w1,w2,w3⟩:=hq q h1
  unfold iV at h2
  split at h2
  ·cases h2
  ·split at h2
   ·rename_i h5
    have hd:=Y3 h2
    rw [←vw] at hd
    refine ⟨(OX w1).2.2 p h2,by omega,fun hb=>w3 ?_⟩
    rw [Gu,if_neg (by omega),if_pos h5]
    exact UD.2 ⟨p,h2,hb⟩
   ·have:p=q:=by simpa using h2
    rw [this];exact ⟨w1,w2,w3⟩
 unfold CU at h
 simp only [] at h
 have hsub:=Dl (qF (qs.flatMap iV))
 have hsz:dY (comp (qF (qs.flatMap iV)))≤S:=by
  have h1:=aau hsub
  rw [Yl (uq _)] at h1
  have:=Tn qs;omega
 have hm:∀p∈comp (qF (qs.flatMap iV)),iJ p=0∧1+mY p≤D∧(ng p=true→B):=fun p hp=>hL p ((uq _).mem_iff.1 (hsub.mem hp))
 generalize comp (qF (qs.flatMap iV))=m at *
 have one:∀p∈m,iJ p=0∧dH p≤1+S∧mY p≤D∧(ng p=true→B):=fun p hp=>by
  obtain ⟨k1,k2,k3⟩:=hm p hp
  exact ⟨k1,by have:=BR hp;omega,by omega,k3⟩
 cases hf:m.find? (fun t=>decide (t.kind=2)) with
 | some x=>
  rw [hf] at h
  cases h
  exact one t (List.mem_of_find?_eq_some hf)
 | none=>
  rw [hf] at h
  rcases m with _|⟨x,_|⟨y,r⟩⟩
  ·cases h
   exact ⟨by decide,by show dH aam≤_;simp [aam,dH,dY],by simp [aam,mY,qH],fun hb=>absurd hb (by decide)⟩
  ·cases h
   exact one t (by simp)
  ·simp only [] at h
   split at h
   ·cases h
   ·rename_i h8
    cases h
    refine ⟨Zu ?_ ?_ fun p hp=>(hm p hp).1, ?_, ?_,fun hb=>?_⟩
    ·have h8':((x::y::r).length:Int)≤8:=by omega
     have h2':(2:Int)≤((x::y::r).length:Int):=by simp only [List.length_cons];omega
     simp only [oO,C.kind,C.lo,C.hi,C.name,C.parts,h8',h2']
     rfl
    ·simp [xH,C.kind]
    ·rw [oN];show 1+dY (x::y::r)≤_;omega
    ·rw [vw];exact G7 fun p hp=>(hm p hp).2.1
    ·simp only [ng,show ¬(5:Int)=4 by decide,if_false,if_true] at hb
     obtain ⟨p,hp,hb⟩:=UD.1 hb
     exact (hm p hp).2.2 hb
theorem Wl:∀c t:C,iJ c=0→mJ c=some t→Val t c:=by
 refine C.ind' (P:=fun c=>∀t,iJ c=0→mJ c=some t→Val t c) fun c ih t hw h=>?_
 obtain ⟨v1,v2,v3⟩:=OX hw
 have hps:∀p∈c.parts,∀t,mJ p=some t→Val t p:=fun p hp t=>ih p hp t (v3 p hp)
 cases c with
 | mk k n l hh z ps=>
  simp only [C.parts] at hps
  rw [mJ] at h
  split at h
  ·rename_i k6
   cases h1:jT ps with
   | none=>rw [h1] at h;cases h
   | some qs=>
    obtain ⟨i1,i2,i3⟩:=IU hps h1
    rw [h1] at h
    cases qs with
    | nil=>cases h
    | cons p r=>
     obtain ⟨j1,j2,j3⟩:=i2 p (by simp)
     have hsz:=BR (l:=p::r) (p:=p) (by simp)
     simp only [] at h
     split at h
     ·rename_i k2
      cases h
      refine ⟨j1,by rw [oN (C.mk k n l hh z ps)];show _≤1+dY ps;omega,by rw [vw (C.mk k n l hh z ps)];show _≤qH ps;omega,fun hb=>?_⟩
      rw [Gu,if_neg (by omega),if_neg (by omega)] at hb
      cases hb
     ·cases h
      refine ⟨Zu ?_ ?_ fun q hq=>?_, ?_, ?_,fun hb=>?_⟩
      ·simp [oO,C.kind,C.lo,C.hi,C.name,C.parts]
      ·simp only [xH,C.kind,C.name] at v2 ⊢
       simpa [k6] using v2
      ·simp [C.parts] at hq;subst hq;exact j1
      ·rw [oN,oN (C.mk k n l hh z ps)]
       show 1+dY [p]≤1+dY ps
       simp [dY];omega
      ·rw [vw,vw (C.mk k n l hh z ps)]
       exact G7 fun q hq=>by simp [C.parts] at hq;subst hq;exact j2
      ·simp [ng] at hb
  ·split at h
   ·rename_i k6 k5
    cases h1:jT ps with
    | none=>rw [h1] at h;cases h
    | some qs=>
     obtain ⟨i1,i2,i3⟩:=IU hps h1
     rw [h1] at h
     obtain ⟨w1,w2,w3,w4⟩:=acF i2 i1 h
     refine ⟨w1,by rw [oN (C.mk k n l hh z ps)];exact w2,by rw [vw (C.mk k n l hh z ps)];exact w3,fun hb=>?_⟩
     simp only [ng]
     rw [if_neg (show ¬k=4 by omega),if_pos k5]
     exact w4 hb
   ·cases h
    exact ⟨by rw [Zt];exact hw,by rw [DF];exact Nat.le_refl _,by rw [XG];exact Nat.le_refl _,fun hb=>by rw [aag] at hb;exact hb⟩
theorem Za {c t:C} (h0:jl c=0) (h:mJ c=some t):jl t=0:=by
 have hw:iJ c=0∧¬(8<mY c∨64<dH c):=by unfold jl at h0;split at h0;cases h0;exact ⟨h0,by assumption⟩
 have hv:=Wl c t hw.1 h
 unfold jl
 have:=hv.s;have:=hv.d
 rw [if_neg (by omega)];exact hv.w
end Go.Ai.Z
namespace Go.Ai.Z
theorem adw (c:C):emptyS (nz c)=emptyS c:=by simp only [emptyS,qJ,xG,TN,TP,nS,List.length_map]
theorem JE {b:Bool} {c p c':C} (h:BV b c=some p) (hc:b=true→jl c=0) (hz:b=false→c=zC) (hn:nz c'=p):
  (b=true→jl c'=0)∧(b=false→emptyS c'=true)∧wC c'≤150∧BV b c'=some p∧(b=true→ng c'=true→ng c=true):=by
 cases b with
 | true=>
  have h1:mJ c=some p:=by simpa [BV] using h
  have h0:=hc rfl
  have h2:jl c'=0:=by rw [←adC,hn];exact Za h0 h1
  have hw:iJ c=0:=by unfold jl at h0;split at h0;cases h0;exact h0
  refine ⟨fun _=>h2,fun h=>(by cases h),by have:=IL h2;omega, ?_,fun _ hb=>?_⟩
  ·simp only [BV,if_true]
   rw [←PK,hn];exact (canon c p h1).fx
  ·rw [←aag,hn] at hb
   exact (Wl c p hw h1).b hb
 | false=>
  have h1:nz c=p:=by simpa [BV] using h
  rw [hz rfl] at h1
  have h2:nz c'=nz zC:=hn.trans h1.symm
  have hnm:c'.name=[]:=by rw [←xG,h2,xG];rfl
  have hpt:c'.parts=[]:=by
   have:c'.parts.map nz=zC.parts.map nz:=by rw [←nS,h2,nS]
   simpa [zC,C.parts] using this
  refine ⟨fun h=>(by cases h),fun _=>by rw [←adw,h2];decide, ?_,by simp only [BV];rw [if_neg (by decide),hn],fun h=>(by cases h)⟩
  rw [rV,hnm,hpt]
  decide
theorem SV {y:Ax} (h:jZ y=0):tY y=true∧FQ y (iG y.kind)=true∧((iG y.kind).l=true→jl y.left=0)∧((iG y.kind).r=true→jl y.right=0)∧
  ¬((y.kind=2∧(ng y.left=true∨ng y.right=true))∨((y.kind=1∨y.kind=4∨y.kind=8)∧ng y.right=true)):=by
 have h2:=Tq h
 unfold jZ at h
 split at h
 ·cases h
 rename_i h1
 split at h
 ·cases h
 rename_i h3
 refine ⟨by simpa using h1,by simpa using h3,h2.1,h2.2,fun hb=>?_⟩
 unfold Nh at h
 split at h
 ·rename_i hc;exact absurd h hc.2
 split at h
 ·rename_i hc;exact absurd h hc.2
 exact absurd h (by decide)
theorem RF {x:Ax} (h1:tY x=true) (h2:FQ x (iG x.kind)=true) (h3:(iG x.kind).l=true→jl x.left=0) (h4:(iG x.kind).r=true→jl x.right=0)
  (h5:¬((x.kind=2∧(ng x.left=true∨ng x.right=true))∨((x.kind=1∨x.kind=4∨x.kind=8)∧ng x.right=true))):jZ x=0:=by
 unfold jZ
 rw [if_neg (by rw [h1];decide),if_neg (by rw [h2];decide)]
 unfold Nh
 rw [if_neg (fun h=>h.2 (h3 h.1)),if_neg (fun h=>h.2 (h4 h.1)),if_neg h5]
theorem IV (x:Ax):tY x=true ↔ BI x=true∧((iG x.kind).l=true∨emptyS x.left=true)∧((iG x.kind).r=true∨emptyS x.right=true)∧((iG x.kind).role=true∨x.role=[])∧((iG x.kind).a=true∨x.a=[])∧((iG x.kind).b=true∨x.b=[])∧
  (iG x.kind).lo≤x.roles.length∧(x.roles.length:Int)≤(iG x.kind).hi:=by
 simp [tY,and_assoc]
theorem aap {y x t:Ax} {w:Nat} (hp:y.Parsed w) (h0:jZ y=0) (ht:y9 y=some t) (hx:nzA x=t):jZ x=0∧x.Few∧y9 x=some t:=by
 obtain ⟨c1,c2,c3,c4,c5⟩:=SV h0
 rw [IV] at c1
 obtain ⟨s1,s2,s3,s4,s5,s6,s7,s8⟩:=c1
 unfold y9 at ht
 cases hl:BV (iG y.kind).l y.left with
 | none=>rw [hl] at ht;simp at ht
 | some p=>
  cases hr:BV (iG y.kind).r y.right with
  | none=>rw [hl,hr] at ht;simp at ht
  | some q=>
   rw [hl,hr] at ht
   simp only [] at ht
   by_cases hsw:(y.kind=2∨y.kind=3)∧0<jB p q
   ·rw [if_pos hsw] at ht
    have ht:=Option.some.inj ht
    have hx':=hx.trans ht.symm
    simp only [nzA,Ax.mk.injEq] at hx'
    obtain ⟨e1,e2,e3,e4,-,e5,e6,e7,e8⟩:=hx'
    have hul:(iG y.kind).l=true:=by rcases hsw.1 with k|k<;>rw [k]<;>rfl
    have hur:(iG y.kind).r=true:=by rcases hsw.1 with k|k<;>rw [k]<;>rfl
    have vl:=JE hr c4 (fun h=>by rw [hur] at h;cases h) e3
    have vr:=JE hl c3 (fun h=>by rw [hul] at h;cases h) e4
    have hneg:¬0<jB q p:=by
     have:=(mZ.anti q p trivial trivial).2 hsw.2
     omega
    refine ⟨RF ?_ ?_ ?_ ?_ ?_,⟨vl.2.2.1,vr.2.2.1, ?_, ?_, ?_, ?_, ?_⟩, ?_⟩
    ·rw [IV,e1,e5,e6,e7,e8]
     refine ⟨by unfold BI at s1 ⊢;rw [e1];exact s1,.inl hul,.inl hur,s4,s5,s6,s7,s8⟩
    ·rw [e1];unfold FQ at c2 ⊢;rw [e5,e6,e7,e8];exact c2
    ·rw [e1];intro _;exact vl.1 hur
    ·rw [e1];intro _;exact vr.1 hul
    ·rw [e1]
     intro hb
     rcases hb with ⟨k,hb⟩|⟨k,hb⟩
     ·rcases hb with hb|hb
      ·exact c5 (.inl ⟨k,.inr (vl.2.2.2.2 hur hb)⟩)
      ·exact c5 (.inl ⟨k,.inl (vr.2.2.2.2 hul hb)⟩)
     ·have:=hsw.1;omega
    ·rw [e5];have:=hp.roles;omega
    ·rw [e5];intro r hr;have:=hp.rs r hr;omega
    ·rw [e6];have:=hp.role;omega
    ·rw [e7];have:=hp.a;omega
    ·rw [e8];have:=hp.b;omega
    ·unfold y9
     have v1:=vl.2.2.2.1
     have v2:=vr.2.2.2.1
     rw [hur] at v1
     rw [hul] at v2
     rw [e1,hul,hur,v1,v2]
     simp only []
     rw [if_neg (fun h=>hneg h.2),←hx]
     simp only [nzA,e3,e4]
     rw [e1]
   ·rw [if_neg hsw] at ht
    have ht:=Option.some.inj ht
    have hx':=hx.trans ht.symm
    simp only [nzA,Ax.mk.injEq] at hx'
    obtain ⟨e1,e2,e3,e4,-,e5,e6,e7,e8⟩:=hx'
    have vl:=JE hl c3 hp.ul e3
    have vr:=JE hr c4 hp.ur e4
    refine ⟨RF ?_ ?_ ?_ ?_ ?_,⟨vl.2.2.1,vr.2.2.1, ?_, ?_, ?_, ?_, ?_⟩, ?_⟩
    ·rw [IV,e1,e5,e6,e7,e8]
     refine ⟨by unfold BI at s1 ⊢;rw [e1];exact s1, ?_, ?_,s4,s5,s6,s7,s8⟩
     ·cases hu:(iG y.kind).l with
      | true=>exact .inl rfl
      | false=>exact .inr (vl.2.1 hu)
     ·cases hu:(iG y.kind).r with
      | true=>exact .inl rfl
      | false=>exact .inr (vr.2.1 hu)
    ·rw [e1];unfold FQ at c2 ⊢;rw [e5,e6,e7,e8];exact c2
    ·rw [e1];exact vl.1
    ·rw [e1];exact vr.1
    ·rw [e1]
     intro hb
     rcases hb with ⟨k,hb⟩|⟨k,hb⟩
     ·have hul:(iG y.kind).l=true:=by rw [k];rfl
      have hur:(iG y.kind).r=true:=by rw [k];rfl
      rcases hb with hb|hb
      ·exact c5 (.inl ⟨k,.inl (vl.2.2.2.2 hul hb)⟩)
      ·exact c5 (.inl ⟨k,.inr (vr.2.2.2.2 hur hb)⟩)
     ·have hur:(iG y.kind).r=true:=by rcases k with k|k|k<;>rw [k]<;>rfl
      exact c5 (.inr ⟨k,vr.2.2.2.2 hur hb⟩)
    ·rw [e5];have:=hp.roles;omega
    ·rw [e5];intro r hr;have:=hp.rs r hr;omega
    ·rw [e6];have:=hp.role;omega
    ·rw [e7];have:=hp.a;omega
    ·rw [e8];have:=hp.b;omega
    ·unfold y9
     have v1:=vl.2.2.2.1
     have v2:=vr.2.2.2.1
     rw [e1,v1,v2]
     simp only []
     rw [if_neg (fun h=>hsw h),←hx]
     simp only [nzA,e3,e4]
     rw [e1]
end Go.Ai.Z
namespace Go.Ai.Z
structure X8 (a:Nat) (p:List Tok×List Pb):Prop where
 t:p.1.Pairwise fun x y=>x.2.2<y.2.2
 t0:∀x∈p.1,a≤x.2.2
 b:p.2.Pairwise fun x y=>x.1<y.1
 b0:∀x∈p.2,(a:Int)≤x.1
 tb:∀x∈p.1,∀y∈p.2,(x.2.2:Int)≠y.1
theorem X8.mono {a a':Nat} {p:List Tok×List Pb} (h:X8 a' p) (ha:a≤a'):X8 a p:=
 ⟨h.t,fun x hx=>by have:=h.t0 x hx;omega,h.b,fun x hx=>by have:=h.b0 x hx;omega,h.tb⟩
theorem J5:∀(n:Nat) (b:List UInt8) (a:Nat) (la:Int) {p:List Tok×List Pb},qI n b a la=some p→X8 a p
 | 0,b,a,la,p,h=>by simp [qI] at h
 | n+1,b,a,la,p,h=>by
  unfold qI at h
  cases hx:b.dropWhile pK with
  | nil=>
   rw [hx] at h
   simp only [Option.some.injEq] at h
   subst h
   exact ⟨by simp,by simp,by simp,by simp,by simp⟩
  | cons c r=>
   rw [hx] at h
   simp only [] at h
   split at h
   ·exact (J5 n _ _ _ h).mono (by omega)
   ·have hs:=BZ c r
    split at h
    ·obtain ⟨q,hq,rfl⟩:=Option.map_eq_some_iff.1 h
     have hp:=J5 n _ _ _ hq
     split
     ·refine ⟨hp.t,fun x hx=>by have:=hp.t0 x hx;omega,List.pairwise_cons.2 ⟨fun y hy=>?_,hp.b⟩,fun x hx=>?_,fun x hx y hy=>?_⟩
      ·have:=hp.b0 y hy;simp only [] at this ⊢;omega
      ·rcases List.mem_cons.1 hx with rfl|hx
       ·simp only [];omega
       ·have:=hp.b0 x hx;omega
      ·rcases List.mem_cons.1 hy with rfl|hy
       ·have:=hp.t0 x hx;simp only [];omega
       ·exact hp.tb x hx y hy
     ·exact hp.mono (by omega)
    ·obtain ⟨q,hq,rfl⟩:=Option.map_eq_some_iff.1 h
     have hp:=J5 n _ _ _ hq
     refine ⟨List.pairwise_cons.2 ⟨fun y hy=>?_,hp.t⟩,fun x hx=>?_,hp.b,fun x hx=>by have:=hp.b0 x hx;omega,fun x hx y hy=>?_⟩
     ·have:=hp.t0 y hy;simp only [] at this ⊢;omega
     ·rcases List.mem_cons.1 hx with rfl|hx
      ·simp only [];omega
      ·have:=hp.t0 x hx;omega
     ·rcases List.mem_cons.1 hx with rfl|hx
      ·have:=hp.b0 y hy;simp only [];omega
      ·exact hp.tb x hx y hy
theorem acK (src:List UInt8):X8 0 (kM src):=J5 _ _ _ _ (wo src (Nat.lt_succ_self _))
theorem adY {src:List UInt8} (hl:src.length≤60000):WT (kM src).1:=by rw [←Jg];exact (Bd (by omega)).1
theorem afx {T:List Tok} (h:T.Pairwise fun x y=>x.2.2<y.2.2) {i j:Nat} (hij:i<j) (hj:j<T.length):(hT (T.drop i)).2.2<(hT (T.drop j)).2.2:=by
 have e:∀{k:Nat} (hk:k<T.length),hT (T.drop k)=T[k]:=fun {k} hk=>by rw [List.drop_eq_getElem_cons hk];rfl
 rw [e hj,e (by omega)]
 exact List.pairwise_iff_getElem.1 h i j (by omega) hj hij
theorem ady {src:List UInt8} (hl:src.length≤60000):(AL src).2.Pairwise (fun p q=>p.1<q.1)∧∀p∈(AL src).2,∃t∈(kM src).1,p.1=(t.2.2:Int):=by
 have hw:=adY hl
 obtain ⟨L,js,h1,h2,h3⟩:=ZX _ _ hw (acL src) (Nat.le_refl _)
 have h4:=h3 _ _ (Nat.le_refl _) hw rfl
 have hp:=(acK src).t
 unfold AL
 rw [h4]
 refine ⟨?_,fun p hp=>?_⟩
 ·rw [List.pairwise_map]
  refine h1.imp_of_mem fun {a b} ha hb hab=>?_
  have:=afx hp hab (h2 b hb)
  simp only [];omega
 ·obtain ⟨j,hj,rfl⟩:=List.mem_map.1 hp
  refine ⟨_, ?_,rfl⟩
  rw [List.drop_eq_getElem_cons (h2 j hj)]
  exact List.getElem_mem _
def agx (D:List Pb):Prop:=D.Pairwise fun p q=>p.1≠q.1
theorem agx.perm {D E:List Pb} (h:agx D) (hp:D.Perm E):agx E:=(hp.pairwise_iff fun h=>Ne.symm h).1 h
structure aeT (src:List UInt8) (Z:List Pb):Prop where
 p:Z.Perm ((lexB src).2++(AL src).2)
 s:lN Z
theorem aeT.full {src:List UInt8} {Z:List Pb} (h:aeT src Z) (hl:(Z.take 64).length≠64):Z.take 64=Z∧Z.Perm ((kM src).2++(AL src).2):=by
 have h1:=h.p.length_eq
 have h2:=h.p
 rw [Jf] at h1 h2
 simp only [List.length_append,List.length_take] at h1 hl h2
 refine ⟨List.take_of_length_le (by omega), ?_⟩
 rwa [List.take_of_length_le (by omega)] at h2
end Go.Ai.Z
namespace Go.Ai.Z
def XJ:List Int:=[20,21,22,30,2]
def agc:List Int:=10::XJ
theorem abQ:∀c:C,iJ c=0∨iJ c=20∨iJ c=21:=by
 refine C.ind' (P:=fun c=>iJ c=0∨iJ c=20∨iJ c=21) fun c ih=>?_
 have hl:∀l:List C,(∀p∈l,iJ p=0∨iJ p=20∨iJ p=21)→qP l=0∨qP l=20∨qP l=21:=by
  intro l h
  induction l with
  | nil=>exact .inl rfl
  | cons p r ih'=>
   simp only [qP]
   split
   ·exact ih' fun q hq=>h q (by simp [hq])
   ·exact h p (by simp)
 rw [BP]
 split
 ·exact .inr (.inr rfl)
 ·split
  ·exact .inr (.inl rfl)
  ·exact hl _ ih
theorem UA (c:C):jl c=0∨jl c=20∨jl c=21:=by
 unfold jl;split
 ·exact .inr (.inr rfl)
 ·exact abQ c
theorem XO (y:Ax):jZ y=0∨jZ y∈XJ:=by
 unfold jZ
 split
 ·exact .inr (by decide)
 split
 ·exact .inr (by decide)
 unfold Nh
 split
 ·rename_i hc
  rcases UA y.left with k|k|k
  ·exact absurd k hc.2
  ·rw [k];exact .inr (by decide)
  ·rw [k];exact .inr (by decide)
 split
 ·rename_i hc
  rcases UA y.right with k|k|k
  ·exact absurd k hc.2
  ·rw [k];exact .inr (by decide)
  ·rw [k];exact .inr (by decide)
 split
 ·exact .inr (by decide)
 ·exact .inl rfl
theorem ad4 {y:Ax} (h:y.Parsed 99999) (he:(tyA y).2≠0):(tyA y).2∈XJ:=by
 have ha:=(PG h).a
 unfold RQ at ha
 split at ha
 ·unfold yI at ha
  split at ha
  ·exact absurd ha.2 he
  ·rw [ha];decide
 ·rw [ha.2] at he ⊢
  rcases XO y with h|h
  ·exact absurd h he
  ·exact h
structure TdA (a:Ax):Prop where
 c:jZ a=0
 f:a.Few
 t:y9 a=some (nzA a)
theorem afu {y:Ax} (h:y.Parsed 99999) (he:(tyA y).2=0):TdA (tyA y).1:=by
 have ha:=(PG h).a
 unfold RQ at ha
 split at ha
 ·rename_i h0
  unfold yI at ha
  split at ha
  ·rename_i t ht
   obtain ⟨v1,v2,v3⟩:=aap h h0 ht ha.1
   exact ⟨v1,v2,by rw [v3,ha.1]⟩
  ·rw [ha] at he;cases he
 ·rename_i h0
  exact absurd (ha.2.symm.trans he) h0
theorem afv {T r:List Tok} (h:Suf T r):tw r≤tw T:=by
 obtain ⟨⟨p,rfl⟩,_⟩:=h
 rw [abV];omega
theorem Y0 {l r:List Tok} {x:Ax} (hw:WT l) (ht:tw l≤99999) (h:vS l=.ok x r):x.Parsed 99999:=by
 unfold vS at h
 obtain ⟨y,l1,e1,h⟩:=aA.1 h
 obtain ⟨u,l2,e2,h⟩:=aA.1 h
 cases h
 exact (JM hw e1).mono ht
theorem aeA {l r:List Tok} {a c:Int} (hw:WT l) (h:vS l=.er a c r):c∈XJ:=by
 have hn:NZ (vS l):=(WZ hw).bind fun _ _ _=>(CQ _ _).bind fun _ _ _=>NZ.ok _ _
 rcases hn a c r h with h|h|h<;>rw [h]<;>decide
theorem Z4 {T:List Tok} (hTw:tw T≤99999):∀(n:Nat) {r:List Tok},Suf T r→(∀a∈(rU n r).1,TdA a)∧∀p∈(rU n r).2,p.2∈XJ
 | 0,r,h=>by simp [rU]
 | n+1,r,h=>by
  by_cases hk:(hT r).1=4
  ·rw [AB hk];simp
  ·obtain ⟨h1,_⟩:=Kr h hk
   obtain ⟨i1,i2⟩:=Z4 hTw n h1
   have htr:=afv h
   rw [yF n hk]
   have hit:((nI r).1.2.2.2=true→(nI r).1.2.2.1∈XJ)∧((nI r).1.2.2.2=false→TdA (nI r).1.1):=by
    unfold nI
    cases hp:vS r with
    | er a c q=>exact ⟨fun _=>aeA h.w hp,fun h=>by cases h⟩
    | ok x q=>
     have hpa:=Y0 h.w (by omega) hp
     refine ⟨fun he=>ad4 hpa (by simpa using he),fun he=>afu hpa (by simpa using he)⟩
   split
   ·rename_i hb
    refine ⟨i1,fun p hp=>?_⟩
    rcases List.mem_cons.1 hp with rfl|hp
    ·exact hit.1 hb
    ·exact i2 p hp
   ·rename_i hb
    refine ⟨fun a ha=>?_,i2⟩
    rcases List.mem_cons.1 ha with rfl|ha
    ·exact hit.2 (by simpa using hb)
    ·exact i1 a ha
theorem Z5 {src:List UInt8} (hl:src.length≤40000):(∀a∈(AL src).1,TdA a)∧∀p∈(AL src).2,p.2∈XJ:=by
 obtain ⟨hw,ht⟩:=Bd (src:=src) (by omega)
 rw [Jg] at hw ht
 exact Z4 (by omega) _ (JD hw).1
theorem adx {src:List UInt8} (hl:src.length≤40000) {Z:List Pb} (h:aeT src Z):∀p∈Z,p.2∈agc∧0≤p.1∧p.1≤src.length:=by
 intro p hp
 have hc:=GV src []
 rcases List.mem_append.1 (h.p.mem_iff.1 hp) with h|h
 ·rw [Jf] at h
  have:=hc.x2 p (List.mem_of_mem_take h)
  exact ⟨by rw [this.2.2];decide,by omega,by omega⟩
 ·refine ⟨List.mem_cons_of_mem _ ((Z5 hl).2 p h), ?_⟩
  obtain ⟨t,ht,e⟩:=(ady (src:=src) (by omega)).2 p h
  have:=abW t ht
  omega
end Go.Ai.Z
