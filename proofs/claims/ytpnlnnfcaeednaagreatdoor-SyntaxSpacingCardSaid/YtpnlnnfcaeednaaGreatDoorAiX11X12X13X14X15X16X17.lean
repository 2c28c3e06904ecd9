/-
 Documents, segment by segment.
-/
import Derived.Test.YtpnlnnfcaeednaaGreatDoorAiX5X6X7X8X9
import Derived.Test.YtpnlnnfcaeednaaGreatDoorAiY9Y10Y11
import Derived.Test.YtpnlnnfcaeednaaGreatDoorAiU1U2U3U4
import Derived.Test.YtpnlnnfcaeednaaGreatDoorAiK10K11K12K13K14KJKLKM
import Derived.Test.YtpnlnnfcaeednaaGreatDoorAiY12X3X4
set_option maxRecDepth 100000
set_option linter.unusedSimpArgs false
set_option linter.unusedVariables false
set_option linter.unusedSectionVars false
namespace Go.Ai.Z
def Seg (p:List Tok):Prop:=∀t∈p,Yk t∧jw t=false
theorem acw {t t':Tok} (h:jZ t'=jZ t):jw t'=jw t:=by
 simp only [jZ,Prod.mk.injEq] at h
 unfold jw
 rw [h.1,h.2]
theorem Js {q:List Tok} {d:Tok} (hd:jw d=true):∀{p:List Tok},(∀t∈p,jw t=false)→upto (p++d::q)=p.map jZ
 | [],_=>by rw [List.nil_append,upto,if_pos hd];rfl
 | t::p,hp=>by
  rw [List.cons_append,upto,if_neg (by rw [hp t (by simp)];decide),Js hd fun u hu=>hp u (by simp [hu])]
  rfl
theorem acf {r:List Tok} (hr:WT r):∀{p:List Tok},(∀t∈p,Yk t)→WT (p++r)
 | [],_=>hr
 | t::p,h=>.cons t _ (h t (by simp)) (acf hr fun u hu=>h u (by simp [hu]))
theorem PL:∀{p:List Tok} {d:Tok} {q:List Tok},WT (p++d::q)→(∀t∈p,jw t=false)→(∀t∈p,Yk t)∧WT (d::q)
 | [],d,q,h,_=>⟨fun t ht=>by simp at ht,h⟩
 | t::p,d,q,h,hp=>by
  have ht:=hp t (by simp)
  generalize hl:t::p++d::q=l at h
  cases h with
  | fin a=>
   simp at hl
  | cons u r h1 h2=>
   rw [List.cons_append] at hl
   obtain ⟨rfl,rfl⟩:=List.cons.inj hl
   obtain ⟨k1,k2⟩:=PL h2 fun u hu=>hp u (by simp [hu])
   exact ⟨fun u hu=>by rcases List.mem_cons.1 hu with rfl|hu;exact h1;exact k1 u hu,k2⟩
theorem Vl {p p':List Tok} (h:p'.map jZ=p.map jZ) {t:Tok} (ht:t∈p'):∃u∈p,jZ t=jZ u:=by
 have:jZ t∈p'.map jZ:=List.mem_map.2 ⟨t,ht,rfl⟩
 rw [h] at this
 obtain ⟨u,hu,he⟩:=List.mem_map.1 this
 exact ⟨u,hu,he.symm⟩
theorem Fp {p p':List Tok} (hp:∀t∈p,jw t=false) (h:p'.map jZ=p.map jZ):∀t∈p',jw t=false:=fun t ht=>by
 obtain ⟨u,hu,he⟩:=Vl h ht
 rw [acw he];exact hp u hu
inductive ZE (α:Type) where
 | ok (v:α) (k:Nat)
 | er (c:Int) (k:Nat)
def ZE.k {α:Type}:ZE α→Nat
 | .ok _ k=>k
 | .er _ k=>k
def ZE.at {α:Type} (x:ZE α) (p:List Tok) (r:List Tok):PR α:=match x with
 | .ok v k=>.ok v (p.drop k++r)
 | .er c k=>.er (hT (p.drop k++r)).2.2 c (p.drop k++r)
theorem XT {l s r:List Tok} (h:l=s++r):r=l.drop s.length:=by rw [h,List.drop_left]
theorem zT.cut {α:Type} {f:List Tok→PR α} (hf:zT f) (hg:∀l,WT l→AZ l (f l)) {p:List Tok} (hp:Seg p):
  ∃x:ZE α,x.k≤p.length∧∀p' d q,p'.map jZ=p.map jZ→jw d=true→WT (p'++d::q)→f (p'++d::q)=x.at p' (d::q):=by
 have w0:WT (p++[(4,[],0)]):=acf (.fin 0) fun t ht=>(hp t ht).1
 have u0:upto (p++[(4,[],0)])=p.map jZ:=Js (d:=(4,[],0)) rfl fun t ht=>(hp t ht).2
 cases hx:f (p++[(4,[],0)]) with
 | ok v r=>
  obtain ⟨s,hs⟩:=Uu (hg _ w0) hx
  have hl:=congrArg List.length hs
  simp only [List.length_append,List.length_cons,List.length_nil] at hl
  have hrw:WT r:=by have:=hg _ w0;rw [hx] at this;exact this.1
  have:=PN hrw
  refine ⟨.ok v s.length,by show s.length≤p.length;omega,fun p' d q h1 h2 h3=>?_⟩
  have hpl:p'.length=p.length:=by have:=congrArg List.length h1;simpa using this
  have h4:=hf _ _ w0 h3 (by rw [u0,Js h2 (Fp (fun t ht=>(hp t ht).2) h1),h1])
  cases hy:f (p'++d::q) with
  | er a c r'=>rw [hx,hy] at h4;exact absurd h4 (by simp [ED])
  | ok v' r'=>
   rw [hx,hy] at h4
   obtain ⟨rfl,_,_,_,h5⟩:=h4
   obtain ⟨s',hs'⟩:=Uu (hg _ h3) hy
   have hl':=congrArg List.length hs'
   simp only [List.length_append,List.length_cons,List.length_nil] at hl' h5
   have he:s'.length=s.length:=by omega
   show PR.ok v r'=PR.ok v (p'.drop s.length++d::q)
   rw [XT hs',he,List.drop_append_of_le_length (by omega)]
 | er a c r=>
  obtain ⟨s,hs⟩:=Je (hg _ w0) hx
  have hl:=congrArg List.length hs
  simp only [List.length_append,List.length_cons,List.length_nil] at hl
  have hrw:WT r:=by have:=hg _ w0;rw [hx] at this;exact this.1
  have:=PN hrw
  refine ⟨.er c s.length,by show s.length≤p.length;omega,fun p' d q h1 h2 h3=>?_⟩
  have hpl:p'.length=p.length:=by have:=congrArg List.length h1;simpa using this
  have h4:=hf _ _ w0 h3 (by rw [u0,Js h2 (Fp (fun t ht=>(hp t ht).2) h1),h1])
  cases hy:f (p'++d::q) with
  | ok v r'=>rw [hx,hy] at h4;exact absurd h4 (by simp [ED])
  | er a' c' r'=>
   rw [hx,hy] at h4
   obtain ⟨rfl,_,_,_,h5,_,h6⟩:=h4
   obtain ⟨s',hs'⟩:=Je (hg _ h3) hy
   have hl':=congrArg List.length hs'
   simp only [List.length_append,List.length_cons,List.length_nil] at hl' h5
   have he:s'.length=s.length:=by omega
   show PR.er a' c r'=PR.er _ c (p'.drop s.length++d::q)
   rw [h6,XT hs',he,List.drop_append_of_le_length (by omega)]
theorem WN:∀{p:List Tok} {d:Tok} {q:List Tok},(∀t∈p,t.1≠4∧t.2.1≠[46])→jw d=true→lN (p++d::q)=if d.1=4 then d::q else q
 | [],d,q,_,hd=>by
  rw [List.nil_append,lN]
  split
  ·rfl
  ·rename_i h4
   have hs:d.1=4∨(d.1=3∧d.2.1=[46]):=by simpa [jw] using hd
   rw [if_pos (by rcases hs with h|h;exact absurd h h4;exact h.2)]
 | t::p,d,q,hp,hd=>by
  obtain ⟨h1,h2⟩:=hp t (by simp)
  rw [List.cons_append,lN,if_neg h1,if_neg h2]
  exact WN (fun u hu=>hp u (by simp [hu])) hd
structure aja where
 x:Ax
 e:Int
 b:Bool
 k:Nat
theorem Xy {p:List Tok} (hp:Seg p) (dot:Bool) (hne:dot=false→p≠[]):∃v:aja,v.k≤p.length∧∀p' d q,p'.map jZ=p.map jZ→(∀t∈p',t.2.1=[46]→t.1=3)→(if dot=true then d.1=3∧d.2.1=[46] else d.1=4∧d.2.1=[])→WT (p'++d::q)→
  nI (p'++d::q)=((v.x,((hT (p'.drop v.k++d::q)).2.2:Int),v.e,v.b),if dot=true then q else d::q):=by
 obtain ⟨x,hk,hx⟩:=Qn.cut (fun l h=>(D9 h).zero) hp
 have hds:∀{d:Tok},(if dot=true then d.1=3∧d.2.1=[46] else d.1=4∧d.2.1=[])→jw d=true∧(if d.1=4 then true else false)=!dot:=by
  intro d h
  cases dot with
  | true=>simp only [if_true] at h;exact ⟨by simp [jw,h.1,h.2],by simp [h.1]⟩
  | false=>simp only [Bool.false_eq_true,if_false] at h;exact ⟨by simp [jw,h.1],by simp [h.1]⟩
 have hnd:∀{p':List Tok},p'.map jZ=p.map jZ→(∀t∈p',t.2.1=[46]→t.1=3)→∀t∈p',t.1≠4∧t.2.1≠[46]:=by
  intro p' h1 h2 t ht
  have:=Fp (fun t ht=>(hp t ht).2) h1 t ht
  have hs:¬(t.1=4∨(t.1=3∧t.2.1=[46])):=fun h=>by
   have:jw t=true:=by simpa [jw] using h
   simp_all
  exact ⟨fun h=>hs (.inl h),fun h=>hs (.inr ⟨h2 t ht h,h⟩)⟩
 have hfail:∀(c:Int) (k:Nat) {p':List Tok} {d:Tok} {q:List Tok},p'.map jZ=p.map jZ→(∀t∈p',t.2.1=[46]→t.1=3)→(if dot=true then d.1=3∧d.2.1=[46] else d.1=4∧d.2.1=[])→
   vV (p'++d::q)=.er (hT (p'.drop k++d::q)).2.2 c (p'.drop k++d::q)→nI (p'++d::q)=((zA,((hT (p'.drop k++d::q)).2.2:Int),c,true),if dot=true then q else d::q):=by
  intro c k p' d q h1 h2 h3 h4
  obtain ⟨d1,d2⟩:=hds h3
  unfold nI
  rw [h4]
  simp only []
  rw [WN (fun t ht=>hnd h1 h2 t (List.mem_of_mem_drop ht)) d1]
  cases dot with
  | true=>rw [if_neg (by intro h;simp [h] at d2)];rfl
  | false=>rw [if_pos (by by_cases h:d.1=4;exact h;simp [h] at d2)];rfl
 cases x with
 | er c k=>
  refine ⟨⟨zA,c,true,k⟩,hk,fun p' d q h1 h2 h3 h4=>?_⟩
  refine hfail c k h1 h2 h3 ?_
  unfold vV
  rw [hx p' d q h1 (hds h3).1 h4]
  rfl
 | ok y k=>
  by_cases hkk:k=p.length∧dot=true
  ·obtain ⟨rfl,rfl⟩:=hkk
   refine ⟨⟨(tyA y).1,(tyA y).2,decide ((tyA y).2≠0),0⟩,Nat.zero_le _,fun p' d q h1 h2 h3 h4=>?_⟩
   have hpl:p'.length=p.length:=by have:=congrArg List.length h1;simpa using this
   simp only [if_true] at h3
   have hd:vV (p'++d::q)=.ok y q:=by
    unfold vV
    rw [hx p' d q h1 (by simp [jw,h3.1,h3.2]) h4]
    simp only [ZE.at,PR.bind_ok]
    rw [←hpl,List.drop_length,List.nil_append]
    unfold kH
    rw [if_pos (show txt (d::q)=[46] from h3.2)]
    rfl
   unfold nI
   rw [hd]
   rfl
  ·refine ⟨⟨zA,30,true,k⟩,hk,fun p' d q h1 h2 h3 h4=>?_⟩
   have hpl:p'.length=p.length:=by have:=congrArg List.length h1;simpa using this
   refine hfail 30 k h1 h2 h3 ?_
   unfold vV
   rw [hx p' d q h1 (hds h3).1 h4]
   simp only [ZE.at,PR.bind_ok]
   have hne:txt (p'.drop k++d::q)≠[46]:=by
    by_cases hk2:k=p.length
    ·have hdt:dot=false:=by cases dot with|true=>exact absurd ⟨hk2,rfl⟩ hkk|false=>rfl
     subst hdt
     simp only [Bool.false_eq_true,if_false] at h3
     rw [hk2,←hpl,List.drop_length,List.nil_append,dL,h3.2]
     decide
    ·have hk3:k≤p.length:=hk
     cases hdr:p'.drop k with
     | nil=>
      have:=congrArg List.length hdr
      simp only [List.length_drop,List.length_nil] at this
      omega
     | cons t s=>
      rw [List.cons_append,dL]
      exact (hnd h1 h2 t (List.mem_of_mem_drop (i:=k) (by rw [hdr];simp))).2
   unfold kH
   rw [if_neg hne,PR.bind_er]
end Go.Ai.Z
namespace Go.Ai.Z
def afw (T:List Tok):Prop:=∀t∈T,t.2.1=[46]→t.1=3
theorem Ry:∀{b:List Tok},(∃t∈b,jw t=true)→∃p d q,b=p++d::q∧(∀t∈p,jw t=false)∧jw d=true
 | [],h=>by obtain ⟨t,ht,_⟩:=h;simp at ht
 | t::b,h=>by
  by_cases ht:jw t=true
  ·exact ⟨[],t,b,rfl,fun u hu=>by simp at hu,ht⟩
  ·obtain ⟨u,hu,hs⟩:=h
   obtain ⟨p,d,q,h1,h2,h3⟩:=Ry (b:=b) (by
    rcases List.mem_cons.1 hu with rfl|hu
    ·exact absurd hs ht
    ·exact ⟨u,hu,hs⟩)
   refine ⟨t::p,d,q,by rw [h1];rfl,fun v hv=>?_,h3⟩
   rcases List.mem_cons.1 hv with rfl|hv
   ·simpa using ht
   ·exact h2 v hv
theorem aee {T:List Tok} (h:WT T):∃t∈T,jw t=true:=by
 induction h with
 | fin a=>exact ⟨_,List.mem_singleton.2 rfl,rfl⟩
 | cons t r _ _ ih=>obtain ⟨u,hu,hs⟩:=ih;exact ⟨u,List.mem_cons_of_mem _ hu,hs⟩
theorem P8 {d:Tok} {q:List Tok} (h:WT (d::q)) (hd:jw d=true):(d.1=4∧d.2.1=[]∧q=[])∨(d.1=3∧d.2.1=[46]∧WT q):=by
 have hs:d.1=4∨(d.1=3∧d.2.1=[46]):=by simpa [jw] using hd
 generalize hl:d::q=l at h
 cases h with
 | fin a=>obtain ⟨rfl,rfl⟩:=List.cons.inj hl;exact .inl ⟨rfl,rfl,rfl⟩
 | cons t r h1 h2=>
  obtain ⟨rfl,rfl⟩:=List.cons.inj hl
  rcases hs with hs|hs
  ·rcases h1.k with k|k|k<;>omega
  ·exact .inr ⟨hs.1,hs.2,h2⟩
theorem LU {T' p q:List Tok} {d:Tok} (h:T'.map jZ=(p++d::q).map jZ):∃p' d' q',T'=p'++d'::q'∧p'.map jZ=p.map jZ∧jZ d'=jZ d∧q'.map jZ=q.map jZ:=by
 rw [List.map_append,List.map_cons] at h
 obtain ⟨p',r,rfl,h1,h2⟩:=List.map_eq_append_iff.1 h
 obtain ⟨d',q',rfl,h3,h4⟩:=List.map_eq_cons_iff.1 h2
 exact ⟨p',d',q',rfl,h1,h3,h4⟩
theorem XD {p:List Tok} {d:Tok} {q:List Tok} (hp:∀t∈p,jw t=false) (hd:p=[]→d.1≠4):(hT (p++d::q)).1≠4:=by
 cases p with
 | nil=>exact hd rfl
 | cons t p=>
  intro h
  have h1:=hp t (by simp)
  have:jw t=true:=by simp only [jw];simp at h;simp [h]
  rw [this] at h1;cases h1
theorem VI:∀(n:Nat) (T:List Tok),WT T→afw T→T.length≤n→∃(L:List Ax) (js:List (Nat×Int)),js.Pairwise (fun a b=>a.1<b.1)∧(∀j∈js,j.1<T.length)∧
  ∀(m:Nat) (T':List Tok),T.length≤m→WT T'→T'.map jZ=T.map jZ→rY m T'=(L,js.map fun j=>(((hT (T'.drop j.1)).2.2:Int),j.2))
 | 0,T,hw,hd,hn=>by have:=PN hw;omega
 | n+1,T,hw,hd,hn=>by
  obtain ⟨p,d,q,rfl,hp,hs⟩:=Ry (aee hw)
  obtain ⟨hpt,hwd⟩:=PL hw hp
  have hseg:Seg p:=fun t ht=>⟨hpt t ht,hp t ht⟩
  rcases P8 hwd hs with ⟨d1,d2,d3⟩|⟨d1,d2,d3⟩
  ·subst d3
   by_cases hpe:p=[]
   ·subst hpe
    refine ⟨[],[],List.Pairwise.nil,fun j hj=>by simp at hj,fun m T' _ _ hT'=>?_⟩
    obtain ⟨p',d',q',rfl,h1,h2,h3⟩:=LU hT'
    have hp':p'=[]:=by simpa using h1
    subst hp'
    have:d'.1=4:=by simp only [jZ,Prod.mk.injEq] at h2;rw [h2.1];exact d1
    exact AO this
   ·obtain ⟨v,hv1,hv2⟩:=Xy hseg false fun _=>hpe
    refine ⟨if v.b=true then [] else [v.x],if v.b=true then [(v.k,v.e)] else [],by split<;>simp,fun j hj=>?_,fun m T' hm hT1 hT'=>?_⟩
    ·split at hj
     ·simp at hj;subst hj;simp;omega
     ·simp at hj
    ·obtain ⟨p',d',q',rfl,h1,h2,h3⟩:=LU hT'
     have hq':q'=[]:=by simpa using h3
     subst hq'
     have hd':d'.1=4∧d'.2.1=[]:=by simp only [jZ,Prod.mk.injEq] at h2;exact ⟨by rw [h2.1];exact d1,by rw [h2.2];exact d2⟩
     have hp2:=Fp hp h1
     have hdk:∀t∈p',t.2.1=[46]→t.1=3:=fun t ht e=>by
      obtain ⟨u,hu,he⟩:=Vl h1 ht
      simp only [jZ,Prod.mk.injEq] at he
      rw [he.1];exact hd u (by simp [hu]) (by rw [←he.2];exact e)
     have hp'ne:p'≠[]:=fun h=>hpe (by rw [h] at h1;simpa using h1.symm)
     obtain ⟨m,rfl⟩:∃m',m=m'+1:=⟨m - 1,by simp at hm;omega⟩
     have hi:=hv2 p' d' [] h1 hdk (by simpa using hd') hT1
     rw [yK m (XD hp2 fun h=>absurd h hp'ne),hi]
     simp only [Bool.false_eq_true,if_false]
     rw [AO (show (hT [d']).1=4 from hd'.1)]
     cases v.b with
     | true=>
      simp only [if_true,List.map_cons,List.map_nil]
      rw [List.drop_append_of_le_length (by have:=congrArg List.length h1;simp at this;omega)]
     | false=>simp
  ·obtain ⟨v,hv1,hv2⟩:=Xy hseg true fun h=>by cases h
   have hdq:afw q:=fun t ht=>hd t (by simp [ht])
   obtain ⟨L,js,i1,i2,i3⟩:=VI n q d3 hdq (by simp at hn;omega)
   refine ⟨if v.b=true then L else v.x::L,(if v.b=true then [(v.k,v.e)] else [])++js.map fun j=>(j.1+(p.length+1),j.2), ?_,fun j hj=>?_,fun m T' hm hT1 hT'=>?_⟩
   ·rw [List.pairwise_append]
    refine ⟨by split<;>simp, ?_,fun a ha b hb=>?_⟩
    ·rw [List.pairwise_map]
     exact i1.imp fun h=>by simp only [];omega
    ·obtain ⟨c,hc,rfl⟩:=List.mem_map.1 hb
     split at ha
     ·simp at ha;subst ha;simp only [];omega
     ·simp at ha
   ·rcases List.mem_append.1 hj with hj|hj
    ·split at hj
     ·simp at hj;subst hj;simp;omega
     ·simp at hj
    ·obtain ⟨c,hc,rfl⟩:=List.mem_map.1 hj
     have:=i2 c hc
     simp only [List.length_append,List.length_cons];omega
   ·obtain ⟨p',d',q',rfl,h1,h2,h3⟩:=LU hT'
    have hpl:p'.length=p.length:=by have:=congrArg List.length h1;simpa using this
    have hd':d'.1=3∧d'.2.1=[46]:=by simp only [jZ,Prod.mk.injEq] at h2;exact ⟨by rw [h2.1];exact d1,by rw [h2.2];exact d2⟩
    have hp2:=Fp hp h1
    have hdk:∀t∈p',t.2.1=[46]→t.1=3:=fun t ht e=>by
     obtain ⟨u,hu,he⟩:=Vl h1 ht
     simp only [jZ,Prod.mk.injEq] at he
     rw [he.1];exact hd u (by simp [hu]) (by rw [←he.2];exact e)
    obtain ⟨m,rfl⟩:∃m',m=m'+1:=⟨m - 1,by simp at hm;omega⟩
    have hi:=hv2 p' d' q' h1 hdk (by simpa using hd') hT1
    have hwq:WT q':=by
     have h4:=(PL hT1 hp2).2
     rcases P8 h4 (by simp [jw,hd'.1,hd'.2]) with ⟨k,_⟩|⟨_,_,k⟩
     ·omega
     ·exact k
    rw [yK m (XD hp2 fun _=>by omega),hi]
    simp only [if_true]
    rw [i3 m q' (by simp at hm;omega) hwq h3]
    have hdr:∀j,(p'++d'::q').drop (j+(p.length+1))=q'.drop j:=fun j=>by
     rw [show j+(p.length+1)=p'.length+(1+j) by omega,←List.drop_drop,List.drop_left,←List.drop_drop];rfl
    cases v.b with
    | true=>
     simp only [if_true,List.map_append,List.map_cons,List.map_nil,List.map_map,List.singleton_append]
     rw [List.drop_append_of_le_length (by omega)]
     refine congrArg (fun z=>(L,_::z)) (List.map_congr_left fun j _=>?_)
     simp only [Function.comp_apply,hdr]
    | false=>
     simp only [Bool.false_eq_true,if_false,List.nil_append,List.map_map]
     congr 2
     funext j
     simp only [Function.comp_apply,hdr]
end Go.Ai.Z
namespace Go.Ai.Z
theorem ZK {c:C} (h1:oV c=true) (h2:xM c=true) (h3:∀p∈c.parts,iH p=0):iH c=0:=by
 rw [BP,if_neg (by rw [h1];decide),if_neg (by rw [h2];decide)]
 generalize c.parts=l at h3
 induction l with
 | nil=>simp [qV]
 | cons p r ih=>
  rw [qV,if_pos (h3 p (by simp))]
  exact ih fun q hq=>h3 q (by simp [hq])
theorem ZJ:∀c:C,iH (nz c)=iH c:=by
 refine C.ind' fun c ih=>?_
 have hl:∀qs:List C,(∀p∈qs,iH (nz p)=iH p)→qV (qs.map nz)=qV qs:=by
  intro qs
  induction qs with
  | nil=>intro _;rfl
  | cons p r ihr=>
   intro hp
   simp only [List.map_cons,qV,hp p (by simp),ihr fun q hq=>hp q (by simp [hq])]
 have h1:oV (nz c)=oV c:=by simp only [oV,uj,xK,Ue,Uf,nU,List.length_map]
 have h2:xM (nz c)=xM c:=by simp only [xM,uj,xK]
 rw [BP (nz c),BP c,h1,h2,nU,hl c.parts ih]
theorem XY:∀c:C,mW (nz c)=mW c:=by
 refine C.ind' fun c ih=>?_
 have hl:∀qs:List C,(∀p∈qs,mW (nz p)=mW p)→qL (qs.map nz)=qL qs:=by
  intro qs
  induction qs with
  | nil=>intro _;rfl
  | cons p r ihr=>
   intro hp
   simp only [List.map_cons,qL,hp p (by simp),ihr fun q hq=>hp q (by simp [hq])]
 rw [vH (nz c),vH c,nU,hl c.parts ih]
theorem aay:∀c:C,mZ (nz c)=mZ c:=by
 refine C.ind' fun c ih=>?_
 have hl:∀qs:List C,(∀p∈qs,mZ (nz p)=mZ p)→rM (qs.map nz)=rM qs:=by
  intro qs
  induction qs with
  | nil=>intro _;rfl
  | cons p r ihr=>
   intro hp
   simp only [List.map_cons,rM,hp p (by simp),ihr fun q hq=>hp q (by simp [hq])]
 rw [Gn (nz c),Gn c,uj,nU,hl c.parts ih]
theorem adS (c:C):jg (nz c)=jg c:=by unfold jg;rw [XY,Jy,ZJ]
theorem GV {l:List C} {D:Nat} (h:∀p∈l,1+mW p≤D):qL l≤D:=by
 induction l with
 | nil=>exact Nat.zero_le _
 | cons p r ih=>
  have h1:=h p (by simp)
  have h2:=ih fun q hq=>h q (by simp [hq])
  simp only [qL];omega
theorem Zg {l:List C} {p:C} (h:p∈l):1+mW p≤qL l:=by
 induction l with
 | nil=>cases h
 | cons q r ih=>
  simp only [qL]
  rcases List.mem_cons.1 h with rfl|h
  ·omega
  ·have:=ih h;omega
theorem BU {l:List C} {p:C} (h:p∈l):dR p≤fC l:=by
 induction l with
 | nil=>cases h
 | cons q r ih=>
  simp only [fC]
  rcases List.mem_cons.1 h with rfl|h
  ·omega
  ·have:=ih h;omega
theorem aaO {l m:List C} (h:l.Sublist m):fC l≤fC m:=by
 induction h with
 | slnil=>exact Nat.le_refl _
 | cons a _ ih=>simp only [fC];omega
 | cons_cons a _ ih=>simp only [fC];omega
theorem Yy {l m:List C} (h:l.Perm m):fC l=fC m:=by
 induction h with
 | nil=>rfl
 | cons a _ ih=>simp only [fC,ih]
 | swap a b l=>simp only [fC];omega
 | trans _ _ h1 h2=>exact h1.trans h2
theorem TM:∀qs:List C,fC (qs.flatMap iT)≤fC qs
 | []=>Nat.le_refl _
 | q::r=>by
  have ih:=TM r
  have hq:fC (iT q)≤dR q:=by
   unfold iT
   split
   ·exact Nat.zero_le _
   ·split
    ·rw [nT];omega
    ·simp [fC]
  rw [List.flatMap_cons,BV]
  simp only [fC];omega
theorem UM {l:List C}:rM l=true ↔ ∃p∈l,mZ p=true:=by
 induction l with
 | nil=>simp [rM]
 | cons p r ih=>simp [rM,ih]
structure Val (t c:C):Prop where
 w:iH t=0
 s:dR t≤dR c
 d:mW t≤mW c
 b:mZ t=true→mZ c=true
theorem II:∀{ps qs:List C},(∀p∈ps,∀t,mF p=some t→Val t p)→jS ps=some qs→
  fC qs≤fC ps∧(∀q∈qs,iH q=0∧1+mW q≤qL ps∧(mZ q=true→rM ps=true))∧qs.length=ps.length
 | [],qs,_,h=>by simp [jS] at h;subst h;exact ⟨Nat.le_refl _,fun q hq=>(by cases hq),rfl⟩
 | p::r,qs,hp,h=>by
  simp only [jS] at h
  cases h1:mF p with
  | none=>rw [h1] at h;cases h
  | some x=>
   rw [h1] at h
   cases h2:jS r with
   | none=>rw [h2] at h;cases h
   | some xs=>
    rw [h2] at h
    cases h
    obtain ⟨i1,i2,i3⟩:=II (fun q hq=>hp q (by simp [hq])) h2
    have hv:=hp p (by simp) x h1
    refine ⟨by have:=hv.s;simp only [fC];omega,fun q hq=>?_,by simp [i3]⟩
    rcases List.mem_cons.1 hq with rfl|hq
    ·refine ⟨hv.w,by have:=hv.d;simp only [qL];omega,fun hb=>?_⟩
     simp only [rM,hv.b hb,Bool.true_or]
    ·obtain ⟨j1,j2,j3⟩:=i2 q hq
     refine ⟨j1,by simp only [qL];omega,fun hb=>?_⟩
     simp only [rM,j3 hb,Bool.or_true]
theorem acZ {qs:List C} {t:C} {D S:Nat} {B:Prop} (hq:∀q∈qs,iH q=0∧1+mW q≤D∧(mZ q=true→B)) (hs:fC qs≤S) (h:CU qs=some t):
  iH t=0∧dR t≤1+S∧mW t≤D∧(mZ t=true→B):=by
 have hL:∀p∈qs.flatMap iT,iH p=0∧1+mW p≤D∧(mZ p=true→B):=by
  intro p hp
  obtain ⟨q,h1,h2⟩:=List.mem_flatMap.1 hp
  obtain ⟨w1,w2,w3⟩:=hq q h1
  unfold iT at h2
  split at h2
  ·cases h2
  ·split at h2
   ·rename_i h5
    have hd:=Zg h2
    rw [←vH] at hd
    refine ⟨(O5 w1).2.2 p h2,by omega,fun hb=>w3 ?_⟩
    rw [Gn,if_neg (by omega),if_pos h5]
    exact UM.2 ⟨p,h2,hb⟩
   ·have:p=q:=by simpa using h2
    rw [this];exact ⟨w1,w2,w3⟩
 unfold CU at h
 simp only [] at h
 have hsub:=Dl (qJ (qs.flatMap iT))
 have hsz:fC (comp (qJ (qs.flatMap iT)))≤S:=by
  have h1:=aaO hsub
  rw [Yy (uG _)] at h1
  have:=TM qs;omega
 have hm:∀p∈comp (qJ (qs.flatMap iT)),iH p=0∧1+mW p≤D∧(mZ p=true→B):=fun p hp=>hL p ((uG _).mem_iff.1 (hsub.mem hp))
 generalize comp (qJ (qs.flatMap iT))=m at *
 have one:∀p∈m,iH p=0∧dR p≤1+S∧mW p≤D∧(mZ p=true→B):=fun p hp=>by
  obtain ⟨k1,k2,k3⟩:=hm p hp
  exact ⟨k1,by have:=BU hp;omega,by omega,k3⟩
 cases hf:m.find? (fun t=>decide (t.kind=2)) with
 | some x=>
  rw [hf] at h
  cases h
  exact one t (List.mem_of_find?_eq_some hf)
 | none=>
  rw [hf] at h
  rcases m with _|⟨x,_|⟨y,r⟩⟩
  ·cases h
   exact ⟨by decide,by show dR aaF≤_;simp [aaF,dR,fC],by simp [aaF,mW,qL],fun hb=>absurd hb (by decide)⟩
  ·cases h
   exact one t (by simp)
  ·simp only [] at h
   split at h
   ·cases h
   ·rename_i h8
    cases h
    refine ⟨ZK ?_ ?_ fun p hp=>(hm p hp).1, ?_, ?_,fun hb=>?_⟩
    ·have h8':((x::y::r).length:Int)≤8:=by omega
     have h2':(2:Int)≤((x::y::r).length:Int):=by simp only [List.length_cons];omega
     simp only [oV,C.kind,C.lo,C.hi,C.name,C.parts,h8',h2']
     rfl
    ·simp [xM,C.kind]
    ·rw [nT];show 1+fC (x::y::r)≤_;omega
    ·rw [vH];exact GV fun p hp=>(hm p hp).2.1
    ·simp only [mZ,show ¬(5:Int)=4 by decide,if_false,if_true] at hb
     obtain ⟨p,hp,hb⟩:=UM.1 hb
     exact (hm p hp).2.2 hb
theorem WE:∀c t:C,iH c=0→mF c=some t→Val t c:=by
 refine C.ind' (P:=fun c=>∀t,iH c=0→mF c=some t→Val t c) fun c ih t hw h=>?_
 obtain ⟨v1,v2,v3⟩:=O5 hw
 have hps:∀p∈c.parts,∀t,mF p=some t→Val t p:=fun p hp t=>ih p hp t (v3 p hp)
 cases c with
 | mk k n l hh z ps=>
  simp only [C.parts] at hps
  rw [mF] at h
  split at h
  ·rename_i k6
   cases h1:jS ps with
   | none=>rw [h1] at h;cases h
   | some qs=>
    obtain ⟨i1,i2,i3⟩:=II hps h1
    rw [h1] at h
    cases qs with
    | nil=>cases h
    | cons p r=>
     obtain ⟨j1,j2,j3⟩:=i2 p (by simp)
     have hsz:=BU (l:=p::r) (p:=p) (by simp)
     simp only [] at h
     split at h
     ·rename_i k2
      cases h
      refine ⟨j1,by rw [nT (C.mk k n l hh z ps)];show _≤1+fC ps;omega,by rw [vH (C.mk k n l hh z ps)];show _≤qL ps;omega,fun hb=>?_⟩
      rw [Gn,if_neg (by omega),if_neg (by omega)] at hb
      cases hb
     ·cases h
      refine ⟨ZK ?_ ?_ fun q hq=>?_, ?_, ?_,fun hb=>?_⟩
      ·simp [oV,C.kind,C.lo,C.hi,C.name,C.parts]
      ·simp only [xM,C.kind,C.name] at v2 ⊢
       simpa [k6] using v2
      ·simp [C.parts] at hq;subst hq;exact j1
      ·rw [nT,nT (C.mk k n l hh z ps)]
       show 1+fC [p]≤1+fC ps
       simp [fC];omega
      ·rw [vH,vH (C.mk k n l hh z ps)]
       exact GV fun q hq=>by simp [C.parts] at hq;subst hq;exact j2
      ·simp [mZ] at hb
  ·split at h
   ·rename_i k6 k5
    cases h1:jS ps with
    | none=>rw [h1] at h;cases h
    | some qs=>
     obtain ⟨i1,i2,i3⟩:=II hps h1
     rw [h1] at h
     obtain ⟨w1,w2,w3,w4⟩:=acZ i2 i1 h
     refine ⟨w1,by rw [nT (C.mk k n l hh z ps)];exact w2,by rw [vH (C.mk k n l hh z ps)];exact w3,fun hb=>?_⟩
     simp only [mZ]
     rw [if_neg (show ¬k=4 by omega),if_pos k5]
     exact w4 hb
   ·cases h
    exact ⟨by rw [ZJ];exact hw,by rw [Jy];exact Nat.le_refl _,by rw [XY];exact Nat.le_refl _,fun hb=>by rw [aay] at hb;exact hb⟩
theorem Zq {c t:C} (h0:jg c=0) (h:mF c=some t):jg t=0:=by
 have hw:iH c=0∧¬(8<mW c∨64<dR c):=by unfold jg at h0;split at h0;cases h0;exact ⟨h0,by assumption⟩
 have hv:=WE c t hw.1 h
 unfold jg
 have:=hv.s;have:=hv.d
 rw [if_neg (by omega)];exact hv.w
end Go.Ai.Z
namespace Go.Ai.Z
theorem adP (c:C):emptyS (nz c)=emptyS c:=by simp only [emptyS,uj,xK,Ue,Uf,nU,List.length_map]
theorem Jz {b:Bool} {c p c':C} (h:BX b c=some p) (hc:b=true→jg c=0) (hz:b=false→c=zC) (hn:nz c'=p):
  (b=true→jg c'=0)∧(b=false→emptyS c'=true)∧wC c'≤150∧BX b c'=some p∧(b=true→mZ c'=true→mZ c=true):=by
 cases b with
 | true=>
  have h1:mF c=some p:=by simpa [BX] using h
  have h0:=hc rfl
  have h2:jg c'=0:=by rw [←adS,hn];exact Zq h0 h1
  have hw:iH c=0:=by unfold jg at h0;split at h0;cases h0;exact h0
  refine ⟨fun _=>h2,fun h=>(by cases h),by have:=IE h2;omega, ?_,fun _ hb=>?_⟩
  ·simp only [BX,if_true]
   rw [←PW,hn];exact (canon c p h1).fx
  ·rw [←aay,hn] at hb
   exact (WE c p hw h1).b hb
 | false=>
  have h1:nz c=p:=by simpa [BX] using h
  rw [hz rfl] at h1
  have h2:nz c'=nz zC:=hn.trans h1.symm
  have hnm:c'.name=[]:=by rw [←xK,h2,xK];rfl
  have hpt:c'.parts=[]:=by
   have:c'.parts.map nz=zC.parts.map nz:=by rw [←nU,h2,nU]
   simpa [zC,C.parts] using this
  refine ⟨fun h=>(by cases h),fun _=>by rw [←adP,h2];decide, ?_,by simp only [BX];rw [if_neg (by decide),hn],fun h=>(by cases h)⟩
  rw [qm,hnm,hpt]
  decide
theorem Tq {y:Ax} (h:jV y=0):uh y=true∧FM y (iE y.kind)=true∧((iE y.kind).l=true→jg y.left=0)∧((iE y.kind).r=true→jg y.right=0)∧
  ¬((y.kind=2∧(mZ y.left=true∨mZ y.right=true))∨((y.kind=1∨y.kind=4∨y.kind=8)∧mZ y.right=true)):=by
 have h2:=TN h
 unfold jV at h
 split at h
 ·cases h
 rename_i h1
 split at h
 ·cases h
 rename_i h3
 refine ⟨by simpa using h1,by simpa using h3,h2.1,h2.2,fun hb=>?_⟩
 unfold Np at h
 split at h
 ·rename_i hc;exact absurd h hc.2
 split at h
 ·rename_i hc;exact absurd h hc.2
 exact absurd h (by decide)
theorem RX {x:Ax} (h1:uh x=true) (h2:FM x (iE x.kind)=true) (h3:(iE x.kind).l=true→jg x.left=0) (h4:(iE x.kind).r=true→jg x.right=0)
  (h5:¬((x.kind=2∧(mZ x.left=true∨mZ x.right=true))∨((x.kind=1∨x.kind=4∨x.kind=8)∧mZ x.right=true))):jV x=0:=by
 unfold jV
 rw [if_neg (by rw [h1];decide),if_neg (by rw [h2];decide)]
 unfold Np
 rw [if_neg (fun h=>h.2 (h3 h.1)),if_neg (fun h=>h.2 (h4 h.1)),if_neg h5]
theorem IK (x:Ax):uh x=true ↔ BI x=true∧((iE x.kind).l=true∨emptyS x.left=true)∧((iE x.kind).r=true∨emptyS x.right=true)∧((iE x.kind).role=true∨x.role=[])∧((iE x.kind).a=true∨x.a=[])∧((iE x.kind).b=true∨x.b=[])∧
  (iE x.kind).lo≤x.roles.length∧(x.roles.length:Int)≤(iE x.kind).hi:=by
 simp [uh,and_assoc]
theorem aaI {y x t:Ax} {w:Nat} (hp:y.Parsed w) (h0:jV y=0) (ht:zk y=some t) (hx:nzA x=t):jV x=0∧x.Few∧zk x=some t:=by
 obtain ⟨c1,c2,c3,c4,c5⟩:=Tq h0
 rw [IK] at c1
 obtain ⟨s1,s2,s3,s4,s5,s6,s7,s8⟩:=c1
 unfold zk at ht
 cases hl:BX (iE y.kind).l y.left with
 | none=>rw [hl] at ht;simp at ht
 | some p=>
  cases hr:BX (iE y.kind).r y.right with
  | none=>rw [hl,hr] at ht;simp at ht
  | some q=>
   rw [hl,hr] at ht
   simp only [] at ht
   by_cases hsw:(y.kind=2∨y.kind=3)∧0<kS p q
   ·rw [if_pos hsw] at ht
    have ht:=Option.some.inj ht
    have hx':=hx.trans ht.symm
    simp only [nzA,Ax.mk.injEq] at hx'
    obtain ⟨e1,e2,e3,e4,-,e5,e6,e7,e8⟩:=hx'
    have hul:(iE y.kind).l=true:=by rcases hsw.1 with k|k<;>rw [k]<;>rfl
    have hur:(iE y.kind).r=true:=by rcases hsw.1 with k|k<;>rw [k]<;>rfl
    have vl:=Jz hr c4 (fun h=>by rw [hur] at h;cases h) e3
    have vr:=Jz hl c3 (fun h=>by rw [hul] at h;cases h) e4
    have hneg:¬0<kS q p:=by
     have:=(mX.anti q p trivial trivial).2 hsw.2
     omega
    refine ⟨RX ?_ ?_ ?_ ?_ ?_,⟨vl.2.2.1,vr.2.2.1, ?_, ?_, ?_, ?_, ?_⟩, ?_⟩
    ·rw [IK,e1,e5,e6,e7,e8]
     refine ⟨by unfold BI at s1 ⊢;rw [e1];exact s1,.inl hul,.inl hur,s4,s5,s6,s7,s8⟩
    ·rw [e1];unfold FM at c2 ⊢;rw [e5,e6,e7,e8];exact c2
    ·rw [e1];intro _;exact vl.1 hur
    ·rw [e1];intro _;exact vr.1 hul
    ·rw [e1]
     intro hb
     rcases hb with ⟨k,hb⟩|⟨k,hb⟩
     ·rcases hb with hb|hb
      ·exact c5 (.inl ⟨k,.inr (vl.2.2.2.2 hur hb)⟩)
      ·exact c5 (.inl ⟨k,.inl (vr.2.2.2.2 hul hb)⟩)
     ·have:=hsw.1;omega
    ·rw [e5];have:=hp.roles;omega
    ·rw [e5];intro r hr;have:=hp.rs r hr;omega
    ·rw [e6];have:=hp.role;omega
    ·rw [e7];have:=hp.a;omega
    ·rw [e8];have:=hp.b;omega
    ·unfold zk
     have v1:=vl.2.2.2.1
     have v2:=vr.2.2.2.1
     rw [hur] at v1
     rw [hul] at v2
     rw [e1,hul,hur,v1,v2]
     simp only []
     rw [if_neg (fun h=>hneg h.2),←hx]
     simp only [nzA,e3,e4]
     rw [e1]
   ·rw [if_neg hsw] at ht
    have ht:=Option.some.inj ht
    have hx':=hx.trans ht.symm
    simp only [nzA,Ax.mk.injEq] at hx'
    obtain ⟨e1,e2,e3,e4,-,e5,e6,e7,e8⟩:=hx'
    have vl:=Jz hl c3 hp.ul e3
    have vr:=Jz hr c4 hp.ur e4
    refine ⟨RX ?_ ?_ ?_ ?_ ?_,⟨vl.2.2.1,vr.2.2.1, ?_, ?_, ?_, ?_, ?_⟩, ?_⟩
    ·rw [IK,e1,e5,e6,e7,e8]
     refine ⟨by unfold BI at s1 ⊢;rw [e1];exact s1, ?_, ?_,s4,s5,s6,s7,s8⟩
     ·cases hu:(iE y.kind).l with
      | true=>exact .inl rfl
      | false=>exact .inr (vl.2.1 hu)
     ·cases hu:(iE y.kind).r with
      | true=>exact .inl rfl
      | false=>exact .inr (vr.2.1 hu)
    ·rw [e1];unfold FM at c2 ⊢;rw [e5,e6,e7,e8];exact c2
    ·rw [e1];exact vl.1
    ·rw [e1];exact vr.1
    ·rw [e1]
     intro hb
     rcases hb with ⟨k,hb⟩|⟨k,hb⟩
     ·have hul:(iE y.kind).l=true:=by rw [k];rfl
      have hur:(iE y.kind).r=true:=by rw [k];rfl
      rcases hb with hb|hb
      ·exact c5 (.inl ⟨k,.inl (vl.2.2.2.2 hul hb)⟩)
      ·exact c5 (.inl ⟨k,.inr (vr.2.2.2.2 hur hb)⟩)
     ·have hur:(iE y.kind).r=true:=by rcases k with k|k|k<;>rw [k]<;>rfl
      exact c5 (.inr ⟨k,vr.2.2.2.2 hur hb⟩)
    ·rw [e5];have:=hp.roles;omega
    ·rw [e5];intro r hr;have:=hp.rs r hr;omega
    ·rw [e6];have:=hp.role;omega
    ·rw [e7];have:=hp.a;omega
    ·rw [e8];have:=hp.b;omega
    ·unfold zk
     have v1:=vl.2.2.2.1
     have v2:=vr.2.2.2.1
     rw [e1,v1,v2]
     simp only []
     rw [if_neg (fun h=>hsw h),←hx]
     simp only [nzA,e3,e4]
     rw [e1]
end Go.Ai.Z
namespace Go.Ai.Z
structure Yl (a:Nat) (p:List Tok×List Pb):Prop where
 t:p.1.Pairwise fun x y=>x.2.2<y.2.2
 t0:∀x∈p.1,a≤x.2.2
 b:p.2.Pairwise fun x y=>x.1<y.1
 b0:∀x∈p.2,(a:Int)≤x.1
 tb:∀x∈p.1,∀y∈p.2,(x.2.2:Int)≠y.1
theorem Yl.mono {a a':Nat} {p:List Tok×List Pb} (h:Yl a' p) (ha:a≤a'):Yl a p:=
 ⟨h.t,fun x hx=>by have:=h.t0 x hx;omega,h.b,fun x hx=>by have:=h.b0 x hx;omega,h.tb⟩
theorem JW:∀(n:Nat) (b:List UInt8) (a:Nat) (la:Int) {p:List Tok×List Pb},nO n b a la=some p→Yl a p
 | 0,b,a,la,p,h=>by simp [nO] at h
 | n+1,b,a,la,p,h=>by
  unfold nO at h
  cases hx:b.dropWhile mY with
  | nil=>
   rw [hx] at h
   simp only [Option.some.injEq] at h
   subst h
   exact ⟨by simp,by simp,by simp,by simp,by simp⟩
  | cons c r=>
   rw [hx] at h
   simp only [] at h
   split at h
   ·exact (JW n _ _ _ h).mono (by omega)
   ·have hs:=yX c r
    split at h
    ·obtain ⟨q,hq,rfl⟩:=Option.map_eq_some_iff.1 h
     have hp:=JW n _ _ _ hq
     split
     ·refine ⟨hp.t,fun x hx=>by have:=hp.t0 x hx;omega,List.pairwise_cons.2 ⟨fun y hy=>?_,hp.b⟩,fun x hx=>?_,fun x hx y hy=>?_⟩
      ·have:=hp.b0 y hy;simp only [] at this ⊢;omega
      ·rcases List.mem_cons.1 hx with rfl|hx
       ·simp only [];omega
       ·have:=hp.b0 x hx;omega
      ·rcases List.mem_cons.1 hy with rfl|hy
       ·have:=hp.t0 x hx;simp only [];omega
       ·exact hp.tb x hx y hy
     ·exact hp.mono (by omega)
    ·obtain ⟨q,hq,rfl⟩:=Option.map_eq_some_iff.1 h
     have hp:=JW n _ _ _ hq
     refine ⟨List.pairwise_cons.2 ⟨fun y hy=>?_,hp.t⟩,fun x hx=>?_,hp.b,fun x hx=>by have:=hp.b0 x hx;omega,fun x hx y hy=>?_⟩
     ·have:=hp.t0 y hy;simp only [] at this ⊢;omega
     ·rcases List.mem_cons.1 hx with rfl|hx
      ·simp only [];omega
      ·have:=hp.t0 x hx;omega
     ·rcases List.mem_cons.1 hx with rfl|hx
      ·have:=hp.b0 y hy;simp only [];omega
      ·exact hp.tb x hx y hy
theorem ac4 (src:List UInt8):Yl 0 (jA src):=JW _ _ _ _ (um src (Nat.lt_succ_self _))
theorem UQ {src:List UInt8} (hl:src.length≤60000):WT (jA src).1:=by rw [←DZ];exact (zI (by omega)).1
theorem afN {T:List Tok} (h:T.Pairwise fun x y=>x.2.2<y.2.2) {i j:Nat} (hij:i<j) (hj:j<T.length):(hT (T.drop i)).2.2<(hT (T.drop j)).2.2:=by
 have e:∀{k:Nat} (hk:k<T.length),hT (T.drop k)=T[k]:=fun {k} hk=>by rw [List.drop_eq_getElem_cons hk];rfl
 rw [e hj,e (by omega)]
 exact List.pairwise_iff_getElem.1 h i j (by omega) hj hij
theorem XW {src:List UInt8} (hl:src.length≤60000):(wu src).2.Pairwise (fun p q=>p.1<q.1)∧∀p∈(wu src).2,∃t∈(jA src).1,p.1=(t.2.2:Int):=by
 have hw:=UQ hl
 obtain ⟨L,js,h1,h2,h3⟩:=VI _ _ hw (Xw src) (Nat.le_refl _)
 have h4:=h3 _ _ (Nat.le_refl _) hw rfl
 have hp:=(ac4 src).t
 unfold wu
 rw [h4]
 refine ⟨?_,fun p hp=>?_⟩
 ·rw [List.pairwise_map]
  refine h1.imp_of_mem fun {a b} ha hb hab=>?_
  have:=afN hp hab (h2 b hb)
  simp only [];omega
 ·obtain ⟨j,hj,rfl⟩:=List.mem_map.1 hp
  refine ⟨_, ?_,rfl⟩
  rw [List.drop_eq_getElem_cons (h2 j hj)]
  exact List.getElem_mem _
def agN (D:List Pb):Prop:=D.Pairwise fun p q=>p.1≠q.1
def LtP (D:List Pb):Prop:=D.Pairwise fun p q=>p.1<q.1
theorem agN.perm {D E:List Pb} (h:agN D) (hp:D.Perm E):agN E:=(hp.pairwise_iff fun h=>Ne.symm h).1 h
theorem IJ:∀{W Z:List Pb},LtP W→lM Z→Z.Perm W→Z=W
 | [],Z,_,_,h=>List.Perm.eq_nil h
 | w::W,[],_,_,h=>(List.Perm.eq_nil h.symm).symm
 | w::W,z::Z,hW,hZ,h=>by
  have hW':=List.pairwise_cons.1 hW
  have hZ':=List.pairwise_cons.1 hZ
  have e:z=w:=by
   have h1:=h.mem_iff (a:=z)
   have h2:=h.mem_iff (a:=w)
   simp only [List.mem_cons,true_or,true_iff,iff_true] at h1 h2
   rcases h1 with h1|h1
   ·exact h1
   ·rcases h2 with h2|h2
    ·exact h2.symm
    ·have:=hW'.1 z h1;have:=hZ'.1 w h2;omega
  subst e
  rw [IJ hW'.2 hZ'.2 h.cons_inv]
structure ae9 (src:List UInt8) (Z:List Pb):Prop where
 p:Z.Perm ((lexB src).2++(wu src).2)
 s:lM Z
theorem ae9.full {src:List UInt8} {Z:List Pb} (h:ae9 src Z) (hl:(Z.take 64).length≠64):Z.take 64=Z∧Z.Perm ((jA src).2++(wu src).2):=by
 have h1:=h.p.length_eq
 have h2:=h.p
 rw [LW] at h1 h2
 simp only [List.length_append,List.length_take] at h1 hl h2
 refine ⟨List.take_of_length_le (by omega), ?_⟩
 rwa [List.take_of_length_le (by omega)] at h2
end Go.Ai.Z
namespace Go.Ai.Z
def Zl:List Int:=[20,21,22,30,2]
theorem ach:∀c:C,iH c=0∨iH c=20∨iH c=21:=by
 refine C.ind' (P:=fun c=>iH c=0∨iH c=20∨iH c=21) fun c ih=>?_
 have hl:∀l:List C,(∀p∈l,iH p=0∨iH p=20∨iH p=21)→qV l=0∨qV l=20∨qV l=21:=by
  intro l h
  induction l with
  | nil=>exact .inl rfl
  | cons p r ih'=>
   simp only [qV]
   split
   ·exact ih' fun q hq=>h q (by simp [hq])
   ·exact h p (by simp)
 rw [BP]
 split
 ·exact .inr (.inr rfl)
 ·split
  ·exact .inr (.inl rfl)
  ·exact hl _ ih
theorem UJ (c:C):jg c=0∨jg c=20∨jg c=21:=by
 unfold jg;split
 ·exact .inr (.inr rfl)
 ·exact ach c
theorem X6 (y:Ax):jV y=0∨jV y∈Zl:=by
 unfold jV
 split
 ·exact .inr (by decide)
 split
 ·exact .inr (by decide)
 unfold Np
 split
 ·rename_i hc
  rcases UJ y.left with k|k|k
  ·exact absurd k hc.2
  ·rw [k];exact .inr (by decide)
  ·rw [k];exact .inr (by decide)
 split
 ·rename_i hc
  rcases UJ y.right with k|k|k
  ·exact absurd k hc.2
  ·rw [k];exact .inr (by decide)
  ·rw [k];exact .inr (by decide)
 split
 ·exact .inr (by decide)
 ·exact .inl rfl
theorem aej {y:Ax} (h:y.Parsed 99999) (he:(tyA y).2≠0):(tyA y).2∈Zl:=by
 have ha:=(PU h).a
 unfold Sm at ha
 split at ha
 ·unfold zn at ha
  split at ha
  ·exact absurd ha.2 he
  ·rw [ha];decide
 ·rw [ha.2] at he ⊢
  rcases X6 y with h|h
  ·exact absurd h he
  ·exact h
structure TdA (a:Ax):Prop where
 c:jV a=0
 f:a.Few
 t:zk a=some (nzA a)
theorem afJ {y:Ax} (h:y.Parsed 99999) (he:(tyA y).2=0):TdA (tyA y).1:=by
 have ha:=(PU h).a
 unfold Sm at ha
 split at ha
 ·rename_i h0
  unfold zn at ha
  split at ha
  ·rename_i t ht
   obtain ⟨v1,v2,v3⟩:=aaI h h0 ht ha.1
   exact ⟨v1,v2,by rw [v3,ha.1]⟩
  ·rw [ha] at he;cases he
 ·rename_i h0
  exact absurd (ha.2.symm.trans he) h0
theorem afK {T r:List Tok} (h:Suf T r):tw r≤tw T:=by
 obtain ⟨⟨p,rfl⟩,_⟩:=h
 rw [Yv];omega
theorem Zf {l r:List Tok} {x:Ax} (hw:WT l) (ht:tw l≤99999) (h:vV l=.ok x r):x.Parsed 99999:=by
 unfold vV at h
 obtain ⟨y,l1,e1,h⟩:=aB.1 h
 obtain ⟨u,l2,e2,h⟩:=aB.1 h
 cases h
 exact (JH hw e1).mono ht
theorem aeP {l r:List Tok} {a c:Int} (hw:WT l) (h:vV l=.er a c r):c∈Zl:=by
 have hn:NZ (vV l):=(Xm hw).bind fun _ _ _=>(CQ _ _).bind fun _ _ _=>NZ.ok _ _
 rcases hn a c r h with h|h|h<;>rw [h]<;>decide
theorem aap {T:List Tok} (hTw:tw T≤99999):∀(n:Nat) {r:List Tok},Suf T r→(∀a∈(rY n r).1,TdA a)∧∀p∈(rY n r).2,p.2∈Zl
 | 0,r,h=>by simp [rY]
 | n+1,r,h=>by
  by_cases hk:(hT r).1=4
  ·rw [AO hk];simp
  ·obtain ⟨h1,_⟩:=J7 h hk
   obtain ⟨i1,i2⟩:=aap hTw n h1
   have htr:=afK h
   rw [yK n hk]
   have hit:((nI r).1.2.2.2=true→(nI r).1.2.2.1∈Zl)∧((nI r).1.2.2.2=false→TdA (nI r).1.1):=by
    unfold nI
    cases hp:vV r with
    | er a c q=>exact ⟨fun _=>aeP h.w hp,fun h=>by cases h⟩
    | ok x q=>
     have hpa:=Zf h.w (by omega) hp
     refine ⟨fun he=>aej hpa (by simpa using he),fun he=>afJ hpa (by simpa using he)⟩
   split
   ·rename_i hb
    refine ⟨i1,fun p hp=>?_⟩
    rcases List.mem_cons.1 hp with rfl|hp
    ·exact hit.1 hb
    ·exact i2 p hp
   ·rename_i hb
    refine ⟨fun a ha=>?_,i2⟩
    rcases List.mem_cons.1 ha with rfl|ha
    ·exact hit.2 (by simpa using hb)
    ·exact i1 a ha
theorem aaq {src:List UInt8} (hl:src.length≤40000):(∀a∈(wu src).1,TdA a)∧∀p∈(wu src).2,p.2∈Zl:=by
 obtain ⟨hw,ht⟩:=zI (src:=src) (by omega)
 rw [DZ] at hw ht
 exact aap (by omega) _ (Jw hw).1
end Go.Ai.Z
namespace Go.Ai.Z
theorem ZU:∀{p u:List UInt8},dV (p++u)≤p.length→dV p=dV (p++u)
 | [],u,h=>by
  have h1:dV u=0:=by simpa using h
  rw [List.nil_append,h1];rfl
 | c::p,u,h=>by
  rw [List.cons_append,oI] at h ⊢
  rw [oI]
  split
  ·rename_i hc
   rw [if_pos hc] at h
   simp only [List.length_cons] at h
   rw [ZU (p:=p) (u:=u) (by omega)]
  ·rfl
theorem aaQ {p u:List UInt8} {k:Int} (h:dJ (p++u)=(k,p.length)) (hk:k≠0):dJ p=(k,p.length):=by
 cases p with
 | nil=>
  exfalso
  rw [List.nil_append,List.length_nil] at h
  cases u with
  | nil=>simp [dJ] at h;exact hk h.symm
  | cons c r=>have:=yX c r;rw [h] at this;exact absurd this (by simp)
 | cons c r=>
  rw [List.cons_append] at h
  have hpre:∀{p:List UInt8},dV (p++u)≤p.length→dV p=dV (p++u):=fun h=>ZU h
  rw [pX] at h ⊢
  by_cases h3:nR c=3
  ·rw [if_pos h3] at h ⊢
   have hm:dV (c::(r++u))≤(c::r).length:=by
    have e:(c::(r++u))=c::r++u:=rfl
    generalize hq:(c::(r++u)).drop (dV (c::(r++u)))=Q at h
    rcases Q with _|⟨d,_|⟨e,q⟩⟩
    ·simp only [Prod.mk.injEq] at h;omega
    ·simp only [Prod.mk.injEq] at h;omega
    ·simp only [] at h
     split at h
     ·simp only [Prod.mk.injEq] at h;omega
     ·simp only [Prod.mk.injEq] at h;omega
   have hr:dV (c::r)=dV (c::(r++u)):=hpre (p:=c::r) hm
   have hd:(c::(r++u)).drop (dV (c::(r++u)))=(c::r).drop (dV (c::r))++u:=by
    rw [hr];exact List.drop_append_of_le_length (l₁:=c::r) (l₂:=u) hm
   rw [hd,←hr] at h
   rw [←hr] at hm
   have hl:((c::r).drop (dV (c::r))).length+dV (c::r)=(c::r).length:=by rw [List.length_drop];omega
   generalize (c::r).drop (dV (c::r))=D at *
   generalize dV (c::r)=m at *
   rcases D with _|⟨d,_|⟨e,q⟩⟩
   ·simp only [List.nil_append,List.length_nil,Nat.zero_add] at h hl
    simp only []
    rcases u with _|⟨d,_|⟨e,q⟩⟩
    ·exact h
    ·exact h
    ·simp only [] at h
     split at h
     ·simp only [Prod.mk.injEq] at h;omega
     ·exact h
   ·simp only [List.cons_append,List.nil_append,List.length_cons,List.length_nil] at h hl
    simp only []
    rcases u with _|⟨e,q⟩
    ·exact h
    ·simp only [] at h
     split at h
     ·rename_i hc
      have h1:dV (e::q)≠0:=by rw [oI,if_pos (by simp [IB,hc.2.2])];omega
      simp only [Prod.mk.injEq,List.length_cons] at h;omega
     ·exact h
   ·simp only [List.cons_append,List.length_cons] at h hl
    simp only []
    split at h
    ·rename_i hc
     simp only [Prod.mk.injEq] at h
     have h1:dV (e::q)=dV (e::(q++u)):=hpre (p:=e::q) (by
      show dV (e::(q++u))≤_
      simp only [List.length_cons];omega)
     rw [if_pos hc,h1]
     simp only [Prod.mk.injEq,List.length_cons];omega
    ·rename_i hc
     simp only [Prod.mk.injEq,List.length_cons] at h;omega
  ·rw [if_neg h3] at h ⊢
   have htok:∀n,n=(c::r).length→ou (c::(r++u)) n=ou (c::r) n:=fun n hn=>by
    rw [show c::(r++u)=c::r++u from rfl];exact LZ (by omega)
   have hsnd:∀b n,(ou b n).2=n:=fun b n=>by unfold ou;split<;>rfl
   by_cases h5:nR c=5
   ·rw [if_pos h5] at h ⊢
    cases r with
    | nil=>
     rw [List.nil_append] at h
     cases u with
     | nil=>exact h
     | cons d q=>
      simp only [] at h
      split at h
      ·simp at h
      ·split at h
       ·rename_i h62 h4
        have h1:dV (d::q)≠0:=by rw [oI,if_pos (by simp [IB,h4])];omega
        have h2:=congrArg Prod.snd h
        rw [hsnd] at h2
        simp only [List.length_cons,List.length_nil] at h2;omega
       ·exact h
    | cons d q=>
     simp only [List.cons_append] at h ⊢
     split at h
     ·rename_i h62
      rw [if_pos h62];exact h
     ·rename_i h62
      rw [if_neg h62]
      split at h
      ·rename_i h4
       rw [if_pos h4]
       have h2:=congrArg Prod.snd h
       rw [hsnd] at h2
       simp only [List.length_cons] at h2
       have h1:dV (d::q)=dV (d::(q++u)):=hpre (p:=d::q) (by
        show dV (d::(q++u))≤_
        simp only [List.length_cons];omega)
       rw [h1,←htok _ (by simp only [List.length_cons];omega)]
       exact h
      ·rename_i h4
       rw [if_neg h4];exact h
   ·rw [if_neg h5] at h ⊢
    by_cases h4:nR c=4
    ·rw [if_pos h4] at h ⊢
     have h2:=congrArg Prod.snd h
     rw [hsnd] at h2
     have h1:dV (c::r)=dV (c::(r++u)):=hpre (p:=c::r) (by show dV (c::(r++u))≤_;omega)
     rw [h1,←htok _ h2];exact h
    ·rw [if_neg h4] at h ⊢
     exact h
def Sc (t:Tok):Prop:=dJ t.2.1=(t.1,t.2.1.length)∧t.1≠0∧t.2.1≠[]∧t.2.1.dropWhile mY=t.2.1∧(∀c r,t.2.1=c::r→nR c≠2)
theorem Pj:∀(n:Nat) (b:List UInt8) (a:Nat) (la:Int) {p:List Tok×List Pb},nO n b a la=some p→∀t∈p.1,t.1≠4→Sc t
 | 0,b,a,la,p,h=>by simp [nO] at h
 | n+1,b,a,la,p,h=>by
  unfold nO at h
  cases hx:b.dropWhile mY with
  | nil=>
   rw [hx] at h
   simp only [Option.some.injEq] at h
   subst h
   intro t ht h4
   simp only [List.mem_singleton] at ht
   subst ht;exact absurd rfl h4
  | cons c r=>
   rw [hx] at h
   simp only [] at h
   split at h
   ·exact Pj n _ _ _ h
   ·rename_i h2
    split at h
    ·obtain ⟨q,hq,rfl⟩:=Option.map_eq_some_iff.1 h
     intro t ht
     exact Pj n _ _ _ hq t ht
    ·rename_i hk
     obtain ⟨q,hq,rfl⟩:=Option.map_eq_some_iff.1 h
     intro t ht h4
     rcases List.mem_cons.1 ht with rfl|ht
     ·have hp:=yX c r
      have hle:=O8 c r
      obtain ⟨w,hw⟩:∃w,(c::r).take (dJ (c::r)).2=c::w:=by
       cases hn:(dJ (c::r)).2 with
       | zero=>omega
       | succ n=>exact ⟨r.take n,by rw [List.take_succ_cons]⟩
      have hlen:((c::r).take (dJ (c::r)).2).length=(dJ (c::r)).2:=by rw [List.length_take];omega
      have hbl:mY c=false:=by
       have:=List.head?_dropWhile_not mY b
       rw [hx] at this
       simpa using this
      refine ⟨aaQ (u:=(c::r).drop (dJ (c::r)).2) ?_ hk,hk, ?_, ?_, ?_⟩
      ·simp only []
       rw [List.take_append_drop,hlen]
      ·simp only [hw];simp
      ·simp only [hw];rw [List.dropWhile_cons,hbl];simp
      ·simp only [hw]
       intro c' r' e
       obtain ⟨rfl,_⟩:=List.cons.inj e
       exact h2
     ·exact Pj n _ _ _ hq t ht h4
theorem VZ (x:List UInt8):∀t∈body x,Sc t:=fun t ht=>by
 have hc:=zH x []
 exact Pj _ _ _ _ (um x (Nat.lt_succ_self _)) t (by rw [hc.x1];simp [ht]) (hc.bd t ht).2
def vM:List Tok→List UInt8
 | []=>[]
 | t::r=>32::(t.2.1++vM r)
def o6:List Tok→List UInt8
 | []=>[]
 | t::r=>t.2.1++vM r
theorem aae {t:Tok} (h:Sc t) (l:List Tok) (n a:Nat) (la:Int):nO (n+1) (t.2.1++vM l) a la=(nO n (vM l) (a+t.2.1.length) la).map fun p=>((t.1,t.2.1,a)::p.1,p.2):=by
 obtain ⟨h1,h2,h3,h4,h5⟩:=h
 obtain ⟨k,w,at_⟩:=t
 simp only [] at *
 cases w with
 | nil=>exact absurd rfl h3
 | cons c r=>
  have hsc:dJ (c::(r++vM l))=(k,(c::r).length):=by
   cases l with
   | nil=>rw [vM,List.append_nil];exact h1
   | cons u l=>rw [vM,←h1];exact ZQ (x:=32) (by decide) c r _
  have hbl:mY c=false:=by
   rw [List.dropWhile_cons] at h4
   split at h4
   ·have:=(List.dropWhile_sublist (p:=mY) (l:=r)).length_le
    rw [h4] at this
    simp only [List.length_cons] at this;omega
   ·rename_i hb;simpa using hb
  have hdw:(c::(r++vM l)).dropWhile mY=c::(r++vM l):=by rw [List.dropWhile_cons,hbl];simp
  rw [List.cons_append,nO,hdw]
  simp only [hsc]
  rw [if_neg (h5 c r rfl),if_neg h2,Nat.sub_self,Nat.add_zero,show c::(r++vM l)=c::r++vM l from rfl,List.drop_left,List.take_left]
theorem Xu:∀(l:List Tok),(∀t∈l,Sc t)→∀(a:Nat) (la:Int),∃res,(∀n,l.length<n→nO n (vM l) a la=some (res,[]))∧res.map jZ=l.map jZ++[(4,[])]
 | [],_,a,la=>⟨[(4,[],a)],fun n hn=>by obtain ⟨m,rfl⟩:∃m,n=m+1:=⟨n - 1,by simp at hn;omega⟩;rfl,rfl⟩
 | t::r,h,a,la=>by
  obtain ⟨res,h1,h2⟩:=Xu r (fun u hu=>h u (by simp [hu])) (a+1+t.2.1.length) la
  refine ⟨(t.1,t.2.1,a+1)::res,fun n hn=>?_,by rw [List.map_cons,h2];rfl⟩
  obtain ⟨m,rfl⟩:∃m,n=m+1:=⟨n - 1,by simp at hn;omega⟩
  have hb:=DX (n:=m+1) [32] (t.2.1++vM r) (a:=a) (la:=la) (by decide)
  rw [vM]
  rw [show 32::(t.2.1++vM r)=[32]++(t.2.1++vM r) from rfl,hb,aae (h t (by simp))]
  show (nO m _ (a+1+_) la).map _=_
  rw [h1 m (by simp at hn;omega)];rfl
theorem Ul (l:List Tok) (h:∀t∈l,Sc t):(jA (o6 l)).1.map jZ=l.map jZ++[(4,[])]∧(jA (o6 l)).2=[]:=by
 have hx:∃res,(∀n,l.length<n→nO n (o6 l) 0 (-1)=some (res,[]))∧res.map jZ=l.map jZ++[(4,[])]:=by
  cases l with
  | nil=>exact ⟨[(4,[],0)],fun n hn=>by obtain ⟨m,rfl⟩:∃m,n=m+1:=⟨n - 1,by simp at hn;omega⟩;rfl,rfl⟩
  | cons t r=>
   obtain ⟨res,h1,h2⟩:=Xu r (fun u hu=>h u (by simp [hu])) (0+t.2.1.length) (-1)
   refine ⟨(t.1,t.2.1,0)::res,fun n hn=>?_,by rw [List.map_cons,h2];rfl⟩
   obtain ⟨m,rfl⟩:∃m,n=m+1:=⟨n - 1,by simp at hn;omega⟩
   rw [o6,aae (h t (by simp)),h1 m (by simp at hn;omega)];rfl
 obtain ⟨res,h1,h2⟩:=hx
 have h3:=um (o6 l) (n:=(o6 l).length+l.length+1) (by omega)
 rw [h1 _ (by omega)] at h3
 have h5:=Option.some.inj h3
 rw [←h5];exact ⟨h2,rfl⟩
theorem MP {src:List UInt8} (hl:src.length≤30000) (hl':(o6 (body src)).length≤60000):(wu (o6 (body src))).1=(wu src).1∧(wu (o6 (body src))).2.map (fun p=>p.2)=(wu src).2.map (fun p=>p.2):=by
 have hc:=zH src []
 have hw:=UQ (src:=src) (by omega)
 have hw':=UQ hl'
 obtain ⟨L,js,h1,h2,h3⟩:=VI _ _ hw (Xw src) (Nat.le_refl _)
 have hm:(jA (o6 (body src))).1.map jZ=(jA src).1.map jZ:=by
  rw [(Ul _ (VZ src)).1,hc.x1,List.map_append];rfl
 have hlen:(jA (o6 (body src))).1.length=(jA src).1.length:=by
  have:=congrArg List.length hm;simpa using this
 have e1:=h3 _ _ (Nat.le_refl _) hw rfl
 have e2:=h3 _ _ (Nat.le_of_eq hlen.symm) hw' hm
 unfold wu
 rw [e1,e2]
 simp only [List.map_map,true_and]
 rfl
end Go.Ai.Z
