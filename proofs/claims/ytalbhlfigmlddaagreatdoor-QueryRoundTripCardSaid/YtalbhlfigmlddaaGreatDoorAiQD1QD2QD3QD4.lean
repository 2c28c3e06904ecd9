/-
 query.replace; query.Tidy of what it makes.
-/
import Derived.Test.YtalbhlfigmlddaaGreatDoorAiQB7QB8QB9Top8
set_option maxRecDepth 100000
set_option linter.unusedSimpArgs false
set_option linter.unusedVariables false
set_option linter.unusedSectionVars false
namespace Go.Ai.Z
def lkS (M:List (List UInt8×List UInt8)) (t:List UInt8):Option (List UInt8):=
 match M with
 | []=>none
 | (k,v)::r=>if t=k then some v else lkS r t
def rpS (M:List (List UInt8×List UInt8)) (t:List UInt8):List UInt8:=(lkS M t).getD t
def rpA (M:List (List UInt8×List UInt8)) (a:At):At:={ a with x:=rpS M a.x,y:=rpS M a.y }
end Go.Ai.Z
namespace Go.Ai.Z
theorem Vl {ps:List (Bool×List At)}:∀{rest seen:List (List UInt8)},tdB ps seen rest=true→rest.Nodup∧∀t∈rest,t ∉ seen∧∀p∈ps,t∈vrs p.2
 | [],_,_=>⟨.nil,fun t ht=>by cases ht⟩
 | t::r,seen,h=>by
  unfold tdB at h
  simp only [Bool.and_eq_true,Bool.not_eq_true',decide_eq_false_iff_not] at h
  obtain ⟨⟨h1,h2⟩,h3⟩:=h
  obtain ⟨h4,h5⟩:=Vl h3
  refine ⟨List.nodup_cons.2 ⟨fun hm=>(h5 t hm).1 (by simp),h4⟩,fun u hu=>?_⟩
  rcases List.mem_cons.1 hu with rfl|hu
  ·exact ⟨h1,fun p hp=>by have:=List.all_eq_true.1 h2 p hp;simpa using this⟩
  ·have:=h5 u hu
   exact ⟨fun hm=>this.1 (by simp [hm]),this.2⟩
theorem abv {T:List (List UInt8)} {ps:List (Bool×List At)} (h:tdE T ps=0):T.Nodup∧(∀t∈T,wE t=true)∧∀t∈T,∀p∈ps,t∈vrs p.2:=by
 unfold tdE at h
 split at h
 ·rename_i h1
  split at h
  ·rename_i h2
   have:=Vl h2
   exact ⟨this.1,fun t ht=>List.all_eq_true.1 h1 t ht,fun t ht=>(this.2 t ht).2⟩
  ·omega
 ·omega
end Go.Ai.Z
namespace Go.Ai.Z
section
variable (zt:Bool) (T:List (List UInt8)) (hT:T.length≤1000) (zu:Bool) (U:List (List UInt8)) (hlen:U.length=T.length) (s:St) (cx:Ctx)
include hT hlen
end
end Go.Ai.Z
namespace Go.Ai.Z
theorem PY {x:List UInt8}:∀{l:List (List UInt8)} {a:List UInt8},x∈l→x=a∨x∈lK a l
 | [],_,h=>by cases h
 | b::r,a,h=>by
  unfold lK
  rcases List.mem_cons.1 h with rfl|h
  ·by_cases hb:x=a
   ·exact .inl hb
   ·rw [if_neg hb];exact .inr (by simp)
  ·have ih:=PY (a:=b) h
   by_cases hb:b=a
   ·rw [if_pos hb]
    rcases ih with rfl|ih
    ·exact .inl hb
    ·exact .inr ih
   ·rw [if_neg hb]
    rcases ih with rfl|ih
    ·exact .inr (by simp)
    ·exact .inr (by simp [ih])
theorem ZX {x:List UInt8}:∀{l:List (List UInt8)},x∈dS l ↔ x∈l
 | []=>by simp [dS]
 | a::r=>by
  refine ⟨fun h=>(LG (a::r)).subset h,fun h=>?_⟩
  unfold dS
  rcases List.mem_cons.1 h with rfl|h
  ·simp
  ·rcases PY (a:=a) h with rfl|h
   ·simp
   ·simp [h]
theorem IB:∀{l:List (List UInt8)} {a:List UInt8},(a::l).Pairwise (·≤·)→a ∉ lK a l
 | [],_,_=>by simp [lK]
 | b::r,a,h=>by
  obtain ⟨h1,h2⟩:=List.pairwise_cons.1 h
  unfold lK
  by_cases hb:b=a
  ·rw [if_pos hb]
   subst hb
   exact IB h2
  ·rw [if_neg hb]
   intro hm
   rcases List.mem_cons.1 hm with h3|h3
   ·exact hb h3.symm
   ·have h4:=(zF b r).subset h3
    exact hb (List.le_antisymm ((List.pairwise_cons.1 h2).1 a h4) (h1 b (by simp)))
theorem JI:∀{l:List (List UInt8)} {a:List UInt8},(a::l).Pairwise (·≤·)→(lK a l).Nodup
 | [],_,_=>by simp [lK]
 | b::r,a,h=>by
  obtain ⟨h1,h2⟩:=List.pairwise_cons.1 h
  unfold lK
  have ih:=JI h2
  split
  ·exact ih
  ·exact List.nodup_cons.2 ⟨IB h2,ih⟩
theorem WV {l:List (List UInt8)} (h:l.Pairwise (·≤·)):(dS l).Nodup:=by
 cases l with
 | nil=>simp [dS]
 | cons a r=>exact List.nodup_cons.2 ⟨IB h,JI h⟩
theorem Zx (L:List At):(vrs L).Nodup:=WV (zi _)
theorem Tc {v:List UInt8}:∀{L:List At},v∈yx L ↔ ∃a∈L,(v=a.x∨v=a.y)∧headB 63 v=true
 | []=>by simp [yx]
 | a::r=>by
  have ih:=Tc (v:=v) (L:=r)
  have h1:∀t,v∈wP t ↔ v=t∧headB 63 v=true:=fun t=>by
   unfold wP
   split
   ·rename_i h
    simp only [List.mem_singleton]
    exact ⟨fun e=>⟨e,e ▸ h⟩,fun e=>e.1⟩
   ·rename_i h
    simp only [List.not_mem_nil,false_iff]
    rintro ⟨rfl,h2⟩
    exact h h2
  simp only [yx,List.mem_append,h1,ih,List.mem_cons]
  constructor
  ·rintro (⟨e,h⟩|⟨e,h⟩|⟨b,hb,h⟩)
   ·exact ⟨a,.inl rfl,.inl e,h⟩
   ·exact ⟨a,.inl rfl,.inr e,h⟩
   ·exact ⟨b,.inr hb,h⟩
  ·rintro ⟨b,rfl|hb,h,h2⟩
   ·rcases h with h|h
    ·exact .inl ⟨h,h2⟩
    ·exact .inr (.inl ⟨h,h2⟩)
   ·exact .inr (.inr ⟨b,hb,h,h2⟩)
theorem Uy {v:List UInt8} {L:List At}:v∈vrs L ↔ ∃a∈L,(v=a.x∨v=a.y)∧headB 63 v=true:=by
 unfold vrs
 rw [ZX,(ng _).mem_iff,Tc]
theorem OE {l:List UInt8} (h:Au l=true):∃b r,l=b::r∧V3 b=true:=by
 cases l with
 | nil=>simp [Au] at h
 | cons b r=>simp [Au] at h;exact ⟨b,r,rfl,h.1.1⟩
theorem ZV {l:List UInt8} (h:Ef l=true):headB 63 l=false:=by
 have hl:V3 63=false:=by decide
 have hw:∀{w:List UInt8},Au w=true→headB 63 w=false:=fun {w} hw=>by
  obtain ⟨b,r,rfl,hb⟩:=OE hw
  simp only [headB,decide_eq_false_iff_not]
  rintro rfl
  rw [hl] at hb;cases hb
 unfold Ef at h
 rcases Bool.or_eq_true_iff.1 h with h|h
 ·unfold jU at h
  rw [Bool.and_eq_true] at h
  obtain ⟨_,h⟩:=h
  split at h
  ·rename_i x y hc
   rw [Bool.and_eq_true] at h
   have e:=zD hc
   obtain ⟨b,r,rfl,hb⟩:=OE h.1
   rw [e]
   simp only [List.cons_append,headB,decide_eq_false_iff_not]
   rintro rfl
   rw [hl] at hb;cases hb
  ·exact hw h
 ·unfold FN at h
  cases l with
  | nil=>rfl
  | cons b r=>
   simp at h
   simp only [headB,decide_eq_false_iff_not]
   rintro rfl
   have:=h.1.2
   simp at this
theorem KU {l:List UInt8} (h:yc l=true):headB 63 l=false:=by
 unfold yc at h
 rw [Bool.and_eq_true] at h
 exact ZV h.1
theorem aae {l:List UInt8} (h:yc l=true):oK l=true:=by simp [oK,h]
structure aa9 (M:List (List UInt8×List UInt8)):Prop where
 k:∀p∈M,wE p.1=true
 v:∀p∈M,yc p.2=true
theorem YW {t v:List UInt8}:∀{M:List (List UInt8×List UInt8)},lkS M t=some v→(t,v)∈M
 | [],h=>by cases h
 | (k,w)::r,h=>by
  simp only [lkS] at h
  split at h
  ·rename_i hk;cases h;subst hk;simp
  ·simp [YW h]
theorem V4 {t:List UInt8}:∀{M:List (List UInt8×List UInt8)},t∈M.map (·.1)→∃v,lkS M t=some v
 | [],h=>by cases h
 | (k,w)::r,h=>by
  simp only [lkS]
  split
  ·exact ⟨_,rfl⟩
  ·rename_i hk
   rcases List.mem_cons.1 h with h|h
   ·exact absurd h hk
   ·exact V4 h
theorem O4 {M:List (List UInt8×List UInt8)} (h:aa9 M) (t:List UInt8):(rpS M t=t∧t ∉ M.map (·.1))∨(yc (rpS M t)=true∧wE t=true):=by
 unfold rpS
 cases hk:lkS M t with
 | none=>
  refine .inl ⟨rfl,fun hm=>?_⟩
  obtain ⟨v,hv⟩:=V4 hm
  rw [hk] at hv;cases hv
 | some v=>
  have:=YW hk
  exact .inr ⟨h.v _ this,h.k _ this⟩
theorem Ui {M:List (List UInt8×List UInt8)} (h:aa9 M) {t:List UInt8} (ht:oK t=true):oK (rpS M t)=true:=by
 rcases O4 h t with ⟨e,_⟩|⟨e,_⟩
 ·rw [e];exact ht
 ·exact aae e
theorem Uj {M:List (List UInt8×List UInt8)} (h:aa9 M) {t:List UInt8} (ht:headB 63 (rpS M t)=true):rpS M t=t∧t ∉ M.map (·.1):=by
 rcases O4 h t with e|⟨e,_⟩
 ·exact e
 ·rw [KU e] at ht;cases ht
theorem afA {M:List (List UInt8×List UInt8)} (h:aa9 M):rpS M []=[]:=by
 rcases O4 h [] with ⟨e,_⟩|⟨_,e⟩
 ·exact e
 ·cases e
theorem agh {M:List (List UInt8×List UInt8)} (h:aa9 M) {a:At} (ha:atE a=0):atE (rpA M a)=0:=by
 have hi:=Xm ha
 obtain ⟨k,n,x,y,lo,hi'⟩:=a
 have hr:rpA M ⟨k,n,x,y,lo,hi'⟩=⟨k,n,rpS M x,rpS M y,lo,hi'⟩:=rfl
 rw [hr]
 unfold atE at ha ⊢
 by_cases c1:k<1∨3<k
 ·simp [c1] at ha
 rw [if_neg c1] at ha ⊢
 by_cases c2:(k≠2∧y≠[])∨(k≠3∧(lo≠0∨hi'≠0))
 ·rw [if_pos c2] at ha;cases ha
 rw [if_neg c2] at ha
 rw [if_neg (by
  rintro (⟨c3,c4⟩|c3)
  ·refine c2 (.inl ⟨c3,fun e=>?_⟩)
   dsimp only at e c4
   rw [e,afA h] at c4
   exact c4 rfl
  ·exact c2 (.inr c3))]
 dsimp only at ha hi ⊢
 by_cases c3:lo < -1099511627776∨hi'<lo∨1099511627776<hi'
 ·rw [if_pos c3] at ha;cases ha
 rw [if_neg c3] at ha ⊢
 rw [hi] at ha ⊢
 rw [if_neg (by simp)] at ha ⊢
 have ht:(BD ⟨k,n,x,y,lo,hi'⟩).all oK=true:=by
  cases ht:(BD ⟨k,n,x,y,lo,hi'⟩).all oK
  ·rw [ht] at ha;simp at ha
  ·rfl
 have ht':(BD ⟨k,n,rpS M x,rpS M y,lo,hi'⟩).all oK=true:=by
  unfold BD at ht ⊢
  dsimp only at ht ⊢
  by_cases c4:k=2
  ·rw [if_pos c4] at ht ⊢
   simp at ht ⊢
   exact ⟨Ui h ht.1,Ui h ht.2⟩
  ·rw [if_neg c4] at ht ⊢
   simp at ht ⊢
   exact Ui h ht
 rw [ht'];rfl
theorem ail {T U:List (List UInt8)} (hT:∀t∈T,wE t=true) (hU:U.all yc=true):aa9 (T.zip U):=
 ⟨fun p hp=>hT _ (List.of_mem_zip hp).1,fun p hp=>List.all_eq_true.1 hU _ (List.of_mem_zip hp).2⟩
theorem Zo:∀{L:List At},(∀a∈L,atE a=0)→JX L=0
 | [],_=>rfl
 | a::r,h=>by
  simp only [JX]
  rw [if_pos (h a (by simp))]
  exact Zo fun b hb=>h b (by simp [hb])
section
variable {l:List Ax} {T U:List (List UInt8)} {ps:List (Bool×List At)} {p:Bool×List At} (hp:p∈ps) (h0:chB T ps=0) (hlen:U.length=T.length) (hU:U.all yc=true) {R:List At} (hR0:R≠[]) (hR:TdR (p.2.map (rpA (T.zip U))) R) (hRl:R.length≤p.2.length)
include hp h0 hlen hU hR
theorem acB:∀v∈vrs R,v ∉ T∧v∈vrs p.2:=by
 intro v hv
 obtain ⟨_,hT,_⟩:=abv (Zk h0).2.2.1
 have hM:=ail hT hU
 obtain ⟨a',ha',hx,hh⟩:=Uy.1 hv
 obtain ⟨a,ha,rfl⟩:=List.mem_map.1 ((hR.2 a').1 ha')
 have hk:(T.zip U).map (·.1)=T:=List.map_fst_zip (by omega)
 rcases hx with rfl|rfl
 ·have:=Uj hM (t:=a.x) hh
  rw [hk] at this
  show rpS (T.zip U) a.x ∉ T∧rpS (T.zip U) a.x∈vrs p.2
  have hh':headB 63 (rpS (T.zip U) a.x)=true:=hh
  rw [this.1] at hh' ⊢
  exact ⟨this.2,Uy.2 ⟨a,ha,.inl rfl,hh'⟩⟩
 ·have:=Uj hM (t:=a.y) hh
  rw [hk] at this
  show rpS (T.zip U) a.y ∉ T∧rpS (T.zip U) a.y∈vrs p.2
  have hh':headB 63 (rpS (T.zip U) a.y)=true:=hh
  rw [this.1] at hh' ⊢
  exact ⟨this.2,Uy.2 ⟨a,ha,.inr rfl,hh'⟩⟩
include hR0 hRl
theorem agI (z:Bool) (h:chE l T ps=0):chE l [] [(z,R)]=0:=by
 obtain ⟨q1,q2,q3,q4⟩:=Zk h0
 obtain ⟨⟨a1,a2,a3⟩,a4⟩:=abC q1
 obtain ⟨_,hT,_⟩:=abv q3
 have hM:=ail hT hU
 have hk:(T.zip U).map (·.1)=T:=List.map_fst_zip (by omega)
 have hpl:=a4 p hp
 have hv:=acB hp h0 hlen hU hR
 have hRp:1≤R.length:=List.length_pos_iff.2 hR0
 have r1:shE [] [(z,R)]=0:=by
  have:decide (1≤R.length)=true:=by simpa using hRp
  have h2:decide (R.length≤12)=true:=by simp;omega
  simp [shE]
  omega
 have r2:Dp [(z,R)]=0:=by
  simp only [Dp]
  rw [if_pos]
  refine Zo fun a' ha'=>?_
  obtain ⟨a,ha,rfl⟩:=List.mem_map.1 ((hR.2 a').1 ha')
  exact agh hM (EW (DY q2 p hp) a ha)
 have r3:tdE [] [(z,R)]=0:=rfl
 have r4:(vrs R).length≤8:=by
  have:=PN (Zx R) (fun v h=>(hv v h).2)
  have:=q4 p hp
  omega
 have r5:chB [] [(z,R)]=0:=by
  unfold chB
  simp [r1,r2,r3,r4]
 unfold chE at h ⊢
 rw [if_pos h0] at h
 rw [if_pos r5]
 unfold ZL at h ⊢
 split at h
 ·rename_i hc
  rw [if_pos hc]
  split at h
  ·rename_i hb
   rw [if_pos]
   simp only [List.all_cons,List.all_nil,Bool.and_true]
   refine List.all_eq_true.2 fun a' ha'=>?_
   obtain ⟨a,ha,rfl⟩:=List.mem_map.1 ((hR.2 a').1 ha')
   have h1:=List.all_eq_true.1 (List.all_eq_true.1 hb p hp) a ha
   have hid:∀t,Ep [] (rpS (T.zip U) t)=true→Ep T t=true:=fun t ht=>by
    unfold Ep at ht ⊢
    simp at ht
    have h2:=Uj hM ht
    rw [hk] at h2
    rw [h2.1] at ht
    simp [ht,h2.2]
   unfold Xl at h1 ⊢
   show (!(decide (a.kind=2) && (Ep [] (rpS (T.zip U) a.x) || Ep [] (rpS (T.zip U) a.y)) && !yB l a.name))=true
   have i1:=hid a.x
   have i2:=hid a.y
   generalize Ep [] (rpS (T.zip U) a.x)=u1 at *
   generalize Ep [] (rpS (T.zip U) a.y)=u2 at *
   generalize Ep T a.x=u3 at *
   generalize Ep T a.y=u4 at *
   generalize yB l a.name=u5 at *
   generalize decide (a.kind=2)=u6 at *
   revert h1 i1 i2
   cases u1<;>cases u2<;>cases u3<;>cases u4<;>cases u5<;>cases u6<;>simp
  ·cases h
 ·rename_i hc;exact absurd h hc
end
end Go.Ai.Z
