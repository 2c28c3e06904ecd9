/-
 query.replace; query.Tidy of what it makes.
-/
import Derived.Test.YtdjjghikaijfpaaGreatDoorAiQB7QB8QB9
set_option maxRecDepth 100000
set_option linter.unusedSimpArgs false
set_option linter.unusedVariables false
set_option linter.unusedSectionVars false
namespace Go.Ai.Z
def lkS (M:List (List UInt8×List UInt8)) (t:List UInt8):Option (List UInt8):=
 match M with
 | []=>none
 | (k,v)::r=>if t=k then some v else lkS r t
def rpS (M:List (List UInt8×List UInt8)) (t:List UInt8):List UInt8:=(lkS M t).getD t
def rpA (M:List (List UInt8×List UInt8)) (a:At):At:={ a with x:=rpS M a.x,y:=rpS M a.y }
end Go.Ai.Z
namespace Go.Ai.Z
theorem Yl {ps:List (Bool×List At)}:∀{rest seen:List (List UInt8)},tdB ps seen rest=true→rest.Nodup∧∀t∈rest,t ∉ seen∧∀p∈ps,t∈vrs p.2
 | [],_,_=>⟨.nil,fun t ht=>by cases ht⟩
 | t::r,seen,h=>by
  unfold tdB at h
  simp only [Bool.and_eq_true,Bool.not_eq_true',decide_eq_false_iff_not] at h
  obtain ⟨⟨h1,h2⟩,h3⟩:=h
  obtain ⟨h4,h5⟩:=Yl h3
  refine ⟨List.nodup_cons.2 ⟨fun hm=>(h5 t hm).1 (by simp),h4⟩,fun u hu=>?_⟩
  rcases List.mem_cons.1 hu with rfl|hu
  ·exact ⟨h1,fun p hp=>by have:=List.all_eq_true.1 h2 p hp;simpa using this⟩
  ·have:=h5 u hu
   exact ⟨fun hm=>this.1 (by simp [hm]),this.2⟩
theorem ad1 {T:List (List UInt8)} {ps:List (Bool×List At)} (h:tdE T ps=0):T.Nodup∧(∀t∈T,yE t=true)∧∀t∈T,∀p∈ps,t∈vrs p.2:=by
 unfold tdE at h
 split at h
 ·rename_i h1
  split at h
  ·rename_i h2
   have:=Yl h2
   exact ⟨this.1,fun t ht=>List.all_eq_true.1 h1 t ht,fun t ht=>(this.2 t ht).2⟩
  ·omega
 ·omega
end Go.Ai.Z
namespace Go.Ai.Z
section
variable (zt:Bool) (T:List (List UInt8)) (hT:T.length≤1000) (zu:Bool) (U:List (List UInt8)) (hlen:U.length=T.length) (s:St) (cx:Ctx)
include hT hlen
end
end Go.Ai.Z
namespace Go.Ai.Z
theorem TQ {x:List UInt8}:∀{l:List (List UInt8)} {a:List UInt8},x∈l→x=a∨x∈mM a l
 | [],_,h=>by cases h
 | b::r,a,h=>by
  unfold mM
  rcases List.mem_cons.1 h with rfl|h
  ·by_cases hb:x=a
   ·exact .inl hb
   ·rw [if_neg hb];exact .inr (by simp)
  ·have ih:=TQ (a:=b) h
   by_cases hb:b=a
   ·rw [if_pos hb]
    rcases ih with rfl|ih
    ·exact .inl hb
    ·exact .inr ih
   ·rw [if_neg hb]
    rcases ih with rfl|ih
    ·exact .inr (by simp)
    ·exact .inr (by simp [ih])
theorem acD {x:List UInt8}:∀{l:List (List UInt8)},x∈eH l ↔ x∈l
 | []=>by simp [eH]
 | a::r=>by
  refine ⟨fun h=>(O8 (a::r)).subset h,fun h=>?_⟩
  unfold eH
  rcases List.mem_cons.1 h with rfl|h
  ·simp
  ·rcases TQ (a:=a) h with rfl|h
   ·simp
   ·simp [h]
theorem Lu:∀{l:List (List UInt8)} {a:List UInt8},(a::l).Pairwise (·≤·)→a ∉ mM a l
 | [],_,_=>by simp [mM]
 | b::r,a,h=>by
  obtain ⟨h1,h2⟩:=List.pairwise_cons.1 h
  unfold mM
  by_cases hb:b=a
  ·rw [if_pos hb]
   subst hb
   exact Lu h2
  ·rw [if_neg hb]
   intro hm
   rcases List.mem_cons.1 hm with h3|h3
   ·exact hb h3.symm
   ·have h4:=(BI b r).subset h3
    exact hb (List.le_antisymm ((List.pairwise_cons.1 h2).1 a h4) (h1 b (by simp)))
theorem Ns:∀{l:List (List UInt8)} {a:List UInt8},(a::l).Pairwise (·≤·)→(mM a l).Nodup
 | [],_,_=>by simp [mM]
 | b::r,a,h=>by
  obtain ⟨h1,h2⟩:=List.pairwise_cons.1 h
  unfold mM
  have ih:=Ns h2
  split
  ·exact ih
  ·exact List.nodup_cons.2 ⟨Lu h2,ih⟩
theorem Zq {l:List (List UInt8)} (h:l.Pairwise (·≤·)):(eH l).Nodup:=by
 cases l with
 | nil=>simp [eH]
 | cons a r=>exact List.nodup_cons.2 ⟨Lu h,Ns h⟩
theorem ab7 (L:List At):(vrs L).Nodup:=Zq (Bg _)
theorem Wn {v:List UInt8}:∀{L:List At},v∈zX L ↔ ∃a∈L,(v=a.x∨v=a.y)∧headB 63 v=true
 | []=>by simp [zX]
 | a::r=>by
  have ih:=Wn (v:=v) (L:=r)
  have h1:∀t,v∈yM t ↔ v=t∧headB 63 v=true:=fun t=>by
   unfold yM
   split
   ·rename_i h
    simp only [List.mem_singleton]
    exact ⟨fun e=>⟨e,e ▸ h⟩,fun e=>e.1⟩
   ·rename_i h
    simp only [List.not_mem_nil,false_iff]
    rintro ⟨rfl,h2⟩
    exact h h2
  simp only [zX,List.mem_append,h1,ih,List.mem_cons]
  constructor
  ·rintro (⟨e,h⟩|⟨e,h⟩|⟨b,hb,h⟩)
   ·exact ⟨a,.inl rfl,.inl e,h⟩
   ·exact ⟨a,.inl rfl,.inr e,h⟩
   ·exact ⟨b,.inr hb,h⟩
  ·rintro ⟨b,rfl|hb,h,h2⟩
   ·rcases h with h|h
    ·exact .inl ⟨h,h2⟩
    ·exact .inr (.inl ⟨h,h2⟩)
   ·exact .inr (.inr ⟨b,hb,h,h2⟩)
theorem Xy {v:List UInt8} {L:List At}:v∈vrs L ↔ ∃a∈L,(v=a.x∨v=a.y)∧headB 63 v=true:=by
 unfold vrs
 rw [acD,(oI _).mem_iff,Wn]
theorem RS {l:List UInt8} (h:CJ l=true):∃b r,l=b::r∧YT b=true:=by
 cases l with
 | nil=>simp [CJ] at h
 | cons b r=>simp [CJ] at h;exact ⟨b,r,rfl,h.1.1⟩
theorem acB {l:List UInt8} (h:Hy l=true):headB 63 l=false:=by
 have hl:YT 63=false:=by decide
 have hw:∀{w:List UInt8},CJ w=true→headB 63 w=false:=fun {w} hw=>by
  obtain ⟨b,r,rfl,hb⟩:=RS hw
  simp only [headB,decide_eq_false_iff_not]
  rintro rfl
  rw [hl] at hb;cases hb
 unfold Hy at h
 rcases Bool.or_eq_true_iff.1 h with h|h
 ·unfold jc at h
  rw [Bool.and_eq_true] at h
  obtain ⟨_,h⟩:=h
  split at h
  ·rename_i x y hc
   rw [Bool.and_eq_true] at h
   have e:=nM hc
   obtain ⟨b,r,rfl,hb⟩:=RS h.1
   rw [e]
   simp only [List.cons_append,headB,decide_eq_false_iff_not]
   rintro rfl
   rw [hl] at hb;cases hb
  ·exact hw h
 ·unfold Gg at h
  cases l with
  | nil=>rfl
  | cons b r=>
   simp at h
   simp only [headB,decide_eq_false_iff_not]
   rintro rfl
   have:=h.1.2
   simp at this
theorem OM {l:List UInt8} (h:zB l=true):headB 63 l=false:=by
 unfold zB at h
 rw [Bool.and_eq_true] at h
 exact acB h.1
theorem acN {l:List UInt8} (h:zB l=true):qg l=true:=by simp [qg,h]
structure adL (M:List (List UInt8×List UInt8)):Prop where
 k:∀p∈M,yE p.1=true
 v:∀p∈M,zB p.2=true
theorem abv {t v:List UInt8}:∀{M:List (List UInt8×List UInt8)},lkS M t=some v→(t,v)∈M
 | [],h=>by cases h
 | (k,w)::r,h=>by
  simp only [lkS] at h
  split at h
  ·rename_i hk;cases h;subst hk;simp
  ·simp [abv h]
theorem YU {t:List UInt8}:∀{M:List (List UInt8×List UInt8)},t∈M.map (·.1)→∃v,lkS M t=some v
 | [],h=>by cases h
 | (k,w)::r,h=>by
  simp only [lkS]
  split
  ·exact ⟨_,rfl⟩
  ·rename_i hk
   rcases List.mem_cons.1 h with h|h
   ·exact absurd h hk
   ·exact YU h
theorem SK {M:List (List UInt8×List UInt8)} (h:adL M) (t:List UInt8):(rpS M t=t∧t ∉ M.map (·.1))∨(zB (rpS M t)=true∧yE t=true):=by
 unfold rpS
 cases hk:lkS M t with
 | none=>
  refine .inl ⟨rfl,fun hm=>?_⟩
  obtain ⟨v,hv⟩:=YU hm
  rw [hk] at hv;cases hv
 | some v=>
  have:=abv hk
  exact .inr ⟨h.v _ this,h.k _ this⟩
theorem Xj {M:List (List UInt8×List UInt8)} (h:adL M) {t:List UInt8} (ht:qg t=true):qg (rpS M t)=true:=by
 rcases SK h t with ⟨e,_⟩|⟨e,_⟩
 ·rw [e];exact ht
 ·exact acN e
theorem Xk {M:List (List UInt8×List UInt8)} (h:adL M) {t:List UInt8} (ht:headB 63 (rpS M t)=true):rpS M t=t∧t ∉ M.map (·.1):=by
 rcases SK h t with e|⟨e,_⟩
 ·exact e
 ·rw [OM e] at ht;cases ht
theorem ah0 {M:List (List UInt8×List UInt8)} (h:adL M):rpS M []=[]:=by
 rcases SK h [] with ⟨e,_⟩|⟨_,e⟩
 ·exact e
 ·cases e
theorem aiI {M:List (List UInt8×List UInt8)} (h:adL M) {a:At} (ha:atE a=0):atE (rpA M a)=0:=by
 have hi:=ZO ha
 obtain ⟨k,n,x,y,lo,hi'⟩:=a
 have hr:rpA M ⟨k,n,x,y,lo,hi'⟩=⟨k,n,rpS M x,rpS M y,lo,hi'⟩:=rfl
 rw [hr]
 unfold atE at ha ⊢
 by_cases c1:k<1∨3<k
 ·simp [c1] at ha
 rw [if_neg c1] at ha ⊢
 by_cases c2:(k≠2∧y≠[])∨(k≠3∧(lo≠0∨hi'≠0))
 ·rw [if_pos c2] at ha;cases ha
 rw [if_neg c2] at ha
 rw [if_neg (by
  rintro (⟨c3,c4⟩|c3)
  ·refine c2 (.inl ⟨c3,fun e=>?_⟩)
   dsimp only at e c4
   rw [e,ah0 h] at c4
   exact c4 rfl
  ·exact c2 (.inr c3))]
 dsimp only at ha hi ⊢
 by_cases c3:lo < -1099511627776∨hi'<lo∨1099511627776<hi'
 ·rw [if_pos c3] at ha;cases ha
 rw [if_neg c3] at ha ⊢
 rw [hi] at ha ⊢
 rw [if_neg (by simp)] at ha ⊢
 have ht:(Ey ⟨k,n,x,y,lo,hi'⟩).all qg=true:=by
  cases ht:(Ey ⟨k,n,x,y,lo,hi'⟩).all qg
  ·rw [ht] at ha;simp at ha
  ·rfl
 have ht':(Ey ⟨k,n,rpS M x,rpS M y,lo,hi'⟩).all qg=true:=by
  unfold Ey at ht ⊢
  dsimp only at ht ⊢
  by_cases c4:k=2
  ·rw [if_pos c4] at ht ⊢
   simp at ht ⊢
   exact ⟨Xj h ht.1,Xj h ht.2⟩
  ·rw [if_neg c4] at ht ⊢
   simp at ht ⊢
   exact Xj h ht
 rw [ht'];rfl
theorem akM {T U:List (List UInt8)} (hT:∀t∈T,yE t=true) (hU:U.all zB=true):adL (T.zip U):=
 ⟨fun p hp=>hT _ (List.of_mem_zip hp).1,fun p hp=>List.all_eq_true.1 hU _ (List.of_mem_zip hp).2⟩
theorem abZ:∀{L:List At},(∀a∈L,atE a=0)→NJ L=0
 | [],_=>rfl
 | a::r,h=>by
  simp only [NJ]
  rw [if_pos (h a (by simp))]
  exact abZ fun b hb=>h b (by simp [hb])
section
variable {l:List Ax} {T U:List (List UInt8)} {ps:List (Bool×List At)} {p:Bool×List At} (hp:p∈ps) (h0:chB T ps=0) (hlen:U.length=T.length) (hU:U.all zB=true) {R:List At} (hR0:R≠[]) (hR:TdR (p.2.map (rpA (T.zip U))) R) (hRl:R.length≤p.2.length)
include hp h0 hlen hU hR
theorem ae1:∀v∈vrs R,v ∉ T∧v∈vrs p.2:=by
 intro v hv
 obtain ⟨_,hT,_⟩:=ad1 (abV h0).2.2.1
 have hM:=akM hT hU
 obtain ⟨a',ha',hx,hh⟩:=Xy.1 hv
 obtain ⟨a,ha,rfl⟩:=List.mem_map.1 ((hR.2 a').1 ha')
 have hk:(T.zip U).map (·.1)=T:=List.map_fst_zip (by omega)
 rcases hx with rfl|rfl
 ·have:=Xk hM (t:=a.x) hh
  rw [hk] at this
  show rpS (T.zip U) a.x ∉ T∧rpS (T.zip U) a.x∈vrs p.2
  have hh':headB 63 (rpS (T.zip U) a.x)=true:=hh
  rw [this.1] at hh' ⊢
  exact ⟨this.2,Xy.2 ⟨a,ha,.inl rfl,hh'⟩⟩
 ·have:=Xk hM (t:=a.y) hh
  rw [hk] at this
  show rpS (T.zip U) a.y ∉ T∧rpS (T.zip U) a.y∈vrs p.2
  have hh':headB 63 (rpS (T.zip U) a.y)=true:=hh
  rw [this.1] at hh' ⊢
  exact ⟨this.2,Xy.2 ⟨a,ha,.inr rfl,hh'⟩⟩
include hR0 hRl
theorem ai8 (z:Bool) (h:chE l T ps=0):chE l [] [(z,R)]=0:=by
 obtain ⟨q1,q2,q3,q4⟩:=abV h0
 obtain ⟨⟨a1,a2,a3⟩,a4⟩:=ad9 q1
 obtain ⟨_,hT,_⟩:=ad1 q3
 have hM:=akM hT hU
 have hk:(T.zip U).map (·.1)=T:=List.map_fst_zip (by omega)
 have hpl:=a4 p hp
 have hv:=ae1 hp h0 hlen hU hR
 have hRp:1≤R.length:=List.length_pos_iff.2 hR0
 have r1:shE [] [(z,R)]=0:=by
  have:decide (1≤R.length)=true:=by simpa using hRp
  have h2:decide (R.length≤12)=true:=by simp;omega
  simp [shE]
  omega
 have r2:Gh [(z,R)]=0:=by
  simp only [Gh]
  rw [if_pos]
  refine abZ fun a' ha'=>?_
  obtain ⟨a,ha,rfl⟩:=List.mem_map.1 ((hR.2 a').1 ha')
  exact aiI hM (IZ (G6 q2 p hp) a ha)
 have r3:tdE [] [(z,R)]=0:=rfl
 have r4:(vrs R).length≤8:=by
  have:=TJ (ab7 R) (fun v h=>(hv v h).2)
  have:=q4 p hp
  omega
 have r5:chB [] [(z,R)]=0:=by
  unfold chB
  simp [r1,r2,r3,r4]
 unfold chE at h ⊢
 rw [if_pos h0] at h
 rw [if_pos r5]
 unfold acp at h ⊢
 split at h
 ·rename_i hc
  rw [if_pos hc]
  split at h
  ·rename_i hb
   rw [if_pos]
   simp only [List.all_cons,List.all_nil,Bool.and_true]
   refine List.all_eq_true.2 fun a' ha'=>?_
   obtain ⟨a,ha,rfl⟩:=List.mem_map.1 ((hR.2 a').1 ha')
   have h1:=List.all_eq_true.1 (List.all_eq_true.1 hb p hp) a ha
   have hid:∀t,Ib [] (rpS (T.zip U) t)=true→Ib T t=true:=fun t ht=>by
    unfold Ib at ht ⊢
    simp at ht
    have h2:=Xk hM ht
    rw [hk] at h2
    rw [h2.1] at ht
    simp [ht,h2.2]
   unfold ZN at h1 ⊢
   show (!(decide (a.kind=2) && (Ib [] (rpS (T.zip U) a.x) || Ib [] (rpS (T.zip U) a.y)) && !zZ l a.name))=true
   have i1:=hid a.x
   have i2:=hid a.y
   generalize Ib [] (rpS (T.zip U) a.x)=u1 at *
   generalize Ib [] (rpS (T.zip U) a.y)=u2 at *
   generalize Ib T a.x=u3 at *
   generalize Ib T a.y=u4 at *
   generalize zZ l a.name=u5 at *
   generalize decide (a.kind=2)=u6 at *
   revert h1 i1 i2
   cases u1<;>cases u2<;>cases u3<;>cases u4<;>cases u5<;>cases u6<;>simp
  ·cases h
 ·rename_i hc;exact absurd h hc
end
end Go.Ai.Z
