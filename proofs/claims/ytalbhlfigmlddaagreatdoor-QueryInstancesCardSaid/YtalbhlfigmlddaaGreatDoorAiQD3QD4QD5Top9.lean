/-
 The reference's Replace.
-/
import Derived.Test.YtalbhlfigmlddaaGreatDoorAiQD1QD2
import Derived.Test.YtalbhlfigmlddaaGreatDoorAiQS
import Derived.Test.YtalbhlfigmlddaaGreatDoorAiQB7QB8QB9Top8
set_option maxRecDepth 100000
set_option linter.unusedSimpArgs false
set_option linter.unusedVariables false
set_option linter.unusedSectionVars false
namespace Go.Ai.Z
def rfS (x cur:List UInt8):List (List UInt8×List UInt8)→List UInt8
 | []=>cur
 | (k,v)::r=>rfS x (if x=k then v else cur) r
theorem SG {x:List UInt8}:∀{M:List (List UInt8×List UInt8)},x ∉ M.map (·.1)→lkS M x=none
 | [],_=>rfl
 | (k,v)::r,h=>by
  simp only [List.map_cons,List.mem_cons,not_or] at h
  simp only [lkS]
  rw [if_neg h.1]
  exact SG h.2
theorem Ut {x:List UInt8}:∀{M:List (List UInt8×List UInt8)} (cur:List UInt8),(M.map (·.1)).Nodup→rfS x cur M=(lkS M x).getD cur
 | [],cur,_=>rfl
 | (k,v)::r,cur,h=>by
  simp only [List.map_cons,List.nodup_cons] at h
  simp only [rfS,lkS]
  rw [Ut _ h.2]
  by_cases hx:x=k
  ·subst hx
   rw [if_pos rfl,if_pos rfl,SG h.1];rfl
  ·rw [if_neg hx,if_neg hx]
section
variable (zt:Bool) (T:List (List UInt8)) (hT:T.length≤1000) (zu:Bool) (U:List (List UInt8)) (hlen:U.length=T.length) (s:St) (cx:Ctx)
include hT hlen
theorem P9 (X3 X6:AV) (E7:List AV) (n:Int) (k lo hi:Int) (nm x y:List UInt8):∀(rest:List (List UInt8×List UInt8)) (i:Nat) (cx1 cy1:List UInt8),(T.zip U).drop i=rest→
  ∃j:Int,dZ (ak P0.glob (aj P0) cx false gQ) [1,2,3,6,7,8,9,10,11,12]
   [(1,.v (slf zt (T.map .s))),(2,.v (slf zu (U.map .s))),(3,.bx [X3]),(6,.bx [X6]),(7,.own false aP 6 E7),(8,.v (.i .i64 n)),(9,.bx [.i .i64 k,.s nm,.s cx1,.s cy1,.i .i64 lo,.i .i64 hi]),(10,.v (.s x)),(11,.v (.s y)),(12,.v (.i .i64 i))] s=
   .exit 2 [(1,.v (slf zt (T.map .s))),(2,.v (slf zu (U.map .s))),(3,.bx [X3]),(6,.bx [X6]),(7,.own false aP 6 E7),(8,.v (.i .i64 n)),(9,.bx [.i .i64 k,.s nm,.s (rfS x cx1 rest),.s (rfS y cy1 rest),.i .i64 lo,.i .i64 hi]),(10,.v (.s x)),(11,.v (.s y)),(12,.v (.i .i64 j)),(33,.v (.b false))] s
 | [],i,cx1,cy1,h=>by
  have h1:¬i<T.length:=by have:=drop_nil h;simp at this;omega
  refine ⟨i,ai fun K hK=>?_⟩
  simp [gQ,h1,rfS]
 | p::r,i,cx1,cy1,h=>by
  obtain ⟨h1,h2,h3,h4⟩:=drop_cons h
  have h5:=h4 h3
  simp at h3
  have hiT:i<T.length:=by omega
  have hiU:i<U.length:=by omega
  have hw:=wI (i:=i) (by omega)
  have hrU:slf zu (U.map AV.s)=.sl (U.map .s):=by
   rcases nU zu U with h|⟨_,h⟩
   ·exact h
   ·subst h;simp at hiU
  have hrT:slf zt (T.map AV.s)=.sl (T.map .s):=by
   rcases nU zt T with h|⟨_,h⟩
   ·exact h
   ·subst h;simp at hiT
  simp at h5
  obtain ⟨j,ih⟩:=P9 X3 X6 E7 n k lo hi nm x y r (i+1) (if x=p.1 then p.2 else cx1) (if y=p.1 then p.2 else cy1) h2
  rw [hrU,hrT] at *
  refine ⟨j,ai fun K hK=>?_⟩
  rw [←hK,show ((i+1:Nat):Int)=(i:Int)+1 from rfl] at ih
  clear hK h4
  subst h5
  simp only [rfS]
  rw [←ih]
  by_cases hx:x=T[i]
  ·by_cases hy:y=T[i]
   ·simp [gQ,hiT,hiU,hw,hx,hy,splice]
   ·simp [gQ,hiT,hiU,hw,hx,hy,splice]
  ·by_cases hy:y=T[i]
   ·simp [gQ,hiT,hiU,hw,hx,hy,splice]
   ·simp [gQ,hiT,hiU,hw,hx,hy,splice]
theorem Qa (hN:T.Nodup) (z:Bool) (L:List At) (hL:L.length≤1000) (X6:AV):∀(rest:List At) (i:Nat) (done:List At),L.drop i=rest→done.length=i→
  ∃j:Int,dZ (ak P0.glob (aj P0) cx false mG) [1,2,3,6,7,8]
   [(1,.v (slf zt (T.map .s))),(2,.v (slf zu (U.map .s))),(3,.bx [rowA z L]),(6,.bx [X6]),(7,.own false aP 6 (done.map aI)),(8,.v (.i .i64 i))] s=
   .exit 0 [(1,.v (slf zt (T.map .s))),(2,.v (slf zu (U.map .s))),(3,.bx [rowA z L]),(6,.bx [X6]),(7,.own false aP 6 ((done++rest.map (rpA (T.zip U))).map aI)),(8,.v (.i .i64 j)),(18,.v (.b false))] s
 | [],i,done,h,hd=>by
  have h1:¬i<L.length:=Nat.not_lt.2 (drop_nil h)
  refine ⟨i,ai fun K hK=>?_⟩
  simp [mG,h1]
 | p::r,i,done,h,hd=>by
  obtain ⟨h1,h2,h3,h4⟩:=drop_cons h
  have h5:=h4 h3
  have hw:=wI (i:=i) (by omega)
  have hrow:rowA z L=.sl (L.map aI):=xg (by intro h;subst h;simp at h3)
  obtain ⟨j,ih⟩:=Qa hN z L hL X6 r (i+1) (done++[rpA (T.zip U) p]) h2 (by simp;omega)
  obtain ⟨j2,h6⟩:=P9 zt T hT zu U hlen s cx (rowA z L) X6 (done.map aI) i p.kind p.lo p.hi p.name p.x p.y (T.zip U) 0 p.x p.y rfl
  have hk:((T.zip U).map (·.1)).Nodup:=by rw [List.map_fst_zip (by omega)];exact hN
  rw [Ut _ hk,Ut _ hk,show ((0:Nat):Int)=0 from rfl] at h6
  have hx:rpS (T.zip U) p.x=(lkS (T.zip U) p.x).getD p.x:=rfl
  have hy:rpS (T.zip U) p.y=(lkS (T.zip U) p.y).getD p.y:=rfl
  have e:aI (rpA (T.zip U) p)=.ag [.i .i64 p.kind,.s p.name,.s (rpS (T.zip U) p.x),.s (rpS (T.zip U) p.y),.i .i64 p.lo,.i .i64 p.hi]:=rfl
  rw [←hx,←hy] at h6
  clear hx hy
  have m1:done.length+1≤bg:=by unfold bg;omega
  have hz:=aac done
  rw [hrow] at ih h6 ⊢
  refine ⟨j,ai fun K hK=>?_⟩
  rw [←hK,show ((i+1:Nat):Int)=(i:Int)+1 from rfl] at ih
  clear hK h4
  rw [List.map_cons,show done++rpA (T.zip U) p::List.map (rpA (T.zip U)) r=done++[rpA (T.zip U) p]++List.map (rpA (T.zip U)) r by simp,←ih]
  rw [List.map_append,List.map_singleton,e]
  clear ih e
  generalize rpS (T.zip U) p.x=xx at *
  generalize rpS (T.zip U) p.y=yy at *
  simp [mG,h3,h5,hw,aI,h6,splice,m1]
theorem ZF (hN:T.Nodup) (p:Bool×List At) (hne:p.2≠[]) (hL:p.2.length≤1000):
  aj P0 (.fn (.func oZ) [] []) [.ag [rowA p.1 p.2],slf zt (T.map .s),slf zu (U.map .s)] s cx=.ret (.ag [.sl ((p.2.map (rpA (T.zip U))).map aI)]) s:=by
 obtain ⟨j,h⟩:=Qa zt T hT zu U hlen s ⟨s.length,s.length⟩ hN p.1 p.2 hL .ns p.2 0 [] rfl rfl
 rw [show ((0:Nat):Int)=0 from rfl,List.nil_append] at h
 have hlp:0<(p.2.map (rpA (T.zip U))).length:=by simp;exact List.length_pos_iff.2 hne
 refine I8 (by simp) ?_
 generalize p.2.map (rpA (T.zip U))=R at *
 simp only [List.map_nil] at h
 have hlp':¬R=[]:=by intro h0;subst h0;simp at hlp
 simp [ah,qG,h,hlp,hlp',splice,oU]
end
end Go.Ai.Z
namespace Go.Ai.Z
theorem Nb {x:List UInt8}:∀{l:List (List UInt8)} {a:List UInt8},x∈l→x=a∨x∈kz a l
 | [],_,h=>by cases h
 | b::r,a,h=>by
  unfold kz
  rcases List.mem_cons.1 h with rfl|h
  ·by_cases hb:x=a
   ·exact .inl hb
   ·rw [if_neg hb];exact .inr (by simp)
  ·have ih:=Nb (a:=b) h
   by_cases hb:b=a
   ·rw [if_pos hb]
    rcases ih with rfl|ih
    ·exact .inl hb
    ·exact .inr ih
   ·rw [if_neg hb]
    rcases ih with rfl|ih
    ·exact .inr (by simp)
    ·exact .inr (by simp [ih])
theorem WG {x:List UInt8}:∀{l:List (List UInt8)},x∈dJ l ↔ x∈l
 | []=>by simp [dJ]
 | a::r=>by
  refine ⟨fun h=>(Jh (a::r)).subset h,fun h=>?_⟩
  unfold dJ
  rcases List.mem_cons.1 h with rfl|h
  ·simp
  ·rcases Nb (a:=a) h with rfl|h
   ·simp
   ·simp [h]
theorem FC:∀{l:List (List UInt8)} {a:List UInt8},(a::l).Pairwise (·≤·)→a ∉ kz a l
 | [],_,_=>by simp [kz]
 | b::r,a,h=>by
  obtain ⟨h1,h2⟩:=List.pairwise_cons.1 h
  unfold kz
  by_cases hb:b=a
  ·rw [if_pos hb]
   subst hb
   exact FC h2
  ·rw [if_neg hb]
   intro hm
   rcases List.mem_cons.1 hm with h3|h3
   ·exact hb h3.symm
   ·have h4:=(xX b r).subset h3
    exact hb (List.le_antisymm ((List.pairwise_cons.1 h2).1 a h4) (h1 b (by simp)))
theorem G8:∀{l:List (List UInt8)} {a:List UInt8},(a::l).Pairwise (·≤·)→(kz a l).Nodup
 | [],_,_=>by simp [kz]
 | b::r,a,h=>by
  obtain ⟨h1,h2⟩:=List.pairwise_cons.1 h
  unfold kz
  have ih:=G8 h2
  split
  ·exact ih
  ·exact List.nodup_cons.2 ⟨FC h2,ih⟩
theorem TA {l:List (List UInt8)} (h:l.Pairwise (·≤·)):(dJ l).Nodup:=by
 cases l with
 | nil=>simp [dJ]
 | cons a r=>exact List.nodup_cons.2 ⟨FC h,G8 h⟩
theorem VY (L:List At):(vrs L).Nodup:=TA (xK _)
theorem PU {v:List UInt8}:∀{L:List At},v∈wF L ↔ ∃a∈L,(v=a.x∨v=a.y)∧headB 63 v=true
 | []=>by simp [wF]
 | a::r=>by
  have ih:=PU (v:=v) (L:=r)
  have h1:∀t,v∈uF t ↔ v=t∧headB 63 v=true:=fun t=>by
   unfold uF
   split
   ·rename_i h
    simp only [List.mem_singleton]
    exact ⟨fun e=>⟨e,e ▸ h⟩,fun e=>e.1⟩
   ·rename_i h
    simp only [List.not_mem_nil,false_iff]
    rintro ⟨rfl,h2⟩
    exact h h2
  simp only [wF,List.mem_append,h1,ih,List.mem_cons]
  constructor
  ·rintro (⟨e,h⟩|⟨e,h⟩|⟨b,hb,h⟩)
   ·exact ⟨a,.inl rfl,.inl e,h⟩
   ·exact ⟨a,.inl rfl,.inr e,h⟩
   ·exact ⟨b,.inr hb,h⟩
  ·rintro ⟨b,rfl|hb,h,h2⟩
   ·rcases h with h|h
    ·exact .inl ⟨h,h2⟩
    ·exact .inr (.inl ⟨h,h2⟩)
   ·exact .inr (.inr ⟨b,hb,h,h2⟩)
theorem QK {v:List UInt8} {L:List At}:v∈vrs L ↔ ∃a∈L,(v=a.x∨v=a.y)∧headB 63 v=true:=by
 unfold vrs
 rw [WG,(lu _).mem_iff,PU]
theorem LJ {l:List UInt8} (h:D6 l=true):∃b r,l=b::r∧aap b=true:=by
 cases l with
 | nil=>simp [D6] at h
 | cons b r=>simp [D6] at h;exact ⟨b,r,rfl,h.1.1⟩
theorem WC {l:List UInt8} (h:BL l=true):headB 63 l=false:=by
 have hl:aap 63=false:=by decide
 have hw:∀{w:List UInt8},D6 w=true→headB 63 w=false:=fun {w} hw=>by
  obtain ⟨b,r,rfl,hb⟩:=LJ hw
  simp only [headB,decide_eq_false_iff_not]
  rintro rfl
  rw [hl] at hb;cases hb
 unfold BL at h
 rcases Bool.or_eq_true_iff.1 h with h|h
 ·unfold lY at h
  rw [Bool.and_eq_true] at h
  obtain ⟨_,h⟩:=h
  split at h
  ·rename_i x y hc
   rw [Bool.and_eq_true] at h
   have e:=G7 hc
   obtain ⟨b,r,rfl,hb⟩:=LJ h.1
   rw [e]
   simp only [List.cons_append,headB,decide_eq_false_iff_not]
   rintro rfl
   rw [hl] at hb;cases hb
  ·exact hw h
 ·unfold FY at h
  cases l with
  | nil=>rfl
  | cons b r=>
   simp at h
   simp only [headB,decide_eq_false_iff_not]
   rintro rfl
   have:=h.1.2
   simp at this
theorem WR {l:List UInt8} (h:yB l=true):headB 63 l=false:=by
 unfold yB at h
 rw [Bool.and_eq_true] at h
 exact WC h.1
theorem WQ {l:List UInt8} (h:yB l=true):wG l=true:=by simp [wG,h]
structure XT (M:List (List UInt8×List UInt8)):Prop where
 k:∀p∈M,AO p.1=true
 v:∀p∈M,yB p.2=true
theorem QN {t v:List UInt8}:∀{M:List (List UInt8×List UInt8)},lkS M t=some v→(t,v)∈M
 | [],h=>by cases h
 | (k,w)::r,h=>by
  simp only [lkS] at h
  split at h
  ·rename_i hk;cases h;subst hk;simp
  ·simp [QN h]
theorem SE {t:List UInt8}:∀{M:List (List UInt8×List UInt8)},t∈M.map (·.1)→∃v,lkS M t=some v
 | [],h=>by cases h
 | (k,w)::r,h=>by
  simp only [lkS]
  split
  ·exact ⟨_,rfl⟩
  ·rename_i hk
   rcases List.mem_cons.1 h with h|h
   ·exact absurd h hk
   ·exact SE h
theorem Mc {M:List (List UInt8×List UInt8)} (h:XT M) (t:List UInt8):(rpS M t=t∧t ∉ M.map (·.1))∨(yB (rpS M t)=true∧AO t=true):=by
 unfold rpS
 cases hk:lkS M t with
 | none=>
  refine .inl ⟨rfl,fun hm=>?_⟩
  obtain ⟨v,hv⟩:=SE hm
  rw [hk] at hv;cases hv
 | some v=>
  have:=QN hk
  exact .inr ⟨h.v _ this,h.k _ this⟩
theorem Qx {M:List (List UInt8×List UInt8)} (h:XT M) {t:List UInt8} (ht:wG t=true):wG (rpS M t)=true:=by
 rcases Mc h t with ⟨e,_⟩|⟨e,_⟩
 ·rw [e];exact ht
 ·exact WQ e
theorem Qy {M:List (List UInt8×List UInt8)} (h:XT M) {t:List UInt8} (ht:headB 63 (rpS M t)=true):rpS M t=t∧t ∉ M.map (·.1):=by
 rcases Mc h t with e|⟨e,_⟩
 ·exact e
 ·rw [WR e] at ht;cases ht
theorem abU {M:List (List UInt8×List UInt8)} (h:XT M):rpS M []=[]:=by
 rcases Mc h [] with ⟨e,_⟩|⟨_,e⟩
 ·exact e
 ·cases e
theorem acA {M:List (List UInt8×List UInt8)} (h:XT M) {a:At} (ha:atE a=0):atE (rpA M a)=0:=by
 have hi:=TT ha
 obtain ⟨k,n,x,y,lo,hi'⟩:=a
 have hr:rpA M ⟨k,n,x,y,lo,hi'⟩=⟨k,n,rpS M x,rpS M y,lo,hi'⟩:=rfl
 rw [hr]
 unfold atE at ha ⊢
 by_cases c1:k<1∨3<k
 ·simp [c1] at ha
 rw [if_neg c1] at ha ⊢
 by_cases c2:(k≠2∧y≠[])∨(k≠3∧(lo≠0∨hi'≠0))
 ·rw [if_pos c2] at ha;cases ha
 rw [if_neg c2] at ha
 rw [if_neg (by
  rintro (⟨c3,c4⟩|c3)
  ·refine c2 (.inl ⟨c3,fun e=>?_⟩)
   dsimp only at e c4
   rw [e,abU h] at c4
   exact c4 rfl
  ·exact c2 (.inr c3))]
 dsimp only at ha hi ⊢
 by_cases c3:lo < -1099511627776∨hi'<lo∨1099511627776<hi'
 ·rw [if_pos c3] at ha;cases ha
 rw [if_neg c3] at ha ⊢
 rw [hi] at ha ⊢
 rw [if_neg (by simp)] at ha ⊢
 have ht:(Bh ⟨k,n,x,y,lo,hi'⟩).all wG=true:=by
  cases ht:(Bh ⟨k,n,x,y,lo,hi'⟩).all wG
  ·rw [ht] at ha;simp at ha
  ·rfl
 have ht':(Bh ⟨k,n,rpS M x,rpS M y,lo,hi'⟩).all wG=true:=by
  unfold Bh at ht ⊢
  dsimp only at ht ⊢
  by_cases c4:k=2
  ·rw [if_pos c4] at ht ⊢
   simp at ht ⊢
   exact ⟨Qx h ht.1,Qx h ht.2⟩
  ·rw [if_neg c4] at ht ⊢
   simp at ht ⊢
   exact Qx h ht
 rw [ht'];rfl
theorem aes {T U:List (List UInt8)} (hT:∀t∈T,AO t=true) (hU:U.all yB=true):XT (T.zip U):=
 ⟨fun p hp=>hT _ (List.of_mem_zip hp).1,fun p hp=>List.all_eq_true.1 hU _ (List.of_mem_zip hp).2⟩
theorem VR:∀{L:List At},(∀a∈L,atE a=0)→Hw L=0
 | [],_=>rfl
 | a::r,h=>by
  simp only [Hw]
  rw [if_pos (h a (by simp))]
  exact VR fun b hb=>h b (by simp [hb])
section
variable {l:List Ax} {T U:List (List UInt8)} {ps:List (Bool×List At)} {p:Bool×List At} (hp:p∈ps) (h0:chB T ps=0) (hlen:U.length=T.length) (hU:U.all yB=true) {R:List At} (hR0:R≠[]) (hR:TdR (p.2.map (rpA (T.zip U))) R) (hRl:R.length≤p.2.length)
include hp h0 hlen hU hR
theorem SY:∀v∈vrs R,v ∉ T∧v∈vrs p.2:=by
 intro v hv
 obtain ⟨_,hT,_⟩:=Vp (Oj h0).2.2.1
 have hM:=aes hT hU
 obtain ⟨a',ha',hx,hh⟩:=QK.1 hv
 obtain ⟨a,ha,rfl⟩:=List.mem_map.1 ((hR.2 a').1 ha')
 have hk:(T.zip U).map (·.1)=T:=List.map_fst_zip (by omega)
 rcases hx with rfl|rfl
 ·have:=Qy hM (t:=a.x) hh
  rw [hk] at this
  show rpS (T.zip U) a.x ∉ T∧rpS (T.zip U) a.x∈vrs p.2
  have hh':headB 63 (rpS (T.zip U) a.x)=true:=hh
  rw [this.1] at hh' ⊢
  exact ⟨this.2,QK.2 ⟨a,ha,.inl rfl,hh'⟩⟩
 ·have:=Qy hM (t:=a.y) hh
  rw [hk] at this
  show rpS (T.zip U) a.y ∉ T∧rpS (T.zip U) a.y∈vrs p.2
  have hh':headB 63 (rpS (T.zip U) a.y)=true:=hh
  rw [this.1] at hh' ⊢
  exact ⟨this.2,QK.2 ⟨a,ha,.inr rfl,hh'⟩⟩
include hR0 hRl
theorem WN (z:Bool) (h:chE l T ps=0):chE l [] [(z,R)]=0:=by
 obtain ⟨q1,q2,q3,q4⟩:=Oj h0
 obtain ⟨⟨a1,a2,a3⟩,a4⟩:=Vs q1
 obtain ⟨_,hT,_⟩:=Vp q3
 have hM:=aes hT hU
 have hk:(T.zip U).map (·.1)=T:=List.map_fst_zip (by omega)
 have hpl:=a4 p hp
 have hv:=SY hp h0 hlen hU hR
 have hRp:1≤R.length:=List.length_pos_iff.2 hR0
 have r1:shE [] [(z,R)]=0:=by
  have:decide (1≤R.length)=true:=by simpa using hRp
  have h2:decide (R.length≤12)=true:=by simp;omega
  simp [shE]
  omega
 have r2:Ez [(z,R)]=0:=by
  simp only [Ez]
  rw [if_pos]
  refine VR fun a' ha'=>?_
  obtain ⟨a,ha,rfl⟩:=List.mem_map.1 ((hR.2 a').1 ha')
  exact acA hM (Hu (FZ q2 p hp) a ha)
 have r3:tdE [] [(z,R)]=0:=rfl
 have r4:(vrs R).length≤8:=by
  have:=MV (VY R) (fun v h=>(hv v h).2)
  have:=q4 p hp
  omega
 have r5:chB [] [(z,R)]=0:=by
  unfold chB
  simp [r1,r2,r3,r4]
 unfold chE at h ⊢
 rw [if_pos h0] at h
 rw [if_pos r5]
 unfold Wl at h ⊢
 split at h
 ·rename_i hc
  rw [if_pos hc]
  split at h
  ·rename_i hb
   rw [if_pos]
   simp only [List.all_cons,List.all_nil,Bool.and_true]
   refine List.all_eq_true.2 fun a' ha'=>?_
   obtain ⟨a,ha,rfl⟩:=List.mem_map.1 ((hR.2 a').1 ha')
   have h1:=List.all_eq_true.1 (List.all_eq_true.1 hb p hp) a ha
   have hid:∀t,BV [] (rpS (T.zip U) t)=true→BV T t=true:=fun t ht=>by
    unfold BV at ht ⊢
    simp at ht
    have h2:=Qy hM ht
    rw [hk] at h2
    rw [h2.1] at ht
    simp [ht,h2.2]
   unfold TS at h1 ⊢
   show (!(decide (a.kind=2) && (BV [] (rpS (T.zip U) a.x) || BV [] (rpS (T.zip U) a.y)) && !wJ l a.name))=true
   have i1:=hid a.x
   have i2:=hid a.y
   generalize BV [] (rpS (T.zip U) a.x)=u1 at *
   generalize BV [] (rpS (T.zip U) a.y)=u2 at *
   generalize BV T a.x=u3 at *
   generalize BV T a.y=u4 at *
   generalize wJ l a.name=u5 at *
   generalize decide (a.kind=2)=u6 at *
   revert h1 i1 i2
   cases u1<;>cases u2<;>cases u3<;>cases u4<;>cases u5<;>cases u6<;>simp
  ·cases h
 ·rename_i hc;exact absurd h hc
end
end Go.Ai.Z
namespace Go.Ai.Z
theorem abm (zt:Bool) (T:List (List UInt8)) (hT:T.length≤1000) (X Y:AV) (ys:List AV) (vs:List (List UInt8)) (hl:vs.length≤1000) (hno:∀v∈vs,v ∉ T) (s:St) (cx:Ctx):∀(rest:List (List UInt8)) (i:Nat),vs.drop i=rest→
  ∃j:Int,dZ (ak P0.glob (aj P0) cx false iV) [3,5,7,82,83,84]
   [(3,.bx [slf zt (T.map .s),X]),(5,.bx ys),(7,.bx [Y]),(82,.v (slf true (vs.map .s))),(83,.v (.i .i64 vs.length)),(84,.v (.i .i64 i))] s=
   .exit 0 [(3,.bx [slf zt (T.map .s),X]),(5,.bx ys),(7,.bx [Y]),(82,.v (slf true (vs.map .s))),(83,.v (.i .i64 vs.length)),(84,.v (.i .i64 j)),(85,.v (.b false))] s
 | [],i,h=>by
  have h1:¬i<vs.length:=Nat.not_lt.2 (drop_nil h)
  refine ⟨i,ai fun K hK=>?_⟩
  simp [iV,h1]
 | p::r,i,h=>by
  obtain ⟨h1,h2,h3,h4⟩:=drop_cons h
  have h5:=h4 h3
  have hw:=wI (i:=i) (by omega)
  have hp:=hno p (by rw [←h5];exact List.getElem_mem h3)
  have e1:=VN T p (by omega) _ (nU zt T)
  rw [decide_eq_false hp] at e1
  have hr:slf true (vs.map AV.s)=.sl (vs.map .s):=by
   rcases nU true vs with h|⟨_,h⟩
   ·exact h
   ·subst h;simp at h3
  obtain ⟨j,ih⟩:=abm zt T hT X Y ys vs hl hno s cx r (i+1) h2
  rw [hr] at ih ⊢
  refine ⟨j,ai fun K hK=>?_⟩
  rw [←hK,show ((i+1:Nat):Int)=(i:Int)+1 from rfl] at ih
  clear hK h4
  rw [←ih]
  simp [iV,h3,h5,hw,e1]
theorem abk (a:At) (R:List At) (hR:R.length≤1000) (A:AV) (n i0:Int) (s:St) (cx:Ctx):∀(rest:List At) (i:Nat) (b:Bool),R.drop i=rest→
  ∃j:Int,dZ (ak P0.glob (aj P0) cx false fU) [7,12,13,104,105,106,111,112,113]
   [(7,.bx [.sl (R.map aI)]),(12,.bx [.i .i64 a.kind,.s a.name,.s a.x,.s a.y,.i .i64 a.lo,.i .i64 a.hi]),(13,.v (.b b)),(104,.v A),(105,.v (.i .i64 n)),(106,.v (.i .i64 i0)),(111,.v (.sl (R.map aI))),(112,.v (.i .i64 R.length)),(113,.v (.i .i64 i))] s=
   .exit 4 [(7,.bx [.sl (R.map aI)]),(12,.bx [.i .i64 a.kind,.s a.name,.s a.x,.s a.y,.i .i64 a.lo,.i .i64 a.hi]),(13,.v (.b (b || decide (a∈rest)))),(104,.v A),(105,.v (.i .i64 n)),(106,.v (.i .i64 i0)),(111,.v (.sl (R.map aI))),(112,.v (.i .i64 R.length)),(113,.v (.i .i64 j)),(114,.v (.b false))] s
 | [],i,b,h=>by
  have h1:¬i<R.length:=Nat.not_lt.2 (drop_nil h)
  refine ⟨i,ai fun K hK=>?_⟩
  simp [fU,h1]
 | p::r,i,b,h=>by
  obtain ⟨h1,h2,h3,h4⟩:=drop_cons h
  have h5:=h4 h3
  have hw:=wI (i:=i) (by omega)
  have hq:=UL a p
  obtain ⟨j,ih⟩:=abk a R hR A n i0 s cx r (i+1) (b || decide (a=p)) h2
  have hb:(b || decide (a=p) || decide (a∈r))=(b || decide (a∈p::r)):=by
   by_cases g1:a=p<;>by_cases g2:a∈r<;>simp [g1,g2]
  rw [hb] at ih
  refine ⟨j,ai fun K hK=>?_⟩
  rw [←hK,show ((i+1:Nat):Int)=(i:Int)+1 from rfl] at ih
  clear hK h4 hb
  rw [←ih]
  clear ih
  by_cases g:a=p
  ·rw [(rM (a:=a) (b:=p)).2 g] at hq
   cases b<;>simp [fU,h3,h5,hw,aI,hq,g,splice]<;>(try (subst g;simp [hq,hw]))
  ·have hz:¬mr a p=0:=fun h=>g (rM.1 h)
   cases b<;>simp [fU,h3,h5,hw,aI,hq,hz,g,splice]
theorem abl (R Q:List At) (hR:R.length≤1000) (hQ:Q.length≤1000) (hin:∀a∈Q,a∈R) (s:St) (cx:Ctx):∀(rest:List At) (i:Nat),Q.drop i=rest→
  ∃j:Int,dZ (ak P0.glob (aj P0) cx false iU) [7,104,105,106]
   [(7,.bx [.sl (R.map aI)]),(104,.v (.sl (Q.map aI))),(105,.v (.i .i64 Q.length)),(106,.v (.i .i64 i))] s=
   .exit 2 [(7,.bx [.sl (R.map aI)]),(104,.v (.sl (Q.map aI))),(105,.v (.i .i64 Q.length)),(106,.v (.i .i64 j)),(107,.v (.b false))] s
 | [],i,h=>by
  have h1:¬i<Q.length:=Nat.not_lt.2 (drop_nil h)
  refine ⟨i,ai fun K hK=>?_⟩
  simp [iU,h1]
 | p::r,i,h=>by
  obtain ⟨h1,h2,h3,h4⟩:=drop_cons h
  have h5:=h4 h3
  have hw:=wI (i:=i) (by omega)
  have hp:=hin p (by rw [←h5];exact List.getElem_mem h3)
  obtain ⟨j2,h6⟩:=abk p R hR (.sl (Q.map aI)) Q.length i s cx R 0 false rfl
  rw [decide_eq_true hp,show ((0:Nat):Int)=0 from rfl] at h6
  obtain ⟨j,ih⟩:=abl R Q hR hQ hin s cx r (i+1) h2
  refine ⟨j,ai fun K hK=>?_⟩
  rw [←hK,show ((i+1:Nat):Int)=(i:Int)+1 from rfl] at ih
  clear hK h4
  rw [←ih]
  simp [iU,h3,h5,hw,aI,h6,splice]
theorem U9 (zl:Bool) (l:List Ax) (hl:l.length≤1125899906842624) (hx:∀x∈l,x.Lng) (zt:Bool) (T:List (List UInt8)) (zp:Bool) (ps:List (Bool×List At)) (hq:QOk T ps)
  (k:Int) (zu:Bool) (U:List (List UInt8)) (hUl:U.length≤1125899906842624) (hU:∀u∈U,u.length≤1125899906842624) (cx:Ctx):
  aj P0 (.fn (.func kE) [] []) [tH zt T zp ps,slf zl (l.map pG),tC k zu U] [] cx=.ret (.b true) []:=by
 have hS:=Yn
 have e1:=acw zt T zp ps hq
 have e2:=TQ zt T zp ps hq
 refine zq (by simp) ?_
 simp only [tH] at e1 e2 ⊢
 by_cases c1:ab9 T ps=true
 ·rw [c1] at e1
  by_cases c2:12<l.length
  ·have c2':(12:Int)<(l.length:Nat):=by omega
   simp [ah,bV,tC,hS,e1,c2,c2']
  ·have c2':¬(12:Int)<(l.length:Nat):=by omega
   by_cases c3:6<U.length
   ·have c3':(6:Int)<(U.length:Nat):=by omega
    simp [ah,bV,tC,hS,e1,c2,c2',c3,c3']
   ·have c3':¬(6:Int)<(U.length:Nat):=by omega
    have hll:l.length≤100:=by omega
    rcases Ve zt T zp ps hq k zu U hUl hU [] ⟨0,0⟩ with ⟨e,he,e3⟩|⟨n,p,R,rfl,hpn,h0,hlen,hUi,hR0,hR,hRl,e3⟩
    ·simp only [tH,tC] at e3
     simp [ah,bV,tC,hS,e1,c2,c2',c3,c3',e3,he,splice]
    ·have hp:p∈ps:=List.mem_of_getElem? hpn
     have hn:n<ps.length:=(List.getElem?_eq_some_iff.1 hpn).1
     have hpg:ps[n]=p:=(List.getElem?_eq_some_iff.1 hpn).2
     obtain ⟨⟨a1,a2,a3⟩,a4⟩:=Vs (Oj h0).1
     obtain ⟨hN,hTv,_⟩:=Vp (Oj h0).2.2.1
     have hpl:=a4 p hp
     have hne:p.2≠[]:=by intro h;rw [h] at hpl;simp at hpl
     have hv:=SY hp h0 hlen hUi hR
     have hrR:rowA false R=.sl (R.map aI):=xg hR0
     have e4:=Rh zl l hll hx zt T zp ps hq
     have hlen':(U.length:Int)=T.length:=by omega
     have hrp:slf zp (ps.map encPt)=.sl (ps.map encPt):=by
      cases hps':ps.map encPt with
      | nil=>simp at hps';subst hps';simp at hn
      | cons x y=>simp
     have hrps:∀t,t.length≤1125899906842624→(rpS (T.zip U) t).length≤1125899906842624:=fun t ht=>by
      unfold rpS
      cases hk:lkS (T.zip U) t with
      | none=>exact ht
      | some v=>exact hU v (List.of_mem_zip (QN hk)).2
     have hqR:QOk [] [(false,R)]:=by
      refine ⟨by simp,by simp,fun q hq'=>?_,fun q hq' a' ha'=>?_⟩
      ·simp at hq';subst hq';simp;omega
      ·simp at hq';subst hq'
       obtain ⟨a,ha,rfl⟩:=List.mem_map.1 ((hR.2 a').1 ha')
       have:=hq.o p hp a ha
       exact ⟨this.n,hrps _ this.x,hrps _ this.y⟩
     have e5:=Rh zl l hll hx true [] false [(false,R)] hqR
     have e6:=Ae (false,R) (by simp;omega)
     have hvl:=Vl R
     obtain ⟨j0,h7⟩:=abm zt T (by omega) (.sl (ps.map encPt)) (.sl (R.map aI)) [.i .i64 n,slf zu (U.map .s)] (vrs R) (by omega) (fun v hv'=>(hv v hv').1) [] ⟨0,0⟩ (vrs R) 0 rfl
     have e8:=fun s cx=>ZF zt T (by omega) zu U hlen s cx hN p hne (by omega)
     obtain ⟨j1,h9⟩:=abl R (p.2.map (rpA (T.zip U))) (by omega) (by simp;omega) (fun a ha=>(hR.2 a).2 ha) [] ⟨0,0⟩ (p.2.map (rpA (T.zip U))) 0 rfl
     rw [show ((0:Nat):Int)=0 from rfl] at h7 h9
     have hck:=fun h=>WN hp h0 hlen hUi hR0 hR hRl false (l:=l) h
     simp only [tH,tC] at e3 e4 e5
     simp only [hrR] at e6
     simp only [List.map_cons,List.map_nil,Z9,yV,encPt,hrR] at e5
     rw [h0] at e2
     simp only [hrp] at e1 e2 e3 e4 ⊢
     generalize p.2.map (rpA (T.zip U))=Q at *
     have b1:¬(n:Int)<0:=by omega
     have b3:¬(6:Int)<(T.length:Nat):=by omega
     have b2:¬ps.length≤n:=by omega
     clear hv hpn
     by_cases c4:chE l T ps=0
     ·rw [hck c4] at e5
      rw [c4] at e4
      simp [ah,bV,tC,hS,e1,c2,c2',c3,c3',e2,e3,e4,e5,e6,e8,h7,h9,b1,b2,b3,hlen,hlen',hn,hpg,splice,oU]
     ·simp [ah,bV,tC,hS,e1,c2,c2',c3,c3',e2,e3,e4,c4,e6,e8,h7,h9,b1,b2,b3,hlen,hlen',hn,hpg,splice,oU]
 ·rw [Bool.not_eq_true] at c1
  rw [c1] at e1
  simp [ah,bV,tC,hS,e1]
end Go.Ai.Z
namespace Go.Ai
open Go.Ai.Z Go.ChangeShapes Go.WideShapes Go.WideElems
section
variable {H:Type} {enc:TypeId×Value→H} {P:Program} {W:World}
structure acE (P:Program) (I Z R D:TypeId):Prop where
 uI:P.underlying I=some (.int .i64)
 uZ:P.underlying Z=some .string
 uR:P.underlying R=some (.slice Z)
 uD:∃f0 f1:Field,P.underlying D=some (.struct #[f0,f1])∧(f0.type=I∧f0.offset=0)∧(f1.type=R∧f1.offset=1)
 cI:P.cellsOf I=1
 cZ:P.cellsOf Z=1
 cR:P.cellsOf R=1
 cD:P.cellsOf D=2
 bZ:0<P.bytesOf Z
theorem aaK {I Z R D:TypeId} (ty:acE P I Z R D) (fuel:Nat) (cs:List Value) (x:DataW H×List MemPlace) (h:DataW.trod enc P W 0 (fun _=>true) true fuel D cs=some x) (hl:Light P D x.1):
  ∃(k:Int) (U:List (List UInt8)),U.length≤1125899906842624∧(∀u∈U,u.length≤1125899906842624)∧nN W cs [.i .i64 k,.sl (U.map .s)]:=by
 obtain ⟨f0,f1,hu,⟨t0,o0⟩,⟨t1,o1⟩⟩:=ty.uD
 obtain ⟨xs,n,rfl,rfl,hlen,hxl,hfs⟩:=DataW.trod_struct hu h
 rw [ty.cD] at hlen
 obtain ⟨v0,v1,rfl⟩:∃v0 v1,cs=[v0,v1]:=by
  match cs,hlen with
  | [v0,v1],_=>exact ⟨v0,v1,rfl⟩
 obtain ⟨x0,x1,rfl⟩:∃x0 x1,xs=[x0,x1]:=by
  match xs,hxl with
  | [v0,v1],_=>exact ⟨v0,v1,rfl⟩
 have h0:=hfs 0 f0 rfl
 have h1:=hfs 1 f1 rfl
 simp [t0,o0,ty.cI] at h0
 simp [t1,o1,ty.cR] at h1
 have hw:∀y,y∈x1.1.weights P R→y≤reachBytes:=by
  intro y hy
  apply hl y
  simp only [DataW.weights,hu,List.map_cons,List.map_nil,DataW.weightsEach,t0,t1,List.mem_append]
  simp [DataW.weightsEach,t1,hy]
 obtain ⟨k,k1,k2,⟨r0,a0⟩⟩:=Cm ty.uI h0
 obtain ⟨es,q1,q2,⟨r4,a4⟩⟩:=xW ty.uR ty.cZ (by omega) ty.bZ (fun a=>∃l:List UInt8,a=.s l∧l.length≤reachBytes) h1 hw (fun m hm cs y hy hly=>by
  obtain ⟨l,hl1,hr⟩:=yO ty.uZ hy hly
  exact ⟨.s l,⟨l,rfl,hl1⟩,rfl,hr⟩)
 obtain ⟨U,rfl,hU⟩:=vz q1
 have hb:reachBytes≤1125899906842624:=by decide
 simp only [List.length_map] at q2
 refine ⟨k,U,by omega,fun u hu=>by have:=hU u hu;omega, ?_,fun v hv=>?_⟩
 ·exact r0.append r4
 ·simp only [List.mem_cons,List.not_mem_nil,or_false] at hv
  rcases hv with rfl|rfl
  ·exact a0 _ (by simp)
  ·exact a4 _ (by simp)
theorem Yx {I Z R D:TypeId} (ty:acE P I Z R D) {r:Go.Reach} {b0:Nat} {v:Value} {d:DataW H} {p:List MemPlace} (hok:Value.okWide P W r b0 D v) (h:DataW.Trod enc P W 0 (fun _=>true) true D v d p) (hl:Light P D d):
  ∃(k:Int) (U:List (List UInt8)),U.length≤1125899906842624∧(∀u∈U,u.length≤1125899906842624)∧Rep (g0 W) 0 v (tC k false U):=by
 obtain ⟨f0,f1,hu,_⟩:=ty.uD
 unfold Value.okWide at hok
 rw [hu] at hok
 obtain ⟨cs,rfl,_⟩:=hok
 obtain ⟨fuel,hf⟩:=h
 obtain ⟨k,U,h1,h2,hr,h3⟩:=aaK ty fuel _ _ hf hl
 refine ⟨k,U,h1,h2, ?_⟩
 unfold tC
 simp only [Value.cells] at hr h3
 rw [yV]
 refine .ag cs _ (by simpa using hr.1) (fun i hi=>h3 _ (by simp)) (fun i hi hi'=>?_)
 have:=hr.2 i (by simpa using hi) (by simpa using hi')
 simpa using this
end
end Go.Ai
