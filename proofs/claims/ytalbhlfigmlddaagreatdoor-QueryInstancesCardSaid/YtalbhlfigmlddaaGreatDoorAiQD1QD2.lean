/-
 query.replace; query.Tidy of what it makes.
-/
import Derived.Test.YtalbhlfigmlddaaGreatDoorAiQB7QB8QB9Top8
set_option maxRecDepth 100000
set_option linter.unusedSimpArgs false
set_option linter.unusedVariables false
set_option linter.unusedSectionVars false
namespace Go.Ai.Z
def lkS (M:List (List UInt8×List UInt8)) (t:List UInt8):Option (List UInt8):=
 match M with
 | []=>none
 | (k,v)::r=>if t=k then some v else lkS r t
def rpS (M:List (List UInt8×List UInt8)) (t:List UInt8):List UInt8:=(lkS M t).getD t
def rpA (M:List (List UInt8×List UInt8)) (a:At):At:={ a with x:=rpS M a.x,y:=rpS M a.y }
def mpS (M:List (List UInt8×List UInt8)):List (AV×AV):=M.map fun p=>(.s p.1,.s p.2)
theorem NW (k:List UInt8):∀M,find 1 (.s k) (mpS M)=some ((lkS M k).map .s)
 | []=>rfl
 | (x,v)::M=>by
  have ih:=NW k M
  simp only [mpS] at ih ⊢
  by_cases h:k=x
  ·subst h;simp [find,nS,lkS]
  ·simp [find,nS,lkS,h,ih]
theorem Sz {k v:List UInt8}:∀{M:List (List UInt8×List UInt8)},k ∉ M.map (·.1)→yA 1 (.s k) (.s v) (mpS M)=some (mpS (M++[(k,v)]))
 | [],_=>rfl
 | (x,w)::M,h=>by
  simp only [List.map_cons,List.mem_cons,not_or] at h
  have ih:=Sz (v:=v) (M:=M) h.2
  simp only [mpS] at ih ⊢
  simp [yA,nS,h.1,ih]
def Vf (n:Nat):List At→AV
 | []=>.ns
 | _::r=>.sk n r.length 6 0 (r.length+1)
def H6:List At→St
 | []=>[]
 | a::r=>[.buf aP 6 r.length (flA (a::r))]
theorem P7 (M:List (List UInt8×List UInt8)) (z:Bool) (L:List At) (hL:L.length≤1000) (l:Nat) (s:St) (hl:s[l]?=some (.map (mpS M))) (cx:Ctx) (hcx:cx.lim≤s.length∧cx.base≤s.length):∀(rest:List At) (i:Nat) (done:List At),L.drop i=rest→done.length=i→
  ∃j:Int,dZ (ak P0.glob (aj P0) cx true jW) [1,4,12,13,14]
   [(1,.v (.mp l)),(4,.v (Vf s.length done)),(12,.v (rowA z L)),(13,.v (.i .i64 L.length)),(14,.v (.i .i64 i))] (s++H6 done)=
   .exit 0 [(1,.v (.mp l)),(4,.v (Vf s.length (done++rest.map (rpA M)))),(12,.v (rowA z L)),(13,.v (.i .i64 L.length)),(14,.v (.i .i64 j)),(15,.v (.b false))] (s++H6 (done++rest.map (rpA M)))
 | [],i,done,h,hd=>by
  have h1:¬i<L.length:=Nat.not_lt.2 (drop_nil h)
  refine ⟨i,ai fun K hK=>?_⟩
  simp [jW,h1]
 | p::r,i,done,h,hd=>by
  obtain ⟨h1,h2,h3,h4⟩:=drop_cons h
  have h5:=h4 h3
  have hw:=wI (i:=i) (by omega)
  have hrow:rowA z L=.sl (L.map aI):=xg (by intro h;subst h;simp at h3)
  obtain ⟨j,ih⟩:=P7 M z L hL l s hl cx hcx r (i+1) (done++[rpA M p]) h2 (by simp;omega)
  have hll:l<s.length:=(List.getElem?_eq_some_iff.1 hl).1
  have hm:∀X:St,(s++X)[l]?=some (.map (mpS M)):=fun X=>by rw [List.getElem?_append_left hll];exact hl
  have f1:=NW p.x M
  have f2:=NW p.y M
  rw [hrow] at ih ⊢
  refine ⟨j,ai fun K hK=>?_⟩
  rw [←hK,show ((i+1:Nat):Int)=(i:Int)+1 from rfl] at ih
  clear hK h4
  rw [List.map_cons,show done++rpA M p::List.map (rpA M) r=done++[rpA M p]++List.map (rpA M) r by simp,←ih]
  have hx:rpS M p.x=(lkS M p.x).getD p.x:=rfl
  have hy:rpS M p.y=(lkS M p.y).getD p.y:=rfl
  have e:rpA M p=⟨p.kind,p.name,rpS M p.x,rpS M p.y,p.lo,p.hi⟩:=rfl
  rw [e,hx,hy]
  clear ih hx hy e
  have m1:1≤bg:=by unfold bg;omega
  cases done with
  | nil=>
   cases gx:lkS M p.x<;>cases gy:lkS M p.y<;>rw [gx] at f1<;>rw [gy] at f2<;>simp [jW,h3,h5,hw,aI,hl,f1,f2,splice,Vf,H6,flA,m1]
  | cons d ds=>
   simp only [List.length_cons] at hd
   have m2:ds.length+1+1≤bg:=by unfold bg;omega
   have hfl2:∀q:At,flA (d::(ds++[q]))=flA (d::ds)++[.i .i64 q.kind,.s q.name,.s q.x,.s q.y,.i .i64 q.lo,.i .i64 q.hi]:=fun q=>by
    rw [←List.cons_append,Ll];rfl
   have hA1:H6 (d::ds)=[.buf aP 6 ds.length (flA (d::ds))]:=rfl
   have hA2:∀q:At,H6 (d::(ds++[q]))=[.buf aP 6 (ds.length+1) (flA (d::ds)++[.i .i64 q.kind,.s q.name,.s q.x,.s q.y,.i .i64 q.lo,.i .i64 q.hi])]:=fun q=>by
    rw [←hfl2];simp [H6]
   have hln:(flA (d::ds)).length=(ds.length+1) * 6:=by simp
   have htk:List.take ((ds.length+1) * 6) (flA (d::ds))=flA (d::ds):=List.take_of_length_le (by rw [hln];exact Nat.le_refl _)
   clear hfl2
   generalize flA (d::ds)=F at *
   rw [hA1]
   cases gx:lkS M p.x<;>cases gy:lkS M p.y<;>rw [gx] at f1<;>rw [gy] at f2<;>simp [jW,h3,h5,hw,aI,hm,f1,f2,splice,Vf,hA2,hln,htk,m1,m2,hcx.1,hcx.2]
theorem XP (M:List (List UInt8×List UInt8)) (p:Bool×List At) (hne:p.2≠[]) (hL:p.2.length≤1000) (l:Nat) (s:St) (hl:s[l]?=some (.map (mpS M))) (cx:Ctx) (hcx:cx.lim≤s.length∧cx.base≤s.length):
  aj P0 (.fn (.func lg) [] []) [.ag [rowA p.1 p.2],.mp l] s cx=.ret (.sk s.length (p.2.length - 1) 6 0 p.2.length) (s++[.buf aP 6 (p.2.length - 1) (flA (p.2.map (rpA M)))]):=by
 obtain ⟨j,h⟩:=P7 M p.1 p.2 hL l s hl cx hcx p.2 0 [] rfl rfl
 rw [show ((0:Nat):Int)=0 from rfl,List.nil_append] at h
 have ha:Vf s.length (p.2.map (rpA M))=.sk s.length (p.2.length - 1) 6 0 p.2.length∧H6 (p.2.map (rpA M))=[.buf aP 6 (p.2.length - 1) (flA (p.2.map (rpA M)))]:=by
  cases hp:p.2 with
  | nil=>exact absurd hp hne
  | cons a r=>simp [Vf,H6]
 rw [ha.1,ha.2] at h
 simp [Vf,H6] at h
 refine Ja (by simp) ?_
 simp [ah,qH,h]
theorem ZH (a:At) (q:List At) (hlen:q.length≤100000) (s:St) (l t ver:Nat) (hl:s[l]?=some (.buf t 6 ver (flA (a::q)))) (cx:Ctx):aj P0 (.fn (.func dO) [] []) [.sk l ver 6 0 (a::q).length] s cx=
  .ret (.sk s.length 0 6 0 (a::q).length) (s++[.buf aP 6 0 (flA (a::q))]):=by
 have m1:q.length+1≤bg:=by unfold bg;omega
 have hln:(flA (a::q)).length=(q.length+1) * 6:=by simp
 have htk:List.take ((q.length+1) * 6) (flA (a::q))=flA (a::q):=List.take_of_length_le (by rw [hln];exact Nat.le_refl _)
 refine sJ (by simp) ?_
 generalize flA (a::q)=F at *
 simp [ah,fC,QI,yU,hl,hln,htk,m1]
theorem aaT (a:At) (q:List At) (hL:(a::q).length≤100000) (s:St) (l t ver:Nat) (hl:s[l]?=some (.buf t 6 ver (flA (a::q)))) (cx:Ctx):
  ∃M,M≠[]∧TdR (a::q) M∧M.length≤(a::q).length∧aj P0 (.fn (.func qK) [] []) [.ag [.sk l ver 6 0 (a::q).length]] s cx=.ret (.ag [.sl (M.map aI)]) s:=by
 obtain ⟨M,hp,hs,e2,_⟩:=aaS (a::q) hL
 have hMl:M.length=(a::q).length:=hp.length_eq
 have hM0:dF M≠[]:=by
  cases M with
  | nil=>simp at hMl
  | cons b r=>simp [dF]
 refine ⟨dF M,hM0,⟨ZB hs,fun c=>by rw [XG,hp.mem_iff]⟩,by have:=TF M;omega, ?_⟩
 have e1:=ZH a q (by simpa using Nat.le_of_succ_le hL) s l t ver hl
 have e2':=e2 (s++[.buf aP 6 0 (flA (a::q))]) ⟨s.length,s.length⟩ s.length aP 0 [] (by simp) (Nat.le_refl _) (Nat.le_refl _)
 have e3:=Vb M (by rw [hMl];exact hL) (s++[.buf aP 6 0 (flA M)]) ⟨s.length,s.length⟩ s.length aP 0 [] (by simp) (Nat.le_refl _) (Nat.le_refl _) (a::q).length hMl.symm (by simp)
 obtain ⟨Z,hZ⟩:∃Z,uK M []=flA (dF M)++Z:=by
  unfold uK
  split
  ·rename_i h;exact ⟨[],by rw [(Ji M).eq_of_length h]⟩
  ·exact ⟨_,rfl⟩
 rw [hZ] at e3
 have hfz:=aaB (s:=s) (t:=aP) (dF M) Z
 simp only [List.append_nil,List.length_cons] at e1 e2' e3 ⊢
 have hset:∀x y:dn,(s++[x]).set s.length y=s++[y]:=fun x y=>by simp
 rw [hset] at e2' e3
 refine O5 (by simp) ?_
 simp [ah,uY,e1,e2',e3,oU,splice,hfz]
end Go.Ai.Z
namespace Go.Ai.Z
theorem Po (n:Nat):∀L:List At,bP n (L.map aI)=true
 | []=>rfl
 | a::r=>by
  have:=Po n r
  simp [aI,this]
theorem Xy (S:St) (n:Nat) (L:List At) (k:IntKind) (e:Int):frz S n (.tu [.ag [.sl (L.map aI)],.i k e])=some (.tu [.ag [.sl (L.map aI)],.i k e]):=by
 unfold frz
 rw [if_pos (by simp [Po])]
theorem Rx {ps:List (Bool×List At)}:∀{rest seen:List (List UInt8)},tdB ps seen rest=true→rest.Nodup∧∀t∈rest,t ∉ seen∧∀p∈ps,t∈vrs p.2
 | [],_,_=>⟨.nil,fun t ht=>by cases ht⟩
 | t::r,seen,h=>by
  unfold tdB at h
  simp only [Bool.and_eq_true,Bool.not_eq_true',decide_eq_false_iff_not] at h
  obtain ⟨⟨h1,h2⟩,h3⟩:=h
  obtain ⟨h4,h5⟩:=Rx h3
  refine ⟨List.nodup_cons.2 ⟨fun hm=>(h5 t hm).1 (by simp),h4⟩,fun u hu=>?_⟩
  rcases List.mem_cons.1 hu with rfl|hu
  ·exact ⟨h1,fun p hp=>by have:=List.all_eq_true.1 h2 p hp;simpa using this⟩
  ·have:=h5 u hu
   exact ⟨fun hm=>this.1 (by simp [hm]),this.2⟩
theorem Vp {T:List (List UInt8)} {ps:List (Bool×List At)} (h:tdE T ps=0):T.Nodup∧(∀t∈T,AO t=true)∧∀t∈T,∀p∈ps,t∈vrs p.2:=by
 unfold tdE at h
 split at h
 ·rename_i h1
  split at h
  ·rename_i h2
   have:=Rx h2
   exact ⟨this.1,fun t ht=>List.all_eq_true.1 h1 t ht,fun t ht=>(this.2 t ht).2⟩
  ·omega
 ·omega
def tC (k:Int) (zu:Bool) (U:List (List UInt8)):AV:=.ag [.i .i64 k,slf zu (U.map .s)]
theorem X5 {T U:List (List UInt8)} (hlen:U.length=T.length) {i:Nat} (h:i<U.length):(T.zip U).take (i+1)=(T.zip U).take i++[(T[i]'(by omega),U[i])]:=by
 rw [List.take_succ_eq_append_getElem (by simp;omega)]
 simp
theorem X7 {T U:List (List UInt8)} (hlen:U.length=T.length) (i:Nat):((T.zip U).take i).map (·.1)=T.take i:=by
 rw [List.map_take,List.map_fst_zip (by omega)]
theorem YU (zt:Bool) (T:List (List UInt8)) (X:AV) (k:Int) (zu:Bool) (U:List (List UInt8)) (hlen:U.length=T.length) (hT:T.length≤1000) (hN:T.Nodup) (hU:∀u∈U,u.length≤1125899906842624) (s:St):∀(rest:List (List UInt8)) (i:Nat),U.drop i=rest→
  ∃(j:Int) (es:List (AV×AV)),dZ (ak P0.glob (aj P0) ⟨s.length,s.length⟩ false jH) [2,3,4,6,38,39,40]
    [(2,.bx [slf zt (T.map .s),X]),(3,.bx [.i .i64 k,slf zu (U.map .s)]),(4,.bx [.ns]),(6,.v (.mp s.length)),(38,.v (slf zu (U.map .s))),(39,.v (.i .i64 U.length)),(40,.v (.i .i64 i))] (s++[.map (mpS ((T.zip U).take i))])=
    if rest.all yB=true then .exit 0 [(2,.bx [slf zt (T.map .s),X]),(3,.bx [.i .i64 k,slf zu (U.map .s)]),(4,.bx [.ns]),(6,.v (.mp s.length)),(38,.v (slf zu (U.map .s))),(39,.v (.i .i64 U.length)),(40,.v (.i .i64 j)),(41,.v (.b false))] (s++[.map (mpS (T.zip U))])
    else .ret [(4,.bx [.ns]),(5,.v (.i .i64 1))] (s++[.map es])
 | [],i,h=>by
  have h1:¬i<U.length:=Nat.not_lt.2 (drop_nil h)
  have h2:(T.zip U).take i=T.zip U:=List.take_of_length_le (by simp;omega)
  refine ⟨i,[],ai fun K hK=>?_⟩
  rw [h2]
  simp [jH,h1]
 | p::r,i,h=>by
  obtain ⟨h1,h2,h3,h4⟩:=drop_cons h
  have h5:=h4 h3
  have hw:=wI (i:=i) (by omega)
  have e1:=qj p (by have:=hU p (by rw [←h5];exact List.getElem_mem h3);omega)
  obtain ⟨j,es,ih⟩:=YU zt T X k zu U hlen hT hN hU s r (i+1) h2
  have hiT:i<T.length:=by omega
  have hrU:slf zu (U.map AV.s)=.sl (U.map .s):=by
   rcases nU zu U with h|⟨_,h⟩
   ·exact h
   ·subst h;simp at h3
  have hrT:slf zt (T.map AV.s)=.sl (T.map .s):=by
   rcases nU zt T with h|⟨_,h⟩
   ·exact h
   ·subst h;simp at hiT
  have hz:=X5 hlen h3
  have hput:=Sz (k:=T[i]) (v:=p) (M:=(T.zip U).take i) (by
   rw [X7 hlen]
   intro hm
   obtain ⟨q,hq,he⟩:=List.getElem_of_mem hm
   rw [List.getElem_take] at he
   simp at hq
   exact (List.pairwise_iff_getElem.1 hN) q i (by omega) hiT (by omega) he)
  rw [h5] at hz
  rw [hz] at ih
  have hT1:T[i]?=some T[i]:=List.getElem?_eq_getElem hiT
  generalize hti:T[i]=ti at *
  cases hi:yB p
  ·rw [hi] at e1
   refine ⟨j,mpS ((T.zip U).take i), ?_⟩
   rw [hrU,hrT] at *
   refine ai fun K hK=>?_
   clear hK h4
   simp only [List.all_cons,hi,Bool.false_and]
   simp [jH,h3,h5,hw,e1,oU,splice]
  ·rw [hi] at e1
   refine ⟨j,es, ?_⟩
   rw [hrU,hrT] at *
   refine ai fun K hK=>?_
   rw [←hK,show ((i+1:Nat):Int)=(i:Int)+1 from rfl] at ih
   clear hK h4
   simp only [List.all_cons,hi,Bool.true_and]
   rw [←ih]
   simp [jH,h3,h5,hw,e1,hiT,hti,hput,sV]
theorem Ve (zt:Bool) (T:List (List UInt8)) (zp:Bool) (ps:List (Bool×List At)) (hq:QOk T ps) (k:Int) (zu:Bool) (U:List (List UInt8)) (hUl:U.length≤1125899906842624) (hU:∀u∈U,u.length≤1125899906842624) (s:St) (cx:Ctx):
  (∃e:Int,e≠0∧aj P0 (.fn (.func iI) [] []) [tH zt T zp ps,tC k zu U] s cx=.ret (.tu [.ag [.ns],.i .i64 e]) s)∨
  ∃(n:Nat) (p:Bool×List At) (R:List At),k=n∧ps[n]?=some p∧chB T ps=0∧U.length=T.length∧U.all yB=true∧R≠[]∧TdR (p.2.map (rpA (T.zip U))) R∧R.length≤p.2.length∧
    aj P0 (.fn (.func iI) [] []) [tH zt T zp ps,tC k zu U] s cx=.ret (.tu [.ag [.sl (R.map aI)],.i .i64 0]) s:=by
 have e1:=TQ zt T zp ps hq
 simp only [tH] at e1 ⊢
 by_cases c1:chB T ps=0
 ·rw [c1] at e1
  by_cases c2:k<0
  ·refine .inl ⟨1,by omega,jP (by simp) ?_⟩
   simp [ah,fJ,tC,e1,c2,oU,splice]
  ·by_cases c3:(ps.length:Int)≤k
   ·refine .inl ⟨1,by omega,jP (by simp) ?_⟩
    simp [ah,fJ,tC,e1,c2,c3,oU,splice]
   ·by_cases c4:U.length=T.length
    ·have c4':(U.length:Int)=T.length:=by omega
     obtain ⟨n,rfl⟩:∃n:Nat,k=n:=⟨k.toNat,by omega⟩
     have hn:n<ps.length:=by omega
     have hps:ps[n]?=some ps[n]:=List.getElem?_eq_getElem hn
     obtain ⟨⟨a1,a2,a3⟩,a4⟩:=Vs (Oj c1).1
     obtain ⟨hN,_,_⟩:=Vp (Oj c1).2.2.1
     obtain ⟨j,es,h⟩:=YU zt T (slf zp (ps.map encPt)) n zu U c4 (by omega) hN hU s U 0 rfl
     rw [show ((0:Nat):Int)=0 from rfl,List.take_zero,show mpS []=[] from rfl,c4] at h
     by_cases c5:U.all yB=true
     ·rw [if_pos c5] at h
      have hp4:=a4 ps[n] (List.getElem_mem hn)
      generalize hpn:ps[n]=p at *
      have hne:p.2≠[]:=by intro h0;rw [h0] at hp4;simp at hp4
      have e2:=XP (T.zip U) p hne (by omega) s.length (s++[dn.map (mpS (T.zip U))]) (by simp) ⟨s.length,s.length⟩ ⟨by simp,by simp⟩
      obtain ⟨a,q,haq⟩:∃a q,p.2.map (rpA (T.zip U))=a::q:=by
       cases hm:p.2.map (rpA (T.zip U)) with
       | nil=>simp at hm;exact absurd hm hne
       | cons a q=>exact ⟨a,q,rfl⟩
      have hlq:(a::q).length=p.2.length:=by rw [←haq];simp
      obtain ⟨R,r1,r2,r3,e3⟩:=aaT a q (by omega) (s++[dn.map (mpS (T.zip U))]++[dn.buf aP 6 (p.2.length - 1) (flA (a::q))]) (s++[dn.map (mpS (T.zip U))]).length aP (p.2.length - 1) (by simp) ⟨s.length,s.length⟩
      rw [haq] at e2
      rw [hlq] at e3 r3
      refine .inr ⟨n,p,R,rfl,hps,c1,c4,c5,r1,by rw [haq];exact r2,r3,jP (by simp) ?_⟩
      have hfz:=fun S=>Xy S s.length R .i64 0
      have hrp:slf zp (ps.map encPt)=.sl (ps.map encPt):=by
       cases hps':ps.map encPt with
       | nil=>simp at hps';subst hps';simp at hn
       | cons x y=>simp
      rw [hrp] at e1 h ⊢
      have c3':(n:Int)<ps.length:=by omega
      have c3'':¬ps.length≤n:=by omega
      generalize flA (a::q)=F at *
      generalize mpS (T.zip U)=MM at *
      simp at e2 e3
      simp [ah,fJ,tC,e1,c2,c3'',c4,c4',h,hn,hpn,e2,e3,hfz,oU,splice]
     ·rw [if_neg c5] at h
      refine .inl ⟨1,by omega,jP (by simp) ?_⟩
      have c3'':¬ps.length≤n:=by omega
      have hfz:∀S:St,frz S s.length (.tu [.ag [.ns],.i .i64 1])=some (.tu [.ag [.ns],.i .i64 1]):=fun S=>by
       unfold frz
       rw [if_pos (by simp)]
      simp [ah,fJ,tC,e1,c2,c3'',c4,c4',h,hfz,oU,splice]
    ·have c4':¬(U.length:Int)=T.length:=by omega
     refine .inl ⟨1,by omega,jP (by simp) ?_⟩
     simp [ah,fJ,tC,e1,c2,c3,c4,c4',oU,splice]
 ·refine .inl ⟨chB T ps,c1,jP (by simp) ?_⟩
  simp [ah,fJ,tC,e1,c1,oU,splice]
end Go.Ai.Z
