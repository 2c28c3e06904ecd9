/-
 Small requests; equal requests; the law on requests.
-/
import Derived.Test.YtdjjghikaijfpaaGreatDoorAiRQ6RQ7
import Derived.Test.YtdjjghikaijfpaaGreatDoorAiRS
set_option maxRecDepth 100000
set_option linter.unusedSimpArgs false
set_option linter.unusedVariables false
set_option linter.unusedSectionVars false
namespace Go.Ai.Z
open Go.Ai
theorem ZB (z1 z2:Bool) (T:List (List UInt8)) (hT:T.length≤100000) (L:List (List At)) (hL:L.length≤100000) (hl:∀p∈L,p.length≤100000) (s:St) (cx:Ctx):
  aj P0 (.fn (.func uV) [] []) [.ag [slf z1 (T.map .s),.sl (L.map jT)],.ag [slf z2 (T.map .s),.sl (L.map jT)]] s cx=.ret (.b true) s:=by
 refine VG (by simp) ?_
 obtain ⟨j1,h1⟩:=abG (slf z1 (T.map .s)) (slf z2 (T.map .s)) L hL hl s ⟨s.length,s.length⟩ L 0 rfl
 cases T with
 | nil=>
  have g:∀K K':AV,(K=.ns∨K=.sl [])→(K'=.ns∨K'=.sl [])→bF (ay P0.glob (aj P0) ⟨s.length,s.length⟩ false nC) [2,3,5] [(2,.bx [K,.sl (L.map jT)]),(3,.bx [K',.sl (L.map jT)]),(5,.v (.i .i64 0))] s=
    .exit 0 [(2,.bx [K,.sl (L.map jT)]),(3,.bx [K',.sl (L.map jT)]),(5,.v (.i .i64 0)),(27,.v (.b false))] s:=by
   rintro K K' (rfl|rfl) (rfl|rfl)<;>exact ak fun K hK=>by simp [nC]
  have hz:∀z,slf z (([]:List (List UInt8)).map AV.s)=.ns∨slf z (([]:List (List UInt8)).map AV.s)=.sl []:=fun z=>by cases z<;>simp [slf]
  have g1:=g _ _ (hz z1) (hz z2)
  cases z1<;>cases z2<;>simp [slf] at h1 g1 ⊢<;>simp [af,vF,g1,h1]
 | cons t T=>
  have hz:∀z,slf z ((t::T).map .s)=.sl ((t::T).map .s):=fun z=>by cases z<;>rfl
  obtain ⟨j0,h0⟩:=abH (slf z1 ((t::T).map .s)) (slf z2 ((t::T).map .s)) (.sl (L.map jT)) (t::T) hT (hz _) (hz _) s ⟨s.length,s.length⟩ (t::T) 0 rfl
  rw [hz,hz] at h0 h1 ⊢
  generalize ht:(t::T).map AV.s=M at *
  simp at h0 h1
  simp [af,vF,h0,h1]
theorem abW (k:Int) (rd v o:List UInt8) (z1 z2:Bool) (T:List (List UInt8)) (hT:T.length≤100000) (L:List (List At)) (hL:L.length≤100000) (hl:∀p∈L,p.length≤100000) (s:St) (cx:Ctx):
  aj P0 (.fn (.func jL) [] []) [encR k rd v o [slf z1 (T.map .s),.sl (L.map jT)],encR k rd v o [slf z2 (T.map .s),.sl (L.map jT)]] s cx=.ret (.b true) s:=by
 have e1:=ZB z1 z2 T hT L hL hl
 refine Ii (by simp) ?_
 generalize T.map AV.s=A at *
 generalize L.map jT=B at *
 simp [af,oO,encR,e1]
def agC (rd v o:List UInt8) (T:List (List UInt8)) (ps:List (Bool×List At)):Bool:=
 ps.all (fun p=>decide (p.2.length≤14)) && decide (ps.length≤6) && decide (T.length≤6) && decide (rd.length≤100) && decide (v.length≤100) && decide (o.length≤100)
theorem aeT (C:List AV) (z:Bool) (ps:List (Bool×List At)) (hp:ps.length≤1125899906842624) (hb:∀p∈ps,p.2.length≤1125899906842624) (s:St) (cx:Ctx):∀(rest:List (Bool×List At)) (i:Nat),ps.drop i=rest→
  ∃j:Int,bF (ay P0.glob (aj P0) cx false jE) [1,7,8,9] [(1,.bx C),(7,.v (slf z (ps.map encPt))),(8,.v (.i .i64 ps.length)),(9,.v (.i .i64 i))] s=
   if rest.all (fun p=>decide (p.2.length≤14))=true then .exit 0 [(1,.bx C),(7,.v (slf z (ps.map encPt))),(8,.v (.i .i64 ps.length)),(9,.v (.i .i64 j)),(10,.v (.b false))] s else .ret [(2,.v (.b false))] s
 | [],i,h=>by
  have h1:¬i<ps.length:=Nat.not_lt.2 (drop_nil h)
  refine ⟨i,ak fun K hK=>?_⟩
  simp [jE,h1]
 | p::r,i,h=>by
  obtain ⟨h1,h2,h3,h4⟩:=drop_cons h
  have h5:=h4 h3
  have hwi:=wI (i:=i) (by omega)
  obtain ⟨j,ih⟩:=aeT C z ps hp hb s cx r (i+1) h2
  refine ⟨j,ak fun K hK=>?_⟩
  rw [←hK] at ih
  clear hK h4
  have hpl:=hb p (by rw [←h5];exact List.getElem_mem h3)
  rw [List.all_cons]
  simp at ih
  by_cases c1:p.2.length≤14
  ·have c1':¬(14:Int)<((p.2.length:Nat):Int):=by omega
   rw [decide_eq_true c1,Bool.true_and]
   simp [jE,h3,h5,hwi,c1',splice,ih]
  ·have c1':(14:Int)<((p.2.length:Nat):Int):=by omega
   rw [decide_eq_false c1,Bool.false_and]
   simp [jE,h3,h5,hwi,c1',splice]
theorem aiG (k:Int) (rd v o:List UInt8) (zt:Bool) (T:List (List UInt8)) (zp:Bool) (ps:List (Bool×List At)) (hq:QOk T ps) (s:St) (cx:Ctx):
  aj P0 (.fn (.func nT) [] []) [encR k rd v o [slf zt (T.map .s),slf zp (ps.map encPt)]] s cx=.ret (.b (agC rd v o T ps)) s:=by
 obtain ⟨j,h⟩:=aeT [.i .i64 k,.s rd,.s v,.s o,slf zt (T.map .s),slf zp (ps.map encPt)] zp ps (by have:=hq.p;omega) (fun p hp=>by have:=hq.a p hp;omega) s ⟨s.length,s.length⟩ ps 0 rfl
 refine JV (by simp) ?_
 rw [show ((0:Nat):Int)=0 from rfl] at h
 unfold agC encR
 by_cases c:ps.all (fun p=>decide (p.2.length≤14))=true
 ·rw [if_pos c] at h
  rw [c]
  by_cases c1:ps.length≤6
  ·have c1':((ps.length:Nat):Int)≤6:=by omega
   by_cases c2:T.length≤6
   ·have c2':((T.length:Nat):Int)≤6:=by omega
    by_cases c3:rd.length≤100
    ·have c3':((rd.length:Nat):Int)≤100:=by omega
     by_cases c4:v.length≤100
     ·have c4':((v.length:Nat):Int)≤100:=by omega
      by_cases c5:o.length≤100
      ·have c5':((o.length:Nat):Int)≤100:=by omega
       simp [af,dZ,h,c1,c1',c2,c2',c3,c3',c4,c4',c5,c5']
      ·have c5':¬((o.length:Nat):Int)≤100:=by omega
       simp [af,dZ,h,c1,c1',c2,c2',c3,c3',c4,c4',c5,c5']
     ·have c4':¬((v.length:Nat):Int)≤100:=by omega
      simp [af,dZ,h,c1,c1',c2,c2',c3,c3',c4,c4']
    ·have c3':¬((rd.length:Nat):Int)≤100:=by omega
     simp [af,dZ,h,c1,c1',c2,c2',c3,c3']
   ·have c2':¬((T.length:Nat):Int)≤6:=by omega
    simp [af,dZ,h,c1,c1',c2,c2']
  ·have c1':¬((ps.length:Nat):Int)≤6:=by omega
   simp [af,dZ,h,c1,c1']
 ·rw [if_neg c] at h
  rw [Bool.not_eq_true] at c
  rw [c]
  simp [af,dZ,h]
end Go.Ai.Z
namespace Go.Ai.Z
open Go.Ai
theorem aeb:aj P0 (.fn (.func yj) [] []) [] [] ⟨0,0⟩=.ret (.b true) []:=ZX P0 300 _ _ _ _ _ ahX (by simp)
theorem amO {a:Int} {f1 f2:List UInt8} (h:Cj 0 a [f1,f2]=none):Dh f1=true∧labS f2=true:=by
 cases h1:Dh f1<;>cases h2:labS f2<;>simp [Cj,h1,h2] at h ⊢
theorem amN {a:Int} {f1 f2 f3:List UInt8} (h:Cj 0 a [f1,f2,f3]=none):Dh f1=true∧labS f2=true∧labS f3=true:=by
 cases h1:Dh f1<;>cases h2:labS f2<;>cases h3:labS f3<;>simp [Cj,h1,h2,h3] at h ⊢
theorem aan {src:List UInt8} (hl:src.length≤65536):
  (∃a e:Int,e≠0∧aao src=.tu [.ag zC,.i .i64 a,.i .i64 e])∨
  (∃(k:Int) (rd v o:List UInt8) (q:List (List UInt8)×List (List At)),aao src=.tu [Vo k rd v o q,.i .i64 0,.i .i64 0]∧prE k rd v o q.1 (pts q.2)=0∧
   QOk q.1 (pts q.2)∧zG q=xQ true q.1 false (pts q.2)∧rd.length≤src.length∧v.length≤src.length∧o.length≤src.length):=by
 have hfin:∀{k:Int} {rd v o x y:List UInt8},mJ 10 src=some (x,y)→(1≤k∧k≤5)→(k=4∨o=[])→Dh rd=true→labS v=true→(k=4→labS o=true)→
   rd.length≤src.length→v.length≤src.length→o.length≤src.length→
   (∃a e:Int,e≠0∧Zh k rd v o x.length y=.tu [.ag zC,.i .i64 a,.i .i64 e])∨
   (∃(k':Int) (rd' v' o':List UInt8) (q:List (List UInt8)×List (List At)),Zh k rd v o x.length y=.tu [Vo k' rd' v' o' q,.i .i64 0,.i .i64 0]∧prE k' rd' v' o' q.1 (pts q.2)=0∧
    QOk q.1 (pts q.2)∧zG q=xQ true q.1 false (pts q.2)∧rd'.length≤src.length∧v'.length≤src.length∧o'.length≤src.length):=by
  intro k rd v o x y hc hk ho h1 h2 h3 l1 l2 l3
  have hxy:=nM hc
  have hyl:y.length≤65536:=by rw [hxy] at hl;simp at hl;omega
  unfold Zh
  cases hp:Tm y with
  | inr ae=>
   obtain ⟨b,e⟩:=ae
   exact .inl ⟨_,e,abm hp,rfl⟩
  | inl q=>
   obtain ⟨c1,c2,c3⟩:=af9 hyl hp
   refine .inr ⟨k,rd,v,o,q,rfl, ?_,c2,c3,l1,l2,l3⟩
   have g1:Uh k o=true:=by
    unfold Uh
    rcases ho with ho|ho<;>simp [hk.1,hk.2,ho]
   have g2:nmB k rd v o=true:=by
    unfold nmB
    by_cases h4:k=4
    ·simp [h1,h2,h3 h4]
    ·simp [h1,h2,h4]
   unfold prE
   rw [g1,g2]
   exact c1
 unfold aao
 cases hc:mJ 10 src with
 | none=>exact .inl ⟨_,400,by decide,rfl⟩
 | some p=>
  obtain ⟨x,y⟩:=p
  have hxy:=nM hc
  have hxl:x.length≤src.length:=by rw [hxy];simp
  have hm:∀f∈splitB 32 x,f.length≤src.length:=fun f hf=>by have:=Bf hf;omega
  dsimp only
  cases hF:splitB 32 x with
  | nil=>exact .inl ⟨0,400,by decide,rfl⟩
  | cons f0 F=>
   rw [hF] at hm
   match F,hm with
   | [],hm=>exact .inl ⟨0,400,by decide,rfl⟩
   | [f1],hm=>exact .inl ⟨0,400,by decide,rfl⟩
   | [f1,f2],hm=>
    dsimp only
    by_cases h:kwI f0=0∨kwI f0=4
    ·rw [if_pos h];exact .inl ⟨0,400,by decide,rfl⟩
    ·rw [if_neg h]
     cases hn:Cj 0 ((f0.length:Int)+1) [f1,f2] with
     | some e=>exact .inl ⟨e,20,by decide,rfl⟩
     | none=>
      obtain ⟨n1,n2⟩:=amO hn
      have hk:=aeV f0
      exact hfin hc (by omega) (.inr rfl) n1 n2 (fun h4=>absurd (Or.inr h4) h) (hm f1 (by simp)) (hm f2 (by simp)) (by simp)
   | [f1,f2,f3],hm=>
    dsimp only
    by_cases h:kwI f0=4
    ·rw [if_pos h]
     cases hn:Cj 0 ((f0.length:Int)+1) [f1,f2,f3] with
     | some e=>exact .inl ⟨e,20,by decide,rfl⟩
     | none=>
      obtain ⟨n1,n2,n3⟩:=amN hn
      exact hfin hc (by omega) (.inl rfl) n1 n2 (fun _=>n3) (hm f1 (by simp)) (hm f2 (by simp)) (hm f3 (by simp))
    ·rw [if_neg h];exact .inl ⟨0,400,by decide,rfl⟩
   | f1::f2::f3::f4::F,hm=>exact .inl ⟨0,400,by decide,rfl⟩
theorem abk {k:Int} {rd v o:List UInt8} {T:List (List UInt8)} {ps:List (Bool×List At)} (h:prE k rd v o T ps=0) (hr:rd.length≤1000) (hv:v.length≤1000) (ho:o.length≤1000):(prS k rd v o T ps).length≤65536:=by
 obtain ⟨hk,_,_,_,_,hc⟩:=abl h
 obtain ⟨l1,l2⟩:=Xq (Rk.of hc)
 obtain ⟨_,_,hw⟩:=ag6 hk
 have hJ:(joinL [32] (prF k rd v o)).length≤4000:=by
  unfold prF
  split<;>simp [joinL]<;>omega
 unfold prS quS NZ
 simp
 omega
def V8:aC:=Ad 5 bJ.code
theorem ak0:bJ=⟨2,[.tmp 4],true,false,Iw 5 bJ.code V8⟩:=by
 simp only [V8,bJ,Iw,Ad]
noncomputable def ahZ (env:Env):CO:=endW P0.glob true false [] [.tmp 4] (ay P0.glob (aj P0) ⟨0,0⟩ false V8 env [])
theorem abh (src:List UInt8) (hl:src.length≤1000) (E:Env) (hE:E=[(58,.v (.b false))]∨∃(C:List AV) (y:AV),E=[(3,.bx C),(5,.v y),(34,.v (.b false))]):ahZ ((0,.v (.sl (ai src)))::E)=.ret (.b true) []:=by
 have e5:=BO src (by omega) [] ⟨0,0⟩
 unfold ahZ
 simp only [V8,Ad,bJ]
 generalize ai src=W at *
 rcases aan (by omega:src.length≤65536) with ⟨a,e,hne,h⟩|⟨k,rd,v,o,q,h,h1,h2,h3,l1,l2,l3⟩
 ·rw [h] at e5
  simp only [zC] at e5
  rcases hE with rfl|⟨C,y,rfl⟩<;>simp [e5,hne,splice]
 ·rw [h] at e5
  obtain ⟨_,_,_,_,_,hc⟩:=abl h1
  have hv:=Rk.of hc
  have hps:(pts q.2).map (·.2)=q.2:=by unfold pts;rw [List.map_map];exact (List.map_congr_left fun _ _=>rfl).trans (List.map_id _)
  have hT:q.1.length≤100000:=by have:=hv.t;omega
  have hP:q.2.length≤100000:=by have:=hv.p;simp [pts] at this;omega
  have hA:∀p∈q.2,p.length≤100000:=fun p hp=>by
   have:=(hv.a (false,p) (by unfold pts;exact List.mem_map.2 ⟨p,hp,rfl⟩)).2
   simp at this;omega
  have e6:=IU k rd v o ⟨by omega,by omega,by omega⟩ true q.1 false (pts q.2) h2
  have e7:=BO (prS k rd v o q.1 (pts q.2)) (abk h1 (by omega) (by omega) (by omega)) [] ⟨0,0⟩
  rw [if_pos h1] at e6
  rw [SQ h1,hps] at e7
  have e8:=abW k rd v o true true q.1 hT q.2 hP hA
  have e9:=ZB true true q.1 hT q.2 hP hA
  unfold zG xQ at h3
  have h3':slf false ((pts q.2).map encPt)=.sl (q.2.map jT):=by
   simp only [AV.ag.injEq,List.cons.injEq,and_true,true_and] at h3
   exact h3.symm
  rw [h3'] at e6
  simp only [Vo,encR] at e5 e6 e7 e8
  generalize ai (prS k rd v o q.1 (pts q.2))=W2 at *
  generalize q.1.map AV.s=A at *
  generalize q.2.map jT=B at *
  rcases hE with rfl|⟨C,y,rfl⟩<;>simp [e5,e6,e7,e8,e9,splice]
theorem UY (src:List UInt8) (k:Int) (rd v o:List UInt8) (zt:Bool) (T:List (List UInt8)) (zp:Bool) (ps:List (Bool×List At)) (hq:QOk T ps) (cx:Ctx):
  aj P0 (.fn (.func oh) [] []) [.sl (ai src),encR k rd v o [slf zt (T.map .s),slf zp (ps.map encPt)]] [] cx=.ret (.b true) []:=by
 refine Fp (by simp) ?_
 show af P0.glob (aj P0) bJ [_,_] [] cx=_
 have hbl:=dM src
 have hS:=aeb
 have e1:=aiG k rd v o zt T zp ps hq
 rw [ak0]
 by_cases c2:1000<src.length
 ·have c2':(1000:Int)<src.length:=by omega
  generalize V8=R
  simp only [Iw,bJ,encR] at e1 ⊢
  generalize ai src=W at *
  simp [af,hS,e1,hbl,c2']
 ·have c2':¬(1000:Int)<src.length:=by omega
  have hr:=abh src (by omega) _ (.inl rfl)
  have hr2:=fun C y=>abh src (by omega) _ (.inr ⟨C,y,rfl⟩)
  unfold ahZ at hr hr2
  generalize V8=R at *
  simp only [Iw,bJ]
  cases c1:agC rd v o T ps with
  | false=>
   rw [c1] at e1
   simp only [encR] at e1 ⊢
   generalize ai src=W at *
   simp [af,hS,e1,hbl,c2']
  | true=>
   rw [c1] at e1
   unfold agC at c1
   simp only [Bool.and_eq_true,decide_eq_true_eq] at c1
   obtain ⟨⟨⟨_,l1⟩,l2⟩,l3⟩:=c1
   have e2:=IU k rd v o ⟨by omega,by omega,by omega⟩ zt T zp ps hq
   by_cases h1:prE k rd v o T ps=0
   ·rw [if_pos h1] at e2
    obtain ⟨_,_,_,_,_,hc⟩:=abl h1
    have hv:=Rk.of hc
    have hne:=fun p hp=>(hv.a p hp).1
    have e3:=BO (prS k rd v o T ps) (abk h1 (by omega) (by omega) (by omega)) [] ⟨0,0⟩
    rw [SQ h1] at e3
    have e4:=UZ zt T zp ps hq
    rw [hc] at e4
    have hps:slf zp (ps.map encPt)=.sl ((ps.map (·.2)).map jT):=by
     rw [←afv hne]
     cases hp:ps with
     | nil=>exact absurd hp hv.ne
     | cons a r=>cases zp<;>rfl
    have e5:=abW k rd v o true zt T (by have:=hv.t;omega) (ps.map (·.2)) (by have:=hv.p;simp;omega) (fun p hp=>by
     obtain ⟨q,hq,rfl⟩:=List.mem_map.1 hp
     have:=(hv.a q hq).2;omega)
    simp only [Vo,encR,xQ] at e1 e2 e3 e4 e5 ⊢
    rw [hps] at e1 e2 e4 ⊢
    generalize ai src=W at *
    generalize ai (prS k rd v o T ps)=W2 at *
    generalize (ps.map (·.2)).map jT=B at *
    simp [af,hS,e1,hbl,c2',e2,e3,e4,e5,splice,hr]
   ·rw [if_neg h1] at e2
    simp only [encR] at e1 e2 ⊢
    generalize ai src=W at *
    simp [af,hS,e1,hbl,c2',e2,h1,hr2]
end Go.Ai.Z
