/-
 The law of QuerySimple.
-/
import Derived.Test.YtalbhlfigmlddaaGreatDoorAiQB7QB8QB9Top8
import Derived.Test.YtalbhlfigmlddaaGreatDoorAiQS
set_option maxRecDepth 100000
set_option linter.unusedSimpArgs false
set_option linter.unusedVariables false
set_option linter.unusedSectionVars false
namespace Go.Ai.Z
theorem P9 {t:List UInt8} (h:zG t=true):t≠[]:=by
 rintro rfl
 exact absurd h (by decide)
theorem VW {a:At} (h:atE a=0) (k:a.kind=2):a.x≠[]∧a.y≠[]:=by
 have ht:(Ce a).all zG=true:=by
  cases hn:(Ce a).all zG
  ·exfalso
   unfold atE at h
   simp only [hn] at h
   revert h
   repeat' split
   all_goals simp_all
  ·rfl
 rw [Ce,if_pos k] at ht
 simp at ht
 exact ⟨P9 ht.1,P9 ht.2⟩
section
variable (zl:Bool) (l:List Ax) (hll:l.length≤100) (hx:∀x∈l,x.Lng) (zt:Bool) (T:List (List UInt8)) (hT:T.length≤1000) (zp:Bool) (ps:List (Bool×List At)) (hq:QOk T ps) (s:St) (cx:Ctx)
include hll hx hq
theorem Zt (h0:chB T ps=0) (n:Int):∀(rest:List Ax) (i:Nat),l.drop i=rest→lF l=lF rest→
  ∃j:Int,dZ (ak P0.glob (aj P0) cx false gX) [1,2,32,33,34]
   [(1,.v (slf zl (l.map kE))),(2,.bx [slf zt (T.map .s),slf zp (ps.map encPt)]),(32,.v (slf zl (l.map kE))),(33,.v (.i .i64 l.length)),(34,.v (.i .i64 i))] s=
   if lF rest=0 then .exit 0 [(1,.v (slf zl (l.map kE))),(2,.bx [slf zt (T.map .s),slf zp (ps.map encPt)]),(32,.v (slf zl (l.map kE))),(33,.v (.i .i64 l.length)),(34,.v (.i .i64 j)),(35,.v (.b false))] s else .ret [(4,.v (.b true))] s
 | [],i,h,_=>by
  have h1:¬i<l.length:=Nat.not_lt.2 (drop_nil h)
  refine ⟨i,ai fun K hK=>?_⟩
  simp [gX,h1,lF]
 | p::r,i,h,hc=>by
  obtain ⟨h1,h2,h3,h4⟩:=drop_cons h
  have h5:=h4 h3
  have hf:=hx p (by rw [←h5];exact List.getElem_mem h3)
  have hwi:=wI (i:=i) (by omega)
  have e1:=qj p hf
  by_cases hz:qJ p=0
  ·obtain ⟨j,ih⟩:=Zt h0 n r (i+1) h2 (by rw [hc];simp [lF,hz])
   refine ⟨j,ai fun K hK=>?_⟩
   rw [←hK,show ((i+1:Nat):Int)=(i:Int)+1 from rfl] at ih
   clear hK h4 hx hq
   try simp at ih
   simp [gX,h3,h5,hwi,e1,hz,lF,ih]
  ·have e2:=PS zl l hll hx zt T zp ps hq
   have hcl:lF l=qJ p:=by rw [hc];simp [lF,hz]
   have hE:chE l T ps=qJ p:=by simp [chE,h0,Sj,hcl,hz]
   rw [hE] at e2
   simp only [uJ] at e2
   refine ⟨i,ai fun K hK=>?_⟩
   clear hK h4 hx hq
   simp [gX,h3,h5,hwi,e1,e2,hz,lF]
omit hll hx hq
include hT
theorem Zq (A B C:AV) (m i0 m2 i2:Int) (x y:List UInt8) (b sm:Bool) (j:Nat) (u:List UInt8) (hu:[x,y][j]?=some u) (hu0:u≠[]) (X:AV):
  dZ (ak P0.glob (aj P0) cx false bW) [1,2,8,13,49,50,51,56,57,58,78,79,80]
   [(1,.v A),(2,.bx [slf zt (T.map .s),X]),(8,.v (.b b)),(13,.v (.b sm)),(49,.v B),(50,.v (.i .i64 m)),(51,.v (.i .i64 i0)),(56,.v C),(57,.v (.i .i64 m2)),(58,.v (.i .i64 i2)),(78,.v (.sl [.s x,.s y])),(79,.v (.i .i64 2)),(80,.v (.i .i64 (j:Int)))] s=
  dZ (ak P0.glob (aj P0) cx false bW) [1,2,8,13,49,50,51,56,57,58,78,79,80]
   [(1,.v A),(2,.bx [slf zt (T.map .s),X]),(8,.v (.b (b || (!sm && y8 T u)))),(13,.v (.b sm)),(49,.v B),(50,.v (.i .i64 m)),(51,.v (.i .i64 i0)),(56,.v C),(57,.v (.i .i64 m2)),(58,.v (.i .i64 i2)),(78,.v (.sl [.s x,.s y])),(79,.v (.i .i64 2)),(80,.v (.i .i64 ((j+1:Nat):Int)))] s:=by
 refine ai fun K hK=>?_
 rw [←hK]
 clear hK
 have e1:=Un T u (by omega) _ (yS zt T)
 have hj:j=0∨j=1:=by
  rcases j with _ | _|j
  ·exact .inl rfl
  ·exact .inr rfl
  ·simp at hu
 obtain ⟨c,v,rfl⟩:∃c v,u=c::v:=by
  cases u with
  | nil=>exact absurd rfl hu0
  | cons c v=>exact ⟨c,v,rfl⟩
 have hh:headB 63 (c::v)=decide (c=63):=rfl
 have hd:decide ((c.toNat:Int)=63)=decide (c=63):=by
  by_cases hc:c=63
  ·subst hc;rfl
  ·have:¬(c.toNat:Int)=63:=fun h=>hc (by apply UInt8.toNat_inj.1;simp;omega)
   simp [hc,this]
 have w1:IntKind.i64.wrap 1=1:=rfl
 have w2:IntKind.i64.wrap 2=2:=rfl
 unfold y8
 rw [hh]
 by_cases hc:c=63
 ·have hc':(c.toNat:Int)=63:=by subst hc;rfl
  by_cases hm:(c::v)∈T
  ·rw [decide_eq_true hm] at e1
   rcases hj with rfl|rfl<;>simp at hu<;>subst hu<;>cases b<;>cases sm<;>simp [bW,w1,w2,hc',hc,hm,e1,hd]<;>(try simp [hc] at e1 hm)<;>(try simp [hm,e1,w1,w2])
  ·rw [decide_eq_false hm] at e1
   rcases hj with rfl|rfl<;>simp at hu<;>subst hu<;>cases b<;>cases sm<;>simp [bW,w1,w2,hc',hc,hm,e1,hd]<;>(try simp [hc] at e1 hm)<;>(try simp [hm,e1,w1,w2])
 ·have hc':¬(c.toNat:Int)=63:=fun h=>hc (by apply UInt8.toNat_inj.1;simp;omega)
  rcases hj with rfl|rfl<;>simp at hu<;>subst hu<;>cases b<;>cases sm<;>simp [bW,w1,w2,hc',hc]
theorem aan (A B C:AV) (m i0 m2 i2:Int) (x y:List UInt8) (b sm:Bool) (hx0:x≠[]) (hy0:y≠[]) (X:AV):
  dZ (ak P0.glob (aj P0) cx false bW) [1,2,8,13,49,50,51,56,57,58,78,79,80]
   [(1,.v A),(2,.bx [slf zt (T.map .s),X]),(8,.v (.b b)),(13,.v (.b sm)),(49,.v B),(50,.v (.i .i64 m)),(51,.v (.i .i64 i0)),(56,.v C),(57,.v (.i .i64 m2)),(58,.v (.i .i64 i2)),(78,.v (.sl [.s x,.s y])),(79,.v (.i .i64 2)),(80,.v (.i .i64 0))] s=
  .exit 6 [(1,.v A),(2,.bx [slf zt (T.map .s),X]),(8,.v (.b (b || (!sm && y8 T x) || (!sm && y8 T y)))),(13,.v (.b sm)),(49,.v B),(50,.v (.i .i64 m)),(51,.v (.i .i64 i0)),(56,.v C),(57,.v (.i .i64 m2)),(58,.v (.i .i64 i2)),(78,.v (.sl [.s x,.s y])),(79,.v (.i .i64 2)),(80,.v (.i .i64 2)),(81,.v (.b false))] s:=by
 have h1:=Zq zt T hT s cx A B C m i0 m2 i2 x y b sm 0 x rfl hx0 X
 have h2:=Zq zt T hT s cx A B C m i0 m2 i2 x y (b || (!sm && y8 T x)) sm 1 y rfl hy0 X
 rw [show ((0:Nat):Int)=0 from rfl,show ((0+1:Nat):Int)=1 from rfl] at h1
 rw [show ((1:Nat):Int)=1 from rfl,show ((1+1:Nat):Int)=2 from rfl] at h2
 rw [h1,h2]
 refine ai fun K hK=>?_
 simp [bW]
include hll hx
theorem Xg (h0:lF l=0) (z:Bool) (L:List At) (hL:L.length≤1000) (hLn:∀a∈L,atE a=0) (X B:AV) (m i0:Int):∀(rest:List At) (i:Nat) (b:Bool),L.drop i=rest→
  ∃j:Int,dZ (ak P0.glob (aj P0) cx false gW) [1,2,8,49,50,51,56,57,58]
   [(1,.v (slf zl (l.map kE))),(2,.bx [slf zt (T.map .s),X]),(8,.v (.b b)),(49,.v B),(50,.v (.i .i64 m)),(51,.v (.i .i64 i0)),(56,.v (rowA z L)),(57,.v (.i .i64 L.length)),(58,.v (.i .i64 i))] s=
   .exit 4 [(1,.v (slf zl (l.map kE))),(2,.bx [slf zt (T.map .s),X]),(8,.v (.b (b || rest.any (vV l T)))),(49,.v B),(50,.v (.i .i64 m)),(51,.v (.i .i64 i0)),(56,.v (rowA z L)),(57,.v (.i .i64 L.length)),(58,.v (.i .i64 j)),(59,.v (.b false))] s
 | [],i,b,h=>by
  have h1:¬i<L.length:=Nat.not_lt.2 (drop_nil h)
  refine ⟨i,ai fun K hK=>?_⟩
  simp [gW,h1]
 | p::r,i,b,h=>by
  obtain ⟨h1,h2,h3,h4⟩:=drop_cons h
  have h5:=h4 h3
  have hpe:=hLn p (by rw [←h5];exact List.getElem_mem h3)
  have hpn:=TJ hpe
  have hwi:=wI (i:=i) (by omega)
  have hrow:rowA z L=.sl (L.map dM):=BN (by intro h;subst h;simp at h3)
  have e3:=zO zl l hll hx p.name hpn.2
  have ha:xu l p.name=0:=by simp [xu,h0,hpn.1]
  rw [ha] at e3
  by_cases k2:p.kind=2
  ·have hterm:=VW hpe k2
   obtain ⟨j,ih⟩:=Xg h0 z L hL hLn X B m i0 r (i+1) (b || (!qQ l p.name && y8 T p.x) || (!qQ l p.name && y8 T p.y)) h2
   have h6:=aan zt T hT s cx (slf zl (l.map kE)) B (rowA z L) m i0 L.length i p.x p.y b (qQ l p.name) hterm.1 hterm.2 X
   have hbad:(b || (!qQ l p.name && y8 T p.x) || (!qQ l p.name && y8 T p.y) || r.any (vV l T))=(b || (p::r).any (vV l T)):=by
    rw [List.any_cons]
    unfold vV
    rw [decide_eq_true k2]
    cases qQ l p.name<;>cases y8 T p.x<;>cases y8 T p.y<;>cases b<;>simp
   rw [hbad] at ih
   rw [hrow] at ih h6 ⊢
   refine ⟨j,ai fun K hK=>?_⟩
   rw [←hK,show ((i+1:Nat):Int)=(i:Int)+1 from rfl] at ih
   clear hK h4 hx hLn ha h0 hbad
   generalize (p::r).any (vV l T)=bb at *
   rw [←ih]
   simp [gW,h3,h5,hwi,dM,k2,e3,h6,splice,show List.range 2=[0,1] from rfl]
  ·obtain ⟨j,ih⟩:=Xg h0 z L hL hLn X B m i0 r (i+1) b h2
   have hbad:(p::r).any (vV l T)=r.any (vV l T):=by
    rw [List.any_cons]
    unfold vV
    rw [decide_eq_false k2]
    simp
   rw [hbad]
   rw [hrow] at ih ⊢
   refine ⟨j,ai fun K hK=>?_⟩
   rw [←hK,show ((i+1:Nat):Int)=(i:Int)+1 from rfl] at ih
   clear hK h4 hx hLn ha h0 hbad
   rw [←ih]
   simp [gW,h3,h5,hwi,dM,k2,splice]
theorem Zr (h0:lF l=0) (hl:ps.length≤1000) (hb:∀p∈ps,p.2.length≤1000) (hn:∀p∈ps,∀a∈p.2,atE a=0) (X:AV):∀(rest:List (Bool×List At)) (i:Nat) (b:Bool),ps.drop i=rest→
  ∃j:Int,dZ (ak P0.glob (aj P0) cx false jB) [1,2,8,49,50,51]
   [(1,.v (slf zl (l.map kE))),(2,.bx [slf zt (T.map .s),X]),(8,.v (.b b)),(49,.v (slf zp (ps.map encPt))),(50,.v (.i .i64 ps.length)),(51,.v (.i .i64 i))] s=
   .exit 2 [(1,.v (slf zl (l.map kE))),(2,.bx [slf zt (T.map .s),X]),(8,.v (.b (b || rest.any fun p=>p.2.any (vV l T)))),(49,.v (slf zp (ps.map encPt))),(50,.v (.i .i64 ps.length)),(51,.v (.i .i64 j)),(52,.v (.b false))] s
 | [],i,b,h=>by
  have h1:¬i<ps.length:=Nat.not_lt.2 (drop_nil h)
  refine ⟨i,ai fun K hK=>?_⟩
  simp [jB,h1]
 | p::r,i,b,h=>by
  obtain ⟨h1,h2,h3,h4⟩:=drop_cons h
  have h5:=h4 h3
  have hp:p∈ps:=by rw [←h5];exact List.getElem_mem h3
  have hwi:=wI (i:=i) (by omega)
  obtain ⟨j2,h6⟩:=Xg zl l hll hx zt T hT s cx h0 p.1 p.2 (hb p hp) (hn p hp) X (slf zp (ps.map encPt)) ps.length i p.2 0 b rfl
  obtain ⟨j,ih⟩:=Zr h0 hl hb hn X r (i+1) (b || p.2.any (vV l T)) h2
  rw [show ((0:Nat):Int)=0 from rfl] at h6
  rw [List.any_cons,←Bool.or_assoc]
  refine ⟨j,ai fun K hK=>?_⟩
  rw [←hK,show ((i+1:Nat):Int)=(i:Int)+1 from rfl] at ih
  clear hK h4 hx hn hb
  generalize (p.2.any (vV l T))=b2 at *
  generalize (b || b2 || r.any fun p=>p.2.any (vV l T))=b3 at *
  rw [←ih]
  simp [jB,h3,h5,hwi,h6,splice]
end
theorem PK (zl:Bool) (l:List Ax) (hl:l.length≤1125899906842624) (hx:∀x∈l,x.Lng) (zt:Bool) (T:List (List UInt8)) (zp:Bool) (ps:List (Bool×List At)) (hq:QOk T ps) (cx:Ctx):
  aj P0 (.fn (.func lS) [] []) [uJ zt T zp ps,slf zl (l.map kE)] [] cx=.ret (.b true) []:=by
 have hS:=Wy
 have e1:=aaE zt T zp ps hq
 have e2:=X0 zt T zp ps hq
 refine Bl (by simp) ?_
 simp only [uJ] at e1 e2 ⊢
 by_cases c1:aap T ps=true
 ·rw [c1] at e1
  by_cases c2:12<l.length
  ·have c2':(12:Int)<(l.length:Nat):=by omega
   simp [ah,dU,hS,e1,c2,c2']
  ·have c2':¬(12:Int)<(l.length:Nat):=by omega
   by_cases c3:chB T ps=0
   ·rw [c3] at e2
    have hll:l.length≤100:=by omega
    obtain ⟨j1,h1⟩:=Zt zl l hll hx zt T zp ps hq [] ⟨0,0⟩ c3 0 l 0 rfl rfl
    rw [show ((0:Nat):Int)=0 from rfl] at h1
    by_cases c4:lF l=0
    ·rw [if_pos c4] at h1
     obtain ⟨⟨a1,a2,a3⟩,a4⟩:=Zl (Zy c3).1
     obtain ⟨j2,h2⟩:=Zr zl l hll hx zt T (by omega) zp ps [] ⟨0,0⟩ c4 (by omega) (fun p hp=>by have:=a4 p hp;omega) (fun p hp a ha=>(XY c3 p hp a ha).1) (slf zp (ps.map encPt)) ps 0 false rfl
     rw [show ((0:Nat):Int)=0 from rfl,Bool.false_or] at h2
     have e3:=PS zl l hll hx zt T zp ps hq
     have hE:chE l T ps=if (ps.any fun p=>p.2.any (vV l T))=true then 211 else 0:=by
      unfold chE Sj
      rw [if_pos c3,if_pos c4]
      have:(ps.all fun p=>p.2.all fun a=>!vV l T a)=!(ps.any fun p=>p.2.any (vV l T)):=by
       rw [Bool.eq_iff_iff]
       simp
      rw [this]
      cases (ps.any fun p=>p.2.any (vV l T))<;>simp
     rw [hE] at e3
     simp only [uJ] at e3
     generalize (ps.any fun p=>p.2.any (vV l T))=bb at *
     cases bb<;>simp at e3<;>simp [ah,dU,hS,e1,e2,e3,c2,c2',h1,h2]
    ·rw [if_neg c4] at h1
     simp [ah,dU,hS,e1,e2,c2,c2',h1]
   ·simp [ah,dU,hS,e1,e2,c2,c2',c3]
 ·rw [Bool.not_eq_true] at c1
  rw [c1] at e1
  simp [ah,dU,hS,e1]
end Go.Ai.Z
