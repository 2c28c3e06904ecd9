/-
 query.checkRoles and query.Check.
-/
import Derived.Test.YtalbhlfigmlddaaGreatDoorAiQB3QB4QB5QB6
import Derived.Test.YtalbhlfigmlddaaGreatDoorAiR3R4R5
import Derived.Test.YtalbhlfigmlddaaGreatDoorAiTop7
set_option maxRecDepth 100000
set_option linter.unusedSimpArgs false
set_option linter.unusedVariables false
set_option linter.unusedSectionVars false
namespace Go.Ai.Z
def Ep (T:List (List UInt8)) (t:List UInt8):Bool:=headB 63 t && !decide (t∈T)
theorem GX (zt:Bool) (T:List (List UInt8)) (hT:T.length≤1000) (X:AV) (t:List UInt8) (s:St) (n:Nat) (hn:s[n]?=some (.cells [slf zt (T.map .s),X])) (cx:Ctx):
  aj P0 (.fn (.func kV) [] [.pt n 0]) [.s t] s cx=.ret (.b (Ep T t)) s:=by
 have e2:=ET T t (by omega) _ (BH zt T)
 refine DF (by simp) ?_
 unfold Ep
 cases h:headB 63 t
 ·simp [af,iJ,hn,h]
 ·by_cases hm:t∈T
  ·rw [decide_eq_true hm] at e2
   simp [af,iJ,hn,h,e2,hm]
  ·rw [decide_eq_false hm] at e2
   simp [af,iJ,hn,h,e2,hm]
def Xl (l:List Ax) (T:List (List UInt8)) (a:At):Bool:=decide (a.kind=2) && (Ep T a.x || Ep T a.y) && !yB l a.name
section
variable (zl:Bool) (l:List Ax) (hll:l.length≤100) (hx:∀x∈l,x.Lng) (zt:Bool) (T:List (List UInt8)) (hT:T.length≤1000) (zp:Bool) (ps:List (Bool×List At)) (hl:ps.length≤1000) (hb:∀p∈ps,p.2.length≤1000)
 (hn:∀p∈ps,∀a∈p.2,Ef a.name=true∧a.name.length≤1000) (s:St) (cx:Ctx)
include hll hx
theorem Tn (n:Nat):∀(rest:List Ax) (i:Nat),l.drop i=rest→
  ∃j:Int,bg (au P0.glob (aj P0) cx false jq) [1,2,14,15,16]
   [(1,.v (slf zl (l.map uK))),(2,.v (.pt n 0)),(14,.v (slf zl (l.map uK))),(15,.v (.i .i64 l.length)),(16,.v (.i .i64 i))] s=
   if uM rest=0 then .exit 0 [(1,.v (slf zl (l.map uK))),(2,.v (.pt n 0)),(14,.v (slf zl (l.map uK))),(15,.v (.i .i64 l.length)),(16,.v (.i .i64 j)),(17,.v (.b false))] s else .ret [(4,.v (.i .i64 (uM rest)))] s
 | [],i,h=>by
  have h1:¬i<l.length:=Nat.not_lt.2 (drop_nil h)
  refine ⟨i,ai fun K hK=>?_⟩
  simp [jq,h1,uM]
 | p::r,i,h=>by
  obtain ⟨h1,h2,h3,h4⟩:=drop_cons h
  have h5:=h4 h3
  have hf:=hx p (by rw [←h5];exact List.getElem_mem h3)
  have hwi:=wI (i:=i) (by omega)
  have e1:=yD p hf
  by_cases h0:yO p=0
  ·obtain ⟨j,ih⟩:=Tn n r (i+1) h2
   refine ⟨j,ai fun K hK=>?_⟩
   rw [←hK,show ((i+1:Nat):Int)=(i:Int)+1 from rfl] at ih
   clear hK h4 hx
   try simp at ih
   simp [jq,h3,h5,hwi,e1,h0,uM,ih]
  ·refine ⟨i,ai fun K hK=>?_⟩
   clear hK h4 hx
   simp [jq,h3,h5,hwi,e1,h0,uM]
include hT
theorem Tj (h0:uM l=0) (z:Bool) (L:List At) (hL:L.length≤1000) (hLn:∀a∈L,Ef a.name=true∧a.name.length≤1000) (X:AV) (n:Nat) (hs:s[n]?=some (.cells [slf zt (T.map .s),X])) (A:AV) (m i0:Int):∀(rest:List At) (i:Nat),L.drop i=rest→
  ∃j:Int,bg (au P0.glob (aj P0) cx false jm) [1,2,27,28,29,34,35,36]
   [(1,.v (slf zl (l.map uK))),(2,.v (.pt n 0)),(27,.v A),(28,.v (.i .i64 m)),(29,.v (.i .i64 i0)),(34,.v (rowA z L)),(35,.v (.i .i64 L.length)),(36,.v (.i .i64 i))] s=
   if rest.all (fun a=>!Xl l T a)=true then .exit 4 [(1,.v (slf zl (l.map uK))),(2,.v (.pt n 0)),(27,.v A),(28,.v (.i .i64 m)),(29,.v (.i .i64 i0)),(34,.v (rowA z L)),(35,.v (.i .i64 L.length)),(36,.v (.i .i64 j)),(37,.v (.b false))] s else .ret [(4,.v (.i .i64 211))] s
 | [],i,h=>by
  have h1:¬i<L.length:=Nat.not_lt.2 (drop_nil h)
  refine ⟨i,ai fun K hK=>?_⟩
  simp [jm,h1]
 | p::r,i,h=>by
  obtain ⟨h1,h2,h3,h4⟩:=drop_cons h
  have h5:=h4 h3
  have hpn:=hLn p (by rw [←h5];exact List.getElem_mem h3)
  have hwi:=wI (i:=i) (by omega)
  have hrow:rowA z L=.sl (L.map aX):=yR (by intro h;subst h;simp at h3)
  have e1:=GX zt T hT X p.x s n hs
  have e2:=GX zt T hT X p.y s n hs
  have e3:=Oa zl l hll hx p.name hpn.2
  have ha:CS l p.name=0:=by simp [CS,h0,hpn.1]
  rw [ha] at e3
  obtain ⟨j,ih⟩:=Tj h0 z L hL hLn X n hs A m i0 r (i+1) h2
  rw [hrow] at ih ⊢
  refine ⟨j,ai fun K hK=>?_⟩
  rw [←hK,show ((i+1:Nat):Int)=(i:Int)+1 from rfl] at ih
  clear hK h4 hx hLn hs ha h0
  have hbad:Xl l T p=(decide (p.kind=2) && (Ep T p.x || Ep T p.y) && !yB l p.name):=rfl
  rw [List.all_cons]
  generalize Ep T p.x=hx1 at *
  generalize Ep T p.y=hy1 at *
  generalize yB l p.name=sm at *
  by_cases k2:p.kind=2
  ·rw [decide_eq_true k2,Bool.true_and] at hbad
   cases hx1<;>cases hy1<;>cases sm<;>(try simp only [Bool.or_self,Bool.or_true,Bool.true_or,Bool.or_false,Bool.false_or,Bool.not_true,Bool.not_false,Bool.and_true,Bool.and_false,Bool.false_and,Bool.true_and] at hbad)<;>rw [hbad] <;>
    (try simp only [Bool.not_true,Bool.not_false,Bool.true_and,Bool.false_and])<;>(try rw [←ih])<;>simp [jm,h3,h5,hwi,aX,k2,e1,e2,e3,splice]
  ·rw [decide_eq_false k2,Bool.false_and,Bool.false_and] at hbad
   rw [hbad,Bool.not_false,Bool.true_and,←ih]
   simp [jm,h3,h5,hwi,aX,k2,splice]
include hl hb hn
theorem Tm (h0:uM l=0) (X:AV) (n:Nat) (hs:s[n]?=some (.cells [slf zt (T.map .s),X])):∀(rest:List (Bool×List At)) (i:Nat),ps.drop i=rest→
  ∃j:Int,bg (au P0.glob (aj P0) cx false jo) [1,2,27,28,29]
   [(1,.v (slf zl (l.map uK))),(2,.v (.pt n 0)),(27,.v (slf zp (ps.map encPt))),(28,.v (.i .i64 ps.length)),(29,.v (.i .i64 i))] s=
   if rest.all (fun p=>p.2.all fun a=>!Xl l T a)=true then .exit 2 [(1,.v (slf zl (l.map uK))),(2,.v (.pt n 0)),(27,.v (slf zp (ps.map encPt))),(28,.v (.i .i64 ps.length)),(29,.v (.i .i64 j)),(30,.v (.b false))] s else .ret [(4,.v (.i .i64 211))] s
 | [],i,h=>by
  have h1:¬i<ps.length:=Nat.not_lt.2 (drop_nil h)
  refine ⟨i,ai fun K hK=>?_⟩
  simp [jo,h1]
 | p::r,i,h=>by
  obtain ⟨h1,h2,h3,h4⟩:=drop_cons h
  have h5:=h4 h3
  have hp:p∈ps:=by rw [←h5];exact List.getElem_mem h3
  have hwi:=wI (i:=i) (by omega)
  obtain ⟨j,ih⟩:=Tm h0 X n hs r (i+1) h2
  obtain ⟨j2,h6⟩:=Tj zl l hll hx zt T hT s cx h0 p.1 p.2 (hb p hp) (hn p hp) X n hs (slf zp (ps.map encPt)) ps.length i p.2 0 rfl
  refine ⟨j,ai fun K hK=>?_⟩
  rw [←hK,show ((i+1:Nat):Int)=(i:Int)+1 from rfl] at ih
  rw [show ((0:Nat):Int)=0 from rfl] at h6
  clear hK h4 hx hn hb hs
  rw [List.all_cons]
  by_cases hv:(p.2.all fun a=>!Xl l T a)=true
  ·rw [if_pos hv] at h6
   rw [hv,Bool.true_and,←ih]
   simp [jo,h3,h5,hwi,h6,splice]
  ·rw [if_neg hv] at h6
   rw [Bool.not_eq_true] at hv
   rw [hv,Bool.false_and]
   simp [jo,h3,h5,hwi,h6,splice]
def ZL (l:List Ax) (T:List (List UInt8)) (ps:List (Bool×List At)):Int:=
 if uM l=0 then (if ps.all (fun p=>p.2.all fun a=>!Xl l T a)=true then 0 else 211) else uM l
theorem U5:aj P0 (.fn (.func mM) [] []) [pK zt T zp ps,slf zl (l.map uK)] s cx=.ret (.i .i64 (ZL l T ps)) s:=by
 have hs:(s++[dA.cells [slf zt (T.map .s),slf zp (ps.map encPt)]])[s.length]?=some (.cells [slf zt (T.map .s),slf zp (ps.map encPt)]):=by simp
 obtain ⟨j,h1⟩:=Tn zl l hll hx (s++[dA.cells [slf zt (T.map .s),slf zp (ps.map encPt)]]) ⟨cx.lim,s.length⟩ s.length l 0 rfl
 rw [show ((0:Nat):Int)=0 from rfl] at h1
 refine Gl (by simp) ?_
 unfold ZL pK
 by_cases h0:uM l=0
 ·obtain ⟨j2,h2⟩:=Tm zl l hll hx zt T hT zp ps hl hb hn (s++[dA.cells [slf zt (T.map .s),slf zp (ps.map encPt)]]) ⟨cx.lim,s.length⟩ h0 (slf zp (ps.map encPt)) s.length hs ps 0 rfl
  rw [show ((0:Nat):Int)=0 from rfl] at h2
  rw [if_pos h0] at h1 ⊢
  by_cases hv:(ps.all fun p=>p.2.all fun a=>!Xl l T a)=true
  ·rw [if_pos hv] at h2 ⊢
   simp [af,jA,h1,h2]
  ·rw [if_neg hv] at h2 ⊢
   simp [af,jA,h1,h2]
 ·rw [if_neg h0] at h1 ⊢
  simp [af,jA,h1]
omit hn
def JX:List At→Int
 | []=>0
 | a::r=>if atE a=0 then JX r else atE a
def Dp:List (Bool×List At)→Int
 | []=>0
 | p::r=>if JX p.2=0 then Dp r else JX p.2
omit hll hx hT hl hb
theorem V9 (z:Bool) (L:List At) (hL:L.length≤1000) (ho:∀a∈L,a.Ok0) (A B C:AV) (cs:List AV) (m i0:Int):∀(rest:List At) (i:Nat),L.drop i=rest→
  ∃j:Int,bg (au P0.glob (aj P0) cx false nN) [1,2,17,18,19,24,25,26]
   [(1,.v A),(2,.bx cs),(17,.v B),(18,.v (.i .i64 m)),(19,.v (.i .i64 i0)),(24,.v (rowA z L)),(25,.v (.i .i64 L.length)),(26,.v (.i .i64 i))] s=
   if JX rest=0 then .exit 2 [(1,.v A),(2,.bx cs),(17,.v B),(18,.v (.i .i64 m)),(19,.v (.i .i64 i0)),(24,.v (rowA z L)),(25,.v (.i .i64 L.length)),(26,.v (.i .i64 j)),(27,.v (.b false))] s else .ret [(4,.v (.i .i64 (JX rest)))] s
 | [],i,h=>by
  have h1:¬i<L.length:=Nat.not_lt.2 (drop_nil h)
  refine ⟨i,ai fun K hK=>?_⟩
  simp [nN,h1,JX]
 | p::r,i,h=>by
  obtain ⟨h1,h2,h3,h4⟩:=drop_cons h
  have h5:=h4 h3
  have hpo:=ho p (by rw [←h5];exact List.getElem_mem h3)
  have hwi:=wI (i:=i) (by omega)
  have hrow:rowA z L=.sl (L.map aX):=yR (by intro h;subst h;simp at h3)
  have e1:=JR p hpo
  obtain ⟨j,ih⟩:=V9 z L hL ho A B C cs m i0 r (i+1) h2
  rw [hrow] at ih ⊢
  refine ⟨j,ai fun K hK=>?_⟩
  rw [←hK,show ((i+1:Nat):Int)=(i:Int)+1 from rfl] at ih
  clear hK h4 ho
  simp only [aX] at e1
  by_cases k0:atE p=0
  ·rw [k0] at e1
   simp only [JX,k0,if_true]
   rw [←ih]
   simp [nN,h3,h5,hwi,aX,e1,splice]
  ·simp only [JX,k0,if_false]
   simp [nN,h3,h5,hwi,aX,e1,k0,splice]
include hl hb
variable (ho:∀p∈ps,∀a∈p.2,a.Ok0)
include ho
theorem Wh (A:AV) (cs:List AV):∀(rest:List (Bool×List At)) (i:Nat),ps.drop i=rest→
  ∃j:Int,bg (au P0.glob (aj P0) cx false nO) [1,2,17,18,19]
   [(1,.v A),(2,.bx cs),(17,.v (slf zp (ps.map encPt))),(18,.v (.i .i64 ps.length)),(19,.v (.i .i64 i))] s=
   if Dp rest=0 then .exit 0 [(1,.v A),(2,.bx cs),(17,.v (slf zp (ps.map encPt))),(18,.v (.i .i64 ps.length)),(19,.v (.i .i64 j)),(20,.v (.b false))] s else .ret [(4,.v (.i .i64 (Dp rest)))] s
 | [],i,h=>by
  have h1:¬i<ps.length:=Nat.not_lt.2 (drop_nil h)
  refine ⟨i,ai fun K hK=>?_⟩
  simp [nO,h1,Dp]
 | p::r,i,h=>by
  obtain ⟨h1,h2,h3,h4⟩:=drop_cons h
  have h5:=h4 h3
  have hp:p∈ps:=by rw [←h5];exact List.getElem_mem h3
  have hwi:=wI (i:=i) (by omega)
  obtain ⟨j,ih⟩:=Wh A cs r (i+1) h2
  obtain ⟨j2,h6⟩:=V9 s cx p.1 p.2 (hb p hp) (ho p hp) A (slf zp (ps.map encPt)) A cs ps.length i p.2 0 rfl
  refine ⟨j,ai fun K hK=>?_⟩
  rw [←hK,show ((i+1:Nat):Int)=(i:Int)+1 from rfl] at ih
  rw [show ((0:Nat):Int)=0 from rfl] at h6
  clear hK h4 ho hb
  by_cases hv:JX p.2=0
  ·rw [if_pos hv] at h6
   simp only [Dp,hv,if_true]
   rw [←ih]
   simp [nO,h3,h5,hwi,h6,splice]
  ·rw [if_neg hv] at h6
   simp only [Dp,hv,if_false]
   simp [nO,h3,h5,hwi,h6,splice]
omit ho
theorem V8 (A:AV) (cs:List AV):∀(rest:List (Bool×List At)) (i:Nat),ps.drop i=rest→
  ∃j:Int,bg (au P0.glob (aj P0) cx false nM) [1,2,43,44,45]
   [(1,.v A),(2,.bx cs),(43,.v (slf zp (ps.map encPt))),(44,.v (.i .i64 ps.length)),(45,.v (.i .i64 i))] s=
   if rest.all (fun p=>decide ((vrs p.2).length≤8))=true then .exit 4 [(1,.v A),(2,.bx cs),(43,.v (slf zp (ps.map encPt))),(44,.v (.i .i64 ps.length)),(45,.v (.i .i64 j)),(46,.v (.b false))] s else .ret [(4,.v (.i .i64 210))] s
 | [],i,h=>by
  have h1:¬i<ps.length:=Nat.not_lt.2 (drop_nil h)
  refine ⟨i,ai fun K hK=>?_⟩
  simp [nM,h1]
 | p::r,i,h=>by
  obtain ⟨h1,h2,h3,h4⟩:=drop_cons h
  have h5:=h4 h3
  have hp:p∈ps:=by rw [←h5];exact List.getElem_mem h3
  have hwi:=wI (i:=i) (by omega)
  have e1:=JU p (by have:=hb p hp;omega)
  obtain ⟨j,ih⟩:=V8 A cs r (i+1) h2
  refine ⟨j,ai fun K hK=>?_⟩
  rw [←hK,show ((i+1:Nat):Int)=(i:Int)+1 from rfl] at ih
  clear hK h4 hb
  by_cases hv:(vrs p.2).length≤8
  ·have hv':¬(8:Int)<((vrs p.2).length:Nat):=by omega
   rw [List.all_cons,decide_eq_true hv,Bool.true_and,←ih]
   simp [nM,h3,h5,hwi,e1,hv',splice]
  ·have hv':(8:Int)<((vrs p.2).length:Nat):=by omega
   rw [List.all_cons,decide_eq_false hv,Bool.false_and]
   simp [nM,h3,h5,hwi,e1,hv',splice]
end
def chB (T:List (List UInt8)) (ps:List (Bool×List At)):Int:=
 if shE T ps≠0 then shE T ps else if Dp ps≠0 then Dp ps else if tdE T ps≠0 then tdE T ps else if ps.all (fun p=>decide ((vrs p.2).length≤8))=true then 0 else 210
def chE (l:List Ax) (T:List (List UInt8)) (ps:List (Bool×List At)):Int:=if chB T ps=0 then ZL l T ps else chB T ps
theorem EW:∀{L:List At},JX L=0→∀a∈L,atE a=0
 | [],_,a,ha=>by cases ha
 | b::r,h,a,ha=>by
  simp only [JX] at h
  split at h
  ·rename_i h0
   rcases List.mem_cons.1 ha with rfl|ha
   ·exact h0
   ·exact EW h a ha
  ·rename_i h0;exact absurd h h0
theorem DY:∀{ps:List (Bool×List At)},Dp ps=0→∀p∈ps,JX p.2=0
 | [],_,a,ha=>by cases ha
 | b::r,h,a,ha=>by
  simp only [Dp] at h
  split at h
  ·rename_i h0
   rcases List.mem_cons.1 ha with rfl|ha
   ·exact h0
   ·exact DY h a ha
  ·rename_i h0;exact absurd h h0
theorem Xm {a:At} (h:atE a=0):yc a.name=true:=by
 cases hn:yc a.name
 ·exfalso
  unfold atE at h
  simp only [hn] at h
  revert h
  repeat' split
  all_goals simp_all
 ·rfl
theorem acf {l:List UInt8} (h:Ef l=true):l.length≤24:=by
 unfold Ef at h
 rcases Bool.or_eq_true_iff.1 h with h|h
 ·unfold jU at h
  simp at h
  exact h.1
 ·unfold FN at h
  simp at h
  omega
theorem adh {a:At} (h:atE a=0):Ef a.name=true∧a.name.length≤1000:=by
 have h1:=Xm h
 unfold yc at h1
 have h2:Ef a.name=true:=by
  unfold Ef
  simp at h1 ⊢
  exact h1.1
 exact ⟨h2,by have:=acf h2;omega⟩
end Go.Ai.Z
namespace Go.Ai.Z
structure QOk (T:List (List UInt8)) (ps:List (Bool×List At)):Prop where
 t:T.length≤1125899906842624
 p:ps.length≤1125899906842624
 a:∀p∈ps,p.2.length≤1125899906842624
 o:∀p∈ps,∀a∈p.2,a.Ok0
theorem abC {T:List (List UInt8)} {ps:List (Bool×List At)} (h:shE T ps=0):(1≤ps.length∧ps.length≤4∧T.length≤3)∧∀p∈ps,1≤p.2.length∧p.2.length≤12:=by
 unfold shE at h
 split at h
 ·omega
 ·rename_i h1
  split at h
  ·rename_i h2
   refine ⟨by omega,fun p hp=>?_⟩
   have:=List.all_eq_true.1 h2 p hp
   simpa using this
  ·omega
theorem aev (zl:Bool) (l:List Ax) (hll:l.length≤100) (hx:∀x∈l,x.Lng) (zt:Bool) (T:List (List UInt8)) (zp:Bool) (ps:List (Bool×List At)) (hq:QOk T ps) (s:St) (cx:Ctx):
  aj P0 (.fn (.func iR) [] []) [pK zt T zp ps,slf zl (l.map uK)] s cx=.ret (.i .i64 (chE l T ps)) s:=by
 have e1:=U4 zt T zp ps hq.t hq.p hq.a
 refine Qv (by simp) ?_
 unfold chE chB
 by_cases h0:shE T ps=0
 ·obtain ⟨⟨a1,a2,a3⟩,a4⟩:=abC h0
  have hb:∀p∈ps,p.2.length≤1000:=fun p hp=>by have:=a4 p hp;omega
  obtain ⟨j1,h1⟩:=Wh zp ps (by omega) hb s ⟨s.length,s.length⟩ hq.o (slf zl (l.map uK)) [slf zt (T.map .s),slf zp (ps.map encPt)] ps 0 rfl
  rw [show ((0:Nat):Int)=0 from rfl] at h1
  by_cases h2:Dp ps=0
  ·rw [if_pos h2] at h1
   have e2:=Xd zt T (by omega) zp ps (by omega) hb
   by_cases h3:tdE T ps=0
   ·obtain ⟨j2,h4⟩:=V8 zp ps (by omega) hb s ⟨s.length,s.length⟩ (slf zl (l.map uK)) [slf zt (T.map .s),slf zp (ps.map encPt)] ps 0 rfl
    rw [show ((0:Nat):Int)=0 from rfl] at h4
    by_cases h5:(ps.all fun p=>decide ((vrs p.2).length≤8))=true
    ·rw [if_pos h5] at h4
     have e3:=U5 zl l hll hx zt T (by omega) zp ps (by omega) hb fun p hp a ha=>adh (EW (DY h2 p hp) a ha)
     rw [h0] at e1
     rw [h3] at e2
     simp only [pK] at e1 e2 e3
     simp only [h0,h2,h3,h5,ne_eq,not_true_eq_false,if_false,if_true]
     simp [af,kT,pK,e1,e2,e3,h1,h4]
    ·rw [if_neg h5] at h4
     rw [h0] at e1
     rw [h3] at e2
     simp only [pK] at e1 e2
     simp only [h0,h2,h3,h5,ne_eq,not_true_eq_false,if_false,if_true]
     simp [af,kT,pK,e1,e2,h1,h4]
   ·rw [h0] at e1
    simp only [pK] at e1 e2
    simp only [h0,h2,h3,ne_eq,not_true_eq_false,not_false_eq_true,if_false,if_true]
    simp [af,kT,pK,e1,e2,h1,h3]
  ·rw [if_neg h2] at h1
   rw [h0] at e1
   simp only [pK] at e1
   simp only [h0,h2,ne_eq,not_true_eq_false,not_false_eq_true,if_false,if_true]
   simp [af,kT,pK,e1,h1]
 ·simp only [pK] at e1
  simp only [h0,ne_eq,not_false_eq_true,if_true,if_false]
  simp [af,kT,pK,e1,h0]
theorem Zk {T:List (List UInt8)} {ps:List (Bool×List At)} (h:chB T ps=0):shE T ps=0∧Dp ps=0∧tdE T ps=0∧∀p∈ps,(vrs p.2).length≤8:=by
 unfold chB at h
 by_cases h1:shE T ps=0
 ·by_cases h2:Dp ps=0
  ·by_cases h3:tdE T ps=0
   ·by_cases h5:(ps.all fun p=>decide ((vrs p.2).length≤8))=true
    ·exact ⟨h1,h2,h3,fun p hp=>by have:=List.all_eq_true.1 h5 p hp;simpa using this⟩
    ·simp only [h1,h2,h3,h5,ne_eq,not_true_eq_false,if_false] at h;exact absurd h (by decide)
   ·simp only [h1,h2,h3,ne_eq,not_true_eq_false,not_false_eq_true,if_false,if_true] at h
  ·simp only [h1,h2,ne_eq,not_true_eq_false,not_false_eq_true,if_false,if_true] at h
 ·simp only [h1,ne_eq,not_false_eq_true,if_true] at h
theorem afZ {T:List (List UInt8)} {ps:List (Bool×List At)} (h:chB T ps=0):∀p∈ps,∀a∈p.2,atE a=0∧Ef a.name=true∧a.name.length≤1000:=fun p hp a ha=>
 have h1:=EW (DY (Zk h).2.1 p hp) a ha
 ⟨h1,adh h1⟩
theorem abN {T:List (List UInt8)} {ps:List (Bool×List At)} (h:chB T ps=0):ZL [] T ps=0:=by
 unfold ZL
 rw [if_pos (show uM []=0 from rfl),if_pos]
 refine List.all_eq_true.2 fun p hp=>List.all_eq_true.2 fun a ha=>?_
 have h1:=(afZ h p hp a ha).2.1
 have h2:yB [] a.name=true:=by simp [yB,uM,h1]
 simp [Xl,h2]
theorem aem (T:List (List UInt8)) (ps:List (Bool×List At)):chE [] T ps=chB T ps:=by
 unfold chE
 split
 ·rename_i h;rw [abN h,h]
 ·rfl
theorem JV (zt:Bool) (T:List (List UInt8)) (zp:Bool) (ps:List (Bool×List At)) (hq:QOk T ps) (s:St) (cx:Ctx):
  aj P0 (.fn (.func iR) [] []) [pK zt T zp ps,.ns] s cx=.ret (.i .i64 (chB T ps)) s:=by
 have h:=aev true [] (by simp) (by simp) zt T zp ps hq s cx
 rw [aem] at h
 exact h
end Go.Ai.Z
namespace Go.Ai.Z
theorem Y4 (l:List (List UInt8)) (x:List UInt8) (hl:l.length≤1000000) (v:AV) (hv:v=.sl (l.map .s)∨(v=.ns∧l=[])) (s:St) (cx:Ctx):
  ∀(rest:List (List UInt8)) (i:Nat),l.drop i=rest→
  ∃j:Int,bg (au P0.glob (aj P0) cx false oQ) [0,1,5] [(0,.v v),(1,.v (.s x)),(5,.v (.i .i64 i))] s=
   if x∈rest then .ret [(4,.v (.b true))] s else .exit 0 [(0,.v v),(1,.v (.s x)),(5,.v (.i .i64 j)),(9,.v (.b false))] s
 | [],i,h=>by
  have h1:¬i<l.length:=Nat.not_lt.2 (drop_nil h)
  refine ⟨i,ai fun K hK=>?_⟩
  rcases hv with rfl|⟨rfl,rfl⟩
  ·simp [oQ,h1]
  ·have h2:¬(i:Int)<0:=by omega
   simp [oQ,h2]
 | p::r,i,h=>by
  obtain ⟨h1,h2,h3,h4⟩:=drop_cons h
  have h5:=h4 h3
  have hw:=wI (i:=i) (by omega)
  have hv':v=.sl (l.map .s):=by
   rcases hv with h|⟨_,h⟩
   ·exact h
   ·subst h;simp at h3
  subst hv'
  by_cases hp:p=x
  ·refine ⟨0,ai fun K hK=>?_⟩
   clear h4
   simp [oQ,h3,h5,hw,hp]
  ·obtain ⟨j,ih⟩:=Y4 l x hl _ (.inl rfl) s cx r (i+1) h2
   have hp':¬x=p:=fun h=>hp h.symm
   refine ⟨j,ai fun K hK=>?_⟩
   rw [←hK,show ((i+1:Nat):Int)=(i:Int)+1 from rfl] at ih
   clear hK h4
   try simp at ih
   simp [oQ,h3,h5,hw,hp,hp',ih]
theorem aer (l:List (List UInt8)) (x:List UInt8) (hl:l.length≤1000000) (v:AV) (hv:v=.sl (l.map .s)∨(v=.ns∧l=[])) (s:St) (cx:Ctx):
  aj P0 (.fn (.func zS) [] []) [v,.s x] s cx=.ret (.b (decide (x∈l))) s:=by
 obtain ⟨j,h⟩:=Y4 l x hl v hv s ⟨s.length,s.length⟩ l 0 rfl
 rw [show ((0:Nat):Int)=0 from rfl] at h
 refine WG (by simp) ?_
 by_cases hx:x∈l
 ·rw [if_pos hx] at h
  rcases hv with rfl|⟨rfl,rfl⟩
  ·try simp at h
   simp [af,uV,h,hx]
  ·cases hx
 ·rw [if_neg hx] at h
  rcases hv with rfl|⟨rfl,rfl⟩
  ·try simp at h
   simp [af,uV,h,hx]
  ·try simp at h
   simp [af,uV,h]
theorem V5 (l:List (List UInt8)) (x:List UInt8) (hl:l.length≤1000000) (s:St) (cx:Ctx):
  ∀(rest:List (List UInt8)) (i:Nat),l.drop i=rest→
  bg (au P0.glob (aj P0) cx false lY) [0,1,5] [(0,.v (.sl (l.map .s))),(1,.v (.s x)),(5,.v (.i .i64 i))] s=
   .exit 0 [(0,.v (.sl (l.map .s))),(1,.v (.s x)),(5,.v (.i .i64 ((i+(rest.takeWhile (fun y=>decide (y<x))).length:Nat):Int))),(31,.v (.b false))] s
 | [],i,h=>by
  have h1:¬i<l.length:=Nat.not_lt.2 (drop_nil h)
  refine ai fun K hK=>?_
  simp [lY,h1]
 | p::r,i,h=>by
  obtain ⟨h1,h2,h3,h4⟩:=drop_cons h
  have h5:=h4 h3
  have hw:=wI (i:=i) (by omega)
  by_cases hp:p<x
  ·have ih:=V5 l x hl s cx r (i+1) h2
   refine ai fun K hK=>?_
   rw [←hK,show ((i+1:Nat):Int)=(i:Int)+1 from rfl] at ih
   clear hK h4
   have e1:i+((p::r).takeWhile (fun y=>decide (y<x))).length=i+1+(r.takeWhile (fun y=>decide (y<x))).length:=by simp [hp];omega
   rw [e1]
   try simp at ih
   simp [lY,h3,h5,hw,hp,CJ,ih]
  ·refine ai fun K hK=>?_
   clear h4
   simp [lY,h3,h5,hw,hp,CJ]
def Ih (V:List (List UInt8)) (x:List UInt8):List (List UInt8):=if headB 63 x=true then LX V x else V
theorem Wq (V:List (List UInt8)) (x:List UInt8):(Ih V x).length≤V.length+1:=by
 unfold Ih
 split
 ·exact Zw V x
 ·omega
theorem Xa (l:List (List UInt8)) (x:List UInt8) (hl:l.length≤1000000) (s:St) (cx:Ctx):aj P0 (.fn (.func pz) [] []) [.sl (l.map .s),.s x] s cx=.ret (.sl ((Ih l x).map .s)) s:=by
 refine NW (by simp) ?_
 have e1:=aer l x hl _ (.inl rfl)
 cases hh:headB 63 x
 ·have h0:Ih l x=l:=by simp [Ih,hh]
  rw [h0]
  cases x with
  | nil=>simp [af,gQ]
  | cons b r=>
   have hb:¬b=63:=by simpa [headB] using hh
   have hb':¬(b.toNat:Int)=63:=fun h=>hb (by apply UInt8.toNat_inj.1;simp;omega)
   have hl0:¬((r.length:Int)+1=0):=by omega
   simp [af,gQ,hb',hl0]
 ·cases x with
  | nil=>simp [headB] at hh
  | cons b r=>
   have hb:b=63:=by simpa [headB] using hh
   subst hb
   have hl0:¬((r.length:Int)+1=0):=by omega
   by_cases hx:(63::r)∈l
   ·have h0:Ih l (63::r)=l:=by simp [Ih,hh,LX,hx]
    rw [h0]
    rw [decide_eq_true hx] at e1
    simp [af,gQ,hl0,e1]
   ·rw [decide_eq_false hx] at e1
    have h:=V5 l (63::r) hl s ⟨s.length,s.length⟩ l 0 rfl
    have hw:Ih l (63::r)=l.takeWhile (fun y=>decide (y<63::r))++(63::r)::l.dropWhile (fun y=>decide (y<63::r)):=by simp [Ih,hh,LX,hx]
    generalize hX:(63:UInt8)::r=x at *
    have hlx:(x.length:Int)=(r.length:Int)+1:=by rw [←hX];simp
    have hl0':¬(x.length:Int)=0:=by omega
    have hl0n:¬x=[]:=by rw [←hX];simp
    have hx0:x[0]?=some 63:=by rw [←hX];rfl
    have hn:=ahb l x
    have t1:=adC l x
    have t2:=drop_tw l x
    have hlen:(l.takeWhile (fun y=>decide (y<x))).length+(l.dropWhile (fun y=>decide (y<x))).length=l.length:=by
     have:=congrArg List.length (List.takeWhile_append_dropWhile (p:=fun y=>decide (y<x)) (l:=l))
     rw [List.length_append] at this;exact this
    rw [hw]
    rw [Nat.zero_add] at h
    generalize hA:l.takeWhile (fun y=>decide (y<x))=A at *
    generalize hB:l.dropWhile (fun y=>decide (y<x))=B at *
    have m1:A.length≤aU:=by unfold aU;omega
    have m2:A.length+1≤aU:=by unfold aU;omega
    have m3:A.length+1+B.length≤aU:=by unfold aU;omega
    have m4:A.length+(B.length+1)≤aU:=by unfold aU;omega
    have m5:A.length+(1+B.length)≤aU:=by unfold aU;omega
    have hd:(l.map AV.s).take A.length=A.map .s:=by rw [←List.map_take,t1]
    have he:(l.map AV.s).drop A.length=B.map .s:=by rw [←List.map_drop,t2]
    have hb2:List.take B.length (B.map AV.s)=B.map .s:=by rw [←List.map_take];simp
    have hfz:∀(S:St) (n:Nat) (V:List (List UInt8)),frz S n (.sl (V.map .s))=some (.sl (V.map .s)):=fun S n V=>by
     unfold frz
     rw [if_pos (by simp [AV.under,L8])]
    simp at h
    by_cases hA0:A=[]
    ·subst hA0
     have hBl:l=B:=by simpa using t2
     clear hA hB t1 t2
     subst hBl
     simp at h
     by_cases hB0:l=[]
     ·subst hB0
      have f1:=fun S n=>hfz S n [x]
      simp at e1 f1 h
      simp [af,gQ,hl0',hl0n,hx0,e1,h,aU,f1]
     ·have hBp:0<l.length:=List.length_pos_iff.2 hB0
      have f1:=fun S n=>hfz S n (x::l)
      have m6:1≤aU:=by unfold aU;omega
      simp at m5 f1
      simp [af,gQ,hl0',hl0n,hx0,e1,h,m5,m6,hBp,hB0,hb2,f1]
    ·have hAp:0<A.length:=List.length_pos_iff.2 hA0
     by_cases hB0:B=[]
     ·subst hB0
      have f1:=fun S n=>hfz S n (A++[x])
      simp at hlen hb2 he f1
      simp [af,gQ,hl0',hl0n,hx0,e1,h,hn,m1,m2,m3,m4,m5,hd,he,hb2,hAp,hA0,←hlen,f1]
     ·have hBp:0<B.length:=List.length_pos_iff.2 hB0
      have f1:=fun S n=>hfz S n (A++x::B)
      simp at f1
      simp [af,gQ,hl0',hl0n,hx0,e1,h,hn,m1,m2,m3,m4,m5,hd,he,hb2,hAp,hA0,hBp,hB0,←hlen,f1]
def O9 (V:List (List UInt8)):List At→List (List UInt8)
 | []=>V
 | a::r=>O9 (Ih (Ih V a.x) a.y) r
theorem Tq (z:Bool) (L:List At) (hL:L.length≤1000) (s:St) (cx:Ctx):∀(rest:List At) (i:Nat) (V:List (List UInt8)),L.drop i=rest→V.length+2 * rest.length≤10000→
  ∃j:Int,bg (au P0.glob (aj P0) cx false mO) [1,3,4] [(1,.bx [rowA z L]),(3,.v (.sl (V.map .s))),(4,.v (.i .i64 i))] s=
   .exit 0 [(1,.bx [rowA z L]),(3,.v (.sl ((O9 V rest).map .s))),(4,.v (.i .i64 j)),(10,.v (.b false))] s
 | [],i,V,h,_=>by
  have h1:¬i<L.length:=Nat.not_lt.2 (drop_nil h)
  refine ⟨i,ai fun K hK=>?_⟩
  simp [mO,h1,O9]
 | p::r,i,V,h,hV=>by
  obtain ⟨h1,h2,h3,h4⟩:=drop_cons h
  have h5:=h4 h3
  have hw:=wI (i:=i) (by omega)
  have hrow:rowA z L=.sl (L.map aX):=yR (by intro h;subst h;simp at h3)
  simp only [List.length_cons] at hV
  have l1:=Wq V p.x
  have l2:=Wq (Ih V p.x) p.y
  have e1:=Xa V p.x (by omega)
  have e2:=Xa (Ih V p.x) p.y (by omega)
  obtain ⟨j,ih⟩:=Tq z L hL s cx r (i+1) (Ih (Ih V p.x) p.y) h2 (by omega)
  rw [hrow] at ih ⊢
  refine ⟨j,ai fun K hK=>?_⟩
  rw [←hK,show ((i+1:Nat):Int)=(i:Int)+1 from rfl] at ih
  clear hK h4
  simp only [O9]
  rw [←ih]
  simp [mO,h3,h5,hw,aX,e1,e2]
theorem aa5 (p:Bool×List At) (hL:p.2.length≤1000) (s:St) (cx:Ctx):aj P0 (.fn (.func nU) [] []) [.ag [rowA p.1 p.2]] s cx=.ret (.sl ((O9 [] p.2).map .s)) s:=by
 obtain ⟨j,h⟩:=Tq p.1 p.2 hL s ⟨s.length,s.length⟩ p.2 0 [] rfl (by simp;omega)
 refine Il (by simp) ?_
 simp at h
 simp [af,qf,h]
def afS (T:List (List UInt8)) (ps:List (Bool×List At)):Bool:=
 if ps.all (fun p=>decide (p.2.length≤14) && decide ((O9 [] p.2).length≤5))=true then decide (ps.length≤6) && decide (T.length≤6) else false
theorem acu (zt:Bool) (T:List (List UInt8)) (zp:Bool) (ps:List (Bool×List At)) (hq:QOk T ps) (s:St) (cx:Ctx):∀(rest:List (Bool×List At)) (i:Nat),ps.drop i=rest→
  ∃j:Int,bg (au P0.glob (aj P0) cx false mW) [1,6,7,8]
   [(1,.bx [slf zt (T.map .s),slf zp (ps.map encPt)]),(6,.v (slf zp (ps.map encPt))),(7,.v (.i .i64 ps.length)),(8,.v (.i .i64 i))] s=
   if rest.all (fun p=>decide (p.2.length≤14) && decide ((O9 [] p.2).length≤5))=true then .exit 0 [(1,.bx [slf zt (T.map .s),slf zp (ps.map encPt)]),(6,.v (slf zp (ps.map encPt))),(7,.v (.i .i64 ps.length)),(8,.v (.i .i64 j)),(9,.v (.b false))] s
   else .ret [(2,.v (.b false))] s
 | [],i,h=>by
  have h1:¬i<ps.length:=Nat.not_lt.2 (drop_nil h)
  refine ⟨i,ai fun K hK=>?_⟩
  simp [mW,h1]
 | p::r,i,h=>by
  obtain ⟨h1,h2,h3,h4⟩:=drop_cons h
  have h5:=h4 h3
  have hp:=hq.a p (by rw [←h5];exact List.getElem_mem h3)
  have hpl:=hq.p
  have hwi:=wI (i:=i) (by omega)
  obtain ⟨j,ih⟩:=acu zt T zp ps hq s cx r (i+1) h2
  refine ⟨j,ai fun K hK=>?_⟩
  rw [←hK,show ((i+1:Nat):Int)=(i:Int)+1 from rfl] at ih
  clear hK h4
  rw [List.all_cons]
  by_cases c1:p.2.length≤14
  ·have c1':¬(14:Int)<((p.2.length:Nat):Int):=by omega
   have e1:=aa5 p (by omega)
   rw [decide_eq_true c1,Bool.true_and]
   by_cases c2:(O9 [] p.2).length≤5
   ·have c2':¬(5:Int)<(((O9 [] p.2).length:Nat):Int):=by omega
    rw [decide_eq_true c2,Bool.true_and,←ih]
    simp [mW,h3,h5,hwi,c1',c2',e1,splice]
   ·have c2':(5:Int)<(((O9 [] p.2).length:Nat):Int):=by omega
    rw [decide_eq_false c2,Bool.false_and]
    simp [mW,h3,h5,hwi,c1',c2',e1,splice]
  ·have c1':(14:Int)<((p.2.length:Nat):Int):=by omega
   rw [decide_eq_false c1,Bool.false_and,Bool.false_and]
   simp [mW,h3,h5,hwi,c1',splice]
theorem agd (zt:Bool) (T:List (List UInt8)) (zp:Bool) (ps:List (Bool×List At)) (hq:QOk T ps) (s:St) (cx:Ctx):
  aj P0 (.fn (.func xQ) [] []) [pK zt T zp ps] s cx=.ret (.b (afS T ps)) s:=by
 obtain ⟨j,h⟩:=acu zt T zp ps hq s ⟨s.length,s.length⟩ ps 0 rfl
 rw [show ((0:Nat):Int)=0 from rfl] at h
 refine UJ (by simp) ?_
 unfold afS pK
 by_cases c:ps.all (fun p=>decide (p.2.length≤14) && decide ((O9 [] p.2).length≤5))=true
 ·rw [if_pos c] at h ⊢
  by_cases c1:ps.length≤6
  ·have c1':(ps.length:Int)≤6:=by omega
   by_cases c2:T.length≤6
   ·have c2':(T.length:Int)≤6:=by omega
    simp [af,qi,h,c1,c1',c2,c2']
   ·have c2':¬(T.length:Int)≤6:=by omega
    simp [af,qi,h,c1,c1',c2,c2']
  ·have c1':¬(ps.length:Int)≤6:=by omega
   simp [af,qi,h,c1,c1']
 ·rw [if_neg c] at h ⊢
  simp [af,qi,h]
end Go.Ai.Z
namespace Go.Ai
open Go.Ai.Z Go.ChangeShapes Go.WideShapes Go.WideElems
section
variable {H:Type} {enc:TypeId×Value→H} {P:Program} {W:World}
structure agl (P:Program) (A L Q I Z R S QQ:TypeId):Prop extends QTy P A L Q I Z where
 uR:P.underlying R=some (.slice Z)
 uS:P.underlying S=some (.slice Q)
 uQQ:∃f0 f1:Field,P.underlying QQ=some (.struct #[f0,f1])∧(f0.type=R∧f0.offset=0)∧(f1.type=S∧f1.offset=1)
 cR:P.cellsOf R=1
 cS:P.cellsOf S=1
 cQQ:P.cellsOf QQ=2
 bZ:0<P.bytesOf Z
 bQ:0<P.bytesOf Q
theorem ac8 {A L Q I Z R S QQ:TypeId} (ty:agl P A L Q I Z R S QQ) (fuel:Nat) (cs:List Value) (x:DataW H×List MemPlace) (h:DataW.trod enc P W 0 (fun _=>true) true fuel QQ cs=some x) (hl:Light P QQ x.1):
  ∃(T:List (List UInt8)) (ps:List (Bool×List At)),QOk T ps∧vW W cs [.sl (T.map .s),.sl (ps.map encPt)]:=by
 obtain ⟨f0,f1,hu,⟨t0,o0⟩,⟨t1,o1⟩⟩:=ty.uQQ
 obtain ⟨xs,n,rfl,rfl,hlen,hxl,hfs⟩:=DataW.trod_struct hu h
 rw [ty.cQQ] at hlen
 obtain ⟨v0,v1,rfl⟩:∃v0 v1,cs=[v0,v1]:=by
  match cs,hlen with
  | [v0,v1],_=>exact ⟨v0,v1,rfl⟩
 obtain ⟨x0,x1,rfl⟩:∃x0 x1,xs=[x0,x1]:=by
  match xs,hxl with
  | [v0,v1],_=>exact ⟨v0,v1,rfl⟩
 have h0:=hfs 0 f0 rfl
 have h1:=hfs 1 f1 rfl
 simp [t0,o0,ty.cR] at h0
 simp [t1,o1,ty.cS] at h1
 have hw:∀y,(y∈x0.1.weights P R∨y∈x1.1.weights P S)→y≤reachBytes:=by
  intro y hy
  apply hl y
  simp only [DataW.weights,hu,List.map_cons,List.map_nil,DataW.weightsEach,t0,t1,List.mem_append]
  rcases hy with hy|hy<;>simp [DataW.weightsEach,t0,t1,hy]
 obtain ⟨es,q1,q2,⟨r4,a4⟩⟩:=JH ty.uR ty.cZ (by omega) ty.bZ (fun a=>∃l:List UInt8,a=.s l∧l.length≤reachBytes) h0 (fun y hy=>hw y (.inl hy)) (fun m hm cs y hy hly=>by
  obtain ⟨l,hl1,hr⟩:=UQ ty.uZ hy hly
  exact ⟨.s l,⟨l,rfl,hl1⟩,rfl,hr⟩)
 obtain ⟨es2,q3,q4,⟨r5,a5⟩⟩:=JH ty.uS ty.cQ (by omega) ty.bQ (fun a=>∃c:Bool×List At,a=encPt c∧(c.2.length≤1125899906842624∧∀b∈c.2,b.Ok)) h1 (fun y hy=>hw y (.inr hy)) (fun m hm cs y hy hly=>by
  obtain ⟨z,l,b1,b2,hr⟩:=aej ty.toQTy m cs y hy hly
  exact ⟨encPt (z,l),⟨(z,l),rfl,b1,b2⟩,by simp,hr⟩)
 obtain ⟨T,rfl,hT⟩:=Ei q1
 obtain ⟨ps,rfl,hps⟩:=Ei q3
 have hb:reachBytes≤1125899906842624:=by decide
 simp only [List.length_map] at q2 q4
 refine ⟨T,ps,⟨by omega,by omega,fun p hp=>(hps p hp).1,fun p hp a ha=>?_⟩, ?_,fun v hv=>?_⟩
 ·have:=(hps p hp).2 a ha
  exact ⟨this.n,this.x,this.y⟩
 ·exact r4.append r5
 ·simp only [List.mem_cons,List.not_mem_nil,or_false] at hv
  rcases hv with rfl|rfl
  ·exact a4 _ (by simp)
  ·exact a5 _ (by simp)
theorem ZN {A L Q I Z R S QQ:TypeId} (ty:agl P A L Q I Z R S QQ) {r:Go.Reach} {b0:Nat} {v:Value} {d:DataW H} {p:List MemPlace} (hok:Value.okWide P W r b0 QQ v) (h:DataW.Trod enc P W 0 (fun _=>true) true QQ v d p) (hl:Light P QQ d):
  ∃(T:List (List UInt8)) (ps:List (Bool×List At)),QOk T ps∧Rep (g0 W) 0 v (pK false T false ps):=by
 obtain ⟨f0,f1,hu,_⟩:=ty.uQQ
 unfold Value.okWide at hok
 rw [hu] at hok
 obtain ⟨cs,rfl,_⟩:=hok
 obtain ⟨fuel,hf⟩:=h
 obtain ⟨T,ps,h1,hr,h3⟩:=ac8 ty fuel _ _ hf hl
 refine ⟨T,ps,h1, ?_⟩
 unfold pK
 simp only [Value.cells] at hr h3
 rw [SI,SI]
 refine .ag cs _ (by simpa using hr.1) (fun i hi=>h3 _ (by simp)) (fun i hi hi'=>?_)
 have:=hr.2 i (by simpa using hi) (by simpa using hi')
 simpa using this
end
end Go.Ai
