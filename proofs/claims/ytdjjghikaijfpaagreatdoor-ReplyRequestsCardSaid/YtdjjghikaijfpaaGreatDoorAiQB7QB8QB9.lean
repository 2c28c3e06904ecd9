/-
 query.checkRoles and query.Check.
-/
import Derived.Test.YtdjjghikaijfpaaGreatDoorAiQB3QB4QB5QB6
import Derived.Test.YtdjjghikaijfpaaGreatDoorAiRchR1R2R3R4R5
set_option maxRecDepth 100000
set_option linter.unusedSimpArgs false
set_option linter.unusedVariables false
set_option linter.unusedSectionVars false
namespace Go.Ai.Z
def Ib (T:List (List UInt8)) (t:List UInt8):Bool:=headB 63 t && !decide (t∈T)
theorem Ky (zt:Bool) (T:List (List UInt8)) (hT:T.length≤1000) (X:AV) (t:List UInt8) (s:St) (n:Nat) (hn:s[n]?=some (.cells [slf zt (T.map .s),X])) (cx:Ctx):
  aj P0 (.fn (.func lK) [] [.pt n 0]) [.s t] s cx=.ret (.b (Ib T t)) s:=by
 have e2:=IV T t (by omega) _ (EF zt T)
 refine GI (by simp) ?_
 unfold Ib
 cases h:headB 63 t
 ·simp [af,iP,hn,h]
 ·by_cases hm:t∈T
  ·rw [decide_eq_true hm] at e2
   simp [af,iP,hn,h,e2,hm]
  ·rw [decide_eq_false hm] at e2
   simp [af,iP,hn,h,e2,hm]
def ZN (l:List Ax) (T:List (List UInt8)) (a:At):Bool:=decide (a.kind=2) && (Ib T a.x || Ib T a.y) && !zZ l a.name
section
variable (zl:Bool) (l:List Ax) (hll:l.length≤100) (hx:∀x∈l,x.Lng) (zt:Bool) (T:List (List UInt8)) (hT:T.length≤1000) (zp:Bool) (ps:List (Bool×List At)) (hl:ps.length≤1000) (hb:∀p∈ps,p.2.length≤1000)
 (hn:∀p∈ps,∀a∈p.2,Hy a.name=true∧a.name.length≤1000) (s:St) (cx:Ctx)
include hll hx
theorem Wx (n:Nat):∀(rest:List Ax) (i:Nat),l.drop i=rest→
  ∃j:Int,bF (ay P0.glob (aj P0) cx false jC) [1,2,14,15,16]
   [(1,.v (slf zl (l.map wH))),(2,.v (.pt n 0)),(14,.v (slf zl (l.map wH))),(15,.v (.i .i64 l.length)),(16,.v (.i .i64 i))] s=
   if wJ rest=0 then .exit 0 [(1,.v (slf zl (l.map wH))),(2,.v (.pt n 0)),(14,.v (slf zl (l.map wH))),(15,.v (.i .i64 l.length)),(16,.v (.i .i64 j)),(17,.v (.b false))] s else .ret [(4,.v (.i .i64 (wJ rest)))] s
 | [],i,h=>by
  have h1:¬i<l.length:=Nat.not_lt.2 (drop_nil h)
  refine ⟨i,ak fun K hK=>?_⟩
  simp [jC,h1,wJ]
 | p::r,i,h=>by
  obtain ⟨h1,h2,h3,h4⟩:=drop_cons h
  have h5:=h4 h3
  have hf:=hx p (by rw [←h5];exact List.getElem_mem h3)
  have hwi:=wI (i:=i) (by omega)
  have e1:=Ae p hf
  by_cases h0:Az p=0
  ·obtain ⟨j,ih⟩:=Wx n r (i+1) h2
   refine ⟨j,ak fun K hK=>?_⟩
   rw [←hK,show ((i+1:Nat):Int)=(i:Int)+1 from rfl] at ih
   clear hK h4 hx
   try simp at ih
   simp [jC,h3,h5,hwi,e1,h0,wJ,ih]
  ·refine ⟨i,ak fun K hK=>?_⟩
   clear hK h4 hx
   simp [jC,h3,h5,hwi,e1,h0,wJ]
include hT
theorem Wu (h0:wJ l=0) (z:Bool) (L:List At) (hL:L.length≤1000) (hLn:∀a∈L,Hy a.name=true∧a.name.length≤1000) (X:AV) (n:Nat) (hs:s[n]?=some (.cells [slf zt (T.map .s),X])) (A:AV) (m i0:Int):∀(rest:List At) (i:Nat),L.drop i=rest→
  ∃j:Int,bF (ay P0.glob (aj P0) cx false jA) [1,2,27,28,29,34,35,36]
   [(1,.v (slf zl (l.map wH))),(2,.v (.pt n 0)),(27,.v A),(28,.v (.i .i64 m)),(29,.v (.i .i64 i0)),(34,.v (rowA z L)),(35,.v (.i .i64 L.length)),(36,.v (.i .i64 i))] s=
   if rest.all (fun a=>!ZN l T a)=true then .exit 4 [(1,.v (slf zl (l.map wH))),(2,.v (.pt n 0)),(27,.v A),(28,.v (.i .i64 m)),(29,.v (.i .i64 i0)),(34,.v (rowA z L)),(35,.v (.i .i64 L.length)),(36,.v (.i .i64 j)),(37,.v (.b false))] s else .ret [(4,.v (.i .i64 211))] s
 | [],i,h=>by
  have h1:¬i<L.length:=Nat.not_lt.2 (drop_nil h)
  refine ⟨i,ak fun K hK=>?_⟩
  simp [jA,h1]
 | p::r,i,h=>by
  obtain ⟨h1,h2,h3,h4⟩:=drop_cons h
  have h5:=h4 h3
  have hpn:=hLn p (by rw [←h5];exact List.getElem_mem h3)
  have hwi:=wI (i:=i) (by omega)
  have hrow:rowA z L=.sl (L.map bG):=DK (by intro h;subst h;simp at h3)
  have e1:=Ky zt T hT X p.x s n hs
  have e2:=Ky zt T hT X p.y s n hs
  have e3:=Rf zl l hll hx p.name hpn.2
  have ha:FM l p.name=0:=by simp [FM,h0,hpn.1]
  rw [ha] at e3
  obtain ⟨j,ih⟩:=Wu h0 z L hL hLn X n hs A m i0 r (i+1) h2
  rw [hrow] at ih ⊢
  refine ⟨j,ak fun K hK=>?_⟩
  rw [←hK,show ((i+1:Nat):Int)=(i:Int)+1 from rfl] at ih
  clear hK h4 hx hLn hs ha h0
  have hbad:ZN l T p=(decide (p.kind=2) && (Ib T p.x || Ib T p.y) && !zZ l p.name):=rfl
  rw [List.all_cons]
  generalize Ib T p.x=hx1 at *
  generalize Ib T p.y=hy1 at *
  generalize zZ l p.name=sm at *
  by_cases k2:p.kind=2
  ·rw [decide_eq_true k2,Bool.true_and] at hbad
   cases hx1<;>cases hy1<;>cases sm<;>(try simp only [Bool.or_self,Bool.or_true,Bool.true_or,Bool.or_false,Bool.false_or,Bool.not_true,Bool.not_false,Bool.and_true,Bool.and_false,Bool.false_and,Bool.true_and] at hbad)<;>rw [hbad] <;>
    (try simp only [Bool.not_true,Bool.not_false,Bool.true_and,Bool.false_and])<;>(try rw [←ih])<;>simp [jA,h3,h5,hwi,bG,k2,e1,e2,e3,splice]
  ·rw [decide_eq_false k2,Bool.false_and,Bool.false_and] at hbad
   rw [hbad,Bool.not_false,Bool.true_and,←ih]
   simp [jA,h3,h5,hwi,bG,k2,splice]
include hl hb hn
theorem Wv (h0:wJ l=0) (X:AV) (n:Nat) (hs:s[n]?=some (.cells [slf zt (T.map .s),X])):∀(rest:List (Bool×List At)) (i:Nat),ps.drop i=rest→
  ∃j:Int,bF (ay P0.glob (aj P0) cx false jB) [1,2,27,28,29]
   [(1,.v (slf zl (l.map wH))),(2,.v (.pt n 0)),(27,.v (slf zp (ps.map encPt))),(28,.v (.i .i64 ps.length)),(29,.v (.i .i64 i))] s=
   if rest.all (fun p=>p.2.all fun a=>!ZN l T a)=true then .exit 2 [(1,.v (slf zl (l.map wH))),(2,.v (.pt n 0)),(27,.v (slf zp (ps.map encPt))),(28,.v (.i .i64 ps.length)),(29,.v (.i .i64 j)),(30,.v (.b false))] s else .ret [(4,.v (.i .i64 211))] s
 | [],i,h=>by
  have h1:¬i<ps.length:=Nat.not_lt.2 (drop_nil h)
  refine ⟨i,ak fun K hK=>?_⟩
  simp [jB,h1]
 | p::r,i,h=>by
  obtain ⟨h1,h2,h3,h4⟩:=drop_cons h
  have h5:=h4 h3
  have hp:p∈ps:=by rw [←h5];exact List.getElem_mem h3
  have hwi:=wI (i:=i) (by omega)
  obtain ⟨j,ih⟩:=Wv h0 X n hs r (i+1) h2
  obtain ⟨j2,h6⟩:=Wu zl l hll hx zt T hT s cx h0 p.1 p.2 (hb p hp) (hn p hp) X n hs (slf zp (ps.map encPt)) ps.length i p.2 0 rfl
  refine ⟨j,ak fun K hK=>?_⟩
  rw [←hK,show ((i+1:Nat):Int)=(i:Int)+1 from rfl] at ih
  rw [show ((0:Nat):Int)=0 from rfl] at h6
  clear hK h4 hx hn hb hs
  rw [List.all_cons]
  by_cases hv:(p.2.all fun a=>!ZN l T a)=true
  ·rw [if_pos hv] at h6
   rw [hv,Bool.true_and,←ih]
   simp [jB,h3,h5,hwi,h6,splice]
  ·rw [if_neg hv] at h6
   rw [Bool.not_eq_true] at hv
   rw [hv,Bool.false_and]
   simp [jB,h3,h5,hwi,h6,splice]
def acp (l:List Ax) (T:List (List UInt8)) (ps:List (Bool×List At)):Int:=
 if wJ l=0 then (if ps.all (fun p=>p.2.all fun a=>!ZN l T a)=true then 0 else 211) else wJ l
theorem X7:aj P0 (.fn (.func nS) [] []) [xQ zt T zp ps,slf zl (l.map wH)] s cx=.ret (.i .i64 (acp l T ps)) s:=by
 have hs:(s++[dJ.cells [slf zt (T.map .s),slf zp (ps.map encPt)]])[s.length]?=some (.cells [slf zt (T.map .s),slf zp (ps.map encPt)]):=by simp
 obtain ⟨j,h1⟩:=Wx zl l hll hx (s++[dJ.cells [slf zt (T.map .s),slf zp (ps.map encPt)]]) ⟨cx.lim,s.length⟩ s.length l 0 rfl
 rw [show ((0:Nat):Int)=0 from rfl] at h1
 refine JU (by simp) ?_
 unfold acp xQ
 by_cases h0:wJ l=0
 ·obtain ⟨j2,h2⟩:=Wv zl l hll hx zt T hT zp ps hl hb hn (s++[dJ.cells [slf zt (T.map .s),slf zp (ps.map encPt)]]) ⟨cx.lim,s.length⟩ h0 (slf zp (ps.map encPt)) s.length hs ps 0 rfl
  rw [show ((0:Nat):Int)=0 from rfl] at h2
  rw [if_pos h0] at h1 ⊢
  by_cases hv:(ps.all fun p=>p.2.all fun a=>!ZN l T a)=true
  ·rw [if_pos hv] at h2 ⊢
   simp [af,jJ,h1,h2]
  ·rw [if_neg hv] at h2 ⊢
   simp [af,jJ,h1,h2]
 ·rw [if_neg h0] at h1 ⊢
  simp [af,jJ,h1]
omit hn
def NJ:List At→Int
 | []=>0
 | a::r=>if atE a=0 then NJ r else atE a
def Gh:List (Bool×List At)→Int
 | []=>0
 | p::r=>if NJ p.2=0 then Gh r else NJ p.2
omit hll hx hT hl hb
theorem YZ (z:Bool) (L:List At) (hL:L.length≤1000) (ho:∀a∈L,a.Ok0) (A B C:AV) (cs:List AV) (m i0:Int):∀(rest:List At) (i:Nat),L.drop i=rest→
  ∃j:Int,bF (ay P0.glob (aj P0) cx false oW) [1,2,17,18,19,24,25,26]
   [(1,.v A),(2,.bx cs),(17,.v B),(18,.v (.i .i64 m)),(19,.v (.i .i64 i0)),(24,.v (rowA z L)),(25,.v (.i .i64 L.length)),(26,.v (.i .i64 i))] s=
   if NJ rest=0 then .exit 2 [(1,.v A),(2,.bx cs),(17,.v B),(18,.v (.i .i64 m)),(19,.v (.i .i64 i0)),(24,.v (rowA z L)),(25,.v (.i .i64 L.length)),(26,.v (.i .i64 j)),(27,.v (.b false))] s else .ret [(4,.v (.i .i64 (NJ rest)))] s
 | [],i,h=>by
  have h1:¬i<L.length:=Nat.not_lt.2 (drop_nil h)
  refine ⟨i,ak fun K hK=>?_⟩
  simp [oW,h1,NJ]
 | p::r,i,h=>by
  obtain ⟨h1,h2,h3,h4⟩:=drop_cons h
  have h5:=h4 h3
  have hpo:=ho p (by rw [←h5];exact List.getElem_mem h3)
  have hwi:=wI (i:=i) (by omega)
  have hrow:rowA z L=.sl (L.map bG):=DK (by intro h;subst h;simp at h3)
  have e1:=NG p hpo
  obtain ⟨j,ih⟩:=YZ z L hL ho A B C cs m i0 r (i+1) h2
  rw [hrow] at ih ⊢
  refine ⟨j,ak fun K hK=>?_⟩
  rw [←hK,show ((i+1:Nat):Int)=(i:Int)+1 from rfl] at ih
  clear hK h4 ho
  simp only [bG] at e1
  by_cases k0:atE p=0
  ·rw [k0] at e1
   simp only [NJ,k0,if_true]
   rw [←ih]
   simp [oW,h3,h5,hwi,bG,e1,splice]
  ·simp only [NJ,k0,if_false]
   simp [oW,h3,h5,hwi,bG,e1,k0,splice]
include hl hb
variable (ho:∀p∈ps,∀a∈p.2,a.Ok0)
include ho
theorem Y0 (A:AV) (cs:List AV):∀(rest:List (Bool×List At)) (i:Nat),ps.drop i=rest→
  ∃j:Int,bF (ay P0.glob (aj P0) cx false oZ) [1,2,17,18,19]
   [(1,.v A),(2,.bx cs),(17,.v (slf zp (ps.map encPt))),(18,.v (.i .i64 ps.length)),(19,.v (.i .i64 i))] s=
   if Gh rest=0 then .exit 0 [(1,.v A),(2,.bx cs),(17,.v (slf zp (ps.map encPt))),(18,.v (.i .i64 ps.length)),(19,.v (.i .i64 j)),(20,.v (.b false))] s else .ret [(4,.v (.i .i64 (Gh rest)))] s
 | [],i,h=>by
  have h1:¬i<ps.length:=Nat.not_lt.2 (drop_nil h)
  refine ⟨i,ak fun K hK=>?_⟩
  simp [oZ,h1,Gh]
 | p::r,i,h=>by
  obtain ⟨h1,h2,h3,h4⟩:=drop_cons h
  have h5:=h4 h3
  have hp:p∈ps:=by rw [←h5];exact List.getElem_mem h3
  have hwi:=wI (i:=i) (by omega)
  obtain ⟨j,ih⟩:=Y0 A cs r (i+1) h2
  obtain ⟨j2,h6⟩:=YZ s cx p.1 p.2 (hb p hp) (ho p hp) A (slf zp (ps.map encPt)) A cs ps.length i p.2 0 rfl
  refine ⟨j,ak fun K hK=>?_⟩
  rw [←hK,show ((i+1:Nat):Int)=(i:Int)+1 from rfl] at ih
  rw [show ((0:Nat):Int)=0 from rfl] at h6
  clear hK h4 ho hb
  by_cases hv:NJ p.2=0
  ·rw [if_pos hv] at h6
   simp only [Gh,hv,if_true]
   rw [←ih]
   simp [oZ,h3,h5,hwi,h6,splice]
  ·rw [if_neg hv] at h6
   simp only [Gh,hv,if_false]
   simp [oZ,h3,h5,hwi,h6,splice]
omit ho
theorem YX (A:AV) (cs:List AV):∀(rest:List (Bool×List At)) (i:Nat),ps.drop i=rest→
  ∃j:Int,bF (ay P0.glob (aj P0) cx false oV) [1,2,43,44,45]
   [(1,.v A),(2,.bx cs),(43,.v (slf zp (ps.map encPt))),(44,.v (.i .i64 ps.length)),(45,.v (.i .i64 i))] s=
   if rest.all (fun p=>decide ((vrs p.2).length≤8))=true then .exit 4 [(1,.v A),(2,.bx cs),(43,.v (slf zp (ps.map encPt))),(44,.v (.i .i64 ps.length)),(45,.v (.i .i64 j)),(46,.v (.b false))] s else .ret [(4,.v (.i .i64 210))] s
 | [],i,h=>by
  have h1:¬i<ps.length:=Nat.not_lt.2 (drop_nil h)
  refine ⟨i,ak fun K hK=>?_⟩
  simp [oV,h1]
 | p::r,i,h=>by
  obtain ⟨h1,h2,h3,h4⟩:=drop_cons h
  have h5:=h4 h3
  have hp:p∈ps:=by rw [←h5];exact List.getElem_mem h3
  have hwi:=wI (i:=i) (by omega)
  have e1:=NH p (by have:=hb p hp;omega)
  obtain ⟨j,ih⟩:=YX A cs r (i+1) h2
  refine ⟨j,ak fun K hK=>?_⟩
  rw [←hK,show ((i+1:Nat):Int)=(i:Int)+1 from rfl] at ih
  clear hK h4 hb
  by_cases hv:(vrs p.2).length≤8
  ·have hv':¬(8:Int)<((vrs p.2).length:Nat):=by omega
   rw [List.all_cons,decide_eq_true hv,Bool.true_and,←ih]
   simp [oV,h3,h5,hwi,e1,hv',splice]
  ·have hv':(8:Int)<((vrs p.2).length:Nat):=by omega
   rw [List.all_cons,decide_eq_false hv,Bool.false_and]
   simp [oV,h3,h5,hwi,e1,hv',splice]
end
def chB (T:List (List UInt8)) (ps:List (Bool×List At)):Int:=
 if shE T ps≠0 then shE T ps else if Gh ps≠0 then Gh ps else if tdE T ps≠0 then tdE T ps else if ps.all (fun p=>decide ((vrs p.2).length≤8))=true then 0 else 210
def chE (l:List Ax) (T:List (List UInt8)) (ps:List (Bool×List At)):Int:=if chB T ps=0 then acp l T ps else chB T ps
theorem IZ:∀{L:List At},NJ L=0→∀a∈L,atE a=0
 | [],_,a,ha=>by cases ha
 | b::r,h,a,ha=>by
  simp only [NJ] at h
  split at h
  ·rename_i h0
   rcases List.mem_cons.1 ha with rfl|ha
   ·exact h0
   ·exact IZ h a ha
  ·rename_i h0;exact absurd h h0
theorem G6:∀{ps:List (Bool×List At)},Gh ps=0→∀p∈ps,NJ p.2=0
 | [],_,a,ha=>by cases ha
 | b::r,h,a,ha=>by
  simp only [Gh] at h
  split at h
  ·rename_i h0
   rcases List.mem_cons.1 ha with rfl|ha
   ·exact h0
   ·exact G6 h a ha
  ·rename_i h0;exact absurd h h0
theorem ZO {a:At} (h:atE a=0):zB a.name=true:=by
 cases hn:zB a.name
 ·exfalso
  unfold atE at h
  simp only [hn] at h
  revert h
  repeat' split
  all_goals simp_all
 ·rfl
theorem aeI {l:List UInt8} (h:Hy l=true):l.length≤24:=by
 unfold Hy at h
 rcases Bool.or_eq_true_iff.1 h with h|h
 ·unfold jc at h
  simp at h
  exact h.1
 ·unfold Gg at h
  simp at h
  omega
theorem afG {a:At} (h:atE a=0):Hy a.name=true∧a.name.length≤1000:=by
 have h1:=ZO h
 unfold zB at h1
 have h2:Hy a.name=true:=by
  unfold Hy
  simp at h1 ⊢
  exact h1.1
 exact ⟨h2,by have:=aeI h2;omega⟩
end Go.Ai.Z
namespace Go.Ai.Z
structure QOk (T:List (List UInt8)) (ps:List (Bool×List At)):Prop where
 t:T.length≤1125899906842624
 p:ps.length≤1125899906842624
 a:∀p∈ps,p.2.length≤1125899906842624
 o:∀p∈ps,∀a∈p.2,a.Ok0
theorem ad9 {T:List (List UInt8)} {ps:List (Bool×List At)} (h:shE T ps=0):(1≤ps.length∧ps.length≤4∧T.length≤3)∧∀p∈ps,1≤p.2.length∧p.2.length≤12:=by
 unfold shE at h
 split at h
 ·omega
 ·rename_i h1
  split at h
  ·rename_i h2
   refine ⟨by omega,fun p hp=>?_⟩
   have:=List.all_eq_true.1 h2 p hp
   simpa using this
  ·omega
theorem agS (zl:Bool) (l:List Ax) (hll:l.length≤100) (hx:∀x∈l,x.Lng) (zt:Bool) (T:List (List UInt8)) (zp:Bool) (ps:List (Bool×List At)) (hq:QOk T ps) (s:St) (cx:Ctx):
  aj P0 (.fn (.func mZ) [] []) [xQ zt T zp ps,slf zl (l.map wH)] s cx=.ret (.i .i64 (chE l T ps)) s:=by
 have e1:=X6 zt T zp ps hq.t hq.p hq.a
 refine Ux (by simp) ?_
 unfold chE chB
 by_cases h0:shE T ps=0
 ·obtain ⟨⟨a1,a2,a3⟩,a4⟩:=ad9 h0
  have hb:∀p∈ps,p.2.length≤1000:=fun p hp=>by have:=a4 p hp;omega
  obtain ⟨j1,h1⟩:=Y0 zp ps (by omega) hb s ⟨s.length,s.length⟩ hq.o (slf zl (l.map wH)) [slf zt (T.map .s),slf zp (ps.map encPt)] ps 0 rfl
  rw [show ((0:Nat):Int)=0 from rfl] at h1
  by_cases h2:Gh ps=0
  ·rw [if_pos h2] at h1
   have e2:=Zz zt T (by omega) zp ps (by omega) hb
   by_cases h3:tdE T ps=0
   ·obtain ⟨j2,h4⟩:=YX zp ps (by omega) hb s ⟨s.length,s.length⟩ (slf zl (l.map wH)) [slf zt (T.map .s),slf zp (ps.map encPt)] ps 0 rfl
    rw [show ((0:Nat):Int)=0 from rfl] at h4
    by_cases h5:(ps.all fun p=>decide ((vrs p.2).length≤8))=true
    ·rw [if_pos h5] at h4
     have e3:=X7 zl l hll hx zt T (by omega) zp ps (by omega) hb fun p hp a ha=>afG (IZ (G6 h2 p hp) a ha)
     rw [h0] at e1
     rw [h3] at e2
     simp only [xQ] at e1 e2 e3
     simp only [h0,h2,h3,h5,ne_eq,not_true_eq_false,if_false,if_true]
     simp [af,lG,xQ,e1,e2,e3,h1,h4]
    ·rw [if_neg h5] at h4
     rw [h0] at e1
     rw [h3] at e2
     simp only [xQ] at e1 e2
     simp only [h0,h2,h3,h5,ne_eq,not_true_eq_false,if_false,if_true]
     simp [af,lG,xQ,e1,e2,h1,h4]
   ·rw [h0] at e1
    simp only [xQ] at e1 e2
    simp only [h0,h2,h3,ne_eq,not_true_eq_false,not_false_eq_true,if_false,if_true]
    simp [af,lG,xQ,e1,e2,h1,h3]
  ·rw [if_neg h2] at h1
   rw [h0] at e1
   simp only [xQ] at e1
   simp only [h0,h2,ne_eq,not_true_eq_false,not_false_eq_true,if_false,if_true]
   simp [af,lG,xQ,e1,h1]
 ·simp only [xQ] at e1
  simp only [h0,ne_eq,not_false_eq_true,if_true,if_false]
  simp [af,lG,xQ,e1,h0]
theorem abV {T:List (List UInt8)} {ps:List (Bool×List At)} (h:chB T ps=0):shE T ps=0∧Gh ps=0∧tdE T ps=0∧∀p∈ps,(vrs p.2).length≤8:=by
 unfold chB at h
 by_cases h1:shE T ps=0
 ·by_cases h2:Gh ps=0
  ·by_cases h3:tdE T ps=0
   ·by_cases h5:(ps.all fun p=>decide ((vrs p.2).length≤8))=true
    ·exact ⟨h1,h2,h3,fun p hp=>by have:=List.all_eq_true.1 h5 p hp;simpa using this⟩
    ·simp only [h1,h2,h3,h5,ne_eq,not_true_eq_false,if_false] at h;exact absurd h (by decide)
   ·simp only [h1,h2,h3,ne_eq,not_true_eq_false,not_false_eq_true,if_false,if_true] at h
  ·simp only [h1,h2,ne_eq,not_true_eq_false,not_false_eq_true,if_false,if_true] at h
 ·simp only [h1,ne_eq,not_false_eq_true,if_true] at h
theorem aiu {T:List (List UInt8)} {ps:List (Bool×List At)} (h:chB T ps=0):∀p∈ps,∀a∈p.2,atE a=0∧Hy a.name=true∧a.name.length≤1000:=fun p hp a ha=>
 have h1:=IZ (G6 (abV h).2.1 p hp) a ha
 ⟨h1,afG h1⟩
theorem aei {T:List (List UInt8)} {ps:List (Bool×List At)} (h:chB T ps=0):acp [] T ps=0:=by
 unfold acp
 rw [if_pos (show wJ []=0 from rfl),if_pos]
 refine List.all_eq_true.2 fun p hp=>List.all_eq_true.2 fun a ha=>?_
 have h1:=(aiu h p hp a ha).2.1
 have h2:zZ [] a.name=true:=by simp [zZ,wJ,h1]
 simp [ZN,h2]
theorem agL (T:List (List UInt8)) (ps:List (Bool×List At)):chE [] T ps=chB T ps:=by
 unfold chE
 split
 ·rename_i h;rw [aei h,h]
 ·rfl
theorem UZ (zt:Bool) (T:List (List UInt8)) (zp:Bool) (ps:List (Bool×List At)) (hq:QOk T ps) (s:St) (cx:Ctx):
  aj P0 (.fn (.func mZ) [] []) [xQ zt T zp ps,.ns] s cx=.ret (.i .i64 (chB T ps)) s:=by
 have h:=agS true [] (by simp) (by simp) zt T zp ps hq s cx
 rw [agL] at h
 exact h
end Go.Ai.Z
namespace Go.Ai.Z
end Go.Ai.Z
