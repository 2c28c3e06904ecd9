/-
 The texts of axioms in ontology documents.
-/
import Derived.Test.YtcofenimejmoeaaGreatDoorAiOW1OW2OW3
import Derived.Test.YtcofenimejmoeaaGreatDoorAiR61R62R63K13
set_option maxRecDepth 100000
set_option linter.unusedSimpArgs false
set_option linter.unusedVariables false
set_option linter.unusedSectionVars false
namespace Go.Ai.Z
def bI:List UInt8:=[65,110,110,111,116,97,116,105,111,110,40,58,111,112,101,110,32,34,116,114,117,101,34,41]
def aX (x:Ax):List (List UInt8):=if x.op=true then [bI] else []
def Ae (k:Int):List UInt8:=
 if k=1 then [83,117,98,67,108,97,115,115,79,102]
 else if k=2 then [69,113,117,105,118,97,108,101,110,116,67,108,97,115,115,101,115]
 else if k=3 then [68,105,115,106,111,105,110,116,67,108,97,115,115,101,115]
 else if k=4 then [79,98,106,101,99,116,80,114,111,112,101,114,116,121,68,111,109,97,105,110]
 else if k=5 then [83,117,98,79,98,106,101,99,116,80,114,111,112,101,114,116,121,79,102]
 else if k=6 then [83,117,98,79,98,106,101,99,116,80,114,111,112,101,114,116,121,79,102]
 else if k=7 then [82,101,102,108,101,120,105,118,101,79,98,106,101,99,116,80,114,111,112,101,114,116,121]
 else if k=8 then [67,108,97,115,115,65,115,115,101,114,116,105,111,110]
 else [79,98,106,101,99,116,80,114,111,112,101,114,116,121,65,115,115,101,114,116,105,111,110]
def yA (x:Ax):List (List UInt8):=
 if x.kind=1 then [owC x.left,owC x.right]
 else if x.kind=2 then [owC x.left,owC x.right]
 else if x.kind=3 then [owC x.left,owC x.right]
 else if x.kind=4 then [owN x.role,owC x.right]
 else if x.kind=5 then [owN (x.roles.headD []),owN x.role]
 else if x.kind=6 then [dL [79,98,106,101,99,116,80,114,111,112,101,114,116,121,67,104,97,105,110] (x.roles.map owN),owN x.role]
 else if x.kind=7 then [owN x.role]
 else if x.kind=8 then [owC x.right,owN x.a]
 else [owN x.role,owN x.a,owN x.b]
def owA (x:Ax):List UInt8:=dL (Ae x.kind) (aX x++yA x)
theorem su {c:C} (hw:wC c≤150) (hv:ji c=0):(owC c).length≤45000:=by have:=I8 c hv;omega
theorem EJ (s:St) (cx:Ctx) (z:Bool) (roles:List (List UInt8)) (hl:roles.length≤600) (hb:∀r∈roles,r.length≤600) (V1 V4:List AV):
  ∀(rest:List (List UInt8)) (i:Nat) (t:List (List UInt8)),roles.drop i=rest→t.length=i→
  ∃j:Int,eX (au P0.glob (ai P0) cx false tV) [1,4,5,75,76,77] [(1,.bx V1),(4,.own false ak 1 V4),(5,.own false ak 1 (t.map .s)),(75,.v (slf z (roles.map .s))),(76,.v (.i .i64 roles.length)),(77,.v (.i .i64 i))] s=
   .exit 1 [(1,.bx V1),(4,.own false ak 1 V4),(5,.own false ak 1 ((t++rest.map owN).map .s)),(75,.v (slf z (roles.map .s))),(76,.v (.i .i64 roles.length)),(77,.v (.i .i64 j)),(78,.v (.b false))] s
 | [],i,t,h,ht=>by
  have h1:¬i<roles.length:=Nat.not_lt.2 (drop_nil h)
  refine ⟨i,aj fun K hK=>?_⟩
  simp [tV,h1]
 | p::r,i,t,h,ht=>by
  obtain ⟨h1,h2,h3,h4⟩:=drop_cons h
  have h5:=h4 h3
  have hp:p∈roles:=by rw [←h5];exact List.getElem_mem h3
  have hwi:=wI (i:=i) (by omega)
  have hpl:=hb p hp
  obtain ⟨j,ih2⟩:=EJ s cx z roles hl hb V1 V4 r (i+1) (t++[owN p]) h2 (by simp [ht])
  refine ⟨j,aj fun K hK=>?_⟩
  rw [←hK] at ih2
  have e1:=bK p (by omega)
  clear hK h4
  simp at ih2
  have hm:t.length+1≤aP:=by unfold aP;omega
  simp [tV,h3,h5,hwi,e1,hm,ih2,List.range_succ]
theorem abW (x:Ax) (hx:x.Few) (hg:x.Good) (k:x.kind=1) (s:St) (cx:Ctx):ai P0 (.fn (.func iE) [] []) [dD x] s cx=.ret (.s (owA x)) s:=by
 have hs1:1≤aP:=by decide
 have hs2:2≤aP:=by decide
 have hs3:3≤aP:=by decide
 have hs4:4≤aP:=by decide
 have a1:=aK x.role
 have a2:=aK x.a
 have a3:=aK x.b
 have b1:=hx.role
 have b2:=hx.a
 have b3:=hx.b
 have e1:=bK x.role (by omega)
 have e2:=bK x.a (by omega)
 have e3:=bK x.b (by omega)
 have vl:=hg.l (by simp [k])
 have cl:=kL x.left (by have:=hx.l;omega) vl
 have ll:=su hx.l vl
 have vr:=hg.r (by simp [k])
 have cr:=kL x.right (by have:=hx.r;omega) vr
 have lr:=su hx.r vr
 have ho:owA x=dL [83,117,98,67,108,97,115,115,79,102] (aX x++[owC x.left,owC x.right]):=by
  unfold owA Ae yA
  simp [k]
 rw [ho]
 cases hop:x.op
 ·have hn:aX x=[]:=by unfold aX;rw [hop];rfl
  rw [hn]
  have ec:=dK [83,117,98,67,108,97,115,115,79,102] ([]++[owC x.left,owC x.right]) (by decide) (by simp [joinL,bI];omega) (by simp)
  simp [bI] at ec ⊢
  refine dS (by simp) ?_
  simp -implicitDefEqProofs [af,dw,dD,cellsA,k,hop,e1,e2,e3,ec,List.range_succ,hs1,hs2,hs3,hs4,cl,cr]
 ·have hn:aX x=[bI]:=by unfold aX;rw [hop];rfl
  rw [hn]
  have ec:=dK [83,117,98,67,108,97,115,115,79,102] ([bI]++[owC x.left,owC x.right]) (by decide) (by simp [joinL,bI];omega) (by simp)
  simp [bI] at ec ⊢
  refine dS (by simp) ?_
  simp -implicitDefEqProofs [af,dw,dD,cellsA,k,hop,e1,e2,e3,ec,List.range_succ,hs1,hs2,hs3,hs4,cl,cr]
theorem abV (x:Ax) (hx:x.Few) (hg:x.Good) (k:x.kind=2) (s:St) (cx:Ctx):ai P0 (.fn (.func iE) [] []) [dD x] s cx=.ret (.s (owA x)) s:=by
 have hs1:1≤aP:=by decide
 have hs2:2≤aP:=by decide
 have hs3:3≤aP:=by decide
 have hs4:4≤aP:=by decide
 have a1:=aK x.role
 have a2:=aK x.a
 have a3:=aK x.b
 have b1:=hx.role
 have b2:=hx.a
 have b3:=hx.b
 have e1:=bK x.role (by omega)
 have e2:=bK x.a (by omega)
 have e3:=bK x.b (by omega)
 have vl:=hg.l (by simp [k])
 have cl:=kL x.left (by have:=hx.l;omega) vl
 have ll:=su hx.l vl
 have vr:=hg.r (by simp [k])
 have cr:=kL x.right (by have:=hx.r;omega) vr
 have lr:=su hx.r vr
 have ho:owA x=dL [69,113,117,105,118,97,108,101,110,116,67,108,97,115,115,101,115] (aX x++[owC x.left,owC x.right]):=by
  unfold owA Ae yA
  simp [k]
 rw [ho]
 cases hop:x.op
 ·have hn:aX x=[]:=by unfold aX;rw [hop];rfl
  rw [hn]
  have ec:=dK [69,113,117,105,118,97,108,101,110,116,67,108,97,115,115,101,115] ([]++[owC x.left,owC x.right]) (by decide) (by simp [joinL,bI];omega) (by simp)
  simp [bI] at ec ⊢
  refine dS (by simp) ?_
  simp -implicitDefEqProofs [af,dw,dD,cellsA,k,hop,e1,e2,e3,ec,List.range_succ,hs1,hs2,hs3,hs4,cl,cr]
 ·have hn:aX x=[bI]:=by unfold aX;rw [hop];rfl
  rw [hn]
  have ec:=dK [69,113,117,105,118,97,108,101,110,116,67,108,97,115,115,101,115] ([bI]++[owC x.left,owC x.right]) (by decide) (by simp [joinL,bI];omega) (by simp)
  simp [bI] at ec ⊢
  refine dS (by simp) ?_
  simp -implicitDefEqProofs [af,dw,dD,cellsA,k,hop,e1,e2,e3,ec,List.range_succ,hs1,hs2,hs3,hs4,cl,cr]
theorem abU (x:Ax) (hx:x.Few) (hg:x.Good) (k:x.kind=3) (s:St) (cx:Ctx):ai P0 (.fn (.func iE) [] []) [dD x] s cx=.ret (.s (owA x)) s:=by
 have hs1:1≤aP:=by decide
 have hs2:2≤aP:=by decide
 have hs3:3≤aP:=by decide
 have hs4:4≤aP:=by decide
 have a1:=aK x.role
 have a2:=aK x.a
 have a3:=aK x.b
 have b1:=hx.role
 have b2:=hx.a
 have b3:=hx.b
 have e1:=bK x.role (by omega)
 have e2:=bK x.a (by omega)
 have e3:=bK x.b (by omega)
 have vl:=hg.l (by simp [k])
 have cl:=kL x.left (by have:=hx.l;omega) vl
 have ll:=su hx.l vl
 have vr:=hg.r (by simp [k])
 have cr:=kL x.right (by have:=hx.r;omega) vr
 have lr:=su hx.r vr
 have ho:owA x=dL [68,105,115,106,111,105,110,116,67,108,97,115,115,101,115] (aX x++[owC x.left,owC x.right]):=by
  unfold owA Ae yA
  simp [k]
 rw [ho]
 cases hop:x.op
 ·have hn:aX x=[]:=by unfold aX;rw [hop];rfl
  rw [hn]
  have ec:=dK [68,105,115,106,111,105,110,116,67,108,97,115,115,101,115] ([]++[owC x.left,owC x.right]) (by decide) (by simp [joinL,bI];omega) (by simp)
  simp [bI] at ec ⊢
  refine dS (by simp) ?_
  simp -implicitDefEqProofs [af,dw,dD,cellsA,k,hop,e1,e2,e3,ec,List.range_succ,hs1,hs2,hs3,hs4,cl,cr]
 ·have hn:aX x=[bI]:=by unfold aX;rw [hop];rfl
  rw [hn]
  have ec:=dK [68,105,115,106,111,105,110,116,67,108,97,115,115,101,115] ([bI]++[owC x.left,owC x.right]) (by decide) (by simp [joinL,bI];omega) (by simp)
  simp [bI] at ec ⊢
  refine dS (by simp) ?_
  simp -implicitDefEqProofs [af,dw,dD,cellsA,k,hop,e1,e2,e3,ec,List.range_succ,hs1,hs2,hs3,hs4,cl,cr]
theorem abT (x:Ax) (hx:x.Few) (hg:x.Good) (k:x.kind=4) (s:St) (cx:Ctx):ai P0 (.fn (.func iE) [] []) [dD x] s cx=.ret (.s (owA x)) s:=by
 have hs1:1≤aP:=by decide
 have hs2:2≤aP:=by decide
 have hs3:3≤aP:=by decide
 have hs4:4≤aP:=by decide
 have a1:=aK x.role
 have a2:=aK x.a
 have a3:=aK x.b
 have b1:=hx.role
 have b2:=hx.a
 have b3:=hx.b
 have e1:=bK x.role (by omega)
 have e2:=bK x.a (by omega)
 have e3:=bK x.b (by omega)
 have vr:=hg.r (by simp [k])
 have cr:=kL x.right (by have:=hx.r;omega) vr
 have lr:=su hx.r vr
 have ho:owA x=dL [79,98,106,101,99,116,80,114,111,112,101,114,116,121,68,111,109,97,105,110] (aX x++[owN x.role,owC x.right]):=by
  unfold owA Ae yA
  simp [k]
 rw [ho]
 cases hop:x.op
 ·have hn:aX x=[]:=by unfold aX;rw [hop];rfl
  rw [hn]
  have ec:=dK [79,98,106,101,99,116,80,114,111,112,101,114,116,121,68,111,109,97,105,110] ([]++[owN x.role,owC x.right]) (by decide) (by simp [joinL,bI];omega) (by simp)
  simp [bI] at ec ⊢
  refine dS (by simp) ?_
  simp -implicitDefEqProofs [af,dw,dD,cellsA,k,hop,e1,e2,e3,ec,List.range_succ,hs1,hs2,hs3,hs4,cr]
 ·have hn:aX x=[bI]:=by unfold aX;rw [hop];rfl
  rw [hn]
  have ec:=dK [79,98,106,101,99,116,80,114,111,112,101,114,116,121,68,111,109,97,105,110] ([bI]++[owN x.role,owC x.right]) (by decide) (by simp [joinL,bI];omega) (by simp)
  simp [bI] at ec ⊢
  refine dS (by simp) ?_
  simp -implicitDefEqProofs [af,dw,dD,cellsA,k,hop,e1,e2,e3,ec,List.range_succ,hs1,hs2,hs3,hs4,cr]
theorem abS (x:Ax) (hx:x.Few) (hg:x.Good) (k:x.kind=5) (s:St) (cx:Ctx):ai P0 (.fn (.func iE) [] []) [dD x] s cx=.ret (.s (owA x)) s:=by
 have hs1:1≤aP:=by decide
 have hs2:2≤aP:=by decide
 have hs3:3≤aP:=by decide
 have hs4:4≤aP:=by decide
 have a1:=aK x.role
 have a2:=aK x.a
 have a3:=aK x.b
 have b1:=hx.role
 have b2:=hx.a
 have b3:=hx.b
 have e1:=bK x.role (by omega)
 have e2:=bK x.a (by omega)
 have e3:=bK x.b (by omega)
 obtain ⟨r0,hr0⟩:∃r0,x.roles=[r0]:=by
  have:=hg.r5 k
  match hh:x.roles,this with
  | [r0],_=>exact ⟨r0,rfl⟩
 have br:=hx.rs r0 (by rw [hr0];simp)
 have ar:=aK r0
 have e4:=bK r0 (by omega)
 have ho:owA x=dL [83,117,98,79,98,106,101,99,116,80,114,111,112,101,114,116,121,79,102] (aX x++[owN (x.roles.headD []),owN x.role]):=by
  unfold owA Ae yA
  simp [k]
 rw [ho]
 cases hop:x.op
 ·have hn:aX x=[]:=by unfold aX;rw [hop];rfl
  rw [hn]
  rw [hr0]
  simp only [List.headD_cons]
  have ec:=dK [83,117,98,79,98,106,101,99,116,80,114,111,112,101,114,116,121,79,102] ([]++[owN (r0),owN x.role]) (by decide) (by simp [joinL,bI];omega) (by simp)
  simp [bI] at ec ⊢
  refine dS (by simp) ?_
  simp -implicitDefEqProofs [af,dw,dD,cellsA,k,hop,e1,e2,e3,ec,List.range_succ,hs1,hs2,hs3,hs4,hr0,e4]
 ·have hn:aX x=[bI]:=by unfold aX;rw [hop];rfl
  rw [hn]
  rw [hr0]
  simp only [List.headD_cons]
  have ec:=dK [83,117,98,79,98,106,101,99,116,80,114,111,112,101,114,116,121,79,102] ([bI]++[owN (r0),owN x.role]) (by decide) (by simp [joinL,bI];omega) (by simp)
  simp [bI] at ec ⊢
  refine dS (by simp) ?_
  simp -implicitDefEqProofs [af,dw,dD,cellsA,k,hop,e1,e2,e3,ec,List.range_succ,hs1,hs2,hs3,hs4,hr0,e4]
theorem abR (x:Ax) (hx:x.Few) (hg:x.Good) (k:x.kind=6) (s:St) (cx:Ctx):ai P0 (.fn (.func iE) [] []) [dD x] s cx=.ret (.s (owA x)) s:=by
 have hs1:1≤aP:=by decide
 have hs2:2≤aP:=by decide
 have hs3:3≤aP:=by decide
 have hs4:4≤aP:=by decide
 have a1:=aK x.role
 have a2:=aK x.a
 have a3:=aK x.b
 have b1:=hx.role
 have b2:=hx.a
 have b3:=hx.b
 have e1:=bK x.role (by omega)
 have e2:=bK x.a (by omega)
 have e3:=bK x.b (by omega)
 have ho:owA x=dL [83,117,98,79,98,106,101,99,116,80,114,111,112,101,114,116,121,79,102] (aX x++[dL [79,98,106,101,99,116,80,114,111,112,101,114,116,121,67,104,97,105,110] (x.roles.map owN),owN x.role]):=by
  unfold owA Ae yA
  simp [k]
 rw [ho]
 obtain ⟨h2,h4⟩:=hg.r6 k
 have hj:=EK (x.roles.map owN) [32]
 have hsum:((x.roles.map owN).map fun y=>y.length+([32]:List UInt8).length).sum≤602 * x.roles.length:=by
  have hb:=hx.rs
  clear hj h2 h4 ho
  generalize x.roles=l at hb
  induction l with
  | nil=>simp
  | cons a r ih=>
   have q1:=hb a (by simp)
   have q2:=ih (fun p hp=>hb p (by simp [hp]))
   have q3:=aK a
   simp at q2 ⊢
   omega
 have e5:=dK [79,98,106,101,99,116,80,114,111,112,101,114,116,121,67,104,97,105,110] (x.roles.map owN) (by decide) (by omega) (by simp;omega)
 have hcl:(dL [79,98,106,101,99,116,80,114,111,112,101,114,116,121,67,104,97,105,110] (x.roles.map owN)).length≤10000:=by unfold dL;simp;omega
 generalize dL [79,98,106,101,99,116,80,114,111,112,101,114,116,121,67,104,97,105,110] (x.roles.map owN)=CH at *
 cases hop:x.op
 ·have hn:aX x=[]:=by unfold aX;rw [hop];rfl
  rw [hn]
  obtain ⟨j,h⟩:=EJ s ⟨s.length,s.length⟩ x.z x.roles (by omega) hx.rs (cellsA x) [] x.roles 0 [] rfl rfl
  have ec:=dK [83,117,98,79,98,106,101,99,116,80,114,111,112,101,114,116,121,79,102] ([]++[CH,owN x.role]) (by decide) (by simp [joinL,bI];omega) (by simp)
  simp [bI,cellsA,k,hop] at h
  simp [bI] at ec e5 ⊢
  refine dS (by simp) ?_
  simp -implicitDefEqProofs [af,dw,dD,cellsA,k,hop,e1,e5,ec,h,List.range_succ,hs1,hs2,hs3,hs4]
 ·have hn:aX x=[bI]:=by unfold aX;rw [hop];rfl
  rw [hn]
  obtain ⟨j,h⟩:=EJ s ⟨s.length,s.length⟩ x.z x.roles (by omega) hx.rs (cellsA x) [.s bI] x.roles 0 [] rfl rfl
  have ec:=dK [83,117,98,79,98,106,101,99,116,80,114,111,112,101,114,116,121,79,102] ([bI]++[CH,owN x.role]) (by decide) (by simp [joinL,bI];omega) (by simp)
  simp [bI,cellsA,k,hop] at h
  simp [bI] at ec e5 ⊢
  refine dS (by simp) ?_
  simp -implicitDefEqProofs [af,dw,dD,cellsA,k,hop,e1,e5,ec,h,List.range_succ,hs1,hs2,hs3,hs4]
theorem abQ (x:Ax) (hx:x.Few) (hg:x.Good) (k:x.kind=7) (s:St) (cx:Ctx):ai P0 (.fn (.func iE) [] []) [dD x] s cx=.ret (.s (owA x)) s:=by
 have hs1:1≤aP:=by decide
 have hs2:2≤aP:=by decide
 have hs3:3≤aP:=by decide
 have hs4:4≤aP:=by decide
 have a1:=aK x.role
 have a2:=aK x.a
 have a3:=aK x.b
 have b1:=hx.role
 have b2:=hx.a
 have b3:=hx.b
 have e1:=bK x.role (by omega)
 have e2:=bK x.a (by omega)
 have e3:=bK x.b (by omega)
 have ho:owA x=dL [82,101,102,108,101,120,105,118,101,79,98,106,101,99,116,80,114,111,112,101,114,116,121] (aX x++[owN x.role]):=by
  unfold owA Ae yA
  simp [k]
 rw [ho]
 cases hop:x.op
 ·have hn:aX x=[]:=by unfold aX;rw [hop];rfl
  rw [hn]
  have ec:=dK [82,101,102,108,101,120,105,118,101,79,98,106,101,99,116,80,114,111,112,101,114,116,121] ([]++[owN x.role]) (by decide) (by simp [joinL,bI];omega) (by simp)
  simp [bI] at ec ⊢
  refine dS (by simp) ?_
  simp -implicitDefEqProofs [af,dw,dD,cellsA,k,hop,e1,e2,e3,ec,List.range_succ,hs1,hs2,hs3,hs4]
 ·have hn:aX x=[bI]:=by unfold aX;rw [hop];rfl
  rw [hn]
  have ec:=dK [82,101,102,108,101,120,105,118,101,79,98,106,101,99,116,80,114,111,112,101,114,116,121] ([bI]++[owN x.role]) (by decide) (by simp [joinL,bI];omega) (by simp)
  simp [bI] at ec ⊢
  refine dS (by simp) ?_
  simp -implicitDefEqProofs [af,dw,dD,cellsA,k,hop,e1,e2,e3,ec,List.range_succ,hs1,hs2,hs3,hs4]
theorem abP (x:Ax) (hx:x.Few) (hg:x.Good) (k:x.kind=8) (s:St) (cx:Ctx):ai P0 (.fn (.func iE) [] []) [dD x] s cx=.ret (.s (owA x)) s:=by
 have hs1:1≤aP:=by decide
 have hs2:2≤aP:=by decide
 have hs3:3≤aP:=by decide
 have hs4:4≤aP:=by decide
 have a1:=aK x.role
 have a2:=aK x.a
 have a3:=aK x.b
 have b1:=hx.role
 have b2:=hx.a
 have b3:=hx.b
 have e1:=bK x.role (by omega)
 have e2:=bK x.a (by omega)
 have e3:=bK x.b (by omega)
 have vr:=hg.r (by simp [k])
 have cr:=kL x.right (by have:=hx.r;omega) vr
 have lr:=su hx.r vr
 have ho:owA x=dL [67,108,97,115,115,65,115,115,101,114,116,105,111,110] (aX x++[owC x.right,owN x.a]):=by
  unfold owA Ae yA
  simp [k]
 rw [ho]
 cases hop:x.op
 ·have hn:aX x=[]:=by unfold aX;rw [hop];rfl
  rw [hn]
  have ec:=dK [67,108,97,115,115,65,115,115,101,114,116,105,111,110] ([]++[owC x.right,owN x.a]) (by decide) (by simp [joinL,bI];omega) (by simp)
  simp [bI] at ec ⊢
  refine dS (by simp) ?_
  simp -implicitDefEqProofs [af,dw,dD,cellsA,k,hop,e1,e2,e3,ec,List.range_succ,hs1,hs2,hs3,hs4,cr]
 ·have hn:aX x=[bI]:=by unfold aX;rw [hop];rfl
  rw [hn]
  have ec:=dK [67,108,97,115,115,65,115,115,101,114,116,105,111,110] ([bI]++[owC x.right,owN x.a]) (by decide) (by simp [joinL,bI];omega) (by simp)
  simp [bI] at ec ⊢
  refine dS (by simp) ?_
  simp -implicitDefEqProofs [af,dw,dD,cellsA,k,hop,e1,e2,e3,ec,List.range_succ,hs1,hs2,hs3,hs4,cr]
theorem abO (x:Ax) (hx:x.Few) (hg:x.Good) (k:x.kind=9) (s:St) (cx:Ctx):ai P0 (.fn (.func iE) [] []) [dD x] s cx=.ret (.s (owA x)) s:=by
 have hs1:1≤aP:=by decide
 have hs2:2≤aP:=by decide
 have hs3:3≤aP:=by decide
 have hs4:4≤aP:=by decide
 have a1:=aK x.role
 have a2:=aK x.a
 have a3:=aK x.b
 have b1:=hx.role
 have b2:=hx.a
 have b3:=hx.b
 have e1:=bK x.role (by omega)
 have e2:=bK x.a (by omega)
 have e3:=bK x.b (by omega)
 have ho:owA x=dL [79,98,106,101,99,116,80,114,111,112,101,114,116,121,65,115,115,101,114,116,105,111,110] (aX x++[owN x.role,owN x.a,owN x.b]):=by
  unfold owA Ae yA
  simp [k]
 rw [ho]
 cases hop:x.op
 ·have hn:aX x=[]:=by unfold aX;rw [hop];rfl
  rw [hn]
  have ec:=dK [79,98,106,101,99,116,80,114,111,112,101,114,116,121,65,115,115,101,114,116,105,111,110] ([]++[owN x.role,owN x.a,owN x.b]) (by decide) (by simp [joinL,bI];omega) (by simp)
  simp [bI] at ec ⊢
  refine dS (by simp) ?_
  simp -implicitDefEqProofs [af,dw,dD,cellsA,k,hop,e1,e2,e3,ec,List.range_succ,hs1,hs2,hs3,hs4]
 ·have hn:aX x=[bI]:=by unfold aX;rw [hop];rfl
  rw [hn]
  have ec:=dK [79,98,106,101,99,116,80,114,111,112,101,114,116,121,65,115,115,101,114,116,105,111,110] ([bI]++[owN x.role,owN x.a,owN x.b]) (by decide) (by simp [joinL,bI];omega) (by simp)
  simp [bI] at ec ⊢
  refine dS (by simp) ?_
  simp -implicitDefEqProofs [af,dw,dD,cellsA,k,hop,e1,e2,e3,ec,List.range_succ,hs1,hs2,hs3,hs4]
theorem Wj (x:Ax) (hx:x.Few) (hg:x.Good) (s:St) (cx:Ctx):ai P0 (.fn (.func iE) [] []) [dD x] s cx=.ret (.s (owA x)) s:=by
 rcases hg.k with k|k|k|k|k|k|k|k|k
 ·exact abW x hx hg k s cx
 ·exact abV x hx hg k s cx
 ·exact abU x hx hg k s cx
 ·exact abT x hx hg k s cx
 ·exact abS x hx hg k s cx
 ·exact abR x hx hg k s cx
 ·exact abQ x hx hg k s cx
 ·exact abP x hx hg k s cx
 ·exact abO x hx hg k s cx
end Go.Ai.Z
