/-
 The reference's texts of axioms.
-/
import Derived.Test.YtcofenimejmoeaaGreatDoorAiOW4
set_option maxRecDepth 100000
set_option linter.unusedSimpArgs false
set_option linter.unusedVariables false
set_option linter.unusedSectionVars false
namespace Go.Ai.Z
def abf (n:List UInt8):Prop:=nK n=[] ↔ (58:UInt8) ∉ n
structure Ax.Nm (x:Ax):Prop where
 role:x.kind=4∨x.kind=5∨x.kind=6∨x.kind=7∨x.kind=9→abf x.role
 rs:∀r∈x.roles,abf r
 a:x.kind=8∨x.kind=9→abf x.a
 b:x.kind=9→abf x.b
theorem Le:∀{l:List (List UInt8)},allPlain l=true→∀r∈l,kC r=true
 | [],_,_,h=>by simp at h
 | a::l,hl,r,h=>by
  simp only [allPlain,Bool.and_eq_true] at hl
  rcases List.mem_cons.1 h with rfl|h
  ·exact hl.1
  ·exact Le hl.2 r h
theorem afM {x:Ax} (h:jP x=0):x.Nm:=by
 unfold jP at h
 split at h
 ·cases h
 split at h
 ·cases h
 rename_i hs hn
 have hn:Df x (kz x.kind)=true:=by simpa using hn
 unfold Df at hn
 simp only [Bool.and_eq_true,Bool.or_eq_true,Bool.not_eq_true'] at hn
 obtain ⟨⟨⟨h1,h2⟩,h3⟩,h4⟩:=hn
 refine ⟨fun q=>?_,fun r hr=>(Dc (.inl (Le h4 r hr))).1,fun q=>?_,fun q=>?_⟩
 ·have hu:(kz x.kind).role=true:=by rcases q with q|q|q|q|q<;>rw [q]<;>rfl
  rw [hu] at h1
  exact (Dc (.inl (h1.resolve_left (by simp)))).1
 ·have hu:(kz x.kind).a=true:=by rcases q with q|q<;>rw [q]<;>rfl
  rw [hu] at h2
  have:=h2.resolve_left (by simp)
  unfold vg at this
  rw [Bool.or_eq_true] at this
  exact (Dc this).1
 ·have hu:(kz x.kind).b=true:=by rw [q];rfl
  rw [hu] at h3
  have:=h3.resolve_left (by simp)
  unfold vg at this
  rw [Bool.or_eq_true] at this
  exact (Dc this).1
theorem Bh (s:St) (cx:Ctx) (z:Bool) (roles:List (List UInt8)) (hl:roles.length≤600) (hb:∀r∈roles,r.length≤600) (hn:∀r∈roles,abf r) (cs:List AV) (hcs:cs[12]?=some (slf z (roles.map .s))):
  ∀(rest:List (List UInt8)) (i:Nat) (t:List UInt8),roles.drop i=rest→0<i→t.length+602 * rest.length≤1000000→
  ∃j:Int,eX (au P0.glob (ai P0) cx false iq) [1,4,5] [(1,.bx cs),(4,.v (.s t)),(5,.v (.i .i64 i))] s=
   .exit 1 [(1,.bx cs),(4,.v (.s (t++(rest.map owN).flatMap fun y=>[32]++y))),(5,.v (.i .i64 j)),(91,.v (.b false))] s
 | [],i,t,h,hi,ht=>by
  have h1:¬i<roles.length:=Nat.not_lt.2 (drop_nil h)
  refine ⟨i,aj fun K hK=>?_⟩
  simp [iq,h1,hcs]
 | p::r,i,t,h,hi,ht=>by
  obtain ⟨h1,h2,h3,h4⟩:=drop_cons h
  have h5:=h4 h3
  have hp:p∈roles:=by rw [←h5];exact List.getElem_mem h3
  have hwi:=wI (i:=i) (by omega)
  have hpl:=hb p hp
  have hol:=aK p
  simp only [List.length_cons] at ht
  obtain ⟨j,ih2⟩:=Bh s cx z roles hl hb hn cs hcs r (i+1) (t++[32]++owN p) h2 (by omega) (by simp;omega)
  refine ⟨j,aj fun K hK=>?_⟩
  rw [←hK] at ih2
  have e1:=fK p (by omega) (hn p hp)
  clear hK h4
  simp at ih2
  have l1:t.length+1≤4611686018427387904:=by omega
  have l2:t.length+(1+(owN p).length)≤4611686018427387904:=by omega
  have l3:t.length+((owN p).length+1)≤4611686018427387904:=by omega
  simp -implicitDefEqProofs [iq,hcs,h3,h5,hwi,hi,e1,l1,l2,l3,ih2]
theorem abN (x:Ax) (hx:x.Few) (hg:x.Good) (hm:x.Nm) (k:x.kind=1) (s:St) (cx:Ctx):ai P0 (.fn (.func fF) [] []) [dD x] s cx=.ret (.s (owA x)) s:=by
 have a1:=aK x.role
 have a2:=aK x.a
 have a3:=aK x.b
 have b1:=hx.role
 have b2:=hx.a
 have b3:=hx.b
 have vl:=hg.l (by simp [k])
 have cl:=jk x.left (by have:=hx.l;omega) vl
 have ll:=su hx.l vl
 have vr:=hg.r (by simp [k])
 have cr:=jk x.right (by have:=hx.r;omega) vr
 have lr:=su hx.r vr
 have ho:owA x=dL [83,117,98,67,108,97,115,115,79,102] (aX x++[owC x.left,owC x.right]):=by
  unfold owA Ae yA
  simp [k]
 rw [ho]
 cases hop:x.op
 ·have hn:aX x=[]:=by unfold aX;rw [hop];rfl
  rw [hn]
  refine bW (by simp) ?_
  simp -implicitDefEqProofs [af,bF,dD,cellsA,k,hop,cl,cr,dL,joinL,bI]
  repeat' (first | (split<;>(try simp only [ay,aA,aB,aI,aJ])<;>(try simp [*])) | (simp only [ay,aA,aB,aI,aJ]<;>(try simp [*]))|omega)
 ·have hn:aX x=[bI]:=by unfold aX;rw [hop];rfl
  rw [hn]
  refine bW (by simp) ?_
  simp -implicitDefEqProofs [af,bF,dD,cellsA,k,hop,cl,cr,dL,joinL,bI]
  repeat' (first | (split<;>(try simp only [ay,aA,aB,aI,aJ])<;>(try simp [*])) | (simp only [ay,aA,aB,aI,aJ]<;>(try simp [*]))|omega)
theorem abM (x:Ax) (hx:x.Few) (hg:x.Good) (hm:x.Nm) (k:x.kind=2) (s:St) (cx:Ctx):ai P0 (.fn (.func fF) [] []) [dD x] s cx=.ret (.s (owA x)) s:=by
 have a1:=aK x.role
 have a2:=aK x.a
 have a3:=aK x.b
 have b1:=hx.role
 have b2:=hx.a
 have b3:=hx.b
 have vl:=hg.l (by simp [k])
 have cl:=jk x.left (by have:=hx.l;omega) vl
 have ll:=su hx.l vl
 have vr:=hg.r (by simp [k])
 have cr:=jk x.right (by have:=hx.r;omega) vr
 have lr:=su hx.r vr
 have ho:owA x=dL [69,113,117,105,118,97,108,101,110,116,67,108,97,115,115,101,115] (aX x++[owC x.left,owC x.right]):=by
  unfold owA Ae yA
  simp [k]
 rw [ho]
 cases hop:x.op
 ·have hn:aX x=[]:=by unfold aX;rw [hop];rfl
  rw [hn]
  refine bW (by simp) ?_
  simp -implicitDefEqProofs [af,bF,dD,cellsA,k,hop,cl,cr,dL,joinL,bI]
  repeat' (first | (split<;>(try simp only [ay,aA,aB,aI,aJ])<;>(try simp [*])) | (simp only [ay,aA,aB,aI,aJ]<;>(try simp [*]))|omega)
 ·have hn:aX x=[bI]:=by unfold aX;rw [hop];rfl
  rw [hn]
  refine bW (by simp) ?_
  simp -implicitDefEqProofs [af,bF,dD,cellsA,k,hop,cl,cr,dL,joinL,bI]
  repeat' (first | (split<;>(try simp only [ay,aA,aB,aI,aJ])<;>(try simp [*])) | (simp only [ay,aA,aB,aI,aJ]<;>(try simp [*]))|omega)
theorem abL (x:Ax) (hx:x.Few) (hg:x.Good) (hm:x.Nm) (k:x.kind=3) (s:St) (cx:Ctx):ai P0 (.fn (.func fF) [] []) [dD x] s cx=.ret (.s (owA x)) s:=by
 have a1:=aK x.role
 have a2:=aK x.a
 have a3:=aK x.b
 have b1:=hx.role
 have b2:=hx.a
 have b3:=hx.b
 have vl:=hg.l (by simp [k])
 have cl:=jk x.left (by have:=hx.l;omega) vl
 have ll:=su hx.l vl
 have vr:=hg.r (by simp [k])
 have cr:=jk x.right (by have:=hx.r;omega) vr
 have lr:=su hx.r vr
 have ho:owA x=dL [68,105,115,106,111,105,110,116,67,108,97,115,115,101,115] (aX x++[owC x.left,owC x.right]):=by
  unfold owA Ae yA
  simp [k]
 rw [ho]
 cases hop:x.op
 ·have hn:aX x=[]:=by unfold aX;rw [hop];rfl
  rw [hn]
  refine bW (by simp) ?_
  simp -implicitDefEqProofs [af,bF,dD,cellsA,k,hop,cl,cr,dL,joinL,bI]
  repeat' (first | (split<;>(try simp only [ay,aA,aB,aI,aJ])<;>(try simp [*])) | (simp only [ay,aA,aB,aI,aJ]<;>(try simp [*]))|omega)
 ·have hn:aX x=[bI]:=by unfold aX;rw [hop];rfl
  rw [hn]
  refine bW (by simp) ?_
  simp -implicitDefEqProofs [af,bF,dD,cellsA,k,hop,cl,cr,dL,joinL,bI]
  repeat' (first | (split<;>(try simp only [ay,aA,aB,aI,aJ])<;>(try simp [*])) | (simp only [ay,aA,aB,aI,aJ]<;>(try simp [*]))|omega)
theorem abK (x:Ax) (hx:x.Few) (hg:x.Good) (hm:x.Nm) (k:x.kind=4) (s:St) (cx:Ctx):ai P0 (.fn (.func fF) [] []) [dD x] s cx=.ret (.s (owA x)) s:=by
 have a1:=aK x.role
 have a2:=aK x.a
 have a3:=aK x.b
 have b1:=hx.role
 have b2:=hx.a
 have b3:=hx.b
 have e1:=fK x.role (by omega) (hm.role (by simp [k]))
 have vr:=hg.r (by simp [k])
 have cr:=jk x.right (by have:=hx.r;omega) vr
 have lr:=su hx.r vr
 have ho:owA x=dL [79,98,106,101,99,116,80,114,111,112,101,114,116,121,68,111,109,97,105,110] (aX x++[owN x.role,owC x.right]):=by
  unfold owA Ae yA
  simp [k]
 rw [ho]
 cases hop:x.op
 ·have hn:aX x=[]:=by unfold aX;rw [hop];rfl
  rw [hn]
  refine bW (by simp) ?_
  simp -implicitDefEqProofs [af,bF,dD,cellsA,k,hop,e1,cr,dL,joinL,bI]
  repeat' (first | (split<;>(try simp only [ay,aA,aB,aI,aJ])<;>(try simp [*])) | (simp only [ay,aA,aB,aI,aJ]<;>(try simp [*]))|omega)
 ·have hn:aX x=[bI]:=by unfold aX;rw [hop];rfl
  rw [hn]
  refine bW (by simp) ?_
  simp -implicitDefEqProofs [af,bF,dD,cellsA,k,hop,e1,cr,dL,joinL,bI]
  repeat' (first | (split<;>(try simp only [ay,aA,aB,aI,aJ])<;>(try simp [*])) | (simp only [ay,aA,aB,aI,aJ]<;>(try simp [*]))|omega)
theorem abJ (x:Ax) (hx:x.Few) (hg:x.Good) (hm:x.Nm) (k:x.kind=5) (s:St) (cx:Ctx):ai P0 (.fn (.func fF) [] []) [dD x] s cx=.ret (.s (owA x)) s:=by
 have a1:=aK x.role
 have a2:=aK x.a
 have a3:=aK x.b
 have b1:=hx.role
 have b2:=hx.a
 have b3:=hx.b
 have e1:=fK x.role (by omega) (hm.role (by simp [k]))
 obtain ⟨r0,hr0⟩:∃r0,x.roles=[r0]:=by
  have:=hg.r5 k
  match hh:x.roles,this with
  | [r0],_=>exact ⟨r0,rfl⟩
 have br:=hx.rs r0 (by rw [hr0];simp)
 have ar:=aK r0
 have e4:=fK r0 (by omega) (hm.rs r0 (by rw [hr0];simp))
 have ho:owA x=dL [83,117,98,79,98,106,101,99,116,80,114,111,112,101,114,116,121,79,102] (aX x++[owN (x.roles.headD []),owN x.role]):=by
  unfold owA Ae yA
  simp [k]
 rw [ho]
 cases hop:x.op
 ·have hn:aX x=[]:=by unfold aX;rw [hop];rfl
  rw [hn]
  rw [hr0]
  simp only [List.headD_cons]
  refine bW (by simp) ?_
  simp -implicitDefEqProofs [af,bF,dD,cellsA,k,hop,hr0,e1,e4,dL,joinL,bI]
  repeat' (first | (split<;>(try simp only [ay,aA,aB,aI,aJ])<;>(try simp [*])) | (simp only [ay,aA,aB,aI,aJ]<;>(try simp [*]))|omega)
 ·have hn:aX x=[bI]:=by unfold aX;rw [hop];rfl
  rw [hn]
  rw [hr0]
  simp only [List.headD_cons]
  refine bW (by simp) ?_
  simp -implicitDefEqProofs [af,bF,dD,cellsA,k,hop,hr0,e1,e4,dL,joinL,bI]
  repeat' (first | (split<;>(try simp only [ay,aA,aB,aI,aJ])<;>(try simp [*])) | (simp only [ay,aA,aB,aI,aJ]<;>(try simp [*]))|omega)
theorem abI (x:Ax) (hx:x.Few) (hg:x.Good) (hm:x.Nm) (k:x.kind=6) (s:St) (cx:Ctx):ai P0 (.fn (.func fF) [] []) [dD x] s cx=.ret (.s (owA x)) s:=by
 have a1:=aK x.role
 have a2:=aK x.a
 have a3:=aK x.b
 have b1:=hx.role
 have b2:=hx.a
 have b3:=hx.b
 have e1:=fK x.role (by omega) (hm.role (by simp [k]))
 have ho:owA x=dL [83,117,98,79,98,106,101,99,116,80,114,111,112,101,114,116,121,79,102] (aX x++[dL [79,98,106,101,99,116,80,114,111,112,101,114,116,121,67,104,97,105,110] (x.roles.map owN),owN x.role]):=by
  unfold owA Ae yA
  simp [k]
 rw [ho]
 obtain ⟨h2,h4⟩:=hg.r6 k
 obtain ⟨r0,rr,hr⟩:∃r0 rr,x.roles=r0::rr:=by
  match hh:x.roles,h2 with
  | r0::rr,_=>exact ⟨r0,rr,rfl⟩
 have br:=hx.rs r0 (by rw [hr];simp)
 have ar:=aK r0
 have e4:=fK r0 (by omega) (hm.rs r0 (by rw [hr];simp))
 have hrr:rr.length≤3:=by rw [hr] at h4;simp at h4;omega
 have hfl:((rr.map owN).flatMap fun y=>([32]:List UInt8)++y).length≤602 * rr.length:=by
  have hb:∀r∈rr,r.length≤600:=fun r h=>hx.rs r (by rw [hr];simp [h])
  clear hrr hr h2 h4 ho
  induction rr with
  | nil=>simp
  | cons a l ih=>
   have q1:=hb a (by simp)
   have q2:=ih (fun p hp=>hb p (by simp [hp]))
   have q3:=aK a
   simp at q2 ⊢
   omega
 cases hop:x.op
 ·have hn:aX x=[]:=by unfold aX;rw [hop];rfl
  rw [hn]
  obtain ⟨j,h⟩:=Bh s ⟨s.length,s.length⟩ x.z x.roles (by omega) hx.rs hm.rs (cellsA x) rfl rr 1 ([83,117,98,79,98,106,101,99,116,80,114,111,112,101,114,116,121,79,102,40,79,98,106,101,99,116,80,114,111,112,101,114,116,121,67,104,97,105,110,40]++owN r0) (by rw [hr];rfl) (by omega) (by simp;omega)
  have hw1:IntKind.i64.wrap 1=1:=by decide
  have h0:eX (au P0.glob (ai P0) ⟨s.length,s.length⟩ false iq) [1,4,5] [(1,.bx (cellsA x)),(4,.v (.s [83,117,98,79,98,106,101,99,116,80,114,111,112,101,114,116,121,79,102,40,79,98,106,101,99,116,80,114,111,112,101,114,116,121,67,104,97,105,110,40])),(5,.v (.i .i64 0))] s=
    .exit 1 [(1,.bx (cellsA x)),(4,.v (.s (([83,117,98,79,98,106,101,99,116,80,114,111,112,101,114,116,121,79,102,40,79,98,106,101,99,116,80,114,111,112,101,114,116,121,67,104,97,105,110,40]++owN r0)++(rr.map owN).flatMap fun y=>[32]++y))),(5,.v (.i .i64 j)),(91,.v (.b false))] s:=by
   refine aj fun K hK=>?_
   rw [←hK] at h
   clear hK
   simp [hr,cellsA,k,hop] at h
   simp -implicitDefEqProofs [iq,cellsA,hr,e4,hw1,k,hop,h]
   repeat' (first | (split<;>(try simp only [ay,aA,aB,aI,aJ])<;>(try simp [*])) | (simp only [ay,aA,aB,aI,aJ]<;>(try simp [*]))|omega)
  clear h
  simp [hr,cellsA,k,hop] at h0 hfl
  refine bW (by simp) ?_
  simp -implicitDefEqProofs [af,bF,dD,cellsA,k,hop,e1,h0,hr,dL,joinL,bI]
  repeat' (first | (split<;>(try simp only [ay,aA,aB,aI,aJ])<;>(try simp [*])) | (simp only [ay,aA,aB,aI,aJ]<;>(try simp [*]))|omega)
 ·have hn:aX x=[bI]:=by unfold aX;rw [hop];rfl
  rw [hn]
  obtain ⟨j,h⟩:=Bh s ⟨s.length,s.length⟩ x.z x.roles (by omega) hx.rs hm.rs (cellsA x) rfl rr 1 ([83,117,98,79,98,106,101,99,116,80,114,111,112,101,114,116,121,79,102,40,65,110,110,111,116,97,116,105,111,110,40,58,111,112,101,110,32,34,116,114,117,101,34,41,32,79,98,106,101,99,116,80,114,111,112,101,114,116,121,67,104,97,105,110,40]++owN r0) (by rw [hr];rfl) (by omega) (by simp;omega)
  have hw1:IntKind.i64.wrap 1=1:=by decide
  have h0:eX (au P0.glob (ai P0) ⟨s.length,s.length⟩ false iq) [1,4,5] [(1,.bx (cellsA x)),(4,.v (.s [83,117,98,79,98,106,101,99,116,80,114,111,112,101,114,116,121,79,102,40,65,110,110,111,116,97,116,105,111,110,40,58,111,112,101,110,32,34,116,114,117,101,34,41,32,79,98,106,101,99,116,80,114,111,112,101,114,116,121,67,104,97,105,110,40])),(5,.v (.i .i64 0))] s=
    .exit 1 [(1,.bx (cellsA x)),(4,.v (.s (([83,117,98,79,98,106,101,99,116,80,114,111,112,101,114,116,121,79,102,40,65,110,110,111,116,97,116,105,111,110,40,58,111,112,101,110,32,34,116,114,117,101,34,41,32,79,98,106,101,99,116,80,114,111,112,101,114,116,121,67,104,97,105,110,40]++owN r0)++(rr.map owN).flatMap fun y=>[32]++y))),(5,.v (.i .i64 j)),(91,.v (.b false))] s:=by
   refine aj fun K hK=>?_
   rw [←hK] at h
   clear hK
   simp [hr,cellsA,k,hop] at h
   simp -implicitDefEqProofs [iq,cellsA,hr,e4,hw1,k,hop,h]
   repeat' (first | (split<;>(try simp only [ay,aA,aB,aI,aJ])<;>(try simp [*])) | (simp only [ay,aA,aB,aI,aJ]<;>(try simp [*]))|omega)
  clear h
  simp [hr,cellsA,k,hop] at h0 hfl
  refine bW (by simp) ?_
  simp -implicitDefEqProofs [af,bF,dD,cellsA,k,hop,e1,h0,hr,dL,joinL,bI]
  repeat' (first | (split<;>(try simp only [ay,aA,aB,aI,aJ])<;>(try simp [*])) | (simp only [ay,aA,aB,aI,aJ]<;>(try simp [*]))|omega)
theorem abH (x:Ax) (hx:x.Few) (hg:x.Good) (hm:x.Nm) (k:x.kind=7) (s:St) (cx:Ctx):ai P0 (.fn (.func fF) [] []) [dD x] s cx=.ret (.s (owA x)) s:=by
 have a1:=aK x.role
 have a2:=aK x.a
 have a3:=aK x.b
 have b1:=hx.role
 have b2:=hx.a
 have b3:=hx.b
 have e1:=fK x.role (by omega) (hm.role (by simp [k]))
 have ho:owA x=dL [82,101,102,108,101,120,105,118,101,79,98,106,101,99,116,80,114,111,112,101,114,116,121] (aX x++[owN x.role]):=by
  unfold owA Ae yA
  simp [k]
 rw [ho]
 cases hop:x.op
 ·have hn:aX x=[]:=by unfold aX;rw [hop];rfl
  rw [hn]
  refine bW (by simp) ?_
  simp -implicitDefEqProofs [af,bF,dD,cellsA,k,hop,e1,dL,joinL,bI]
  repeat' (first | (split<;>(try simp only [ay,aA,aB,aI,aJ])<;>(try simp [*])) | (simp only [ay,aA,aB,aI,aJ]<;>(try simp [*]))|omega)
 ·have hn:aX x=[bI]:=by unfold aX;rw [hop];rfl
  rw [hn]
  refine bW (by simp) ?_
  simp -implicitDefEqProofs [af,bF,dD,cellsA,k,hop,e1,dL,joinL,bI]
  repeat' (first | (split<;>(try simp only [ay,aA,aB,aI,aJ])<;>(try simp [*])) | (simp only [ay,aA,aB,aI,aJ]<;>(try simp [*]))|omega)
theorem abG (x:Ax) (hx:x.Few) (hg:x.Good) (hm:x.Nm) (k:x.kind=8) (s:St) (cx:Ctx):ai P0 (.fn (.func fF) [] []) [dD x] s cx=.ret (.s (owA x)) s:=by
 have a1:=aK x.role
 have a2:=aK x.a
 have a3:=aK x.b
 have b1:=hx.role
 have b2:=hx.a
 have b3:=hx.b
 have e2:=fK x.a (by omega) (hm.a (by simp [k]))
 have vr:=hg.r (by simp [k])
 have cr:=jk x.right (by have:=hx.r;omega) vr
 have lr:=su hx.r vr
 have ho:owA x=dL [67,108,97,115,115,65,115,115,101,114,116,105,111,110] (aX x++[owC x.right,owN x.a]):=by
  unfold owA Ae yA
  simp [k]
 rw [ho]
 cases hop:x.op
 ·have hn:aX x=[]:=by unfold aX;rw [hop];rfl
  rw [hn]
  refine bW (by simp) ?_
  simp -implicitDefEqProofs [af,bF,dD,cellsA,k,hop,cr,e2,dL,joinL,bI]
  repeat' (first | (split<;>(try simp only [ay,aA,aB,aI,aJ])<;>(try simp [*])) | (simp only [ay,aA,aB,aI,aJ]<;>(try simp [*]))|omega)
 ·have hn:aX x=[bI]:=by unfold aX;rw [hop];rfl
  rw [hn]
  refine bW (by simp) ?_
  simp -implicitDefEqProofs [af,bF,dD,cellsA,k,hop,cr,e2,dL,joinL,bI]
  repeat' (first | (split<;>(try simp only [ay,aA,aB,aI,aJ])<;>(try simp [*])) | (simp only [ay,aA,aB,aI,aJ]<;>(try simp [*]))|omega)
theorem abE (x:Ax) (hx:x.Few) (hg:x.Good) (hm:x.Nm) (k:x.kind=9) (s:St) (cx:Ctx):ai P0 (.fn (.func fF) [] []) [dD x] s cx=.ret (.s (owA x)) s:=by
 have a1:=aK x.role
 have a2:=aK x.a
 have a3:=aK x.b
 have b1:=hx.role
 have b2:=hx.a
 have b3:=hx.b
 have e1:=fK x.role (by omega) (hm.role (by simp [k]))
 have e2:=fK x.a (by omega) (hm.a (by simp [k]))
 have e3:=fK x.b (by omega) (hm.b k)
 have ho:owA x=dL [79,98,106,101,99,116,80,114,111,112,101,114,116,121,65,115,115,101,114,116,105,111,110] (aX x++[owN x.role,owN x.a,owN x.b]):=by
  unfold owA Ae yA
  simp [k]
 rw [ho]
 cases hop:x.op
 ·have hn:aX x=[]:=by unfold aX;rw [hop];rfl
  rw [hn]
  refine bW (by simp) ?_
  simp -implicitDefEqProofs [af,bF,dD,cellsA,k,hop,e1,e2,e3,dL,joinL,bI]
  repeat' (first | (split<;>(try simp only [ay,aA,aB,aI,aJ])<;>(try simp [*])) | (simp only [ay,aA,aB,aI,aJ]<;>(try simp [*]))|omega)
 ·have hn:aX x=[bI]:=by unfold aX;rw [hop];rfl
  rw [hn]
  refine bW (by simp) ?_
  simp -implicitDefEqProofs [af,bF,dD,cellsA,k,hop,e1,e2,e3,dL,joinL,bI]
  repeat' (first | (split<;>(try simp only [ay,aA,aB,aI,aJ])<;>(try simp [*])) | (simp only [ay,aA,aB,aI,aJ]<;>(try simp [*]))|omega)
theorem Ry (x:Ax) (hx:x.Few) (hg:x.Good) (hm:x.Nm) (s:St) (cx:Ctx):ai P0 (.fn (.func fF) [] []) [dD x] s cx=.ret (.s (owA x)) s:=by
 rcases hg.k with k|k|k|k|k|k|k|k|k
 ·exact abN x hx hg hm k s cx
 ·exact abM x hx hg hm k s cx
 ·exact abL x hx hg hm k s cx
 ·exact abK x hx hg hm k s cx
 ·exact abJ x hx hg hm k s cx
 ·exact abI x hx hg hm k s cx
 ·exact abH x hx hg hm k s cx
 ·exact abG x hx hg hm k s cx
 ·exact abE x hx hg hm k s cx
end Go.Ai.Z
