/-
 Concepts: the program's check, whole.
-/
import Derived.Test.YtalbhlfigmlddaaGreatDoorAiK3
set_option maxRecDepth 100000
set_option linter.unusedSimpArgs false
set_option linter.unusedVariables false
set_option linter.unusedSectionVars false
namespace Go.Ai.Z
mutual
def sJ:C→Nat→Nat→Bool×Nat
 | .mk _ _ _ _ _ ps,d,n=>if 8<d∨64<n+1 then (false,n+1) else zk ps d (n+1)
def zk:List C→Nat→Nat→Bool×Nat
 | [],_,n=>(true,n)
 | p::r,d,n=>if (sJ p (d+1) n).1=true then zk r d (sJ p (d+1) n).2 else (false,(sJ p (d+1) n).2)
end
theorem FV (c:C) (d n:Nat):sJ c d n=if 8<d∨64<n+1 then (false,n+1) else zk c.parts d (n+1):=by cases c;simp [sJ]
theorem YP:∀(c:C) (d n:Nat),n≤64→(sJ c d n).2≤65∧((sJ c d n).1=true→(sJ c d n).2≤64):=by
 refine C.ind' fun c ih d n hn=>?_
 have hL:∀(l:List C),(∀p∈l,∀(d n:Nat),n≤64→(sJ p d n).2≤65∧((sJ p d n).1=true→(sJ p d n).2≤64))→∀n,n≤64→(zk l d n).2≤65∧((zk l d n).1=true→(zk l d n).2≤64):=by
  intro l
  induction l with
  | nil=>intro _ n hn;simp [zk];omega
  | cons p r ih=>
   intro h n hn
   have h1:=h p (by simp) (d+1) n hn
   simp only [zk]
   split
   ·rename_i ht;exact ih (fun q hq=>h q (by simp [hq])) _ (h1.2 ht)
   ·exact ⟨h1.1,by simp⟩
 rw [FV]
 split
 ·exact ⟨by simp;omega,by simp⟩
 ·exact hL c.parts ih _ (by omega)
theorem YQ:∀(c:C) (d n:Nat),n≤64→((sJ c d n).1=true ↔ d+zo c≤8∧n+vG c≤64)∧((sJ c d n).1=true→(sJ c d n).2=n+vG c):=by
 refine C.ind' fun c ih d n hn=>?_
 have hL:∀(l:List C),(∀p∈l,∀(d n:Nat),n≤64→((sJ p d n).1=true ↔ d+zo p≤8∧n+vG p≤64)∧((sJ p d n).1=true→(sJ p d n).2=n+vG p))→∀n,n≤64→d≤8→
   ((zk l d n).1=true ↔ d+Ih l≤8∧n+EU l≤64)∧((zk l d n).1=true→(zk l d n).2=n+EU l):=by
  intro l
  induction l with
  | nil=>intro _ n hn hd;simp [zk,Ih,EU];omega
  | cons p r ih=>
   intro h n hn hd
   have h1:=h p (by simp) (d+1) n hn
   simp only [zk,Ih,EU]
   by_cases ht:(sJ p (d+1) n).1=true
   ·have h2:=h1.2 ht
    have h3:=h1.1.1 ht
    rw [if_pos ht]
    have h4:=ih (fun q hq=>h q (by simp [hq])) (sJ p (d+1) n).2 (by omega) hd
    rw [h2] at h4 ⊢
    refine ⟨h4.1.trans ⟨fun h=>⟨by omega,by omega⟩,fun h=>⟨by omega,by omega⟩⟩,fun h=>by rw [h4.2 h];omega⟩
   ·rw [if_neg ht]
    refine ⟨⟨fun h=>by simp at h,fun h=>absurd (h1.1.2 ⟨by omega,by omega⟩) ht⟩,fun h=>by simp at h⟩
 rw [FV,VL,Wx]
 have hL:=hL c.parts ih
 split
 ·rename_i h;refine ⟨⟨fun h=>by simp at h,fun h=>by omega⟩,fun h=>by simp at h⟩
 ·have:=hL (n+1) (by omega) (by omega)
  refine ⟨this.1.trans ⟨fun h=>⟨by omega,by omega⟩,fun h=>⟨by omega,by omega⟩⟩,fun h=>by rw [this.2 h];omega⟩
theorem Qd {T:St} {l:Nat} {v:cO} (h:T[l]?=some v):T.set l v=T:=by
 obtain ⟨h1,h2⟩:=List.getElem?_eq_some_iff.1 h
 rw [←h2];exact List.set_getElem_self h1
inductive C.Lng:C→Prop where
 | mk (c:C) (hn:c.name.length≤1152921504606846976) (hps:c.parts.length≤1152921504606846976) (hp:∀p∈c.parts,C.Lng p):C.Lng c
theorem C.Lng.n {c:C} (h:C.Lng c):c.name.length≤1152921504606846976:=by cases h;assumption
theorem C.Lng.ps {c:C} (h:C.Lng c):c.parts.length≤1152921504606846976:=by cases h;assumption
theorem C.Lng.sub {c:C} (h:C.Lng c):∀p∈c.parts,C.Lng p:=by cases h;assumption
theorem C.Ok.lng {c:C} (h:C.Ok c):C.Lng c:=by
 induction h with
 | mk c hn hps _ _ _ _ ih=>exact .mk c hn hps ih
theorem Zp:∀c:C,wC c≤100000→C.Lng c:=by
 refine C.ind' fun c ih hw=>?_
 have hl:=Wh c.parts
 rw [Zf] at hw
 exact .mk c (by omega) (by omega) fun p hp=>ih p hp (by have:=V9 hp;omega)
theorem Fq (c:C) (hw:C.Lng c) (cx:Ctx) (l:Nat) (hcl:cx.lim≤l) (d:Nat) (hd:d≤8)
  (ih:∀p∈c.parts,∀(d n:Nat) (s:St) (cx:Ctx),d≤100→n≤64→cx.lim≤l→s[l]?=some (.cells [.i .i64 n])→
   aj P0 (.fn (.func nR) [] []) [ig p,.i .i64 d,.pt l 0] s cx=.ret (.b (sJ p d n).1) (s.set l (.cells [.i .i64 (sJ p d n).2]))):
  ∀(rest:List C) (i:Nat) (n:Nat) (s:St),n≤64→s[l]?=some (.cells [.i .i64 n])→c.parts.drop i=rest→
  ∃j:Int,dZ (ak P0.glob (aj P0) cx false lX) [1,2,23,24,25] [(1,.v (.i .i64 d)),(2,.v (.pt l 0)),(23,.v (slf c.z (c.parts.map ig))),(24,.v (.i .i64 c.parts.length)),(25,.v (.i .i64 i))] s=
   if (zk rest d n).1=true then .exit 0 [(1,.v (.i .i64 d)),(2,.v (.pt l 0)),(23,.v (slf c.z (c.parts.map ig))),(24,.v (.i .i64 c.parts.length)),(25,.v (.i .i64 j)),(26,.v (.b false))] (s.set l (.cells [.i .i64 (zk rest d n).2]))
   else .ret [(6,.v (.b false))] (s.set l (.cells [.i .i64 (zk rest d n).2]))
 | [],i,n,s,hn,hs,h=>by
  have h1:¬i<c.parts.length:=Nat.not_lt.2 (drop_nil h)
  refine ⟨i,ai fun K hK=>?_⟩
  simp [lX,h1,zk,Qd hs]
 | p::r,i,n,s,hn,hs,h=>by
  obtain ⟨h1,h2,h3,h4⟩:=drop_cons h
  have h5:=h4 h3
  have hp:p∈c.parts:=by rw [←h5];exact List.getElem_mem h3
  have hwi:=wI (i:=i) (by have:=hw.ps;omega)
  have hlt:l<s.length:=(List.getElem?_eq_some_iff.1 hs).1
  have e1:=ih p hp (d+1) n s cx (by omega) hn hcl hs
  have w1:IntKind.i64.wrap ((d:Int)+1)=(d:Int)+1:=w64 (by omega) (by omega)
  simp at e1
  by_cases ht:(sJ p (d+1) n).1=true
  ·have hle:=(YP p (d+1) n hn).2 ht
   obtain ⟨j,ih2⟩:=Fq c hw cx l hcl d hd ih r (i+1) (sJ p (d+1) n).2 (s.set l (.cells [.i .i64 (sJ p (d+1) n).2])) hle (by simp [hlt]) h2
   refine ⟨j,ai fun K hK=>?_⟩
   rw [←hK] at ih2
   clear hK h4 ih
   simp at ih2
   simp [lX,h3,h5,hwi,w1,e1,ih2,zk,ht]
  ·refine ⟨i,ai fun K hK=>?_⟩
   clear hK h4 ih
   simp [lX,h3,h5,hwi,w1,e1,zk,ht]
theorem PI (l:Nat):∀(c:C),C.Lng c→∀(d n:Nat) (s:St) (cx:Ctx),d≤100→n≤64→cx.lim≤l→s[l]?=some (.cells [.i .i64 n])→
   aj P0 (.fn (.func nR) [] []) [ig c,.i .i64 d,.pt l 0] s cx=.ret (.b (sJ c d n).1) (s.set l (.cells [.i .i64 (sJ c d n).2])):=by
 refine C.ind' fun c ih hw d n s cx hd hn hcl hs=>?_
 have hlt:l<s.length:=(List.getElem?_eq_some_iff.1 hs).1
 have w1:IntKind.i64.wrap ((n:Int)+1)=(n:Int)+1:=w64 (by omega) (by omega)
 have hs':s[l]=.cells [.i .i64 n]:=(List.getElem?_eq_some_iff.1 hs).2
 refine NR (by simp) ?_
 by_cases h8:(8:Int)<d
 ·simp [ah,oq,hs',hlt,hcl,w1,h8,FV c,show 8<d by omega]
 by_cases h64:(64:Int)<(n:Int)+1
 ·simp [ah,oq,hs',hlt,hcl,w1,h8,h64,FV c,show 64<n+1 by omega]
 ·obtain ⟨j,h⟩:=Fq c hw ⟨cx.lim,s.length⟩ l hcl d (by omega) (fun p hp=>ih p hp (hw.sub p hp)) c.parts 0 (n+1) (s.set l (.cells [.i .i64 (n+1:Nat)])) (by omega) (by simp [hlt]) rfl
  simp at h
  have hcond:¬(8<d∨64<n+1):=by omega
  simp [ah,oq,hs',hlt,hcl,w1,h8,h64,FV c,hcond,h]
  repeat' (first | (split<;>(try simp only [dQ,dR,dS,iO,iP])<;>(try simp [*])) | (simp only [dQ,dR,dS,iO,iP]<;>(try simp [*]))|omega)
def MO (a:Nat) (c:C):Env:=[(2,.v (.pt a 0)),(10,.v (.fn (.func jr) [] [.ip (ig c).cells]))]
def nK (a:Nat) (c:C) (p:JS):cO:=.loop (MO a c) [11] jk ji p
theorem Gx (x:C) (a:Nat) {e':AV} (T:St) (cx:Ctx) (hb:cx.base≤T.length) (hlt:cx.lim≤T.length):
  ak P0.glob (aj P0) cx true jk [(11,.v (ig x)),(2,.v (.pt a 0)),(10,.v e')] T=.norm [(2,.v (.pt a 0)),(4,.v (.pt T.length 0))] (T++[.cells (ig x).cells]):=by
 simp [jk,hb,hlt]
theorem Gw (x:C) (hx:x.name.length≤1152921504606846976) (a m:Nat) (v:AV) (S:St) (cx:Ctx) (hm:S[m]?=some (.cells (ig x).cells)) (ha:S[a]?=some (.cells [v])) (hca:cx.lim≤a):
  ak P0.glob (aj P0) cx true ji [(2,.v (.pt a 0)),(4,.v (.pt m 0))] S=
   if nI x=0 then .norm [(2,.v (.pt a 0)),(5,.v (.i .i64 (nI x))),(15,.v (.b false))] S else .ret [] (S.set a (.cells [.i .i64 (nI x)])):=by
 have e1:=Dl x hx
 simp at hm
 by_cases h0:nI x=0<;>simp [ji,hm,ha,hca,e1,h0]
theorem J8 (c x:C) (hx:x.name.length≤1152921504606846976) (a l:Nat) (v:AV) (T:St) (cx:Ctx) (hl:T[l]?=some (nK a c .ready)) (ha:T[a]?=some (.cells [v])) (hcl:cx.lim≤l) (hca:cx.lim≤a) (hb:cx.base≤T.length) (hlt:cx.lim≤T.length):
  aj P0 (.yl l) [ig x] T cx=if nI x=0 then .ret (.b true) (T++[.cells (ig x).cells])
   else .ret (.b false) ((T.set a (.cells [.i .i64 (nI x)])).set l (nK a c .ret)++[.cells (ig x).cells]):=by
 have hl1:l<T.length:=(List.getElem?_eq_some_iff.1 hl).1
 have ha1:a<T.length:=(List.getElem?_eq_some_iff.1 ha).1
 have hal:¬l=a:=by intro e;subst e;rw [hl] at ha;simp [nK] at ha
 have hl2:T[l]=nK a c .ready:=(List.getElem?_eq_some_iff.1 hl).2
 have hA:=Gx (e':=.fn (.func jr) [] [.ip (ig c).cells]) x a T cx hb hlt
 have hR:=Gw x hx a T.length v (T.set l (nK a c .busy)++[.cells (ig x).cells]) cx (by rw [List.getElem?_append_right (by simp)];simp) (by rw [List.getElem?_append_left (by simpa using ha1)];rw [List.getElem?_set_ne hal];exact ha) hca
 refine OT (by split<;>simp) ?_
 unfold Gv
 rw [hl]
 simp only [nK,MO,Aj,put,lk]
 simp at hA hR
 have hset:=Qd hl
 simp only [nK,MO] at hset hR
 simp at hset hR
 by_cases h0:nI x=0
 ·simp [hA,hcl,hl1,hR,h0,oD,hset,List.getElem?_append_left,hl2,nK,MO]
 ·simp [hA,hcl,hl1,hR,h0,oD,List.getElem?_append_left,hl2,nK,MO,ha1,Ne.symm hal,hal]
  rw [List.set_comm _ _ hal,List.set_set]
theorem OU (x:C):wH x=if nI x=0 then xM x.parts else nI x:=by
 rw [V8];unfold nI
 by_cases h1:yT x=false<;>by_cases h2:Ld x=false<;>simp [h1,h2]
theorem Dt (c x:C) (hw:C.Lng x) (a l:Nat) (v:AV) (cx:Ctx) (T:St) (hl:T[l]?=some (nK a c .ready)) (ha:T[a]?=some (.cells [v])) (hcl:cx.lim≤l) (hca:cx.lim≤a)
  (ih:∀p∈x.parts,∀(T:St) (cx:Ctx),T[l]?=some (nK a c .ready)→T[a]?=some (.cells [v])→cx.lim≤l→cx.lim≤a→
   aj P0 (.fn (.func lG) [] []) [ig p,.yl l] T cx=if wH p=0 then .ret (.b true) T else .ret (.b false) ((T.set a (.cells [.i .i64 (wH p)])).set l (nK a c .ret))):
  ∀(rest:List C) (i:Nat),x.parts.drop i=rest→
  ∃j:Int,dZ (ak P0.glob (aj P0) cx false kP) [1,12,13,14] [(1,.v (.yl l)),(12,.v (slf x.z (x.parts.map ig))),(13,.v (.i .i64 x.parts.length)),(14,.v (.i .i64 i))] T=
   if xM rest=0 then .exit 0 [(1,.v (.yl l)),(12,.v (slf x.z (x.parts.map ig))),(13,.v (.i .i64 x.parts.length)),(14,.v (.i .i64 j)),(15,.v (.b false))] T
   else .ret [(4,.v (.b false))] ((T.set a (.cells [.i .i64 (xM rest)])).set l (nK a c .ret))
 | [],i,h=>by
  have h1:¬i<x.parts.length:=Nat.not_lt.2 (drop_nil h)
  refine ⟨i,ai fun K hK=>?_⟩
  simp [kP,h1,xM]
 | p::r,i,h=>by
  obtain ⟨h1,h2,h3,h4⟩:=drop_cons h
  have h5:=h4 h3
  have hp:p∈x.parts:=by rw [←h5];exact List.getElem_mem h3
  have hwi:=wI (i:=i) (by have:=hw.ps;omega)
  have e1:=ih p hp T cx hl ha hcl hca
  by_cases h0:wH p=0
  ·obtain ⟨j,ih2⟩:=Dt c x hw a l v cx T hl ha hcl hca ih r (i+1) h2
   refine ⟨j,ai fun K hK=>?_⟩
   rw [←hK] at ih2
   clear hK h4 ih
   simp at ih2
   simp [kP,h3,h5,hwi,e1,ih2,xM,h0]
  ·refine ⟨i,ai fun K hK=>?_⟩
   clear hK h4 ih
   simp [kP,h3,h5,hwi,e1,xM,h0]
theorem NW (c:C) (a l:Nat) (v:AV):∀(x:C),C.Lng x→∀(T:St) (cx:Ctx),T[l]?=some (nK a c .ready)→T[a]?=some (.cells [v])→cx.lim≤l→cx.lim≤a→
   aj P0 (.fn (.func lG) [] []) [ig x,.yl l] T cx=if wH x=0 then .ret (.b true) T else .ret (.b false) ((T.set a (.cells [.i .i64 (wH x)])).set l (nK a c .ret)):=by
 refine C.ind' fun x ih hw T cx hl ha hcl hca=>?_
 have hl1:l<T.length:=(List.getElem?_eq_some_iff.1 hl).1
 have ha1:a<T.length:=(List.getElem?_eq_some_iff.1 ha).1
 have hy:=J8 c x hw.n a l v T ⟨cx.lim,T.length⟩ hl ha hcl hca (Nat.le_refl _) (by simp;omega)
 refine LY (by split<;>simp) ?_
 simp at hy
 by_cases h0:nI x=0
 ·obtain ⟨j,h⟩:=Dt c x hw a l v ⟨cx.lim,T.length⟩ (T++[.cells (ig x).cells]) (by rw [List.getElem?_append_left hl1];exact hl) (by rw [List.getElem?_append_left ha1];exact ha) hcl hca
   (fun p hp T cx=>ih p hp (hw.sub p hp) T cx) x.parts 0 rfl
  simp at h
  by_cases hz:xM x.parts=0
  ·simp [ah,lV,hy,h0,h,hz,OU x,frz,AV.under]
  ·simp [ah,lV,hy,h0,h,hz,OU x,frz,AV.under,ha1,hl1,List.set_append_left]
 ·simp [ah,lV,hy,h0,OU x,frz,AV.under,List.take_append_of_le_length]
theorem Uh (s r:St) (k:Nat):(s++r)[s.length+k]?=r[k]?:=by rw [List.getElem?_append_right (by omega)];congr 1;omega
theorem TT (s r:St) (k:Nat) (v:cO):(s++r).set (s.length+k) v=s++r.set k v:=by rw [List.set_append_right _ _ (by omega)];congr 2;omega
@[simp] theorem Y3 (c:C) (s:St) (cx:Ctx):aj P0 (.fn (.func rX) [] []) [ig c] s cx=.ret (.fn (.func jr) [] [.ip (ig c).cells]) s:=by
 refine NQ (by simp) ?_
 simp [ah,tY,frz,rG]
theorem sN (c:C) (hw:C.Lng c) (s:St) (cx:Ctx):aj P0 (.fn (.func gY) [] []) [ig c] s cx=.ret (.i .i64 (Bv c)) s:=by
 refine zZ (by simp) ?_
 have e1:=PI (s.length+1) c hw 0 0 (s++[.cells [.i .i64 0],.cells [.i .i64 0]]) ⟨s.length,s.length⟩ (by omega) (by omega) (by simp) (by simp)
 have hf:=YQ c 0 0 (by omega)
 simp at e1
 by_cases hfit:(sJ c 0 0).1=true
 ·have hcond:¬(8<zo c∨64<vG c):=by have:=hf.1.1 hfit;omega
  let T:St:=s++[.cells [.i .i64 0],.cells [.i .i64 (sJ c 0 0).2],.dfr,nK s.length c .ready]
  have hv:=NW c s.length (s.length+3) (.i .i64 0) c hw T ⟨s.length,T.length⟩ (by simp [T]) (by simp [T]) (by simp) (by simp)
  have hw1:aj P0 (.fn (.func jr) [] [.ip (ig c).cells]) [.yl (s.length+3)] T ⟨s.length,s.length⟩=
    if wH c=0 then .ret (.tu []) T else .ret (.tu []) ((T.set s.length (.cells [.i .i64 (wH c)])).set (s.length+3) (nK s.length c .ret)):=by
   refine JE (by split<;>simp) ?_
   by_cases h0:wH c=0<;>simp [h0] at hv<;>simp [ah,qG,hv,h0]
  simp [T] at hw1
  by_cases h0:wH c=0
  ·simp [h0,nK,MO] at hw1
   simp [ah,gm,e1,hfit,GR,hw1,Bv,hcond,h0,DY,show s.length+2+1=s.length+3 from rfl,Uh,TT]
  ·simp [h0,nK,MO] at hw1
   simp [ah,gm,e1,hfit,GR,hw1,Bv,hcond,h0,DY,show s.length+2+1=s.length+3 from rfl,Uh,TT]
 ·have hcond:(8<zo c∨64<vG c):=by
   rcases Nat.lt_or_ge 8 (zo c) with h|h
   ·exact .inl h
   ·rcases Nat.lt_or_ge 64 (vG c) with h' | h'
    ·exact .inr h'
    ·exact absurd (hf.1.2 ⟨by omega,by omega⟩) hfit
  simp [ah,gm,e1,hfit,Bv,hcond]
end Go.Ai.Z
