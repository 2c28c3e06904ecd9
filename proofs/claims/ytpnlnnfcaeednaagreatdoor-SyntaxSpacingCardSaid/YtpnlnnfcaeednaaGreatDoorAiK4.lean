/-
 Concepts: the program's check, whole.
-/
import Derived.Test.YtpnlnnfcaeednaaGreatDoorAiK1K2K3
set_option maxRecDepth 100000
set_option linter.unusedSimpArgs false
set_option linter.unusedVariables false
set_option linter.unusedSectionVars false
namespace Go.Ai.Z
mutual
def yx:C→Nat→Nat→Bool×Nat
 | .mk _ _ _ _ _ ps,d,n=>if 8<d∨64<n+1 then (false,n+1) else Ef ps d (n+1)
def Ef:List C→Nat→Nat→Bool×Nat
 | [],_,n=>(true,n)
 | p::r,d,n=>if (yx p (d+1) n).1=true then Ef r d (yx p (d+1) n).2 else (false,(yx p (d+1) n).2)
end
theorem Kw (c:C) (d n:Nat):yx c d n=if 8<d∨64<n+1 then (false,n+1) else Ef c.parts d (n+1):=by cases c;simp [yx]
theorem aeH:∀(c:C) (d n:Nat),n≤64→(yx c d n).2≤65∧((yx c d n).1=true→(yx c d n).2≤64):=by
 refine C.ind' fun c ih d n hn=>?_
 have hL:∀(l:List C),(∀p∈l,∀(d n:Nat),n≤64→(yx p d n).2≤65∧((yx p d n).1=true→(yx p d n).2≤64))→∀n,n≤64→(Ef l d n).2≤65∧((Ef l d n).1=true→(Ef l d n).2≤64):=by
  intro l
  induction l with
  | nil=>intro _ n hn;simp [Ef];omega
  | cons p r ih=>
   intro h n hn
   have h1:=h p (by simp) (d+1) n hn
   simp only [Ef]
   split
   ·rename_i ht;exact ih (fun q hq=>h q (by simp [hq])) _ (h1.2 ht)
   ·exact ⟨h1.1,by simp⟩
 rw [Kw]
 split
 ·exact ⟨by simp;omega,by simp⟩
 ·exact hL c.parts ih _ (by omega)
theorem aeI:∀(c:C) (d n:Nat),n≤64→((yx c d n).1=true ↔ d+mW c≤8∧n+dR c≤64)∧((yx c d n).1=true→(yx c d n).2=n+dR c):=by
 refine C.ind' fun c ih d n hn=>?_
 have hL:∀(l:List C),(∀p∈l,∀(d n:Nat),n≤64→((yx p d n).1=true ↔ d+mW p≤8∧n+dR p≤64)∧((yx p d n).1=true→(yx p d n).2=n+dR p))→∀n,n≤64→d≤8→
   ((Ef l d n).1=true ↔ d+qL l≤8∧n+fC l≤64)∧((Ef l d n).1=true→(Ef l d n).2=n+fC l):=by
  intro l
  induction l with
  | nil=>intro _ n hn hd;simp [Ef,qL,fC];omega
  | cons p r ih=>
   intro h n hn hd
   have h1:=h p (by simp) (d+1) n hn
   simp only [Ef,qL,fC]
   by_cases ht:(yx p (d+1) n).1=true
   ·have h2:=h1.2 ht
    have h3:=h1.1.1 ht
    rw [if_pos ht]
    have h4:=ih (fun q hq=>h q (by simp [hq])) (yx p (d+1) n).2 (by omega) hd
    rw [h2] at h4 ⊢
    refine ⟨h4.1.trans ⟨fun h=>⟨by omega,by omega⟩,fun h=>⟨by omega,by omega⟩⟩,fun h=>by rw [h4.2 h];omega⟩
   ·rw [if_neg ht]
    refine ⟨⟨fun h=>by simp at h,fun h=>absurd (h1.1.2 ⟨by omega,by omega⟩) ht⟩,fun h=>by simp at h⟩
 rw [Kw,vH,nT]
 have hL:=hL c.parts ih
 split
 ·rename_i h;refine ⟨⟨fun h=>by simp at h,fun h=>by omega⟩,fun h=>by simp at h⟩
 ·have:=hL (n+1) (by omega) (by omega)
  refine ⟨this.1.trans ⟨fun h=>⟨by omega,by omega⟩,fun h=>⟨by omega,by omega⟩⟩,fun h=>by rw [this.2 h];omega⟩
theorem WR {T:St} {l:Nat} {v:dZ} (h:T[l]?=some v):T.set l v=T:=by
 obtain ⟨h1,h2⟩:=List.getElem?_eq_some_iff.1 h
 rw [←h2];exact List.set_getElem_self h1
theorem J3 (c:C) (hw:wC c≤100000) (cx:Ctx) (l:Nat) (hcl:cx.lim≤l) (d:Nat) (hd:d≤8)
  (ih:∀p∈c.parts,∀(d n:Nat) (s:St) (cx:Ctx),d≤100→n≤64→cx.lim≤l→s[l]?=some (.cells [.i .i64 n])→
   ah P0 (.fn (.func sS) [] []) [bD p,.i .i64 d,.pt l 0] s cx=.ret (.b (yx p d n).1) (s.set l (.cells [.i .i64 (yx p d n).2]))):
  ∀(rest:List C) (i:Nat) (n:Nat) (s:St),n≤64→s[l]?=some (.cells [.i .i64 n])→c.parts.drop i=rest→
  ∃j:Int,eX (aC P0.glob (ah P0) cx false rE) [1,2,23,24,25] [(1,.v (.i .i64 d)),(2,.v (.pt l 0)),(23,.v (slf c.z (c.parts.map bD))),(24,.v (.i .i64 c.parts.length)),(25,.v (.i .i64 i))] s=
   if (Ef rest d n).1=true then .exit 0 [(1,.v (.i .i64 d)),(2,.v (.pt l 0)),(23,.v (slf c.z (c.parts.map bD))),(24,.v (.i .i64 c.parts.length)),(25,.v (.i .i64 j)),(26,.v (.b false))] (s.set l (.cells [.i .i64 (Ef rest d n).2]))
   else .ret [(6,.v (.b false))] (s.set l (.cells [.i .i64 (Ef rest d n).2]))
 | [],i,n,s,hn,hs,h=>by
  have h1:¬i<c.parts.length:=Nat.not_lt.2 (drop_nil h)
  refine ⟨i,ak fun K hK=>?_⟩
  simp [rE,h1,Ef,WR hs]
 | p::r,i,n,s,hn,hs,h=>by
  obtain ⟨h1,h2,h3,h4⟩:=drop_cons h
  have h5:=h4 h3
  have hp:p∈c.parts:=by rw [←h5];exact List.getElem_mem h3
  have hl:=yE c.parts
  have hwi:=wI (i:=i) (by rw [qm] at hw;omega)
  have hlt:l<s.length:=(List.getElem?_eq_some_iff.1 hs).1
  have e1:=ih p hp (d+1) n s cx (by omega) hn hcl hs
  have w1:IntKind.i64.wrap ((d:Int)+1)=(d:Int)+1:=w64 (by omega) (by omega)
  simp at e1
  by_cases ht:(yx p (d+1) n).1=true
  ·have hle:=(aeH p (d+1) n hn).2 ht
   obtain ⟨j,ih2⟩:=J3 c hw cx l hcl d hd ih r (i+1) (yx p (d+1) n).2 (s.set l (.cells [.i .i64 (yx p (d+1) n).2])) hle (by simp [hlt]) h2
   refine ⟨j,ak fun K hK=>?_⟩
   rw [←hK] at ih2
   clear hK h4 ih
   simp at ih2
   simp [rE,h3,h5,hwi,w1,e1,ih2,Ef,ht]
  ·refine ⟨i,ak fun K hK=>?_⟩
   clear hK h4 ih
   simp [rE,h3,h5,hwi,w1,e1,Ef,ht]
theorem VS (l:Nat):∀(c:C),wC c≤100000→∀(d n:Nat) (s:St) (cx:Ctx),d≤100→n≤64→cx.lim≤l→s[l]?=some (.cells [.i .i64 n])→
   ah P0 (.fn (.func sS) [] []) [bD c,.i .i64 d,.pt l 0] s cx=.ret (.b (yx c d n).1) (s.set l (.cells [.i .i64 (yx c d n).2])):=by
 refine C.ind' fun c ih hw d n s cx hd hn hcl hs=>?_
 have hlt:l<s.length:=(List.getElem?_eq_some_iff.1 hs).1
 have w1:IntKind.i64.wrap ((n:Int)+1)=(n:Int)+1:=w64 (by omega) (by omega)
 have hs':s[l]=.cells [.i .i64 n]:=(List.getElem?_eq_some_iff.1 hs).2
 refine S9 (by simp) ?_
 by_cases h8:(8:Int)<d
 ·simp [af,tN,hs',hlt,hcl,w1,h8,Kw c,show 8<d by omega]
 by_cases h64:(64:Int)<(n:Int)+1
 ·simp [af,tN,hs',hlt,hcl,w1,h8,h64,Kw c,show 64<n+1 by omega]
 ·have hw':=hw
  rw [qm] at hw'
  obtain ⟨j,h⟩:=J3 c hw ⟨cx.lim,s.length⟩ l hcl d (by omega) (fun p hp=>ih p hp (by have:=wM hp;omega)) c.parts 0 (n+1) (s.set l (.cells [.i .i64 (n+1:Nat)])) (by omega) (by simp [hlt]) rfl
  simp at h
  have hcond:¬(8<d∨64<n+1):=by omega
  simp [af,tN,hs',hlt,hcl,w1,h8,h64,Kw c,hcond,h]
  repeat' (first | (split<;>(try simp only [kz,kC,kF,pR,pU])<;>(try simp [*])) | (simp only [kz,kC,kF,pR,pU]<;>(try simp [*]))|omega)
def RN (a:Nat) (c:C):Env:=[(2,.v (.pt a 0)),(10,.v (.fn (.func ny) [] [.ip (bD c).cells]))]
def sK (a:Nat) (c:C) (p:O4):dZ:=.loop (RN a c) [11] mM mJ p
theorem Ld (x:C) (a:Nat) {e':AV} (T:St) (cx:Ctx) (hb:cx.base≤T.length) (hlt:cx.lim≤T.length):
  aC P0.glob (ah P0) cx true mM [(11,.v (bD x)),(2,.v (.pt a 0)),(10,.v e')] T=.norm [(2,.v (.pt a 0)),(4,.v (.pt T.length 0))] (T++[.cells (bD x).cells]):=by
 simp [mM,hb,hlt]
theorem Lc (x:C) (hx:x.name.length≤1152921504606846976) (a m:Nat) (v:AV) (S:St) (cx:Ctx) (hm:S[m]?=some (.cells (bD x).cells)) (ha:S[a]?=some (.cells [v])) (hca:cx.lim≤a):
  aC P0.glob (ah P0) cx true mJ [(2,.v (.pt a 0)),(4,.v (.pt m 0))] S=
   if sJ x=0 then .norm [(2,.v (.pt a 0)),(5,.v (.i .i64 (sJ x))),(15,.v (.b false))] S else .ret [] (S.set a (.cells [.i .i64 (sJ x)])):=by
 have e1:=Ia x hx
 simp at hm
 by_cases h0:sJ x=0<;>simp [mJ,hm,ha,hca,e1,h0]
theorem PK (c x:C) (hx:x.name.length≤1152921504606846976) (a l:Nat) (v:AV) (T:St) (cx:Ctx) (hl:T[l]?=some (sK a c .ready)) (ha:T[a]?=some (.cells [v])) (hcl:cx.lim≤l) (hca:cx.lim≤a) (hb:cx.base≤T.length) (hlt:cx.lim≤T.length):
  ah P0 (.yl l) [bD x] T cx=if sJ x=0 then .ret (.b true) (T++[.cells (bD x).cells])
   else .ret (.b false) ((T.set a (.cells [.i .i64 (sJ x)])).set l (sK a c .ret)++[.cells (bD x).cells]):=by
 have hl1:l<T.length:=(List.getElem?_eq_some_iff.1 hl).1
 have ha1:a<T.length:=(List.getElem?_eq_some_iff.1 ha).1
 have hal:¬l=a:=by intro e;subst e;rw [hl] at ha;simp [sK] at ha
 have hl2:T[l]=sK a c .ready:=(List.getElem?_eq_some_iff.1 hl).2
 have hA:=Ld (e':=.fn (.func ny) [] [.ip (bD c).cells]) x a T cx hb hlt
 have hR:=Lc x hx a T.length v (T.set l (sK a c .busy)++[.cells (bD x).cells]) cx (by rw [List.getElem?_append_right (by simp)];simp) (by rw [List.getElem?_append_left (by simpa using ha1)];rw [List.getElem?_set_ne hal];exact ha) hca
 refine UO (by split<;>simp) ?_
 unfold KY
 rw [hl]
 simp only [sK,RN,Fj,put,lk]
 simp at hA hR
 have hset:=WR hl
 simp only [sK,RN] at hset hR
 simp at hset hR
 by_cases h0:sJ x=0
 ·simp [hA,hcl,hl1,hR,h0,ug,hset,List.getElem?_append_left,hl2,sK,RN]
 ·simp [hA,hcl,hl1,hR,h0,ug,List.getElem?_append_left,hl2,sK,RN,ha1,Ne.symm hal,hal]
  rw [List.set_comm _ _ hal,List.set_set]
theorem UR (x:C):iH x=if sJ x=0 then qV x.parts else sJ x:=by
 rw [BP];unfold sJ
 by_cases h1:oV x=false<;>by_cases h2:xM x=false<;>simp [h1,h2]
theorem Ij (c x:C) (hw:wC x≤100000) (a l:Nat) (v:AV) (cx:Ctx) (T:St) (hl:T[l]?=some (sK a c .ready)) (ha:T[a]?=some (.cells [v])) (hcl:cx.lim≤l) (hca:cx.lim≤a)
  (ih:∀p∈x.parts,∀(T:St) (cx:Ctx),T[l]?=some (sK a c .ready)→T[a]?=some (.cells [v])→cx.lim≤l→cx.lim≤a→
   ah P0 (.fn (.func qO) [] []) [bD p,.yl l] T cx=if iH p=0 then .ret (.b true) T else .ret (.b false) ((T.set a (.cells [.i .i64 (iH p)])).set l (sK a c .ret))):
  ∀(rest:List C) (i:Nat),x.parts.drop i=rest→
  ∃j:Int,eX (aC P0.glob (ah P0) cx false qx) [1,12,13,14] [(1,.v (.yl l)),(12,.v (slf x.z (x.parts.map bD))),(13,.v (.i .i64 x.parts.length)),(14,.v (.i .i64 i))] T=
   if qV rest=0 then .exit 0 [(1,.v (.yl l)),(12,.v (slf x.z (x.parts.map bD))),(13,.v (.i .i64 x.parts.length)),(14,.v (.i .i64 j)),(15,.v (.b false))] T
   else .ret [(4,.v (.b false))] ((T.set a (.cells [.i .i64 (qV rest)])).set l (sK a c .ret))
 | [],i,h=>by
  have h1:¬i<x.parts.length:=Nat.not_lt.2 (drop_nil h)
  refine ⟨i,ak fun K hK=>?_⟩
  simp [qx,h1,qV]
 | p::r,i,h=>by
  obtain ⟨h1,h2,h3,h4⟩:=drop_cons h
  have h5:=h4 h3
  have hp:p∈x.parts:=by rw [←h5];exact List.getElem_mem h3
  have hlen:=yE x.parts
  have hwi:=wI (i:=i) (by rw [qm] at hw;omega)
  have e1:=ih p hp T cx hl ha hcl hca
  by_cases h0:iH p=0
  ·obtain ⟨j,ih2⟩:=Ij c x hw a l v cx T hl ha hcl hca ih r (i+1) h2
   refine ⟨j,ak fun K hK=>?_⟩
   rw [←hK] at ih2
   clear hK h4 ih
   simp at ih2
   simp [qx,h3,h5,hwi,e1,ih2,qV,h0]
  ·refine ⟨i,ak fun K hK=>?_⟩
   clear hK h4 ih
   simp [qx,h3,h5,hwi,e1,qV,h0]
theorem Tt (c:C) (a l:Nat) (v:AV):∀(x:C),wC x≤100000→∀(T:St) (cx:Ctx),T[l]?=some (sK a c .ready)→T[a]?=some (.cells [v])→cx.lim≤l→cx.lim≤a→
   ah P0 (.fn (.func qO) [] []) [bD x,.yl l] T cx=if iH x=0 then .ret (.b true) T else .ret (.b false) ((T.set a (.cells [.i .i64 (iH x)])).set l (sK a c .ret)):=by
 refine C.ind' fun x ih hw T cx hl ha hcl hca=>?_
 have hl1:l<T.length:=(List.getElem?_eq_some_iff.1 hl).1
 have ha1:a<T.length:=(List.getElem?_eq_some_iff.1 ha).1
 have hw':=hw
 rw [qm] at hw'
 have hy:=PK c x (by omega) a l v T ⟨cx.lim,T.length⟩ hl ha hcl hca (Nat.le_refl _) (by simp;omega)
 refine Rk (by split<;>simp) ?_
 simp at hy
 by_cases h0:sJ x=0
 ·obtain ⟨j,h⟩:=Ij c x hw a l v ⟨cx.lim,T.length⟩ (T++[.cells (bD x).cells]) (by rw [List.getElem?_append_left hl1];exact hl) (by rw [List.getElem?_append_left ha1];exact ha) hcl hca
   (fun p hp T cx=>ih p hp (by have:=wM hp;omega) T cx) x.parts 0 rfl
  simp at h
  by_cases hz:qV x.parts=0
  ·simp [af,qX,hy,h0,h,hz,UR x,frz,AV.under]
  ·simp [af,qX,hy,h0,h,hz,UR x,frz,AV.under,ha1,hl1,List.set_append_left]
 ·simp [af,qX,hy,h0,UR x,frz,AV.under,List.take_append_of_le_length]
theorem aak (s r:St) (k:Nat):(s++r)[s.length+k]?=r[k]?:=by rw [List.getElem?_append_right (by omega)];congr 1;omega
theorem ZP (s r:St) (k:Nat) (v:dZ):(s++r).set (s.length+k) v=s++r.set k v:=by rw [List.set_append_right _ _ (by omega)];congr 2;omega
@[simp] theorem aeV (c:C) (s:St) (cx:Ctx):ah P0 (.fn (.func xY) [] []) [bD c] s cx=.ret (.fn (.func ny) [] [.ip (bD c).cells]) s:=by
 refine SX (by simp) ?_
 simp [af,yS,frz,qB]
theorem zh (c:C) (hw:wC c≤100000) (s:St) (cx:Ctx):ah P0 (.fn (.func jm) [] []) [bD c] s cx=.ret (.i .i64 (jg c)) s:=by
 refine ET (by simp) ?_
 have e1:=VS (s.length+1) c hw 0 0 (s++[.cells [.i .i64 0],.cells [.i .i64 0]]) ⟨s.length,s.length⟩ (by omega) (by omega) (by simp) (by simp)
 have hf:=aeI c 0 0 (by omega)
 simp at e1
 by_cases hfit:(yx c 0 0).1=true
 ·have hcond:¬(8<mW c∨64<dR c):=by have:=hf.1.1 hfit;omega
  let T:St:=s++[.cells [.i .i64 0],.cells [.i .i64 (yx c 0 0).2],.dfr,sK s.length c .ready]
  have hv:=Tt c s.length (s.length+3) (.i .i64 0) c hw T ⟨s.length,T.length⟩ (by simp [T]) (by simp [T]) (by simp) (by simp)
  have hw1:ah P0 (.fn (.func ny) [] [.ip (bD c).cells]) [.yl (s.length+3)] T ⟨s.length,s.length⟩=
    if iH c=0 then .ret (.tu []) T else .ret (.tu []) ((T.set s.length (.cells [.i .i64 (iH c)])).set (s.length+3) (sK s.length c .ret)):=by
   refine OL (by split<;>simp) ?_
   by_cases h0:iH c=0<;>simp [h0] at hv<;>simp [af,wE,hv,h0]
  simp [T] at hw1
  by_cases h0:iH c=0
  ·simp [h0,sK,RN] at hw1
   simp [af,jP,e1,hfit,Lm,hw1,jg,hcond,h0,IY,show s.length+2+1=s.length+3 from rfl,aak,ZP]
  ·simp [h0,sK,RN] at hw1
   simp [af,jP,e1,hfit,Lm,hw1,jg,hcond,h0,IY,show s.length+2+1=s.length+3 from rfl,aak,ZP]
 ·have hcond:(8<mW c∨64<dR c):=by
   rcases Nat.lt_or_ge 8 (mW c) with h|h
   ·exact .inl h
   ·rcases Nat.lt_or_ge 64 (dR c) with h' | h'
    ·exact .inr h'
    ·exact absurd (hf.1.2 ⟨by omega,by omega⟩) hfit
  simp [af,jP,e1,hfit,jg,hcond]
end Go.Ai.Z
