/-
 Concepts: the program's check, whole.
-/
import Derived.Test.YtpnlnnfcaeednaaGreatDoorAiK1K2K3
set_option maxRecDepth 100000
set_option linter.unusedSimpArgs false
set_option linter.unusedVariables false
set_option linter.unusedSectionVars false
namespace Go.Ai.Z
mutual
def x9:C→Nat→Nat→Bool×Nat
 | .mk _ _ _ _ _ ps,d,n=>if 8<d∨64<n+1 then (false,n+1) else DY ps d (n+1)
def DY:List C→Nat→Nat→Bool×Nat
 | [],_,n=>(true,n)
 | p::r,d,n=>if (x9 p (d+1) n).1=true then DY r d (x9 p (d+1) n).2 else (false,(x9 p (d+1) n).2)
end
theorem J8 (c:C) (d n:Nat):x9 c d n=if 8<d∨64<n+1 then (false,n+1) else DY c.parts d (n+1):=by cases c;simp [x9]
theorem adH:∀(c:C) (d n:Nat),n≤64→(x9 c d n).2≤65∧((x9 c d n).1=true→(x9 c d n).2≤64):=by
 refine C.ind' fun c ih d n hn=>?_
 have hL:∀(l:List C),(∀p∈l,∀(d n:Nat),n≤64→(x9 p d n).2≤65∧((x9 p d n).1=true→(x9 p d n).2≤64))→∀n,n≤64→(DY l d n).2≤65∧((DY l d n).1=true→(DY l d n).2≤64):=by
  intro l
  induction l with
  | nil=>intro _ n hn;simp [DY];omega
  | cons p r ih=>
   intro h n hn
   have h1:=h p (by simp) (d+1) n hn
   simp only [DY]
   split
   ·rename_i ht;exact ih (fun q hq=>h q (by simp [hq])) _ (h1.2 ht)
   ·exact ⟨h1.1,by simp⟩
 rw [J8]
 split
 ·exact ⟨by simp;omega,by simp⟩
 ·exact hL c.parts ih _ (by omega)
theorem adI:∀(c:C) (d n:Nat),n≤64→((x9 c d n).1=true ↔ d+D5 c≤8∧n+dX c≤64)∧((x9 c d n).1=true→(x9 c d n).2=n+dX c):=by
 refine C.ind' fun c ih d n hn=>?_
 have hL:∀(l:List C),(∀p∈l,∀(d n:Nat),n≤64→((x9 p d n).1=true ↔ d+D5 p≤8∧n+dX p≤64)∧((x9 p d n).1=true→(x9 p d n).2=n+dX p))→∀n,n≤64→d≤8→
   ((DY l d n).1=true ↔ d+L8 l≤8∧n+jH l≤64)∧((DY l d n).1=true→(DY l d n).2=n+jH l):=by
  intro l
  induction l with
  | nil=>intro _ n hn hd;simp [DY,L8,jH];omega
  | cons p r ih=>
   intro h n hn hd
   have h1:=h p (by simp) (d+1) n hn
   simp only [DY,L8,jH]
   by_cases ht:(x9 p (d+1) n).1=true
   ·have h2:=h1.2 ht
    have h3:=h1.1.1 ht
    rw [if_pos ht]
    have h4:=ih (fun q hq=>h q (by simp [hq])) (x9 p (d+1) n).2 (by omega) hd
    rw [h2] at h4 ⊢
    refine ⟨h4.1.trans ⟨fun h=>⟨by omega,by omega⟩,fun h=>⟨by omega,by omega⟩⟩,fun h=>by rw [h4.2 h];omega⟩
   ·rw [if_neg ht]
    refine ⟨⟨fun h=>by simp at h,fun h=>absurd (h1.1.2 ⟨by omega,by omega⟩) ht⟩,fun h=>by simp at h⟩
 rw [J8,aaI,xA]
 have hL:=hL c.parts ih
 split
 ·rename_i h;refine ⟨⟨fun h=>by simp at h,fun h=>by omega⟩,fun h=>by simp at h⟩
 ·have:=hL (n+1) (by omega) (by omega)
  refine ⟨this.1.trans ⟨fun h=>⟨by omega,by omega⟩,fun h=>⟨by omega,by omega⟩⟩,fun h=>by rw [this.2 h];omega⟩
theorem EY {T:St} {l:Nat} {v:dS} (h:T[l]?=some v):T.set l v=T:=by
 obtain ⟨h1,h2⟩:=List.getElem?_eq_some_iff.1 h
 rw [←h2];exact List.set_getElem_self h1
theorem JU (c:C) (hw:wC c≤100000) (cx:Ctx) (l:Nat) (hcl:cx.lim≤l) (d:Nat) (hd:d≤8)
  (ih:∀p∈c.parts,∀(d n:Nat) (s:St) (cx:Ctx),d≤100→n≤64→cx.lim≤l→s[l]?=some (.cells [.i .i64 n])→
   ah P0 (.fn (.func su) [] []) [bG p,.i .i64 d,.pt l 0] s cx=.ret (.b (x9 p d n).1) (s.set l (.cells [.i .i64 (x9 p d n).2]))):
  ∀(rest:List C) (i:Nat) (n:Nat) (s:St),n≤64→s[l]?=some (.cells [.i .i64 n])→c.parts.drop i=rest→
  ∃j:Int,fH (aB P0.glob (ah P0) cx false qO) [1,2,23,24,25] [(1,.v (.i .i64 d)),(2,.v (.pt l 0)),(23,.v (slf c.z (c.parts.map bG))),(24,.v (.i .i64 c.parts.length)),(25,.v (.i .i64 i))] s=
   if (DY rest d n).1=true then .exit 0 [(1,.v (.i .i64 d)),(2,.v (.pt l 0)),(23,.v (slf c.z (c.parts.map bG))),(24,.v (.i .i64 c.parts.length)),(25,.v (.i .i64 j)),(26,.v (.b false))] (s.set l (.cells [.i .i64 (DY rest d n).2]))
   else .ret [(6,.v (.b false))] (s.set l (.cells [.i .i64 (DY rest d n).2]))
 | [],i,n,s,hn,hs,h=>by
  have h1:¬i<c.parts.length:=Nat.not_lt.2 (drop_nil h)
  refine ⟨i,ak fun K hK=>?_⟩
  simp [qO,h1,DY,EY hs]
 | p::r,i,n,s,hn,hs,h=>by
  obtain ⟨h1,h2,h3,h4⟩:=drop_cons h
  have h5:=h4 h3
  have hp:p∈c.parts:=by rw [←h5];exact List.getElem_mem h3
  have hl:=yX c.parts
  have hwi:=wI (i:=i) (by rw [sD] at hw;omega)
  have hlt:l<s.length:=(List.getElem?_eq_some_iff.1 hs).1
  have e1:=ih p hp (d+1) n s cx (by omega) hn hcl hs
  have w1:IntKind.i64.wrap ((d:Int)+1)=(d:Int)+1:=w64 (by omega) (by omega)
  simp at e1
  by_cases ht:(x9 p (d+1) n).1=true
  ·have hle:=(adH p (d+1) n hn).2 ht
   obtain ⟨j,ih2⟩:=JU c hw cx l hcl d hd ih r (i+1) (x9 p (d+1) n).2 (s.set l (.cells [.i .i64 (x9 p (d+1) n).2])) hle (by simp [hlt]) h2
   refine ⟨j,ak fun K hK=>?_⟩
   rw [←hK] at ih2
   clear hK h4 ih
   simp at ih2
   simp [qO,h3,h5,hwi,w1,e1,ih2,DY,ht]
  ·refine ⟨i,ak fun K hK=>?_⟩
   clear hK h4 ih
   simp [qO,h3,h5,hwi,w1,e1,DY,ht]
theorem Vo (l:Nat):∀(c:C),wC c≤100000→∀(d n:Nat) (s:St) (cx:Ctx),d≤100→n≤64→cx.lim≤l→s[l]?=some (.cells [.i .i64 n])→
   ah P0 (.fn (.func su) [] []) [bG c,.i .i64 d,.pt l 0] s cx=.ret (.b (x9 c d n).1) (s.set l (.cells [.i .i64 (x9 c d n).2])):=by
 refine C.ind' fun c ih hw d n s cx hd hn hcl hs=>?_
 have hlt:l<s.length:=(List.getElem?_eq_some_iff.1 hs).1
 have w1:IntKind.i64.wrap ((n:Int)+1)=(n:Int)+1:=w64 (by omega) (by omega)
 have hs':s[l]=.cells [.i .i64 n]:=(List.getElem?_eq_some_iff.1 hs).2
 refine RS (by simp) ?_
 by_cases h8:(8:Int)<d
 ·simp [af,sU,hs',hlt,hcl,w1,h8,J8 c,show 8<d by omega]
 by_cases h64:(64:Int)<(n:Int)+1
 ·simp [af,sU,hs',hlt,hcl,w1,h8,h64,J8 c,show 64<n+1 by omega]
 ·have hw':=hw
  rw [sD] at hw'
  obtain ⟨j,h⟩:=JU c hw ⟨cx.lim,s.length⟩ l hcl d (by omega) (fun p hp=>ih p hp (by have:=xq hp;omega)) c.parts 0 (n+1) (s.set l (.cells [.i .i64 (n+1:Nat)])) (by omega) (by simp [hlt]) rfl
  simp at h
  have hcond:¬(8<d∨64<n+1):=by omega
  simp [af,sU,hs',hlt,hcl,w1,h8,h64,J8 c,hcond,h]
  repeat' (first | (split<;>(try simp only [jZ,kz,jU,pG,pI])<;>(try simp [*])) | (simp only [jZ,kz,jU,pG,pI]<;>(try simp [*]))|omega)
def Q7 (a:Nat) (c:C):Env:=[(2,.v (.pt a 0)),(10,.v (.fn (.func jW) [] [.ip (bG c).cells]))]
def rV (a:Nat) (c:C) (p:MJ):dS:=.loop (Q7 a c) [11] mJ mG p
theorem KQ (x:C) (a:Nat) {e':AV} (T:St) (cx:Ctx) (hb:cx.base≤T.length) (hlt:cx.lim≤T.length):
  aB P0.glob (ah P0) cx true mJ [(11,.v (bG x)),(2,.v (.pt a 0)),(10,.v e')] T=.norm [(2,.v (.pt a 0)),(4,.v (.pt T.length 0))] (T++[.cells (bG x).cells]):=by
 simp [mJ,hb,hlt]
theorem KP (x:C) (hx:x.name.length≤1152921504606846976) (a m:Nat) (v:AV) (S:St) (cx:Ctx) (hm:S[m]?=some (.cells (bG x).cells)) (ha:S[a]?=some (.cells [v])) (hca:cx.lim≤a):
  aB P0.glob (ah P0) cx true mG [(2,.v (.pt a 0)),(4,.v (.pt m 0))] S=
   if rQ x=0 then .norm [(2,.v (.pt a 0)),(5,.v (.i .i64 (rQ x))),(15,.v (.b false))] S else .ret [] (S.set a (.cells [.i .i64 (rQ x)])):=by
 have e1:=H6 x hx
 simp at hm
 by_cases h0:rQ x=0<;>simp [mG,hm,ha,hca,e1,h0]
theorem O4 (c x:C) (hx:x.name.length≤1152921504606846976) (a l:Nat) (v:AV) (T:St) (cx:Ctx) (hl:T[l]?=some (rV a c .ready)) (ha:T[a]?=some (.cells [v])) (hcl:cx.lim≤l) (hca:cx.lim≤a) (hb:cx.base≤T.length) (hlt:cx.lim≤T.length):
  ah P0 (.yl l) [bG x] T cx=if rQ x=0 then .ret (.b true) (T++[.cells (bG x).cells])
   else .ret (.b false) ((T.set a (.cells [.i .i64 (rQ x)])).set l (rV a c .ret)++[.cells (bG x).cells]):=by
 have hl1:l<T.length:=(List.getElem?_eq_some_iff.1 hl).1
 have ha1:a<T.length:=(List.getElem?_eq_some_iff.1 ha).1
 have hal:¬l=a:=by intro e;subst e;rw [hl] at ha;simp [rV] at ha
 have hl2:T[l]=rV a c .ready:=(List.getElem?_eq_some_iff.1 hl).2
 have hA:=KQ (e':=.fn (.func jW) [] [.ip (bG c).cells]) x a T cx hb hlt
 have hR:=KP x hx a T.length v (T.set l (rV a c .busy)++[.cells (bG x).cells]) cx (by rw [List.getElem?_append_right (by simp)];simp) (by rw [List.getElem?_append_left (by simpa using ha1)];rw [List.getElem?_set_ne hal];exact ha) hca
 refine MH (by split<;>simp) ?_
 unfold Iy
 rw [hl]
 simp only [rV,Q7,Ec,put,lk]
 simp at hA hR
 have hset:=EY hl
 simp only [rV,Q7] at hset hR
 simp at hset hR
 by_cases h0:rQ x=0
 ·simp [hA,hcl,hl1,hR,h0,rU,hset,List.getElem?_append_left,hl2,rV,Q7]
 ·simp [hA,hcl,hl1,hR,h0,rU,List.getElem?_append_left,hl2,rV,Q7,ha1,Ne.symm hal,hal]
  rw [List.set_comm _ _ hal,List.set_set]
theorem Ui (x:C):qG x=if rQ x=0 then zY x.parts else rQ x:=by
 rw [VR];unfold rQ
 by_cases h1:tZ x=false<;>by_cases h2:Fz x=false<;>simp [h1,h2]
theorem Ie (c x:C) (hw:wC x≤100000) (a l:Nat) (v:AV) (cx:Ctx) (T:St) (hl:T[l]?=some (rV a c .ready)) (ha:T[a]?=some (.cells [v])) (hcl:cx.lim≤l) (hca:cx.lim≤a)
  (ih:∀p∈x.parts,∀(T:St) (cx:Ctx),T[l]?=some (rV a c .ready)→T[a]?=some (.cells [v])→cx.lim≤l→cx.lim≤a→
   ah P0 (.fn (.func mO) [] []) [bG p,.yl l] T cx=if qG p=0 then .ret (.b true) T else .ret (.b false) ((T.set a (.cells [.i .i64 (qG p)])).set l (rV a c .ret))):
  ∀(rest:List C) (i:Nat),x.parts.drop i=rest→
  ∃j:Int,fH (aB P0.glob (ah P0) cx false jJ) [1,12,13,14] [(1,.v (.yl l)),(12,.v (slf x.z (x.parts.map bG))),(13,.v (.i .i64 x.parts.length)),(14,.v (.i .i64 i))] T=
   if zY rest=0 then .exit 0 [(1,.v (.yl l)),(12,.v (slf x.z (x.parts.map bG))),(13,.v (.i .i64 x.parts.length)),(14,.v (.i .i64 j)),(15,.v (.b false))] T
   else .ret [(4,.v (.b false))] ((T.set a (.cells [.i .i64 (zY rest)])).set l (rV a c .ret))
 | [],i,h=>by
  have h1:¬i<x.parts.length:=Nat.not_lt.2 (drop_nil h)
  refine ⟨i,ak fun K hK=>?_⟩
  simp [jJ,h1,zY]
 | p::r,i,h=>by
  obtain ⟨h1,h2,h3,h4⟩:=drop_cons h
  have h5:=h4 h3
  have hp:p∈x.parts:=by rw [←h5];exact List.getElem_mem h3
  have hlen:=yX x.parts
  have hwi:=wI (i:=i) (by rw [sD] at hw;omega)
  have e1:=ih p hp T cx hl ha hcl hca
  by_cases h0:qG p=0
  ·obtain ⟨j,ih2⟩:=Ie c x hw a l v cx T hl ha hcl hca ih r (i+1) h2
   refine ⟨j,ak fun K hK=>?_⟩
   rw [←hK] at ih2
   clear hK h4 ih
   simp at ih2
   simp [jJ,h3,h5,hwi,e1,ih2,zY,h0]
  ·refine ⟨i,ak fun K hK=>?_⟩
   clear hK h4 ih
   simp [jJ,h3,h5,hwi,e1,zY,h0]
theorem Sl (c:C) (a l:Nat) (v:AV):∀(x:C),wC x≤100000→∀(T:St) (cx:Ctx),T[l]?=some (rV a c .ready)→T[a]?=some (.cells [v])→cx.lim≤l→cx.lim≤a→
   ah P0 (.fn (.func mO) [] []) [bG x,.yl l] T cx=if qG x=0 then .ret (.b true) T else .ret (.b false) ((T.set a (.cells [.i .i64 (qG x)])).set l (rV a c .ret)):=by
 refine C.ind' fun x ih hw T cx hl ha hcl hca=>?_
 have hl1:l<T.length:=(List.getElem?_eq_some_iff.1 hl).1
 have ha1:a<T.length:=(List.getElem?_eq_some_iff.1 ha).1
 have hw':=hw
 rw [sD] at hw'
 have hy:=O4 c x (by omega) a l v T ⟨cx.lim,T.length⟩ hl ha hcl hca (Nat.le_refl _) (by simp;omega)
 refine FT (by split<;>simp) ?_
 simp at hy
 by_cases h0:rQ x=0
 ·obtain ⟨j,h⟩:=Ie c x hw a l v ⟨cx.lim,T.length⟩ (T++[.cells (bG x).cells]) (by rw [List.getElem?_append_left hl1];exact hl) (by rw [List.getElem?_append_left ha1];exact ha) hcl hca
   (fun p hp T cx=>ih p hp (by have:=xq hp;omega) T cx) x.parts 0 rfl
  simp at h
  by_cases hz:zY x.parts=0
  ·simp [af,oU,hy,h0,h,hz,Ui x,frz,AV.under]
  ·simp [af,oU,hy,h0,h,hz,Ui x,frz,AV.under,ha1,hl1,List.set_append_left]
 ·simp [af,oU,hy,h0,Ui x,frz,AV.under,List.take_append_of_le_length]
theorem U7 (s r:St) (k:Nat):(s++r)[s.length+k]?=r[k]?:=by rw [List.getElem?_append_right (by omega)];congr 1;omega
theorem Uw (s r:St) (k:Nat) (v:dS):(s++r).set (s.length+k) v=s++r.set k v:=by rw [List.set_append_right _ _ (by omega)];congr 2;omega
@[simp] theorem adT (c:C) (s:St) (cx:Ctx):ah P0 (.fn (.func vw) [] []) [bG c] s cx=.ret (.fn (.func jW) [] [.ip (bG c).cells]) s:=by
 refine RP (by simp) ?_
 simp [af,yJ,frz,qi]
theorem yU (c:C) (hw:wC c≤100000) (s:St) (cx:Ctx):ah P0 (.fn (.func jo) [] []) [bG c] s cx=.ret (.i .i64 (uD c)) s:=by
 refine EJ (by simp) ?_
 have e1:=Vo (s.length+1) c hw 0 0 (s++[.cells [.i .i64 0],.cells [.i .i64 0]]) ⟨s.length,s.length⟩ (by omega) (by omega) (by simp) (by simp)
 have hf:=adI c 0 0 (by omega)
 simp at e1
 by_cases hfit:(x9 c 0 0).1=true
 ·have hcond:¬(8<D5 c∨64<dX c):=by have:=hf.1.1 hfit;omega
  let T:St:=s++[.cells [.i .i64 0],.cells [.i .i64 (x9 c 0 0).2],.dfr,rV s.length c .ready]
  have hv:=Sl c s.length (s.length+3) (.i .i64 0) c hw T ⟨s.length,T.length⟩ (by simp [T]) (by simp [T]) (by simp) (by simp)
  have hw1:ah P0 (.fn (.func jW) [] [.ip (bG c).cells]) [.yl (s.length+3)] T ⟨s.length,s.length⟩=
    if qG c=0 then .ret (.tu []) T else .ret (.tu []) ((T.set s.length (.cells [.i .i64 (qG c)])).set (s.length+3) (rV s.length c .ret)):=by
   refine Eh (by split<;>simp) ?_
   by_cases h0:qG c=0<;>simp [h0] at hv<;>simp [af,sJ,hv,h0]
  simp [T] at hw1
  by_cases h0:qG c=0
  ·simp [h0,rV,Q7] at hw1
   simp [af,jO,e1,hfit,IK,hw1,uD,hcond,h0,Fg,show s.length+2+1=s.length+3 from rfl,U7,Uw]
  ·simp [h0,rV,Q7] at hw1
   simp [af,jO,e1,hfit,IK,hw1,uD,hcond,h0,Fg,show s.length+2+1=s.length+3 from rfl,U7,Uw]
 ·have hcond:(8<D5 c∨64<dX c):=by
   rcases Nat.lt_or_ge 8 (D5 c) with h|h
   ·exact .inl h
   ·rcases Nat.lt_or_ge 64 (dX c) with h' | h'
    ·exact .inr h'
    ·exact absurd (hf.1.2 ⟨by omega,by omega⟩) hfit
  simp [af,jO,e1,hfit,uD,hcond]
end Go.Ai.Z
