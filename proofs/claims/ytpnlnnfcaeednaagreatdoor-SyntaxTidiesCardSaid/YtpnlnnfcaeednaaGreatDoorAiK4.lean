/-
 Concepts: the program's check, whole.
-/
import Derived.Test.YtpnlnnfcaeednaaGreatDoorAiK1K2K3
set_option maxRecDepth 100000
set_option linter.unusedSimpArgs false
set_option linter.unusedVariables false
set_option linter.unusedSectionVars false
namespace Go.Ai.Z
mutual
def yh:C→Nat→Nat→Bool×Nat
 | .mk _ _ _ _ _ ps,d,n=>if 8<d∨64<n+1 then (false,n+1) else Ec ps d (n+1)
def Ec:List C→Nat→Nat→Bool×Nat
 | [],_,n=>(true,n)
 | p::r,d,n=>if (yh p (d+1) n).1=true then Ec r d (yh p (d+1) n).2 else (false,(yh p (d+1) n).2)
end
theorem KD (c:C) (d n:Nat):yh c d n=if 8<d∨64<n+1 then (false,n+1) else Ec c.parts d (n+1):=by cases c;simp [yh]
theorem aer:∀(c:C) (d n:Nat),n≤64→(yh c d n).2≤65∧((yh c d n).1=true→(yh c d n).2≤64):=by
 refine C.ind' fun c ih d n hn=>?_
 have hL:∀(l:List C),(∀p∈l,∀(d n:Nat),n≤64→(yh p d n).2≤65∧((yh p d n).1=true→(yh p d n).2≤64))→∀n,n≤64→(Ec l d n).2≤65∧((Ec l d n).1=true→(Ec l d n).2≤64):=by
  intro l
  induction l with
  | nil=>intro _ n hn;simp [Ec];omega
  | cons p r ih=>
   intro h n hn
   have h1:=h p (by simp) (d+1) n hn
   simp only [Ec]
   split
   ·rename_i ht;exact ih (fun q hq=>h q (by simp [hq])) _ (h1.2 ht)
   ·exact ⟨h1.1,by simp⟩
 rw [KD]
 split
 ·exact ⟨by simp;omega,by simp⟩
 ·exact hL c.parts ih _ (by omega)
theorem aes:∀(c:C) (d n:Nat),n≤64→((yh c d n).1=true ↔ d+mY c≤8∧n+dH c≤64)∧((yh c d n).1=true→(yh c d n).2=n+dH c):=by
 refine C.ind' fun c ih d n hn=>?_
 have hL:∀(l:List C),(∀p∈l,∀(d n:Nat),n≤64→((yh p d n).1=true ↔ d+mY p≤8∧n+dH p≤64)∧((yh p d n).1=true→(yh p d n).2=n+dH p))→∀n,n≤64→d≤8→
   ((Ec l d n).1=true ↔ d+qH l≤8∧n+dY l≤64)∧((Ec l d n).1=true→(Ec l d n).2=n+dY l):=by
  intro l
  induction l with
  | nil=>intro _ n hn hd;simp [Ec,qH,dY];omega
  | cons p r ih=>
   intro h n hn hd
   have h1:=h p (by simp) (d+1) n hn
   simp only [Ec,qH,dY]
   by_cases ht:(yh p (d+1) n).1=true
   ·have h2:=h1.2 ht
    have h3:=h1.1.1 ht
    rw [if_pos ht]
    have h4:=ih (fun q hq=>h q (by simp [hq])) (yh p (d+1) n).2 (by omega) hd
    rw [h2] at h4 ⊢
    refine ⟨h4.1.trans ⟨fun h=>⟨by omega,by omega⟩,fun h=>⟨by omega,by omega⟩⟩,fun h=>by rw [h4.2 h];omega⟩
   ·rw [if_neg ht]
    refine ⟨⟨fun h=>by simp at h,fun h=>absurd (h1.1.2 ⟨by omega,by omega⟩) ht⟩,fun h=>by simp at h⟩
 rw [KD,vw,oN]
 have hL:=hL c.parts ih
 split
 ·rename_i h;refine ⟨⟨fun h=>by simp at h,fun h=>by omega⟩,fun h=>by simp at h⟩
 ·have:=hL (n+1) (by omega) (by omega)
  refine ⟨this.1.trans ⟨fun h=>⟨by omega,by omega⟩,fun h=>⟨by omega,by omega⟩⟩,fun h=>by rw [this.2 h];omega⟩
theorem Fz {T:St} {l:Nat} {v:dW} (h:T[l]?=some v):T.set l v=T:=by
 obtain ⟨h1,h2⟩:=List.getElem?_eq_some_iff.1 h
 rw [←h2];exact List.set_getElem_self h1
theorem Ko (c:C) (hw:wC c≤100000) (cx:Ctx) (l:Nat) (hcl:cx.lim≤l) (d:Nat) (hd:d≤8)
  (ih:∀p∈c.parts,∀(d n:Nat) (s:St) (cx:Ctx),d≤100→n≤64→cx.lim≤l→s[l]?=some (.cells [.i .i64 n])→
   ah P0 (.fn (.func sO) [] []) [bF p,.i .i64 d,.pt l 0] s cx=.ret (.b (yh p d n).1) (s.set l (.cells [.i .i64 (yh p d n).2]))):
  ∀(rest:List C) (i:Nat) (n:Nat) (s:St),n≤64→s[l]?=some (.cells [.i .i64 n])→c.parts.drop i=rest→
  ∃j:Int,fC (aB P0.glob (ah P0) cx false qY) [1,2,23,24,25] [(1,.v (.i .i64 d)),(2,.v (.pt l 0)),(23,.v (slf c.z (c.parts.map bF))),(24,.v (.i .i64 c.parts.length)),(25,.v (.i .i64 i))] s=
   if (Ec rest d n).1=true then .exit 0 [(1,.v (.i .i64 d)),(2,.v (.pt l 0)),(23,.v (slf c.z (c.parts.map bF))),(24,.v (.i .i64 c.parts.length)),(25,.v (.i .i64 j)),(26,.v (.b false))] (s.set l (.cells [.i .i64 (Ec rest d n).2]))
   else .ret [(6,.v (.b false))] (s.set l (.cells [.i .i64 (Ec rest d n).2]))
 | [],i,n,s,hn,hs,h=>by
  have h1:¬i<c.parts.length:=Nat.not_lt.2 (drop_nil h)
  refine ⟨i,ak fun K hK=>?_⟩
  simp [qY,h1,Ec,Fz hs]
 | p::r,i,n,s,hn,hs,h=>by
  obtain ⟨h1,h2,h3,h4⟩:=drop_cons h
  have h5:=h4 h3
  have hp:p∈c.parts:=by rw [←h5];exact List.getElem_mem h3
  have hl:=y8 c.parts
  have hwi:=wI (i:=i) (by rw [rV] at hw;omega)
  have hlt:l<s.length:=(List.getElem?_eq_some_iff.1 hs).1
  have e1:=ih p hp (d+1) n s cx (by omega) hn hcl hs
  have w1:IntKind.i64.wrap ((d:Int)+1)=(d:Int)+1:=w64 (by omega) (by omega)
  simp at e1
  by_cases ht:(yh p (d+1) n).1=true
  ·have hle:=(aer p (d+1) n hn).2 ht
   obtain ⟨j,ih2⟩:=Ko c hw cx l hcl d hd ih r (i+1) (yh p (d+1) n).2 (s.set l (.cells [.i .i64 (yh p (d+1) n).2])) hle (by simp [hlt]) h2
   refine ⟨j,ak fun K hK=>?_⟩
   rw [←hK] at ih2
   clear hK h4 ih
   simp at ih2
   simp [qY,h3,h5,hwi,w1,e1,ih2,Ec,ht]
  ·refine ⟨i,ak fun K hK=>?_⟩
   clear hK h4 ih
   simp [qY,h3,h5,hwi,w1,e1,Ec,ht]
theorem VF (l:Nat):∀(c:C),wC c≤100000→∀(d n:Nat) (s:St) (cx:Ctx),d≤100→n≤64→cx.lim≤l→s[l]?=some (.cells [.i .i64 n])→
   ah P0 (.fn (.func sO) [] []) [bF c,.i .i64 d,.pt l 0] s cx=.ret (.b (yh c d n).1) (s.set l (.cells [.i .i64 (yh c d n).2])):=by
 refine C.ind' fun c ih hw d n s cx hd hn hcl hs=>?_
 have hlt:l<s.length:=(List.getElem?_eq_some_iff.1 hs).1
 have w1:IntKind.i64.wrap ((n:Int)+1)=(n:Int)+1:=w64 (by omega) (by omega)
 have hs':s[l]=.cells [.i .i64 n]:=(List.getElem?_eq_some_iff.1 hs).2
 refine SH (by simp) ?_
 by_cases h8:(8:Int)<d
 ·simp [af,tH,hs',hlt,hcl,w1,h8,KD c,show 8<d by omega]
 by_cases h64:(64:Int)<(n:Int)+1
 ·simp [af,tH,hs',hlt,hcl,w1,h8,h64,KD c,show 64<n+1 by omega]
 ·have hw':=hw
  rw [rV] at hw'
  obtain ⟨j,h⟩:=Ko c hw ⟨cx.lim,s.length⟩ l hcl d (by omega) (fun p hp=>ih p hp (by have:=xB hp;omega)) c.parts 0 (n+1) (s.set l (.cells [.i .i64 (n+1:Nat)])) (by omega) (by simp [hlt]) rfl
  simp at h
  have hcond:¬(8<d∨64<n+1):=by omega
  simp [af,tH,hs',hlt,hcl,w1,h8,h64,KD c,hcond,h]
  repeat' (first | (split<;>(try simp only [kD,kE,jW,pO,pR])<;>(try simp [*])) | (simp only [kD,kE,jW,pO,pR]<;>(try simp [*]))|omega)
def Rw (a:Nat) (c:C):Env:=[(2,.v (.pt a 0)),(10,.v (.fn (.func jY) [] [.ip (bF c).cells]))]
def sH (a:Nat) (c:C) (p:MV):dW:=.loop (Rw a c) [11] mP mO p
theorem Lh (x:C) (a:Nat) {e':AV} (T:St) (cx:Ctx) (hb:cx.base≤T.length) (hlt:cx.lim≤T.length):
  aB P0.glob (ah P0) cx true mP [(11,.v (bF x)),(2,.v (.pt a 0)),(10,.v e')] T=.norm [(2,.v (.pt a 0)),(4,.v (.pt T.length 0))] (T++[.cells (bF x).cells]):=by
 simp [mP,hb,hlt]
theorem Le (x:C) (hx:x.name.length≤1152921504606846976) (a m:Nat) (v:AV) (S:St) (cx:Ctx) (hm:S[m]?=some (.cells (bF x).cells)) (ha:S[a]?=some (.cells [v])) (hca:cx.lim≤a):
  aB P0.glob (ah P0) cx true mO [(2,.v (.pt a 0)),(4,.v (.pt m 0))] S=
   if sF x=0 then .norm [(2,.v (.pt a 0)),(5,.v (.i .i64 (sF x))),(15,.v (.b false))] S else .ret [] (S.set a (.cells [.i .i64 (sF x)])):=by
 have e1:=Ih x hx
 simp at hm
 by_cases h0:sF x=0<;>simp [mO,hm,ha,hca,e1,h0]
theorem Px (c x:C) (hx:x.name.length≤1152921504606846976) (a l:Nat) (v:AV) (T:St) (cx:Ctx) (hl:T[l]?=some (sH a c .ready)) (ha:T[a]?=some (.cells [v])) (hcl:cx.lim≤l) (hca:cx.lim≤a) (hb:cx.base≤T.length) (hlt:cx.lim≤T.length):
  ah P0 (.yl l) [bF x] T cx=if sF x=0 then .ret (.b true) (T++[.cells (bF x).cells])
   else .ret (.b false) ((T.set a (.cells [.i .i64 (sF x)])).set l (sH a c .ret)++[.cells (bF x).cells]):=by
 have hl1:l<T.length:=(List.getElem?_eq_some_iff.1 hl).1
 have ha1:a<T.length:=(List.getElem?_eq_some_iff.1 ha).1
 have hal:¬l=a:=by intro e;subst e;rw [hl] at ha;simp [sH] at ha
 have hl2:T[l]=sH a c .ready:=(List.getElem?_eq_some_iff.1 hl).2
 have hA:=Lh (e':=.fn (.func jY) [] [.ip (bF c).cells]) x a T cx hb hlt
 have hR:=Le x hx a T.length v (T.set l (sH a c .busy)++[.cells (bF x).cells]) cx (by rw [List.getElem?_append_right (by simp)];simp) (by rw [List.getElem?_append_left (by simpa using ha1)];rw [List.getElem?_set_ne hal];exact ha) hca
 refine MR (by split<;>simp) ?_
 unfold IJ
 rw [hl]
 simp only [sH,Rw,Em,put,lk]
 simp at hA hR
 have hset:=Fz hl
 simp only [sH,Rw] at hset hR
 simp at hset hR
 by_cases h0:sF x=0
 ·simp [hA,hcl,hl1,hR,h0,sG,hset,List.getElem?_append_left,hl2,sH,Rw]
 ·simp [hA,hcl,hl1,hR,h0,sG,List.getElem?_append_left,hl2,sH,Rw,ha1,Ne.symm hal,hal]
  rw [List.set_comm _ _ hal,List.set_set]
theorem UF (x:C):iJ x=if sF x=0 then qP x.parts else sF x:=by
 rw [BP];unfold sF
 by_cases h1:oO x=false<;>by_cases h2:xH x=false<;>simp [h1,h2]
theorem Iq (c x:C) (hw:wC x≤100000) (a l:Nat) (v:AV) (cx:Ctx) (T:St) (hl:T[l]?=some (sH a c .ready)) (ha:T[a]?=some (.cells [v])) (hcl:cx.lim≤l) (hca:cx.lim≤a)
  (ih:∀p∈x.parts,∀(T:St) (cx:Ctx),T[l]?=some (sH a c .ready)→T[a]?=some (.cells [v])→cx.lim≤l→cx.lim≤a→
   ah P0 (.fn (.func mW) [] []) [bF p,.yl l] T cx=if iJ p=0 then .ret (.b true) T else .ret (.b false) ((T.set a (.cells [.i .i64 (iJ p)])).set l (sH a c .ret))):
  ∀(rest:List C) (i:Nat),x.parts.drop i=rest→
  ∃j:Int,fC (aB P0.glob (ah P0) cx false jM) [1,12,13,14] [(1,.v (.yl l)),(12,.v (slf x.z (x.parts.map bF))),(13,.v (.i .i64 x.parts.length)),(14,.v (.i .i64 i))] T=
   if qP rest=0 then .exit 0 [(1,.v (.yl l)),(12,.v (slf x.z (x.parts.map bF))),(13,.v (.i .i64 x.parts.length)),(14,.v (.i .i64 j)),(15,.v (.b false))] T
   else .ret [(4,.v (.b false))] ((T.set a (.cells [.i .i64 (qP rest)])).set l (sH a c .ret))
 | [],i,h=>by
  have h1:¬i<x.parts.length:=Nat.not_lt.2 (drop_nil h)
  refine ⟨i,ak fun K hK=>?_⟩
  simp [jM,h1,qP]
 | p::r,i,h=>by
  obtain ⟨h1,h2,h3,h4⟩:=drop_cons h
  have h5:=h4 h3
  have hp:p∈x.parts:=by rw [←h5];exact List.getElem_mem h3
  have hlen:=y8 x.parts
  have hwi:=wI (i:=i) (by rw [rV] at hw;omega)
  have e1:=ih p hp T cx hl ha hcl hca
  by_cases h0:iJ p=0
  ·obtain ⟨j,ih2⟩:=Iq c x hw a l v cx T hl ha hcl hca ih r (i+1) h2
   refine ⟨j,ak fun K hK=>?_⟩
   rw [←hK] at ih2
   clear hK h4 ih
   simp at ih2
   simp [jM,h3,h5,hwi,e1,ih2,qP,h0]
  ·refine ⟨i,ak fun K hK=>?_⟩
   clear hK h4 ih
   simp [jM,h3,h5,hwi,e1,qP,h0]
theorem SX (c:C) (a l:Nat) (v:AV):∀(x:C),wC x≤100000→∀(T:St) (cx:Ctx),T[l]?=some (sH a c .ready)→T[a]?=some (.cells [v])→cx.lim≤l→cx.lim≤a→
   ah P0 (.fn (.func mW) [] []) [bF x,.yl l] T cx=if iJ x=0 then .ret (.b true) T else .ret (.b false) ((T.set a (.cells [.i .i64 (iJ x)])).set l (sH a c .ret)):=by
 refine C.ind' fun x ih hw T cx hl ha hcl hca=>?_
 have hl1:l<T.length:=(List.getElem?_eq_some_iff.1 hl).1
 have ha1:a<T.length:=(List.getElem?_eq_some_iff.1 ha).1
 have hw':=hw
 rw [rV] at hw'
 have hy:=Px c x (by omega) a l v T ⟨cx.lim,T.length⟩ hl ha hcl hca (Nat.le_refl _) (by simp;omega)
 refine F6 (by split<;>simp) ?_
 simp at hy
 by_cases h0:sF x=0
 ·obtain ⟨j,h⟩:=Iq c x hw a l v ⟨cx.lim,T.length⟩ (T++[.cells (bF x).cells]) (by rw [List.getElem?_append_left hl1];exact hl) (by rw [List.getElem?_append_left ha1];exact ha) hcl hca
   (fun p hp T cx=>ih p hp (by have:=xB hp;omega) T cx) x.parts 0 rfl
  simp at h
  by_cases hz:qP x.parts=0
  ·simp [af,oZ,hy,h0,h,hz,UF x,frz,AV.under]
  ·simp [af,oZ,hy,h0,h,hz,UF x,frz,AV.under,ha1,hl1,List.set_append_left]
 ·simp [af,oZ,hy,h0,UF x,frz,AV.under,List.take_append_of_le_length]
theorem Vr (s r:St) (k:Nat):(s++r)[s.length+k]?=r[k]?:=by rw [List.getElem?_append_right (by omega)];congr 1;omega
theorem UO (s r:St) (k:Nat) (v:dW):(s++r).set (s.length+k) v=s++r.set k v:=by rw [List.set_append_right _ _ (by omega)];congr 2;omega
@[simp] theorem aeG (c:C) (s:St) (cx:Ctx):ah P0 (.fn (.func vG) [] []) [bF c] s cx=.ret (.fn (.func jY) [] [.ip (bF c).cells]) s:=by
 refine SE (by simp) ?_
 simp [af,yP,frz,qw]
theorem y5 (c:C) (hw:wC c≤100000) (s:St) (cx:Ctx):ah P0 (.fn (.func jv) [] []) [bF c] s cx=.ret (.i .i64 (jl c)) s:=by
 refine EU (by simp) ?_
 have e1:=VF (s.length+1) c hw 0 0 (s++[.cells [.i .i64 0],.cells [.i .i64 0]]) ⟨s.length,s.length⟩ (by omega) (by omega) (by simp) (by simp)
 have hf:=aes c 0 0 (by omega)
 simp at e1
 by_cases hfit:(yh c 0 0).1=true
 ·have hcond:¬(8<mY c∨64<dH c):=by have:=hf.1.1 hfit;omega
  let T:St:=s++[.cells [.i .i64 0],.cells [.i .i64 (yh c 0 0).2],.dfr,sH s.length c .ready]
  have hv:=SX c s.length (s.length+3) (.i .i64 0) c hw T ⟨s.length,T.length⟩ (by simp [T]) (by simp [T]) (by simp) (by simp)
  have hw1:ah P0 (.fn (.func jY) [] [.ip (bF c).cells]) [.yl (s.length+3)] T ⟨s.length,s.length⟩=
    if iJ c=0 then .ret (.tu []) T else .ret (.tu []) ((T.set s.length (.cells [.i .i64 (iJ c)])).set (s.length+3) (sH s.length c .ret)):=by
   refine Ew (by split<;>simp) ?_
   by_cases h0:iJ c=0<;>simp [h0] at hv<;>simp [af,sU,hv,h0]
  simp [T] at hw1
  by_cases h0:iJ c=0
  ·simp [h0,sH,Rw] at hw1
   simp [af,jQ,e1,hfit,I7,hw1,jl,hcond,h0,FM,show s.length+2+1=s.length+3 from rfl,Vr,UO]
  ·simp [h0,sH,Rw] at hw1
   simp [af,jQ,e1,hfit,I7,hw1,jl,hcond,h0,FM,show s.length+2+1=s.length+3 from rfl,Vr,UO]
 ·have hcond:(8<mY c∨64<dH c):=by
   rcases Nat.lt_or_ge 8 (mY c) with h|h
   ·exact .inl h
   ·rcases Nat.lt_or_ge 64 (dH c) with h' | h'
    ·exact .inr h'
    ·exact absurd (hf.1.2 ⟨by omega,by omega⟩) hfit
  simp [af,jQ,e1,hfit,jl,hcond]
end Go.Ai.Z
