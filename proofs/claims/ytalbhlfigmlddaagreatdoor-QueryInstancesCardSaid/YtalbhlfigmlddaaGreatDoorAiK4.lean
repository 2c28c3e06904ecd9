/-
 Concepts: the program's check, whole.
-/
import Derived.Test.YtalbhlfigmlddaaGreatDoorAiK3
set_option maxRecDepth 100000
set_option linter.unusedSimpArgs false
set_option linter.unusedVariables false
set_option linter.unusedSectionVars false
namespace Go.Ai.Z
mutual
def ug:C→Nat→Nat→Bool×Nat
 | .mk _ _ _ _ _ ps,d,n=>if 8<d∨64<n+1 then (false,n+1) else zY ps d (n+1)
def zY:List C→Nat→Nat→Bool×Nat
 | [],_,n=>(true,n)
 | p::r,d,n=>if (ug p (d+1) n).1=true then zY r d (ug p (d+1) n).2 else (false,(ug p (d+1) n).2)
end
theorem GU (c:C) (d n:Nat):ug c d n=if 8<d∨64<n+1 then (false,n+1) else zY c.parts d (n+1):=by cases c;simp [ug]
theorem aaD:∀(c:C) (d n:Nat),n≤64→(ug c d n).2≤65∧((ug c d n).1=true→(ug c d n).2≤64):=by
 refine C.ind' fun c ih d n hn=>?_
 have hL:∀(l:List C),(∀p∈l,∀(d n:Nat),n≤64→(ug p d n).2≤65∧((ug p d n).1=true→(ug p d n).2≤64))→∀n,n≤64→(zY l d n).2≤65∧((zY l d n).1=true→(zY l d n).2≤64):=by
  intro l
  induction l with
  | nil=>intro _ n hn;simp [zY];omega
  | cons p r ih=>
   intro h n hn
   have h1:=h p (by simp) (d+1) n hn
   simp only [zY]
   split
   ·rename_i ht;exact ih (fun q hq=>h q (by simp [hq])) _ (h1.2 ht)
   ·exact ⟨h1.1,by simp⟩
 rw [GU]
 split
 ·exact ⟨by simp;omega,by simp⟩
 ·exact hL c.parts ih _ (by omega)
theorem aaE:∀(c:C) (d n:Nat),n≤64→((ug c d n).1=true ↔ d+Aa c≤8∧n+wH c≤64)∧((ug c d n).1=true→(ug c d n).2=n+wH c):=by
 refine C.ind' fun c ih d n hn=>?_
 have hL:∀(l:List C),(∀p∈l,∀(d n:Nat),n≤64→((ug p d n).1=true ↔ d+Aa p≤8∧n+wH p≤64)∧((ug p d n).1=true→(ug p d n).2=n+wH p))→∀n,n≤64→d≤8→
   ((zY l d n).1=true ↔ d+Jg l≤8∧n+FT l≤64)∧((zY l d n).1=true→(zY l d n).2=n+FT l):=by
  intro l
  induction l with
  | nil=>intro _ n hn hd;simp [zY,Jg,FT];omega
  | cons p r ih=>
   intro h n hn hd
   have h1:=h p (by simp) (d+1) n hn
   simp only [zY,Jg,FT]
   by_cases ht:(ug p (d+1) n).1=true
   ·have h2:=h1.2 ht
    have h3:=h1.1.1 ht
    rw [if_pos ht]
    have h4:=ih (fun q hq=>h q (by simp [hq])) (ug p (d+1) n).2 (by omega) hd
    rw [h2] at h4 ⊢
    refine ⟨h4.1.trans ⟨fun h=>⟨by omega,by omega⟩,fun h=>⟨by omega,by omega⟩⟩,fun h=>by rw [h4.2 h];omega⟩
   ·rw [if_neg ht]
    refine ⟨⟨fun h=>by simp at h,fun h=>absurd (h1.1.2 ⟨by omega,by omega⟩) ht⟩,fun h=>by simp at h⟩
 rw [GU,XF,Ym]
 have hL:=hL c.parts ih
 split
 ·rename_i h;refine ⟨⟨fun h=>by simp at h,fun h=>by omega⟩,fun h=>by simp at h⟩
 ·have:=hL (n+1) (by omega) (by omega)
  refine ⟨this.1.trans ⟨fun h=>⟨by omega,by omega⟩,fun h=>⟨by omega,by omega⟩⟩,fun h=>by rw [this.2 h];omega⟩
theorem RF {T:St} {l:Nat} {v:dn} (h:T[l]?=some v):T.set l v=T:=by
 obtain ⟨h1,h2⟩:=List.getElem?_eq_some_iff.1 h
 rw [←h2];exact List.set_getElem_self h1
inductive C.Lng:C→Prop where
 | mk (c:C) (hn:c.name.length≤1152921504606846976) (hps:c.parts.length≤1152921504606846976) (hp:∀p∈c.parts,C.Lng p):C.Lng c
theorem C.Lng.n {c:C} (h:C.Lng c):c.name.length≤1152921504606846976:=by cases h;assumption
theorem C.Lng.ps {c:C} (h:C.Lng c):c.parts.length≤1152921504606846976:=by cases h;assumption
theorem C.Lng.sub {c:C} (h:C.Lng c):∀p∈c.parts,C.Lng p:=by cases h;assumption
theorem C.Ok.lng {c:C} (h:C.Ok c):C.Lng c:=by
 induction h with
 | mk c hn hps _ _ _ _ ih=>exact .mk c hn hps ih
theorem abj:∀c:C,wC c≤100000→C.Lng c:=by
 refine C.ind' fun c ih hw=>?_
 have hl:=Yb c.parts
 rw [aa8] at hw
 exact .mk c (by omega) (by omega) fun p hp=>ih p hp (by have:=Ya hp;omega)
theorem Gj (c:C) (hw:C.Lng c) (cx:Ctx) (l:Nat) (hcl:cx.lim≤l) (d:Nat) (hd:d≤8)
  (ih:∀p∈c.parts,∀(d n:Nat) (s:St) (cx:Ctx),d≤100→n≤64→cx.lim≤l→s[l]?=some (.cells [.i .i64 n])→
   aj P0 (.fn (.func oL) [] []) [iM p,.i .i64 d,.pt l 0] s cx=.ret (.b (ug p d n).1) (s.set l (.cells [.i .i64 (ug p d n).2]))):
  ∀(rest:List C) (i:Nat) (n:Nat) (s:St),n≤64→s[l]?=some (.cells [.i .i64 n])→c.parts.drop i=rest→
  ∃j:Int,dZ (ak P0.glob (aj P0) cx false mX) [1,2,23,24,25] [(1,.v (.i .i64 d)),(2,.v (.pt l 0)),(23,.v (slf c.z (c.parts.map iM))),(24,.v (.i .i64 c.parts.length)),(25,.v (.i .i64 i))] s=
   if (zY rest d n).1=true then .exit 0 [(1,.v (.i .i64 d)),(2,.v (.pt l 0)),(23,.v (slf c.z (c.parts.map iM))),(24,.v (.i .i64 c.parts.length)),(25,.v (.i .i64 j)),(26,.v (.b false))] (s.set l (.cells [.i .i64 (zY rest d n).2]))
   else .ret [(6,.v (.b false))] (s.set l (.cells [.i .i64 (zY rest d n).2]))
 | [],i,n,s,hn,hs,h=>by
  have h1:¬i<c.parts.length:=Nat.not_lt.2 (drop_nil h)
  refine ⟨i,ai fun K hK=>?_⟩
  simp [mX,h1,zY,RF hs]
 | p::r,i,n,s,hn,hs,h=>by
  obtain ⟨h1,h2,h3,h4⟩:=drop_cons h
  have h5:=h4 h3
  have hp:p∈c.parts:=by rw [←h5];exact List.getElem_mem h3
  have hwi:=wI (i:=i) (by have:=hw.ps;omega)
  have hlt:l<s.length:=(List.getElem?_eq_some_iff.1 hs).1
  have e1:=ih p hp (d+1) n s cx (by omega) hn hcl hs
  have w1:IntKind.i64.wrap ((d:Int)+1)=(d:Int)+1:=w64 (by omega) (by omega)
  simp at e1
  by_cases ht:(ug p (d+1) n).1=true
  ·have hle:=(aaD p (d+1) n hn).2 ht
   obtain ⟨j,ih2⟩:=Gj c hw cx l hcl d hd ih r (i+1) (ug p (d+1) n).2 (s.set l (.cells [.i .i64 (ug p (d+1) n).2])) hle (by simp [hlt]) h2
   refine ⟨j,ai fun K hK=>?_⟩
   rw [←hK] at ih2
   clear hK h4 ih
   simp at ih2
   simp [mX,h3,h5,hwi,w1,e1,ih2,zY,ht]
  ·refine ⟨i,ai fun K hK=>?_⟩
   clear hK h4 ih
   simp [mX,h3,h5,hwi,w1,e1,zY,ht]
theorem Q7 (l:Nat):∀(c:C),C.Lng c→∀(d n:Nat) (s:St) (cx:Ctx),d≤100→n≤64→cx.lim≤l→s[l]?=some (.cells [.i .i64 n])→
   aj P0 (.fn (.func oL) [] []) [iM c,.i .i64 d,.pt l 0] s cx=.ret (.b (ug c d n).1) (s.set l (.cells [.i .i64 (ug c d n).2])):=by
 refine C.ind' fun c ih hw d n s cx hd hn hcl hs=>?_
 have hlt:l<s.length:=(List.getElem?_eq_some_iff.1 hs).1
 have w1:IntKind.i64.wrap ((n:Int)+1)=(n:Int)+1:=w64 (by omega) (by omega)
 have hs':s[l]=.cells [.i .i64 n]:=(List.getElem?_eq_some_iff.1 hs).2
 refine O4 (by simp) ?_
 by_cases h8:(8:Int)<d
 ·simp [ah,o9,hs',hlt,hcl,w1,h8,GU c,show 8<d by omega]
 by_cases h64:(64:Int)<(n:Int)+1
 ·simp [ah,o9,hs',hlt,hcl,w1,h8,h64,GU c,show 64<n+1 by omega]
 ·obtain ⟨j,h⟩:=Gj c hw ⟨cx.lim,s.length⟩ l hcl d (by omega) (fun p hp=>ih p hp (hw.sub p hp)) c.parts 0 (n+1) (s.set l (.cells [.i .i64 (n+1:Nat)])) (by omega) (by simp [hlt]) rfl
  simp at h
  have hcond:¬(8<d∨64<n+1):=by omega
  simp [ah,o9,hs',hlt,hcl,w1,h8,h64,GU c,hcond,h]
  repeat' (first | (split<;>(try simp only [dW,dX,dY,iK,iL])<;>(try simp [*])) | (simp only [dW,dX,dY,iK,iL]<;>(try simp [*]))|omega)
def Oh (a:Nat) (c:C):Env:=[(2,.v (.pt a 0)),(10,.v (.fn (.func jJ) [] [.ip (iM c).cells]))]
def oG (a:Nat) (c:C) (p:KZ):dn:=.loop (Oh a c) [11] jD jC p
theorem Ic (x:C) (a:Nat) {e':AV} (T:St) (cx:Ctx) (hb:cx.base≤T.length) (hlt:cx.lim≤T.length):
  ak P0.glob (aj P0) cx true jD [(11,.v (iM x)),(2,.v (.pt a 0)),(10,.v e')] T=.norm [(2,.v (.pt a 0)),(4,.v (.pt T.length 0))] (T++[.cells (iM x).cells]):=by
 simp [jD,hb,hlt]
theorem Ib (x:C) (hx:x.name.length≤1152921504606846976) (a m:Nat) (v:AV) (S:St) (cx:Ctx) (hm:S[m]?=some (.cells (iM x).cells)) (ha:S[a]?=some (.cells [v])) (hca:cx.lim≤a):
  ak P0.glob (aj P0) cx true jC [(2,.v (.pt a 0)),(4,.v (.pt m 0))] S=
   if oC x=0 then .norm [(2,.v (.pt a 0)),(5,.v (.i .i64 (oC x))),(15,.v (.b false))] S else .ret [] (S.set a (.cells [.i .i64 (oC x)])):=by
 have e1:=D5 x hx
 simp at hm
 by_cases h0:oC x=0<;>simp [jC,hm,ha,hca,e1,h0]
theorem LG (c x:C) (hx:x.name.length≤1152921504606846976) (a l:Nat) (v:AV) (T:St) (cx:Ctx) (hl:T[l]?=some (oG a c .ready)) (ha:T[a]?=some (.cells [v])) (hcl:cx.lim≤l) (hca:cx.lim≤a) (hb:cx.base≤T.length) (hlt:cx.lim≤T.length):
  aj P0 (.yl l) [iM x] T cx=if oC x=0 then .ret (.b true) (T++[.cells (iM x).cells])
   else .ret (.b false) ((T.set a (.cells [.i .i64 (oC x)])).set l (oG a c .ret)++[.cells (iM x).cells]):=by
 have hl1:l<T.length:=(List.getElem?_eq_some_iff.1 hl).1
 have ha1:a<T.length:=(List.getElem?_eq_some_iff.1 ha).1
 have hal:¬l=a:=by intro e;subst e;rw [hl] at ha;simp [oG] at ha
 have hl2:T[l]=oG a c .ready:=(List.getElem?_eq_some_iff.1 hl).2
 have hA:=Ic (e':=.fn (.func jJ) [] [.ip (iM c).cells]) x a T cx hb hlt
 have hR:=Ib x hx a T.length v (T.set l (oG a c .busy)++[.cells (iM x).cells]) cx (by rw [List.getElem?_append_right (by simp)];simp) (by rw [List.getElem?_append_left (by simpa using ha1)];rw [List.getElem?_set_ne hal];exact ha) hca
 refine Qo (by split<;>simp) ?_
 unfold Ia
 rw [hl]
 simp only [oG,Oh,Bj,put,lk]
 simp at hA hR
 have hset:=RF hl
 simp only [oG,Oh] at hset hR
 simp at hset hR
 by_cases h0:oC x=0
 ·simp [hA,hcl,hl1,hR,h0,pF,hset,List.getElem?_append_left,hl2,oG,Oh]
 ·simp [hA,hcl,hl1,hR,h0,pF,List.getElem?_append_left,hl2,oG,Oh,ha1,Ne.symm hal,hal]
  rw [List.set_comm _ _ hal,List.set_set]
theorem Qp (x:C):xI x=if oC x=0 then yI x.parts else oC x:=by
 rw [X9];unfold oC
 by_cases h1:zK x=false<;>by_cases h2:MW x=false<;>simp [h1,h2]
theorem Ea (c x:C) (hw:C.Lng x) (a l:Nat) (v:AV) (cx:Ctx) (T:St) (hl:T[l]?=some (oG a c .ready)) (ha:T[a]?=some (.cells [v])) (hcl:cx.lim≤l) (hca:cx.lim≤a)
  (ih:∀p∈x.parts,∀(T:St) (cx:Ctx),T[l]?=some (oG a c .ready)→T[a]?=some (.cells [v])→cx.lim≤l→cx.lim≤a→
   aj P0 (.fn (.func l9) [] []) [iM p,.yl l] T cx=if xI p=0 then .ret (.b true) T else .ret (.b false) ((T.set a (.cells [.i .i64 (xI p)])).set l (oG a c .ret))):
  ∀(rest:List C) (i:Nat),x.parts.drop i=rest→
  ∃j:Int,dZ (ak P0.glob (aj P0) cx false lF) [1,12,13,14] [(1,.v (.yl l)),(12,.v (slf x.z (x.parts.map iM))),(13,.v (.i .i64 x.parts.length)),(14,.v (.i .i64 i))] T=
   if yI rest=0 then .exit 0 [(1,.v (.yl l)),(12,.v (slf x.z (x.parts.map iM))),(13,.v (.i .i64 x.parts.length)),(14,.v (.i .i64 j)),(15,.v (.b false))] T
   else .ret [(4,.v (.b false))] ((T.set a (.cells [.i .i64 (yI rest)])).set l (oG a c .ret))
 | [],i,h=>by
  have h1:¬i<x.parts.length:=Nat.not_lt.2 (drop_nil h)
  refine ⟨i,ai fun K hK=>?_⟩
  simp [lF,h1,yI]
 | p::r,i,h=>by
  obtain ⟨h1,h2,h3,h4⟩:=drop_cons h
  have h5:=h4 h3
  have hp:p∈x.parts:=by rw [←h5];exact List.getElem_mem h3
  have hwi:=wI (i:=i) (by have:=hw.ps;omega)
  have e1:=ih p hp T cx hl ha hcl hca
  by_cases h0:xI p=0
  ·obtain ⟨j,ih2⟩:=Ea c x hw a l v cx T hl ha hcl hca ih r (i+1) h2
   refine ⟨j,ai fun K hK=>?_⟩
   rw [←hK] at ih2
   clear hK h4 ih
   simp at ih2
   simp [lF,h3,h5,hwi,e1,ih2,yI,h0]
  ·refine ⟨i,ai fun K hK=>?_⟩
   clear hK h4 ih
   simp [lF,h3,h5,hwi,e1,yI,h0]
theorem Ph (c:C) (a l:Nat) (v:AV):∀(x:C),C.Lng x→∀(T:St) (cx:Ctx),T[l]?=some (oG a c .ready)→T[a]?=some (.cells [v])→cx.lim≤l→cx.lim≤a→
   aj P0 (.fn (.func l9) [] []) [iM x,.yl l] T cx=if xI x=0 then .ret (.b true) T else .ret (.b false) ((T.set a (.cells [.i .i64 (xI x)])).set l (oG a c .ret)):=by
 refine C.ind' fun x ih hw T cx hl ha hcl hca=>?_
 have hl1:l<T.length:=(List.getElem?_eq_some_iff.1 hl).1
 have ha1:a<T.length:=(List.getElem?_eq_some_iff.1 ha).1
 have hy:=LG c x hw.n a l v T ⟨cx.lim,T.length⟩ hl ha hcl hca (Nat.le_refl _) (by simp;omega)
 refine NK (by split<;>simp) ?_
 simp at hy
 by_cases h0:oC x=0
 ·obtain ⟨j,h⟩:=Ea c x hw a l v ⟨cx.lim,T.length⟩ (T++[.cells (iM x).cells]) (by rw [List.getElem?_append_left hl1];exact hl) (by rw [List.getElem?_append_left ha1];exact ha) hcl hca
   (fun p hp T cx=>ih p hp (hw.sub p hp) T cx) x.parts 0 rfl
  simp at h
  by_cases hz:yI x.parts=0
  ·simp [ah,mV,hy,h0,h,hz,Qp x,frz,AV.under]
  ·simp [ah,mV,hy,h0,h,hz,Qp x,frz,AV.under,ha1,hl1,List.set_append_left]
 ·simp [ah,mV,hy,h0,Qp x,frz,AV.under,List.take_append_of_le_length]
theorem VH (s r:St) (k:Nat):(s++r)[s.length+k]?=r[k]?:=by rw [List.getElem?_append_right (by omega)];congr 1;omega
theorem Vt (s r:St) (k:Nat) (v:dn):(s++r).set (s.length+k) v=s++r.set k v:=by rw [List.set_append_right _ _ (by omega)];congr 2;omega
@[simp] theorem aaR (c:C) (s:St) (cx:Ctx):aj P0 (.fn (.func tN) [] []) [iM c] s cx=.ret (.fn (.func jJ) [] [.ip (iM c).cells]) s:=by
 refine O3 (by simp) ?_
 simp [ah,uX,frz,qJ]
theorem uj (c:C) (hw:C.Lng c) (s:St) (cx:Ctx):aj P0 (.fn (.func iH) [] []) [iM c] s cx=.ret (.i .i64 (CG c)) s:=by
 refine A8 (by simp) ?_
 have e1:=Q7 (s.length+1) c hw 0 0 (s++[.cells [.i .i64 0],.cells [.i .i64 0]]) ⟨s.length,s.length⟩ (by omega) (by omega) (by simp) (by simp)
 have hf:=aaE c 0 0 (by omega)
 simp at e1
 by_cases hfit:(ug c 0 0).1=true
 ·have hcond:¬(8<Aa c∨64<wH c):=by have:=hf.1.1 hfit;omega
  let T:St:=s++[.cells [.i .i64 0],.cells [.i .i64 (ug c 0 0).2],.dfr,oG s.length c .ready]
  have hv:=Ph c s.length (s.length+3) (.i .i64 0) c hw T ⟨s.length,T.length⟩ (by simp [T]) (by simp [T]) (by simp) (by simp)
  have hw1:aj P0 (.fn (.func jJ) [] [.ip (iM c).cells]) [.yl (s.length+3)] T ⟨s.length,s.length⟩=
    if xI c=0 then .ret (.tu []) T else .ret (.tu []) ((T.set s.length (.cells [.i .i64 (xI c)])).set (s.length+3) (oG s.length c .ret)):=by
   refine KJ (by split<;>simp) ?_
   by_cases h0:xI c=0<;>simp [h0] at hv<;>simp [ah,rD,hv,h0]
  simp [T] at hw1
  by_cases h0:xI c=0
  ·simp [h0,oG,Oh] at hw1
   simp [ah,gZ,e1,hfit,Ik,hw1,CG,hcond,h0,EC,show s.length+2+1=s.length+3 from rfl,VH,Vt]
  ·simp [h0,oG,Oh] at hw1
   simp [ah,gZ,e1,hfit,Ik,hw1,CG,hcond,h0,EC,show s.length+2+1=s.length+3 from rfl,VH,Vt]
 ·have hcond:(8<Aa c∨64<wH c):=by
   rcases Nat.lt_or_ge 8 (Aa c) with h|h
   ·exact .inl h
   ·rcases Nat.lt_or_ge 64 (wH c) with h' | h'
    ·exact .inr h'
    ·exact absurd (hf.1.2 ⟨by omega,by omega⟩) hfit
  simp [ah,gZ,e1,hfit,CG,hcond]
end Go.Ai.Z
