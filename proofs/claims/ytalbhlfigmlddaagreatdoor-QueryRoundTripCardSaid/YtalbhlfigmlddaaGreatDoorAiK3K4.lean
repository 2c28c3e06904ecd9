/-
 Concepts: what the program's check answers.
-/
import Derived.Test.YtalbhlfigmlddaaGreatDoorAiK1K2
set_option maxRecDepth 100000
set_option linter.unusedSimpArgs false
set_option linter.unusedVariables false
set_option linter.unusedSectionVars false
namespace Go.Ai.Z
def ql (c:C):Int:=if BI c=false then 21 else if PO c=false then 20 else 0
theorem Yf:P0.glob Aq=some [.i .i64 0,.i .i64 0,.i .i64 0,.b false,.i .i64 0,.i .i64 0,.i .i64 0,.b false,.i .i64 0,.i .i64 0,.i .i64 0,.b false,.i .i64 1,.i .i64 0,.i .i64 0,.b false,.i .i64 2,.i .i64 0,.i .i64 0,.b false,.i .i64 0,.i .i64 2,.i .i64 8,.b false,.i .i64 1,.i .i64 1,.i .i64 1,.b false,.i .i64 1,.i .i64 0,.i .i64 0,.b true]:=rfl
theorem Gn (c:C) (hn:c.name.length≤1152921504606846976) (s:St) (cx:Ctx):aj P0 (.fn (.func lH) [] []) [jZ c] s cx=.ret (.i .i64 (ql c)) s:=by
 refine Ew (by simp) ?_
 have e1:=zJ c.name hn
 by_cases h0:c.kind<1
 ·have:BI c=false:=by simp [BI,show ¬c.kind=1 by omega,show ¬c.kind=2 by omega,show ¬c.kind=3 by omega,show ¬c.kind=4 by omega,show ¬c.kind=5 by omega,show ¬c.kind=6 by omega,show ¬c.kind=7 by omega]
  simp [af,ja,h0,ql,this]
 by_cases h8:7<c.kind
 ·have:BI c=false:=by simp [BI,show ¬c.kind=1 by omega,show ¬c.kind=2 by omega,show ¬c.kind=3 by omega,show ¬c.kind=4 by omega,show ¬c.kind=5 by omega,show ¬c.kind=6 by omega,show ¬c.kind=7 by omega]
  simp [af,ja,h0,h8,ql,this]
 have hk:c.kind=1∨c.kind=2∨c.kind=3∨c.kind=4∨c.kind=5∨c.kind=6∨c.kind=7:=by omega
 rcases hps:c.parts with _|⟨a,_|⟨b,r⟩⟩<;>rcases hk with hk|hk|hk|hk|hk|hk|hk
 all_goals
  clear h0 h8
  simp [af,ja,hk,Yf,ql,BI,PO,hps]
  repeat' (first | (split<;>(try simp only [dD,dF,dH,gW,gX])<;>(try simp [*])) | (simp only [dD,dF,dH,gW,gX]<;>(try simp [*]))|omega)
end Go.Ai.Z
namespace Go.Ai.Z
mutual
def vZ:C→Nat→Nat→Bool×Nat
 | .mk _ _ _ _ _ ps,d,n=>if 8<d∨64<n+1 then (false,n+1) else Cj ps d (n+1)
def Cj:List C→Nat→Nat→Bool×Nat
 | [],_,n=>(true,n)
 | p::r,d,n=>if (vZ p (d+1) n).1=true then Cj r d (vZ p (d+1) n).2 else (false,(vZ p (d+1) n).2)
end
theorem Jy (c:C) (d n:Nat):vZ c d n=if 8<d∨64<n+1 then (false,n+1) else Cj c.parts d (n+1):=by cases c;simp [vZ]
theorem aec:∀(c:C) (d n:Nat),n≤64→(vZ c d n).2≤65∧((vZ c d n).1=true→(vZ c d n).2≤64):=by
 refine C.ind' fun c ih d n hn=>?_
 have hL:∀(l:List C),(∀p∈l,∀(d n:Nat),n≤64→(vZ p d n).2≤65∧((vZ p d n).1=true→(vZ p d n).2≤64))→∀n,n≤64→(Cj l d n).2≤65∧((Cj l d n).1=true→(Cj l d n).2≤64):=by
  intro l
  induction l with
  | nil=>intro _ n hn;simp [Cj];omega
  | cons p r ih=>
   intro h n hn
   have h1:=h p (by simp) (d+1) n hn
   simp only [Cj]
   split
   ·rename_i ht;exact ih (fun q hq=>h q (by simp [hq])) _ (h1.2 ht)
   ·exact ⟨h1.1,by simp⟩
 rw [Jy]
 split
 ·exact ⟨by simp;omega,by simp⟩
 ·exact hL c.parts ih _ (by omega)
theorem aed:∀(c:C) (d n:Nat),n≤64→((vZ c d n).1=true ↔ d+CB c≤8∧n+yA c≤64)∧((vZ c d n).1=true→(vZ c d n).2=n+yA c):=by
 refine C.ind' fun c ih d n hn=>?_
 have hL:∀(l:List C),(∀p∈l,∀(d n:Nat),n≤64→((vZ p d n).1=true ↔ d+CB p≤8∧n+yA p≤64)∧((vZ p d n).1=true→(vZ p d n).2=n+yA p))→∀n,n≤64→d≤8→
   ((Cj l d n).1=true ↔ d+LD l≤8∧n+IV l≤64)∧((Cj l d n).1=true→(Cj l d n).2=n+IV l):=by
  intro l
  induction l with
  | nil=>intro _ n hn hd;simp [Cj,LD,IV];omega
  | cons p r ih=>
   intro h n hn hd
   have h1:=h p (by simp) (d+1) n hn
   simp only [Cj,LD,IV]
   by_cases ht:(vZ p (d+1) n).1=true
   ·have h2:=h1.2 ht
    have h3:=h1.1.1 ht
    rw [if_pos ht]
    have h4:=ih (fun q hq=>h q (by simp [hq])) (vZ p (d+1) n).2 (by omega) hd
    rw [h2] at h4 ⊢
    refine ⟨h4.1.trans ⟨fun h=>⟨by omega,by omega⟩,fun h=>⟨by omega,by omega⟩⟩,fun h=>by rw [h4.2 h];omega⟩
   ·rw [if_neg ht]
    refine ⟨⟨fun h=>by simp at h,fun h=>absurd (h1.1.2 ⟨by omega,by omega⟩) ht⟩,fun h=>by simp at h⟩
 rw [Jy,aaT,abB]
 have hL:=hL c.parts ih
 split
 ·rename_i h;refine ⟨⟨fun h=>by simp at h,fun h=>by omega⟩,fun h=>by simp at h⟩
 ·have:=hL (n+1) (by omega) (by omega)
  refine ⟨this.1.trans ⟨fun h=>⟨by omega,by omega⟩,fun h=>⟨by omega,by omega⟩⟩,fun h=>by rw [this.2 h];omega⟩
theorem Vr {T:St} {l:Nat} {v:dA} (h:T[l]?=some v):T.set l v=T:=by
 obtain ⟨h1,h2⟩:=List.getElem?_eq_some_iff.1 h
 rw [←h2];exact List.set_getElem_self h1
inductive C.Lng:C→Prop where
 | mk (c:C) (hn:c.name.length≤1152921504606846976) (hps:c.parts.length≤1152921504606846976) (hp:∀p∈c.parts,C.Lng p):C.Lng c
theorem C.Lng.n {c:C} (h:C.Lng c):c.name.length≤1152921504606846976:=by cases h;assumption
theorem C.Lng.ps {c:C} (h:C.Lng c):c.parts.length≤1152921504606846976:=by cases h;assumption
theorem C.Lng.sub {c:C} (h:C.Lng c):∀p∈c.parts,C.Lng p:=by cases h;assumption
theorem C.Ok.lng {c:C} (h:C.Ok c):C.Lng c:=by
 induction h with
 | mk c hn hps _ _ _ _ ih=>exact .mk c hn hps ih
theorem aeS:∀c:C,wC c≤100000→C.Lng c:=by
 refine C.ind' fun c ih hw=>?_
 have hl:=abo c.parts
 rw [aeI] at hw
 exact .mk c (by omega) (by omega) fun p hp=>ih p hp (by have:=abn hp;omega)
theorem Jg (c:C) (hw:C.Lng c) (cx:Ctx) (l:Nat) (hcl:cx.lim≤l) (d:Nat) (hd:d≤8)
  (ih:∀p∈c.parts,∀(d n:Nat) (s:St) (cx:Ctx),d≤100→n≤64→cx.lim≤l→s[l]?=some (.cells [.i .i64 n])→
   aj P0 (.fn (.func qB) [] []) [jZ p,.i .i64 d,.pt l 0] s cx=.ret (.b (vZ p d n).1) (s.set l (.cells [.i .i64 (vZ p d n).2]))):
  ∀(rest:List C) (i:Nat) (n:Nat) (s:St),n≤64→s[l]?=some (.cells [.i .i64 n])→c.parts.drop i=rest→
  ∃j:Int,bg (au P0.glob (aj P0) cx false oP) [1,2,23,24,25] [(1,.v (.i .i64 d)),(2,.v (.pt l 0)),(23,.v (slf c.z (c.parts.map jZ))),(24,.v (.i .i64 c.parts.length)),(25,.v (.i .i64 i))] s=
   if (Cj rest d n).1=true then .exit 0 [(1,.v (.i .i64 d)),(2,.v (.pt l 0)),(23,.v (slf c.z (c.parts.map jZ))),(24,.v (.i .i64 c.parts.length)),(25,.v (.i .i64 j)),(26,.v (.b false))] (s.set l (.cells [.i .i64 (Cj rest d n).2]))
   else .ret [(6,.v (.b false))] (s.set l (.cells [.i .i64 (Cj rest d n).2]))
 | [],i,n,s,hn,hs,h=>by
  have h1:¬i<c.parts.length:=Nat.not_lt.2 (drop_nil h)
  refine ⟨i,ai fun K hK=>?_⟩
  simp [oP,h1,Cj,Vr hs]
 | p::r,i,n,s,hn,hs,h=>by
  obtain ⟨h1,h2,h3,h4⟩:=drop_cons h
  have h5:=h4 h3
  have hp:p∈c.parts:=by rw [←h5];exact List.getElem_mem h3
  have hwi:=wI (i:=i) (by have:=hw.ps;omega)
  have hlt:l<s.length:=(List.getElem?_eq_some_iff.1 hs).1
  have e1:=ih p hp (d+1) n s cx (by omega) hn hcl hs
  have w1:IntKind.i64.wrap ((d:Int)+1)=(d:Int)+1:=w64 (by omega) (by omega)
  simp at e1
  by_cases ht:(vZ p (d+1) n).1=true
  ·have hle:=(aec p (d+1) n hn).2 ht
   obtain ⟨j,ih2⟩:=Jg c hw cx l hcl d hd ih r (i+1) (vZ p (d+1) n).2 (s.set l (.cells [.i .i64 (vZ p (d+1) n).2])) hle (by simp [hlt]) h2
   refine ⟨j,ai fun K hK=>?_⟩
   rw [←hK] at ih2
   clear hK h4 ih
   simp at ih2
   simp [oP,h3,h5,hwi,w1,e1,ih2,Cj,ht]
  ·refine ⟨i,ai fun K hK=>?_⟩
   clear hK h4 ih
   simp [oP,h3,h5,hwi,w1,e1,Cj,ht]
theorem U0 (l:Nat):∀(c:C),C.Lng c→∀(d n:Nat) (s:St) (cx:Ctx),d≤100→n≤64→cx.lim≤l→s[l]?=some (.cells [.i .i64 n])→
   aj P0 (.fn (.func qB) [] []) [jZ c,.i .i64 d,.pt l 0] s cx=.ret (.b (vZ c d n).1) (s.set l (.cells [.i .i64 (vZ c d n).2])):=by
 refine C.ind' fun c ih hw d n s cx hd hn hcl hs=>?_
 have hlt:l<s.length:=(List.getElem?_eq_some_iff.1 hs).1
 have w1:IntKind.i64.wrap ((n:Int)+1)=(n:Int)+1:=w64 (by omega) (by omega)
 have hs':s[l]=.cells [.i .i64 n]:=(List.getElem?_eq_some_iff.1 hs).2
 refine RQ (by simp) ?_
 by_cases h8:(8:Int)<d
 ·simp [af,qM,hs',hlt,hcl,w1,h8,Jy c,show 8<d by omega]
 by_cases h64:(64:Int)<(n:Int)+1
 ·simp [af,qM,hs',hlt,hcl,w1,h8,h64,Jy c,show 64<n+1 by omega]
 ·obtain ⟨j,h⟩:=Jg c hw ⟨cx.lim,s.length⟩ l hcl d (by omega) (fun p hp=>ih p hp (hw.sub p hp)) c.parts 0 (n+1) (s.set l (.cells [.i .i64 (n+1:Nat)])) (by omega) (by simp [hlt]) rfl
  simp at h
  have hcond:¬(8<d∨64<n+1):=by omega
  simp [af,qM,hs',hlt,hcl,w1,h8,h64,Jy c,hcond,h]
  repeat' (first | (split<;>(try simp only [dD,dF,dH,gW,gX])<;>(try simp [*])) | (simp only [dD,dF,dH,gW,gX]<;>(try simp [*]))|omega)
def QL (a:Nat) (c:C):Env:=[(2,.v (.pt a 0)),(10,.v (.fn (.func kU) [] [.ip (jZ c).cells]))]
def qw (a:Nat) (c:C) (p:Og):dA:=.loop (QL a c) [11] kK kJ p
theorem J8 (x:C) (a:Nat) {e':AV} (T:St) (cx:Ctx) (hb:cx.base≤T.length) (hlt:cx.lim≤T.length):
  au P0.glob (aj P0) cx true kK [(11,.v (jZ x)),(2,.v (.pt a 0)),(10,.v e')] T=.norm [(2,.v (.pt a 0)),(4,.v (.pt T.length 0))] (T++[.cells (jZ x).cells]):=by
 simp [kK,hb,hlt]
theorem J7 (x:C) (hx:x.name.length≤1152921504606846976) (a m:Nat) (v:AV) (S:St) (cx:Ctx) (hm:S[m]?=some (.cells (jZ x).cells)) (ha:S[a]?=some (.cells [v])) (hca:cx.lim≤a):
  au P0.glob (aj P0) cx true kJ [(2,.v (.pt a 0)),(4,.v (.pt m 0))] S=
   if ql x=0 then .norm [(2,.v (.pt a 0)),(5,.v (.i .i64 (ql x))),(15,.v (.b false))] S else .ret [] (S.set a (.cells [.i .i64 (ql x)])):=by
 have e1:=Gn x hx
 simp at hm
 by_cases h0:ql x=0<;>simp [kJ,hm,ha,hca,e1,h0]
theorem OC (c x:C) (hx:x.name.length≤1152921504606846976) (a l:Nat) (v:AV) (T:St) (cx:Ctx) (hl:T[l]?=some (qw a c .ready)) (ha:T[a]?=some (.cells [v])) (hcl:cx.lim≤l) (hca:cx.lim≤a) (hb:cx.base≤T.length) (hlt:cx.lim≤T.length):
  aj P0 (.yl l) [jZ x] T cx=if ql x=0 then .ret (.b true) (T++[.cells (jZ x).cells])
   else .ret (.b false) ((T.set a (.cells [.i .i64 (ql x)])).set l (qw a c .ret)++[.cells (jZ x).cells]):=by
 have hl1:l<T.length:=(List.getElem?_eq_some_iff.1 hl).1
 have ha1:a<T.length:=(List.getElem?_eq_some_iff.1 ha).1
 have hal:¬l=a:=by intro e;subst e;rw [hl] at ha;simp [qw] at ha
 have hl2:T[l]=qw a c .ready:=(List.getElem?_eq_some_iff.1 hl).2
 have hA:=J8 (e':=.fn (.func kU) [] [.ip (jZ c).cells]) x a T cx hb hlt
 have hR:=J7 x hx a T.length v (T.set l (qw a c .busy)++[.cells (jZ x).cells]) cx (by rw [List.getElem?_append_right (by simp)];simp) (by rw [List.getElem?_append_left (by simpa using ha1)];rw [List.getElem?_set_ne hal];exact ha) hca
 refine TW (by split<;>simp) ?_
 unfold J6
 rw [hl]
 simp only [qw,QL,DR,put,lk]
 simp at hA hR
 have hset:=Vr hl
 simp only [qw,QL] at hset hR
 simp at hset hR
 by_cases h0:ql x=0
 ·simp [hA,hcl,hl1,hR,h0,qU,hset,List.getElem?_append_left,hl2,qw,QL]
 ·simp [hA,hcl,hl1,hR,h0,qU,List.getElem?_append_left,hl2,qw,QL,ha1,Ne.symm hal,hal]
  rw [List.set_comm _ _ hal,List.set_set]
theorem TY (x:C):y9 x=if ql x=0 then Ae x.parts else ql x:=by
 rw [abm];unfold ql
 by_cases h1:BI x=false<;>by_cases h2:PO x=false<;>simp [h1,h2]
theorem Gv (c x:C) (hw:C.Lng x) (a l:Nat) (v:AV) (cx:Ctx) (T:St) (hl:T[l]?=some (qw a c .ready)) (ha:T[a]?=some (.cells [v])) (hcl:cx.lim≤l) (hca:cx.lim≤a)
  (ih:∀p∈x.parts,∀(T:St) (cx:Ctx),T[l]?=some (qw a c .ready)→T[a]?=some (.cells [v])→cx.lim≤l→cx.lim≤a→
   aj P0 (.fn (.func oG) [] []) [jZ p,.yl l] T cx=if y9 p=0 then .ret (.b true) T else .ret (.b false) ((T.set a (.cells [.i .i64 (y9 p)])).set l (qw a c .ret))):
  ∀(rest:List C) (i:Nat),x.parts.drop i=rest→
  ∃j:Int,bg (au P0.glob (aj P0) cx false nD) [1,12,13,14] [(1,.v (.yl l)),(12,.v (slf x.z (x.parts.map jZ))),(13,.v (.i .i64 x.parts.length)),(14,.v (.i .i64 i))] T=
   if Ae rest=0 then .exit 0 [(1,.v (.yl l)),(12,.v (slf x.z (x.parts.map jZ))),(13,.v (.i .i64 x.parts.length)),(14,.v (.i .i64 j)),(15,.v (.b false))] T
   else .ret [(4,.v (.b false))] ((T.set a (.cells [.i .i64 (Ae rest)])).set l (qw a c .ret))
 | [],i,h=>by
  have h1:¬i<x.parts.length:=Nat.not_lt.2 (drop_nil h)
  refine ⟨i,ai fun K hK=>?_⟩
  simp [nD,h1,Ae]
 | p::r,i,h=>by
  obtain ⟨h1,h2,h3,h4⟩:=drop_cons h
  have h5:=h4 h3
  have hp:p∈x.parts:=by rw [←h5];exact List.getElem_mem h3
  have hwi:=wI (i:=i) (by have:=hw.ps;omega)
  have e1:=ih p hp T cx hl ha hcl hca
  by_cases h0:y9 p=0
  ·obtain ⟨j,ih2⟩:=Gv c x hw a l v cx T hl ha hcl hca ih r (i+1) h2
   refine ⟨j,ai fun K hK=>?_⟩
   rw [←hK] at ih2
   clear hK h4 ih
   simp at ih2
   simp [nD,h3,h5,hwi,e1,ih2,Ae,h0]
  ·refine ⟨i,ai fun K hK=>?_⟩
   clear hK h4 ih
   simp [nD,h3,h5,hwi,e1,Ae,h0]
theorem Sl (c:C) (a l:Nat) (v:AV):∀(x:C),C.Lng x→∀(T:St) (cx:Ctx),T[l]?=some (qw a c .ready)→T[a]?=some (.cells [v])→cx.lim≤l→cx.lim≤a→
   aj P0 (.fn (.func oG) [] []) [jZ x,.yl l] T cx=if y9 x=0 then .ret (.b true) T else .ret (.b false) ((T.set a (.cells [.i .i64 (y9 x)])).set l (qw a c .ret)):=by
 refine C.ind' fun x ih hw T cx hl ha hcl hca=>?_
 have hl1:l<T.length:=(List.getElem?_eq_some_iff.1 hl).1
 have ha1:a<T.length:=(List.getElem?_eq_some_iff.1 ha).1
 have hy:=OC c x hw.n a l v T ⟨cx.lim,T.length⟩ hl ha hcl hca (Nat.le_refl _) (by simp;omega)
 refine Qo (by split<;>simp) ?_
 simp at hy
 by_cases h0:ql x=0
 ·obtain ⟨j,h⟩:=Gv c x hw a l v ⟨cx.lim,T.length⟩ (T++[.cells (jZ x).cells]) (by rw [List.getElem?_append_left hl1];exact hl) (by rw [List.getElem?_append_left ha1];exact ha) hcl hca
   (fun p hp T cx=>ih p hp (hw.sub p hp) T cx) x.parts 0 rfl
  simp at h
  by_cases hz:Ae x.parts=0
  ·simp [af,oN,hy,h0,h,hz,TY x,frz,AV.under]
  ·simp [af,oN,hy,h0,h,hz,TY x,frz,AV.under,ha1,hl1,List.set_append_left]
 ·simp [af,oN,hy,h0,TY x,frz,AV.under,List.take_append_of_le_length]
theorem Zb (s r:St) (k:Nat):(s++r)[s.length+k]?=r[k]?:=by rw [List.getElem?_append_right (by omega)];congr 1;omega
theorem YK (s r:St) (k:Nat) (v:dA):(s++r).set (s.length+k) v=s++r.set k v:=by rw [List.set_append_right _ _ (by omega)];congr 2;omega
@[simp] theorem aeo (c:C) (s:St) (cx:Ctx):aj P0 (.fn (.func vO) [] []) [jZ c] s cx=.ret (.fn (.func kU) [] [.ip (jZ c).cells]) s:=by
 refine RP (by simp) ?_
 simp [af,xk,frz,tY]
theorem wu (c:C) (hw:C.Lng c) (s:St) (cx:Ctx):aj P0 (.fn (.func ji) [] []) [jZ c] s cx=.ret (.i .i64 (EL c)) s:=by
 refine Dy (by simp) ?_
 have e1:=U0 (s.length+1) c hw 0 0 (s++[.cells [.i .i64 0],.cells [.i .i64 0]]) ⟨s.length,s.length⟩ (by omega) (by omega) (by simp) (by simp)
 have hf:=aed c 0 0 (by omega)
 simp at e1
 by_cases hfit:(vZ c 0 0).1=true
 ·have hcond:¬(8<CB c∨64<yA c):=by have:=hf.1.1 hfit;omega
  let T:St:=s++[.cells [.i .i64 0],.cells [.i .i64 (vZ c 0 0).2],.dfr,qw s.length c .ready]
  have hv:=Sl c s.length (s.length+3) (.i .i64 0) c hw T ⟨s.length,T.length⟩ (by simp [T]) (by simp [T]) (by simp) (by simp)
  have hw1:aj P0 (.fn (.func kU) [] [.ip (jZ c).cells]) [.yl (s.length+3)] T ⟨s.length,s.length⟩=
    if y9 c=0 then .ret (.tu []) T else .ret (.tu []) ((T.set s.length (.cells [.i .i64 (y9 c)])).set (s.length+3) (qw s.length c .ret)):=by
   refine NR (by split<;>simp) ?_
   by_cases h0:y9 c=0<;>simp [h0] at hv<;>simp [af,uo,hv,h0]
  simp [T] at hw1
  by_cases h0:y9 c=0
  ·simp [h0,qw,QL] at hw1
   simp [af,iH,e1,hfit,Ku,hw1,EL,hcond,h0,Hf,show s.length+2+1=s.length+3 from rfl,Zb,YK]
  ·simp [h0,qw,QL] at hw1
   simp [af,iH,e1,hfit,Ku,hw1,EL,hcond,h0,Hf,show s.length+2+1=s.length+3 from rfl,Zb,YK]
 ·have hcond:(8<CB c∨64<yA c):=by
   rcases Nat.lt_or_ge 8 (CB c) with h|h
   ·exact .inl h
   ·rcases Nat.lt_or_ge 64 (yA c) with h' | h'
    ·exact .inr h'
    ·exact absurd (hf.1.2 ⟨by omega,by omega⟩) hfit
  simp [af,iH,e1,hfit,EL,hcond]
end Go.Ai.Z
