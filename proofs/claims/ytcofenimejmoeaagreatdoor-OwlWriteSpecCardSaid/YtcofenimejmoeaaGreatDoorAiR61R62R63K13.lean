/-
 terms.Vocabulary: the sets of names that it gathers.
-/
import Derived.Test.YtcofenimejmoeaaGreatDoorAiK8K9K10K11K12
import Derived.Test.YtcofenimejmoeaaGreatDoorAiRchR1R2
import Derived.Test.YtcofenimejmoeaaGreatDoorAiCircCRefR37
import Derived.Test.YtcofenimejmoeaaGreatDoorAiK1K2K3K4
import Derived.Test.YtcofenimejmoeaaGreatDoorAiR3R4R5
set_option maxRecDepth 100000
set_option linter.unusedSimpArgs false
set_option linter.unusedVariables false
set_option linter.unusedSectionVars false
namespace Go.Ai.Z
def uY (V:List Rl) (k:Rl):List Rl:=if k∈V then V else V++[k]
theorem Jh {k:Rl}:∀{V:List Rl},k∈V→Dh 1 (.s k) (.b true) (uf V)=some (uf V)
 | [],h=>by cases h
 | x::V,h=>by
  by_cases hk:k=x
  ·subst hk;simp [uf,Dh,o9]
  ·have h':k∈V:=by
    rcases List.mem_cons.1 h with h|h
    ·exact absurd h hk
    ·exact h
   have ih:=Jh h'
   simp only [uf] at ih ⊢
   simp [Dh,o9,hk,ih]
theorem y7 (k:Rl) (V:List Rl):Dh 1 (.s k) (.b true) (uf V)=some (uf (uY V k)):=by
 unfold uY
 split
 ·rename_i h;exact Jh h
 ·rename_i h;exact SN h
theorem zu {V:List Rl} {k x:Rl}:x∈uY V k ↔ x=k∨x∈V:=by
 unfold uY
 split
 ·rename_i h
  exact ⟨.inr,fun hh=>by rcases hh with rfl|hh<;>assumption⟩
 ·simp [or_comm]
theorem Xc {V:List Rl} (hV:V.Nodup) (k:Rl):(uY V k).Nodup:=by
 unfold uY
 split
 ·exact hV
 ·rename_i h
  exact List.nodup_append.2 ⟨hV,by simp,fun a ha b hb=>by simp at hb;subst hb;exact fun e=>h (e ▸ ha)⟩
theorem Ci (V:List Rl) (k:Rl):(uY V k).length≤V.length+1:=by
 unfold uY
 split<;>simp
def Gs (V:List Rl) (k:Rl):List Rl:=V.erase k
theorem SQ (k:Rl):∀V:List Rl,Ik 1 (.s k) (uf V)=some (uf (Gs V k))
 | []=>rfl
 | x::V=>by
  have ih:=SQ k V
  simp only [uf,Gs] at ih ⊢
  by_cases hk:k=x
  ·subst hk;simp [Ik,o9]
  ·have hk':¬x=k:=fun h=>hk h.symm
   simp [Ik,o9,hk,ih,List.erase_cons,hk']
structure V4 where
 c:List Rl
 r:List Rl
 f:List Rl
 i:List Rl
def V4.ob (v:V4):St:=[.map (uf v.c),.map (uf v.r),.map (uf v.f),.map (uf v.i)]
def V4.nil:V4:=⟨[],[],[],[]⟩
def V4.add (v:V4) (x:C):V4:=
 if x.kind=3 then { v with c:=uY v.c x.name } else if x.kind=6 then { v with r:=uY v.r x.name }
 else if x.kind=7 then { v with f:=uY v.f x.name } else if x.kind=4 then { v with i:=uY v.i x.name } else v
mutual
def mZ:C→V4→V4
 | .mk k n l h z ps,v=>Ad ps (v.add (.mk k n l h z ps))
def Ad:List C→V4→V4
 | [],v=>v
 | p::r,v=>Ad r (mZ p v)
end
theorem FI (x:C) (v:V4):mZ x v=Ad x.parts (v.add x):=by cases x;simp [mZ]
structure LB (n:Nat) (V:List Rl):Prop where
 nd:V.Nodup
 len:V.length≤n
 nm:∀x∈V,x.length≤7000
theorem LB.add {n:Nat} {V:List Rl} (h:LB n V) {k:Rl} (hk:k.length≤7000):LB (n+1) (uY V k):=
 ⟨Xc h.nd k,by have:=Ci V k;have:=h.len;omega,fun x hx=>by
  rcases zu.1 hx with rfl|hx
  ·exact hk
  ·exact h.nm x hx⟩
theorem LB.le {n m:Nat} {V:List Rl} (h:LB n V) (hm:n≤m):LB m V:=⟨h.nd,Nat.le_trans h.len hm,h.nm⟩
theorem LB.del {n:Nat} {V:List Rl} (h:LB n V) (k:Rl):LB n (Gs V k):=
 ⟨h.nd.sublist List.erase_sublist,Nat.le_trans List.erase_sublist.length_le h.len,fun x hx=>h.nm x (List.erase_sublist.subset hx)⟩
structure VB (n:Nat) (v:V4):Prop where
 c:LB n v.c
 r:LB n v.r
 f:LB n v.f
 i:LB n v.i
theorem VB.le {n m:Nat} {v:V4} (h:VB n v) (hm:n≤m):VB m v:=⟨h.c.le hm,h.r.le hm,h.f.le hm,h.i.le hm⟩
theorem VB.add {n:Nat} {v:V4} (h:VB n v) {x:C} (hx:x.name.length≤7000):VB (n+1) (v.add x):=by
 have h':=h.le (Nat.le_succ n)
 unfold V4.add
 split
 ·exact ⟨h.c.add hx,h'.r,h'.f,h'.i⟩
 ·split
  ·exact ⟨h'.c,h.r.add hx,h'.f,h'.i⟩
  ·split
   ·exact ⟨h'.c,h'.r,h.f.add hx,h'.i⟩
   ·split
    ·exact ⟨h'.c,h'.r,h'.f,h.i.add hx⟩
    ·exact h'
theorem ZL:∀(x:C),wC x≤150→∀(n:Nat) (v:V4),VB n v→VB (n+wC x) (mZ x v):=by
 refine C.ind' fun x ih hw n v hv=>?_
 have hw':=hw
 rw [nY] at hw'
 have hL:∀(l:List C),(∀p∈l,wC p≤150→∀(n:Nat) (v:V4),VB n v→VB (n+wC p) (mZ p v))→wL l≤150→∀(n:Nat) (v:V4),VB n v→VB (n+wL l) (Ad l v):=by
  intro l
  induction l with
  | nil=>intro _ _ n v hv;simpa [Ad,wL] using hv
  | cons p r ihr=>
   intro h hl n v hv
   simp only [wL] at hl ⊢
   have h1:=h p (by simp) (by omega) n v hv
   have h2:=ihr (fun q hq=>h q (by simp [hq])) (by omega) _ _ h1
   simp only [Ad]
   rw [show n+(wC p+wL r)=n+wC p+wL r by omega]
   exact h2
 rw [FI,nY]
 exact (hL x.parts ih (by omega) (n+1) (v.add x) (hv.add (by omega))).le (by omega)
def Gz (V:List Rl):List Rl→List Rl
 | []=>V
 | r::rs=>Gz (uY V r) rs
theorem LB.Gz {rs:List Rl}:∀{n:Nat} {V:List Rl},LB n V→(∀r∈rs,r.length≤7000)→LB (n+rs.length) (Gz V rs):=by
 induction rs with
 | nil=>intro n V h _;exact h
 | cons r rs ih=>
  intro n V h hr
  have:=ih (h.add (hr r (by simp))) fun x hx=>hr x (by simp [hx])
  simp only [List.length_cons]
  rw [show n+(rs.length+1)=n+1+rs.length by omega]
  exact this
def UZ (x:Ax) (v:V4):V4:=
 let u:=mZ x.right (mZ x.left v)
 ⟨u.c,uY (Gz u.r x.roles) x.role,u.f,uY (uY u.i x.a) x.b⟩
theorem abx {x:Ax} (hx:x.Few) {n:Nat} {v:V4} (h:VB n v):VB (n+1000) (UZ x v):=by
 have h1:=ZL x.left hx.l n v h
 have h2:=ZL x.right hx.r _ _ h1
 have l1:=hx.l
 have l2:=hx.r
 have l3:=hx.roles
 have l4:=hx.role
 have l5:=hx.a
 have l6:=hx.b
 refine ⟨h2.c.le (by omega),(((h2.r.Gz fun r hr=>?_).add (by omega)).le (by omega)),h2.f.le (by omega),((h2.i.add (by omega)).add (by omega)).le (by omega)⟩
 have:=hx.rs r hr;omega
def ng:List Ax→V4→V4
 | [],v=>v
 | x::r,v=>ng r (UZ x v)
theorem RN:∀{l:List Ax},(∀x∈l,x.Few)→∀{n:Nat} {v:V4},VB n v→VB (n+1000 * l.length) (ng l v)
 | [],_,n,v,h=>h
 | x::l,hx,n,v,h=>by
  have h1:=RN (l:=l) (fun y hy=>hx y (by simp [hy])) (abx (hx x (by simp)) h)
  simp only [List.length_cons,ng]
  rw [show n+1000 * (l.length+1)=n+1000+1000 * l.length by omega]
  exact h1
theorem VB.nil:VB 0 V4.nil:=⟨⟨by simp [V4.nil],by simp [V4.nil],by simp [V4.nil]⟩,⟨by simp [V4.nil],by simp [V4.nil],by simp [V4.nil]⟩,⟨by simp [V4.nil],by simp [V4.nil],by simp [V4.nil]⟩,⟨by simp [V4.nil],by simp [V4.nil],by simp [V4.nil]⟩⟩
end Go.Ai.Z
namespace Go.Ai.Z
def ofE (n:Nat):List (AV×AV):=[(.i .i64 3,.mp n),(.i .i64 6,.mp (n+1)),(.i .i64 7,.mp (n+2)),(.i .i64 4,.mp (n+3))]
def vcE (n:Nat) (lv sv:AV) (len i k:Int) (c:C):Env:=
 [(2,.v .u),(3,.v (.i .i64 0)),(7,.v (.mp n)),(8,.v (.mp (n+1))),(9,.v (.mp (n+2))),(10,.v (.mp (n+3))),(11,.v (.pt (n+5) 0)),(13,.v .u),(44,.v lv),(45,.v (.i .i64 len)),(46,.v (.i .i64 i)),(54,.v sv),(55,.v (.i .i64 2)),(56,.v (.i .i64 k)),(61,.v (.fn (.func gI) [] [.ip (bn c).cells]))]
def vcL (n:Nat) (lv sv:AV) (len i k:Int) (c:C) (p:Lp):gG:=.loop (vcE n lv sv len i k c) [62] kF eG p
def vcH (s:St) (v:V4) (r:St):St:=s++(.map (uf v.c)::.map (uf v.r)::.map (uf v.f)::.map (uf v.i)::.map (ofE s.length)::.cells [.mp (s.length+4)]::r)
section
variable {s r q:St} {v:V4}
@[simp] theorem ahW:(vcH s v r)[s.length]?=some (.map (uf v.c)):=by simp [vcH]
@[simp] theorem ahV:(vcH s v r)[s.length+1]?=some (.map (uf v.r)):=by simp [vcH]
@[simp] theorem ahU:(vcH s v r)[s.length+2]?=some (.map (uf v.f)):=by simp [vcH]
@[simp] theorem ahT:(vcH s v r)[s.length+3]?=some (.map (uf v.i)):=by simp [vcH]
@[simp] theorem ahS:(vcH s v r)[s.length+4]?=some (.map (ofE s.length)):=by simp [vcH]
@[simp] theorem ahR:(vcH s v r)[s.length+5]?=some (.cells [.mp (s.length+4)]):=by simp [vcH]
theorem RP (p:Nat):(vcH s v r)[s.length+6+p]?=r[p]?:=by
 unfold vcH
 rw [List.getElem?_append_right (by omega),show s.length+6+p - s.length=p+6 by omega]
 rfl
@[simp] theorem agt:(vcH s v r).length=s.length+6+r.length:=by simp [vcH];omega
@[simp] theorem aby:vcH s v r++q=vcH s v (r++q):=by simp [vcH]
@[simp] theorem aeG {V:List Rl}:(vcH s v r).set s.length (.map (uf V))=vcH s { v with c:=V } r:=by simp [vcH]
@[simp] theorem aeF {V:List Rl}:(vcH s v r).set (s.length+1) (.map (uf V))=vcH s { v with r:=V } r:=by
 unfold vcH;rw [List.set_append,if_neg (by omega)];simp
@[simp] theorem aeE {V:List Rl}:(vcH s v r).set (s.length+2) (.map (uf V))=vcH s { v with f:=V } r:=by
 unfold vcH;rw [List.set_append,if_neg (by omega)];simp
@[simp] theorem aeD {V:List Rl}:(vcH s v r).set (s.length+3) (.map (uf V))=vcH s { v with i:=V } r:=by
 unfold vcH;rw [List.set_append,if_neg (by omega)];simp
theorem IQ (p:Nat) (o:gG):(vcH s v r).set (s.length+6+p) o=vcH s v (r.set p o):=by
 unfold vcH
 rw [List.set_append,if_neg (by omega),show s.length+6+p - s.length=p+6 by omega]
 rfl
theorem ZO (v':V4):(vcH s v' (r++q)).take (s.length+6+r.length)=vcH s v' r:=by
 rw [←aby,List.take_append_of_le_length (by simp),List.take_of_length_le (by simp)]
end
theorem abv (x:C) (s:St) (v:V4) (r:St) (lv sv:AV) (len i k:Int) (c:C) (cx:Ctx) (hb:cx.base≤s.length+6+r.length) (hl:cx.lim≤s.length):
  au P0.glob (ai P0) cx true kF ((62,.v (bn x))::vcE s.length lv sv len i k c) (vcH s v r)=
   .norm [(11,.v (.pt (s.length+5) 0)),(16,.v (.pt (s.length+6+r.length) 0))] (vcH s v (r++[.cells (bn x).cells])):=by
 have h1:cx.lim≤s.length+6+r.length:=by omega
 have h2:=RP (s:=s) (v:=v) (r:=r++[.cells [.i .i64 0,.s [],.i .i64 0,.i .i64 0,.ns]]) r.length
 have h3:=IQ (s:=s) (v:=v) (r:=r++[.cells [.i .i64 0,.s [],.i .i64 0,.i .i64 0,.ns]]) r.length (.cells (bn x).cells)
 simp at h2 h3
 simp [kF,vcE,hb,h1,h2,h3]
theorem abu (x:C) (s:St) (v:V4) (r:St) (m:Nat) (hm:r[m]?=some (.cells (bn x).cells)) (cx:Ctx) (hl:cx.lim≤s.length):
  ∃e',au P0.glob (ai P0) cx true eG [(11,.v (.pt (s.length+5) 0)),(16,.v (.pt (s.length+6+m) 0))] (vcH s v r)=.norm e' (vcH s (v.add x) r):=by
 have h1:=RP (s:=s) (v:=v) (r:=r) m
 rw [hm] at h1
 simp at h1
 have l1:cx.lim≤s.length+1:=by omega
 have l2:cx.lim≤s.length+2:=by omega
 have l3:cx.lim≤s.length+3:=by omega
 by_cases k3:x.kind=3
 ·exact ⟨_,by simp [eG,h1,ofE,find,o9,um,k3,hl,y7,V4.add];rfl⟩
 by_cases k6:x.kind=6
 ·exact ⟨_,by simp [eG,h1,ofE,find,o9,um,k6,hl,l1,y7,V4.add];rfl⟩
 by_cases k7:x.kind=7
 ·exact ⟨_,by simp [eG,h1,ofE,find,o9,um,k7,hl,l2,y7,V4.add];rfl⟩
 by_cases k4:x.kind=4
 ·exact ⟨_,by simp [eG,h1,ofE,find,o9,um,k4,hl,l3,y7,V4.add];rfl⟩
 ·exact ⟨_,by simp [eG,h1,ofE,find,o9,um,k3,k4,k6,k7,hl,V4.add];rfl⟩
theorem aeB (x:C) (s:St) (v:V4) (r:St) (lv sv:AV) (len i k:Int) (c:C) (p:Nat) (hp:r[p]?=some (vcL s.length lv sv len i k c .ready)) (cx:Ctx) (hb:cx.base≤s.length+6+r.length) (hl:cx.lim≤s.length):
  ai P0 (.yl (s.length+6+p)) [bn x] (vcH s v r) cx=.ret (.b true) (vcH s (v.add x) (r++[.cells (bn x).cells])):=by
 have hp1:p<r.length:=(List.getElem?_eq_some_iff.1 hp).1
 have hA:=abv x s v r lv sv len i k c cx hb hl
 obtain ⟨e',hR⟩:=abu x s v ((r++[gG.cells (bn x).cells]).set p (vcL s.length lv sv len i k c .busy)) r.length (by
  rw [List.getElem?_set_ne (by omega)];simp) cx hl
 refine Ll (by simp) ?_
 unfold Ho
 rw [RP,hp]
 have g1:(r++[gG.cells (bn x).cells])[p]?=some (vcL s.length lv sv len i k c .ready):=by rw [List.getElem?_append_left hp1];exact hp
 have hlp:cx.lim≤s.length+6+p:=by omega
 have hput:BF (vcE s.length lv sv len i k c) [62] [bn x]=(62,.v (bn x))::vcE s.length lv sv len i k c:=by simp [BF,put,vcE,lk]
 simp only [vcL,List.length_cons,List.length_nil,hlp,and_self,if_true,hput,hA,vV]
 rw [RP,g1]
 simp only [vcL,IQ]
 simp only [vcL] at hR
 rw [hR]
 simp only [FU,oJ,RP]
 rw [List.getElem?_set_self (by simp;omega)]
 simp only [IQ,List.set_set]
 have g2:=Oi g1
 simp only [vcL] at g2
 rw [g2]
theorem L8 (x:C) (hw:wC x≤100000) (s:St) (r:St) (p:Nat) (cx:Ctx)
  (ih:∀y∈x.parts,∀v:V4,ai P0 (.fn (.func jE) [] []) [bn y,.yl (s.length+6+p)] (vcH s v r) cx=.ret (.b true) (vcH s (mZ y v) r)):
  ∀(rest:List C) (i:Nat) (v:V4),x.parts.drop i=rest→
  ∃j:Int,eX (au P0.glob (ai P0) cx false ig) [1,12,13,14] [(1,.v (.yl (s.length+6+p))),(12,.v (slf x.z (x.parts.map bn))),(13,.v (.i .i64 x.parts.length)),(14,.v (.i .i64 i))] (vcH s v r)=
   .exit 0 [(1,.v (.yl (s.length+6+p))),(12,.v (slf x.z (x.parts.map bn))),(13,.v (.i .i64 x.parts.length)),(14,.v (.i .i64 j)),(15,.v (.b false))] (vcH s (Ad rest v) r)
 | [],i,v,h=>by
  have h1:¬i<x.parts.length:=Nat.not_lt.2 (drop_nil h)
  refine ⟨i,aj fun K hK=>?_⟩
  simp [ig,h1,Ad]
 | y::rest,i,v,h=>by
  obtain ⟨h1,h2,h3,h4⟩:=drop_cons h
  have h5:=h4 h3
  have hp:y∈x.parts:=by rw [←h5];exact List.getElem_mem h3
  have hlen:=Ba x.parts
  have hwi:=wI (i:=i) (by rw [nY] at hw;omega)
  have e1:=ih y hp v
  obtain ⟨j,ih2⟩:=L8 x hw s r p cx ih rest (i+1) (mZ y v) h2
  refine ⟨j,aj fun K hK=>?_⟩
  rw [←hK] at ih2
  clear hK h4 ih
  simp at ih2
  simp [ig,h3,h5,hwi,e1,ih2,Ad]
theorem Wh (s:St) (lv sv:AV) (len i k:Int) (c:C) (p:Nat):∀(x:C),wC x≤100000→∀(r:St) (v:V4) (cx:Ctx),r[p]?=some (vcL s.length lv sv len i k c .ready)→cx.lim≤s.length→
   ai P0 (.fn (.func jE) [] []) [bn x,.yl (s.length+6+p)] (vcH s v r) cx=.ret (.b true) (vcH s (mZ x v) r):=by
 refine C.ind' fun x ih hw r v cx hp hl=>?_
 have hp1:p<r.length:=(List.getElem?_eq_some_iff.1 hp).1
 have hw':=hw
 rw [nY] at hw'
 have hy:=aeB x s v r lv sv len i k c p hp ⟨cx.lim,s.length+6+r.length⟩ (Nat.le_refl _) hl
 obtain ⟨j,h⟩:=L8 x hw s (r++[gG.cells (bn x).cells]) p ⟨cx.lim,s.length+6+r.length⟩
  (fun y hy v=>ih y hy (by have:=wS hy;omega) (r++[gG.cells (bn x).cells]) v _ (by rw [List.getElem?_append_left hp1];exact hp) hl) x.parts 0 (v.add x) rfl
 refine ES (by simp) ?_
 rw [←FI] at h
 simp at h
 simp [af,kW,hy,h,frz,AV.under]
 exact ZO _
theorem XH (s:St) (lv sv:AV) (len i k:Int) (c:C) (p:Nat) (hw:wC c≤100000) (r:St) (v:V4) (cx:Ctx) (hp:r[p]?=some (vcL s.length lv sv len i k c .ready)) (hl:cx.lim≤s.length):
  ai P0 (.fn (.func gI) [] [.ip (bn c).cells]) [.yl (s.length+6+p)] (vcH s v r) cx=.ret (.tu []) (vcH s (mZ c v) r):=by
 have hv:=Wh s lv sv len i k c p c hw r v ⟨cx.lim,s.length+6+r.length⟩ hp hl
 refine DY (by simp) ?_
 simp [af,pq,hv]
end Go.Ai.Z
namespace Go.Ai.Z
theorem acA (s:St) (a:Nat) (cx:Ctx):ai P0 (.fn (.func bH) [] []) [.mp a] s cx=.ret (.fn (.func 91) [] [.kb (.mp a)]) s:=
 rU (h:=VJ 91) rfl rfl
theorem FX {n:Nat} {V:List Rl} (h:LB n V) (hn:n≤1048576) (s:St) (a:Nat) (ha:s[a]?=some (.map (uf V))) (cx:Ctx):ai P0 (.fn (.func gW) [] []) [.fn (.func 91) [] [.kb (.mp a)]] s cx=.ret (slS (sN V)) s:=by
 refine rU (h:=FT [91]) rfl ?_
 have h1:=Oe (YQ h.nd)
 have h2:VG s (.mp a)=some V:=by simp only [VG,ha];exact RZ V
 have h3:=h.len
 have h4:V.length≤1048576:=by omega
 simp [FT,h2,h1,h4]
 exact fun x hx=>by have:=h.nm x hx;omega
theorem Xj (s:St) (x:Ax) (hx:x.Few) (lv:AV) (len i:Int) (cx:Ctx) (hl:cx.lim≤s.length) (hb:cx.base≤s.length):
  ∀(n k:Nat) (v:V4) (r:St),k+n=2→
  ∃(j:Int) (r':St),eX (au P0.glob (ai P0) cx false iW) [2,3,7,8,9,10,11,13,44,45,46,54,55,56]
    [(2,.bx [.ns,.ns,.ns,.ns]),(3,.v (.i .i64 0)),(7,.v (.mp s.length)),(8,.v (.mp (s.length+1))),(9,.v (.mp (s.length+2))),(10,.v (.mp (s.length+3))),(11,.v (.pt (s.length+5) 0)),(13,bxA x),(44,.v lv),(45,.v (.i .i64 len)),(46,.v (.i .i64 i)),(54,.v (.sl [bn x.left,bn x.right])),(55,.v (.i .i64 2)),(56,.v (.i .i64 k))] (vcH s v r)=
    .exit 4 [(2,.bx [.ns,.ns,.ns,.ns]),(3,.v (.i .i64 0)),(7,.v (.mp s.length)),(8,.v (.mp (s.length+1))),(9,.v (.mp (s.length+2))),(10,.v (.mp (s.length+3))),(11,.v (.pt (s.length+5) 0)),(13,bxA x),(44,.v lv),(45,.v (.i .i64 len)),(46,.v (.i .i64 i)),(54,.v (.sl [bn x.left,bn x.right])),(55,.v (.i .i64 2)),(56,.v (.i .i64 j)),(57,.v (.b false))]
    (vcH s (Ad ([x.left,x.right].drop k) v) r')
 | 0,k,v,r,hk=>by
  obtain rfl:k=2:=by omega
  refine ⟨2,r,aj fun K hK=>?_⟩
  simp [iW,Ad,bxA,cellsA]
 | n+1,k,v,r,hk=>by
  have hw:∀c:C,wC c≤150→∀k':Int,ai P0 (.fn (.func gI) [] [.ip (bn c).cells]) [.yl (s.length+6+(r.length+1))] (vcH s v (r++[.dfr,vcL s.length lv (.sl [bn x.left,bn x.right]) len i k' c .ready])) cx=
    .ret (.tu []) (vcH s (mZ c v) (r++[.dfr,vcL s.length lv (.sl [bn x.left,bn x.right]) len i k' c .ready])):=fun c hc k'=>
   XH s lv (.sl [bn x.left,bn x.right]) len i k' c (r.length+1) (by omega) _ v cx (by simp [List.getElem?_append_right]) hl
  have hg:∀(v':V4) (c:C) (k':Int),(vcH s v' (r++[.dfr,vcL s.length lv (.sl [bn x.left,bn x.right]) len i k' c .ready]))[s.length+6+(r.length+1)]?=some (vcL s.length lv (.sl [bn x.left,bn x.right]) len i k' c .ready):=fun v' c k'=>by
   rw [RP];simp [List.getElem?_append_right]
  have hs:∀(v':V4) (c:C) (k':Int),(vcH s v' (r++[.dfr,vcL s.length lv (.sl [bn x.left,bn x.right]) len i k' c .ready])).set (s.length+6+(r.length+1)) .dead=vcH s v' (r++[.dfr,.dead]):=fun v' c k'=>by
   rw [IQ,List.set_append_right _ _ (by omega)];simp
  have e0:s.length+6+r.length+1=s.length+6+(r.length+1):=by omega
  have w1:IntKind.i64.wrap 1=1:=w64 (by omega) (by omega)
  have w2:IntKind.i64.wrap 2=2:=w64 (by omega) (by omega)
  have hcase:k=0∨k=1:=by omega
  rcases hcase with rfl|rfl
  ·obtain ⟨j,r',ih⟩:=Xj s x hx lv len i cx hl hb n 1 (mZ x.left v) (r++[.dfr,.dead]) (by omega)
   refine ⟨j,r',aj fun K hK=>?_⟩
   rw [←hK] at ih
   clear hK
   have h1:=hw x.left hx.l 0
   have h2:=hg (mZ x.left v) x.left 0
   have h3:=hs (mZ x.left v) x.left 0
   simp only [vcL,vcE] at h1 h2 h3
   simp [bxA,cellsA,Ad] at ih
   simp at h1 h2 h3
   simp [iW,bxA,cellsA,Ad,Ep,oC,e0,h1,h2,h3,CX,w1,w2,ih]
  ·obtain ⟨j,r',ih⟩:=Xj s x hx lv len i cx hl hb n 2 (mZ x.right v) (r++[.dfr,.dead]) (by omega)
   refine ⟨j,r',aj fun K hK=>?_⟩
   rw [←hK] at ih
   clear hK
   have h1:=hw x.right hx.r 1
   have h2:=hg (mZ x.right v) x.right 1
   have h3:=hs (mZ x.right v) x.right 1
   simp only [vcL,vcE] at h1 h2 h3
   simp [bxA,cellsA,Ad] at ih
   simp at h1 h2 h3
   simp [iW,bxA,cellsA,Ad,Ep,oC,e0,h1,h2,h3,CX,w1,w2,ih]
def vkE (n:Nat) (lv:AV) (len i:Int):Env:=
 [(2,.bx [.ns,.ns,.ns,.ns]),(3,.v (.i .i64 0)),(7,.v (.mp n)),(8,.v (.mp (n+1))),(9,.v (.mp (n+2))),(10,.v (.mp (n+3))),(11,.v (.pt (n+5) 0)),(44,.v lv),(45,.v (.i .i64 len)),(46,.v (.i .i64 i))]
theorem aat (s:St) (x:Ax) (hx:x.roles.length≤1000) (lv:AV) (len i:Int) (cx:Ctx) (hl:cx.lim≤s.length) (hb:cx.base≤s.length):
  ∀(rest:List Rl) (k:Nat) (v:V4) (r:St),x.roles.drop k=rest→
  ∃j:Int,eX (au P0.glob (ai P0) cx false kD) [2,3,7,8,9,10,11,13,44,45,46,76,77,78]
   [(2,.bx [.ns,.ns,.ns,.ns]),(3,.v (.i .i64 0)),(7,.v (.mp s.length)),(8,.v (.mp (s.length+1))),(9,.v (.mp (s.length+2))),(10,.v (.mp (s.length+3))),(11,.v (.pt (s.length+5) 0)),(13,bxA x),(44,.v lv),(45,.v (.i .i64 len)),(46,.v (.i .i64 i)),(76,.v (slf x.z (x.roles.map .s))),(77,.v (.i .i64 x.roles.length)),(78,.v (.i .i64 k))] (vcH s v r)=
   .exit 8 [(2,.bx [.ns,.ns,.ns,.ns]),(3,.v (.i .i64 0)),(7,.v (.mp s.length)),(8,.v (.mp (s.length+1))),(9,.v (.mp (s.length+2))),(10,.v (.mp (s.length+3))),(11,.v (.pt (s.length+5) 0)),(13,bxA x),(44,.v lv),(45,.v (.i .i64 len)),(46,.v (.i .i64 i)),(76,.v (slf x.z (x.roles.map .s))),(77,.v (.i .i64 x.roles.length)),(78,.v (.i .i64 j)),(79,.v (.b false))]
    (vcH s { v with r:=Gz v.r rest } r)
 | [],k,v,r,h=>by
  have h1:¬k<x.roles.length:=Nat.not_lt.2 (drop_nil h)
  refine ⟨k,aj fun K hK=>?_⟩
  simp [kD,h1,Gz,bxA,cellsA]
 | p::rest,k,v,r,h=>by
  obtain ⟨g1,g2,g3,g4⟩:=drop_cons h
  have g5:=g4 g3
  have hwi:=wI (i:=k) (by omega)
  have l1:cx.lim≤s.length+1:=by omega
  obtain ⟨j,ih⟩:=aat s x hx lv len i cx hl hb rest (k+1) { v with r:=uY v.r p } r g2
  refine ⟨j,aj fun K hK=>?_⟩
  rw [←hK,show ((k+1:Nat):Int)=(k:Int)+1 from rfl] at ih
  clear hK g4
  simp only [Gz,bxA,cellsA] at ih ⊢
  rw [←ih]
  simp [kD,g3,g5,hwi,l1,y7,um]
theorem aau (z:Bool) (l:List Ax) (hl:l.length≤1000) (hx:∀x∈l,x.Few) (s:St) (cx:Ctx) (hl0:cx.lim≤s.length) (hb:cx.base≤s.length):
  ∀(rest:List Ax) (i:Nat) (v:V4) (r:St),l.drop i=rest→
  ∃(j:Int) (r':St),eX (au P0.glob (ai P0) cx false kE) [2,3,7,8,9,10,11,44,45,46] (vkE s.length (slf z (l.map dD)) l.length i) (vcH s v r)=
    .exit 2 (vkE s.length (slf z (l.map dD)) l.length j++[(47,.v (.b false))]) (vcH s (ng rest v) r')
 | [],i,v,r,h=>by
  have h1:¬i<l.length:=Nat.not_lt.2 (drop_nil h)
  refine ⟨i,r,aj fun K hK=>?_⟩
  simp [kE,h1,ng,vkE]
 | x::rest,i,v,r,h=>by
  obtain ⟨g1,g2,g3,g4⟩:=drop_cons h
  have g5:=g4 g3
  have hwi:=wI (i:=i) (by omega)
  have l1:cx.lim≤s.length+1:=by omega
  have l3:cx.lim≤s.length+3:=by omega
  have hxf:=hx x (by rw [←g5];exact List.getElem_mem g3)
  obtain ⟨j2,r2,e2⟩:=Xj s x hxf (slf z (l.map dD)) l.length i cx hl0 hb 2 0 v r (by omega)
  obtain ⟨j4,e4⟩:=aat s x (by have:=hxf.roles;omega) (slf z (l.map dD)) l.length i cx hl0 hb x.roles 0 (mZ x.right (mZ x.left v)) r2 rfl
  obtain ⟨j,r',ih⟩:=aau z l hl hx s cx hl0 hb rest (i+1) (UZ x v) r2 g2
  refine ⟨j,r',aj fun K hK=>?_⟩
  rw [←hK,show ((i+1:Nat):Int)=(i:Int)+1 from rfl] at ih
  clear hK g4 hx
  simp only [List.drop_zero,Ad,Int.ofNat_zero,bxA,cellsA] at e2 e4
  simp only [ng]
  rw [←ih]
  try simp at e2
  try simp at e4
  simp [kE,vkE,show List.range 2=[0,1] from rfl,g3,g5,hwi,e2,e4,l1,l3,y7,um,UZ]
theorem aav (z:Bool) (l:List Ax) (hl:l.length≤1000) (hx:∀x∈l,x.Few) (h0:rP l=0) (s:St) (cx:Ctx):
  ∀(rest:List Ax) (i:Nat),l.drop i=rest→
  ∃j:Int,eX (au P0.glob (ai P0) cx false fJ) [0,2,3,21,22,23]
   [(0,.v (slf z (l.map dD))),(2,.bx [.ns,.ns,.ns,.ns]),(3,.v (.i .i64 0)),(21,.v (slf z (l.map dD))),(22,.v (.i .i64 l.length)),(23,.v (.i .i64 i))] s=
   .exit 0 [(0,.v (slf z (l.map dD))),(2,.bx [.ns,.ns,.ns,.ns]),(3,.v (.i .i64 0)),(21,.v (slf z (l.map dD))),(22,.v (.i .i64 l.length)),(23,.v (.i .i64 j)),(24,.v (.b false))] s
 | [],i,h=>by
  have h1:¬i<l.length:=Nat.not_lt.2 (drop_nil h)
  refine ⟨i,aj fun K hK=>?_⟩
  simp [fJ,h1]
 | x::rest,i,h=>by
  obtain ⟨g1,g2,g3,g4⟩:=drop_cons h
  have g5:=g4 g3
  have hwi:=wI (i:=i) (by omega)
  have hm:x∈l:=by rw [←g5];exact List.getElem_mem g3
  have e1:=zV x (hx x hm)
  have hc:=vU h0 x hm
  rw [hc] at e1
  obtain ⟨j,ih⟩:=aav z l hl hx h0 s cx rest (i+1) g2
  refine ⟨j,aj fun K hK=>?_⟩
  rw [←hK,show ((i+1:Nat):Int)=(i:Int)+1 from rfl] at ih
  clear hK g4 hx
  rw [←ih]
  simp [fJ,g3,g5,hwi,e1]
theorem ac7 {s r:St} {v:V4}:(vcH s v r).take s.length=s:=by simp [vcH]
theorem Yu (n:Nat) (K:List Rl):(slS K).under n=true:=by
 cases K with
 | nil=>simp [slS,AV.under]
 | cons a K=>simp [slS,AV.under,eF,LC]
theorem Yv (K:List Rl):(slS K).plain=slS K:=by cases K<;>rfl
theorem Yw (K:List Rl):(slS K).cells=[slS K]:=by cases K<;>rfl
theorem WQ (K:List Rl):(slS K).plain1=slS K:=by cases K<;>rfl
theorem abC (K:List Rl):(slS K).one=true:=by cases K<;>rfl
def vA (l:List Ax):List Rl:=sN (ng l V4.nil).c
def vR (l:List Ax):List Rl:=sN (Gs (ng l V4.nil).r [])
def vF (l:List Ax):List Rl:=sN (ng l V4.nil).f
def vI (l:List Ax):List Rl:=sN (Gs (ng l V4.nil).i [])
theorem Gw (z:Bool) (l:List Ax) (hl:l.length≤100) (hx:∀x∈l,x.Few) (h0:rP l=0) (s:St) (cx:Ctx):
  ai P0 (.fn (.func jw) [] []) [slf z (l.map dD)] s cx=.ret (.tu [.ag [slS (vA l),slS (vR l),slS (vF l),slS (vI l)],.i .i64 0]) s:=by
 have hv:=RN hx VB.nil
 rw [Nat.zero_add] at hv
 have hv:=hv.le (show 1000 * l.length≤1000000 by omega)
 unfold vA vR vF vI
 generalize hV:ng l V4.nil=V at hv
 have hR:=hv.r.del []
 have hI:=hv.i.del []
 refine yI (by simp) ?_
 obtain ⟨j0,e0⟩:=aav z l (by omega) hx h0 s ⟨s.length,s.length⟩ l 0 rfl
 obtain ⟨j1,r1,e1⟩:=aau z l (by omega) hx s ⟨s.length,s.length⟩ (Nat.le_refl _) (Nat.le_refl _) l 0 V4.nil [] rfl
 rw [hV] at e1
 rw [show vcH s V4.nil []=s++[.map [],.map [],.map [],.map [],.map [(.i .i64 3,.mp s.length),(.i .i64 6,.mp (s.length+1)),(.i .i64 7,.mp (s.length+2)),(.i .i64 4,.mp (s.length+3))],.cells [.mp (s.length+4)]] from rfl] at e1
 simp [vkE] at e0 e1
 have k0:=FX hv.c (by omega) (vcH s { V with r:=Gs V.r [],i:=Gs V.i [] } r1) s.length (by simp)
 have k1:=FX hR (by omega) (vcH s { V with r:=Gs V.r [],i:=Gs V.i [] } r1) (s.length+1) (by simp)
 have k2:=FX hv.f (by omega) (vcH s { V with r:=Gs V.r [],i:=Gs V.i [] } r1) (s.length+2) (by simp)
 have k3:=FX hI (by omega) (vcH s { V with r:=Gs V.r [],i:=Gs V.i [] } r1) (s.length+3) (by simp)
 clear hv hR hI hV hx
 simp [af,jV,e0,e1,acA,k0,k1,k2,k3,SQ,um,Dh,o9,Yv,WQ,Yw,show ¬s.length+6+r1.length=s.length by omega,abC,Yu,jY,frz,AV.under,eF,ac7]
end Go.Ai.Z
namespace Go.Ai.Z
structure Ax.Good (x:Ax):Prop where
 k:x.kind=1∨x.kind=2∨x.kind=3∨x.kind=4∨x.kind=5∨x.kind=6∨x.kind=7∨x.kind=8∨x.kind=9
 l:x.kind=1∨x.kind=2∨x.kind=3→ji x.left=0
 r:x.kind=1∨x.kind=2∨x.kind=3∨x.kind=4∨x.kind=8→ji x.right=0
 r5:x.kind=5→x.roles.length=1
 r6:x.kind=6→2≤x.roles.length∧x.roles.length≤4
theorem XR {c:C} (h:lI c=0):ji c=0:=by
 unfold lI at h;split at h
 ·cases h
 ·exact h
theorem good {x:Ax} (h:jP x=0):x.Good:=by
 unfold jP at h
 split at h
 ·cases h
 split at h
 ·cases h
 rename_i hs hn
 have hs:lT x=true:=by simpa using hs
 unfold Ob at h
 split at h
 ·rename_i q;exact absurd h q.2
 split at h
 ·rename_i q;exact absurd h q.2
 rename_i ql qr
 have hk:1≤x.kind∧x.kind≤9:=by simp [lT,zA] at hs;omega
 have hr:(kz x.kind).lo≤x.roles.length∧(x.roles.length:Int)≤(kz x.kind).hi:=by
  simp only [lT,Bool.and_eq_true,decide_eq_true_eq] at hs;exact ⟨hs.1.2,hs.2⟩
 have hk9:x.kind=1∨x.kind=2∨x.kind=3∨x.kind=4∨x.kind=5∨x.kind=6∨x.kind=7∨x.kind=8∨x.kind=9:=by omega
 refine ⟨hk9,fun q=>?_,fun q=>?_,fun q=>?_,fun q=>?_⟩
 ·have hu:(kz x.kind).l=true:=by rcases q with q|q|q<;>rw [q]<;>rfl
  exact XR (Classical.not_not.1 fun e=>ql ⟨hu,e⟩)
 ·have hu:(kz x.kind).r=true:=by rcases q with q|q|q|q|q<;>rw [q]<;>rfl
  exact XR (Classical.not_not.1 fun e=>qr ⟨hu,e⟩)
 ·rw [q] at hr;simp [kz] at hr;omega
 ·rw [q] at hr;simp [kz] at hr;omega
end Go.Ai.Z
