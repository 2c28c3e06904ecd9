/-
 terms.meet: its loops.
-/
import Derived.Test.YtpnlnnfcaeednaaGreatDoorAiKHQT4
set_option maxRecDepth 100000
set_option linter.unusedSimpArgs false
set_option linter.unusedVariables false
set_option linter.unusedSectionVars false
namespace Go.Ai.Z
def iT (x:C):List C:=if x.kind=1 then [] else if x.kind=5 then x.parts else [x]
def aaF:C:=.mk 1 [] 0 0 false []
def CU (qs:List C):Option C:=
 let m:=comp (qJ (qs.flatMap iT))
 match m.find? (fun t=>decide (t.kind=2)) with
 | some t=>some t
 | none=>match m with
  | []=>some aaF
  | [x]=>some x
  | _=>if 8<m.length then none else some (.mk 5 [] 0 0 false m)
mutual
def mF:C→Option C
 | .mk k n l h z ps=>
  if k=6 then (match jS ps with
   | some (p::_)=>if p.kind=2 then some p else some (.mk 6 n 0 0 false [p])
   | _=>none)
  else if k=5 then (match jS ps with
   | some qs=>CU qs
   | none=>none)
  else some (nz (.mk k n l h z ps))
def jS:List C→Option (List C)
 | []=>some []
 | p::r=>match mF p with
  | none=>none
  | some x=>match jS r with
   | none=>none
   | some xs=>some (x::xs)
end
def BD (y:Option C) (x:C) (e:Int):Prop:=match y with
 | some t=>nz x=t∧e=0
 | none=>e=2
def avK (s:St) (t:List C):AV:=match t with | []=>.ns|c::r=>.sk s.length r.length 7 0 (c::r).length
def stK (s:St) (t:List C):St:=match t with | []=>s|c::r=>s++[.buf aV 7 r.length (flT (c::r))]
@[simp] theorem acr (L:List C):(flT L).take (L.length * 7)=flT L:=List.take_of_length_le (by rw [Bl];exact Nat.le_refl _)
@[simp] theorem agR (c:C) (r:List C):(flT (c::r)).take ((r.length+1) * 7)=flT (c::r):=acr (c::r)
theorem aam (c:C):[AV.i .i64 c.kind,.s c.name,.i .i64 c.lo,.i .i64 c.hi,slf c.z (c.parts.map bD),.i .i64 (dR c:Int),slf true (c.parts.map kE)]=flT [c]:=rfl
theorem aah (q:C) (hq:wC q≤1000) (s:St) (lim:Nat) (hlim:lim≤s.length) (b2:List AV) (a15 a16 a17:AV):
  ∀(rest:List C) (i:Nat) (t:List C),q.parts.drop i=rest→t.length+rest.length≤100000→
  ∃j:Int,eX (aC P0.glob (ah P0) ⟨lim,s.length⟩ false qZ) [2,4,15,16,17,42,43,44]
   [(2,.bx b2),(4,.v (avK s t)),(15,.v a15),(16,.v a16),(17,.v a17),(42,.v (slf q.z (q.parts.map bD))),(43,.v (.i .i64 q.parts.length)),(44,.v (.i .i64 i))] (stK s t)=
   .exit 3 [(2,.bx b2),(4,.v (avK s (t++rest))),(15,.v a15),(16,.v a16),(17,.v a17),(42,.v (slf q.z (q.parts.map bD))),(43,.v (.i .i64 q.parts.length)),(44,.v (.i .i64 j)),(45,.v (.b false))] (stK s (t++rest))
 | [],i,t,h,ht=>by
  have h1:¬i<q.parts.length:=Nat.not_lt.2 (drop_nil h)
  refine ⟨i,ak fun K hK=>?_⟩
  simp [qZ,h1]
 | p::r,i,t,h,ht=>by
  obtain ⟨h1,h2,h3,h4⟩:=drop_cons h
  have h5:=h4 h3
  have hp:p∈q.parts:=by rw [←h5];exact List.getElem_mem h3
  have hl:=yE q.parts
  have hwp:=wM hp
  have hwq:=qm q
  have hwi:=wI (i:=i) (by omega)
  obtain ⟨j,ih2⟩:=aah q hq s lim hlim b2 a15 a16 a17 r (i+1) (t++[p]) h2 (by simp at ht ⊢;omega)
  refine ⟨j,ak fun K hK=>?_⟩
  rw [←hK] at ih2
  have e1:=zQ p (by omega)
  have hm:t.length+1≤eu:=by simp at ht;unfold eu;omega
  clear hK h4 hwq hwp hl ht
  cases t with
  | nil=>
   simp [avK,stK] at ih2 hm
   simp [qZ,avK,stK,h3,h5,hwi,e1,hm,List.range_succ]
   rw [aam]
   exact ih2
  | cons a t=>
   have hf:=Rx (a::t) p
   simp [avK,stK] at ih2 hm hf
   have h7:(t.length+1) * 7≤(flT (a::t)).length:=by rw [Bl];exact Nat.le_refl _
   simp [qZ,avK,stK,h3,h5,hwi,e1,hm,ih2,List.range_succ,hlim,h7,hf]
def Dk (fe:C→Int):List C→Int
 | []=>0
 | p::r=>if fe p=0 then Dk fe r else fe p
def y9 (fx:C→C) (l:List C):List C:=l.flatMap fun p=>iT (fx p)
def z5:List AV:=[.i .i64 0,.s [],.i .i64 0,.i .i64 0,.ns]
theorem Vt (zp:Bool) (ps:List C) (hps:ps.length≤100000) (fx:C→C) (fe:C→Int) (hf:∀p∈ps,∀(s:St) (cx:Ctx),ah P0 (.fn (.func iM) [] []) [bD p] s cx=.ret (.tu [bD (fx p),.i .i64 (fe p)]) s)
  (hwx:∀p∈ps,wC (fx p)≤1000) (s:St) (lim:Nat) (hlim:lim≤s.length):
  ∀(rest:List C) (i:Nat) (t:List C),ps.drop i=rest→t.length+(y9 fx rest).length≤100000→
  ∃(j:Int) (t':List C),eX (aC P0.glob (ah P0) ⟨lim,s.length⟩ false jB) [2,4,15,16,17]
    [(2,.bx z5),(4,.v (avK s t)),(15,.v (slf zp (ps.map bD))),(16,.v (.i .i64 ps.length)),(17,.v (.i .i64 i))] (stK s t)=
    if Dk fe rest=0 then .exit 0 [(2,.bx z5),(4,.v (avK s (t++y9 fx rest))),(15,.v (slf zp (ps.map bD))),(16,.v (.i .i64 ps.length)),(17,.v (.i .i64 j)),(18,.v (.b false))] (stK s (t++y9 fx rest))
    else .ret [(2,.bx z5),(3,.v (.i .i64 (Dk fe rest)))] (stK s t')
 | [],i,t,h,ht=>by
  have h1:¬i<ps.length:=Nat.not_lt.2 (drop_nil h)
  refine ⟨i,[],ak fun K hK=>?_⟩
  simp [jB,h1,Dk,y9]
 | p::r,i,t,h,ht=>by
  obtain ⟨h1,h2,h3,h4⟩:=drop_cons h
  have h5:=h4 h3
  have hp:p∈ps:=by rw [←h5];exact List.getElem_mem h3
  have hwi:=wI (i:=i) (by omega)
  have hfl:y9 fx (p::r)=iT (fx p)++y9 fx r:=by simp [y9]
  rw [hfl] at ht
  simp only [List.length_append] at ht
  have e1:=hf p hp
  have hw1:=hwx p hp
  by_cases hz:fe p=0
  ·have ih0:=Vt zp ps hps fx fe hf hwx s lim hlim r (i+1) (t++iT (fx p)) h2 (by simp only [List.length_append];omega)
   obtain ⟨j,t',ih2⟩:=ih0
   refine ⟨j,t',ak fun K hK=>?_⟩
   rw [←hK] at ih2
   have herr:Dk fe (p::r)=Dk fe r:=by simp [Dk,hz]
   rw [herr,hfl,←List.append_assoc]
   have hfo:=iT.eq_1 (fx p)
   clear hK h4 hf hwx
   by_cases k1:(fx p).kind=1
   ·rw [if_pos k1] at hfo
    rw [hfo,List.append_nil] at ih2 ⊢
    simp [z5] at ih2
    simp [jB,z5,h3,h5,hwi,e1,hz,k1]
    exact ih2
   ·by_cases k5:(fx p).kind=5
    ·rw [if_neg k1,if_pos k5] at hfo
     rw [hfo] at ih2 ⊢
     obtain ⟨j1,hin⟩:=aah (fx p) hw1 s lim hlim z5 (slf zp (ps.map bD)) (.i .i64 ps.length) (.i .i64 i) (fx p).parts 0 t rfl (by rw [hfo] at ht;omega)
     simp [z5] at ih2 hin
     simp [jB,z5,h3,h5,hwi,e1,hz,k1,k5,hin]
     exact ih2
    ·rw [if_neg k1,if_neg k5] at hfo
     rw [hfo] at ih2 ⊢
     have e2:=zQ (fx p) hw1
     have hm:t.length+1≤eu:=by rw [hfo] at ht;simp at ht;unfold eu;omega
     clear ht
     cases t with
     | nil=>
      simp [avK,stK,z5] at ih2 hm
      simp [jB,avK,stK,z5,h3,h5,hwi,e1,e2,hz,k1,k5,hm,List.range_succ]
      rw [aam]
      exact ih2
     | cons a t=>
      have hfd:=Rx (a::t) (fx p)
      simp [avK,stK,z5] at ih2 hm hfd
      have h7:(t.length+1) * 7≤(flT (a::t)).length:=by rw [Bl];exact Nat.le_refl _
      simp [jB,avK,stK,z5,h3,h5,hwi,e1,e2,hz,k1,k5,hm,List.range_succ,hlim,h7,hfd]
      exact ih2
  ·refine ⟨0,t,ak fun K hK=>?_⟩
   have herr:Dk fe (p::r)=fe p:=by simp [Dk,hz]
   rw [herr,if_neg hz]
   simp [jB,z5,h3,h5,hwi,e1,hz,dX]
end Go.Ai.Z
namespace Go.Ai.Z
theorem VL (L:List C) (z:List AV):∃z',oM L z=flT (comp L)++z':=by
 unfold oM
 split
 ·rename_i h
  rw [(Dl L).eq_of_length h];exact ⟨_,rfl⟩
 ·exact ⟨_,rfl⟩
def flC:List C→List AV
 | []=>[]
 | c::r=>[.i .i64 c.kind,.s c.name,.i .i64 c.lo,.i .i64 c.hi,slf c.z (c.parts.map bD)]++flC r
theorem aan:∀x y:List C,flC (x++y)=flC x++flC y
 | [],y=>rfl
 | c::x,y=>by simp only [List.cons_append,flC,aan x y,List.append_assoc]
@[simp] theorem Po:∀l:List C,(flC l).length=l.length * 5
 | []=>rfl
 | c::r=>by simp only [flC,List.length_append,Po r,List.length_cons,List.length_nil];omega
theorem adM (L:List C) (c:C):flC L++[.i .i64 c.kind,.s c.name,.i .i64 c.lo,.i .i64 c.hi,slf c.z (c.parts.map bD)]=flC (L++[c]):=by
 rw [aan];rfl
theorem aeG (c:C):[AV.i .i64 c.kind,.s c.name,.i .i64 c.lo,.i .i64 c.hi,slf c.z (c.parts.map bD)]=flC [c]:=rfl
@[simp] theorem WG (L:List C):(flC L).take (L.length * 5)=flC L:=List.take_of_length_le (by rw [Po];exact Nat.le_refl _)
@[simp] theorem agS (c:C) (r:List C):(flC (c::r)).take ((r.length+1) * 5)=flC (c::r):=WG (c::r)
theorem UH:∀L:List C,chunk 5 L.length (flC L)=L.map bD
 | []=>rfl
 | c::r=>by
  have h:=UH r
  simp only [List.length_cons,chunk,flC,List.cons_append,List.nil_append,List.map_cons]
  simp [h]
theorem aal (S:St) (n f:Nat):∀L:List C,(flC L).mapM (qB S n f)=some (flC L)
 | []=>by simp [flC]
 | c::r=>by
  have h:=aal S n f r
  have hu:∀a:AV,a.under n=true→qB S n f a=some a:=fun a ha=>by cases f<;>simp [qB,ha]
  have h5:(slf c.z (c.parts.map bD)).under n=true:=by
   have:=Yu n c
   rw [vF] at this
   simp at this ⊢
  simp only [flC,List.cons_append,List.nil_append,List.mapM_cons,hu _ (aeh n .i64 _),hu _ (aeg n _),hu _ h5,h]
  rfl
theorem Z7:∀L:List C,(flC L).all AV.one=true
 | []=>rfl
 | c::r=>by
  have h:=Z7 r
  have h1:∀(k:IntKind) (n:Int),(AV.i k n).one=true:=fun _ _=>rfl
  have h2:∀l:List UInt8,(AV.s l).one=true:=fun _=>rfl
  simp only [flC,List.cons_append,List.nil_append,List.all_cons,h1,h2,Z5,h,Bool.and_self]
theorem aby (S:St) (n l ver t:Nat) (D:List C) (h:S[l]?=some (.buf t 5 ver (flC D))) (hn:n≤l):
  frz S n (.tu [.ag [.i .i64 5,.s [],.i .i64 0,.i .i64 0,.sk l ver 5 0 D.length],.i .i64 0])=some (.tu [bD (.mk 5 [] 0 0 false D),.i .i64 0]):=by
 have hlt:¬l<n:=by omega
 have h1:(flC D).take (D.length * 5)=flC D:=WG D
 have ho:=Z7 D
 have e1:bD (.mk 5 [] 0 0 false D)=.ag [.i .i64 5,.s [],.i .i64 0,.i .i64 0,.sl (D.map bD)]:=by rw [vF];simp [C.kind,C.name,C.lo,C.hi,C.z,C.parts]
 have hsk:qB S n 4 (.sk l ver 5 0 D.length)=some (.sl (D.map bD)):=by
  rw [qB]
  have hu:(AV.sk l ver 5 0 D.length).under n=false:=by simp [AV.under,hlt]
  rw [if_neg (by rw [hu];exact Bool.false_ne_true)]
  simp only [h]
  rw [if_pos ⟨trivial,trivial,by rw [Po];omega⟩]
  simp only [List.drop_zero,h1,aal]
  simp only [Option.bind_some,if_pos (show 0<5∧(flC D).all AV.one=true from ⟨by omega,ho⟩),UH]
 have hag:qB S n 5 (.ag [.i .i64 5,.s [],.i .i64 0,.i .i64 0,.sk l ver 5 0 D.length])=some (.ag [.i .i64 5,.s [],.i .i64 0,.i .i64 0,.sl (D.map bD)]):=by
  have hi:∀k:Int,qB S n 4 (.i .i64 k)=some (.i .i64 k):=fun k=>by simp [qB]
  have hs:qB S n 4 (.s [])=some (.s []):=by simp [qB]
  have hu:(AV.ag [.i .i64 5,.s [],.i .i64 0,.i .i64 0,.sk l ver 5 0 D.length]).under n=false:=by simp [AV.under,dA,hlt]
  rw [qB,if_neg (by rw [hu];exact Bool.false_ne_true)]
  simp only [List.mapM_cons,List.mapM_nil,hi,hs,hsk]
  rfl
 have hi5:qB S n 5 (.i .i64 0)=some (.i .i64 0):=by simp [qB]
 have hu:(AV.tu [.ag [.i .i64 5,.s [],.i .i64 0,.i .i64 0,.sk l ver 5 0 D.length],.i .i64 0]).under n=false:=by simp [AV.under,dA,hlt]
 rw [frz,if_neg (by rw [hu];exact Bool.false_ne_true),qB,if_neg (by rw [hu];exact Bool.false_ne_true),e1]
 simp only [List.mapM_cons,List.mapM_nil,hag,hi5]
 rfl
theorem Vs (D:List C) (hD:D.length≤100000) (H:St) (cx:Ctx) (l t ver:Nat) (z:List AV) (hl:H[l]?=some (.buf t 7 ver (flT D++z))) (b2:List AV) (hb2:b2.length=5):
  ∀(rest:List C) (i:Nat),D.drop i=rest→
  ∃j:Int,eX (aC P0.glob (ah P0) cx false kL) [2,4,59,60,61]
   [(2,.bx b2),(4,.v (.sk l ver 7 0 D.length)),(59,.v (.sk l ver 7 0 D.length)),(60,.v (.i .i64 D.length)),(61,.v (.i .i64 i))] H=
   match rest.find? (fun t=>decide (t.kind=2)) with
   | some d=>.ret [(2,.bx [.i .i64 d.kind,.s d.name,.i .i64 d.lo,.i .i64 d.hi,slf d.z (d.parts.map bD)]),(3,.v (.i .i64 0))] H
   | none=>.exit 5 [(2,.bx b2),(4,.v (.sk l ver 7 0 D.length)),(59,.v (.sk l ver 7 0 D.length)),(60,.v (.i .i64 D.length)),(61,.v (.i .i64 j)),(62,.v (.b false))] H
 | [],i,h=>by
  have h1:¬i<D.length:=Nat.not_lt.2 (drop_nil h)
  refine ⟨i,ak fun K hK=>?_⟩
  simp [kL,h1]
 | p::r,i,h=>by
  obtain ⟨h1,h2,h3,h4⟩:=drop_cons h
  have h5:=h4 h3
  have hwi:=wI (i:=i) (by omega)
  obtain ⟨j,ih2⟩:=Vs D hD H cx l t ver z hl b2 hb2 r (i+1) h2
  refine ⟨j,ak fun K hK=>?_⟩
  rw [←hK] at ih2
  have hg:=Ed D z i h3
  rw [h5] at hg
  have hb:=GU D z i h3
  clear hK h4
  match b2,hb2 with
  | [x1,x2,x3,x4,x5],_=>
  by_cases hk:p.kind=2
  ·have hfd:(p::r).find? (fun t=>decide (t.kind=2))=some p:=by simp [hk]
   rw [hfd]
   simp [kL,h3,hwi,hl,hg,hb,hk]
  ·have hfd:(p::r).find? (fun t=>decide (t.kind=2))=r.find? (fun t=>decide (t.kind=2)):=by simp [hk]
   rw [hfd]
   simp at ih2
   simp [kL,h3,hwi,hl,hg,hb,hk]
   exact ih2
end Go.Ai.Z
