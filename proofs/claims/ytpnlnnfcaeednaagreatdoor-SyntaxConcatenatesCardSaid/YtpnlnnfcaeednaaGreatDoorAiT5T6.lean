/-
 terms.meet: its loops.
-/
import Derived.Test.YtpnlnnfcaeednaaGreatDoorAiKHQT4
set_option maxRecDepth 100000
set_option linter.unusedSimpArgs false
set_option linter.unusedVariables false
set_option linter.unusedSectionVars false
namespace Go.Ai.Z
def iV (x:C):List C:=if x.kind=1 then [] else if x.kind=5 then x.parts else [x]
def aaF:C:=.mk 1 [] 0 0 false []
def CQ (qs:List C):Option C:=
 let m:=comp (qJ (qs.flatMap iV))
 match m.find? (fun t=>decide (t.kind=2)) with
 | some t=>some t
 | none=>match m with
  | []=>some aaF
  | [x]=>some x
  | _=>if 8<m.length then none else some (.mk 5 [] 0 0 false m)
mutual
def mM:C→Option C
 | .mk k n l h z ps=>
  if k=6 then (match jS ps with
   | some (p::_)=>if p.kind=2 then some p else some (.mk 6 n 0 0 false [p])
   | _=>none)
  else if k=5 then (match jS ps with
   | some qs=>CQ qs
   | none=>none)
  else some (nz (.mk k n l h z ps))
def jS:List C→Option (List C)
 | []=>some []
 | p::r=>match mM p with
  | none=>none
  | some x=>match jS r with
   | none=>none
   | some xs=>some (x::xs)
end
def BA (y:Option C) (x:C) (e:Int):Prop:=match y with
 | some t=>nz x=t∧e=0
 | none=>e=2
def avK (s:St) (t:List C):AV:=match t with | []=>.ns|c::r=>.sk s.length r.length 7 0 (c::r).length
def stK (s:St) (t:List C):St:=match t with | []=>s|c::r=>s++[.buf aV 7 r.length (flT (c::r))]
@[simp] theorem acn (L:List C):(flT L).take (L.length * 7)=flT L:=List.take_of_length_le (by rw [Bj];exact Nat.le_refl _)
@[simp] theorem agT (c:C) (r:List C):(flT (c::r)).take ((r.length+1) * 7)=flT (c::r):=acn (c::r)
theorem aan (c:C):[AV.i .i64 c.kind,.s c.name,.i .i64 c.lo,.i .i64 c.hi,slf c.z (c.parts.map bF),.i .i64 (dS c:Int),slf true (c.parts.map kD)]=flT [c]:=rfl
theorem aai (q:C) (hq:wC q≤1000) (s:St) (lim:Nat) (hlim:lim≤s.length) (b2:List AV) (a15 a16 a17:AV):
  ∀(rest:List C) (i:Nat) (t:List C),q.parts.drop i=rest→t.length+rest.length≤100000→
  ∃j:Int,eY (aB P0.glob (ah P0) ⟨lim,s.length⟩ false rC) [2,4,15,16,17,42,43,44]
   [(2,.bx b2),(4,.v (avK s t)),(15,.v a15),(16,.v a16),(17,.v a17),(42,.v (slf q.z (q.parts.map bF))),(43,.v (.i .i64 q.parts.length)),(44,.v (.i .i64 i))] (stK s t)=
   .exit 3 [(2,.bx b2),(4,.v (avK s (t++rest))),(15,.v a15),(16,.v a16),(17,.v a17),(42,.v (slf q.z (q.parts.map bF))),(43,.v (.i .i64 q.parts.length)),(44,.v (.i .i64 j)),(45,.v (.b false))] (stK s (t++rest))
 | [],i,t,h,ht=>by
  have h1:¬i<q.parts.length:=Nat.not_lt.2 (drop_nil h)
  refine ⟨i,ak fun K hK=>?_⟩
  simp [rC,h1]
 | p::r,i,t,h,ht=>by
  obtain ⟨h1,h2,h3,h4⟩:=drop_cons h
  have h5:=h4 h3
  have hp:p∈q.parts:=by rw [←h5];exact List.getElem_mem h3
  have hl:=yD q.parts
  have hwp:=wM hp
  have hwq:=qj q
  have hwi:=wI (i:=i) (by omega)
  obtain ⟨j,ih2⟩:=aai q hq s lim hlim b2 a15 a16 a17 r (i+1) (t++[p]) h2 (by simp at ht ⊢;omega)
  refine ⟨j,ak fun K hK=>?_⟩
  rw [←hK] at ih2
  have e1:=zO p (by omega)
  have hm:t.length+1≤dK:=by simp at ht;unfold dK;omega
  clear hK h4 hwq hwp hl ht
  cases t with
  | nil=>
   simp [avK,stK] at ih2 hm
   simp [rC,avK,stK,h3,h5,hwi,e1,hm,List.range_succ]
   rw [aan]
   exact ih2
  | cons a t=>
   have hf:=RP (a::t) p
   simp [avK,stK] at ih2 hm hf
   have h7:(t.length+1) * 7≤(flT (a::t)).length:=by rw [Bj];exact Nat.le_refl _
   simp [rC,avK,stK,h3,h5,hwi,e1,hm,ih2,List.range_succ,hlim,h7,hf]
def Di (fe:C→Int):List C→Int
 | []=>0
 | p::r=>if fe p=0 then Di fe r else fe p
def y7 (fx:C→C) (l:List C):List C:=l.flatMap fun p=>iV (fx p)
def z5:List AV:=[.i .i64 0,.s [],.i .i64 0,.i .i64 0,.ns]
theorem VB (zp:Bool) (ps:List C) (hps:ps.length≤100000) (fx:C→C) (fe:C→Int) (hf:∀p∈ps,∀(s:St) (cx:Ctx),ah P0 (.fn (.func iO) [] []) [bF p] s cx=.ret (.tu [bF (fx p),.i .i64 (fe p)]) s)
  (hwx:∀p∈ps,wC (fx p)≤1000) (s:St) (lim:Nat) (hlim:lim≤s.length):
  ∀(rest:List C) (i:Nat) (t:List C),ps.drop i=rest→t.length+(y7 fx rest).length≤100000→
  ∃(j:Int) (t':List C),eY (aB P0.glob (ah P0) ⟨lim,s.length⟩ false jD) [2,4,15,16,17]
    [(2,.bx z5),(4,.v (avK s t)),(15,.v (slf zp (ps.map bF))),(16,.v (.i .i64 ps.length)),(17,.v (.i .i64 i))] (stK s t)=
    if Di fe rest=0 then .exit 0 [(2,.bx z5),(4,.v (avK s (t++y7 fx rest))),(15,.v (slf zp (ps.map bF))),(16,.v (.i .i64 ps.length)),(17,.v (.i .i64 j)),(18,.v (.b false))] (stK s (t++y7 fx rest))
    else .ret [(2,.bx z5),(3,.v (.i .i64 (Di fe rest)))] (stK s t')
 | [],i,t,h,ht=>by
  have h1:¬i<ps.length:=Nat.not_lt.2 (drop_nil h)
  refine ⟨i,[],ak fun K hK=>?_⟩
  simp [jD,h1,Di,y7]
 | p::r,i,t,h,ht=>by
  obtain ⟨h1,h2,h3,h4⟩:=drop_cons h
  have h5:=h4 h3
  have hp:p∈ps:=by rw [←h5];exact List.getElem_mem h3
  have hwi:=wI (i:=i) (by omega)
  have hfl:y7 fx (p::r)=iV (fx p)++y7 fx r:=by simp [y7]
  rw [hfl] at ht
  simp only [List.length_append] at ht
  have e1:=hf p hp
  have hw1:=hwx p hp
  by_cases hz:fe p=0
  ·have ih0:=VB zp ps hps fx fe hf hwx s lim hlim r (i+1) (t++iV (fx p)) h2 (by simp only [List.length_append];omega)
   obtain ⟨j,t',ih2⟩:=ih0
   refine ⟨j,t',ak fun K hK=>?_⟩
   rw [←hK] at ih2
   have herr:Di fe (p::r)=Di fe r:=by simp [Di,hz]
   rw [herr,hfl,←List.append_assoc]
   have hfo:=iV.eq_1 (fx p)
   clear hK h4 hf hwx
   by_cases k1:(fx p).kind=1
   ·rw [if_pos k1] at hfo
    rw [hfo,List.append_nil] at ih2 ⊢
    simp [z5] at ih2
    simp [jD,z5,h3,h5,hwi,e1,hz,k1]
    exact ih2
   ·by_cases k5:(fx p).kind=5
    ·rw [if_neg k1,if_pos k5] at hfo
     rw [hfo] at ih2 ⊢
     obtain ⟨j1,hin⟩:=aai (fx p) hw1 s lim hlim z5 (slf zp (ps.map bF)) (.i .i64 ps.length) (.i .i64 i) (fx p).parts 0 t rfl (by rw [hfo] at ht;omega)
     simp [z5] at ih2 hin
     simp [jD,z5,h3,h5,hwi,e1,hz,k1,k5,hin]
     exact ih2
    ·rw [if_neg k1,if_neg k5] at hfo
     rw [hfo] at ih2 ⊢
     have e2:=zO (fx p) hw1
     have hm:t.length+1≤dK:=by rw [hfo] at ht;simp at ht;unfold dK;omega
     clear ht
     cases t with
     | nil=>
      simp [avK,stK,z5] at ih2 hm
      simp [jD,avK,stK,z5,h3,h5,hwi,e1,e2,hz,k1,k5,hm,List.range_succ]
      rw [aan]
      exact ih2
     | cons a t=>
      have hfd:=RP (a::t) (fx p)
      simp [avK,stK,z5] at ih2 hm hfd
      have h7:(t.length+1) * 7≤(flT (a::t)).length:=by rw [Bj];exact Nat.le_refl _
      simp [jD,avK,stK,z5,h3,h5,hwi,e1,e2,hz,k1,k5,hm,List.range_succ,hlim,h7,hfd]
      exact ih2
  ·refine ⟨0,t,ak fun K hK=>?_⟩
   have herr:Di fe (p::r)=fe p:=by simp [Di,hz]
   rw [herr,if_neg hz]
   simp [jD,z5,h3,h5,hwi,e1,hz,dV]
end Go.Ai.Z
namespace Go.Ai.Z
theorem VQ (L:List C) (z:List AV):∃z',oM L z=flT (comp L)++z':=by
 unfold oM
 split
 ·rename_i h
  rw [(Dj L).eq_of_length h];exact ⟨_,rfl⟩
 ·exact ⟨_,rfl⟩
def flC:List C→List AV
 | []=>[]
 | c::r=>[.i .i64 c.kind,.s c.name,.i .i64 c.lo,.i .i64 c.hi,slf c.z (c.parts.map bF)]++flC r
theorem aao:∀x y:List C,flC (x++y)=flC x++flC y
 | [],y=>rfl
 | c::x,y=>by simp only [List.cons_append,flC,aao x y,List.append_assoc]
@[simp] theorem PD:∀l:List C,(flC l).length=l.length * 5
 | []=>rfl
 | c::r=>by simp only [flC,List.length_append,PD r,List.length_cons,List.length_nil];omega
theorem adJ (L:List C) (c:C):flC L++[.i .i64 c.kind,.s c.name,.i .i64 c.lo,.i .i64 c.hi,slf c.z (c.parts.map bF)]=flC (L++[c]):=by
 rw [aao];rfl
theorem aeF (c:C):[AV.i .i64 c.kind,.s c.name,.i .i64 c.lo,.i .i64 c.hi,slf c.z (c.parts.map bF)]=flC [c]:=rfl
@[simp] theorem WM (L:List C):(flC L).take (L.length * 5)=flC L:=List.take_of_length_le (by rw [PD];exact Nat.le_refl _)
@[simp] theorem agU (c:C) (r:List C):(flC (c::r)).take ((r.length+1) * 5)=flC (c::r):=WM (c::r)
theorem UO:∀L:List C,chunk 5 L.length (flC L)=L.map bF
 | []=>rfl
 | c::r=>by
  have h:=UO r
  simp only [List.length_cons,chunk,flC,List.cons_append,List.nil_append,List.map_cons]
  simp [h]
theorem aam (S:St) (n f:Nat):∀L:List C,(flC L).mapM (qB S n f)=some (flC L)
 | []=>by simp [flC]
 | c::r=>by
  have h:=aam S n f r
  have hu:∀a:AV,a.under n=true→qB S n f a=some a:=fun a ha=>by cases f<;>simp [qB,ha]
  have h5:(slf c.z (c.parts.map bF)).under n=true:=by
   have:=Yx n c
   rw [vw] at this
   simp at this ⊢
  simp only [flC,List.cons_append,List.nil_append,List.mapM_cons,hu _ (aef n .i64 _),hu _ (aee n _),hu _ h5,h]
  rfl
theorem Z8:∀L:List C,(flC L).all AV.one=true
 | []=>rfl
 | c::r=>by
  have h:=Z8 r
  have h1:∀(k:IntKind) (n:Int),(AV.i k n).one=true:=fun _ _=>rfl
  have h2:∀l:List UInt8,(AV.s l).one=true:=fun _=>rfl
  simp only [flC,List.cons_append,List.nil_append,List.all_cons,h1,h2,Z7,h,Bool.and_self]
theorem abu (S:St) (n l ver t:Nat) (D:List C) (h:S[l]?=some (.buf t 5 ver (flC D))) (hn:n≤l):
  frz S n (.tu [.ag [.i .i64 5,.s [],.i .i64 0,.i .i64 0,.sk l ver 5 0 D.length],.i .i64 0])=some (.tu [bF (.mk 5 [] 0 0 false D),.i .i64 0]):=by
 have hlt:¬l<n:=by omega
 have h1:(flC D).take (D.length * 5)=flC D:=WM D
 have ho:=Z8 D
 have e1:bF (.mk 5 [] 0 0 false D)=.ag [.i .i64 5,.s [],.i .i64 0,.i .i64 0,.sl (D.map bF)]:=by rw [vw];simp [C.kind,C.name,C.lo,C.hi,C.z,C.parts]
 have hsk:qB S n 4 (.sk l ver 5 0 D.length)=some (.sl (D.map bF)):=by
  rw [qB]
  have hu:(AV.sk l ver 5 0 D.length).under n=false:=by simp [AV.under,hlt]
  rw [if_neg (by rw [hu];exact Bool.false_ne_true)]
  simp only [h]
  rw [if_pos ⟨trivial,trivial,by rw [PD];omega⟩]
  simp only [List.drop_zero,h1,aam]
  simp only [Option.bind_some,if_pos (show 0<5∧(flC D).all AV.one=true from ⟨by omega,ho⟩),UO]
 have hag:qB S n 5 (.ag [.i .i64 5,.s [],.i .i64 0,.i .i64 0,.sk l ver 5 0 D.length])=some (.ag [.i .i64 5,.s [],.i .i64 0,.i .i64 0,.sl (D.map bF)]):=by
  have hi:∀k:Int,qB S n 4 (.i .i64 k)=some (.i .i64 k):=fun k=>by simp [qB]
  have hs:qB S n 4 (.s [])=some (.s []):=by simp [qB]
  have hu:(AV.ag [.i .i64 5,.s [],.i .i64 0,.i .i64 0,.sk l ver 5 0 D.length]).under n=false:=by simp [AV.under,dL,hlt]
  rw [qB,if_neg (by rw [hu];exact Bool.false_ne_true)]
  simp only [List.mapM_cons,List.mapM_nil,hi,hs,hsk]
  rfl
 have hi5:qB S n 5 (.i .i64 0)=some (.i .i64 0):=by simp [qB]
 have hu:(AV.tu [.ag [.i .i64 5,.s [],.i .i64 0,.i .i64 0,.sk l ver 5 0 D.length],.i .i64 0]).under n=false:=by simp [AV.under,dL,hlt]
 rw [frz,if_neg (by rw [hu];exact Bool.false_ne_true),qB,if_neg (by rw [hu];exact Bool.false_ne_true),e1]
 simp only [List.mapM_cons,List.mapM_nil,hag,hi5]
 rfl
theorem VA (D:List C) (hD:D.length≤100000) (H:St) (cx:Ctx) (l t ver:Nat) (z:List AV) (hl:H[l]?=some (.buf t 7 ver (flT D++z))) (b2:List AV) (hb2:b2.length=5):
  ∀(rest:List C) (i:Nat),D.drop i=rest→
  ∃j:Int,eY (aB P0.glob (ah P0) cx false kK) [2,4,59,60,61]
   [(2,.bx b2),(4,.v (.sk l ver 7 0 D.length)),(59,.v (.sk l ver 7 0 D.length)),(60,.v (.i .i64 D.length)),(61,.v (.i .i64 i))] H=
   match rest.find? (fun t=>decide (t.kind=2)) with
   | some d=>.ret [(2,.bx [.i .i64 d.kind,.s d.name,.i .i64 d.lo,.i .i64 d.hi,slf d.z (d.parts.map bF)]),(3,.v (.i .i64 0))] H
   | none=>.exit 5 [(2,.bx b2),(4,.v (.sk l ver 7 0 D.length)),(59,.v (.sk l ver 7 0 D.length)),(60,.v (.i .i64 D.length)),(61,.v (.i .i64 j)),(62,.v (.b false))] H
 | [],i,h=>by
  have h1:¬i<D.length:=Nat.not_lt.2 (drop_nil h)
  refine ⟨i,ak fun K hK=>?_⟩
  simp [kK,h1]
 | p::r,i,h=>by
  obtain ⟨h1,h2,h3,h4⟩:=drop_cons h
  have h5:=h4 h3
  have hwi:=wI (i:=i) (by omega)
  obtain ⟨j,ih2⟩:=VA D hD H cx l t ver z hl b2 hb2 r (i+1) h2
  refine ⟨j,ak fun K hK=>?_⟩
  rw [←hK] at ih2
  have hg:=D8 D z i h3
  rw [h5] at hg
  have hb:=GK D z i h3
  clear hK h4
  match b2,hb2 with
  | [x1,x2,x3,x4,x5],_=>
  by_cases hk:p.kind=2
  ·have hfd:(p::r).find? (fun t=>decide (t.kind=2))=some p:=by simp [hk]
   rw [hfd]
   simp [kK,h3,hwi,hl,hg,hb,hk]
  ·have hfd:(p::r).find? (fun t=>decide (t.kind=2))=r.find? (fun t=>decide (t.kind=2)):=by simp [hk]
   rw [hfd]
   simp at ih2
   simp [kK,h3,hwi,hl,hg,hb,hk]
   exact ih2
end Go.Ai.Z
