/-
 terms.meet: what it answers.
-/
import Derived.Test.YtpnlnnfcaeednaaGreatDoorAiT5T6
import Derived.Test.YtpnlnnfcaeednaaGreatDoorAiK5K6K7InjInj2Inj3Inj4KI
set_option maxRecDepth 100000
set_option linter.unusedSimpArgs false
set_option linter.unusedVariables false
set_option linter.unusedSectionVars false
namespace Go.Ai.Z
def avQ (n:Nat) (t:List C):AV:=match t with | []=>.ns|c::r=>.sk n r.length 5 0 (c::r).length
def stQ (H:St) (t:List C):St:=match t with | []=>H|c::r=>H++[.buf gB 5 r.length (flC (c::r))]
theorem aag (D:List C) (hD:D.length≤100000) (H:St) (lim base:Nat) (l ver:Nat) (t:Nat) (z:List AV) (hl:H[l]?=some (.buf t 7 ver (flT D++z))) (hlim:lim≤H.length) (hbase:base≤H.length):
  ∀(rest:List C) (i:Nat) (q:List C),D.drop i=rest→D=q++rest→q.length=i→
  ∃j:Int,eX (aC P0.glob (ah P0) ⟨lim,base⟩ false qY) [2,91,92,93]
   [(2,.bx [.i .i64 5,.s [],.i .i64 0,.i .i64 0,avQ H.length q]),(91,.v (.sk l ver 7 0 D.length)),(92,.v (.i .i64 D.length)),(93,.v (.i .i64 i))] (stQ H q)=
   .exit 8 [(2,.bx [.i .i64 5,.s [],.i .i64 0,.i .i64 0,avQ H.length D]),(91,.v (.sk l ver 7 0 D.length)),(92,.v (.i .i64 D.length)),(93,.v (.i .i64 j)),(94,.v (.b false))] (stQ H D)
 | [],i,q,h,hc,hq=>by
  have h1:¬i<D.length:=Nat.not_lt.2 (drop_nil h)
  have hc':D=q:=by simpa using hc
  refine ⟨i,ak fun K hK=>?_⟩
  rw [←hc']
  simp [qY,h1]
 | p::r,i,q,h,hc,hq=>by
  obtain ⟨h1,h2,h3,h4⟩:=drop_cons h
  have h5:=h4 h3
  have hwi:=wI (i:=i) (by omega)
  have hlH:l<H.length:=(List.getElem?_eq_some_iff.1 hl).1
  obtain ⟨j,ih2⟩:=aag D hD H lim base l ver t z hl hlim hbase r (i+1) (q++[p]) h2 (by simp [hc]) (by simp [hq])
  refine ⟨j,ak fun K hK=>?_⟩
  rw [←hK] at ih2
  have hg:=Ed D z i h3
  rw [h5] at hg
  have hb:=GU D z i h3
  have hm:q.length+1≤eu:=by unfold eu;omega
  clear hK h4
  cases q with
  | nil=>
   simp at hq
   subst hq
   simp [avQ,stQ] at ih2 hm hwi hg hb
   simp [qY,avQ,stQ,h3,hwi,hl,hg,hb,hm,List.range_succ]
   rw [aeG]
   exact ih2
  | cons a q=>
   have hfd:=adM (a::q) p
   have hl2:(H++[dZ.buf gB 5 q.length (flC (a::q))])[l]?=some (.buf t 7 ver (flT D++z)):=by rw [List.getElem?_append_left hlH];exact hl
   simp [avQ,stQ] at ih2 hm hfd
   simp at hq
   have h7:(q.length+1) * 5≤(flC (a::q)).length:=by rw [Po];exact Nat.le_refl _
   simp [qY,avQ,stQ,h3,hwi,hl2,hg,hb,hm,List.range_succ,hlim,hbase,h7,hfd]
   exact ih2
theorem abC (x:C):(iT x).map nz=iT (nz x):=by
 unfold iT
 rw [uj,nU]
 (repeat' split)<;>rfl
theorem XO (fx:C→C):∀ps:List C,(y9 fx ps).map nz=(ps.map fun p=>nz (fx p)).flatMap iT
 | []=>rfl
 | p::r=>by
  have h:=XO fx r
  simp only [y9,List.flatMap_cons,List.map_append,List.map_cons,abC] at h ⊢
  rw [h]
theorem aeJ (l:List C):(l.map nz).find? (fun t=>decide (t.kind=2))=(l.find? (fun t=>decide (t.kind=2))).map nz:=by
 rw [List.find?_map]
 congr 1
 have:((fun t:C=>decide (t.kind=2)) ∘ nz)=fun t=>decide (t.kind=2):=by funext t;simp [uj]
 rw [this]
theorem VU (cx:Ctx) (s:St):ah P0 (.fn (.func aY) [] []) [.ns,avM] s cx=.ret .ns s:=by
 refine kU (by simp) ?_
 simp [af,aQ]
@[simp] theorem ajL (S:St) (n:Nat) (d:C) (e:Int):frz S n (.tu [bD d,.i .i64 e])=some (.tu [bD d,.i .i64 e]):=by
 have hu:(AV.tu [bD d,.i .i64 e]).under n=true:=by simp
 rw [frz,if_pos hu]
@[simp] theorem ajK (S:St) (n:Nat) (e:Int):frz S n (.tu [.ag [.i .i64 0,.s [],.i .i64 0,.i .i64 0,.ns],.i .i64 e])=some (.tu [.ag [.i .i64 0,.s [],.i .i64 0,.i .i64 0,.ns],.i .i64 e]):=by
 have hu:(AV.tu [.ag [.i .i64 0,.s [],.i .i64 0,.i .i64 0,.ns],.i .i64 e]).under n=true:=by simp
 rw [frz,if_pos hu]
theorem agH (zp:Bool) (ps:List C) (hps:ps.length≤1000) (fx:C→C) (fe:C→Int) (hf:∀p∈ps,∀(s:St) (cx:Ctx),ah P0 (.fn (.func iM) [] []) [bD p] s cx=.ret (.tu [bD (fx p),.i .i64 (fe p)]) s)
  (hwx:∀p∈ps,wC (fx p)≤1000) (hL:(y9 fx ps).length≤100000) (hwL:∀c∈y9 fx ps,wC c≤1000):
  ∃(x:C) (e:Int),(if Dk fe ps=0 then BD (CU (ps.map fun p=>nz (fx p))) x e else e=Dk fe ps)∧(e≠0→wC x≤1)∧
    ∀(s:St) (cx:Ctx),cx.lim≤s.length→ah P0 (.fn (.func xZ) [] []) [slf zp (ps.map bD)] s cx=.ret (.tu [bD x,.i .i64 e]) s:=by
 have hz0:bD (.mk 0 [] 0 0 true [])=.ag z5:=by rw [vF];simp [z5,C.kind,C.name,C.lo,C.hi,C.z,C.parts]
 by_cases herr:Dk fe ps=0
 ·obtain ⟨M,hMp,hMs,hsort,hsort0⟩:=agF (y9 fx ps) hL hwL
  have hDn:(comp M).map nz=comp (qJ ((ps.map fun p=>nz (fx p)).flatMap iT)):=by
   rw [aeS,aaN hMp hMs,XO]
  have hmt:CU (ps.map fun p=>nz (fx p))=(match ((comp M).find? (fun t=>decide (t.kind=2))).map nz with
    | some t=>some t
    | none=>match (comp M).map nz with
     | []=>some aaF
     | [x]=>some x
     | _=>if 8<((comp M).map nz).length then none else some (.mk 5 [] 0 0 false ((comp M).map nz))):=by
   rw [CU,←hDn,aeJ]
   rfl
  have hl0:=fun (s:St) (lim:Nat) (hlim:lim≤s.length)=>Vt zp ps (by omega) fx fe hf hwx s lim hlim ps 0 [] rfl (by simpa using hL)
  simp only [if_pos herr,List.nil_append] at hl0
  simp only [if_pos herr]
  generalize hLL:y9 fx ps=L at *
  cases L with
  | nil=>
   have hM0:M=[]:=List.Perm.eq_nil hMp
   subst hM0
   refine ⟨.mk 1 [] 0 0 true [],0, ?_,fun h=>absurd rfl h,fun s cx hcx=>?_⟩
   ·rw [hmt];exact ⟨by rw [Es];rfl,rfl⟩
   ·obtain ⟨j,t',hl⟩:=hl0 s cx.lim hcx
    simp [avK,stK,z5] at hl
    have hs0:=hsort0 rfl
    have hc0:=VU
    simp only [avM] at hc0
    have h2:eX (aC P0.glob (ah P0) ⟨cx.lim,s.length⟩ false kL) [2,4,59,60,61]
      [(2,.bx [.i .i64 0,.s [],.i .i64 0,.i .i64 0,.ns]),(4,.v .ns),(59,.v .ns),(60,.v (.i .i64 0)),(61,.v (.i .i64 0))] s=
      .exit 5 [(2,.bx [.i .i64 0,.s [],.i .i64 0,.i .i64 0,.ns]),(4,.v .ns),(59,.v .ns),(60,.v (.i .i64 0)),(61,.v (.i .i64 0)),(62,.v (.b false))] s:=
     ak fun K hK=>by simp [kL]
    refine tV (by simp) ?_
    have e1:bD (.mk 1 [] 0 0 true [])=.ag [.i .i64 1,.s [],.i .i64 0,.i .i64 0,.ns]:=by rw [vF];simp [C.kind,C.name,C.lo,C.hi,C.z,C.parts]
    rw [e1]
    simp [af,kW,hl,hs0,hc0,h2,dX]
  | cons c r=>
   have hML:M.length=r.length+1:=hMp.length_eq
   have hMw:∀x∈M,wC x≤1000:=fun x hx=>hwL x (hMp.mem_iff.1 hx)
   obtain ⟨z',hcc⟩:=VL M []
   have hDl:=aas M
   -- all steps up to the search
   have steps:∀(s:St) (cx:Ctx),cx.lim≤s.length→
     (∃j t',eX (aC P0.glob (ah P0) ⟨cx.lim,s.length⟩ false jB) [2,4,15,16,17]
      [(2,.bx z5),(4,.v .ns),(15,.v (slf zp (ps.map bD))),(16,.v (.i .i64 ps.length)),(17,.v (.i .i64 ((0:Nat):Int)))] s=
      .exit 0 [(2,.bx z5),(4,.v (.sk s.length r.length 7 0 (r.length+1))),(15,.v (slf zp (ps.map bD))),(16,.v (.i .i64 ps.length)),(17,.v (.i .i64 j)),(18,.v (.b false))] (s++[.buf aV 7 r.length (flT (c::r))])∧t'=([]:List C))∧
     ah P0 (.fn (.func dB) [] []) [.sk s.length r.length 7 0 (r.length+1),.fn (.func aH) [] []] (s++[.buf aV 7 r.length (flT (c::r))]) ⟨cx.lim,s.length⟩=.ret (.tu []) (s++[.buf aV 7 r.length (flT M)])∧
     ah P0 (.fn (.func aY) [] []) [.sk s.length r.length 7 0 (r.length+1),.fn (.func pz) [] []] (s++[.buf aV 7 r.length (flT M)]) ⟨cx.lim,s.length⟩=.ret (.sk s.length r.length 7 0 (comp M).length) (s++[.buf aV 7 r.length (flT (comp M)++z')]):=by
    intro s cx hcx
    refine ⟨?_, ?_, ?_⟩
    ·obtain ⟨j,t',hl⟩:=hl0 s cx.lim hcx
     exact ⟨j,[],by simpa [avK,stK] using hl,rfl⟩
    ·have:=hsort (s++[.buf aV 7 r.length (flT (c::r))]) ⟨cx.lim,s.length⟩ s.length aV r.length [] (by simp) hcx (Nat.le_refl _)
     simpa using this
    ·have:=abT M (by rw [hML];simp at hL;omega) hMw (s++[.buf aV 7 r.length (flT M)]) ⟨cx.lim,s.length⟩ s.length aV r.length [] (by simp) hcx (Nat.le_refl _) (r.length+1) hML.symm (by simp)
     rw [hcc] at this
     simpa [avM] using this
   obtain ⟨m,rr,hMc⟩:∃m rr,M=m::rr:=by cases M with|nil=>simp at hML|cons m rr=>exact ⟨m,rr,rfl⟩
   have hDne:(comp M)≠[]:=by rw [hMc];simp [comp]
   have hDlen:(comp M).length≤100000:=by simp at hL;omega
   generalize hDD:comp M=D at *
   cases hfind:D.find? (fun t=>decide (t.kind=2)) with
   | some d=>
    refine ⟨d,0, ?_,fun h=>absurd rfl h,fun s cx hcx=>?_⟩
    ·rw [hmt,hfind];exact ⟨rfl,rfl⟩
    ·obtain ⟨⟨j,t',h0,_⟩,h1,h2⟩:=steps s cx hcx
     obtain ⟨j2,h3⟩:=Vs D hDlen (s++[.buf aV 7 r.length (flT D++z')]) ⟨cx.lim,s.length⟩ s.length aV r.length z' (by simp) z5 rfl D 0 rfl
     rw [hfind] at h3
     refine tV (by simp) ?_
     simp [z5] at h0 h3
     simp [af,kW,h0,h1,h2,h3]
   | none=>
    have hsearch:∀(s:St) (cx:Ctx),∃j,eX (aC P0.glob (ah P0) cx false kL) [2,4,59,60,61]
      [(2,.bx z5),(4,.v (.sk s.length r.length 7 0 D.length)),(59,.v (.sk s.length r.length 7 0 D.length)),(60,.v (.i .i64 D.length)),(61,.v (.i .i64 ((0:Nat):Int)))] (s++[.buf aV 7 r.length (flT D++z')])=
      .exit 5 [(2,.bx z5),(4,.v (.sk s.length r.length 7 0 D.length)),(59,.v (.sk s.length r.length 7 0 D.length)),(60,.v (.i .i64 D.length)),(61,.v (.i .i64 j)),(62,.v (.b false))] (s++[.buf aV 7 r.length (flT D++z')]):=by
     intro s cx
     obtain ⟨j2,h3⟩:=Vs D hDlen (s++[.buf aV 7 r.length (flT D++z')]) cx s.length aV r.length z' (by simp) z5 rfl D 0 rfl
     rw [hfind] at h3
     exact ⟨j2,h3⟩
    rw [hfind] at hmt
    simp only [Option.map_none] at hmt
    clear hf hwx hsort hsort0 hl0 hMp hMs hDn hMw hcc hfind
    rcases D with _|⟨x,_|⟨y,q⟩⟩
    ·exact absurd rfl hDne
    ·refine ⟨x,0, ?_,fun h=>absurd rfl h,fun s cx hcx=>?_⟩
     ·rw [hmt];exact ⟨rfl,rfl⟩
     ·obtain ⟨⟨j,t',h0,_⟩,h1,h2⟩:=steps s cx hcx
      obtain ⟨j2,h3⟩:=hsearch s ⟨cx.lim,s.length⟩
      have hg:AV.ag ((flT [x]++z').take 5)=bD x:=by rw [vF];rfl
      have hb:5≤(flT [x]++z').length:=by simp;omega
      refine tV (by simp) ?_
      generalize flT [x]=X at *
      simp [z5] at h0 h3 h2 h1 hb
      simp [af,kW,h0,h1,h2,h3,hg,hb]
    ·by_cases h8:8<(x::y::q).length
     ·refine ⟨.mk 0 [] 0 0 true [],2, ?_,fun _=>by simp [wC,wL],fun s cx hcx=>?_⟩
      ·rw [hmt]
       simp only [List.map_cons]
       rw [if_pos (by simpa using h8)];rfl
      ·obtain ⟨⟨j,t',h0,_⟩,h1,h2⟩:=steps s cx hcx
       obtain ⟨j2,h3⟩:=hsearch s ⟨cx.lim,s.length⟩
       have hn0:¬x::y::q=[]:=by simp
       have hn1:¬((x::y::q).length:Int)=1:=by simp;omega
       have hn8:(8:Int)<((x::y::q).length:Int):=by omega
       refine tV (by simp) ?_
       rw [hz0]
       generalize x::y::q=X at *
       simp [z5] at h0 h3 h2 h1
       simp [af,kW,z5,h0,h1,h2,h3,hn0,hn1,hn8,dX]
     ·refine ⟨.mk 5 [] 0 0 false (x::y::q),0, ?_,fun h=>absurd rfl h,fun s cx hcx=>?_⟩
      ·rw [hmt]
       simp only [List.map_cons]
       rw [if_neg (by simpa using h8)]
       exact ⟨by rw [Es];rfl,rfl⟩
      ·obtain ⟨⟨j,t',h0,_⟩,h1,h2⟩:=steps s cx hcx
       obtain ⟨j2,h3⟩:=hsearch s ⟨cx.lim,s.length⟩
       have hn0:¬x::y::q=[]:=by simp
       have hn1:¬((x::y::q).length:Int)=1:=by simp;omega
       have hn8:¬(8:Int)<((x::y::q).length:Int):=by omega
       obtain ⟨j3,h4⟩:=aag (x::y::q) hDlen (s++[.buf aV 7 r.length (flT (x::y::q)++z')]) cx.lim s.length s.length r.length aV z' (by simp) (by simp;omega) (by simp) (x::y::q) 0 [] rfl rfl rfl
       have hfz:=aby (stQ (s++[.buf aV 7 r.length (flT (x::y::q)++z')]) (x::y::q)) s.length (s.length+1) (y::q).length gB (x::y::q) (by simp [stQ]) (by omega)
       refine tV (by simp) ?_
       simp only [avQ,stQ] at h4 hfz
       generalize hYq:y::q=Y at *
       generalize hX:x::Y=X at *
       simp [z5] at h0 h3 h2 h1 h4 hfz
       simp [af,kW,z5,h0,h1,h2,h3,h4,hn0,hn1,hn8,hfz]
 ·refine ⟨.mk 0 [] 0 0 true [],Dk fe ps,by rw [if_neg herr],fun _=>by simp [wC,wL],fun s cx hcx=>?_⟩
  obtain ⟨j,t',hl⟩:=Vt zp ps (by omega) fx fe hf hwx s cx.lim hcx ps 0 [] rfl (by simpa using hL)
  rw [if_neg herr] at hl
  have hst:stK s t'=s∨∃o,stK s t'=s++[o]:=by cases t' with|nil=>exact .inl rfl|cons a t=>exact .inr ⟨_,rfl⟩
  generalize stK s t'=S1 at hl hst
  simp [avK,stK,z5] at hl
  refine tV (by simp) ?_
  rw [hz0]
  rcases hst with rfl|⟨o,rfl⟩
  ·simp [af,kW,z5,hl]
  ·simp [af,kW,z5,hl]
end Go.Ai.Z
namespace Go.Ai.Z
theorem Fg (c:C):mF c=if c.kind=6 then (match jS c.parts with
   | some (p::_)=>if p.kind=2 then some p else some (.mk 6 c.name 0 0 false [p])
   | _=>none)
  else if c.kind=5 then (match jS c.parts with
   | some qs=>CU qs
   | none=>none)
  else some (nz c):=by
 cases c
 rw [mF];rfl
theorem PY (f:C→C):∀l:List C,(∀p∈l,mF (f p)=mF p)→jS (l.map f)=jS l
 | [],_=>rfl
 | p::r,h=>by
  simp only [List.map_cons,jS,h p (by simp),PY f r (fun q hq=>h q (by simp [hq]))]
theorem PW:∀c:C,mF (nz c)=mF c:=by
 refine C.ind' fun c ih=>?_
 rw [Fg (nz c),Fg c,uj,xK,nU,PY nz c.parts ih,Z9]
theorem afd:∀c:C,wC (nz c)=wC c:=by
 refine C.ind' fun c ih=>?_
 have:∀l:List C,(∀p∈l,wC (nz p)=wC p)→wL (l.map nz)=wL l:=by
  intro l
  induction l with
  | nil=>intro _;rfl
  | cons p r ih2=>intro h;simp only [List.map_cons,wL,h p (by simp),ih2 (fun q hq=>h q (by simp [hq]))]
 rw [qm,qm c,xK,nU,this c.parts ih]
theorem acj:∀x y:List C,wL (x++y)=wL x+wL y
 | [],y=>by simp [wL]
 | a::x,y=>by simp only [List.cons_append,wL,acj x y];omega
theorem aef {l m:List C} (h:l.Perm m):wL l=wL m:=by
 induction h with
 | nil=>rfl
 | cons x _ ih=>simp only [wL,ih]
 | swap x y l=>simp only [wL];omega
 | trans _ _ i j=>exact i.trans j
theorem afE {l m:List C} (h:l.Sublist m):wL l≤wL m:=by
 induction h with
 | slnil=>exact Nat.le_refl _
 | cons a _ ih=>simp only [wL];omega
 | cons_cons a _ ih=>simp only [wL];omega
theorem Le (x:C):wL (iT x)≤wC x:=by
 unfold iT
 split
 ·simp [wL]
 ·split
  ·rw [qm];omega
  ·simp [wL]
theorem ZL:∀qs:List C,wL (qs.flatMap iT)≤wL qs
 | []=>by simp [wL]
 | q::r=>by
  have h1:=ZL r
  have h2:=Le q
  simp only [List.flatMap_cons,acj,wL];omega
theorem afD {qs:List C} {y:C} (h:CU qs=some y):wC y≤1+wL qs:=by
 have h1:wL (comp (qJ (qs.flatMap iT)))≤wL qs:=by
  have h2:=afE (Dl (qJ (qs.flatMap iT)))
  have h3:=aef (uG (qs.flatMap iT))
  have h4:=ZL qs
  omega
 unfold CU at h
 generalize comp (qJ (qs.flatMap iT))=m at h h1
 simp only at h
 split at h
 ·rename_i t ht
  cases h
  have:=wM (List.mem_of_find?_eq_some ht)
  omega
 ·split at h
  ·cases h;simp [aaF,wC,wL]
  ·cases h;simp only [wL] at h1;omega
  ·split at h
   ·cases h
   ·cases h
    simp only [wC,List.length_nil]
    omega
theorem Uw (fx:C→C) (k:Nat):∀l:List C,(∀p∈l,wC (fx p)≤k)→1≤k→(y9 fx l).length≤l.length * k
 | [],_,_=>by simp [y9]
 | p::r,h,hk=>by
  have h1:=Uw fx k r (fun q hq=>h q (by simp [hq])) hk
  have h2:(iT (fx p)).length≤k:=by
   have h3:=h p (by simp)
   have h4:=yE (iT (fx p))
   have h5:=Le (fx p)
   omega
  simp only [y9,List.flatMap_cons,List.length_append,List.length_cons,Nat.succ_mul] at h1 ⊢
  omega
theorem abD (fx:C→C) {l:List C} {c:C} (h:c∈y9 fx l):∃p∈l,wC c≤wC (fx p):=by
 obtain ⟨p,hp,hc⟩:=List.mem_flatMap.1 h
 refine ⟨p,hp, ?_⟩
 have h1:=wM hc
 have h2:=Le (fx p)
 omega
theorem UA {fe:C→Int}:∀{l:List C},Dk fe l=0 ↔ ∀p∈l,fe p=0
 | []=>by simp [Dk]
 | p::r=>by
  unfold Dk
  by_cases h:fe p=0
  ·simp [h,UA (l:=r)]
  ·simp [h]
theorem XQ {fe:C→Int}:∀{l:List C},Dk fe l≠0→∃p∈l,Dk fe l=fe p∧fe p≠0
 | [],h=>absurd rfl h
 | p::r,h=>by
  unfold Dk at h ⊢
  by_cases h0:fe p=0
  ·rw [if_pos h0] at h ⊢
   obtain ⟨q,hq,h1⟩:=XQ h
   exact ⟨q,by simp [hq],h1⟩
  ·rw [if_neg h0]
   exact ⟨p,by simp,rfl,h0⟩
theorem BD.zero {y:Option C} {x:C} {e:Int} (h:BD y x e) (he:e=0):y=some (nz x):=by
 cases y with
 | none=>simp [BD] at h;omega
 | some t=>obtain ⟨h1,_⟩:=h;rw [h1]
theorem BD.two {y:Option C} {x:C} {e:Int} (h:BD y x e) (he:e≠0):y=none∧e=2:=by
 cases y with
 | none=>exact ⟨rfl,h⟩
 | some t=>exact absurd h.2 he
theorem Nk {fx:C→C} {fe:C→Int}:∀{l:List C},(∀p∈l,BD (mF p) (fx p) (fe p))→(∀p∈l,fe p=0)→jS l=some (l.map fun p=>nz (fx p))
 | [],_,_=>rfl
 | p::r,h,h0=>by
  simp only [jS,(h p (by simp)).zero (h0 p (by simp)),Nk (l:=r) (fun q hq=>h q (by simp [hq])) (fun q hq=>h0 q (by simp [hq])),List.map_cons]
theorem Nl {fx:C→C} {fe:C→Int}:∀{l:List C},(∀p∈l,BD (mF p) (fx p) (fe p))→(∃p∈l,fe p≠0)→jS l=none
 | [],_,h0=>by simp at h0
 | p::r,h,h0=>by
  by_cases hp:fe p=0
  ·have:∃q∈r,fe q≠0:=by
    obtain ⟨q,hq,hq0⟩:=h0
    rcases List.mem_cons.1 hq with rfl|hq
    ·exact absurd hp hq0
    ·exact ⟨q,hq,hq0⟩
   simp only [jS,(h p (by simp)).zero hp,Nl (fun q hq=>h q (by simp [hq])) this]
  ·simp only [jS,((h p (by simp)).two hp).1]
theorem aci {f:C→C}:∀{l:List C},(∀p∈l,wC (f p)≤wC p)→wL (l.map f)≤wL l
 | [],_=>by simp [wL]
 | p::r,h=>by
  have h1:=aci (l:=r) (fun q hq=>h q (by simp [hq]))
  have h2:=h p (by simp)
  simp only [List.map_cons,wL];omega
theorem VR:∀c:C,iH c=0→wC c≤1000→∃(x:C) (e:Int),BD (mF c) x e∧(e=0→wC x≤wC c)∧wC x≤1000∧
  ∀(s:St) (cx:Ctx),ah P0 (.fn (.func iM) [] []) [bD c] s cx=.ret (.tu [bD x,.i .i64 e]) s:=by
 refine C.ind' fun c ih hv hw=>?_
 obtain ⟨v1,v2,v3⟩:=O5 hv
 have hpw:∀p∈c.parts,wC p≤1000:=fun p hp=>by have:=wM hp;rw [qm] at hw;omega
 have ih':∀p∈c.parts,∃(x:C) (e:Int),BD (mF p) x e∧(e=0→wC x≤wC p)∧wC x≤1000∧
  ∀(s:St) (cx:Ctx),ah P0 (.fn (.func iM) [] []) [bD p] s cx=.ret (.tu [bD x,.i .i64 e]) s:=fun p hp=>ih p hp (v3 p hp) (hpw p hp)
 clear ih
 have ih2:∃(fx:C→C) (fe:C→Int),∀p∈c.parts,BD (mF p) (fx p) (fe p)∧(fe p=0→wC (fx p)≤wC p)∧wC (fx p)≤1000∧
  ∀(s:St) (cx:Ctx),ah P0 (.fn (.func iM) [] []) [bD p] s cx=.ret (.tu [bD (fx p),.i .i64 (fe p)]) s:=by
  classical
  refine ⟨fun p=>if h:p∈c.parts then (ih' p h).choose else p,fun p=>if h:p∈c.parts then (ih' p h).choose_spec.choose else 0,fun p hp=>?_⟩
  simp only [dif_pos hp]
  exact (ih' p hp).choose_spec.choose_spec
 obtain ⟨fx,fe,hf⟩:=ih2
 by_cases k6:c.kind=6
 ·obtain ⟨p,hp⟩:∃p,c.parts=[p]:=by
   simp [oV,k6] at v1
   have:c.parts.length=1:=by omega
   exact List.length_eq_one_iff.1 this
  have hpm:p∈c.parts:=by rw [hp];simp
  obtain ⟨h1,h2,h3,h4⟩:=hf p hpm
  have hcw:=qm c
  rw [hp] at hcw
  simp only [wL] at hcw
  have htn:mF c=match mF p with
    | none=>none
    | some q=>if q.kind=2 then some q else some (.mk 6 c.name 0 0 false [q]):=by
   rw [Fg,if_pos k6,hp]
   simp only [jS]
   cases mF p<;>rfl
  by_cases he:fe p=0
  ·have h5:=h1.zero he
   have h6:=h2 he
   by_cases hk:(fx p).kind=2
   ·refine ⟨fx p,0, ?_,fun _=>by omega,h3,fun s cx=>?_⟩
    ·rw [htn,h5]
     simp only [uj,hk,if_true]
     exact ⟨rfl,rfl⟩
    ·refine vZ (by simp) ?_
     simp [af,oC,k6,hp,h4,he,hk]
     rw [vF,hk]
   ·refine ⟨.mk 6 c.name 0 0 false [fx p],0, ?_,fun _=>?_, ?_,fun s cx=>?_⟩
    ·rw [htn,h5]
     simp only [uj,hk,if_false]
     exact ⟨by rw [Es];rfl,rfl⟩
    ·simp only [wC,wL];omega
    ·simp only [wC,wL];omega
    ·refine vZ (by simp) ?_
     have e1:bD (.mk 6 c.name 0 0 false [fx p])=.ag [.i .i64 6,.s c.name,.i .i64 0,.i .i64 0,.sl [bD (fx p)]]:=by rw [vF];simp [C.kind,C.name,C.lo,C.hi,C.z,C.parts]
     rw [e1]
     simp [af,oC,k6,hp,h4,he,hk,dX,splice,List.range_succ]
  ·obtain ⟨h5,h6⟩:=h1.two he
   refine ⟨fx p,2, ?_,fun h=>absurd h (by decide),h3,fun s cx=>?_⟩
   ·rw [htn,h5];rfl
   ·refine vZ (by simp) ?_
    simp [af,oC,k6,hp,h4,h6]
 ·by_cases k5:c.kind=5
  ·have hlen:c.parts.length≤8:=by simp [oV,k5] at v1;omega
   have hfl:=Uw fx 1000 c.parts (fun p hp=>(hf p hp).2.2.1) (by omega)
   obtain ⟨x,e,hr,hw1,hm⟩:=agH c.z c.parts (by omega) fx fe (fun p hp=>(hf p hp).2.2.2) (fun p hp=>(hf p hp).2.2.1) (by omega)
    (fun y hy=>by obtain ⟨p,hp,h1⟩:=abD fx hy;have:=(hf p hp).2.2.1;omega)
   have htn:mF c=match jS c.parts with|some qs=>CU qs|none=>none:=by rw [Fg,if_neg k6,if_pos k5]
   have hgo:∀(s:St) (cx:Ctx),ah P0 (.fn (.func iM) [] []) [bD c] s cx=.ret (.tu [bD x,.i .i64 e]) s:=by
    intro s cx
    refine vZ (by simp) ?_
    have hm':=hm s ⟨s.length,s.length⟩ (Nat.le_refl _)
    simp [af,oC,k5,hm']
   by_cases herr:Dk fe c.parts=0
   ·rw [if_pos herr] at hr
    have h0:=UA.1 herr
    have hT:BD (mF c) x e:=by rw [htn,Nk (fun p hp=>(hf p hp).1) h0];exact hr
    have hwe:e=0→wC x≤wC c:=fun he=>by
     have h1:=hr.zero he
     have h2:=afD h1
     rw [afd] at h2
     have h3:=aci (f:=fun p=>nz (fx p)) (l:=c.parts) (fun p hp=>by rw [afd];exact (hf p hp).2.1 (h0 p hp))
     have h4:=qm c
     omega
    by_cases he:e=0
    ·exact ⟨x,e,hT,hwe,by have:=hwe he;omega,hgo⟩
    ·exact ⟨x,e,hT,hwe,by have:=hw1 he;omega,hgo⟩
   ·rw [if_neg herr] at hr
    obtain ⟨p,hp,h1,h2⟩:=XQ herr
    have h3:=((hf p hp).1.two h2).2
    have he:e=2:=by omega
    refine ⟨x,e, ?_,fun h=>by omega,by have:=hw1 (by omega);omega,hgo⟩
    rw [htn,Nl (fun p hp=>(hf p hp).1) ⟨p,hp,h2⟩]
    exact he
  ·refine ⟨c,0, ?_,fun _=>Nat.le_refl _,hw,fun s cx=>?_⟩
   ·rw [Fg,if_neg k6,if_neg k5];exact ⟨rfl,rfl⟩
   ·refine vZ (by simp) ?_
    simp [af,oC,k6,k5]
end Go.Ai.Z
