/-
 Tokens: classes of bytes, words, integers.
-/
import Derived.Test.YtpnlnnfcaeednaaGreatDoorAiK5K6K7InjInj2Inj3Inj4KI
import Derived.Test.YtpnlnnfcaeednaaGreatDoorAiB1
set_option maxRecDepth 100000
set_option linter.unusedSimpArgs false
set_option linter.unusedVariables false
set_option linter.unusedSectionVars false
namespace Go.Ai.Z
def aiw (c:Nat):Int:=
 if c=32∨c=9∨c=10∨c=13 then 1 else if c=35 then 2
 else if 97≤c∧c≤122∨65≤c∧c≤90∨c=95 then 3 else if 48≤c∧c≤57 then 4 else if c=45 then 5
 else if c=40∨c=41∨c=91∨c=93∨c=123∨c=125∨c=44∨c=46∨c=60∨c=61∨c=124∨c=63 then 6 else 0
def o8 (b:UInt8):Int:=aiw b.toNat
def Ae:List AV:=(List.range 256).map fun c=>.i .u8 (aiw c)
theorem Zw (b:UInt8):Ae[b.toNat]?=some (.i .u8 (o8 b)):=by
 have:b.toNat<256:=b.toNat_lt
 simp [Ae,o8,this]
@[simp] theorem aiZ:Ae.length=256:=by simp [Ae]
@[simp] theorem aiY:Ae.all AV.one=true:=by
 simp [Ae]
set_option maxRecDepth 100000 in
theorem Vz (s:St) (cx:Ctx):dJ P0.glob (jK P0 100) cx false 100 kS.code [] s=.ret [(0,.bx Ae)] s:=by
 kernel_rfl
theorem OV (s:St) (cx:Ctx):ah P0 (.fn (.func tq) [] []) [] s cx=.ret (.ag Ae) s:=by
 refine Me (by simp) ?_
 have h:=qy (X6 P0 100) false 100 _ _ _ _ (Vz s ⟨s.length,s.length⟩) (by simp)
 have hr:kS.res=[.cell 0 (some 256)]:=rfl
 have hn:kS.np=0:=rfl
 have hp:kS.pure=true:=rfl
 have hk:kS.keep=false:=rfl
 have hu:Ae.map AV.plain1=Ae:=by simp [Ae]
 have ht:Ae.take 256=Ae:=List.take_of_length_le (by simp)
 simp [af,hr,hn,hp,hk,h,ht,hu]
def Lj (b:UInt8):Bool:=decide (o8 b=3) || decide (o8 b=4)
def iH (b:List UInt8):Nat:=(b.takeWhile Lj).length
theorem uN (c:UInt8) (r:List UInt8):iH (c::r)=if Lj c=true then iH r+1 else 0:=by
 unfold iH;rw [List.takeWhile_cons];split<;>simp
theorem DL (b:List UInt8):iH b≤b.length:=by
 unfold iH;exact (List.takeWhile_sublist _).length_le
theorem NJ (s:St) (cx:Ctx) (p:Nat) (hp:s[p]?=some (.cells Ae)) (l:List UInt8) (hl:l.length≤1048576):∀(rest:List UInt8) (i:Nat),l.drop i=rest→
  fC (aB P0.glob (ah P0) cx false pX) [0,1,4] [(0,.v (.pt p 0)),(1,.v (.sl (aF l))),(4,.v (.i .i64 i))] s=
   .exit 0 [(0,.v (.pt p 0)),(1,.v (.sl (aF l))),(4,.v (.i .i64 ((i:Int)+(iH rest:Int)))),(30,.v (.b false))] s
 | [],i,h=>by
  have h1:¬i<l.length:=Nat.not_lt.2 (drop_nil h)
  have hb:(aF l).length=l.length:=by simp [aF]
  refine ak fun K hK=>?_
  simp [pX,h1,hb,iH]
 | b::r,i,h=>by
  obtain ⟨h1,h2,h3,h4⟩:=drop_cons h
  have h5:=h4 h3
  have hb:(aF l)[i]?=some (.i .u8 b.toNat):=by simp [aF,h1]
  have hbl:(aF l).length=l.length:=by simp [aF]
  have hb':∀h,(aF l)[i]'h=.i .u8 b.toNat:=fun h=>Option.some.inj ((List.getElem?_eq_getElem h).symm.trans hb)
  have hw:=wI (i:=i) (by omega)
  have ht:∀h,Ae[b.toNat]'h=.i .u8 (o8 b):=fun h=>Option.some.inj ((List.getElem?_eq_getElem h).symm.trans (Zw b))
  have hlt:b.toNat<256:=b.toNat_lt
  have hp':p<s.length:=(List.getElem?_eq_some_iff.1 hp).1
  have ih:=NJ s cx p hp l hl r (i+1) h2
  refine ak fun K hK=>?_
  rw [←hK,show ((i+1:Nat):Int)=(i:Int)+1 from rfl] at ih
  clear hK
  rw [uN]
  by_cases c3:o8 b=3<;>by_cases c4:o8 b=4
  ·omega
  ·have hwr:Lj b=true:=by simp [Lj,c3]
   have e:(i:Int)+((iH r:Int)+1)=(i:Int)+1+iH r:=by omega
   simp [pX,h3,hb',hbl,hp,ht,hlt,c3,c4,hw,ih,hwr,e]
  ·have hwr:Lj b=true:=by simp [Lj,c4]
   have e:(i:Int)+((iH r:Int)+1)=(i:Int)+1+iH r:=by omega
   simp [pX,h3,hb',hbl,hp,ht,hlt,c3,c4,hw,ih,hwr,e]
  ·have hwr:Lj b=false:=by simp [Lj,c3,c4]
   simp [pX,h3,hb',hbl,hp,ht,hlt,c3,c4,hw,hwr]
theorem Gs (s:St) (cx:Ctx) (p:Nat) (hp:s[p]?=some (.cells Ae)) (l:List UInt8) (hl:l.length≤1048576):
  ah P0 (.fn (.func rX) [] []) [.pt p 0,.sl (aF l)] s cx=.ret (.i .i64 (iH l)) s:=by
 refine Vp (by simp) ?_
 have h:=NJ s ⟨cx.lim,s.length⟩ p hp l hl l 0 rfl
 simp at h
 simp [af,zH,h]
end Go.Ai.Z
namespace Go.Ai.Z
theorem oI (l:List UInt8):(aF l).length=l.length:=by simp [aF]
theorem AU (l:List UInt8) (n:Nat):(aF l).drop n=aF (l.drop n):=by simp [aF,List.map_drop]
theorem Jv (l:List UInt8) (n:Nat):(aF l).take n=aF (l.take n):=by simp [aF,List.map_take]
theorem vC (l:List UInt8) (i:Nat) (h:i<(aF l).length) {b:UInt8} (hb:l[i]?=some b):(aF l)[i]=.i .u8 b.toNat:=by
 have h':i<l.length:=by simpa [aF] using h
 rw [List.getElem?_eq_getElem h'] at hb
 cases hb
 simp [aF]
theorem MO (l:List UInt8):(aF l).all (fun e=>e.cells.length == 1)=true:=by simp [aF]
theorem UB (l:List UInt8):(aF l).mapM byteOf=some l:=by
 induction l with
 | nil=>rfl
 | cons a r ih=>
  have:aF (a::r)=.i .u8 a.toNat::aF r:=rfl
  simp [this,byteOf,ih]
def OT (b:UInt8):Bool:=decide (48≤b.toNat) && decide (b.toNat≤57)
def pI (b:List UInt8):Bool:=decide (1≤b.length) && decide (b.length≤18) && !(b.head? == some 48) && b.all OT
def qm (b:List UInt8):Bool:=decide (b=[48]) || (if b.head?=some 45 then pI (b.drop 1) else pI b)
theorem Es (s:St) (cx:Ctx) (l:List UInt8) (hl:l.length≤1048576):∀(rest:List UInt8) (i:Nat),l.drop i=rest→
  ∃j:Int,fC (aB P0.glob (ah P0) cx false lI) [28,29,30] [(28,.v (.sl (aF l))),(29,.v (.i .i64 l.length)),(30,.v (.i .i64 i))] s=
   if rest.all OT=true then .exit 0 [(28,.v (.sl (aF l))),(29,.v (.i .i64 l.length)),(30,.v (.i .i64 j)),(31,.v (.b false))] s else .ret [(2,.v (.b false))] s
 | [],i,h=>by
  have h1:¬i<l.length:=Nat.not_lt.2 (drop_nil h)
  refine ⟨i,ak fun K hK=>?_⟩
  simp [lI,h1]
 | b::r,i,h=>by
  obtain ⟨h1,h2,h3,h4⟩:=drop_cons h
  have hb:∀h,(aF l)[i]'h=.i .u8 b.toNat:=fun h=>vC l i h h1
  have hbl:=oI l
  have hw:=wI (i:=i) (by omega)
  obtain ⟨j,ih⟩:=Es s cx l hl r (i+1) h2
  refine ⟨j,ak fun K hK=>?_⟩
  rw [←hK,show ((i+1:Nat):Int)=(i:Int)+1 from rfl] at ih
  clear hK
  by_cases d1:(b.toNat:Int)<48
  ·have hd:OT b=false:=by simp [OT];omega
   simp [lI,h3,hb,hbl,hd,hw,d1]
  ·by_cases d2:(57:Int)<b.toNat
   ·have hd:OT b=false:=by simp [OT];omega
    simp [lI,h3,hb,hbl,hd,hw,d1,d2]
   ·have hd:OT b=true:=by simp [OT];omega
    simp [lI,h3,hb,hbl,hd,hw,d1,d2,ih]
def _root_.Go.Ai.aS.fst:aS→aS
 | .seq a _=>a
 | c=>c
def _root_.Go.Ai.aS.snd:aS→aS
 | .seq _ b=>b
 | c=>c
def DZ:aS:=bG.code.snd.snd.snd
theorem aaM:bG.code=.seq bG.code.fst (.seq bG.code.snd.fst (.seq bG.code.snd.snd.fst DZ)):=rfl
theorem Xl (e:Env) (he:e=[]∨e=[(11,.v (.b false))]) (l:List UInt8) (hl:l.length≤1048576) (s:St) (cx:Ctx):aB P0.glob (ah P0) cx false DZ ((0,.v (.sl (aF l)))::e) s=.ret [(2,.v (.b (pI l)))] s:=by
 have hbl:=oI l
 rcases he with rfl|rfl
 all_goals
 cases l with
 | nil=>simp [DZ,bG,aS.snd,aF,pI]
 | cons c r=>
  have hbc:∀h,(aF (c::r))[0]'h=.i .u8 c.toNat:=fun h=>rfl
  obtain ⟨j,hlp⟩:=Es s cx (c::r) hl (c::r) 0 rfl
  simp only [List.length_cons] at hbl hlp hl
  have h1:¬((r.length:Int)+1<1):=by omega
  have hp:0<r.length+1:=by omega
  have hcast:((r.length+1:Nat):Int)=(r.length:Int)+1:=rfl
  simp only [hcast,show ((0:Nat):Int)=0 from rfl] at hlp
  by_cases h18:(18:Int)<(r.length:Int)+1
  ·have hi:pI (c::r)=false:=by simp [pI];intros;omega
   simp [DZ,bG,aS.snd,hbl,h18,hi,h1]
  ·have h18':r.length+1≤18:=by omega
   by_cases h48:c=48
   ·have hi:pI (c::r)=false:=by simp [pI,h48]
    have hc:(c.toNat:Int)=48:=by rw [h48];rfl
    simp [DZ,bG,aS.snd,hbl,h18,hi,h1,hbc,hp,hc]
   ·have hi:pI (c::r)=(c::r).all OT:=by simp [pI,h48,h18']
    have hc:¬(c.toNat:Int)=48:=fun h=>h48 (UInt8.toNat_inj.1 (by have:(48:UInt8).toNat=48:=rfl;omega))
    rw [hi]
    cases hd:(c::r).all OT with
    | true=>rw [hd] at hlp;simp at hlp;simp [DZ,bG,aS.snd,hbl,h18,h1,hbc,hp,hc,hlp]
    | false=>rw [hd] at hlp;simp at hlp;simp [DZ,bG,aS.snd,hbl,h18,h1,hbc,hp,hc,hlp]
theorem Ey (l:List UInt8) (hl:l.length≤1048576) (hne:l≠[]) (s:St) (cx:Ctx):
  ah P0 (.fn (.func sZ) [] []) [.sl (aF l)] s cx=.ret (.b (qm l)) s:=by
 refine Md (by simp) ?_
 have hs:=UB l
 have hbl:=oI l
 have hn:bG.np=1:=rfl
 have hr:bG.res=[.tmp 2]:=rfl
 have hp:bG.pure=true:=rfl
 have hk:bG.keep=false:=rfl
 obtain ⟨c,r,hcr⟩:∃c r,l=c::r:=by cases l with|nil=>exact absurd rfl hne|cons c r=>exact ⟨c,r,rfl⟩
 have hbc:∀h,(aF l)[0]'h=.i .u8 c.toNat:=fun h=>vC l 0 h (by simp [hcr])
 have hpos:0<(aF l).length:=by rw [hbl,hcr];simp
 unfold af
 rw [aaM]
 simp only [hn,hr,hp,hk]
 by_cases h0:l=[48]
 ·have hi:qm l=true:=by simp [qm,h0]
  rw [hi]
  simp [aS.fst,aS.snd,bG,hs,h0]
  rw [h0] at hs
  simp [hs]
 ·by_cases hm:c=45
  ·have hi:qm l=pI (l.drop 1):=by simp [qm,h0];simp [hcr,hm]
   have ht:=Xl [] (.inl rfl) (l.drop 1) (by simp;omega) s ⟨s.length,s.length⟩
   have hc:(c.toNat:Int)=45:=by rw [hm];rfl
   have hd:((aF l).drop 1).take ((aF l).length - 1)=aF (l.drop 1):=by
    rw [List.take_of_length_le (by simp),AU]
   have hle:1≤(aF l).length:=hpos
   have hal:=MO l
   simp only [hcr,List.drop_succ_cons,List.drop_zero] at ht hi hd
   simp only [←hcr] at hi hd
   simp only [List.drop_one] at hd
   simp [aS.fst,aS.snd,bG,hs,h0,hbc,hpos,hc,hle,hal,hd,ht,hi]
  ·have hi:qm l=pI l:=by simp [qm,h0];simp [hcr,hm]
   have ht:=Xl [(11,.v (.b false))] (.inr rfl) l hl s ⟨s.length,s.length⟩
   have hc:¬(c.toNat:Int)=45:=fun h=>hm (UInt8.toNat_inj.1 (by have:(45:UInt8).toNat=45:=rfl;omega))
   simp [aS.fst,aS.snd,bG,hs,h0,hbc,hpos,hc,ht,hi]
end Go.Ai.Z
namespace Go.Ai.Z
def qZ (b:List UInt8) (n:Nat):Int×Nat:=if qm (b.take n)=true then (2,n) else (0,n)
def dZ:List UInt8→Int×Nat
 | []=>(0,0)
 | c::r=>
  if o8 c=3 then
   (match (c::r).drop (iH (c::r)) with
   | d::e::q=>if d=58∧e≠95∧o8 e=3 then (1,iH (c::r)+(1+iH (e::q))) else (1,iH (c::r))
   | _=>(1,iH (c::r)))
  else if o8 c=5 then
   (match r with
   | []=>(0,1)
   | d::_=>if d=62 then (3,2) else if o8 d=4 then qZ (c::r) (1+iH r) else (0,1))
  else if o8 c=4 then qZ (c::r) (iH (c::r))
  else if o8 c=6 then (3,1) else (0,1)
theorem qR (c:UInt8) (r:List UInt8):dZ (c::r)=
  if o8 c=3 then
   (match (c::r).drop (iH (c::r)) with
   | d::e::q=>if d=58∧e≠95∧o8 e=3 then (1,iH (c::r)+(1+iH (e::q))) else (1,iH (c::r))
   | _=>(1,iH (c::r)))
  else if o8 c=5 then
   (match r with
   | []=>(0,1)
   | d::_=>if d=62 then (3,2) else if o8 d=4 then qZ (c::r) (1+iH r) else (0,1))
  else if o8 c=4 then qZ (c::r) (iH (c::r))
  else if o8 c=6 then (3,1) else (0,1):=rfl
theorem ahl {a b:UInt8} (h:a≠b):¬((a.toNat:Int)=(b.toNat:Int)):=fun h'=>h (UInt8.toNat_inj.1 (by omega))
theorem Fp (b:UInt8):∀h,Ae[b.toNat]'h=.i .u8 (o8 b):=fun h=>Option.some.inj ((List.getElem?_eq_getElem h).symm.trans (Zw b))
theorem P8 {c:UInt8} {r:List UInt8} (h:o8 c=3∨o8 c=4):0<iH (c::r):=by
 rw [uN]
 have:Lj c=true:=by rcases h with h|h<;>simp [Lj,h]
 simp [this]
theorem VH (s:St) (cx:Ctx) (p:Nat) (hp:s[p]?=some (.cells Ae)) (l:List UInt8) (hl:l.length≤1048576) (hne:l≠[]):
  ah P0 (.fn (.func vI) [] []) [.pt p 0,.sl (aF l)] s cx=.ret (.tu [.i .i64 (dZ l).1,.i .i64 ((dZ l).2:Int)]) s:=by
 refine SK (by simp) ?_
 obtain ⟨c,r,hcr⟩:∃c r,l=c::r:=by cases l with|nil=>exact absurd rfl hne|cons c r=>exact ⟨c,r,rfl⟩
 have hbl:=oI l
 have hbc:∀h,(aF l)[0]'h=.i .u8 c.toNat:=fun h=>vC l 0 h (by simp [hcr])
 have hpos:0<(aF l).length:=by rw [hbl,hcr];simp
 have hb0:(aF l)[0]?=some (.i .u8 c.toNat):=by rw [List.getElem?_eq_getElem hpos,hbc]
 have hlt:c.toNat<256:=c.toNat_lt
 have ht:=Fp c
 have hrun:=Gs s ⟨cx.lim,s.length⟩ p hp l hl
 have hal:=MO l
 have hrl:=DL l
 have hsc:dZ l=dZ (c::r):=by rw [hcr]
 rw [hsc,qR,←hcr]
 have w1:IntKind.i64.wrap ((iH l:Int)+1)=(iH l:Int)+1:=w64 (by omega) (by omega)
 have rl:r.length+1=l.length:=by rw [hcr];simp
 by_cases c3:o8 c=3
 ·rw [if_pos c3]
  cases hx:l.drop (iH l) with
  | nil=>
   have h1:l.length - iH l=0:=by simpa using congrArg List.length hx
   have h2:¬((iH l:Int)+1<l.length):=by omega
   simp [af,eU,hb0,hbc,hlt,ht,hp,c3,hrun,hbl,w1,h2]
  | cons d q=>
   cases q with
   | nil=>
    have h1:l.length - iH l=1:=by simpa using congrArg List.length hx
    have h2:¬((iH l:Int)+1<l.length):=by omega
    simp [af,eU,hb0,hbc,hlt,ht,hp,c3,hrun,hbl,w1,h2]
   | cons e q=>
    have h1:l.length - iH l=q.length+2:=by simpa using congrArg List.length hx
    have h2:(iH l:Int)+1<l.length:=by omega
    have g0:l[iH l]?=some d:=by have:=congrArg (·[0]?) hx;simpa using this
    have g1:l[iH l+1]?=some e:=by have:=congrArg (·[1]?) hx;simpa using this
    have b0:∀h,(aF l)[iH l]'h=.i .u8 d.toNat:=fun h=>vC l _ h g0
    have b1:∀h,(aF l)[iH l+1]'h=.i .u8 e.toNat:=fun h=>vC l _ h g1
    have k0:iH l<l.length:=by omega
    have k1:iH l+1<l.length:=by omega
    have k2:iH l+1≤l.length:=by omega
    have n1:((iH l:Int)+1).toNat=iH l+1:=by omega
    have z1:(0:Int)≤(iH l:Int)+1:=by omega
    have hlt':e.toNat<256:=e.toNat_lt
    have ht':=Fp e
    have hdd:l.drop (iH l+1)=e::q:=by rw [←List.drop_drop,hx];rfl
    have hs1:((aF l).drop (iH l+1)).take (l.length - (iH l+1))=aF (e::q):=by
     rw [AU,hdd,List.take_of_length_le (by rw [oI];simp;omega)]
    have hrun':=Gs s ⟨cx.lim,s.length⟩ p hp (e::q) (by simp;omega)
    have hr':=DL (e::q)
    simp only [List.length_cons] at hr'
    have w2:IntKind.i64.wrap (1+(iH (e::q):Int))=1+(iH (e::q):Int):=w64 (by omega) (by omega)
    have w3:IntKind.i64.wrap ((iH l:Int)+(1+(iH (e::q):Int)))=(iH l:Int)+(1+(iH (e::q):Int)):=w64 (by omega) (by omega)
    by_cases d58:(d.toNat:Int)=58
    ·have d58':d=58:=UInt8.toNat_inj.1 (by have:(58:UInt8).toNat=58:=rfl;omega)
     by_cases e95:(e.toNat:Int)=95
     ·have e95':e=95:=UInt8.toNat_inj.1 (by have:(95:UInt8).toNat=95:=rfl;omega)
      simp [af,eU,hb0,hbc,hlt,ht,hp,c3,hrun,hbl,w1,h2,b0,b1,k0,k1,n1,z1,d58,e95,e95']
     ·have e95':¬e=95:=fun h=>e95 (by rw [h];rfl)
      by_cases e3:o8 e=3
      ·simp [af,eU,hb0,hbc,hlt,ht,hp,c3,hrun,hbl,w1,h2,b0,b1,k0,k1,k2,n1,z1,d58,d58',e95,e95',e3,hlt',ht',hal,hs1,hrun',w2,w3]
      ·simp [af,eU,hb0,hbc,hlt,ht,hp,c3,hrun,hbl,w1,h2,b0,b1,k0,k1,n1,z1,d58,d58',e95,e95',e3,hlt',ht']
    ·have d58':¬d=58:=fun h=>d58 (by rw [h];rfl)
     simp [af,eU,hb0,hbc,hlt,ht,hp,c3,hrun,hbl,w1,h2,b0,b1,k0,k1,n1,z1,d58,d58']
 ·rw [if_neg c3]
  by_cases c5:o8 c=5
  ·rw [if_pos c5]
   cases r with
   | nil=>
    have h1:l.length=1:=by rw [hcr];rfl
    simp [af,eU,hb0,hbc,hlt,ht,hp,c5,hbl,h1]
   | cons d q=>
    have h1:(1:Int)<l.length:=by rw [hcr];simp;omega
    have h2:¬(l.length:Int)=1:=by omega
    have g1:l[1]?=some d:=by rw [hcr];rfl
    have b1:∀h,(aF l)[1]'h=.i .u8 d.toNat:=fun h=>vC l _ h g1
    have k1:1<l.length:=by omega
    have k2:1≤l.length:=by omega
    have hlt':d.toNat<256:=d.toNat_lt
    have ht':=Fp d
    by_cases d62:(d.toNat:Int)=62
    ·have d62':d=62:=UInt8.toNat_inj.1 (by have:(62:UInt8).toNat=62:=rfl;omega)
     simp [af,eU,hb0,hbc,hlt,ht,hp,c5,hbl,h1,b1,k1,d62,d62']
    ·have d62':¬d=62:=fun h=>d62 (by rw [h];rfl)
     by_cases d4:o8 d=4
     ·have hs1:((aF l).tail).take (l.length - 1)=aF (d::q):=by
       rw [List.take_of_length_le (by simp [hbl]),←List.drop_one,AU,hcr];rfl
      have hrun':=Gs s ⟨cx.lim,s.length⟩ p hp (d::q) (by simp at rl ⊢;omega)
      have hr':=DL (d::q)
      simp only [List.length_cons] at hr' rl
      have w2:IntKind.i64.wrap (1+(iH (d::q):Int))=1+(iH (d::q):Int):=w64 (by omega) (by omega)
      have hs2:(aF l).take (1+iH (d::q))=aF (l.take (1+iH (d::q))):=Jv _ _
      have hint:=Ey (l.take (1+iH (d::q))) (by simp;omega) (by rw [hcr];simp [Nat.add_comm 1]) s ⟨cx.lim,s.length⟩
      have n1:(1+(iH (d::q):Int)).toNat=1+iH (d::q):=by omega
      have z1:(0:Int)≤1+(iH (d::q):Int):=by omega
      have k3:1+iH (d::q)≤l.length:=by omega
      unfold qZ
      cases hi:qm (l.take (1+iH (d::q))) with
      | true=>rw [hi] at hint;simp [af,eU,hb0,hbc,hlt,ht,hp,c5,hbl,h1,h2,b1,k1,k2,k3,d62,d62',d4,hlt',ht',hal,hs1,hrun',w2,n1,z1,hs2,hint]
      | false=>rw [hi] at hint;simp [af,eU,hb0,hbc,hlt,ht,hp,c5,hbl,h1,h2,b1,k1,k2,k3,d62,d62',d4,hlt',ht',hal,hs1,hrun',w2,n1,z1,hs2,hint]
     ·simp [af,eU,hb0,hbc,hlt,ht,hp,c5,hbl,h1,h2,b1,k1,d62,d62',d4,hlt',ht']
  ·rw [if_neg c5]
   by_cases c4:o8 c=4
   ·rw [if_pos c4]
    have hrp:0<iH l:=by rw [hcr];exact P8 (.inr c4)
    have hs2:(aF l).take (iH l)=aF (l.take (iH l)):=Jv _ _
    have hint:=Ey (l.take (iH l)) (by simp;omega) (by rw [hcr];rw [hcr] at hrp;intro h;have:=congrArg List.length h;simp at this;omega) s ⟨cx.lim,s.length⟩
    unfold qZ
    cases hi:qm (l.take (iH l)) with
    | true=>rw [hi] at hint;simp [af,eU,hb0,hbc,hlt,ht,hp,c4,hbl,hrun,hal,hrl,hs2,hint]
    | false=>rw [hi] at hint;simp [af,eU,hb0,hbc,hlt,ht,hp,c4,hbl,hrun,hal,hrl,hs2,hint]
   ·rw [if_neg c4]
    by_cases c6:o8 c=6
    ·simp [af,eU,hb0,hbc,hlt,ht,hp,c6]
    ·simp [af,eU,hb0,hbc,hlt,ht,hp,c3,c4,c5,c6]
end Go.Ai.Z
