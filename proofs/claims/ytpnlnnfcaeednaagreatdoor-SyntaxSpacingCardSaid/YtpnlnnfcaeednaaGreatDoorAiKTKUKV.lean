/-
 Tokens: classes of bytes, words, integers.
-/
import Derived.Test.YtpnlnnfcaeednaaGreatDoorAiK5K6K7InjInj2Inj3Inj4KI
import Derived.Test.YtpnlnnfcaeednaaGreatDoorAiB1
set_option maxRecDepth 100000
set_option linter.unusedSimpArgs false
set_option linter.unusedVariables false
set_option linter.unusedSectionVars false
namespace Go.Ai.Z
def aiM (c:Nat):Int:=
 if c=32∨c=9∨c=10∨c=13 then 1 else if c=35 then 2
 else if 97≤c∧c≤122∨65≤c∧c≤90∨c=95 then 3 else if 48≤c∧c≤57 then 4 else if c=45 then 5
 else if c=40∨c=41∨c=91∨c=93∨c=123∨c=125∨c=44∨c=46∨c=60∨c=61∨c=124∨c=63 then 6 else 0
def nR (b:UInt8):Int:=aiM b.toNat
def wO:List AV:=(List.range 256).map fun c=>.i .u8 (aiM c)
theorem ZM (b:UInt8):wO[b.toNat]?=some (.i .u8 (nR b)):=by
 have:b.toNat<256:=b.toNat_lt
 simp [wO,nR,this]
@[simp] theorem ajf:wO.length=256:=by simp [wO]
@[simp] theorem aje:wO.all AV.one=true:=by
 simp [wO]
set_option maxRecDepth 100000 in
theorem VO (s:St) (cx:Ctx):dK P0.glob (jJ P0 100) cx false 100 kQ.code [] s=.ret [(0,.bx wO)] s:=by
 kernel_rfl
theorem EC (s:St) (cx:Ctx):ah P0 (.fn (.func qi) [] []) [] s cx=.ret (.ag wO) s:=by
 refine MH (by simp) ?_
 have h:=qE (Yj P0 100) false 100 _ _ _ _ (VO s ⟨s.length,s.length⟩) (by simp)
 have hr:kQ.res=[.cell 0 (some 256)]:=rfl
 have hn:kQ.np=0:=rfl
 have hp:kQ.pure=true:=rfl
 have hk:kQ.keep=false:=rfl
 have hu:wO.map AV.plain1=wO:=by simp [wO]
 have ht:wO.take 256=wO:=List.take_of_length_le (by simp)
 simp [af,hr,hn,hp,hk,h,ht,hu]
def IB (b:UInt8):Bool:=decide (nR b=3) || decide (nR b=4)
def dV (b:List UInt8):Nat:=(b.takeWhile IB).length
theorem oI (c:UInt8) (r:List UInt8):dV (c::r)=if IB c=true then dV r+1 else 0:=by
 unfold dV;rw [List.takeWhile_cons];split<;>simp
theorem DK (b:List UInt8):dV b≤b.length:=by
 unfold dV;exact (List.takeWhile_sublist _).length_le
theorem NP (s:St) (cx:Ctx) (p:Nat) (hp:s[p]?=some (.cells wO)) (l:List UInt8) (hl:l.length≤1048576):∀(rest:List UInt8) (i:Nat),l.drop i=rest→
  eX (aC P0.glob (ah P0) cx false qc) [0,1,4] [(0,.v (.pt p 0)),(1,.v (.sl (aA l))),(4,.v (.i .i64 i))] s=
   .exit 0 [(0,.v (.pt p 0)),(1,.v (.sl (aA l))),(4,.v (.i .i64 ((i:Int)+(dV rest:Int)))),(30,.v (.b false))] s
 | [],i,h=>by
  have h1:¬i<l.length:=Nat.not_lt.2 (drop_nil h)
  have hb:(aA l).length=l.length:=by simp [aA]
  refine ak fun K hK=>?_
  simp [qc,h1,hb,dV]
 | b::r,i,h=>by
  obtain ⟨h1,h2,h3,h4⟩:=drop_cons h
  have h5:=h4 h3
  have hb:(aA l)[i]?=some (.i .u8 b.toNat):=by simp [aA,h1]
  have hbl:(aA l).length=l.length:=by simp [aA]
  have hb':∀h,(aA l)[i]'h=.i .u8 b.toNat:=fun h=>Option.some.inj ((List.getElem?_eq_getElem h).symm.trans hb)
  have hw:=wI (i:=i) (by omega)
  have ht:∀h,wO[b.toNat]'h=.i .u8 (nR b):=fun h=>Option.some.inj ((List.getElem?_eq_getElem h).symm.trans (ZM b))
  have hlt:b.toNat<256:=b.toNat_lt
  have hp':p<s.length:=(List.getElem?_eq_some_iff.1 hp).1
  have ih:=NP s cx p hp l hl r (i+1) h2
  refine ak fun K hK=>?_
  rw [←hK,show ((i+1:Nat):Int)=(i:Int)+1 from rfl] at ih
  clear hK
  rw [oI]
  by_cases c3:nR b=3<;>by_cases c4:nR b=4
  ·omega
  ·have hwr:IB b=true:=by simp [IB,c3]
   have e:(i:Int)+((dV r:Int)+1)=(i:Int)+1+dV r:=by omega
   simp [qc,h3,hb',hbl,hp,ht,hlt,c3,c4,hw,ih,hwr,e]
  ·have hwr:IB b=true:=by simp [IB,c4]
   have e:(i:Int)+((dV r:Int)+1)=(i:Int)+1+dV r:=by omega
   simp [qc,h3,hb',hbl,hp,ht,hlt,c3,c4,hw,ih,hwr,e]
  ·have hwr:IB b=false:=by simp [IB,c3,c4]
   simp [qc,h3,hb',hbl,hp,ht,hlt,c3,c4,hw,hwr]
theorem Gj (s:St) (cx:Ctx) (p:Nat) (hp:s[p]?=some (.cells wO)) (l:List UInt8) (hl:l.length≤1048576):
  ah P0 (.fn (.func su) [] []) [.pt p 0,.sl (aA l)] s cx=.ret (.i .i64 (dV l)) s:=by
 refine VB (by simp) ?_
 have h:=NP s ⟨cx.lim,s.length⟩ p hp l hl l 0 rfl
 simp at h
 simp [af,zL,h]
end Go.Ai.Z
namespace Go.Ai.Z
theorem oN (l:List UInt8):(aA l).length=l.length:=by simp [aA]
theorem AY (l:List UInt8) (n:Nat):(aA l).drop n=aA (l.drop n):=by simp [aA,List.map_drop]
theorem Jo (l:List UInt8) (n:Nat):(aA l).take n=aA (l.take n):=by simp [aA,List.map_take]
theorem vI (l:List UInt8) (i:Nat) (h:i<(aA l).length) {b:UInt8} (hb:l[i]?=some b):(aA l)[i]=.i .u8 b.toNat:=by
 have h':i<l.length:=by simpa [aA] using h
 rw [List.getElem?_eq_getElem h'] at hb
 cases hb
 simp [aA]
theorem MV (l:List UInt8):(aA l).all (fun e=>e.cells.length == 1)=true:=by simp [aA]
theorem UK (l:List UInt8):(aA l).mapM byteOf=some l:=by
 induction l with
 | nil=>rfl
 | cons a r ih=>
  have:aA (a::r)=.i .u8 a.toNat::aA r:=rfl
  simp [this,byteOf,ih]
def OW (b:UInt8):Bool:=decide (48≤b.toNat) && decide (b.toNat≤57)
def pJ (b:List UInt8):Bool:=decide (1≤b.length) && decide (b.length≤18) && !(b.head? == some 48) && b.all OW
def qA (b:List UInt8):Bool:=decide (b=[48]) || (if b.head?=some 45 then pJ (b.drop 1) else pJ b)
theorem Eu (s:St) (cx:Ctx) (l:List UInt8) (hl:l.length≤1048576):∀(rest:List UInt8) (i:Nat),l.drop i=rest→
  ∃j:Int,eX (aC P0.glob (ah P0) cx false lG) [28,29,30] [(28,.v (.sl (aA l))),(29,.v (.i .i64 l.length)),(30,.v (.i .i64 i))] s=
   if rest.all OW=true then .exit 0 [(28,.v (.sl (aA l))),(29,.v (.i .i64 l.length)),(30,.v (.i .i64 j)),(31,.v (.b false))] s else .ret [(2,.v (.b false))] s
 | [],i,h=>by
  have h1:¬i<l.length:=Nat.not_lt.2 (drop_nil h)
  refine ⟨i,ak fun K hK=>?_⟩
  simp [lG,h1]
 | b::r,i,h=>by
  obtain ⟨h1,h2,h3,h4⟩:=drop_cons h
  have hb:∀h,(aA l)[i]'h=.i .u8 b.toNat:=fun h=>vI l i h h1
  have hbl:=oN l
  have hw:=wI (i:=i) (by omega)
  obtain ⟨j,ih⟩:=Eu s cx l hl r (i+1) h2
  refine ⟨j,ak fun K hK=>?_⟩
  rw [←hK,show ((i+1:Nat):Int)=(i:Int)+1 from rfl] at ih
  clear hK
  by_cases d1:(b.toNat:Int)<48
  ·have hd:OW b=false:=by simp [OW];omega
   simp [lG,h3,hb,hbl,hd,hw,d1]
  ·by_cases d2:(57:Int)<b.toNat
   ·have hd:OW b=false:=by simp [OW];omega
    simp [lG,h3,hb,hbl,hd,hw,d1,d2]
   ·have hd:OW b=true:=by simp [OW];omega
    simp [lG,h3,hb,hbl,hd,hw,d1,d2,ih]
def _root_.Go.Ai.aS.fst:aS→aS
 | .seq a _=>a
 | c=>c
def _root_.Go.Ai.aS.snd:aS→aS
 | .seq _ b=>b
 | c=>c
def D6:aS:=bG.code.snd.snd.snd
theorem aa8:bG.code=.seq bG.code.fst (.seq bG.code.snd.fst (.seq bG.code.snd.snd.fst D6)):=rfl
theorem XA (e:Env) (he:e=[]∨e=[(11,.v (.b false))]) (l:List UInt8) (hl:l.length≤1048576) (s:St) (cx:Ctx):aC P0.glob (ah P0) cx false D6 ((0,.v (.sl (aA l)))::e) s=.ret [(2,.v (.b (pJ l)))] s:=by
 have hbl:=oN l
 rcases he with rfl|rfl
 all_goals
 cases l with
 | nil=>simp [D6,bG,aS.snd,aA,pJ]
 | cons c r=>
  have hbc:∀h,(aA (c::r))[0]'h=.i .u8 c.toNat:=fun h=>rfl
  obtain ⟨j,hlp⟩:=Eu s cx (c::r) hl (c::r) 0 rfl
  simp only [List.length_cons] at hbl hlp hl
  have h1:¬((r.length:Int)+1<1):=by omega
  have hp:0<r.length+1:=by omega
  have hcast:((r.length+1:Nat):Int)=(r.length:Int)+1:=rfl
  simp only [hcast,show ((0:Nat):Int)=0 from rfl] at hlp
  by_cases h18:(18:Int)<(r.length:Int)+1
  ·have hi:pJ (c::r)=false:=by simp [pJ];intros;omega
   simp [D6,bG,aS.snd,hbl,h18,hi,h1]
  ·have h18':r.length+1≤18:=by omega
   by_cases h48:c=48
   ·have hi:pJ (c::r)=false:=by simp [pJ,h48]
    have hc:(c.toNat:Int)=48:=by rw [h48];rfl
    simp [D6,bG,aS.snd,hbl,h18,hi,h1,hbc,hp,hc]
   ·have hi:pJ (c::r)=(c::r).all OW:=by simp [pJ,h48,h18']
    have hc:¬(c.toNat:Int)=48:=fun h=>h48 (UInt8.toNat_inj.1 (by have:(48:UInt8).toNat=48:=rfl;omega))
    rw [hi]
    cases hd:(c::r).all OW with
    | true=>rw [hd] at hlp;simp at hlp;simp [D6,bG,aS.snd,hbl,h18,h1,hbc,hp,hc,hlp]
    | false=>rw [hd] at hlp;simp at hlp;simp [D6,bG,aS.snd,hbl,h18,h1,hbc,hp,hc,hlp]
theorem Ez (l:List UInt8) (hl:l.length≤1048576) (hne:l≠[]) (s:St) (cx:Ctx):
  ah P0 (.fn (.func tJ) [] []) [.sl (aA l)] s cx=.ret (.b (qA l)) s:=by
 refine MG (by simp) ?_
 have hs:=UK l
 have hbl:=oN l
 have hn:bG.np=1:=rfl
 have hr:bG.res=[.tmp 2]:=rfl
 have hp:bG.pure=true:=rfl
 have hk:bG.keep=false:=rfl
 obtain ⟨c,r,hcr⟩:∃c r,l=c::r:=by cases l with|nil=>exact absurd rfl hne|cons c r=>exact ⟨c,r,rfl⟩
 have hbc:∀h,(aA l)[0]'h=.i .u8 c.toNat:=fun h=>vI l 0 h (by simp [hcr])
 have hpos:0<(aA l).length:=by rw [hbl,hcr];simp
 unfold af
 rw [aa8]
 simp only [hn,hr,hp,hk]
 by_cases h0:l=[48]
 ·have hi:qA l=true:=by simp [qA,h0]
  rw [hi]
  simp [aS.fst,aS.snd,bG,hs,h0]
  rw [h0] at hs
  simp [hs]
 ·by_cases hm:c=45
  ·have hi:qA l=pJ (l.drop 1):=by simp [qA,h0];simp [hcr,hm]
   have ht:=XA [] (.inl rfl) (l.drop 1) (by simp;omega) s ⟨s.length,s.length⟩
   have hc:(c.toNat:Int)=45:=by rw [hm];rfl
   have hd:((aA l).drop 1).take ((aA l).length - 1)=aA (l.drop 1):=by
    rw [List.take_of_length_le (by simp),AY]
   have hle:1≤(aA l).length:=hpos
   have hal:=MV l
   simp only [hcr,List.drop_succ_cons,List.drop_zero] at ht hi hd
   simp only [←hcr] at hi hd
   simp only [List.drop_one] at hd
   simp [aS.fst,aS.snd,bG,hs,h0,hbc,hpos,hc,hle,hal,hd,ht,hi]
  ·have hi:qA l=pJ l:=by simp [qA,h0];simp [hcr,hm]
   have ht:=XA [(11,.v (.b false))] (.inr rfl) l hl s ⟨s.length,s.length⟩
   have hc:¬(c.toNat:Int)=45:=fun h=>hm (UInt8.toNat_inj.1 (by have:(45:UInt8).toNat=45:=rfl;omega))
   simp [aS.fst,aS.snd,bG,hs,h0,hbc,hpos,hc,ht,hi]
end Go.Ai.Z
namespace Go.Ai.Z
def ou (b:List UInt8) (n:Nat):Int×Nat:=if qA (b.take n)=true then (2,n) else (0,n)
def dJ:List UInt8→Int×Nat
 | []=>(0,0)
 | c::r=>
  if nR c=3 then
   (match (c::r).drop (dV (c::r)) with
   | d::e::q=>if d=58∧e≠95∧nR e=3 then (1,dV (c::r)+(1+dV (e::q))) else (1,dV (c::r))
   | _=>(1,dV (c::r)))
  else if nR c=5 then
   (match r with
   | []=>(0,1)
   | d::_=>if d=62 then (3,2) else if nR d=4 then ou (c::r) (1+dV r) else (0,1))
  else if nR c=4 then ou (c::r) (dV (c::r))
  else if nR c=6 then (3,1) else (0,1)
theorem pX (c:UInt8) (r:List UInt8):dJ (c::r)=
  if nR c=3 then
   (match (c::r).drop (dV (c::r)) with
   | d::e::q=>if d=58∧e≠95∧nR e=3 then (1,dV (c::r)+(1+dV (e::q))) else (1,dV (c::r))
   | _=>(1,dV (c::r)))
  else if nR c=5 then
   (match r with
   | []=>(0,1)
   | d::_=>if d=62 then (3,2) else if nR d=4 then ou (c::r) (1+dV r) else (0,1))
  else if nR c=4 then ou (c::r) (dV (c::r))
  else if nR c=6 then (3,1) else (0,1):=rfl
theorem ahB {a b:UInt8} (h:a≠b):¬((a.toNat:Int)=(b.toNat:Int)):=fun h'=>h (UInt8.toNat_inj.1 (by omega))
theorem Fh (b:UInt8):∀h,wO[b.toNat]'h=.i .u8 (nR b):=fun h=>Option.some.inj ((List.getElem?_eq_getElem h).symm.trans (ZM b))
theorem Qh {c:UInt8} {r:List UInt8} (h:nR c=3∨nR c=4):0<dV (c::r):=by
 rw [oI]
 have:IB c=true:=by rcases h with h|h<;>simp [IB,h]
 simp [this]
theorem KQ (s:St) (cx:Ctx) (p:Nat) (hp:s[p]?=some (.cells wO)) (l:List UInt8) (hl:l.length≤1048576) (hne:l≠[]):
  ah P0 (.fn (.func sU) [] []) [.pt p 0,.sl (aA l)] s cx=.ret (.tu [.i .i64 (dJ l).1,.i .i64 ((dJ l).2:Int)]) s:=by
 refine Td (by simp) ?_
 obtain ⟨c,r,hcr⟩:∃c r,l=c::r:=by cases l with|nil=>exact absurd rfl hne|cons c r=>exact ⟨c,r,rfl⟩
 have hbl:=oN l
 have hbc:∀h,(aA l)[0]'h=.i .u8 c.toNat:=fun h=>vI l 0 h (by simp [hcr])
 have hpos:0<(aA l).length:=by rw [hbl,hcr];simp
 have hb0:(aA l)[0]?=some (.i .u8 c.toNat):=by rw [List.getElem?_eq_getElem hpos,hbc]
 have hlt:c.toNat<256:=c.toNat_lt
 have ht:=Fh c
 have hrun:=Gj s ⟨cx.lim,s.length⟩ p hp l hl
 have hal:=MV l
 have hrl:=DK l
 have hsc:dJ l=dJ (c::r):=by rw [hcr]
 rw [hsc,pX,←hcr]
 have w1:IntKind.i64.wrap ((dV l:Int)+1)=(dV l:Int)+1:=w64 (by omega) (by omega)
 have rl:r.length+1=l.length:=by rw [hcr];simp
 by_cases c3:nR c=3
 ·rw [if_pos c3]
  cases hx:l.drop (dV l) with
  | nil=>
   have h1:l.length - dV l=0:=by simpa using congrArg List.length hx
   have h2:¬((dV l:Int)+1<l.length):=by omega
   simp [af,eY,hb0,hbc,hlt,ht,hp,c3,hrun,hbl,w1,h2]
  | cons d q=>
   cases q with
   | nil=>
    have h1:l.length - dV l=1:=by simpa using congrArg List.length hx
    have h2:¬((dV l:Int)+1<l.length):=by omega
    simp [af,eY,hb0,hbc,hlt,ht,hp,c3,hrun,hbl,w1,h2]
   | cons e q=>
    have h1:l.length - dV l=q.length+2:=by simpa using congrArg List.length hx
    have h2:(dV l:Int)+1<l.length:=by omega
    have g0:l[dV l]?=some d:=by have:=congrArg (·[0]?) hx;simpa using this
    have g1:l[dV l+1]?=some e:=by have:=congrArg (·[1]?) hx;simpa using this
    have b0:∀h,(aA l)[dV l]'h=.i .u8 d.toNat:=fun h=>vI l _ h g0
    have b1:∀h,(aA l)[dV l+1]'h=.i .u8 e.toNat:=fun h=>vI l _ h g1
    have k0:dV l<l.length:=by omega
    have k1:dV l+1<l.length:=by omega
    have k2:dV l+1≤l.length:=by omega
    have n1:((dV l:Int)+1).toNat=dV l+1:=by omega
    have z1:(0:Int)≤(dV l:Int)+1:=by omega
    have hlt':e.toNat<256:=e.toNat_lt
    have ht':=Fh e
    have hdd:l.drop (dV l+1)=e::q:=by rw [←List.drop_drop,hx];rfl
    have hs1:((aA l).drop (dV l+1)).take (l.length - (dV l+1))=aA (e::q):=by
     rw [AY,hdd,List.take_of_length_le (by rw [oN];simp;omega)]
    have hrun':=Gj s ⟨cx.lim,s.length⟩ p hp (e::q) (by simp;omega)
    have hr':=DK (e::q)
    simp only [List.length_cons] at hr'
    have w2:IntKind.i64.wrap (1+(dV (e::q):Int))=1+(dV (e::q):Int):=w64 (by omega) (by omega)
    have w3:IntKind.i64.wrap ((dV l:Int)+(1+(dV (e::q):Int)))=(dV l:Int)+(1+(dV (e::q):Int)):=w64 (by omega) (by omega)
    by_cases d58:(d.toNat:Int)=58
    ·have d58':d=58:=UInt8.toNat_inj.1 (by have:(58:UInt8).toNat=58:=rfl;omega)
     by_cases e95:(e.toNat:Int)=95
     ·have e95':e=95:=UInt8.toNat_inj.1 (by have:(95:UInt8).toNat=95:=rfl;omega)
      simp [af,eY,hb0,hbc,hlt,ht,hp,c3,hrun,hbl,w1,h2,b0,b1,k0,k1,n1,z1,d58,e95,e95']
     ·have e95':¬e=95:=fun h=>e95 (by rw [h];rfl)
      by_cases e3:nR e=3
      ·simp [af,eY,hb0,hbc,hlt,ht,hp,c3,hrun,hbl,w1,h2,b0,b1,k0,k1,k2,n1,z1,d58,d58',e95,e95',e3,hlt',ht',hal,hs1,hrun',w2,w3]
      ·simp [af,eY,hb0,hbc,hlt,ht,hp,c3,hrun,hbl,w1,h2,b0,b1,k0,k1,n1,z1,d58,d58',e95,e95',e3,hlt',ht']
    ·have d58':¬d=58:=fun h=>d58 (by rw [h];rfl)
     simp [af,eY,hb0,hbc,hlt,ht,hp,c3,hrun,hbl,w1,h2,b0,b1,k0,k1,n1,z1,d58,d58']
 ·rw [if_neg c3]
  by_cases c5:nR c=5
  ·rw [if_pos c5]
   cases r with
   | nil=>
    have h1:l.length=1:=by rw [hcr];rfl
    simp [af,eY,hb0,hbc,hlt,ht,hp,c5,hbl,h1]
   | cons d q=>
    have h1:(1:Int)<l.length:=by rw [hcr];simp;omega
    have h2:¬(l.length:Int)=1:=by omega
    have g1:l[1]?=some d:=by rw [hcr];rfl
    have b1:∀h,(aA l)[1]'h=.i .u8 d.toNat:=fun h=>vI l _ h g1
    have k1:1<l.length:=by omega
    have k2:1≤l.length:=by omega
    have hlt':d.toNat<256:=d.toNat_lt
    have ht':=Fh d
    by_cases d62:(d.toNat:Int)=62
    ·have d62':d=62:=UInt8.toNat_inj.1 (by have:(62:UInt8).toNat=62:=rfl;omega)
     simp [af,eY,hb0,hbc,hlt,ht,hp,c5,hbl,h1,b1,k1,d62,d62']
    ·have d62':¬d=62:=fun h=>d62 (by rw [h];rfl)
     by_cases d4:nR d=4
     ·have hs1:((aA l).tail).take (l.length - 1)=aA (d::q):=by
       rw [List.take_of_length_le (by simp [hbl]),←List.drop_one,AY,hcr];rfl
      have hrun':=Gj s ⟨cx.lim,s.length⟩ p hp (d::q) (by simp at rl ⊢;omega)
      have hr':=DK (d::q)
      simp only [List.length_cons] at hr' rl
      have w2:IntKind.i64.wrap (1+(dV (d::q):Int))=1+(dV (d::q):Int):=w64 (by omega) (by omega)
      have hs2:(aA l).take (1+dV (d::q))=aA (l.take (1+dV (d::q))):=Jo _ _
      have hint:=Ez (l.take (1+dV (d::q))) (by simp;omega) (by rw [hcr];simp [Nat.add_comm 1]) s ⟨cx.lim,s.length⟩
      have n1:(1+(dV (d::q):Int)).toNat=1+dV (d::q):=by omega
      have z1:(0:Int)≤1+(dV (d::q):Int):=by omega
      have k3:1+dV (d::q)≤l.length:=by omega
      unfold ou
      cases hi:qA (l.take (1+dV (d::q))) with
      | true=>rw [hi] at hint;simp [af,eY,hb0,hbc,hlt,ht,hp,c5,hbl,h1,h2,b1,k1,k2,k3,d62,d62',d4,hlt',ht',hal,hs1,hrun',w2,n1,z1,hs2,hint]
      | false=>rw [hi] at hint;simp [af,eY,hb0,hbc,hlt,ht,hp,c5,hbl,h1,h2,b1,k1,k2,k3,d62,d62',d4,hlt',ht',hal,hs1,hrun',w2,n1,z1,hs2,hint]
     ·simp [af,eY,hb0,hbc,hlt,ht,hp,c5,hbl,h1,h2,b1,k1,d62,d62',d4,hlt',ht']
  ·rw [if_neg c5]
   by_cases c4:nR c=4
   ·rw [if_pos c4]
    have hrp:0<dV l:=by rw [hcr];exact Qh (.inr c4)
    have hs2:(aA l).take (dV l)=aA (l.take (dV l)):=Jo _ _
    have hint:=Ez (l.take (dV l)) (by simp;omega) (by rw [hcr];rw [hcr] at hrp;intro h;have:=congrArg List.length h;simp at this;omega) s ⟨cx.lim,s.length⟩
    unfold ou
    cases hi:qA (l.take (dV l)) with
    | true=>rw [hi] at hint;simp [af,eY,hb0,hbc,hlt,ht,hp,c4,hbl,hrun,hal,hrl,hs2,hint]
    | false=>rw [hi] at hint;simp [af,eY,hb0,hbc,hlt,ht,hp,c4,hbl,hrun,hal,hrl,hs2,hint]
   ·rw [if_neg c4]
    by_cases c6:nR c=6
    ·simp [af,eY,hb0,hbc,hlt,ht,hp,c6]
    ·simp [af,eY,hb0,hbc,hlt,ht,hp,c3,c4,c5,c6]
end Go.Ai.Z
