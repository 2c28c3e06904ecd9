/-
 Tokens: classes of bytes, words, integers.
-/
import Derived.Test.YtpnlnnfcaeednaaGreatDoorAiK5K6K7InjInj2Inj3Inj4KI
import Derived.Test.YtpnlnnfcaeednaaGreatDoorAiB1
set_option maxRecDepth 100000
set_option linter.unusedSimpArgs false
set_option linter.unusedVariables false
set_option linter.unusedSectionVars false
namespace Go.Ai.Z
def aiO (c:Nat):Int:=
 if c=32∨c=9∨c=10∨c=13 then 1 else if c=35 then 2
 else if 97≤c∧c≤122∨65≤c∧c≤90∨c=95 then 3 else if 48≤c∧c≤57 then 4 else if c=45 then 5
 else if c=40∨c=41∨c=91∨c=93∨c=123∨c=125∨c=44∨c=46∨c=60∨c=61∨c=124∨c=63 then 6 else 0
def o9 (b:UInt8):Int:=aiO b.toNat
def Ag:List AV:=(List.range 256).map fun c=>.i .u8 (aiO c)
theorem ZP (b:UInt8):Ag[b.toNat]?=some (.i .u8 (o9 b)):=by
 have:b.toNat<256:=b.toNat_lt
 simp [Ag,o9,this]
@[simp] theorem ajh:Ag.length=256:=by simp [Ag]
@[simp] theorem ajg:Ag.all AV.one=true:=by
 simp [Ag]
set_option maxRecDepth 100000 in
theorem VS (s:St) (cx:Ctx):dJ P0.glob (jL P0 100) cx false 100 kN.code [] s=.ret [(0,.bx Ag)] s:=by
 kernel_rfl
theorem O8 (s:St) (cx:Ctx):ah P0 (.fn (.func tJ) [] []) [] s cx=.ret (.ag Ag) s:=by
 refine MN (by simp) ?_
 have h:=qE (Yn P0 100) false 100 _ _ _ _ (VS s ⟨s.length,s.length⟩) (by simp)
 have hr:kN.res=[.cell 0 (some 256)]:=rfl
 have hn:kN.np=0:=rfl
 have hp:kN.pure=true:=rfl
 have hk:kN.keep=false:=rfl
 have hu:Ag.map AV.plain1=Ag:=by simp [Ag]
 have ht:Ag.take 256=Ag:=List.take_of_length_le (by simp)
 simp [af,hr,hn,hp,hk,h,ht,hu]
def Lp (b:UInt8):Bool:=decide (o9 b=3) || decide (o9 b=4)
def iF (b:List UInt8):Nat:=(b.takeWhile Lp).length
theorem uO (c:UInt8) (r:List UInt8):iF (c::r)=if Lp c=true then iF r+1 else 0:=by
 unfold iF;rw [List.takeWhile_cons];split<;>simp
theorem DI (b:List UInt8):iF b≤b.length:=by
 unfold iF;exact (List.takeWhile_sublist _).length_le
theorem NT (s:St) (cx:Ctx) (p:Nat) (hp:s[p]?=some (.cells Ag)) (l:List UInt8) (hl:l.length≤1048576):∀(rest:List UInt8) (i:Nat),l.drop i=rest→
  eY (aB P0.glob (ah P0) cx false pY) [0,1,4] [(0,.v (.pt p 0)),(1,.v (.sl (aC l))),(4,.v (.i .i64 i))] s=
   .exit 0 [(0,.v (.pt p 0)),(1,.v (.sl (aC l))),(4,.v (.i .i64 ((i:Int)+(iF rest:Int)))),(30,.v (.b false))] s
 | [],i,h=>by
  have h1:¬i<l.length:=Nat.not_lt.2 (drop_nil h)
  have hb:(aC l).length=l.length:=by simp [aC]
  refine ak fun K hK=>?_
  simp [pY,h1,hb,iF]
 | b::r,i,h=>by
  obtain ⟨h1,h2,h3,h4⟩:=drop_cons h
  have h5:=h4 h3
  have hb:(aC l)[i]?=some (.i .u8 b.toNat):=by simp [aC,h1]
  have hbl:(aC l).length=l.length:=by simp [aC]
  have hb':∀h,(aC l)[i]'h=.i .u8 b.toNat:=fun h=>Option.some.inj ((List.getElem?_eq_getElem h).symm.trans hb)
  have hw:=wI (i:=i) (by omega)
  have ht:∀h,Ag[b.toNat]'h=.i .u8 (o9 b):=fun h=>Option.some.inj ((List.getElem?_eq_getElem h).symm.trans (ZP b))
  have hlt:b.toNat<256:=b.toNat_lt
  have hp':p<s.length:=(List.getElem?_eq_some_iff.1 hp).1
  have ih:=NT s cx p hp l hl r (i+1) h2
  refine ak fun K hK=>?_
  rw [←hK,show ((i+1:Nat):Int)=(i:Int)+1 from rfl] at ih
  clear hK
  rw [uO]
  by_cases c3:o9 b=3<;>by_cases c4:o9 b=4
  ·omega
  ·have hwr:Lp b=true:=by simp [Lp,c3]
   have e:(i:Int)+((iF r:Int)+1)=(i:Int)+1+iF r:=by omega
   simp [pY,h3,hb',hbl,hp,ht,hlt,c3,c4,hw,ih,hwr,e]
  ·have hwr:Lp b=true:=by simp [Lp,c4]
   have e:(i:Int)+((iF r:Int)+1)=(i:Int)+1+iF r:=by omega
   simp [pY,h3,hb',hbl,hp,ht,hlt,c3,c4,hw,ih,hwr,e]
  ·have hwr:Lp b=false:=by simp [Lp,c3,c4]
   simp [pY,h3,hb',hbl,hp,ht,hlt,c3,c4,hw,hwr]
theorem Gf (s:St) (cx:Ctx) (p:Nat) (hp:s[p]?=some (.cells Ag)) (l:List UInt8) (hl:l.length≤1048576):
  ah P0 (.fn (.func su) [] []) [.pt p 0,.sl (aC l)] s cx=.ret (.i .i64 (iF l)) s:=by
 refine VI (by simp) ?_
 have h:=NT s ⟨cx.lim,s.length⟩ p hp l hl l 0 rfl
 simp at h
 simp [af,zJ,h]
end Go.Ai.Z
namespace Go.Ai.Z
theorem oN (l:List UInt8):(aC l).length=l.length:=by simp [aC]
theorem AX (l:List UInt8) (n:Nat):(aC l).drop n=aC (l.drop n):=by simp [aC,List.map_drop]
theorem Jl (l:List UInt8) (n:Nat):(aC l).take n=aC (l.take n):=by simp [aC,List.map_take]
theorem vH (l:List UInt8) (i:Nat) (h:i<(aC l).length) {b:UInt8} (hb:l[i]?=some b):(aC l)[i]=.i .u8 b.toNat:=by
 have h':i<l.length:=by simpa [aC] using h
 rw [List.getElem?_eq_getElem h'] at hb
 cases hb
 simp [aC]
theorem Na (l:List UInt8):(aC l).all (fun e=>e.cells.length == 1)=true:=by simp [aC]
theorem UU (l:List UInt8):(aC l).mapM byteOf=some l:=by
 induction l with
 | nil=>rfl
 | cons a r ih=>
  have:aC (a::r)=.i .u8 a.toNat::aC r:=rfl
  simp [this,byteOf,ih]
def O5 (b:UInt8):Bool:=decide (48≤b.toNat) && decide (b.toNat≤57)
def pJ (b:List UInt8):Bool:=decide (1≤b.length) && decide (b.length≤18) && !(b.head? == some 48) && b.all O5
def qA (b:List UInt8):Bool:=decide (b=[48]) || (if b.head?=some 45 then pJ (b.drop 1) else pJ b)
theorem En (s:St) (cx:Ctx) (l:List UInt8) (hl:l.length≤1048576):∀(rest:List UInt8) (i:Nat),l.drop i=rest→
  ∃j:Int,eY (aB P0.glob (ah P0) cx false lJ) [28,29,30] [(28,.v (.sl (aC l))),(29,.v (.i .i64 l.length)),(30,.v (.i .i64 i))] s=
   if rest.all O5=true then .exit 0 [(28,.v (.sl (aC l))),(29,.v (.i .i64 l.length)),(30,.v (.i .i64 j)),(31,.v (.b false))] s else .ret [(2,.v (.b false))] s
 | [],i,h=>by
  have h1:¬i<l.length:=Nat.not_lt.2 (drop_nil h)
  refine ⟨i,ak fun K hK=>?_⟩
  simp [lJ,h1]
 | b::r,i,h=>by
  obtain ⟨h1,h2,h3,h4⟩:=drop_cons h
  have hb:∀h,(aC l)[i]'h=.i .u8 b.toNat:=fun h=>vH l i h h1
  have hbl:=oN l
  have hw:=wI (i:=i) (by omega)
  obtain ⟨j,ih⟩:=En s cx l hl r (i+1) h2
  refine ⟨j,ak fun K hK=>?_⟩
  rw [←hK,show ((i+1:Nat):Int)=(i:Int)+1 from rfl] at ih
  clear hK
  by_cases d1:(b.toNat:Int)<48
  ·have hd:O5 b=false:=by simp [O5];omega
   simp [lJ,h3,hb,hbl,hd,hw,d1]
  ·by_cases d2:(57:Int)<b.toNat
   ·have hd:O5 b=false:=by simp [O5];omega
    simp [lJ,h3,hb,hbl,hd,hw,d1,d2]
   ·have hd:O5 b=true:=by simp [O5];omega
    simp [lJ,h3,hb,hbl,hd,hw,d1,d2,ih]
def _root_.Go.Ai.aT.fst:aT→aT
 | .seq a _=>a
 | c=>c
def _root_.Go.Ai.aT.snd:aT→aT
 | .seq _ b=>b
 | c=>c
def DX:aT:=bH.code.snd.snd.snd
theorem aa5:bH.code=.seq bH.code.fst (.seq bH.code.snd.fst (.seq bH.code.snd.snd.fst DX)):=rfl
theorem XD (e:Env) (he:e=[]∨e=[(11,.v (.b false))]) (l:List UInt8) (hl:l.length≤1048576) (s:St) (cx:Ctx):aB P0.glob (ah P0) cx false DX ((0,.v (.sl (aC l)))::e) s=.ret [(2,.v (.b (pJ l)))] s:=by
 have hbl:=oN l
 rcases he with rfl|rfl
 all_goals
 cases l with
 | nil=>simp [DX,bH,aT.snd,aC,pJ]
 | cons c r=>
  have hbc:∀h,(aC (c::r))[0]'h=.i .u8 c.toNat:=fun h=>rfl
  obtain ⟨j,hlp⟩:=En s cx (c::r) hl (c::r) 0 rfl
  simp only [List.length_cons] at hbl hlp hl
  have h1:¬((r.length:Int)+1<1):=by omega
  have hp:0<r.length+1:=by omega
  have hcast:((r.length+1:Nat):Int)=(r.length:Int)+1:=rfl
  simp only [hcast,show ((0:Nat):Int)=0 from rfl] at hlp
  by_cases h18:(18:Int)<(r.length:Int)+1
  ·have hi:pJ (c::r)=false:=by simp [pJ];intros;omega
   simp [DX,bH,aT.snd,hbl,h18,hi,h1]
  ·have h18':r.length+1≤18:=by omega
   by_cases h48:c=48
   ·have hi:pJ (c::r)=false:=by simp [pJ,h48]
    have hc:(c.toNat:Int)=48:=by rw [h48];rfl
    simp [DX,bH,aT.snd,hbl,h18,hi,h1,hbc,hp,hc]
   ·have hi:pJ (c::r)=(c::r).all O5:=by simp [pJ,h48,h18']
    have hc:¬(c.toNat:Int)=48:=fun h=>h48 (UInt8.toNat_inj.1 (by have:(48:UInt8).toNat=48:=rfl;omega))
    rw [hi]
    cases hd:(c::r).all O5 with
    | true=>rw [hd] at hlp;simp at hlp;simp [DX,bH,aT.snd,hbl,h18,h1,hbc,hp,hc,hlp]
    | false=>rw [hd] at hlp;simp at hlp;simp [DX,bH,aT.snd,hbl,h18,h1,hbc,hp,hc,hlp]
theorem Es (l:List UInt8) (hl:l.length≤1048576) (hne:l≠[]) (s:St) (cx:Ctx):
  ah P0 (.fn (.func tH) [] []) [.sl (aC l)] s cx=.ret (.b (qA l)) s:=by
 refine ML (by simp) ?_
 have hs:=UU l
 have hbl:=oN l
 have hn:bH.np=1:=rfl
 have hr:bH.res=[.tmp 2]:=rfl
 have hp:bH.pure=true:=rfl
 have hk:bH.keep=false:=rfl
 obtain ⟨c,r,hcr⟩:∃c r,l=c::r:=by cases l with|nil=>exact absurd rfl hne|cons c r=>exact ⟨c,r,rfl⟩
 have hbc:∀h,(aC l)[0]'h=.i .u8 c.toNat:=fun h=>vH l 0 h (by simp [hcr])
 have hpos:0<(aC l).length:=by rw [hbl,hcr];simp
 unfold af
 rw [aa5]
 simp only [hn,hr,hp,hk]
 by_cases h0:l=[48]
 ·have hi:qA l=true:=by simp [qA,h0]
  rw [hi]
  simp [aT.fst,aT.snd,bH,hs,h0]
  rw [h0] at hs
  simp [hs]
 ·by_cases hm:c=45
  ·have hi:qA l=pJ (l.drop 1):=by simp [qA,h0];simp [hcr,hm]
   have ht:=XD [] (.inl rfl) (l.drop 1) (by simp;omega) s ⟨s.length,s.length⟩
   have hc:(c.toNat:Int)=45:=by rw [hm];rfl
   have hd:((aC l).drop 1).take ((aC l).length - 1)=aC (l.drop 1):=by
    rw [List.take_of_length_le (by simp),AX]
   have hle:1≤(aC l).length:=hpos
   have hal:=Na l
   simp only [hcr,List.drop_succ_cons,List.drop_zero] at ht hi hd
   simp only [←hcr] at hi hd
   simp only [List.drop_one] at hd
   simp [aT.fst,aT.snd,bH,hs,h0,hbc,hpos,hc,hle,hal,hd,ht,hi]
  ·have hi:qA l=pJ l:=by simp [qA,h0];simp [hcr,hm]
   have ht:=XD [(11,.v (.b false))] (.inr rfl) l hl s ⟨s.length,s.length⟩
   have hc:¬(c.toNat:Int)=45:=fun h=>hm (UInt8.toNat_inj.1 (by have:(45:UInt8).toNat=45:=rfl;omega))
   simp [aT.fst,aT.snd,bH,hs,h0,hbc,hpos,hc,ht,hi]
end Go.Ai.Z
namespace Go.Ai.Z
def rG (b:List UInt8) (n:Nat):Int×Nat:=if qA (b.take n)=true then (2,n) else (0,n)
def eu:List UInt8→Int×Nat
 | []=>(0,0)
 | c::r=>
  if o9 c=3 then
   (match (c::r).drop (iF (c::r)) with
   | d::e::q=>if d=58∧e≠95∧o9 e=3 then (1,iF (c::r)+(1+iF (e::q))) else (1,iF (c::r))
   | _=>(1,iF (c::r)))
  else if o9 c=5 then
   (match r with
   | []=>(0,1)
   | d::_=>if d=62 then (3,2) else if o9 d=4 then rG (c::r) (1+iF r) else (0,1))
  else if o9 c=4 then rG (c::r) (iF (c::r))
  else if o9 c=6 then (3,1) else (0,1)
theorem qX (c:UInt8) (r:List UInt8):eu (c::r)=
  if o9 c=3 then
   (match (c::r).drop (iF (c::r)) with
   | d::e::q=>if d=58∧e≠95∧o9 e=3 then (1,iF (c::r)+(1+iF (e::q))) else (1,iF (c::r))
   | _=>(1,iF (c::r)))
  else if o9 c=5 then
   (match r with
   | []=>(0,1)
   | d::_=>if d=62 then (3,2) else if o9 d=4 then rG (c::r) (1+iF r) else (0,1))
  else if o9 c=4 then rG (c::r) (iF (c::r))
  else if o9 c=6 then (3,1) else (0,1):=rfl
theorem ahD {a b:UInt8} (h:a≠b):¬((a.toNat:Int)=(b.toNat:Int)):=fun h'=>h (UInt8.toNat_inj.1 (by omega))
theorem Fa (b:UInt8):∀h,Ag[b.toNat]'h=.i .u8 (o9 b):=fun h=>Option.some.inj ((List.getElem?_eq_getElem h).symm.trans (ZP b))
theorem Qn {c:UInt8} {r:List UInt8} (h:o9 c=3∨o9 c=4):0<iF (c::r):=by
 rw [uO]
 have:Lp c=true:=by rcases h with h|h<;>simp [Lp,h]
 simp [this]
theorem VY (s:St) (cx:Ctx) (p:Nat) (hp:s[p]?=some (.cells Ag)) (l:List UInt8) (hl:l.length≤1048576) (hne:l≠[]):
  ah P0 (.fn (.func vK) [] []) [.pt p 0,.sl (aC l)] s cx=.ret (.tu [.i .i64 (eu l).1,.i .i64 ((eu l).2:Int)]) s:=by
 refine Tz (by simp) ?_
 obtain ⟨c,r,hcr⟩:∃c r,l=c::r:=by cases l with|nil=>exact absurd rfl hne|cons c r=>exact ⟨c,r,rfl⟩
 have hbl:=oN l
 have hbc:∀h,(aC l)[0]'h=.i .u8 c.toNat:=fun h=>vH l 0 h (by simp [hcr])
 have hpos:0<(aC l).length:=by rw [hbl,hcr];simp
 have hb0:(aC l)[0]?=some (.i .u8 c.toNat):=by rw [List.getElem?_eq_getElem hpos,hbc]
 have hlt:c.toNat<256:=c.toNat_lt
 have ht:=Fa c
 have hrun:=Gf s ⟨cx.lim,s.length⟩ p hp l hl
 have hal:=Na l
 have hrl:=DI l
 have hsc:eu l=eu (c::r):=by rw [hcr]
 rw [hsc,qX,←hcr]
 have w1:IntKind.i64.wrap ((iF l:Int)+1)=(iF l:Int)+1:=w64 (by omega) (by omega)
 have rl:r.length+1=l.length:=by rw [hcr];simp
 by_cases c3:o9 c=3
 ·rw [if_pos c3]
  cases hx:l.drop (iF l) with
  | nil=>
   have h1:l.length - iF l=0:=by simpa using congrArg List.length hx
   have h2:¬((iF l:Int)+1<l.length):=by omega
   simp [af,fA,hb0,hbc,hlt,ht,hp,c3,hrun,hbl,w1,h2]
  | cons d q=>
   cases q with
   | nil=>
    have h1:l.length - iF l=1:=by simpa using congrArg List.length hx
    have h2:¬((iF l:Int)+1<l.length):=by omega
    simp [af,fA,hb0,hbc,hlt,ht,hp,c3,hrun,hbl,w1,h2]
   | cons e q=>
    have h1:l.length - iF l=q.length+2:=by simpa using congrArg List.length hx
    have h2:(iF l:Int)+1<l.length:=by omega
    have g0:l[iF l]?=some d:=by have:=congrArg (·[0]?) hx;simpa using this
    have g1:l[iF l+1]?=some e:=by have:=congrArg (·[1]?) hx;simpa using this
    have b0:∀h,(aC l)[iF l]'h=.i .u8 d.toNat:=fun h=>vH l _ h g0
    have b1:∀h,(aC l)[iF l+1]'h=.i .u8 e.toNat:=fun h=>vH l _ h g1
    have k0:iF l<l.length:=by omega
    have k1:iF l+1<l.length:=by omega
    have k2:iF l+1≤l.length:=by omega
    have n1:((iF l:Int)+1).toNat=iF l+1:=by omega
    have z1:(0:Int)≤(iF l:Int)+1:=by omega
    have hlt':e.toNat<256:=e.toNat_lt
    have ht':=Fa e
    have hdd:l.drop (iF l+1)=e::q:=by rw [←List.drop_drop,hx];rfl
    have hs1:((aC l).drop (iF l+1)).take (l.length - (iF l+1))=aC (e::q):=by
     rw [AX,hdd,List.take_of_length_le (by rw [oN];simp;omega)]
    have hrun':=Gf s ⟨cx.lim,s.length⟩ p hp (e::q) (by simp;omega)
    have hr':=DI (e::q)
    simp only [List.length_cons] at hr'
    have w2:IntKind.i64.wrap (1+(iF (e::q):Int))=1+(iF (e::q):Int):=w64 (by omega) (by omega)
    have w3:IntKind.i64.wrap ((iF l:Int)+(1+(iF (e::q):Int)))=(iF l:Int)+(1+(iF (e::q):Int)):=w64 (by omega) (by omega)
    by_cases d58:(d.toNat:Int)=58
    ·have d58':d=58:=UInt8.toNat_inj.1 (by have:(58:UInt8).toNat=58:=rfl;omega)
     by_cases e95:(e.toNat:Int)=95
     ·have e95':e=95:=UInt8.toNat_inj.1 (by have:(95:UInt8).toNat=95:=rfl;omega)
      simp [af,fA,hb0,hbc,hlt,ht,hp,c3,hrun,hbl,w1,h2,b0,b1,k0,k1,n1,z1,d58,e95,e95']
     ·have e95':¬e=95:=fun h=>e95 (by rw [h];rfl)
      by_cases e3:o9 e=3
      ·simp [af,fA,hb0,hbc,hlt,ht,hp,c3,hrun,hbl,w1,h2,b0,b1,k0,k1,k2,n1,z1,d58,d58',e95,e95',e3,hlt',ht',hal,hs1,hrun',w2,w3]
      ·simp [af,fA,hb0,hbc,hlt,ht,hp,c3,hrun,hbl,w1,h2,b0,b1,k0,k1,n1,z1,d58,d58',e95,e95',e3,hlt',ht']
    ·have d58':¬d=58:=fun h=>d58 (by rw [h];rfl)
     simp [af,fA,hb0,hbc,hlt,ht,hp,c3,hrun,hbl,w1,h2,b0,b1,k0,k1,n1,z1,d58,d58']
 ·rw [if_neg c3]
  by_cases c5:o9 c=5
  ·rw [if_pos c5]
   cases r with
   | nil=>
    have h1:l.length=1:=by rw [hcr];rfl
    simp [af,fA,hb0,hbc,hlt,ht,hp,c5,hbl,h1]
   | cons d q=>
    have h1:(1:Int)<l.length:=by rw [hcr];simp;omega
    have h2:¬(l.length:Int)=1:=by omega
    have g1:l[1]?=some d:=by rw [hcr];rfl
    have b1:∀h,(aC l)[1]'h=.i .u8 d.toNat:=fun h=>vH l _ h g1
    have k1:1<l.length:=by omega
    have k2:1≤l.length:=by omega
    have hlt':d.toNat<256:=d.toNat_lt
    have ht':=Fa d
    by_cases d62:(d.toNat:Int)=62
    ·have d62':d=62:=UInt8.toNat_inj.1 (by have:(62:UInt8).toNat=62:=rfl;omega)
     simp [af,fA,hb0,hbc,hlt,ht,hp,c5,hbl,h1,b1,k1,d62,d62']
    ·have d62':¬d=62:=fun h=>d62 (by rw [h];rfl)
     by_cases d4:o9 d=4
     ·have hs1:((aC l).tail).take (l.length - 1)=aC (d::q):=by
       rw [List.take_of_length_le (by simp [hbl]),←List.drop_one,AX,hcr];rfl
      have hrun':=Gf s ⟨cx.lim,s.length⟩ p hp (d::q) (by simp at rl ⊢;omega)
      have hr':=DI (d::q)
      simp only [List.length_cons] at hr' rl
      have w2:IntKind.i64.wrap (1+(iF (d::q):Int))=1+(iF (d::q):Int):=w64 (by omega) (by omega)
      have hs2:(aC l).take (1+iF (d::q))=aC (l.take (1+iF (d::q))):=Jl _ _
      have hint:=Es (l.take (1+iF (d::q))) (by simp;omega) (by rw [hcr];simp [Nat.add_comm 1]) s ⟨cx.lim,s.length⟩
      have n1:(1+(iF (d::q):Int)).toNat=1+iF (d::q):=by omega
      have z1:(0:Int)≤1+(iF (d::q):Int):=by omega
      have k3:1+iF (d::q)≤l.length:=by omega
      unfold rG
      cases hi:qA (l.take (1+iF (d::q))) with
      | true=>rw [hi] at hint;simp [af,fA,hb0,hbc,hlt,ht,hp,c5,hbl,h1,h2,b1,k1,k2,k3,d62,d62',d4,hlt',ht',hal,hs1,hrun',w2,n1,z1,hs2,hint]
      | false=>rw [hi] at hint;simp [af,fA,hb0,hbc,hlt,ht,hp,c5,hbl,h1,h2,b1,k1,k2,k3,d62,d62',d4,hlt',ht',hal,hs1,hrun',w2,n1,z1,hs2,hint]
     ·simp [af,fA,hb0,hbc,hlt,ht,hp,c5,hbl,h1,h2,b1,k1,d62,d62',d4,hlt',ht']
  ·rw [if_neg c5]
   by_cases c4:o9 c=4
   ·rw [if_pos c4]
    have hrp:0<iF l:=by rw [hcr];exact Qn (.inr c4)
    have hs2:(aC l).take (iF l)=aC (l.take (iF l)):=Jl _ _
    have hint:=Es (l.take (iF l)) (by simp;omega) (by rw [hcr];rw [hcr] at hrp;intro h;have:=congrArg List.length h;simp at this;omega) s ⟨cx.lim,s.length⟩
    unfold rG
    cases hi:qA (l.take (iF l)) with
    | true=>rw [hi] at hint;simp [af,fA,hb0,hbc,hlt,ht,hp,c4,hbl,hrun,hal,hrl,hs2,hint]
    | false=>rw [hi] at hint;simp [af,fA,hb0,hbc,hlt,ht,hp,c4,hbl,hrun,hal,hrl,hs2,hint]
   ·rw [if_neg c4]
    by_cases c6:o9 c=6
    ·simp [af,fA,hb0,hbc,hlt,ht,hp,c6]
    ·simp [af,fA,hb0,hbc,hlt,ht,hp,c3,c4,c5,c6]
end Go.Ai.Z
