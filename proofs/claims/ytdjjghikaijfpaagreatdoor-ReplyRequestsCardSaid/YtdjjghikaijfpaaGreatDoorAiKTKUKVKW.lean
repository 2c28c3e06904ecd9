/-
 Tokens: classes of bytes, words, integers.
-/
import Derived.Test.YtdjjghikaijfpaaGreatDoorAiKGKHK5K6K7InjInj2Inj3Inj4KIT1KHQ
import Derived.Test.YtdjjghikaijfpaaGreatDoorAiB1
set_option maxRecDepth 100000
set_option linter.unusedSimpArgs false
set_option linter.unusedVariables false
set_option linter.unusedSectionVars false
namespace Go.Ai.Z
def aaR (c:Nat):Int:=
 if c=32∨c=9∨c=10∨c=13 then 1 else if c=35 then 2
 else if 97≤c∧c≤122∨65≤c∧c≤90∨c=95 then 3 else if 48≤c∧c≤57 then 4 else if c=45 then 5
 else if c=40∨c=41∨c=91∨c=93∨c=123∨c=125∨c=44∨c=46∨c=60∨c=61∨c=124∨c=63 then 6 else 0
def jS (b:UInt8):Int:=aaR b.toNat
def Bd:List AV:=(List.range 256).map fun c=>.i .u8 (aaR c)
theorem abd (b:UInt8):Bd[b.toNat]?=some (.i .u8 (jS b)):=by
 have:b.toNat<256:=b.toNat_lt
 simp [Bd,jS,this]
@[simp] theorem alA:Bd.length=256:=by simp [Bd]
@[simp] theorem alz:Bd.all AV.one=true:=by
 simp [Bd]
set_option maxRecDepth 100000 in
theorem XZ (s:St) (cx:Ctx):aX P0.glob (gZ P0 100) cx false 100 jo.code [] s=.ret [(0,.bx Bd)] s:=by
 kernel_rfl
theorem Ri (s:St) (cx:Ctx):aj P0 (.fn (.func su) [] []) [] s cx=.ret (.ag Bd) s:=by
 refine O3 (by simp) ?_
 have h:=nN (ZX P0 100) false 100 _ _ _ _ (XZ s ⟨s.length,s.length⟩) (by simp)
 have hr:jo.res=[.cell 0 (some 256)]:=rfl
 have hn:jo.np=0:=rfl
 have hp:jo.pure=true:=rfl
 have hk:jo.keep=false:=rfl
 have hu:Bd.map AV.plain1=Bd:=by simp [Bd]
 have ht:Bd.take 256=Bd:=List.take_of_length_le (by simp)
 simp [af,hr,hn,hp,hk,h,ht,hu]
def uH (b:UInt8):Bool:=decide (jS b=3) || decide (jS b=4)
def gB (b:List UInt8):Nat:=(b.takeWhile uH).length
theorem Jb (c:UInt8) (r:List UInt8):gB (c::r)=if uH c=true then gB r+1 else 0:=by
 unfold gB;rw [List.takeWhile_cons];split<;>simp
theorem Ja (b:List UInt8):gB b≤b.length:=by
 unfold gB;exact (List.takeWhile_sublist _).length_le
theorem P6 (s:St) (cx:Ctx) (p:Nat) (hp:s[p]?=some (.cells Bd)) (l:List UInt8) (hl:l.length≤1048576):∀(rest:List UInt8) (i:Nat),l.drop i=rest→
  bF (ay P0.glob (aj P0) cx false oC) [0,1,4] [(0,.v (.pt p 0)),(1,.v (.sl (ai l))),(4,.v (.i .i64 i))] s=
   .exit 0 [(0,.v (.pt p 0)),(1,.v (.sl (ai l))),(4,.v (.i .i64 ((i:Int)+(gB rest:Int)))),(30,.v (.b false))] s
 | [],i,h=>by
  have h1:¬i<l.length:=Nat.not_lt.2 (drop_nil h)
  have hb:(ai l).length=l.length:=by simp [ai]
  refine ak fun K hK=>?_
  simp [oC,h1,hb,gB]
 | b::r,i,h=>by
  obtain ⟨h1,h2,h3,h4⟩:=drop_cons h
  have h5:=h4 h3
  have hb:(ai l)[i]?=some (.i .u8 b.toNat):=by simp [ai,h1]
  have hbl:(ai l).length=l.length:=by simp [ai]
  have hb':∀h,(ai l)[i]'h=.i .u8 b.toNat:=fun h=>Option.some.inj ((List.getElem?_eq_getElem h).symm.trans hb)
  have hw:=wI (i:=i) (by omega)
  have ht:∀h,Bd[b.toNat]'h=.i .u8 (jS b):=fun h=>Option.some.inj ((List.getElem?_eq_getElem h).symm.trans (abd b))
  have hlt:b.toNat<256:=b.toNat_lt
  have hp':p<s.length:=(List.getElem?_eq_some_iff.1 hp).1
  have ih:=P6 s cx p hp l hl r (i+1) h2
  refine ak fun K hK=>?_
  rw [←hK,show ((i+1:Nat):Int)=(i:Int)+1 from rfl] at ih
  clear hK
  rw [Jb]
  by_cases c3:jS b=3<;>by_cases c4:jS b=4
  ·omega
  ·have hwr:uH b=true:=by simp [uH,c3]
   have e:(i:Int)+((gB r:Int)+1)=(i:Int)+1+gB r:=by omega
   simp [oC,h3,hb',hbl,hp,ht,hlt,c3,c4,hw,ih,hwr,e]
  ·have hwr:uH b=true:=by simp [uH,c4]
   have e:(i:Int)+((gB r:Int)+1)=(i:Int)+1+gB r:=by omega
   simp [oC,h3,hb',hbl,hp,ht,hlt,c3,c4,hw,ih,hwr,e]
  ·have hwr:uH b=false:=by simp [uH,c3,c4]
   simp [oC,h3,hb',hbl,hp,ht,hlt,c3,c4,hw,hwr]
theorem IQ (s:St) (cx:Ctx) (p:Nat) (hp:s[p]?=some (.cells Bd)) (l:List UInt8) (hl:l.length≤1048576):
  aj P0 (.fn (.func qU) [] []) [.pt p 0,.sl (ai l)] s cx=.ret (.i .i64 (gB l)) s:=by
 refine XJ (by simp) ?_
 have h:=P6 s ⟨cx.lim,s.length⟩ p hp l hl l 0 rfl
 simp at h
 simp [af,Aq,h]
end Go.Ai.Z
namespace Go.Ai.Z
theorem dM (l:List UInt8):(ai l).length=l.length:=by simp [ai]
theorem BR (l:List UInt8) (n:Nat):(ai l).drop n=ai (l.drop n):=by simp [ai,List.map_drop]
theorem LG (l:List UInt8) (n:Nat):(ai l).take n=ai (l.take n):=by simp [ai,List.map_take]
theorem uU (l:List UInt8) (i:Nat) (h:i<(ai l).length) {b:UInt8} (hb:l[i]?=some b):(ai l)[i]=.i .u8 b.toNat:=by
 have h':i<l.length:=by simpa [ai] using h
 rw [List.getElem?_eq_getElem h'] at hb
 cases hb
 simp [ai]
theorem Ph (l:List UInt8):(ai l).all (fun e=>e.cells.length == 1)=true:=by simp [ai]
theorem Js (l:List UInt8):(ai l).mapM byteOf=some l:=by
 induction l with
 | nil=>rfl
 | cons a r ih=>
  have:ai (a::r)=.i .u8 a.toNat::ai r:=rfl
  simp [this,byteOf,ih]
def Np (b:UInt8):Bool:=decide (48≤b.toNat) && decide (b.toNat≤57)
def lQ (b:List UInt8):Bool:=decide (1≤b.length) && decide (b.length≤18) && !(b.head? == some 48) && b.all Np
def kE (b:List UInt8):Bool:=decide (b=[48]) || (if b.head?=some 45 then lQ (b.drop 1) else lQ b)
theorem F5 (s:St) (cx:Ctx) (l:List UInt8) (hl:l.length≤1048576):∀(rest:List UInt8) (i:Nat),l.drop i=rest→
  ∃j:Int,bF (ay P0.glob (aj P0) cx false jK) [28,29,30] [(28,.v (.sl (ai l))),(29,.v (.i .i64 l.length)),(30,.v (.i .i64 i))] s=
   if rest.all Np=true then .exit 0 [(28,.v (.sl (ai l))),(29,.v (.i .i64 l.length)),(30,.v (.i .i64 j)),(31,.v (.b false))] s else .ret [(2,.v (.b false))] s
 | [],i,h=>by
  have h1:¬i<l.length:=Nat.not_lt.2 (drop_nil h)
  refine ⟨i,ak fun K hK=>?_⟩
  simp [jK,h1]
 | b::r,i,h=>by
  obtain ⟨h1,h2,h3,h4⟩:=drop_cons h
  have hb:∀h,(ai l)[i]'h=.i .u8 b.toNat:=fun h=>uU l i h h1
  have hbl:=dM l
  have hw:=wI (i:=i) (by omega)
  obtain ⟨j,ih⟩:=F5 s cx l hl r (i+1) h2
  refine ⟨j,ak fun K hK=>?_⟩
  rw [←hK,show ((i+1:Nat):Int)=(i:Int)+1 from rfl] at ih
  clear hK
  by_cases d1:(b.toNat:Int)<48
  ·have hd:Np b=false:=by simp [Np];omega
   simp [jK,h3,hb,hbl,hd,hw,d1]
  ·by_cases d2:(57:Int)<b.toNat
   ·have hd:Np b=false:=by simp [Np];omega
    simp [jK,h3,hb,hbl,hd,hw,d1,d2]
   ·have hd:Np b=true:=by simp [Np];omega
    simp [jK,h3,hb,hbl,hd,hw,d1,d2,ih]
def _root_.Go.Ai.aC.fst:aC→aC
 | .seq a _=>a
 | c=>c
def _root_.Go.Ai.aC.snd:aC→aC
 | .seq _ b=>b
 | c=>c
def Fe:aC:=aT.code.snd.snd.snd
theorem acK:aT.code=.seq aT.code.fst (.seq aT.code.snd.fst (.seq aT.code.snd.snd.fst Fe)):=rfl
theorem Y4 (e:Env) (he:e=[]∨e=[(11,.v (.b false))]) (l:List UInt8) (hl:l.length≤1048576) (s:St) (cx:Ctx):ay P0.glob (aj P0) cx false Fe ((0,.v (.sl (ai l)))::e) s=.ret [(2,.v (.b (lQ l)))] s:=by
 have hbl:=dM l
 rcases he with rfl|rfl
 all_goals
 cases l with
 | nil=>simp [Fe,aT,aC.snd,ai,lQ]
 | cons c r=>
  have hbc:∀h,(ai (c::r))[0]'h=.i .u8 c.toNat:=fun h=>rfl
  obtain ⟨j,hlp⟩:=F5 s cx (c::r) hl (c::r) 0 rfl
  simp only [List.length_cons] at hbl hlp hl
  have h1:¬((r.length:Int)+1<1):=by omega
  have hp:0<r.length+1:=by omega
  have hcast:((r.length+1:Nat):Int)=(r.length:Int)+1:=rfl
  simp only [hcast,show ((0:Nat):Int)=0 from rfl] at hlp
  by_cases h18:(18:Int)<(r.length:Int)+1
  ·have hi:lQ (c::r)=false:=by simp [lQ];intros;omega
   simp [Fe,aT,aC.snd,hbl,h18,hi,h1]
  ·have h18':r.length+1≤18:=by omega
   by_cases h48:c=48
   ·have hi:lQ (c::r)=false:=by simp [lQ,h48]
    have hc:(c.toNat:Int)=48:=by rw [h48];rfl
    simp [Fe,aT,aC.snd,hbl,h18,hi,h1,hbc,hp,hc]
   ·have hi:lQ (c::r)=(c::r).all Np:=by simp [lQ,h48,h18']
    have hc:¬(c.toNat:Int)=48:=fun h=>h48 (UInt8.toNat_inj.1 (by have:(48:UInt8).toNat=48:=rfl;omega))
    rw [hi]
    cases hd:(c::r).all Np with
    | true=>rw [hd] at hlp;simp at hlp;simp [Fe,aT,aC.snd,hbl,h18,h1,hbc,hp,hc,hlp]
    | false=>rw [hd] at hlp;simp at hlp;simp [Fe,aT,aC.snd,hbl,h18,h1,hbc,hp,hc,hlp]
theorem F9 (l:List UInt8) (hl:l.length≤1048576) (hne:l≠[]) (s:St) (cx:Ctx):
  aj P0 (.fn (.func rZ) [] []) [.sl (ai l)] s cx=.ret (.b (kE l)) s:=by
 refine O1 (by simp) ?_
 have hs:=Js l
 have hbl:=dM l
 have hn:aT.np=1:=rfl
 have hr:aT.res=[.tmp 2]:=rfl
 have hp:aT.pure=true:=rfl
 have hk:aT.keep=false:=rfl
 obtain ⟨c,r,hcr⟩:∃c r,l=c::r:=by cases l with|nil=>exact absurd rfl hne|cons c r=>exact ⟨c,r,rfl⟩
 have hbc:∀h,(ai l)[0]'h=.i .u8 c.toNat:=fun h=>uU l 0 h (by simp [hcr])
 have hpos:0<(ai l).length:=by rw [hbl,hcr];simp
 unfold af
 rw [acK]
 simp only [hn,hr,hp,hk]
 by_cases h0:l=[48]
 ·have hi:kE l=true:=by simp [kE,h0]
  rw [hi]
  simp [aC.fst,aC.snd,aT,hs,h0]
  rw [h0] at hs
  simp [hs]
 ·by_cases hm:c=45
  ·have hi:kE l=lQ (l.drop 1):=by simp [kE,h0];simp [hcr,hm]
   have ht:=Y4 [] (.inl rfl) (l.drop 1) (by simp;omega) s ⟨s.length,s.length⟩
   have hc:(c.toNat:Int)=45:=by rw [hm];rfl
   have hd:((ai l).drop 1).take ((ai l).length - 1)=ai (l.drop 1):=by
    rw [List.take_of_length_le (by simp),BR]
   have hle:1≤(ai l).length:=hpos
   have hal:=Ph l
   simp only [hcr,List.drop_succ_cons,List.drop_zero] at ht hi hd
   simp only [←hcr] at hi hd
   simp only [List.drop_one] at hd
   simp [aC.fst,aC.snd,aT,hs,h0,hbc,hpos,hc,hle,hal,hd,ht,hi]
  ·have hi:kE l=lQ l:=by simp [kE,h0];simp [hcr,hm]
   have ht:=Y4 [(11,.v (.b false))] (.inr rfl) l hl s ⟨s.length,s.length⟩
   have hc:¬(c.toNat:Int)=45:=fun h=>hm (UInt8.toNat_inj.1 (by have:(45:UInt8).toNat=45:=rfl;omega))
   simp [aC.fst,aC.snd,aT,hs,h0,hbc,hpos,hc,ht,hi]
end Go.Ai.Z
namespace Go.Ai.Z
def rq (b:List UInt8) (n:Nat):Int×Nat:=if kE (b.take n)=true then (2,n) else (0,n)
def iw:List UInt8→Int×Nat
 | []=>(0,0)
 | c::r=>
  if jS c=3 then
   (match (c::r).drop (gB (c::r)) with
   | d::e::q=>if d=58∧e≠95∧jS e=3 then (1,gB (c::r)+(1+gB (e::q))) else (1,gB (c::r))
   | _=>(1,gB (c::r)))
  else if jS c=5 then
   (match r with
   | []=>(0,1)
   | d::_=>if d=62 then (3,2) else if jS d=4 then rq (c::r) (1+gB r) else (0,1))
  else if jS c=4 then rq (c::r) (gB (c::r))
  else if jS c=6 then (3,1) else (0,1)
theorem ql (c:UInt8) (r:List UInt8):iw (c::r)=
  if jS c=3 then
   (match (c::r).drop (gB (c::r)) with
   | d::e::q=>if d=58∧e≠95∧jS e=3 then (1,gB (c::r)+(1+gB (e::q))) else (1,gB (c::r))
   | _=>(1,gB (c::r)))
  else if jS c=5 then
   (match r with
   | []=>(0,1)
   | d::_=>if d=62 then (3,2) else if jS d=4 then rq (c::r) (1+gB r) else (0,1))
  else if jS c=4 then rq (c::r) (gB (c::r))
  else if jS c=6 then (3,1) else (0,1):=rfl
theorem ajA {a b:UInt8} (h:a≠b):¬((a.toNat:Int)=(b.toNat:Int)):=fun h'=>h (UInt8.toNat_inj.1 (by omega))
theorem GN (b:UInt8):∀h,Bd[b.toNat]'h=.i .u8 (jS b):=fun h=>Option.some.inj ((List.getElem?_eq_getElem h).symm.trans (abd b))
theorem SG {c:UInt8} {r:List UInt8} (h:jS c=3∨jS c=4):0<gB (c::r):=by
 rw [Jb]
 have:uH c=true:=by rcases h with h|h<;>simp [uH,h]
 simp [this]
theorem X5 (s:St) (cx:Ctx) (p:Nat) (hp:s[p]?=some (.cells Bd)) (l:List UInt8) (hl:l.length≤1048576) (hne:l≠[]):
  aj P0 (.fn (.func uX) [] []) [.pt p 0,.sl (ai l)] s cx=.ret (.tu [.i .i64 (iw l).1,.i .i64 ((iw l).2:Int)]) s:=by
 refine VI (by simp) ?_
 obtain ⟨c,r,hcr⟩:∃c r,l=c::r:=by cases l with|nil=>exact absurd rfl hne|cons c r=>exact ⟨c,r,rfl⟩
 have hbl:=dM l
 have hbc:∀h,(ai l)[0]'h=.i .u8 c.toNat:=fun h=>uU l 0 h (by simp [hcr])
 have hpos:0<(ai l).length:=by rw [hbl,hcr];simp
 have hb0:(ai l)[0]?=some (.i .u8 c.toNat):=by rw [List.getElem?_eq_getElem hpos,hbc]
 have hlt:c.toNat<256:=c.toNat_lt
 have ht:=GN c
 have hrun:=IQ s ⟨cx.lim,s.length⟩ p hp l hl
 have hal:=Ph l
 have hrl:=Ja l
 have hsc:iw l=iw (c::r):=by rw [hcr]
 rw [hsc,ql,←hcr]
 have w1:IntKind.i64.wrap ((gB l:Int)+1)=(gB l:Int)+1:=w64 (by omega) (by omega)
 have rl:r.length+1=l.length:=by rw [hcr];simp
 by_cases c3:jS c=3
 ·rw [if_pos c3]
  cases hx:l.drop (gB l) with
  | nil=>
   have h1:l.length - gB l=0:=by simpa using congrArg List.length hx
   have h2:¬((gB l:Int)+1<l.length):=by omega
   simp [af,dA,hb0,hbc,hlt,ht,hp,c3,hrun,hbl,w1,h2]
  | cons d q=>
   cases q with
   | nil=>
    have h1:l.length - gB l=1:=by simpa using congrArg List.length hx
    have h2:¬((gB l:Int)+1<l.length):=by omega
    simp [af,dA,hb0,hbc,hlt,ht,hp,c3,hrun,hbl,w1,h2]
   | cons e q=>
    have h1:l.length - gB l=q.length+2:=by simpa using congrArg List.length hx
    have h2:(gB l:Int)+1<l.length:=by omega
    have g0:l[gB l]?=some d:=by have:=congrArg (·[0]?) hx;simpa using this
    have g1:l[gB l+1]?=some e:=by have:=congrArg (·[1]?) hx;simpa using this
    have b0:∀h,(ai l)[gB l]'h=.i .u8 d.toNat:=fun h=>uU l _ h g0
    have b1:∀h,(ai l)[gB l+1]'h=.i .u8 e.toNat:=fun h=>uU l _ h g1
    have k0:gB l<l.length:=by omega
    have k1:gB l+1<l.length:=by omega
    have k2:gB l+1≤l.length:=by omega
    have n1:((gB l:Int)+1).toNat=gB l+1:=by omega
    have z1:(0:Int)≤(gB l:Int)+1:=by omega
    have hlt':e.toNat<256:=e.toNat_lt
    have ht':=GN e
    have hdd:l.drop (gB l+1)=e::q:=by rw [←List.drop_drop,hx];rfl
    have hs1:((ai l).drop (gB l+1)).take (l.length - (gB l+1))=ai (e::q):=by
     rw [BR,hdd,List.take_of_length_le (by rw [dM];simp;omega)]
    have hrun':=IQ s ⟨cx.lim,s.length⟩ p hp (e::q) (by simp;omega)
    have hr':=Ja (e::q)
    simp only [List.length_cons] at hr'
    have w2:IntKind.i64.wrap (1+(gB (e::q):Int))=1+(gB (e::q):Int):=w64 (by omega) (by omega)
    have w3:IntKind.i64.wrap ((gB l:Int)+(1+(gB (e::q):Int)))=(gB l:Int)+(1+(gB (e::q):Int)):=w64 (by omega) (by omega)
    by_cases d58:(d.toNat:Int)=58
    ·have d58':d=58:=UInt8.toNat_inj.1 (by have:(58:UInt8).toNat=58:=rfl;omega)
     by_cases e95:(e.toNat:Int)=95
     ·have e95':e=95:=UInt8.toNat_inj.1 (by have:(95:UInt8).toNat=95:=rfl;omega)
      simp [af,dA,hb0,hbc,hlt,ht,hp,c3,hrun,hbl,w1,h2,b0,b1,k0,k1,n1,z1,d58,e95,e95']
     ·have e95':¬e=95:=fun h=>e95 (by rw [h];rfl)
      by_cases e3:jS e=3
      ·simp [af,dA,hb0,hbc,hlt,ht,hp,c3,hrun,hbl,w1,h2,b0,b1,k0,k1,k2,n1,z1,d58,d58',e95,e95',e3,hlt',ht',hal,hs1,hrun',w2,w3]
      ·simp [af,dA,hb0,hbc,hlt,ht,hp,c3,hrun,hbl,w1,h2,b0,b1,k0,k1,n1,z1,d58,d58',e95,e95',e3,hlt',ht']
    ·have d58':¬d=58:=fun h=>d58 (by rw [h];rfl)
     simp [af,dA,hb0,hbc,hlt,ht,hp,c3,hrun,hbl,w1,h2,b0,b1,k0,k1,n1,z1,d58,d58']
 ·rw [if_neg c3]
  by_cases c5:jS c=5
  ·rw [if_pos c5]
   cases r with
   | nil=>
    have h1:l.length=1:=by rw [hcr];rfl
    simp [af,dA,hb0,hbc,hlt,ht,hp,c5,hbl,h1]
   | cons d q=>
    have h1:(1:Int)<l.length:=by rw [hcr];simp;omega
    have h2:¬(l.length:Int)=1:=by omega
    have g1:l[1]?=some d:=by rw [hcr];rfl
    have b1:∀h,(ai l)[1]'h=.i .u8 d.toNat:=fun h=>uU l _ h g1
    have k1:1<l.length:=by omega
    have k2:1≤l.length:=by omega
    have hlt':d.toNat<256:=d.toNat_lt
    have ht':=GN d
    by_cases d62:(d.toNat:Int)=62
    ·have d62':d=62:=UInt8.toNat_inj.1 (by have:(62:UInt8).toNat=62:=rfl;omega)
     simp [af,dA,hb0,hbc,hlt,ht,hp,c5,hbl,h1,b1,k1,d62,d62']
    ·have d62':¬d=62:=fun h=>d62 (by rw [h];rfl)
     by_cases d4:jS d=4
     ·have hs1:((ai l).tail).take (l.length - 1)=ai (d::q):=by
       rw [List.take_of_length_le (by simp [hbl]),←List.drop_one,BR,hcr];rfl
      have hrun':=IQ s ⟨cx.lim,s.length⟩ p hp (d::q) (by simp at rl ⊢;omega)
      have hr':=Ja (d::q)
      simp only [List.length_cons] at hr' rl
      have w2:IntKind.i64.wrap (1+(gB (d::q):Int))=1+(gB (d::q):Int):=w64 (by omega) (by omega)
      have hs2:(ai l).take (1+gB (d::q))=ai (l.take (1+gB (d::q))):=LG _ _
      have hint:=F9 (l.take (1+gB (d::q))) (by simp;omega) (by rw [hcr];simp [Nat.add_comm 1]) s ⟨cx.lim,s.length⟩
      have n1:(1+(gB (d::q):Int)).toNat=1+gB (d::q):=by omega
      have z1:(0:Int)≤1+(gB (d::q):Int):=by omega
      have k3:1+gB (d::q)≤l.length:=by omega
      unfold rq
      cases hi:kE (l.take (1+gB (d::q))) with
      | true=>rw [hi] at hint;simp [af,dA,hb0,hbc,hlt,ht,hp,c5,hbl,h1,h2,b1,k1,k2,k3,d62,d62',d4,hlt',ht',hal,hs1,hrun',w2,n1,z1,hs2,hint]
      | false=>rw [hi] at hint;simp [af,dA,hb0,hbc,hlt,ht,hp,c5,hbl,h1,h2,b1,k1,k2,k3,d62,d62',d4,hlt',ht',hal,hs1,hrun',w2,n1,z1,hs2,hint]
     ·simp [af,dA,hb0,hbc,hlt,ht,hp,c5,hbl,h1,h2,b1,k1,d62,d62',d4,hlt',ht']
  ·rw [if_neg c5]
   by_cases c4:jS c=4
   ·rw [if_pos c4]
    have hrp:0<gB l:=by rw [hcr];exact SG (.inr c4)
    have hs2:(ai l).take (gB l)=ai (l.take (gB l)):=LG _ _
    have hint:=F9 (l.take (gB l)) (by simp;omega) (by rw [hcr];rw [hcr] at hrp;intro h;have:=congrArg List.length h;simp at this;omega) s ⟨cx.lim,s.length⟩
    unfold rq
    cases hi:kE (l.take (gB l)) with
    | true=>rw [hi] at hint;simp [af,dA,hb0,hbc,hlt,ht,hp,c4,hbl,hrun,hal,hrl,hs2,hint]
    | false=>rw [hi] at hint;simp [af,dA,hb0,hbc,hlt,ht,hp,c4,hbl,hrun,hal,hrl,hs2,hint]
   ·rw [if_neg c4]
    by_cases c6:jS c=6
    ·simp [af,dA,hb0,hbc,hlt,ht,hp,c6]
    ·simp [af,dA,hb0,hbc,hlt,ht,hp,c3,c4,c5,c6]
end Go.Ai.Z
namespace Go.Ai.Z
def vI (b:UInt8):Bool:=decide (jS b=1)
abbrev Tok:=Int×List UInt8×Nat
def fO (t:Tok):AV:=.ag [.i .i64 t.1,.s t.2.1,.i .i64 t.2.2]
def Uf:Nat→List UInt8→Nat→Option (List Tok)
 | 0,_,_=>none
 | n+1,b,a=>
  match b.dropWhile vI with
  | []=>some [(4,[],a+b.length)]
  | c::r=>
   if jS c=2 then none
   else if (iw (c::r)).1=0 then none
   else (Uf n ((c::r).drop (iw (c::r)).2) (a+(b.length - (c::r).length)+(iw (c::r)).2)).map (((iw (c::r)).1,(c::r).take (iw (c::r)).2,a+(b.length - (c::r).length))::·)
def stT (s:St) (a n:Int):St:=s++[.cells [.ns],.cells Bd,.cells [.i .i64 a],.cells [.i .i64 n],.cells [.i .i64 (-1)]]
@[simp] theorem anj (s:St) (a n:Int):(stT s a n)[s.length]?=some (.cells [.ns]):=by simp [stT]
@[simp] theorem ani (s:St) (a n:Int):(stT s a n)[s.length+1]?=some (.cells Bd):=by simp [stT]
@[simp] theorem anh (s:St) (a n:Int):(stT s a n)[s.length+2]?=some (.cells [.i .i64 a]):=by simp [stT]
@[simp] theorem ang (s:St) (a n:Int):(stT s a n)[s.length+3]?=some (.cells [.i .i64 n]):=by simp [stT]
@[simp] theorem aml (s:St) (a n x:Int):(stT s a n).set (s.length+2) (.cells [.i .i64 x])=stT s x n:=by simp [stT]
@[simp] theorem amk (s:St) (a n x:Int):(stT s a n).set (s.length+3) (.cells [.i .i64 x])=stT s a x:=by simp [stT]
@[simp] theorem amm (s:St) (a n:Int):(stT s a n).set (s.length) (.cells [.ns])=stT s a n:=by simp [stT]
@[simp] theorem aks (s:St) (a n:Int):(stT s a n).take s.length=s:=by simp [stT]
def xw (s:St) (src:List UInt8) (ts:List Tok):Env:=[(0,.v (.sl (ai src))),(2,.own false iY 3 (ts.map fO)),(3,.v (.pt s.length 0)),(5,.v (.pt (s.length+1) 0)),
 (6,.v (.pt (s.length+2) 0)),(8,.v (.pt (s.length+3) 0)),(10,.v (.fn (.func nG) [] [.pt (s.length+2) 0,.pt (s.length+4) 0,.pt s.length 0,.pt (s.length+3) 0]))]
theorem Nl {α:Type} {l r:List α} {i k:Nat} (h:l.drop i=r):l.drop (i+k)=r.drop k:=by rw [←List.drop_drop,h]
def Ew:aC:=fG.snd
theorem RZ:fG=.seq .skip Ew:=rfl
theorem VS (ts:List Tok):(ts.map fO).all (fun e=>e.cells.length == 3)=true:=by simp [fO]
theorem acd (n:Nat) (ts:List Tok):dF n (ts.map fO)=true:=by
 induction ts with
 | nil=>simp
 | cons a r ih=>simp [fO,ih]
theorem abg (c:UInt8) (r:List UInt8):(iw (c::r)).2≤(c::r).length:=by
 have h1:=Ja (c::r)
 rw [ql]
 split
 ·split
  ·rename_i d e q hx
   have h2:=Ja (e::q)
   have h3:(c::r).length - gB (c::r)=q.length+2:=by simpa using congrArg List.length hx
   simp only [List.length_cons] at *
   split<;>simp only []<;>omega
  ·exact h1
 ·split
  ·split
   ·simp
   ·rename_i d q
    have h2:=Ja (d::q)
    unfold rq
    simp only [List.length_cons] at *
    repeat' split
    all_goals simp only [];omega
  ·split
   ·unfold rq;split<;>exact h1
   ·split<;>simp
theorem SA (c:UInt8) (r:List UInt8):0<(iw (c::r)).2:=by
 rw [ql]
 split
 ·rename_i h3
  have h1:0<gB (c::r):=SG (.inl h3)
  split
  ·split<;>simp only []<;>omega
  ·exact h1
 ·split
  ·split
   ·simp
   ·unfold rq
    repeat' split
    all_goals simp only [];omega
  ·split
   ·rename_i h4
    have h1:0<gB (c::r):=SG (.inr h4)
    unfold rq;split<;>exact h1
   ·split<;>simp
def _root_.Go.Ai.aC.sca:aC→aC
 | .scope _ _ a _=>a
 | c=>c
theorem ace:fM.code=.seq fM.code.fst (.scope 0 [0,2,3,5,6,8,10] (.seq fM.code.snd.sca.fst (.seq fM.code.snd.sca.snd.fst (.seq fM.code.snd.sca.snd.snd.fst
  (.seq fM.code.snd.sca.snd.snd.snd.fst (.seq fM.code.snd.sca.snd.snd.snd.snd.fst (.seq (.label 0) Ew)))))) fG):=rfl
end Go.Ai.Z
