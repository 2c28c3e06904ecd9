/-
 Tokens: classes of bytes, words, integers.
-/
import Derived.Test.YtpnlnnfcaeednaaGreatDoorAiK5K6K7InjInj2Inj3Inj4KI
import Derived.Test.YtpnlnnfcaeednaaGreatDoorAiB1
set_option maxRecDepth 100000
set_option linter.unusedSimpArgs false
set_option linter.unusedVariables false
set_option linter.unusedSectionVars false
namespace Go.Ai.Z
def ahJ (c:Nat):Int:=
 if c=32∨c=9∨c=10∨c=13 then 1 else if c=35 then 2
 else if 97≤c∧c≤122∨65≤c∧c≤90∨c=95 then 3 else if 48≤c∧c≤57 then 4 else if c=45 then 5
 else if c=40∨c=41∨c=91∨c=93∨c=123∨c=125∨c=44∨c=46∨c=60∨c=61∨c=124∨c=63 then 6 else 0
def o5 (b:UInt8):Int:=ahJ b.toNat
def Aa:List AV:=(List.range 256).map fun c=>.i .u8 (ahJ c)
theorem YX (b:UInt8):Aa[b.toNat]?=some (.i .u8 (o5 b)):=by
 have:b.toNat<256:=b.toNat_lt
 simp [Aa,o5,this]
@[simp] theorem aia:Aa.length=256:=by simp [Aa]
@[simp] theorem ah9:Aa.all AV.one=true:=by
 simp [Aa]
set_option maxRecDepth 100000 in
theorem Vh (s:St) (cx:Ctx):dJ P0.glob (jG P0 100) cx false 100 kM.code [] s=.ret [(0,.bx Aa)] s:=by
 kernel_rfl
theorem OD (s:St) (cx:Ctx):ah P0 (.fn (.func sQ) [] []) [] s cx=.ret (.ag Aa) s:=by
 refine LU (by simp) ?_
 have h:=qm (XH P0 100) false 100 _ _ _ _ (Vh s ⟨s.length,s.length⟩) (by simp)
 have hr:kM.res=[.cell 0 (some 256)]:=rfl
 have hn:kM.np=0:=rfl
 have hp:kM.pure=true:=rfl
 have hk:kM.keep=false:=rfl
 have hu:Aa.map AV.plain1=Aa:=by simp [Aa]
 have ht:Aa.take 256=Aa:=List.take_of_length_le (by simp)
 simp [af,hr,hn,hp,hk,h,ht,hu]
def KR (b:UInt8):Bool:=decide (o5 b=3) || decide (o5 b=4)
def iI (b:List UInt8):Nat:=(b.takeWhile KR).length
theorem uK (c:UInt8) (r:List UInt8):iI (c::r)=if KR c=true then iI r+1 else 0:=by
 unfold iI;rw [List.takeWhile_cons];split<;>simp
theorem Dw (b:List UInt8):iI b≤b.length:=by
 unfold iI;exact (List.takeWhile_sublist _).length_le
theorem Nw (s:St) (cx:Ctx) (p:Nat) (hp:s[p]?=some (.cells Aa)) (l:List UInt8) (hl:l.length≤1048576):∀(rest:List UInt8) (i:Nat),l.drop i=rest→
  fH (aB P0.glob (ah P0) cx false pU) [0,1,4] [(0,.v (.pt p 0)),(1,.v (.sl (aA l))),(4,.v (.i .i64 i))] s=
   .exit 0 [(0,.v (.pt p 0)),(1,.v (.sl (aA l))),(4,.v (.i .i64 ((i:Int)+(iI rest:Int)))),(30,.v (.b false))] s
 | [],i,h=>by
  have h1:¬i<l.length:=Nat.not_lt.2 (drop_nil h)
  have hb:(aA l).length=l.length:=by simp [aA]
  refine ak fun K hK=>?_
  simp [pU,h1,hb,iI]
 | b::r,i,h=>by
  obtain ⟨h1,h2,h3,h4⟩:=drop_cons h
  have h5:=h4 h3
  have hb:(aA l)[i]?=some (.i .u8 b.toNat):=by simp [aA,h1]
  have hbl:(aA l).length=l.length:=by simp [aA]
  have hb':∀h,(aA l)[i]'h=.i .u8 b.toNat:=fun h=>Option.some.inj ((List.getElem?_eq_getElem h).symm.trans hb)
  have hw:=wI (i:=i) (by omega)
  have ht:∀h,Aa[b.toNat]'h=.i .u8 (o5 b):=fun h=>Option.some.inj ((List.getElem?_eq_getElem h).symm.trans (YX b))
  have hlt:b.toNat<256:=b.toNat_lt
  have hp':p<s.length:=(List.getElem?_eq_some_iff.1 hp).1
  have ih:=Nw s cx p hp l hl r (i+1) h2
  refine ak fun K hK=>?_
  rw [←hK,show ((i+1:Nat):Int)=(i:Int)+1 from rfl] at ih
  clear hK
  rw [uK]
  by_cases c3:o5 b=3<;>by_cases c4:o5 b=4
  ·omega
  ·have hwr:KR b=true:=by simp [KR,c3]
   have e:(i:Int)+((iI r:Int)+1)=(i:Int)+1+iI r:=by omega
   simp [pU,h3,hb',hbl,hp,ht,hlt,c3,c4,hw,ih,hwr,e]
  ·have hwr:KR b=true:=by simp [KR,c4]
   have e:(i:Int)+((iI r:Int)+1)=(i:Int)+1+iI r:=by omega
   simp [pU,h3,hb',hbl,hp,ht,hlt,c3,c4,hw,ih,hwr,e]
  ·have hwr:KR b=false:=by simp [KR,c3,c4]
   simp [pU,h3,hb',hbl,hp,ht,hlt,c3,c4,hw,hwr]
theorem Gh (s:St) (cx:Ctx) (p:Nat) (hp:s[p]?=some (.cells Aa)) (l:List UInt8) (hl:l.length≤1048576):
  ah P0 (.fn (.func rF) [] []) [.pt p 0,.sl (aA l)] s cx=.ret (.i .i64 (iI l)) s:=by
 refine U5 (by simp) ?_
 have h:=Nw s ⟨cx.lim,s.length⟩ p hp l hl l 0 rfl
 simp at h
 simp [af,zG,h]
end Go.Ai.Z
namespace Go.Ai.Z
theorem oH (l:List UInt8):(aA l).length=l.length:=by simp [aA]
theorem AL (l:List UInt8) (n:Nat):(aA l).drop n=aA (l.drop n):=by simp [aA,List.map_drop]
theorem Jj (l:List UInt8) (n:Nat):(aA l).take n=aA (l.take n):=by simp [aA,List.map_take]
theorem vg (l:List UInt8) (i:Nat) (h:i<(aA l).length) {b:UInt8} (hb:l[i]?=some b):(aA l)[i]=.i .u8 b.toNat:=by
 have h':i<l.length:=by simpa [aA] using h
 rw [List.getElem?_eq_getElem h'] at hb
 cases hb
 simp [aA]
theorem MC (l:List UInt8):(aA l).all (fun e=>e.cells.length == 1)=true:=by simp [aA]
theorem Ue (l:List UInt8):(aA l).mapM byteOf=some l:=by
 induction l with
 | nil=>rfl
 | cons a r ih=>
  have:aA (a::r)=.i .u8 a.toNat::aA r:=rfl
  simp [this,byteOf,ih]
def OB (b:UInt8):Bool:=decide (48≤b.toNat) && decide (b.toNat≤57)
def pz (b:List UInt8):Bool:=decide (1≤b.length) && decide (b.length≤18) && !(b.head? == some 48) && b.all OB
def qg (b:List UInt8):Bool:=decide (b=[48]) || (if b.head?=some 45 then pz (b.drop 1) else pz b)
theorem Eg (s:St) (cx:Ctx) (l:List UInt8) (hl:l.length≤1048576):∀(rest:List UInt8) (i:Nat),l.drop i=rest→
  ∃j:Int,fH (aB P0.glob (ah P0) cx false lI) [28,29,30] [(28,.v (.sl (aA l))),(29,.v (.i .i64 l.length)),(30,.v (.i .i64 i))] s=
   if rest.all OB=true then .exit 0 [(28,.v (.sl (aA l))),(29,.v (.i .i64 l.length)),(30,.v (.i .i64 j)),(31,.v (.b false))] s else .ret [(2,.v (.b false))] s
 | [],i,h=>by
  have h1:¬i<l.length:=Nat.not_lt.2 (drop_nil h)
  refine ⟨i,ak fun K hK=>?_⟩
  simp [lI,h1]
 | b::r,i,h=>by
  obtain ⟨h1,h2,h3,h4⟩:=drop_cons h
  have hb:∀h,(aA l)[i]'h=.i .u8 b.toNat:=fun h=>vg l i h h1
  have hbl:=oH l
  have hw:=wI (i:=i) (by omega)
  obtain ⟨j,ih⟩:=Eg s cx l hl r (i+1) h2
  refine ⟨j,ak fun K hK=>?_⟩
  rw [←hK,show ((i+1:Nat):Int)=(i:Int)+1 from rfl] at ih
  clear hK
  by_cases d1:(b.toNat:Int)<48
  ·have hd:OB b=false:=by simp [OB];omega
   simp [lI,h3,hb,hbl,hd,hw,d1]
  ·by_cases d2:(57:Int)<b.toNat
   ·have hd:OB b=false:=by simp [OB];omega
    simp [lI,h3,hb,hbl,hd,hw,d1,d2]
   ·have hd:OB b=true:=by simp [OB];omega
    simp [lI,h3,hb,hbl,hd,hw,d1,d2,ih]
def _root_.Go.Ai.aS.fst:aS→aS
 | .seq a _=>a
 | c=>c
def _root_.Go.Ai.aS.snd:aS→aS
 | .seq _ b=>b
 | c=>c
def DR:aS:=bH.code.snd.snd.snd
theorem aad:bH.code=.seq bH.code.fst (.seq bH.code.snd.fst (.seq bH.code.snd.snd.fst DR)):=rfl
theorem WY (e:Env) (he:e=[]∨e=[(11,.v (.b false))]) (l:List UInt8) (hl:l.length≤1048576) (s:St) (cx:Ctx):aB P0.glob (ah P0) cx false DR ((0,.v (.sl (aA l)))::e) s=.ret [(2,.v (.b (pz l)))] s:=by
 have hbl:=oH l
 rcases he with rfl|rfl
 all_goals
 cases l with
 | nil=>simp [DR,bH,aS.snd,aA,pz]
 | cons c r=>
  have hbc:∀h,(aA (c::r))[0]'h=.i .u8 c.toNat:=fun h=>rfl
  obtain ⟨j,hlp⟩:=Eg s cx (c::r) hl (c::r) 0 rfl
  simp only [List.length_cons] at hbl hlp hl
  have h1:¬((r.length:Int)+1<1):=by omega
  have hp:0<r.length+1:=by omega
  have hcast:((r.length+1:Nat):Int)=(r.length:Int)+1:=rfl
  simp only [hcast,show ((0:Nat):Int)=0 from rfl] at hlp
  by_cases h18:(18:Int)<(r.length:Int)+1
  ·have hi:pz (c::r)=false:=by simp [pz];intros;omega
   simp [DR,bH,aS.snd,hbl,h18,hi,h1]
  ·have h18':r.length+1≤18:=by omega
   by_cases h48:c=48
   ·have hi:pz (c::r)=false:=by simp [pz,h48]
    have hc:(c.toNat:Int)=48:=by rw [h48];rfl
    simp [DR,bH,aS.snd,hbl,h18,hi,h1,hbc,hp,hc]
   ·have hi:pz (c::r)=(c::r).all OB:=by simp [pz,h48,h18']
    have hc:¬(c.toNat:Int)=48:=fun h=>h48 (UInt8.toNat_inj.1 (by have:(48:UInt8).toNat=48:=rfl;omega))
    rw [hi]
    cases hd:(c::r).all OB with
    | true=>rw [hd] at hlp;simp at hlp;simp [DR,bH,aS.snd,hbl,h18,h1,hbc,hp,hc,hlp]
    | false=>rw [hd] at hlp;simp at hlp;simp [DR,bH,aS.snd,hbl,h18,h1,hbc,hp,hc,hlp]
theorem Ei (l:List UInt8) (hl:l.length≤1048576) (hne:l≠[]) (s:St) (cx:Ctx):
  ah P0 (.fn (.func sO) [] []) [.sl (aA l)] s cx=.ret (.b (qg l)) s:=by
 refine LQ (by simp) ?_
 have hs:=Ue l
 have hbl:=oH l
 have hn:bH.np=1:=rfl
 have hr:bH.res=[.tmp 2]:=rfl
 have hp:bH.pure=true:=rfl
 have hk:bH.keep=false:=rfl
 obtain ⟨c,r,hcr⟩:∃c r,l=c::r:=by cases l with|nil=>exact absurd rfl hne|cons c r=>exact ⟨c,r,rfl⟩
 have hbc:∀h,(aA l)[0]'h=.i .u8 c.toNat:=fun h=>vg l 0 h (by simp [hcr])
 have hpos:0<(aA l).length:=by rw [hbl,hcr];simp
 unfold af
 rw [aad]
 simp only [hn,hr,hp,hk]
 by_cases h0:l=[48]
 ·have hi:qg l=true:=by simp [qg,h0]
  rw [hi]
  simp [aS.fst,aS.snd,bH,hs,h0]
  rw [h0] at hs
  simp [hs]
 ·by_cases hm:c=45
  ·have hi:qg l=pz (l.drop 1):=by simp [qg,h0];simp [hcr,hm]
   have ht:=WY [] (.inl rfl) (l.drop 1) (by simp;omega) s ⟨s.length,s.length⟩
   have hc:(c.toNat:Int)=45:=by rw [hm];rfl
   have hd:((aA l).drop 1).take ((aA l).length - 1)=aA (l.drop 1):=by
    rw [List.take_of_length_le (by simp),AL]
   have hle:1≤(aA l).length:=hpos
   have hal:=MC l
   simp only [hcr,List.drop_succ_cons,List.drop_zero] at ht hi hd
   simp only [←hcr] at hi hd
   simp only [List.drop_one] at hd
   simp [aS.fst,aS.snd,bH,hs,h0,hbc,hpos,hc,hle,hal,hd,ht,hi]
  ·have hi:qg l=pz l:=by simp [qg,h0];simp [hcr,hm]
   have ht:=WY [(11,.v (.b false))] (.inr rfl) l hl s ⟨s.length,s.length⟩
   have hc:¬(c.toNat:Int)=45:=fun h=>hm (UInt8.toNat_inj.1 (by have:(45:UInt8).toNat=45:=rfl;omega))
   simp [aS.fst,aS.snd,bH,hs,h0,hbc,hpos,hc,ht,hi]
end Go.Ai.Z
namespace Go.Ai.Z
def qP (b:List UInt8) (n:Nat):Int×Nat:=if qg (b.take n)=true then (2,n) else (0,n)
def eG:List UInt8→Int×Nat
 | []=>(0,0)
 | c::r=>
  if o5 c=3 then
   (match (c::r).drop (iI (c::r)) with
   | d::e::q=>if d=58∧e≠95∧o5 e=3 then (1,iI (c::r)+(1+iI (e::q))) else (1,iI (c::r))
   | _=>(1,iI (c::r)))
  else if o5 c=5 then
   (match r with
   | []=>(0,1)
   | d::_=>if d=62 then (3,2) else if o5 d=4 then qP (c::r) (1+iI r) else (0,1))
  else if o5 c=4 then qP (c::r) (iI (c::r))
  else if o5 c=6 then (3,1) else (0,1)
theorem qI (c:UInt8) (r:List UInt8):eG (c::r)=
  if o5 c=3 then
   (match (c::r).drop (iI (c::r)) with
   | d::e::q=>if d=58∧e≠95∧o5 e=3 then (1,iI (c::r)+(1+iI (e::q))) else (1,iI (c::r))
   | _=>(1,iI (c::r)))
  else if o5 c=5 then
   (match r with
   | []=>(0,1)
   | d::_=>if d=62 then (3,2) else if o5 d=4 then qP (c::r) (1+iI r) else (0,1))
  else if o5 c=4 then qP (c::r) (iI (c::r))
  else if o5 c=6 then (3,1) else (0,1):=rfl
theorem agA {a b:UInt8} (h:a≠b):¬((a.toNat:Int)=(b.toNat:Int)):=fun h'=>h (UInt8.toNat_inj.1 (by omega))
theorem EW (b:UInt8):∀h,Aa[b.toNat]'h=.i .u8 (o5 b):=fun h=>Option.some.inj ((List.getElem?_eq_getElem h).symm.trans (YX b))
theorem PI {c:UInt8} {r:List UInt8} (h:o5 c=3∨o5 c=4):0<iI (c::r):=by
 rw [uK]
 have:KR c=true:=by rcases h with h|h<;>simp [KR,h]
 simp [this]
theorem Vq (s:St) (cx:Ctx) (p:Nat) (hp:s[p]?=some (.cells Aa)) (l:List UInt8) (hl:l.length≤1048576) (hne:l≠[]):
  ah P0 (.fn (.func vF) [] []) [.pt p 0,.sl (aA l)] s cx=.ret (.tu [.i .i64 (eG l).1,.i .i64 ((eG l).2:Int)]) s:=by
 refine RX (by simp) ?_
 obtain ⟨c,r,hcr⟩:∃c r,l=c::r:=by cases l with|nil=>exact absurd rfl hne|cons c r=>exact ⟨c,r,rfl⟩
 have hbl:=oH l
 have hbc:∀h,(aA l)[0]'h=.i .u8 c.toNat:=fun h=>vg l 0 h (by simp [hcr])
 have hpos:0<(aA l).length:=by rw [hbl,hcr];simp
 have hb0:(aA l)[0]?=some (.i .u8 c.toNat):=by rw [List.getElem?_eq_getElem hpos,hbc]
 have hlt:c.toNat<256:=c.toNat_lt
 have ht:=EW c
 have hrun:=Gh s ⟨cx.lim,s.length⟩ p hp l hl
 have hal:=MC l
 have hrl:=Dw l
 have hsc:eG l=eG (c::r):=by rw [hcr]
 rw [hsc,qI,←hcr]
 have w1:IntKind.i64.wrap ((iI l:Int)+1)=(iI l:Int)+1:=w64 (by omega) (by omega)
 have rl:r.length+1=l.length:=by rw [hcr];simp
 by_cases c3:o5 c=3
 ·rw [if_pos c3]
  cases hx:l.drop (iI l) with
  | nil=>
   have h1:l.length - iI l=0:=by simpa using congrArg List.length hx
   have h2:¬((iI l:Int)+1<l.length):=by omega
   simp [af,eY,hb0,hbc,hlt,ht,hp,c3,hrun,hbl,w1,h2]
  | cons d q=>
   cases q with
   | nil=>
    have h1:l.length - iI l=1:=by simpa using congrArg List.length hx
    have h2:¬((iI l:Int)+1<l.length):=by omega
    simp [af,eY,hb0,hbc,hlt,ht,hp,c3,hrun,hbl,w1,h2]
   | cons e q=>
    have h1:l.length - iI l=q.length+2:=by simpa using congrArg List.length hx
    have h2:(iI l:Int)+1<l.length:=by omega
    have g0:l[iI l]?=some d:=by have:=congrArg (·[0]?) hx;simpa using this
    have g1:l[iI l+1]?=some e:=by have:=congrArg (·[1]?) hx;simpa using this
    have b0:∀h,(aA l)[iI l]'h=.i .u8 d.toNat:=fun h=>vg l _ h g0
    have b1:∀h,(aA l)[iI l+1]'h=.i .u8 e.toNat:=fun h=>vg l _ h g1
    have k0:iI l<l.length:=by omega
    have k1:iI l+1<l.length:=by omega
    have k2:iI l+1≤l.length:=by omega
    have n1:((iI l:Int)+1).toNat=iI l+1:=by omega
    have z1:(0:Int)≤(iI l:Int)+1:=by omega
    have hlt':e.toNat<256:=e.toNat_lt
    have ht':=EW e
    have hdd:l.drop (iI l+1)=e::q:=by rw [←List.drop_drop,hx];rfl
    have hs1:((aA l).drop (iI l+1)).take (l.length - (iI l+1))=aA (e::q):=by
     rw [AL,hdd,List.take_of_length_le (by rw [oH];simp;omega)]
    have hrun':=Gh s ⟨cx.lim,s.length⟩ p hp (e::q) (by simp;omega)
    have hr':=Dw (e::q)
    simp only [List.length_cons] at hr'
    have w2:IntKind.i64.wrap (1+(iI (e::q):Int))=1+(iI (e::q):Int):=w64 (by omega) (by omega)
    have w3:IntKind.i64.wrap ((iI l:Int)+(1+(iI (e::q):Int)))=(iI l:Int)+(1+(iI (e::q):Int)):=w64 (by omega) (by omega)
    by_cases d58:(d.toNat:Int)=58
    ·have d58':d=58:=UInt8.toNat_inj.1 (by have:(58:UInt8).toNat=58:=rfl;omega)
     by_cases e95:(e.toNat:Int)=95
     ·have e95':e=95:=UInt8.toNat_inj.1 (by have:(95:UInt8).toNat=95:=rfl;omega)
      simp [af,eY,hb0,hbc,hlt,ht,hp,c3,hrun,hbl,w1,h2,b0,b1,k0,k1,n1,z1,d58,e95,e95']
     ·have e95':¬e=95:=fun h=>e95 (by rw [h];rfl)
      by_cases e3:o5 e=3
      ·simp [af,eY,hb0,hbc,hlt,ht,hp,c3,hrun,hbl,w1,h2,b0,b1,k0,k1,k2,n1,z1,d58,d58',e95,e95',e3,hlt',ht',hal,hs1,hrun',w2,w3]
      ·simp [af,eY,hb0,hbc,hlt,ht,hp,c3,hrun,hbl,w1,h2,b0,b1,k0,k1,n1,z1,d58,d58',e95,e95',e3,hlt',ht']
    ·have d58':¬d=58:=fun h=>d58 (by rw [h];rfl)
     simp [af,eY,hb0,hbc,hlt,ht,hp,c3,hrun,hbl,w1,h2,b0,b1,k0,k1,n1,z1,d58,d58']
 ·rw [if_neg c3]
  by_cases c5:o5 c=5
  ·rw [if_pos c5]
   cases r with
   | nil=>
    have h1:l.length=1:=by rw [hcr];rfl
    simp [af,eY,hb0,hbc,hlt,ht,hp,c5,hbl,h1]
   | cons d q=>
    have h1:(1:Int)<l.length:=by rw [hcr];simp;omega
    have h2:¬(l.length:Int)=1:=by omega
    have g1:l[1]?=some d:=by rw [hcr];rfl
    have b1:∀h,(aA l)[1]'h=.i .u8 d.toNat:=fun h=>vg l _ h g1
    have k1:1<l.length:=by omega
    have k2:1≤l.length:=by omega
    have hlt':d.toNat<256:=d.toNat_lt
    have ht':=EW d
    by_cases d62:(d.toNat:Int)=62
    ·have d62':d=62:=UInt8.toNat_inj.1 (by have:(62:UInt8).toNat=62:=rfl;omega)
     simp [af,eY,hb0,hbc,hlt,ht,hp,c5,hbl,h1,b1,k1,d62,d62']
    ·have d62':¬d=62:=fun h=>d62 (by rw [h];rfl)
     by_cases d4:o5 d=4
     ·have hs1:((aA l).tail).take (l.length - 1)=aA (d::q):=by
       rw [List.take_of_length_le (by simp [hbl]),←List.drop_one,AL,hcr];rfl
      have hrun':=Gh s ⟨cx.lim,s.length⟩ p hp (d::q) (by simp at rl ⊢;omega)
      have hr':=Dw (d::q)
      simp only [List.length_cons] at hr' rl
      have w2:IntKind.i64.wrap (1+(iI (d::q):Int))=1+(iI (d::q):Int):=w64 (by omega) (by omega)
      have hs2:(aA l).take (1+iI (d::q))=aA (l.take (1+iI (d::q))):=Jj _ _
      have hint:=Ei (l.take (1+iI (d::q))) (by simp;omega) (by rw [hcr];simp [Nat.add_comm 1]) s ⟨cx.lim,s.length⟩
      have n1:(1+(iI (d::q):Int)).toNat=1+iI (d::q):=by omega
      have z1:(0:Int)≤1+(iI (d::q):Int):=by omega
      have k3:1+iI (d::q)≤l.length:=by omega
      unfold qP
      cases hi:qg (l.take (1+iI (d::q))) with
      | true=>rw [hi] at hint;simp [af,eY,hb0,hbc,hlt,ht,hp,c5,hbl,h1,h2,b1,k1,k2,k3,d62,d62',d4,hlt',ht',hal,hs1,hrun',w2,n1,z1,hs2,hint]
      | false=>rw [hi] at hint;simp [af,eY,hb0,hbc,hlt,ht,hp,c5,hbl,h1,h2,b1,k1,k2,k3,d62,d62',d4,hlt',ht',hal,hs1,hrun',w2,n1,z1,hs2,hint]
     ·simp [af,eY,hb0,hbc,hlt,ht,hp,c5,hbl,h1,h2,b1,k1,d62,d62',d4,hlt',ht']
  ·rw [if_neg c5]
   by_cases c4:o5 c=4
   ·rw [if_pos c4]
    have hrp:0<iI l:=by rw [hcr];exact PI (.inr c4)
    have hs2:(aA l).take (iI l)=aA (l.take (iI l)):=Jj _ _
    have hint:=Ei (l.take (iI l)) (by simp;omega) (by rw [hcr];rw [hcr] at hrp;intro h;have:=congrArg List.length h;simp at this;omega) s ⟨cx.lim,s.length⟩
    unfold qP
    cases hi:qg (l.take (iI l)) with
    | true=>rw [hi] at hint;simp [af,eY,hb0,hbc,hlt,ht,hp,c4,hbl,hrun,hal,hrl,hs2,hint]
    | false=>rw [hi] at hint;simp [af,eY,hb0,hbc,hlt,ht,hp,c4,hbl,hrun,hal,hrl,hs2,hint]
   ·rw [if_neg c4]
    by_cases c6:o5 c=6
    ·simp [af,eY,hb0,hbc,hlt,ht,hp,c6]
    ·simp [af,eY,hb0,hbc,hlt,ht,hp,c3,c4,c5,c6]
end Go.Ai.Z
