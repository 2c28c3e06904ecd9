/-
 Tokens: classes of bytes, words, integers.
-/
import Derived.Test.YtalbhlfigmlddaaGreatDoorAiK5K6K7InjInj2Inj3Inj4KI
import Derived.Test.YtalbhlfigmlddaaGreatDoorAiB1
set_option maxRecDepth 100000
set_option linter.unusedSimpArgs false
set_option linter.unusedVariables false
set_option linter.unusedSectionVars false
namespace Go.Ai.Z
def Yn (c:Nat):Int:=
 if c=32∨c=9∨c=10∨c=13 then 1 else if c=35 then 2
 else if 97≤c∧c≤122∨65≤c∧c≤90∨c=95 then 3 else if 48≤c∧c≤57 then 4 else if c=45 then 5
 else if c=40∨c=41∨c=91∨c=93∨c=123∨c=125∨c=44∨c=46∨c=60∨c=61∨c=124∨c=63 then 6 else 0
def jI (b:UInt8):Int:=Yn b.toNat
def zh:List AV:=(List.range 256).map fun c=>.i .u8 (Yn c)
theorem YH (b:UInt8):zh[b.toNat]?=some (.i .u8 (jI b)):=by
 have:b.toNat<256:=b.toNat_lt
 simp [zh,jI,this]
@[simp] theorem ai0:zh.length=256:=by simp [zh]
@[simp] theorem aiZ:zh.all AV.one=true:=by
 simp [zh]
set_option maxRecDepth 100000 in
theorem UY (s:St) (cx:Ctx):bC P0.glob (fO P0 100) cx false 100 jh.code [] s=.ret [(0,.bx zh)] s:=by
 kernel_rfl
theorem Oc (s:St) (cx:Ctx):aj P0 (.fn (.func qL) [] []) [] s cx=.ret (.ag zh) s:=by
 refine Lp (by simp) ?_
 have h:=nT (xP P0 100) false 100 _ _ _ _ (UY s ⟨s.length,s.length⟩) (by simp)
 have hr:jh.res=[.cell 0 (some 256)]:=rfl
 have hn:jh.np=0:=rfl
 have hp:jh.pure=true:=rfl
 have hk:jh.keep=false:=rfl
 have hu:zh.map AV.plain1=zh:=by simp [zh]
 have ht:zh.take 256=zh:=List.take_of_length_le (by simp)
 simp [af,hr,hn,hp,hk,h,ht,hu]
def sF (b:UInt8):Bool:=decide (jI b=3) || decide (jI b=4)
def fZ (b:List UInt8):Nat:=(b.takeWhile sF).length
theorem Fa (c:UInt8) (r:List UInt8):fZ (c::r)=if sF c=true then fZ r+1 else 0:=by
 unfold fZ;rw [List.takeWhile_cons];split<;>simp
theorem E8 (b:List UInt8):fZ b≤b.length:=by
 unfold fZ;exact (List.takeWhile_sublist _).length_le
theorem ML (s:St) (cx:Ctx) (p:Nat) (hp:s[p]?=some (.cells zh)) (l:List UInt8) (hl:l.length≤1048576):∀(rest:List UInt8) (i:Nat),l.drop i=rest→
  bg (au P0.glob (aj P0) cx false mV) [0,1,4] [(0,.v (.pt p 0)),(1,.v (.sl (aB l))),(4,.v (.i .i64 i))] s=
   .exit 0 [(0,.v (.pt p 0)),(1,.v (.sl (aB l))),(4,.v (.i .i64 ((i:Int)+(fZ rest:Int)))),(30,.v (.b false))] s
 | [],i,h=>by
  have h1:¬i<l.length:=Nat.not_lt.2 (drop_nil h)
  have hb:(aB l).length=l.length:=by simp [aB]
  refine ai fun K hK=>?_
  simp [mV,h1,hb,fZ]
 | b::r,i,h=>by
  obtain ⟨h1,h2,h3,h4⟩:=drop_cons h
  have h5:=h4 h3
  have hb:(aB l)[i]?=some (.i .u8 b.toNat):=by simp [aB,h1]
  have hbl:(aB l).length=l.length:=by simp [aB]
  have hb':∀h,(aB l)[i]'h=.i .u8 b.toNat:=fun h=>Option.some.inj ((List.getElem?_eq_getElem h).symm.trans hb)
  have hw:=wI (i:=i) (by omega)
  have ht:∀h,zh[b.toNat]'h=.i .u8 (jI b):=fun h=>Option.some.inj ((List.getElem?_eq_getElem h).symm.trans (YH b))
  have hlt:b.toNat<256:=b.toNat_lt
  have hp':p<s.length:=(List.getElem?_eq_some_iff.1 hp).1
  have ih:=ML s cx p hp l hl r (i+1) h2
  refine ai fun K hK=>?_
  rw [←hK,show ((i+1:Nat):Int)=(i:Int)+1 from rfl] at ih
  clear hK
  rw [Fa]
  by_cases c3:jI b=3<;>by_cases c4:jI b=4
  ·omega
  ·have hwr:sF b=true:=by simp [sF,c3]
   have e:(i:Int)+((fZ r:Int)+1)=(i:Int)+1+fZ r:=by omega
   simp [mV,h3,hb',hbl,hp,ht,hlt,c3,c4,hw,ih,hwr,e]
  ·have hwr:sF b=true:=by simp [sF,c4]
   have e:(i:Int)+((fZ r:Int)+1)=(i:Int)+1+fZ r:=by omega
   simp [mV,h3,hb',hbl,hp,ht,hlt,c3,c4,hw,ih,hwr,e]
  ·have hwr:sF b=false:=by simp [sF,c3,c4]
   simp [mV,h3,hb',hbl,hp,ht,hlt,c3,c4,hw,hwr]
theorem ES (s:St) (cx:Ctx) (p:Nat) (hp:s[p]?=some (.cells zh)) (l:List UInt8) (hl:l.length≤1048576):
  aj P0 (.fn (.func pU) [] []) [.pt p 0,.sl (aB l)] s cx=.ret (.i .i64 (fZ l)) s:=by
 refine UI (by simp) ?_
 have h:=ML s ⟨cx.lim,s.length⟩ p hp l hl l 0 rfl
 simp at h
 simp [af,yL,h]
end Go.Ai.Z
namespace Go.Ai.Z
theorem kz (l:List UInt8):(aB l).length=l.length:=by simp [aB]
theorem zM (l:List UInt8) (n:Nat):(aB l).drop n=aB (l.drop n):=by simp [aB,List.map_drop]
theorem IE (l:List UInt8) (n:Nat):(aB l).take n=aB (l.take n):=by simp [aB,List.map_take]
theorem sU (l:List UInt8) (i:Nat) (h:i<(aB l).length) {b:UInt8} (hb:l[i]?=some b):(aB l)[i]=.i .u8 b.toNat:=by
 have h':i<l.length:=by simpa [aB] using h
 rw [List.getElem?_eq_getElem h'] at hb
 cases hb
 simp [aB]
theorem LJ (l:List UInt8):(aB l).all (fun e=>e.cells.length == 1)=true:=by simp [aB]
theorem TP (l:List UInt8):(aB l).mapM byteOf=some l:=by
 induction l with
 | nil=>rfl
 | cons a r ih=>
  have:aB (a::r)=.i .u8 a.toNat::aB r:=rfl
  simp [this,byteOf,ih]
def JG (b:UInt8):Bool:=decide (48≤b.toNat) && decide (b.toNat≤57)
def kY (b:List UInt8):Bool:=decide (1≤b.length) && decide (b.length≤18) && !(b.head? == some 48) && b.all JG
def jR (b:List UInt8):Bool:=decide (b=[48]) || (if b.head?=some 45 then kY (b.drop 1) else kY b)
theorem Dh (s:St) (cx:Ctx) (l:List UInt8) (hl:l.length≤1048576):∀(rest:List UInt8) (i:Nat),l.drop i=rest→
  ∃j:Int,bg (au P0.glob (aj P0) cx false jB) [28,29,30] [(28,.v (.sl (aB l))),(29,.v (.i .i64 l.length)),(30,.v (.i .i64 i))] s=
   if rest.all JG=true then .exit 0 [(28,.v (.sl (aB l))),(29,.v (.i .i64 l.length)),(30,.v (.i .i64 j)),(31,.v (.b false))] s else .ret [(2,.v (.b false))] s
 | [],i,h=>by
  have h1:¬i<l.length:=Nat.not_lt.2 (drop_nil h)
  refine ⟨i,ai fun K hK=>?_⟩
  simp [jB,h1]
 | b::r,i,h=>by
  obtain ⟨h1,h2,h3,h4⟩:=drop_cons h
  have hb:∀h,(aB l)[i]'h=.i .u8 b.toNat:=fun h=>sU l i h h1
  have hbl:=kz l
  have hw:=wI (i:=i) (by omega)
  obtain ⟨j,ih⟩:=Dh s cx l hl r (i+1) h2
  refine ⟨j,ai fun K hK=>?_⟩
  rw [←hK,show ((i+1:Nat):Int)=(i:Int)+1 from rfl] at ih
  clear hK
  by_cases d1:(b.toNat:Int)<48
  ·have hd:JG b=false:=by simp [JG];omega
   simp [jB,h3,hb,hbl,hd,hw,d1]
  ·by_cases d2:(57:Int)<b.toNat
   ·have hd:JG b=false:=by simp [JG];omega
    simp [jB,h3,hb,hbl,hd,hw,d1,d2]
   ·have hd:JG b=true:=by simp [JG];omega
    simp [jB,h3,hb,hbl,hd,hw,d1,d2,ih]
def _root_.Go.Ai.aG.fst:aG→aG
 | .seq a _=>a
 | c=>c
def _root_.Go.Ai.aG.snd:aG→aG
 | .seq _ b=>b
 | c=>c
def BX:aG:=aQ.code.snd.snd.snd
theorem Z9:aQ.code=.seq aQ.code.fst (.seq aQ.code.snd.fst (.seq aQ.code.snd.snd.fst BX)):=rfl
theorem Wp (e:Env) (he:e=[]∨e=[(11,.v (.b false))]) (l:List UInt8) (hl:l.length≤1048576) (s:St) (cx:Ctx):au P0.glob (aj P0) cx false BX ((0,.v (.sl (aB l)))::e) s=.ret [(2,.v (.b (kY l)))] s:=by
 have hbl:=kz l
 rcases he with rfl|rfl
 all_goals
 cases l with
 | nil=>simp [BX,aQ,aG.snd,aB,kY]
 | cons c r=>
  have hbc:∀h,(aB (c::r))[0]'h=.i .u8 c.toNat:=fun h=>rfl
  obtain ⟨j,hlp⟩:=Dh s cx (c::r) hl (c::r) 0 rfl
  simp only [List.length_cons] at hbl hlp hl
  have h1:¬((r.length:Int)+1<1):=by omega
  have hp:0<r.length+1:=by omega
  have hcast:((r.length+1:Nat):Int)=(r.length:Int)+1:=rfl
  simp only [hcast,show ((0:Nat):Int)=0 from rfl] at hlp
  by_cases h18:(18:Int)<(r.length:Int)+1
  ·have hi:kY (c::r)=false:=by simp [kY];intros;omega
   simp [BX,aQ,aG.snd,hbl,h18,hi,h1]
  ·have h18':r.length+1≤18:=by omega
   by_cases h48:c=48
   ·have hi:kY (c::r)=false:=by simp [kY,h48]
    have hc:(c.toNat:Int)=48:=by rw [h48];rfl
    simp [BX,aQ,aG.snd,hbl,h18,hi,h1,hbc,hp,hc]
   ·have hi:kY (c::r)=(c::r).all JG:=by simp [kY,h48,h18']
    have hc:¬(c.toNat:Int)=48:=fun h=>h48 (UInt8.toNat_inj.1 (by have:(48:UInt8).toNat=48:=rfl;omega))
    rw [hi]
    cases hd:(c::r).all JG with
    | true=>rw [hd] at hlp;simp at hlp;simp [BX,aQ,aG.snd,hbl,h18,h1,hbc,hp,hc,hlp]
    | false=>rw [hd] at hlp;simp at hlp;simp [BX,aQ,aG.snd,hbl,h18,h1,hbc,hp,hc,hlp]
theorem Dl (l:List UInt8) (hl:l.length≤1048576) (hne:l≠[]) (s:St) (cx:Ctx):
  aj P0 (.fn (.func qK) [] []) [.sl (aB l)] s cx=.ret (.b (jR l)) s:=by
 refine Lm (by simp) ?_
 have hs:=TP l
 have hbl:=kz l
 have hn:aQ.np=1:=rfl
 have hr:aQ.res=[.tmp 2]:=rfl
 have hp:aQ.pure=true:=rfl
 have hk:aQ.keep=false:=rfl
 obtain ⟨c,r,hcr⟩:∃c r,l=c::r:=by cases l with|nil=>exact absurd rfl hne|cons c r=>exact ⟨c,r,rfl⟩
 have hbc:∀h,(aB l)[0]'h=.i .u8 c.toNat:=fun h=>sU l 0 h (by simp [hcr])
 have hpos:0<(aB l).length:=by rw [hbl,hcr];simp
 unfold af
 rw [Z9]
 simp only [hn,hr,hp,hk]
 by_cases h0:l=[48]
 ·have hi:jR l=true:=by simp [jR,h0]
  rw [hi]
  simp [aG.fst,aG.snd,aQ,hs,h0]
  rw [h0] at hs
  simp [hs]
 ·by_cases hm:c=45
  ·have hi:jR l=kY (l.drop 1):=by simp [jR,h0];simp [hcr,hm]
   have ht:=Wp [] (.inl rfl) (l.drop 1) (by simp;omega) s ⟨s.length,s.length⟩
   have hc:(c.toNat:Int)=45:=by rw [hm];rfl
   have hd:((aB l).drop 1).take ((aB l).length - 1)=aB (l.drop 1):=by
    rw [List.take_of_length_le (by simp),zM]
   have hle:1≤(aB l).length:=hpos
   have hal:=LJ l
   simp only [hcr,List.drop_succ_cons,List.drop_zero] at ht hi hd
   simp only [←hcr] at hi hd
   simp only [List.drop_one] at hd
   simp [aG.fst,aG.snd,aQ,hs,h0,hbc,hpos,hc,hle,hal,hd,ht,hi]
  ·have hi:jR l=kY l:=by simp [jR,h0];simp [hcr,hm]
   have ht:=Wp [(11,.v (.b false))] (.inr rfl) l hl s ⟨s.length,s.length⟩
   have hc:¬(c.toNat:Int)=45:=fun h=>hm (UInt8.toNat_inj.1 (by have:(45:UInt8).toNat=45:=rfl;omega))
   simp [aG.fst,aG.snd,aQ,hs,h0,hbc,hpos,hc,ht,hi]
end Go.Ai.Z
namespace Go.Ai.Z
def qj (b:List UInt8) (n:Nat):Int×Nat:=if jR (b.take n)=true then (2,n) else (0,n)
def gV:List UInt8→Int×Nat
 | []=>(0,0)
 | c::r=>
  if jI c=3 then
   (match (c::r).drop (fZ (c::r)) with
   | d::e::q=>if d=58∧e≠95∧jI e=3 then (1,fZ (c::r)+(1+fZ (e::q))) else (1,fZ (c::r))
   | _=>(1,fZ (c::r)))
  else if jI c=5 then
   (match r with
   | []=>(0,1)
   | d::_=>if d=62 then (3,2) else if jI d=4 then qj (c::r) (1+fZ r) else (0,1))
  else if jI c=4 then qj (c::r) (fZ (c::r))
  else if jI c=6 then (3,1) else (0,1)
theorem oM (c:UInt8) (r:List UInt8):gV (c::r)=
  if jI c=3 then
   (match (c::r).drop (fZ (c::r)) with
   | d::e::q=>if d=58∧e≠95∧jI e=3 then (1,fZ (c::r)+(1+fZ (e::q))) else (1,fZ (c::r))
   | _=>(1,fZ (c::r)))
  else if jI c=5 then
   (match r with
   | []=>(0,1)
   | d::_=>if d=62 then (3,2) else if jI d=4 then qj (c::r) (1+fZ r) else (0,1))
  else if jI c=4 then qj (c::r) (fZ (c::r))
  else if jI c=6 then (3,1) else (0,1):=rfl
theorem aha {a b:UInt8} (h:a≠b):¬((a.toNat:Int)=(b.toNat:Int)):=fun h'=>h (UInt8.toNat_inj.1 (by omega))
theorem DL (b:UInt8):∀h,zh[b.toNat]'h=.i .u8 (jI b):=fun h=>Option.some.inj ((List.getElem?_eq_getElem h).symm.trans (YH b))
theorem OZ {c:UInt8} {r:List UInt8} (h:jI c=3∨jI c=4):0<fZ (c::r):=by
 rw [Fa]
 have:sF c=true:=by rcases h with h|h<;>simp [sF,h]
 simp [this]
theorem U1 (s:St) (cx:Ctx) (p:Nat) (hp:s[p]?=some (.cells zh)) (l:List UInt8) (hl:l.length≤1048576) (hne:l≠[]):
  aj P0 (.fn (.func sW) [] []) [.pt p 0,.sl (aB l)] s cx=.ret (.tu [.i .i64 (gV l).1,.i .i64 ((gV l).2:Int)]) s:=by
 refine RX (by simp) ?_
 obtain ⟨c,r,hcr⟩:∃c r,l=c::r:=by cases l with|nil=>exact absurd rfl hne|cons c r=>exact ⟨c,r,rfl⟩
 have hbl:=kz l
 have hbc:∀h,(aB l)[0]'h=.i .u8 c.toNat:=fun h=>sU l 0 h (by simp [hcr])
 have hpos:0<(aB l).length:=by rw [hbl,hcr];simp
 have hb0:(aB l)[0]?=some (.i .u8 c.toNat):=by rw [List.getElem?_eq_getElem hpos,hbc]
 have hlt:c.toNat<256:=c.toNat_lt
 have ht:=DL c
 have hrun:=ES s ⟨cx.lim,s.length⟩ p hp l hl
 have hal:=LJ l
 have hrl:=E8 l
 have hsc:gV l=gV (c::r):=by rw [hcr]
 rw [hsc,oM,←hcr]
 have w1:IntKind.i64.wrap ((fZ l:Int)+1)=(fZ l:Int)+1:=w64 (by omega) (by omega)
 have rl:r.length+1=l.length:=by rw [hcr];simp
 by_cases c3:jI c=3
 ·rw [if_pos c3]
  cases hx:l.drop (fZ l) with
  | nil=>
   have h1:l.length - fZ l=0:=by simpa using congrArg List.length hx
   have h2:¬((fZ l:Int)+1<l.length):=by omega
   simp [af,cO,hb0,hbc,hlt,ht,hp,c3,hrun,hbl,w1,h2]
  | cons d q=>
   cases q with
   | nil=>
    have h1:l.length - fZ l=1:=by simpa using congrArg List.length hx
    have h2:¬((fZ l:Int)+1<l.length):=by omega
    simp [af,cO,hb0,hbc,hlt,ht,hp,c3,hrun,hbl,w1,h2]
   | cons e q=>
    have h1:l.length - fZ l=q.length+2:=by simpa using congrArg List.length hx
    have h2:(fZ l:Int)+1<l.length:=by omega
    have g0:l[fZ l]?=some d:=by have:=congrArg (·[0]?) hx;simpa using this
    have g1:l[fZ l+1]?=some e:=by have:=congrArg (·[1]?) hx;simpa using this
    have b0:∀h,(aB l)[fZ l]'h=.i .u8 d.toNat:=fun h=>sU l _ h g0
    have b1:∀h,(aB l)[fZ l+1]'h=.i .u8 e.toNat:=fun h=>sU l _ h g1
    have k0:fZ l<l.length:=by omega
    have k1:fZ l+1<l.length:=by omega
    have k2:fZ l+1≤l.length:=by omega
    have n1:((fZ l:Int)+1).toNat=fZ l+1:=by omega
    have z1:(0:Int)≤(fZ l:Int)+1:=by omega
    have hlt':e.toNat<256:=e.toNat_lt
    have ht':=DL e
    have hdd:l.drop (fZ l+1)=e::q:=by rw [←List.drop_drop,hx];rfl
    have hs1:((aB l).drop (fZ l+1)).take (l.length - (fZ l+1))=aB (e::q):=by
     rw [zM,hdd,List.take_of_length_le (by rw [kz];simp;omega)]
    have hrun':=ES s ⟨cx.lim,s.length⟩ p hp (e::q) (by simp;omega)
    have hr':=E8 (e::q)
    simp only [List.length_cons] at hr'
    have w2:IntKind.i64.wrap (1+(fZ (e::q):Int))=1+(fZ (e::q):Int):=w64 (by omega) (by omega)
    have w3:IntKind.i64.wrap ((fZ l:Int)+(1+(fZ (e::q):Int)))=(fZ l:Int)+(1+(fZ (e::q):Int)):=w64 (by omega) (by omega)
    by_cases d58:(d.toNat:Int)=58
    ·have d58':d=58:=UInt8.toNat_inj.1 (by have:(58:UInt8).toNat=58:=rfl;omega)
     by_cases e95:(e.toNat:Int)=95
     ·have e95':e=95:=UInt8.toNat_inj.1 (by have:(95:UInt8).toNat=95:=rfl;omega)
      simp [af,cO,hb0,hbc,hlt,ht,hp,c3,hrun,hbl,w1,h2,b0,b1,k0,k1,n1,z1,d58,e95,e95']
     ·have e95':¬e=95:=fun h=>e95 (by rw [h];rfl)
      by_cases e3:jI e=3
      ·simp [af,cO,hb0,hbc,hlt,ht,hp,c3,hrun,hbl,w1,h2,b0,b1,k0,k1,k2,n1,z1,d58,d58',e95,e95',e3,hlt',ht',hal,hs1,hrun',w2,w3]
      ·simp [af,cO,hb0,hbc,hlt,ht,hp,c3,hrun,hbl,w1,h2,b0,b1,k0,k1,n1,z1,d58,d58',e95,e95',e3,hlt',ht']
    ·have d58':¬d=58:=fun h=>d58 (by rw [h];rfl)
     simp [af,cO,hb0,hbc,hlt,ht,hp,c3,hrun,hbl,w1,h2,b0,b1,k0,k1,n1,z1,d58,d58']
 ·rw [if_neg c3]
  by_cases c5:jI c=5
  ·rw [if_pos c5]
   cases r with
   | nil=>
    have h1:l.length=1:=by rw [hcr];rfl
    simp [af,cO,hb0,hbc,hlt,ht,hp,c5,hbl,h1]
   | cons d q=>
    have h1:(1:Int)<l.length:=by rw [hcr];simp;omega
    have h2:¬(l.length:Int)=1:=by omega
    have g1:l[1]?=some d:=by rw [hcr];rfl
    have b1:∀h,(aB l)[1]'h=.i .u8 d.toNat:=fun h=>sU l _ h g1
    have k1:1<l.length:=by omega
    have k2:1≤l.length:=by omega
    have hlt':d.toNat<256:=d.toNat_lt
    have ht':=DL d
    by_cases d62:(d.toNat:Int)=62
    ·have d62':d=62:=UInt8.toNat_inj.1 (by have:(62:UInt8).toNat=62:=rfl;omega)
     simp [af,cO,hb0,hbc,hlt,ht,hp,c5,hbl,h1,b1,k1,d62,d62']
    ·have d62':¬d=62:=fun h=>d62 (by rw [h];rfl)
     by_cases d4:jI d=4
     ·have hs1:((aB l).tail).take (l.length - 1)=aB (d::q):=by
       rw [List.take_of_length_le (by simp [hbl]),←List.drop_one,zM,hcr];rfl
      have hrun':=ES s ⟨cx.lim,s.length⟩ p hp (d::q) (by simp at rl ⊢;omega)
      have hr':=E8 (d::q)
      simp only [List.length_cons] at hr' rl
      have w2:IntKind.i64.wrap (1+(fZ (d::q):Int))=1+(fZ (d::q):Int):=w64 (by omega) (by omega)
      have hs2:(aB l).take (1+fZ (d::q))=aB (l.take (1+fZ (d::q))):=IE _ _
      have hint:=Dl (l.take (1+fZ (d::q))) (by simp;omega) (by rw [hcr];simp [Nat.add_comm 1]) s ⟨cx.lim,s.length⟩
      have n1:(1+(fZ (d::q):Int)).toNat=1+fZ (d::q):=by omega
      have z1:(0:Int)≤1+(fZ (d::q):Int):=by omega
      have k3:1+fZ (d::q)≤l.length:=by omega
      unfold qj
      cases hi:jR (l.take (1+fZ (d::q))) with
      | true=>rw [hi] at hint;simp [af,cO,hb0,hbc,hlt,ht,hp,c5,hbl,h1,h2,b1,k1,k2,k3,d62,d62',d4,hlt',ht',hal,hs1,hrun',w2,n1,z1,hs2,hint]
      | false=>rw [hi] at hint;simp [af,cO,hb0,hbc,hlt,ht,hp,c5,hbl,h1,h2,b1,k1,k2,k3,d62,d62',d4,hlt',ht',hal,hs1,hrun',w2,n1,z1,hs2,hint]
     ·simp [af,cO,hb0,hbc,hlt,ht,hp,c5,hbl,h1,h2,b1,k1,d62,d62',d4,hlt',ht']
  ·rw [if_neg c5]
   by_cases c4:jI c=4
   ·rw [if_pos c4]
    have hrp:0<fZ l:=by rw [hcr];exact OZ (.inr c4)
    have hs2:(aB l).take (fZ l)=aB (l.take (fZ l)):=IE _ _
    have hint:=Dl (l.take (fZ l)) (by simp;omega) (by rw [hcr];rw [hcr] at hrp;intro h;have:=congrArg List.length h;simp at this;omega) s ⟨cx.lim,s.length⟩
    unfold qj
    cases hi:jR (l.take (fZ l)) with
    | true=>rw [hi] at hint;simp [af,cO,hb0,hbc,hlt,ht,hp,c4,hbl,hrun,hal,hrl,hs2,hint]
    | false=>rw [hi] at hint;simp [af,cO,hb0,hbc,hlt,ht,hp,c4,hbl,hrun,hal,hrl,hs2,hint]
   ·rw [if_neg c4]
    by_cases c6:jI c=6
    ·simp [af,cO,hb0,hbc,hlt,ht,hp,c6]
    ·simp [af,cO,hb0,hbc,hlt,ht,hp,c3,c4,c5,c6]
end Go.Ai.Z
namespace Go.Ai.Z
def uf (b:UInt8):Bool:=decide (jI b=1)
abbrev Tok:=Int×List UInt8×Nat
def fM (t:Tok):AV:=.ag [.i .i64 t.1,.s t.2.1,.i .i64 t.2.2]
def Qh:Nat→List UInt8→Nat→Option (List Tok)
 | 0,_,_=>none
 | n+1,b,a=>
  match b.dropWhile uf with
  | []=>some [(4,[],a+b.length)]
  | c::r=>
   if jI c=2 then none
   else if (gV (c::r)).1=0 then none
   else (Qh n ((c::r).drop (gV (c::r)).2) (a+(b.length - (c::r).length)+(gV (c::r)).2)).map (((gV (c::r)).1,(c::r).take (gV (c::r)).2,a+(b.length - (c::r).length))::·)
def stT (s:St) (a n:Int):St:=s++[.cells [.ns],.cells zh,.cells [.i .i64 a],.cells [.i .i64 n],.cells [.i .i64 (-1)]]
@[simp] theorem akC (s:St) (a n:Int):(stT s a n)[s.length]?=some (.cells [.ns]):=by simp [stT]
@[simp] theorem akB (s:St) (a n:Int):(stT s a n)[s.length+1]?=some (.cells zh):=by simp [stT]
@[simp] theorem akA (s:St) (a n:Int):(stT s a n)[s.length+2]?=some (.cells [.i .i64 a]):=by simp [stT]
@[simp] theorem akz (s:St) (a n:Int):(stT s a n)[s.length+3]?=some (.cells [.i .i64 n]):=by simp [stT]
@[simp] theorem ajJ (s:St) (a n x:Int):(stT s a n).set (s.length+2) (.cells [.i .i64 x])=stT s x n:=by simp [stT]
@[simp] theorem ajI (s:St) (a n x:Int):(stT s a n).set (s.length+3) (.cells [.i .i64 x])=stT s a x:=by simp [stT]
@[simp] theorem ajK (s:St) (a n:Int):(stT s a n).set (s.length) (.cells [.ns])=stT s a n:=by simp [stT]
@[simp] theorem ah1 (s:St) (a n:Int):(stT s a n).take s.length=s:=by simp [stT]
def vw (s:St) (src:List UInt8) (ts:List Tok):Env:=[(0,.v (.sl (aB src))),(2,.own false iP 3 (ts.map fM)),(3,.v (.pt s.length 0)),(5,.v (.pt (s.length+1) 0)),
 (6,.v (.pt (s.length+2) 0)),(8,.v (.pt (s.length+3) 0)),(10,.v (.fn (.func lV) [] [.pt (s.length+2) 0,.pt (s.length+4) 0,.pt s.length 0,.pt (s.length+3) 0]))]
theorem JF {α:Type} {l r:List α} {i k:Nat} (h:l.drop i=r):l.drop (i+k)=r.drop k:=by rw [←List.drop_drop,h]
def BB:aG:=eG.snd
theorem OL:eG=.seq .skip BB:=rfl
theorem Sz (ts:List Tok):(ts.map fM).all (fun e=>e.cells.length == 3)=true:=by simp [fM]
theorem ZA (n:Nat) (ts:List Tok):bM n (ts.map fM)=true:=by
 induction ts with
 | nil=>simp
 | cons a r ih=>simp [fM,ih]
theorem YL (c:UInt8) (r:List UInt8):(gV (c::r)).2≤(c::r).length:=by
 have h1:=E8 (c::r)
 rw [oM]
 split
 ·split
  ·rename_i d e q hx
   have h2:=E8 (e::q)
   have h3:(c::r).length - fZ (c::r)=q.length+2:=by simpa using congrArg List.length hx
   simp only [List.length_cons] at *
   split<;>simp only []<;>omega
  ·exact h1
 ·split
  ·split
   ·simp
   ·rename_i d q
    have h2:=E8 (d::q)
    unfold qj
    simp only [List.length_cons] at *
    repeat' split
    all_goals simp only [];omega
  ·split
   ·unfold qj;split<;>exact h1
   ·split<;>simp
theorem OV (c:UInt8) (r:List UInt8):0<(gV (c::r)).2:=by
 rw [oM]
 split
 ·rename_i h3
  have h1:0<fZ (c::r):=OZ (.inl h3)
  split
  ·split<;>simp only []<;>omega
  ·exact h1
 ·split
  ·split
   ·simp
   ·unfold qj
    repeat' split
    all_goals simp only [];omega
  ·split
   ·rename_i h4
    have h1:0<fZ (c::r):=OZ (.inr h4)
    unfold qj;split<;>exact h1
   ·split<;>simp
def _root_.Go.Ai.aG.sca:aG→aG
 | .scope _ _ a _=>a
 | c=>c
theorem ZB:fK.code=.seq fK.code.fst (.scope 0 [0,2,3,5,6,8,10] (.seq fK.code.snd.sca.fst (.seq fK.code.snd.sca.snd.fst (.seq fK.code.snd.sca.snd.snd.fst
  (.seq fK.code.snd.sca.snd.snd.snd.fst (.seq fK.code.snd.sca.snd.snd.snd.snd.fst (.seq (.label 0) BB)))))) eG):=rfl
end Go.Ai.Z
