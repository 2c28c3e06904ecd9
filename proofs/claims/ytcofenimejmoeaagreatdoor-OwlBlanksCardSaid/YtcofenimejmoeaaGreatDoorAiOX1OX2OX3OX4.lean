/-
 The reader of ontology documents: how it measures tokens.
-/
import Derived.Test.YtcofenimejmoeaaGreatDoorAiOW1OW2OW3OW4OW5
import Derived.Test.YtcofenimejmoeaaGreatDoorAiRchR1R2R3R4R5
import Derived.Test.YtcofenimejmoeaaGreatDoorAiK1K2K3K4K5K6K7
set_option maxRecDepth 100000
set_option linter.unusedSimpArgs false
set_option linter.unusedVariables false
set_option linter.unusedSectionVars false
namespace Go.Ai.Z
def ltI (k:Int):Bool:=decide (97≤k) && decide (k≤122) || decide (65≤k) && decide (k≤90)
def wdI (k:Int):Bool:=ltI k || decide (48≤k) && decide (k≤57) || decide (k=95) || decide (k=58)
def stI (k:Int):Bool:=decide (32≤k) && decide (k≤126) && decide (k≠34)
def KZ (b:UInt8):Bool:=XW b.toNat
def Vt (b:UInt8):Bool:=stI b.toNat
def zW (b:UInt8):Bool:=wdI b.toNat
def Bd (b:UInt8):Bool:=decide ((b.toNat:Int)≠10)
theorem SI (b:UInt8) (s:St) (cx:Ctx):aj P0 (.fn (.func rq) [] []) [.i .u8 b.toNat] s cx=.ret (.b (stI b.toNat)) s:=by
 refine Pv (by simp) ?_;unfold stI;by_cases q1:32≤(b.toNat:Int)
 ·by_cases q2:(b.toNat:Int)≤126
  ·by_cases q5:(b.toNat:Int)=34
   ·simp -implicitDefEqProofs [af,mZ,q1,q2,q5]
   ·simp -implicitDefEqProofs [af,mZ,q1,q2,q5]
  ·simp -implicitDefEqProofs [af,mZ,q1,q2]
 ·simp -implicitDefEqProofs [af,mZ,q1]
theorem vg (k:Int) (s:St) (cx:Ctx):aj P0 (.fn (.func qZ) [] []) [.i .u8 k] s cx=.ret (.b (ltI k)) s:=by
 refine Pq (by simp) ?_;unfold ltI
 by_cases q1:97≤k<;>by_cases q2:k≤122<;>by_cases q3:65≤k<;>by_cases q4:k≤90 <;>
  simp -implicitDefEqProofs [af,wP,q1,q2,q3,q4]
theorem WI (b:UInt8) (s:St) (cx:Ctx):aj P0 (.fn (.func vS) [] []) [.i .u8 b.toNat] s cx=.ret (.b (wdI b.toNat)) s:=by
 refine TL (by simp) ?_;have e1:=vg b.toNat;unfold wdI;cases h0:ltI b.toNat
 ·rw [h0] at e1;by_cases q1:48≤(b.toNat:Int)
  ·by_cases q2:(b.toNat:Int)≤57
   ·simp -implicitDefEqProofs [af,jY,e1,q1,q2]
   ·by_cases q3:(b.toNat:Int)=95
    ·rw [q3] at e1;simp -implicitDefEqProofs [af,jY,e1,q1,q2,q3]
    ·by_cases q4:(b.toNat:Int)=58
     ·rw [q4] at e1;simp -implicitDefEqProofs [af,jY,e1,q1,q2,q3,q4]
     ·simp -implicitDefEqProofs [af,jY,e1,q1,q2,q3,q4]
  ·by_cases q3:(b.toNat:Int)=95
   ·rw [q3] at e1;simp -implicitDefEqProofs [af,jY,e1,q1,q3]
   ·by_cases q4:(b.toNat:Int)=58
    ·rw [q4] at e1;simp -implicitDefEqProofs [af,jY,e1,q1,q3,q4]
    ·simp -implicitDefEqProofs [af,jY,e1,q1,q3,q4]
 ·rw [h0] at e1;simp -implicitDefEqProofs [af,jY,e1]
theorem YB (b:UInt8) (s:St) (cx:Ctx):aj P0 (.fn (.func lC) [] []) [.i .u8 b.toNat] s cx=.ret (.b (Bd b)) s:=by
 refine Gi (by simp) ?_;unfold Bd
 by_cases q:(b.toNat:Int)=10<;>simp -implicitDefEqProofs [af,pz,q]
def kU (p:UInt8→Bool) (l:Rl):Nat:=(l.takeWhile p).length
theorem PI (p:UInt8→Bool) (l:Rl):kU p l≤l.length:=(List.takeWhile_sublist _).length_le
def afA (F:Nat) (p:UInt8→Bool):Prop:=∀(b:UInt8) (s:St) (cx:Ctx),aj P0 (.fn (.func F) [] []) [.i .u8 b.toNat] s cx=.ret (.b (p b)) s
theorem AB (l:Rl) (i:Nat) (h:i<(au l).length) {b:UInt8} (hb:l[i]?=some b):(au l)[i]=.i .u8 b.toNat:=by
 have hl:i<l.length:=by rw [jg] at h;exact h
 rw [List.getElem?_eq_getElem hl,Option.some_inj] at hb;simp [au,hb]
theorem SL (l:Rl) (n:Nat):(au l).drop n=au (l.drop n):=by simp [au,List.map_drop]
theorem ZX (l:Rl) (n:Nat):(au l).take n=au (l.take n):=by simp [au,List.map_take]
theorem BZ {l:Rl}:(∀z∈au l,z.cells.length=1)=True:=eq_true (by
 intro z hz;unfold au at hz;obtain ⟨b,_,rfl⟩:=List.mem_map.1 hz
 rfl)
theorem Rj (F:Nat) (p:UInt8→Bool) (hF:afA F p) (l:Rl) (hl:l.length≤1000000) (s:St) (cx:Ctx):∀(rest:Rl) (i:Nat),l.drop i=rest→i≤l.length→
  gU (aC P0.glob (aj P0) cx false uU) [0,1,4] [(0,.v (.sl (au l))),(1,.v (.fn (.func F) [] [])),(4,.v (.i .i64 i))] s=
   .exit 0 [(0,.v (.sl (au l))),(1,.v (.fn (.func F) [] [])),(4,.v (.i .i64 ((i+kU p rest:Nat):Int))),(16,.v (.b false))] s
 | [],i,h,hi=>by
  have h1:¬i<l.length:=Nat.not_lt.2 (drop_nil h);have hb:¬i<(au l).length:=by rw [jg];exact h1
  refine ak fun K hK=>?_;simp -implicitDefEqProofs [uU,hb,kU]
 | b::r,i,h,hi=>by
  obtain ⟨h1,h2,h3,h4⟩:=drop_cons h;have hb:i<(au l).length:=by rw [jg];exact h3
  have hg:=AB l i hb h1;have hwi:=wI (i:=i) (by omega);have e1:=hF b;cases q:p b
  ·rw [q] at e1;refine ak fun K hK=>?_;clear hK h4;have hs:kU p (b::r)=0:=by simp [kU,q]
   rw [hs];simp -implicitDefEqProofs [uU,hb,hg,e1]
  ·rw [q] at e1;have ih:=Rj F p hF l hl s cx r (i+1) h2 (by omega);refine ak fun K hK=>?_;rw [←hK,show ((i+1:Nat):Int)=(i:Int)+1 from rfl] at ih;clear hK h4;have hs:i+kU p (b::r)=i+1+kU p r:=by simp [kU,q];omega
   rw [hs,←ih];clear ih;simp -implicitDefEqProofs [uU,hb,hg,e1,hwi]
theorem JW (F:Nat) (p:UInt8→Bool) (hF:afA F p) (l:Rl) (hl:l.length≤1000000) (s:St) (cx:Ctx):
  aj P0 (.fn (.func xu) [] []) [.sl (au l),.fn (.func F) [] []] s cx=.ret (.i .i64 (kU p l)) s:=by
 have h:=Rj F p hF l hl s ⟨cx.lim,s.length⟩ l 0 rfl (by omega);rw [show ((0:Nat):Int)=0 from rfl,Nat.zero_add] at h;refine X9 (by simp) ?_;simp -implicitDefEqProofs [af,BR,h]
def Nv (p:UInt8→Bool) (e:UInt8) (l:Rl):Nat:=if l[1+kU p l.tail]?=some e then 2+kU p l.tail else 0
theorem Gz (F:Nat) (p:UInt8→Bool) (hF:afA F p) (e c:UInt8) (r:Rl) (hl:r.length≤100000) (s:St) (cx:Ctx):
  aj P0 (.fn (.func rC) [] []) [.sl (au (c::r)),.fn (.func F) [] [],.i .u8 e.toNat] s cx=.ret (.i .i64 (Nv p e (c::r))) s:=by
 have e1:=JW F p hF r (by omega);have h1:=PI p r;refine Px (by simp) ?_;unfold Nv;rw [List.tail_cons];have hg:(c::r)[1+kU p r]?=r[kU p r]?:=by rw [Nat.add_comm];rfl
 rw [hg];have w1:IntKind.i64.wrap (1+(kU p r:Int))=1+kU p r:=w64 (by omega) (by omega);have w2:IntKind.i64.wrap (1+(kU p r:Int)+1)=1+kU p r+1:=w64 (by omega) (by omega);have hn:(au (c::r)).length=r.length+1:=by rw [jg];rfl
 have hd:(au (c::r)).drop 1=au r:=rfl;have hcl:=BZ (l:=c::r);have htk:(au r).take r.length=au r:=List.take_of_length_le (by rw [jg];omega);by_cases q:r[kU p r]?=some e
 ·have h2:kU p r<r.length:=(List.getElem?_eq_some_iff.1 q).1;have hb:1+kU p r<(au (c::r)).length:=by rw [hn];omega
  have hgt:(au (c::r))[1+kU p r]?=some (.i .u8 e.toNat):=by rw [List.getElem?_eq_getElem hb,AB (c::r) (1+kU p r) hb (by rw [hg];exact q)]
  have h0:(0:Int)≤1+(kU p r:Int):=by omega
  have hne:¬(1+(kU p r:Int))=(r.length:Int)+1:=by omega
  have htn:(1+(kU p r:Int)).toNat=1+kU p r:=by omega
  rw [if_pos q];have hfin:((2+kU p r:Nat):Int)=1+(kU p r:Int)+1:=by omega
  rw [hfin];generalize hB:au (c::r)=B at *;generalize au r=B2 at *;simp -implicitDefEqProofs [af,oP,hcl,htk,e1,w1,w2,hn,hd,hne,htn,h0,hgt]
 ·rw [if_neg q];generalize hB:au (c::r)=B at *;generalize au r=B2 at *;by_cases h2:kU p r=r.length
  ·have hne:(1+(r.length:Int))=(r.length:Int)+1:=by omega
   rw [h2] at e1;have w1:IntKind.i64.wrap ((r.length:Int)+1)=(r.length:Int)+1:=w64 (by omega) (by omega);simp -implicitDefEqProofs [af,oP,hcl,htk,e1,w1,hn,hd,hne]
  ·have h3:kU p r<r.length:=by omega
   have hb:1+kU p r<B.length:=by rw [hn];omega
   have h0:(0:Int)≤1+(kU p r:Int):=by omega
   have hgt:B[1+kU p r]?=some (.i .u8 (r[kU p r].toNat:Int)):=by
    subst hB;rw [List.getElem?_eq_getElem hb,AB (c::r) (1+kU p r) hb (by rw [hg];exact List.getElem?_eq_getElem h3)]
   have hne:¬(1+(kU p r:Int))=(r.length:Int)+1:=by omega
   have htn:(1+(kU p r:Int)).toNat=1+kU p r:=by omega
   have hv:¬((r[kU p r].toNat:Int)=(e.toNat:Int)):=fun h=>q (by
    rw [List.getElem?_eq_getElem h3]
    congr 1
    exact UInt8.toNat_inj.1 (by omega))
   simp -implicitDefEqProofs [af,oP,hcl,htk,e1,w1,hn,hd,hne,htn,h0,hgt,hv]
end Go.Ai.Z
namespace Go.Ai.Z
def kV:Rl→Int×Nat
 | []=>(4,0)
 | c::r=>
  if (c.toNat:Int)=40∨(c.toNat:Int)=41∨(c.toNat:Int)=61 then (1,1)
  else if (c.toNat:Int)=94 then (1,if r.head?=some 94 then 2 else 0)
  else if (c.toNat:Int)=60 then (2,Nv KZ 62 (c::r))
  else if (c.toNat:Int)=34 then (3,Nv Vt 34 (c::r))
  else (4,kU zW (c::r))
theorem TW (c:UInt8) (r:Rl) (hl:r.length≤100000) (s:St) (cx:Ctx):
  aj P0 (.fn (.func wG) [] []) [.sl (au (c::r))] s cx=.ret (.tu [.i .i64 (kV (c::r)).1,.i .i64 (kV (c::r)).2]) s:=by
 have e1:=Gz vk KZ (fun b s cx=>OM b s cx) 62 c r hl;have e2:=Gz rq Vt (fun b s cx=>SI b s cx) 34 c r hl;have e3:=JW vS zW (fun b s cx=>WI b s cx) (c::r) (by simp;omega);refine Rx (by simp) ?_;unfold kV;rw [show ((62:UInt8).toNat:Int)=62 from rfl] at e1;rw [show ((34:UInt8).toNat:Int)=34 from rfl] at e2;have hb:au (c::r)=.i .u8 c.toNat::au r:=rfl;rw [hb] at e1 e2 e3 ⊢;by_cases q1:(c.toNat:Int)=40
 ·simp -implicitDefEqProofs [af,iK,q1]
 by_cases q2:(c.toNat:Int)=41
 ·simp -implicitDefEqProofs [af,iK,q2]
 by_cases q3:(c.toNat:Int)=61
 ·simp -implicitDefEqProofs [af,iK,q3]
 by_cases q4:(c.toNat:Int)=94
 ·cases r with
  | nil=>
   simp -implicitDefEqProofs [af,iK,q4,au]
  | cons d r=>
   have hb2:au (d::r)=.i .u8 d.toNat::au r:=rfl;have hlen:(1:Int)<(au r).length+1+1:=by omega
   by_cases q:d=94
   ·subst q;simp -implicitDefEqProofs [af,iK,q4,hb2,hlen]
   ·have q':¬((d.toNat:Int)=94):=fun h=>q (UInt8.toNat_inj.1 (by have:(94:UInt8).toNat=94:=rfl;omega));simp -implicitDefEqProofs [af,iK,q4,hb2,hlen,q,q']
 by_cases q5:(c.toNat:Int)=60
 ·rw [q5] at e1;simp -implicitDefEqProofs [af,iK,q5,e1]
 by_cases q6:(c.toNat:Int)=34
 ·rw [q6] at e2;simp -implicitDefEqProofs [af,iK,q6,e2]
 ·simp -implicitDefEqProofs [af,iK,q1,q2,q3,q4,q5,q6,e3]
abbrev Tk:=Int×Rl×Nat
def fD (t:Tk):AV:=.ag [.i .i64 t.1,.s t.2.1,.i .i64 t.2.2]
structure Rd where
 at_:Nat
 ah:List Tk
 pre:List Rl
 iri:Rl
 op:Bool
 ax:AV
def ahV (l:List Tk):AV:=slf true (l.map fD)
def rO (src:Rl) (m:Nat) (r:Rd):fQ:=.cells [.sl (au src),.i .i64 r.at_,ahV r.ah,.mp m,.s r.iri,.b r.op,r.ax,.mp (m+2),.mp (m+3)]
def rdF (m:Nat) (f:Nat):AV:=.fn (.func f) [.pt (m+1) 0] []
def XU (m:Nat):List (AV×AV):=[
 (.s wC9,rdF m gI),
 (.s wC2,rdF m lX),
 (.s wB3,rdF m gX),
 (.s wB5,rdF m iZ),
 (.s wB2,rdF m jJ),
 (.s wA3,rdF m lg),
 (.s wA9,rdF m iF),
 (.s wB7,rdF m jI),
 (.s wB0,rdF m lm)]
def Yq (m:Nat):List (AV×AV):=[
 (.s wB4,rdF m kN),
 (.s wB1,rdF m iW),
 (.s wA5,rdF m kP),
 (.s wA6,rdF m jP),
 (.s wB6,rdF m iq),
 (.s wA8,rdF m jQ)]
structure yE (src:Rl) (S:Rd→St) (m N:Nat):Prop where
 cell:∀r,(S r)[m+1]?=some (rO src m r)
 sets:∀r q:Rd,q.pre=r.pre→(S r).set (m+1) (rO src m q)=S q
 pm:∀r,(S r)[m]?=some (.map (qx r.pre))
 setp:∀(r:Rd) P,(S r).set m (.map (qx P))=S { r with pre:=P }
 im:∀r,(S r)[m+2]?=some (.map (XU m))
 cm:∀r,(S r)[m+3]?=some (.map (Yq m))
 n:∀r,(S r).length=N
 src:src.length≤70000
theorem yE.lt {src:Rl} {S:Rd→St} {m N:Nat} (h:yE src S m N):m+3<N:=by
 have:=(List.getElem?_eq_some_iff.1 (h.cm ⟨0,[],[],[],false,.ns⟩)).1
 rw [h.n] at this;exact this
theorem yE.app {src:Rl} {S:Rd→St} {m N:Nat} (h:yE src S m N) (X:St):yE src (fun r=>S r++X) m (N+X.length):=by
 have hl:=h.lt;refine ⟨fun r=>?_,fun r q hq=>?_,fun r=>?_,fun r P=>?_,fun r=>?_,fun r=>?_,fun r=>by simp [h.n],h.src⟩
 ·rw [List.getElem?_append_left (by rw [h.n];omega)];exact h.cell r
 ·rw [List.set_append_left _ _ (by rw [h.n];omega),h.sets r q hq]
 ·rw [List.getElem?_append_left (by rw [h.n];omega)];exact h.pm r
 ·rw [List.set_append_left _ _ (by rw [h.n];omega),h.setp]
 ·rw [List.getElem?_append_left (by rw [h.n];omega)];exact h.im r
 ·rw [List.getElem?_append_left (by rw [h.n];omega)];exact h.cm r
section
variable {src:Rl} {S:Rd→St} {m N:Nat} (h:yE src S m N)
include h
theorem yE.g1 (r:Rd) (X:St):(S r++X)[m+1]?=some (.cells [.sl (au src),.i .i64 r.at_,ahV r.ah,.mp m,.s r.iri,.b r.op,r.ax,.mp (m+2),.mp (m+3)]):=(h.app X).cell r
theorem yE.s1 (r q:Rd) (X:St) (hq:q.pre=r.pre):(S r++X).set (m+1) (.cells [.sl (au src),.i .i64 q.at_,ahV q.ah,.mp m,.s q.iri,.b q.op,q.ax,.mp (m+2),.mp (m+3)])=S q++X:=(h.app X).sets r q hq
theorem yE.gN (r:Rd) (x:fQ) (X:St):(S r++x::X)[N]?=some x:=by
 rw [List.getElem?_append_right (by rw [h.n];omega),h.n];simp
theorem yE.sN (r:Rd) (x y:fQ) (X:St):(S r++x::X).set N y=S r++y::X:=by
 rw [List.set_append_right _ _ (by rw [h.n];omega),h.n];simp
theorem yE.gN1 (r:Rd) (x y:fQ) (X:St):(S r++x::y::X)[N+1]?=some y:=by
 rw [List.getElem?_append_right (by rw [h.n];omega),h.n,Nat.add_sub_cancel_left];simp
theorem yE.sN1 (r:Rd) (x y z:fQ) (X:St):(S r++x::y::X).set (N+1) z=S r++x::z::X:=by
 rw [List.set_append_right _ _ (by rw [h.n];omega),h.n,Nat.add_sub_cancel_left];simp
theorem yE.tk (r:Rd) (X:St):(S r++X).take N=S r:=by
 rw [List.take_append_of_le_length (by rw [h.n];omega),List.take_of_length_le (by rw [h.n];omega)]
end
def skN:Nat→Rl→Nat
 | 0,_=>0
 | _+1,[]=>0
 | n+1,c::r=>
  if (c.toNat:Int)=9∨(c.toNat:Int)=10∨(c.toNat:Int)=13∨(c.toNat:Int)=32 then 1+skN n r
  else if (c.toNat:Int)=35 then kU Bd (c::r)+skN n ((c::r).drop (kU Bd (c::r))) else 0
theorem YX:∀(n:Nat) (l:Rl),skN n l≤l.length
 | 0,l=>by simp [skN]
 | n+1,[]=>by simp [skN]
 | n+1,c::r=>by
  have h1:=YX n r;have h2:=YX n ((c::r).drop (kU Bd (c::r)));have h3:=PI Bd (c::r);rw [List.length_drop] at h2;unfold skN;split
  ·simp only [List.length_cons];omega
  ·split
   ·omega
   ·omega
def skO (src:Rl) (a:Nat):Nat:=a+skN src.length (src.drop a)
theorem Vw {src:Rl} {a:Nat} (h:a≤src.length):skO src a≤src.length:=by
 have:=YX src.length (src.drop a)
 rw [List.length_drop] at this;unfold skO;omega
section
variable {src:Rl} {S:Rd→St} {m N:Nat} (hE:yE src S m N)
include hE
theorem l_skip (cx:Ctx) (hl:cx.lim≤m):∀(n:Nat) (r:Rd),r.at_≤src.length→src.length - r.at_≤n→
  (∃E:Env,gU (aC P0.glob (aj P0) cx false dN) [0] [(0,.v (.pt (m+1) 0))] (S r)=.exit 0 E (S { r with at_:=r.at_+skN n (src.drop r.at_) }))∨
  (∃E,gU (aC P0.glob (aj P0) cx false dN) [0] [(0,.v (.pt (m+1) 0))] (S r)=.ret E (S { r with at_:=r.at_+skN n (src.drop r.at_) }))
 | 0,r,ha,hn=>by
  have h0:r.at_=src.length:=by omega
  have hc:=hE.cell r;unfold rO at hc;have hbl:=jg src;refine .inl ⟨[(0,.v (.pt (m+1) 0)),(11,.v (.b false))],ak fun K hK=>?_⟩;rw [show { r with at_:=r.at_+skN 0 (src.drop r.at_) }=r from by simp [skN]];simp -implicitDefEqProofs [dN,hc,hbl,h0]
 | n+1,r,ha,hn=>by
  have hc:=hE.cell r;have hS:=hE.src;have hlt:=hE.lt;unfold rO at hc;have hbl:=jg src;have hcl:=BZ (l:=src)
  cases hd:src.drop r.at_ with
  | nil=>
   have h0:r.at_=src.length:=by have:=List.drop_eq_nil_iff.1 hd;omega
   refine .inl ⟨[(0,.v (.pt (m+1) 0)),(11,.v (.b false))],ak fun K hK=>?_⟩;rw [show { r with at_:=r.at_+skN (n+1) [] }=r from by simp [skN]];simp -implicitDefEqProofs [dN,hc,hbl,h0]
  | cons c q=>
   have h1:src[r.at_]?=some c:=by rw [←List.head?_drop,hd];rfl
   have h3:r.at_<src.length:=(List.getElem?_eq_some_iff.1 h1).1;have h3i:(r.at_:Int)<(src.length:Int):=by omega
   have hb:r.at_<(au src).length:=by rw [hbl];exact h3
   have hg:=AB src r.at_ hb h1;have hg':(au src)[r.at_]?=some (.i .u8 c.toNat):=by rw [List.getElem?_eq_getElem hb,hg]
   have hq:src.drop (r.at_+1)=q:=by rw [←List.drop_drop,hd];rfl
   have hlim:cx.lim≤m+1:=by omega
   by_cases q1:(c.toNat:Int)=9∨(c.toNat:Int)=10∨(c.toNat:Int)=13∨(c.toNat:Int)=32
   ·have hk:skN (n+1) (c::q)=1+skN n q:=by rw [skN,if_pos q1]
    have hw:=wI (i:=r.at_) (by omega);have hs:=hE.sets r { r with at_:=r.at_+1 } rfl;unfold rO at hs;rw [show (((r.at_+1:Nat)):Int)=(r.at_:Int)+1 from rfl] at hs;have ih:=l_skip cx hl n { r with at_:=r.at_+1 } (by simp only;omega) (by simp only;omega);simp only [hq] at ih;rw [hk,show r.at_+(1+skN n q)=r.at_+1+skN n q by omega]
    have key:∀K:Env→St→Out,(aC P0.glob (aj P0) cx false dN [(0,.v (.pt (m+1) 0))] (S r)).thn K=K [(0,.v (.pt (m+1) 0))] (S { r with at_:=r.at_+1 }):=by
     intro K
     rcases q1 with q1|q1|q1|q1 <;>
      simp -implicitDefEqProofs [dN,hc,hbl,h3i,hb,hg',hg,hw,hlim,q1,hs]
    rcases ih with ⟨E,ih⟩|⟨E,ih⟩
    ·refine .inl ⟨E,ak fun K hK=>?_⟩;rw [←hK] at ih;rw [←ih];exact key K
    ·refine .inr ⟨E,ak fun K hK=>?_⟩;rw [←hK] at ih;rw [←ih];exact key K
   ·by_cases q2:(c.toNat:Int)=35
    ·have hk:skN (n+1) (c::q)=kU Bd (c::q)+skN n ((c::q).drop (kU Bd (c::q))):=by rw [skN,if_neg q1,if_pos q2]
     have hsp:1≤kU Bd (c::q):=by
      have:Bd c=true:=by unfold Bd;rw [q2];rfl
      simp [kU,this]
     have hsl:=PI Bd (c::q);have hlen:(c::q).length=src.length - r.at_:=by rw [←hd,List.length_drop]
     have e1:=JW lC Bd (fun b s cx=>YB b s cx) (c::q) (by omega);have hdr:(au src).drop r.at_=au (c::q):=by rw [SL,hd]
     have htk:(au (c::q)).take (src.length - r.at_)=au (c::q):=List.take_of_length_le (by rw [jg];omega);rw [hk];have hdd:(c::q).drop (kU Bd (c::q))=src.drop (r.at_+kU Bd (c::q)):=by rw [←List.drop_drop,hd]
     rw [hdd];generalize kU Bd (c::q)=k at *;have hw:IntKind.i64.wrap ((r.at_:Int)+k)=(r.at_:Int)+k:=w64 (by omega) (by omega);have hs:=hE.sets r { r with at_:=r.at_+k } rfl;unfold rO at hs;rw [show (((r.at_+k:Nat)):Int)=(r.at_:Int)+k by omega] at hs;have ih:=l_skip cx hl n { r with at_:=r.at_+k } (by simp only;omega) (by simp only;omega);simp only at ih;rw [show r.at_+(k+skN n (src.drop (r.at_+k)))=r.at_+k+skN n (src.drop (r.at_+k)) by omega];have hle:r.at_≤src.length:=ha
     have key:∀K:Env→St→Out,(aC P0.glob (aj P0) cx false dN [(0,.v (.pt (m+1) 0))] (S r)).thn K=K [(0,.v (.pt (m+1) 0))] (S { r with at_:=r.at_+k }):=by
      intro K;simp -implicitDefEqProofs [dN,hc,hbl,h3i,hb,hg',hg,hw,hlim,q2,hcl,hdr,htk,e1,hle,hs]
     rcases ih with ⟨E,ih⟩|⟨E,ih⟩
     ·refine .inl ⟨E,ak fun K hK=>?_⟩;rw [←hK] at ih;rw [←ih];exact key K
     ·refine .inr ⟨E,ak fun K hK=>?_⟩;rw [←hK] at ih;rw [←ih];exact key K
    ·refine .inr ⟨[(0,.v (.pt (m+1) 0)),(34,.v (.b false))],ak fun K hK=>?_⟩;have hk:skN (n+1) (c::q)=0:=by rw [skN,if_neg q1,if_neg q2]
     rw [hk];obtain ⟨p1,p2,p3,p4⟩:¬(c.toNat:Int)=9∧¬(c.toNat:Int)=10∧¬(c.toNat:Int)=13∧¬(c.toNat:Int)=32:=⟨fun h=>q1 (.inl h),fun h=>q1 (.inr (.inl h)),fun h=>q1 (.inr (.inr (.inl h))),fun h=>q1 (.inr (.inr (.inr h)))⟩;clear q1;simp -implicitDefEqProofs [dN,hc,hbl,h3i,hb,hg',hg,p1,p2,p3,p4,q2]
theorem aix (r:Rd) (ha:r.at_≤src.length) (cx:Ctx) (hl:cx.lim≤m):
  aj P0 (.fn (.func pK) [] []) [.pt (m+1) 0] (S r) cx=.ret (.tu []) (S { r with at_:=skO src r.at_ }):=by
 have h:=l_skip hE ⟨cx.lim,(S r).length⟩ hl src.length r ha (by omega);have hN:=hE.n;refine JC (by simp) ?_;unfold skO;rw [hN] at h;rcases h with ⟨E,h⟩|⟨E,h⟩
 ·simp -implicitDefEqProofs [af,oC,hN,h]
 ·simp -implicitDefEqProofs [af,oC,hN,h]
end
end Go.Ai.Z
namespace Go.Ai.Z
inductive OR (α:Type) where
 | ok (v:α) (r:Rd)
 | er (a:Nat) (c:Int) (r:Rd)
def OR.bind {α β:Type} (x:OR α) (f:α→Rd→OR β):OR β:=
 match x with
 | .ok v r=>f v r
 | .er a c r=>.er a c r
@[simp] theorem OR.bind_ok {α β:Type} (v:α) (r:Rd) (f:α→Rd→OR β):(OR.ok v r).bind f=f v r:=rfl
@[simp] theorem OR.bind_er {α β:Type} (a:Nat) (c:Int) (r:Rd) (f:α→Rd→OR β):(OR.er a c r:OR α).bind f=.er a c r:=rfl
def flt (a:Nat) (c:Int):AV:=.ifc rJ (.ag [.i .i64 (a:Int),.i .i64 c])
@[simp] theorem alY (S:St) (n:Nat) (a:Nat) (c:Int):frz S n (flt a c)=some (flt a c):=by simp [frz,flt,AV.under,bW]
@[simp] theorem akM (S:St) (n:Nat) (a:Int) (c:Int):frz S n (.ifc rJ (.ag [.i .i64 a,.i .i64 c]))=some (.ifc rJ (.ag [.i .i64 a,.i .i64 c])):=by simp [frz,AV.under,bW]
def uh {α:Type} (enc:α→AV) (S:Rd→St) (x:OR α):CO:=
 match x with
 | .ok v r=>.ret (enc v) (S r)
 | .er a c r=>.pan (flt a c) (S r)
@[simp] theorem dD {α:Type} (enc:α→AV) (S:Rd→St) (v:α) (r:Rd):uh enc S (.ok v r)=.ret (enc v) (S r):=rfl
@[simp] theorem dA {α:Type} (enc:α→AV) (S:Rd→St) (a:Nat) (c:Int) (r:Rd):uh enc S (.er a c r:OR α)=.pan (flt a c) (S r):=rfl
theorem jS {α:Type} (enc:α→AV) (S:Rd→St) (x:OR α):uh enc S x≠.fail:=by cases x<;>simp
def iI (src:Rl) (r:Rd):OR Tk:=
 match r.ah with
 | t::_=>.ok t r
 | []=>
  if skO src r.at_<src.length then
   if (kV (src.drop (skO src r.at_))).2=0 then .er (skO src r.at_) 50 { r with at_:=skO src r.at_ }
   else .ok ((kV (src.drop (skO src r.at_))).1,(src.drop (skO src r.at_)).take (kV (src.drop (skO src r.at_))).2,skO src r.at_)
    { r with at_:=skO src r.at_+(kV (src.drop (skO src r.at_))).2,ah:=[((kV (src.drop (skO src r.at_))).1,(src.drop (skO src r.at_)).take (kV (src.drop (skO src r.at_))).2,skO src r.at_)] }
  else .ok (5,[],skO src r.at_) { r with at_:=skO src r.at_,ah:=[(5,[],skO src r.at_)] }
theorem aaP (p:UInt8→Bool) (e:UInt8) (l:Rl):Nv p e l≤l.length:=by
 unfold Nv;split
 ·rename_i h;have:=(List.getElem?_eq_some_iff.1 h).1;omega
 ·omega
theorem QU (l:Rl):(kV l).2≤l.length:=by
 unfold kV
 cases l with
 | nil=>simp
 | cons c r=>
  have h1:=aaP KZ 62 (c::r);have h2:=aaP Vt 34 (c::r);have h3:=PI zW (c::r);simp only;split
  ·simp
  split
  ·cases r with
   | nil=>simp
   | cons d r=>simp;split<;>omega
  split
  ·exact h1
  split
  ·exact h2
  ·exact h3
theorem Wq (k:Int) (t:Rl) (a:Int):(AV.sl [.ag [.i .i64 k,.s t,.i .i64 a]]).flat=true:=rfl
theorem afh:∀l:Rl,(au l).mapM byteOf=some l
 | []=>rfl
 | b::r=>by
  have ih:=afh r;unfold au at ih ⊢;rw [List.map_cons,List.mapM_cons,ih];simp [byteOf]
section
variable {src:Rl} {S:Rd→St} {m N:Nat} (hE:yE src S m N)
include hE
theorem oN (r:Rd) (ha:r.at_≤src.length) (cx:Ctx) (hl:cx.lim≤m):
  aj P0 (.fn (.func aQ) [] []) [.pt (m+1) 0] (S r) cx=uh fD S (iI src r):=by
 refine JE (jS _ _ _) ?_;have hN:=hE.n;have hlt:=hE.lt;have hS:=hE.src;have hlim:cx.lim≤m+1:=by omega
 have hc:=hE.cell r;unfold rO at hc;obtain ⟨a0,ah,pre,iri,op,ax⟩:=r;unfold iI;simp only at ha hc
 cases ah with
 | cons t u=>
  obtain ⟨t1,t2,t3⟩:=t;unfold ahV at hc;simp only [List.map_cons,slf] at hc;have g1:=hE.g1 ⟨a0,(t1,t2,t3)::u,pre,iri,op,ax⟩;simp only [ahV,List.map_cons,slf] at g1;have hz:¬((u.length:Int)+1=0):=by omega
  have hl0:cx.lim≤N:=by omega
  simp -implicitDefEqProofs [af,kF,hN,g1,hE.gN,hE.sN,hE.tk,hz,hl0,fD,dR,splice,frz,AV.under,bW]
 | nil=>
  have hE1:=hE.app [fQ.cells [.i .i64 0,.s [],.i .i64 0]];have e1:=aix hE1 ⟨a0,[],pre,iri,op,ax⟩ ha ⟨cx.lim,N⟩ hl;have hl0:cx.lim≤N:=by omega
  have hl1:cx.lim≤N+1:=by omega
  have hle:=Vw (src:=src) ha;simp only at e1;have hc1:=hE.cell ⟨skO src a0,[],pre,iri,op,ax⟩;unfold rO at hc1;have g0:=hE.g1 ⟨a0,[],pre,iri,op,ax⟩;have g1:=hE.g1 ⟨skO src a0,[],pre,iri,op,ax⟩;generalize skO src a0=a at *;simp only [ahV,List.map_nil,slf] at g0 g1;have hcl:=BZ (l:=src);have hbl:=jg src;have hdr:=SL src a;have htk:(au (src.drop a)).take (src.length - a)=au (src.drop a):=List.take_of_length_le (by rw [jg,List.length_drop];omega);have hdl:(au (src.drop a)).length=src.length - a:=by rw [jg,List.length_drop]
  simp only [ahV,List.map_nil,slf] at hc hc1;by_cases q:a<src.length
  ·rw [if_pos q]
   obtain ⟨c,w,hcw⟩:∃c w,src.drop a=c::w:=by
    cases hh:src.drop a with
    | nil=>have:=List.drop_eq_nil_iff.1 hh;omega
    | cons c w=>exact ⟨c,w,rfl⟩
   have hwl:w.length≤100000:=by
    have:=congrArg List.length hcw
    rw [List.length_drop,List.length_cons] at this;omega
   have e2:=TW c w hwl;have hml:=QU (src.drop a);rw [←hcw] at e2;rw [List.length_drop] at hml;have hcl2:=BZ (l:=src.drop a);generalize hB:au (src.drop a)=B at *;have hgt:0<src.length - a:=by omega
   by_cases z:(kV (src.drop a)).2=0
   ·rw [if_pos z];rw [z] at e2;simp -implicitDefEqProofs [af,kF,hN,g0,g1,hE.gN,hE.sN,hE.gN1,hE.sN1,hE.tk,fD,dR,splice,frz,AV.under,bW,hbl,Wq,e1,e2,hcl,hdr,htk,hle,hdl,hgt,flt,hl0,hl1]
   ·rw [if_neg z];have s1:=hE.s1 ⟨a,[],pre,iri,op,ax⟩ ⟨a+(kV (src.drop a)).2,[],pre,iri,op,ax⟩;have g2:=hE.g1 ⟨a+(kV (src.drop a)).2,[],pre,iri,op,ax⟩;have s2:=hE.s1 ⟨a+(kV (src.drop a)).2,[],pre,iri,op,ax⟩ ⟨a+(kV (src.drop a)).2,[((kV (src.drop a)).1,(src.drop a).take (kV (src.drop a)).2,a)],pre,iri,op,ax⟩;have g3:=hE.g1 ⟨a+(kV (src.drop a)).2,[((kV (src.drop a)).1,(src.drop a).take (kV (src.drop a)).2,a)],pre,iri,op,ax⟩
    have hb2:(B.take (kV (src.drop a)).2).mapM byteOf=some ((src.drop a).take (kV (src.drop a)).2):=by
     rw [←hB,ZX];exact afh _
    generalize (kV (src.drop a)).2=n at *;generalize (kV (src.drop a)).1=k at *;generalize (src.drop a).take n=txt at *;have w1:IntKind.i64.wrap ((a:Int)+n)=(a:Int)+n:=w64 (by omega) (by omega);have hnz:¬((n:Int)=0):=by omega
    have hnl:n≤src.length - a:=hml;simp [ahV,fD] at s1 g2 s2 g3;simp -implicitDefEqProofs [af,kF,hN,g0,g1,g2,g3,s1,s2,hE.gN,hE.sN,hE.gN1,hE.sN1,hE.tk,fD,dR,splice,frz,AV.under,bW,hbl,Wq,e1,e2,hcl,hdr,htk,hle,hdl,hgt,flt,hl0,hl1,hlim,hb2,w1,z,hnz,hnl,hcl2]
  ·rw [if_neg q];have hle2:a=src.length:=by omega
   have s2:=hE.s1 ⟨a,[],pre,iri,op,ax⟩ ⟨a,[(5,[],a)],pre,iri,op,ax⟩;have g3:=hE.g1 ⟨a,[(5,[],a)],pre,iri,op,ax⟩;simp [ahV,fD] at s2 g3;have hB0:au (src.drop a)=[]:=by rw [hle2];simp [au]
   simp -implicitDefEqProofs [af,kF,hN,g0,g1,g3,s2,hE.gN,hE.sN,hE.gN1,hE.sN1,hE.tk,fD,dR,splice,frz,AV.under,bW,hbl,Wq,e1,hcl,hdr,htk,hle,hdl,flt,hl0,hl1,hlim,hB0]
end
end Go.Ai.Z
namespace Go.Ai.Z
def bY (r:Rd):Rd:={ r with ah:=[] }
def isR (src:Rl) (w:Rl) (r:Rd):OR Bool:=(iI src r).bind fun t r=>.ok (decide (t.2.1=w)) r
def rG (src:Rl) (b:Bool) (r:Rd):OR Unit:=if b=true then .ok () r else (iI src r).bind fun t r=>.er t.2.2 50 r
def lJ (src:Rl) (w:Rl) (r:Rd):OR Unit:=(isR src w r).bind fun b r=>(rG src b r).bind fun _ r=>.ok () (bY r)
structure afw (src:Rl) (t:Tk):Prop where
 len:t.2.1.length≤src.length
 two:t.1=2∨t.1=3→2≤t.2.1.length
 one:t.1≠5→1≤t.2.1.length
 at_:t.2.2≤src.length
structure Wr (src:Rl) (r:Rd):Prop where
 at_:r.at_≤src.length
 ah:∀t∈r.ah,afw src t
theorem abH (l:Rl) (h:(kV l).1=2∨(kV l).1=3) (h0:(kV l).2≠0):2≤(kV l).2:=by
 have he:∀p e,Nv p e l≠0→2≤Nv p e l:=by
  intro p e hh;unfold Nv at hh ⊢;split
  ·omega
  ·rename_i q;rw [if_neg q] at hh;exact absurd rfl hh
 cases l with
 | nil=>simp [kV] at h
 | cons c r=>
  unfold kV at h h0 ⊢;simp only at h h0 ⊢
  split at h
  ·simp at h
  rename_i q1;rw [if_neg q1] at h0 ⊢
  split at h
  ·simp at h
  rename_i q2;rw [if_neg q2] at h0 ⊢
  split at h
  ·rename_i q3;rw [if_pos q3] at h0 ⊢;exact he _ _ h0
  rename_i q3;rw [if_neg q3] at h0 ⊢
  split at h
  ·rename_i q4;rw [if_pos q4] at h0 ⊢;exact he _ _ h0
  ·simp at h
theorem oJ {src:Rl} {r r':Rd} {t:Tk} (h:Wr src r) (e:iI src r=.ok t r'):Wr src r'∧afw src t:=by
 have h1:=Vw h.at_;have h2:=QU (src.drop (skO src r.at_));have h3:=abH (src.drop (skO src r.at_));rw [List.length_drop] at h2;unfold iI at e
 split at e
 ·rename_i t0 u hh;cases e;exact ⟨h,h.ah t (by rw [hh];simp)⟩
 ·split at e
  ·split at e
   ·cases e
   ·rename_i q;cases e
    have ht:afw src ((kV (src.drop (skO src r.at_))).1,(src.drop (skO src r.at_)).take (kV (src.drop (skO src r.at_))).2,skO src r.at_):=by
     refine ⟨?_,fun hk=>?_,fun hk=>?_,h1⟩
     ·simp only [List.length_take,List.length_drop];omega
     ·have:=h3 hk q
      simp only [List.length_take,List.length_drop];omega
     ·simp only [List.length_take,List.length_drop];omega
    exact ⟨⟨by simp only;omega,fun t hm=>by simp at hm;subst hm;exact ht⟩,ht⟩
  ·cases e;have ht:afw src (5,[],skO src r.at_):=⟨by simp,fun hk=>by simp at hk,fun hk=>absurd rfl hk,h1⟩;exact ⟨⟨h1,fun t hm=>by simp at hm;subst hm;exact ht⟩,ht⟩
theorem qH {src:Rl} {r r':Rd} {t:Tk} (e:iI src r=.ok t r'):iI src r'=.ok t r'∧r'.pre=r.pre∧r'.iri=r.iri∧r'.op=r.op∧r'.ax=r.ax:=by
 unfold iI at e
 split at e
 ·rename_i hh;cases e;refine ⟨?_,rfl,rfl,rfl,rfl⟩;unfold iI;rw [hh]
 ·split at e
  ·split at e
   ·cases e
   ·cases e;refine ⟨?_,rfl,rfl,rfl,rfl⟩;unfold iI;rfl
  ·cases e;refine ⟨?_,rfl,rfl,rfl,rfl⟩;unfold iI;rfl
theorem iQ {src:Rl} {r:Rd} (h:Wr src r):Wr src (bY r):=⟨h.at_,by simp [bY]⟩
theorem zl (src:Rl) (r:Rd):∃a c r2,rG src false r=.er a c r2:=by
 unfold rG;rw [if_neg Bool.false_ne_true]
 cases iI src r with
 | er a c r2=>exact ⟨a,c,r2,rfl⟩
 | ok t r2=>exact ⟨_,_,r2,rfl⟩
@[simp] theorem pF (src:Rl) (r:Rd):rG src true r=.ok () r:=rfl
theorem ahb {src:Rl} {r r':Rd} {w:Rl} {b:Bool} (h:Wr src r) (e:isR src w r=.ok b r'):Wr src r':=by
 unfold isR at e
 cases hp:iI src r with
 | er a c r1=>rw [hp] at e;cases e
 | ok t r1=>rw [hp] at e;cases e;exact (oJ h hp).1
def QL (pre:List Rl) (t:Tk):Bool:=
 match lD 58 t.2.1 with
 | some (x,y)=>decide (t.1=4) && !y.isEmpty && !decide ((58:UInt8)∈y) && decide (x++[58]∈pre) && !decide (x=[111,119,108]) && !decide (x=[120,115,100])
 | none=>false
def trimB (b:UInt8) (w:Rl):Rl:=match w with | []=>[] | c::r=>if c=b then r else c::r
def WZ (w:Rl):Rl:=trimB 58 w
theorem YF (w:Rl) (b:UInt8) (s:St) (cx:Ctx):aj P0 (.fn (.func fP) [] []) [.s w,.s [b]] s cx=.ret (.b (decide (w.head?=some b))) s:=by
 refine xO (by simp) ?_
 cases w with
 | nil=>simp -implicitDefEqProofs [af,fC]
 | cons c r=>
  have h1:(1:Int)≤(r.length:Int)+1:=by omega
  by_cases q:c=b<;>simp -implicitDefEqProofs [af,fC,h1,q]
theorem LW (w:Rl) (b:UInt8) (s:St) (cx:Ctx):aj P0 (.fn (.func kM) [] []) [.s w,.s [b]] s cx=.ret (.s (trimB b w)) s:=by
 have e1:=YF w b
 have e2:∀(s:St) (cx:Ctx),aj P0 (.fn (.func fE) [] []) [.s w,.s [b]] s cx=.ret (.s (trimB b w)) s:=fun s cx=>by
  refine wZ (by simp) ?_
  cases w with
  | nil=>
   simp at e1;simp -implicitDefEqProofs [af,dI,e1,trimB]
  | cons c r=>
   by_cases q:c=b
   ·simp [q] at e1;simp -implicitDefEqProofs [af,dI,e1,trimB,q]
   ·simp [q] at e1;simp -implicitDefEqProofs [af,dI,e1,trimB,q]
 refine EX (by simp) ?_;simp -implicitDefEqProofs [af,oK,e2]
def oh (src:Rl) (r:Rd):OR Rl:=(iI src r).bind fun t r=>(rG src (QL r.pre t) r).bind fun _ r=>.ok (WZ t.2.1) (bY r)
def LC (src:Rl) (w p:Rl) (r:Rd):OR Unit:=(isR src w r).bind fun b r=>(rG src (b && decide (p∈r.pre)) r).bind fun _ r=>.ok () (bY r)
section
variable {src:Rl} {S:Rd→St} {m N:Nat} (hE:yE src S m N)
include hE
theorem qc (b:Bool) (r:Rd) (ha:Wr src r) (cx:Ctx) (hl:cx.lim≤m):
  aj P0 (.fn (.func bU) [] []) [.pt (m+1) 0,.b b] (S r) cx=uh (fun _=>.tu []) S (rG src b r):=by
 refine JI (jS _ _ _) ?_;have hN:=hE.n;have e1:=oN hE r ha.at_ ⟨cx.lim,N⟩ hl;unfold rG;cases b
 ·cases hp:iI src r with
  | er a c r1=>
   rw [hp] at e1;simp only [dA] at e1;simp -implicitDefEqProofs [af,lS,hN,e1]
  | ok t r1=>
   rw [hp] at e1;simp only [dD,fD] at e1;simp -implicitDefEqProofs [af,lS,hN,e1,dR,splice,flt]
 ·simp -implicitDefEqProofs [af,lS,hN]
theorem JX (w:Rl) (r:Rd) (ha:Wr src r) (cx:Ctx) (hl:cx.lim≤m):
  aj P0 (.fn (.func bM) [] []) [.pt (m+1) 0,.s w] (S r) cx=uh .b S (isR src w r):=by
 refine Nq (jS _ _ _) ?_;have hN:=hE.n;have e1:=oN hE r ha.at_ ⟨cx.lim,N⟩ hl;unfold isR
 cases hp:iI src r with
 | er a c r1=>
  rw [hp] at e1;simp only [dA] at e1;simp -implicitDefEqProofs [af,qL,hN,e1]
 | ok t r1=>
  rw [hp] at e1;simp only [dD,fD] at e1
  by_cases q:t.2.1=w<;>simp -implicitDefEqProofs [af,qL,hN,e1,q]
theorem lG (r:Rd) (cx:Ctx) (hl:cx.lim≤m):
  aj P0 (.fn (.func aO) [] []) [.pt (m+1) 0] (S r) cx=.ret (.tu []) (S (bY r)):=by
 refine JF (by simp) ?_;have hN:=hE.n;have hc:=hE.cell r;have hs:=hE.sets r (bY r) rfl;have hlim:cx.lim≤m+1:=by omega
 unfold rO bY at *;simp [ahV] at hs;simp -implicitDefEqProofs [af,sD,hN,hc,hs,hlim,show AV.ns.flat=true from rfl]
theorem iE (w:Rl) (r:Rd) (ha:Wr src r) (cx:Ctx) (hl:cx.lim≤m):
  aj P0 (.fn (.func aH) [] []) [.pt (m+1) 0,.s w] (S r) cx=uh (fun _=>.tu []) S (lJ src w r):=by
 refine JA (jS _ _ _) ?_;have hN:=hE.n;have e1:=JX hE w r ha ⟨cx.lim,N⟩ hl;unfold lJ
 cases hp:isR src w r with
 | er a c r1=>
  rw [hp] at e1;simp only [dA] at e1;simp -implicitDefEqProofs [af,lQ,hN,e1]
 | ok b r1=>
  rw [hp] at e1;simp only [dD] at e1;have h1:=ahb ha hp;have e2:=qc hE b r1 h1 ⟨cx.lim,N⟩ hl;simp only [OR.bind_ok]
  cases hq:rG src b r1 with
  | er a c r2=>
   rw [hq] at e2;simp only [dA] at e2;simp -implicitDefEqProofs [af,lQ,hN,e1,e2]
  | ok v r2=>
   rw [hq] at e2;simp only [dD] at e2;have e3:=lG hE r2 ⟨cx.lim,N⟩ hl;simp -implicitDefEqProofs [af,lQ,hN,e1,e2,e3]
theorem Hf (w p:Rl) (r:Rd) (ha:Wr src r) (cx:Ctx) (hl:cx.lim≤m):
  aj P0 (.fn (.func gG) [] []) [.pt (m+1) 0,.s w,.s p] (S r) cx=uh (fun _=>.tu []) S (LC src w p r):=by
 refine Ib (jS _ _ _) ?_;have hN:=hE.n;have e1:=JX hE w r ha ⟨cx.lim,N⟩ hl;unfold LC
 cases hp:isR src w r with
 | er a c r1=>
  rw [hp] at e1;simp only [dA] at e1;simp -implicitDefEqProofs [af,dV,hN,e1]
 | ok b r1=>
  rw [hp] at e1;simp only [dD] at e1;have h1:=ahb ha hp;have e2:=qc hE (b && decide (p∈r1.pre)) r1 h1 ⟨cx.lim,N⟩ hl;have hc:=hE.cell r1;have hm:=hE.pm r1;have hf:=DK p r1.pre;unfold rO at hc;simp only [OR.bind_ok]
  have key:∀x,rG src (b && decide (p∈r1.pre)) r1=x→af P0.glob (aj P0) dV ([]++[.pt (m+1) 0,.s w,.s p]++[]) (S r) cx=uh (fun _=>.tu []) S (x.bind fun _ r=>.ok () (bY r)):=by
   intro x hx;rw [hx] at e2
   cases x with
   | er a c r2=>
    simp only [dA] at e2;cases b
    ·simp at e2;simp -implicitDefEqProofs [af,dV,hN,e1,e2]
    ·by_cases q:p∈r1.pre
     ·simp [q] at e2 hf;simp -implicitDefEqProofs [af,dV,hN,e1,e2,hc,hm,hf]
     ·simp [q] at e2 hf;simp -implicitDefEqProofs [af,dV,hN,e1,e2,hc,hm,hf]
   | ok v r2=>
    simp only [dD] at e2;have e3:=lG hE r2 ⟨cx.lim,N⟩ hl;cases b
    ·simp at e2;simp -implicitDefEqProofs [af,dV,hN,e1,e2,e3]
    ·by_cases q:p∈r1.pre
     ·simp [q] at e2 hf;simp -implicitDefEqProofs [af,dV,hN,e1,e2,hc,hm,hf,e3]
     ·simp [q] at e2 hf;simp -implicitDefEqProofs [af,dV,hN,e1,e2,hc,hm,hf,e3]
  exact key _ rfl
theorem qQ (r:Rd) (ha:Wr src r) (cx:Ctx) (hl:cx.lim≤m):
  aj P0 (.fn (.func aS) [] []) [.pt (m+1) 0] (S r) cx=uh .s S (oh src r):=by
 refine JG (jS _ _ _) ?_;have hN:=hE.n;have hS:=hE.src;have e1:=oN hE r ha.at_ ⟨cx.lim,N⟩ hl;unfold oh
 cases hp:iI src r with
 | er a c r1=>
  rw [hp] at e1;simp only [dA] at e1;simp -implicitDefEqProofs [af,dP,hN,e1]
 | ok t r1=>
  rw [hp] at e1;obtain ⟨w1,w2⟩:=oJ ha hp;obtain ⟨p1,p2,_,_,_⟩:=qH hp;have e1b:=oN hE r1 w1.at_ ⟨cx.lim,N⟩ hl;rw [p1] at e1b;obtain ⟨k,w,a⟩:=t;simp only [dD,fD] at e1 e1b;have ec:=zn w 58 (by have:=w2.len;simp only at this;omega);have et:=LW w 58;have hc:=hE.cell r1;have hm:=hE.pm r1;unfold rO at hc;simp only [OR.bind_ok];have e3:=lG hE r1 ⟨cx.lim,N⟩ hl;have e2:=fun b=>qc hE b r1 w1 ⟨cx.lim,N⟩ hl;obtain ⟨a2,c2,r2,hx⟩:=zl src r1;have e2f:=e2 false;have e2t:=e2 true;rw [hx] at e2f;simp only [dA,dD,pF] at e2f e2t;clear e2;unfold QL;simp only
  cases hcut:lD 58 w with
  | none=>
   rw [hcut] at ec;simp only at ec ⊢;rw [hx]
   by_cases q1:k=4<;>simp -implicitDefEqProofs [af,dP,hN,e1,e1b,ec,e2f,q1]
  | some q=>
   obtain ⟨x,y⟩:=q;rw [hcut] at ec;simp only at ec ⊢;have hf:=DK (x++[58]) r1.pre;have eC:=Kz y 58
   have hxl:x.length≤4611686018427387903:=by
    have h1:=wF hcut;have h2:=w2.len;simp only at h2;rw [h1] at h2;simp at h2;omega
   by_cases q1:¬k=4
   ·simp [q1,hx];simp -implicitDefEqProofs [af,dP,hN,e1,e1b,ec,e2f,q1]
   have q1:k=4:=Classical.not_not.1 q1;by_cases q2:y=[]
   ·simp [q1,q2,hx];simp -implicitDefEqProofs [af,dP,hN,e1,e1b,ec,e2f,q1,q2]
   have q2b:y.isEmpty=false:=by cases y<;>simp_all
   by_cases q3:(58:UInt8)∈y
   ·simp [q1,q2,q3,hx];simp [q3] at eC;simp -implicitDefEqProofs [af,dP,hN,e1,e1b,ec,e2f,q1,q2b,eC]
   simp [q3] at eC;by_cases q4:¬x++[58]∈r1.pre
   ·simp [q1,q2,q3,q4,hx];simp [q4] at hf;simp -implicitDefEqProofs [af,dP,hN,e1,e1b,ec,e2f,q1,q2b,eC,hc,hm,hf,hxl]
   have q4:x++[58]∈r1.pre:=Classical.not_not.1 q4;simp [q4] at hf;by_cases q5:x=[111,119,108]
   ·simp [q1,q2,q3,q4,q5,hx];subst q5;simp at hf q4;simp -implicitDefEqProofs [af,dP,hN,e1,e1b,ec,e2f,q1,q2b,eC,hc,hm,hf,hxl,hx]
   by_cases q6:x=[120,115,100]
   ·simp [q1,q2,q3,q4,q5,q6,hx];subst q6;simp at hf q4;simp -implicitDefEqProofs [af,dP,hN,e1,e1b,ec,e2f,q1,q2b,eC,hc,hm,hf,hxl,hx]
   ·simp [q1,q2,q3,q4,q5,q6];simp -implicitDefEqProofs [af,dP,hN,e1,e1b,ec,e2t,e3,et,WZ,q1,q2b,eC,hc,hm,hf,hxl,q5,q6]
end
end Go.Ai.Z
namespace Go.Ai.Z
open Go.Lib (atoi decNat decFrom digitVal)
def LK (b:UInt8):Bool:=decide (48≤(b.toNat:Int)) && decide ((b.toNat:Int)≤57)
def zF (w:Rl):Rl:=(w.drop 1).take (w.length - 2)
def EU (t:Tk):Option Int:=
 if t.1=3 then
  if (trimB 45 (zF t.2.1)).length<1∨18<(trimB 45 (zF t.2.1)).length then none
  else if (trimB 45 (zF t.2.1)).head?=some 48∧zF t.2.1≠[48] then none
  else if (trimB 45 (zF t.2.1)).all LK=true then atoi (zF t.2.1) else none
 else none
theorem OG:∀(l:Rl) (acc:Nat),l.all LK=true→∃n,decFrom acc l=some n
 | [],acc,_=>⟨acc,rfl⟩
 | b::r,acc,h=>by
  rw [List.all_cons,Bool.and_eq_true] at h;obtain ⟨n,hn⟩:=OG r (acc * 10+(b.toNat - 48)) h.2
  have hd:digitVal b=some (b.toNat - 48):=by
   have h1:=h.1;unfold LK at h1;rw [Bool.and_eq_true,decide_eq_true_eq,decide_eq_true_eq] at h1;unfold digitVal;rw [if_pos ⟨by omega,by omega⟩]
  refine ⟨n, ?_⟩;simp only [decFrom,hd];exact hn
theorem afk {s:Rl} (h1:1≤(trimB 45 s).length) (h2:(trimB 45 s).length≤18) (h3:(trimB 45 s).all LK=true):
  ∃n,atoi s=some n∧(s.length≤18∨(s.length=19∧s.head?=some 45)):=by
 obtain ⟨n,hn⟩:=OG (trimB 45 s) 0 h3
 have hdn:decNat (trimB 45 s)=some n:=by
  unfold decNat
  cases hh:trimB 45 s with
  | nil=>rw [hh] at h1;simp at h1
  | cons c r=>rw [hh] at hn;simp [hn]
 cases s with
 | nil=>simp [trimB] at h1
 | cons c r=>
  unfold trimB at h2 h3 hdn;simp only at h2 h3 hdn;by_cases q:c=45
  ·subst q;simp at h2 h3 hdn;refine ⟨-(n:Int),by simp [atoi,hdn], ?_⟩;simp only [List.length_cons,List.head?_cons];by_cases z:r.length=18
   ·exact .inr ⟨by omega,trivial⟩
   ·exact .inl (by omega)
  ·rw [if_neg q] at h2 h3 hdn
   have q2:c≠43:=by
    intro hc;subst hc;simp [LK] at h3
   refine ⟨n, ?_,.inl h2⟩;have b1:(c == 45)=false:=by simpa using q
   have b2:(c == 43)=false:=by simpa using q2
   simp only [atoi,b1,b2,hdn,Option.map_some,Bool.false_eq_true,if_false]
theorem aeu (w:Rl):(zF w).length=w.length - 2:=by
 unfold zF;rw [List.length_take,List.length_drop];omega
def rem (src:Rl) (r:Rd):Nat:=(src.length - r.at_)+(match r.ah with | []=>0|t::_=>t.2.1.length)
def aG {α:Type} (src:Rl) (r:Rd) (k:Nat) (x:OR α):Prop:=
 match x with
 | .ok _ q=>Wr src q∧rem src q+k≤rem src r∧q.pre=r.pre∧q.iri=r.iri∧q.ax=r.ax
 | .er a c _=>a≤src.length∧c=50
theorem aG.ok {α:Type} {src:Rl} {r q:Rd} {v:α} {k:Nat} {x:OR α} (h:aG src r k x) (e:x=.ok v q):Wr src q∧rem src q+k≤rem src r∧q.pre=r.pre∧q.iri=r.iri∧q.ax=r.ax:=by subst e;exact h
theorem spl {α:Type} {enc:α→AV} {S:Rd→St} {x:OR α} {C:CO} {src:Rl} {r:Rd} {k:Nat} (e:C=uh enc S x) (g:aG src r k x):
  (∃a c q,x=.er a c q∧C=.pan (flt a c) (S q))∨(∃v q,x=.ok v q∧C=.ret (enc v) (S q)∧Wr src q∧rem src q+k≤rem src r∧q.pre=r.pre∧q.iri=r.iri∧q.ax=r.ax):=by
 cases x with
 | er a c q=>exact .inl ⟨a,c,q,rfl,e⟩
 | ok v q=>exact .inr ⟨v,q,rfl,e,g⟩
theorem aG.mk {α:Type} {src:Rl} {r:Rd} {v:α} (h:Wr src r):aG src r 0 (.ok v r):=⟨h,by omega,rfl,rfl,rfl⟩
theorem aG.bind {α β:Type} {src:Rl} {r:Rd} {k j n:Nat} {x:OR α} {f:α→Rd→OR β} (h:aG src r k x)
  (hf:∀v q,x=.ok v q→Wr src q→rem src q+k≤rem src r→aG src q j (f v q)) (hn:n≤k+j):aG src r n (x.bind f):=by
 cases x with
 | er a c q=>exact h
 | ok v q=>
  obtain ⟨h1,h2,h3,h4,h5⟩:=h;have h6:=hf v q rfl h1 h2;rw [OR.bind_ok];generalize f v q=y at *
  cases y with
  | er a c q2=>exact h6
  | ok w q2=>
   obtain ⟨g1,g2,g3,g4,g5⟩:=h6;exact ⟨g1,by omega,g3.trans h3,g4.trans h4,g5.trans h5⟩
theorem gK {src:Rl} {r:Rd} (h:Wr src r):aG src r 0 (iI src r):=by
 cases e:iI src r with
 | er a c q=>
  have h1:=Vw h.at_;unfold iI at e
  split at e
  ·cases e
  ·split at e
   ·split at e
    ·cases e;exact ⟨h1,rfl⟩
    ·cases e
   ·cases e
 | ok t q=>
  obtain ⟨p1,p2,p3,p4,p5⟩:=qH e;refine ⟨(oJ h e).1, ?_,p2,p3,p5⟩;have h1:=Vw h.at_;have h2:=QU (src.drop (skO src r.at_));rw [List.length_drop] at h2;have h3:r.at_≤skO src r.at_:=by unfold skO;omega
  unfold iI at e
  split at e
  ·cases e;omega
  ·rename_i hh
   split at e
   ·split at e
    ·cases e
    ·cases e;unfold rem;rw [hh];simp only [List.length_take,List.length_drop];omega
   ·cases e;unfold rem;rw [hh];simp only [List.length_nil];omega
theorem af4 {src:Rl} {r q:Rd} {t:Tk} (e:iI src r=.ok t q):∃u,q.ah=t::u:=by
 unfold iI at e
 split at e
 ·rename_i u hh;cases e;exact ⟨u,hh⟩
 ·split at e
  ·split at e
   ·cases e
   ·cases e;exact ⟨[],rfl⟩
  ·cases e;exact ⟨[],rfl⟩
theorem PO {src:Rl} {r q:Rd} {t:Tk} (e:iI src r=.ok t q) (h:Wr src q) (ht:1≤t.2.1.length):Wr src (bY q)∧rem src (bY q)+1≤rem src q∧(bY q).pre=q.pre∧(bY q).iri=q.iri∧(bY q).ax=q.ax:=by
 obtain ⟨u,hu⟩:=af4 e;refine ⟨iQ h, ?_,rfl,rfl,rfl⟩;unfold rem bY;rw [hu];simp only;omega
theorem je {src:Rl} {r:Rd} (h:Wr src r) (b:Bool):aG src r 0 (rG src b r):=by
 unfold rG;split
 ·exact .mk h
 ·have h1:=gK h
  cases e:iI src r with
  | er a c q=>rw [e] at h1;exact h1
  | ok t q=>exact ⟨(oJ h e).2.at_,rfl⟩
theorem zk {src:Rl} {r q:Rd} {b:Bool} {v:Unit} (e:rG src b r=.ok v q):b=true∧q=r:=by
 cases b with
 | true=>cases e;exact ⟨rfl,rfl⟩
 | false=>
  obtain ⟨a,c,r2,h⟩:=zl src r;rw [h] at e;cases e
theorem mV {src:Rl} {r:Rd} (h:Wr src r) (w:Rl):aG src r 0 (isR src w r):=
 aG.bind (gK h) (fun _ _ _ h1 _=>aG.mk h1) (by omega)
theorem V6 {src:Rl} {r q:Rd} {w:Rl} {b:Bool} (e:isR src w r=.ok b q):∃t,iI src r=.ok t q∧b=decide (t.2.1=w):=by
 unfold isR at e
 cases hp:iI src r with
 | er a c r1=>rw [hp] at e;cases e
 | ok t r1=>rw [hp] at e;cases e;exact ⟨t,rfl,rfl⟩
theorem aF {src:Rl} {r:Rd} (h:Wr src r) (w:Rl) (hw:1≤w.length):aG src r 1 (lJ src w r):=by
 unfold lJ;refine aG.bind (mV h w) (j:=1) (fun b q e h1 h2=>?_) (by omega);refine aG.bind (je h1 b) (j:=1) (fun v q2 e2 h3 h4=>?_) (by omega);obtain ⟨hb,hq⟩:=zk e2;subst hb;subst hq;obtain ⟨t,e3,e4⟩:=V6 e;obtain ⟨p1,_,_,_,_⟩:=qH e3;have e5:=of_decide_eq_true e4.symm;exact PO p1 h3 (by rw [e5];exact hw)
theorem wB {src:Rl} {r:Rd} (h:Wr src r) (w p:Rl) (hw:1≤w.length):aG src r 1 (LC src w p r):=by
 unfold LC;refine aG.bind (mV h w) (j:=1) (fun b q e h1 h2=>?_) (by omega);refine aG.bind (je h1 _) (j:=1) (fun v q2 e2 h3 h4=>?_) (by omega);obtain ⟨hb,hq⟩:=zk e2;subst hq;rw [Bool.and_eq_true] at hb;obtain ⟨t,e3,e4⟩:=V6 e;obtain ⟨p1,_,_,_,_⟩:=qH e3;have e5:=of_decide_eq_true (e4.symm.trans hb.1);exact PO p1 h3 (by rw [e5];exact hw)
theorem Zj {pre:List Rl} {t:Tk} (h:QL pre t=true):t.1=4:=by
 unfold QL at h
 split at h
 ·simp at h;exact h.1.1.1.1.1
 ·cases h
theorem bC {src:Rl} {r:Rd} (h:Wr src r):aG src r 1 (oh src r):=by
 unfold oh;refine aG.bind (gK h) (j:=1) (fun t q e h1 h2=>?_) (by omega);refine aG.bind (je h1 _) (j:=1) (fun v q2 e2 h3 h4=>?_) (by omega);obtain ⟨hb,hq⟩:=zk e2;subst hq;obtain ⟨p1,_,_,_,_⟩:=qH e;exact PO p1 h3 ((oJ h e).2.one (by have:=Zj hb;omega))
end Go.Ai.Z
namespace Go.Ai.Z
def oq {α:Type} (src:Rl) (f:Rd→OR α) (least:Nat):Nat→List α→Rd→OR (List α)
 | 0,_,r=>.er 0 50 r
 | n+1,l,r=>
  (if l.length<least then .ok false r else isR src [41] r).bind fun b r=>
   if b=true then .ok l r else (f r).bind fun v r=>oq src f least n (l++[v]) r
def Vo (src w:Rl) (k:Int) (r:Rd):OR C:=(LC src w [111,119,108,58] r).bind fun _ r=>.ok (C.mk k [] 0 0 true []) r
def ZY (src:Rl) (f:Rd→OR C) (n:Nat) (r:Rd):OR C:=
 (lJ src [40] (bY r)).bind fun _ r=>(oq src f 2 n [] r).bind fun l r=>(lJ src [41] r).bind fun _ r=>.ok (C.mk 5 [] 0 0 false l) r
def Qj (src:Rl) (f:Rd→OR C) (r:Rd):OR C:=
 (lJ src [40] (bY r)).bind fun _ r=>(oh src r).bind fun s r=>(f r).bind fun c r=>(lJ src [41] r).bind fun _ r=>.ok (C.mk 6 s 0 0 false [c]) r
def Zf (src:Rl) (r:Rd):OR C:=
 (lJ src [40] (bY r)).bind fun _ r=>(oh src r).bind fun s r=>(lJ src [41] r).bind fun _ r=>.ok (C.mk 4 s 0 0 true []) r
def ZG (other w:Rl):Bool:=(decide (w=wA1) || decide (w=wA4)) && !decide (w=other)
def TN (src other:Rl) (lo hi:Int) (r:Rd):OR (Rl×Int×Int):=
 (iI src r).bind fun t r=>(rG src (ZG other t.2.1) r).bind fun _ r=>(LC src t.2.1 [120,115,100,58] r).bind fun _ r=>
  (iI src r).bind fun u r=>(rG src (EU u).isSome r).bind fun _ r=>(lJ src [94,94] (bY r)).bind fun _ r=>(LC src wA0 [120,115,100,58] r).bind fun _ r=>
   .ok (t.2.1,if t.2.1=wA1 then (EU u).getD 0 else lo,if t.2.1=wA1 then hi else (EU u).getD 0) r
def XG:Int:=1099511627776
def adw (src:Rl) (r:Rd):OR (Int×Int):=
 (lJ src [40] (bY r)).bind fun _ r=>(LC src wA0 [120,115,100,58] r).bind fun _ r=>(TN src [] (-XG) XG r).bind fun x r=>
  (isR src [41] r).bind fun b r=>(if b=true then .ok x r else TN src x.1 x.2.1 x.2.2 r).bind fun y r=>(lJ src [41] r).bind fun _ r=>.ok y.2 r
def RS (src:Rl) (r:Rd):OR C:=
 (lJ src [40] (bY r)).bind fun _ r=>(oh src r).bind fun s r=>(isR src wA7 r).bind fun b r=>
  (if b=true then adw src r else (LC src wA0 [120,115,100,58] r).bind fun _ r=>.ok (-XG,XG) r).bind fun x r=>
   (lJ src [41] r).bind fun _ r=>.ok (C.mk 7 s x.1 x.2 true []) r
def yD (src:Rl):Nat→Rd→OR C
 | 0,r=>.er 0 50 r
 | n+1,r=>(iI src r).bind fun t r=>
  if t.2.1=wB4 then Vo src wB4 1 r
  else if t.2.1=wB1 then Vo src wB1 2 r
  else if t.2.1=wA5 then ZY src (yD src n) n r
  else if t.2.1=wA6 then Qj src (yD src n) r
  else if t.2.1=wB6 then Zf src r
  else if t.2.1=wA8 then RS src r
  else (oh src r).bind fun s r=>.ok (C.mk 3 s 0 0 true []) r
def Sn (src:Rl) (r:Rd):Prop:=∃t,iI src r=.ok t r∧1≤t.2.1.length
theorem Sn.pass {src:Rl} {r:Rd} (h:Sn src r) (hw:Wr src r):Wr src (bY r)∧rem src (bY r)+1≤rem src r:=by
 obtain ⟨t,e,h1⟩:=h
 have:=PO e hw h1
 exact ⟨this.1,this.2.1⟩
theorem qM {α:Type} {src:Rl} {r:Rd} {k:Nat} {x:OR α} (h:Sn src r) (hw:Wr src r) (hx:aG src (bY r) k x):aG src r (k+1) x:=by
 have h1:=h.pass hw
 cases x with
 | er a c q=>exact hx
 | ok v q=>
  obtain ⟨g1,g2,g3,g4,g5⟩:=hx;exact ⟨g1,by omega,g3,g4,g5⟩
theorem J9 {src:Rl} {r q:Rd} {t:Tk} (e:iI src r=.ok t q) (h:1≤t.2.1.length):Sn src q:=⟨t,(qH e).1,h⟩
theorem aai {src:Rl} {r q:Rd} {w:Rl} (e:isR src w r=.ok true q) (h:1≤w.length):Sn src q:=by
 obtain ⟨t,e1,e2⟩:=V6 e;exact J9 e1 (by rw [of_decide_eq_true e2.symm];exact h)
theorem xE {α:Type} {src:Rl} {f:Rd→OR α} {least:Nat}:∀(n:Nat) (l:List α) (r:Rd),Wr src r→rem src r<n→(∀q,Wr src q→rem src q≤rem src r→aG src q 1 (f q))→
  aG src r 0 (oq src f least n l r)
 | 0,l,r,_,hn,_=>absurd hn (by omega)
 | n+1,l,r,hr,hn,hf=>by
  unfold oq;refine aG.bind (k:=0) (j:=0) ?_ (fun b q e h1 h2=>?_) (by omega)
  ·split
   ·exact .mk hr
   ·exact mV hr _
  split
  ·exact .mk h1
  refine aG.bind (j:=0) (hf q h1 (by omega)) (fun v q2 e2 h3 h4=>?_) (by omega);exact xE n _ q2 h3 (by omega) fun p hp hp2=>hf p hp (by omega)
theorem X4 {src:Rl} {r:Rd} (h:Wr src r) (w:Rl) (hw:1≤w.length) (k:Int):aG src r 1 (Vo src w k r):=
 aG.bind (wB h w _ hw) (fun _ _ _ h1 _=>aG.mk h1) (by omega)
theorem aeQ {src:Rl} {f:Rd→OR C} {n:Nat} {r:Rd} (h:Wr src r) (hs:Sn src r) (hn:rem src r≤n) (hf:∀q,Wr src q→rem src q<rem src r→aG src q 1 (f q)):aG src r 1 (ZY src f n r):=by
 have h0:=hs.pass h;refine qM (k:=0) hs h ?_;unfold ZY;refine aG.bind (j:=0) (aF h0.1 _ (by simp)) (fun _ q e h1 h2=>?_) (by omega);refine aG.bind (k:=0) (j:=0) (xE n [] q h1 (by omega) fun p hp hp2=>hf p hp (by omega)) (fun l q2 e h3 h4=>?_) (by omega);exact aG.bind (j:=0) (aF h3 _ (by simp)) (fun _ q e h1 h2=>aG.mk h1) (by omega)
theorem abV {src:Rl} {f:Rd→OR C} {r:Rd} (h:Wr src r) (hs:Sn src r) (hf:∀q,Wr src q→rem src q<rem src r→aG src q 1 (f q)):aG src r 1 (Qj src f r):=by
 have h0:=hs.pass h;refine qM (k:=0) hs h ?_;unfold Qj;refine aG.bind (j:=0) (aF h0.1 _ (by simp)) (fun _ q e h1 h2=>?_) (by omega);refine aG.bind (j:=0) (bC h1) (fun s q2 e h3 h4=>?_) (by omega);refine aG.bind (j:=0) (hf q2 h3 (by omega)) (fun c q3 e h5 h6=>?_) (by omega);exact aG.bind (j:=0) (aF h5 _ (by simp)) (fun _ q e h1 h2=>aG.mk h1) (by omega)
theorem aeC {src:Rl} {r:Rd} (h:Wr src r) (hs:Sn src r):aG src r 1 (Zf src r):=by
 have h0:=hs.pass h;refine qM (k:=0) hs h ?_;unfold Zf;refine aG.bind (j:=0) (aF h0.1 _ (by simp)) (fun _ q e h1 h2=>?_) (by omega);refine aG.bind (j:=0) (bC h1) (fun s q2 e h3 h4=>?_) (by omega);exact aG.bind (j:=0) (aF h3 _ (by simp)) (fun _ q e h1 h2=>aG.mk h1) (by omega)
theorem aeX {o w:Rl} (h:ZG o w=true):1≤w.length:=by
 unfold ZG at h;rw [Bool.and_eq_true,Bool.or_eq_true,decide_eq_true_eq,decide_eq_true_eq] at h
 rcases h.1 with h|h<;>rw [h]<;>simp
theorem aer {src:Rl} {t:Tk} (ht:afw src t) (h:(EU t).isSome=true):1≤t.2.1.length:=by
 have h3:t.1=3:=by
  unfold EU at h
  split at h
  ·assumption
  ·cases h
 exact ht.one (by omega)
theorem Lc {src:Rl} {r:Rd} (h:Wr src r) (o:Rl) (lo hi:Int):aG src r 1 (TN src o lo hi r):=by
 unfold TN;refine aG.bind (k:=0) (j:=1) (gK h) (fun t q e h1 h2=>?_) (by omega);refine aG.bind (k:=0) (j:=1) (je h1 _) (fun _ q2 e2 h3 h4=>?_) (by omega);obtain ⟨hb,hq⟩:=zk e2;subst hq;refine aG.bind (k:=1) (j:=0) (wB h3 _ _ (aeX hb)) (fun _ q3 e3 h5 h6=>?_) (by omega);refine aG.bind (k:=0) (j:=0) (gK h5) (fun u q4 e4 h7 h8=>?_) (by omega);refine aG.bind (k:=0) (j:=0) (je h7 _) (fun _ q5 e5 h9 h10=>?_) (by omega);obtain ⟨hb2,hq2⟩:=zk e5;subst hq2;have hsn:=J9 e4 (aer (oJ h5 e4).2 hb2);have hp:=hsn.pass h9
 have key:aG src q5 (0+1) ((lJ src [94,94] (bY q5)).bind fun _ r=>(LC src wA0 [120,115,100,58] r).bind fun _ r=>
   .ok (t.2.1,if t.2.1=wA1 then (EU u).getD 0 else lo,if t.2.1=wA1 then hi else (EU u).getD 0) r):=by
  refine qM hsn h9 ?_;refine aG.bind (k:=1) (j:=0) (aF hp.1 _ (by simp)) (fun _ q6 e6 h11 h12=>?_) (by omega);exact aG.bind (k:=1) (j:=0) (wB h11 _ _ (by simp)) (fun _ q e h1 h2=>aG.mk h1) (by omega)
 generalize (lJ src [94,94] (bY q5)).bind _=y at key ⊢
 cases y with
 | er a c q=>exact key
 | ok v q=>obtain ⟨g1,g2,g3⟩:=key;exact ⟨g1,by omega,g3⟩
theorem aG.wk {α:Type} {src:Rl} {r:Rd} {k j:Nat} {x:OR α} (h:aG src r k x) (hk:j≤k):aG src r j x:=by
 cases x with
 | er a c q=>exact h
 | ok v q=>obtain ⟨g1,g2,g3⟩:=h;exact ⟨g1,by omega,g3⟩
theorem aeB {src:Rl} {r:Rd} (h:Wr src r) (hs:Sn src r):aG src r 1 (adw src r):=by
 have h0:=hs.pass h;refine qM (k:=0) hs h ?_;unfold adw;refine aG.bind (k:=1) (j:=0) (aF h0.1 _ (by simp)) (fun _ q e h1 h2=>?_) (by omega);refine aG.bind (k:=1) (j:=0) (wB h1 _ _ (by simp)) (fun _ q2 e2 h3 h4=>?_) (by omega);refine aG.bind (k:=1) (j:=0) (Lc h3 _ _ _) (fun x q3 e3 h5 h6=>?_) (by omega);refine aG.bind (k:=0) (j:=0) (mV h5 _) (fun b q4 e4 h7 h8=>?_) (by omega);refine aG.bind (k:=0) (j:=0) ?_ (fun y q5 e5 h9 h10=>?_) (by omega)
 ·split
  ·exact .mk h7
  ·exact (Lc h7 _ _ _).wk (by omega)
 exact aG.bind (k:=1) (j:=0) (aF h9 _ (by simp)) (fun _ q e h1 h2=>aG.mk h1) (by omega)
theorem ach {src:Rl} {r:Rd} (h:Wr src r) (hs:Sn src r):aG src r 1 (RS src r):=by
 have h0:=hs.pass h;refine qM (k:=0) hs h ?_;unfold RS;refine aG.bind (k:=1) (j:=0) (aF h0.1 _ (by simp)) (fun _ q e h1 h2=>?_) (by omega);refine aG.bind (k:=1) (j:=0) (bC h1) (fun s q2 e2 h3 h4=>?_) (by omega);refine aG.bind (k:=0) (j:=0) (mV h3 _) (fun b q3 e3 h5 h6=>?_) (by omega);refine aG.bind (k:=0) (j:=0) ?_ (fun y q5 e5 h9 h10=>?_) (by omega)
 ·split
  ·rename_i hb;subst hb;exact (aeB h5 (aai e3 (by simp))).wk (by omega)
  ·exact aG.bind (k:=1) (j:=0) (wB h5 _ _ (by simp)) (fun _ q e h1 h2=>aG.mk h1) (by omega)
 exact aG.bind (k:=1) (j:=0) (aF h9 _ (by simp)) (fun _ q e h1 h2=>aG.mk h1) (by omega)
theorem mJ {src:Rl}:∀(n:Nat) (r:Rd),Wr src r→rem src r<n→aG src r 1 (yD src n r)
 | 0,r,_,hn=>absurd hn (by omega)
 | n+1,r,hr,hn=>by
  unfold yD;refine aG.bind (k:=0) (j:=1) (gK hr) (fun t q e h1 h2=>?_) (by omega);have hsn:∀w:Rl,1≤w.length→t.2.1=w→Sn src q:=fun w hw ht=>J9 e (by rw [ht];exact hw);have hf:∀p,Wr src p→rem src p<rem src q→aG src p 1 (yD src n p):=fun p hp hp2=>mJ n p hp (by omega);split
  ·exact X4 h1 _ (by simp) _
  split
  ·exact X4 h1 _ (by simp) _
  split
  ·rename_i ht;exact aeQ h1 (hsn _ (by simp) ht) (by omega) hf
  split
  ·rename_i ht;exact abV h1 (hsn _ (by simp) ht) hf
  split
  ·rename_i ht;exact aeC h1 (hsn _ (by simp) ht)
  split
  ·rename_i ht;exact ach h1 (hsn _ (by simp) ht)
  ·exact aG.bind (k:=1) (j:=0) (bC h1) (fun _ q e h1 h2=>aG.mk h1) (by omega)
end Go.Ai.Z
namespace Go.Ai.Z
open Go.Lib (atoi)
theorem PY (b:UInt8):LK b=true ↔ 48≤(b.toNat:Int)∧(b.toNat:Int)≤57:=by
 unfold LK;rw [Bool.and_eq_true,decide_eq_true_eq,decide_eq_true_eq]
theorem UN (d w:Rl) (hd:d.length≤100000) (s:St) (cx:Ctx):∀(rest:Rl) (i:Nat),d.drop i=rest→i≤d.length→
  gU (aC P0.glob (aj P0) cx false mP) [4,39,40,41] [(4,.v (.s w)),(39,.v (.sl (au d))),(40,.v (.i .i64 d.length)),(41,.v (.i .i64 i))] s=
   if rest.all LK=true then .exit 0 [(4,.v (.s w)),(39,.v (.sl (au d))),(40,.v (.i .i64 d.length)),(41,.v (.i .i64 d.length)),(42,.v (.b false))] s
   else .ret [(2,.v (.i .i64 0)),(3,.v (.b false))] s
 | [],i,h,hi=>by
  have h1:¬i<d.length:=Nat.not_lt.2 (drop_nil h);have h2:i=d.length:=by omega
  subst h2;refine ak fun K hK=>?_;simp -implicitDefEqProofs [mP]
 | b::r,i,h,hi=>by
  obtain ⟨h1,h2,h3,h4⟩:=drop_cons h;have hb:i<(au d).length:=by rw [jg];exact h3
  have hg:=AB d i hb h1;have hg':(au d)[i]?=some (.i .u8 b.toNat):=by rw [List.getElem?_eq_getElem hb,hg]
  have hwi:=wI (i:=i) (by omega);have h3i:(i:Int)<(d.length:Int):=by omega
  rw [List.all_cons];cases q:LK b
  ·refine ak fun K hK=>?_;clear hK h4;have q2:¬(48≤(b.toNat:Int)∧(b.toNat:Int)≤57):=fun hh=>by rw [(PY b).2 hh] at q;cases q
   by_cases q3:(b.toNat:Int)<48
   ·simp -implicitDefEqProofs [mP,h3i,hg',hg,hb,q3]
   ·have q4:57<(b.toNat:Int):=by omega
    simp -implicitDefEqProofs [mP,h3i,hg',hg,hb,q3,q4]
  ·obtain ⟨q2,q3⟩:=(PY b).1 q;have q4:¬(b.toNat:Int)<48:=by omega
   have q5:¬57<(b.toNat:Int):=by omega
   have ih:=UN d w hd s cx r (i+1) h2 (by omega);refine ak fun K hK=>?_;rw [←hK,show ((i+1:Nat):Int)=(i:Int)+1 from rfl] at ih;clear hK h4;rw [Bool.true_and,←ih];clear ih;simp -implicitDefEqProofs [mP,h3i,hg',hg,hb,q4,q5,hwi]
theorem WY (b:UInt8) (w:Rl):(trimB b w).length≤w.length:=by
 unfold trimB
 cases w with
 | nil=>simp
 | cons c r=>simp only;split<;>simp
theorem acP (t:Tk) (h2:t.1=3→2≤t.2.1.length) (hl:t.2.1.length≤100000) (s:St) (cx:Ctx):
  aj P0 (.fn (.func wH) [] []) [fD t] s cx=.ret (.tu [.i .i64 ((EU t).getD 0),.b (EU t).isSome]) s:=by
 obtain ⟨k,w,a⟩:=t;refine Ry (by simp) ?_;unfold EU fD;simp only at h2 hl ⊢;by_cases q:k=3
 ·rw [if_pos q];have h3:=h2 q;have hil:=aeu w;have htl:=WY 45 (zF w);have w1:IntKind.i64.wrap ((w.length:Int) - 1)=(w.length:Int) - 1:=w64 (by omega) (by omega);have e1:=LW (zF w) 45;have h4:(1:Int)≤(w.length:Int):=by omega
  have h5:((w.length:Int) - 1).toNat=w.length - 1:=by omega
  have h6:w.tail.take (w.length - 1 - 1)=zF w:=by unfold zF;rw [Nat.sub_sub,List.drop_one]
  have h7:1≤w.length - 1:=by omega
  have hloop:=fun s cx=>UN (trimB 45 (zF w)) (zF w) (by omega) s cx (trimB 45 (zF w)) 0 rfl (by omega);rw [show ((0:Nat):Int)=0 from rfl] at hloop;have ha:=afk (s:=zF w);generalize hd:trimB 45 (zF w)=d at *;generalize zF w=x at *;by_cases q1:d.length<1
  ·rw [if_pos (.inl q1)];have q1i:(d.length:Int)<1:=by omega
   simp -implicitDefEqProofs [af,iL,q,dR,splice,w1,h4,h5,h6,h7,e1,q1i]
  by_cases q2:18<d.length
  ·rw [if_pos (.inr q2)];have q1i:¬(d.length:Int)<1:=by omega
   have q2i:18<(d.length:Int):=by omega
   simp -implicitDefEqProofs [af,iL,q,dR,splice,w1,h4,h5,h6,h7,e1,q1i,q2i]
  rw [if_neg (by omega)];have q1i:¬(d.length:Int)<1:=by omega
  have q2i:¬18<(d.length:Int):=by omega
  have q2j:(18:Int)<(d.length:Int) ↔ False:=iff_false_intro q2i
  obtain ⟨c,r,hdc⟩:∃c r,d=c::r:=by
   cases d with
   | nil=>simp at q1
   | cons c r=>exact ⟨c,r,rfl⟩
  have key:∀z:Bool,decide (c=48∧x≠[48])=z→z=true→af P0.glob (aj P0) iL ([]++[.ag [.i .i64 k,.s w,.i .i64 a]]++[]) s cx=.ret (.tu [.i .i64 0,.b false]) s:=by
   intro z hz hz2;rw [hz2,decide_eq_true_eq] at hz;obtain ⟨hc,hx⟩:=hz;subst hc;have hdl:(d.length:Int)=(r.length:Int)+1:=by rw [hdc];simp
   rw [hdl] at q1i q2i;subst hdc;have q3:¬(r.length:Int)+1<1:=by omega
   have q4:¬18<(r.length:Int)+1:=by omega
   simp -implicitDefEqProofs [af,iL,q,dR,splice,w1,h4,h5,h6,h7,e1,q3,q4,hx]
  by_cases q5:d.head?=some 48∧x≠[48]
  ·rw [if_pos q5];exact key true (by rw [decide_eq_true_eq];rw [hdc] at q5;simpa using q5) rfl
  rw [if_neg q5];have q6:¬(c=48∧x≠[48]):=by rw [hdc] at q5;simpa using q5
  clear key q5;have hcc:(c.toNat:Int)=48 ↔ c=48:=⟨fun hh=>UInt8.toNat_inj.1 (by have:(48:UInt8).toNat=48:=rfl;omega),fun hh=>by subst hh;rfl⟩;have hs2b:(au d).length=d.length:=jg d;have hl0:=hloop s ⟨s.length,s.length⟩;have hdl:(d.length:Int)=(r.length:Int)+1:=by rw [hdc];simp
  have hall:d.all LK=true→∃n,atoi x=some n∧(x.length≤18∨(x.length=19∧x.head?=some 45)):=ha (by omega) (by omega)
  have hat:∀n,atoi x=some n→(x.length≤18∨(x.length=19∧x.head?=some 45))→∀(s:St) (cx:Ctx),aj P0 (.fn (.func Bz) [] []) [.s x] s cx=.ret (.tu [.i .i64 n,.ni]) s:=fun n hn hx s cx=>
   sK (h:=Iu X3) rfl (by simp only [Iu,X3,List.nil_append,List.append_nil];rw [if_pos hx,hn];rfl)
  have q3:¬(r.length:Int)+1<1:=by omega
  have q4:¬18<(r.length:Int)+1:=by omega
  by_cases q8:d.all LK=true
  ·rw [if_pos q8] at hl0 ⊢;obtain ⟨n,hn,hx⟩:=hall q8;have e2:=hat n hn hx;rw [hn];by_cases q7:c=48
   ·have hx48:x=[48]:=Classical.not_not.1 fun hh=>q6 ⟨q7,hh⟩;subst q7;clear hall ha hloop hat;subst hx48;rw [hdc] at hl0 e1 hdl hs2b;simp at hl0 hs2b;simp -implicitDefEqProofs [af,iL,q,dR,splice,w1,h4,h5,h6,h7,e1,q3,q4,hl0,e2,hs2b,TB]
   ·have q7i:¬(c.toNat:Int)=48:=fun hh=>q7 (hcc.1 hh);clear hall ha hloop hat;rw [hdc] at hl0 e1 hdl hs2b;simp at hl0 hs2b;simp -implicitDefEqProofs [af,iL,q,dR,splice,w1,h4,h5,h6,h7,e1,q3,q4,hl0,e2,q7,q7i,hs2b,TB]
  ·rw [if_neg q8] at hl0 ⊢;by_cases q7:c=48
   ·have hx48:x=[48]:=Classical.not_not.1 fun hh=>q6 ⟨q7,hh⟩;subst q7;clear hall ha hloop hat;subst hx48;rw [hdc] at hl0 e1 hdl hs2b;simp at hl0 hs2b;simp -implicitDefEqProofs [af,iL,q,dR,splice,w1,h4,h5,h6,h7,e1,q3,q4,hl0,hs2b]
   ·have q7i:¬(c.toNat:Int)=48:=fun hh=>q7 (hcc.1 hh);clear hall ha hloop hat;rw [hdc] at hl0 e1 hdl hs2b;simp at hl0 hs2b;simp -implicitDefEqProofs [af,iL,q,dR,splice,w1,h4,h5,h6,h7,e1,q3,q4,hl0,q7,q7i,hs2b]
 ·rw [if_neg q];simp -implicitDefEqProofs [af,iL,q,dR,splice]
end Go.Ai.Z
namespace Go.Ai.Z
@[simp] theorem ahk (t:Tk):(fD t).plain=fD t:=by simp [fD]
abbrev NG (nm:Rl) (lo hi:Int):fQ:=.cells [.i .i64 7,.s nm,.i .i64 lo,.i .i64 hi,.ns]
def ag9 (S:Rd→St) (nm:Rl) (lo hi:Int) (x:OR (Rl×Int×Int)):CO:=
 match x with
 | .ok v r=>.ret (.s v.1) (S r++[NG nm v.2.1 v.2.2])
 | .er a c r=>.pan (flt a c) (S r++[NG nm lo hi])
@[simp] theorem aa4 (S:Rd→St) (nm:Rl) (lo hi:Int) (v:Rl×Int×Int) (r:Rd):ag9 S nm lo hi (.ok v r)=.ret (.s v.1) (S r++[NG nm v.2.1 v.2.2]):=rfl
@[simp] theorem aa5 (S:Rd→St) (nm:Rl) (lo hi:Int) (a:Nat) (c:Int) (r:Rd):ag9 S nm lo hi (.er a c r)=.pan (flt a c) (S r++[NG nm lo hi]):=rfl
theorem ag8 (S:Rd→St) (nm:Rl) (lo hi:Int) (x:OR (Rl×Int×Int)):ag9 S nm lo hi x≠.fail:=by cases x<;>simp
section
variable {src:Rl} {S:Rd→St} {m N:Nat} (hE:yE src S m N)
include hE
theorem aaU (nm other:Rl) (lo hi:Int) (r:Rd) (ha:Wr src r) (cx:Ctx) (hl:cx.lim≤m):
  aj P0 (.fn (.func lY) [] []) [.pt (m+1) 0,.pt N 0,.s other] (S r++[NG nm lo hi]) cx=ag9 S nm lo hi (TN src other lo hi r):=by
 refine Ic (ag8 _ _ _ _ _) ?_;have hN:=hE.n;have hS:=hE.src;have hlt:=hE.lt;have hE1:=hE.app [NG nm lo hi];have e1:=oN hE1 r ha.at_ ⟨cx.lim,N+1⟩ hl;have hl2:cx.lim≤N:=by omega
 unfold TN
 cases hp:iI src r with
 | er a c r1=>
  rw [hp] at e1;simp only [dA] at e1;simp -implicitDefEqProofs [af,dh,hN,e1]
 | ok t r1=>
  rw [hp] at e1;obtain ⟨w1,w2⟩:=oJ ha hp;obtain ⟨k,w,a⟩:=t;simp only [dD,fD] at e1;simp only [OR.bind_ok];cases qb:ZG other w
  ·have e2:=qc hE1 false r1 w1 ⟨cx.lim,N+1⟩ hl;obtain ⟨a2,c2,r2,hx⟩:=zl src r1;rw [hx] at e2 ⊢;simp only [dA] at e2;unfold ZG at qb;by_cases q1:w=wA1
   ·rw [q1] at e1 qb;simp at qb;rw [←qb];simp -implicitDefEqProofs [af,dh,hN,e1,e2]
   ·by_cases q2:w=wA4
    ·rw [q2] at e1 qb;simp at qb;rw [←qb];simp -implicitDefEqProofs [af,dh,hN,e1,e2]
    ·simp -implicitDefEqProofs [af,dh,hN,e1,e2,q1,q2]
  ·have e2:=qc hE1 true r1 w1 ⟨cx.lim,N+1⟩ hl;rw [pF] at e2 ⊢;simp only [dD] at e2;simp only [OR.bind_ok]
   have hw:(w=wA1∨w=wA4)∧¬w=other:=by
    unfold ZG at qb
    simpa using qb
   obtain ⟨hw,hwo⟩:=hw;have e3:=Hf hE1 w [120,115,100,58] r1 w1 ⟨cx.lim,N+1⟩ hl
   have g3:=wB w1 w [120,115,100,58] (by rcases hw with hw|hw<;>rw [hw]<;>simp)
   cases h3:LC src w [120,115,100,58] r1 with
   | er a c r2=>
    rw [h3] at e3;simp only [dA] at e3
    rcases hw with hw|hw<;>rw [hw] at e1 e3 hwo<;>simp -implicitDefEqProofs [af,dh,hN,e1,e2,e3,hwo]
   | ok v3 r3=>
    rw [h3] at e3;have w3:=(g3.ok h3).1;simp only [dD] at e3;simp only [OR.bind_ok];have e4:=oN hE1 r3 w3.at_ ⟨cx.lim,N+1⟩ hl
    cases h4:iI src r3 with
    | er a c r4=>
     rw [h4] at e4;simp only [dA] at e4
     rcases hw with hw|hw<;>rw [hw] at e1 e3 hwo<;>simp -implicitDefEqProofs [af,dh,hN,e1,e2,e3,e4,hwo]
    | ok u r4=>
     rw [h4] at e4;obtain ⟨w4,k4⟩:=oJ w3 h4;simp only [dD] at e4;simp only [OR.bind_ok];have e5:=acP u (fun hk=>k4.two (.inr hk)) (by have:=k4.len;omega);have e6:=qc hE1 (EU u).isSome r4 w4 ⟨cx.lim,N+1⟩ hl;have g6:=je w4 (EU u).isSome;generalize (EU u).getD 0=n at *
     cases h6:rG src (EU u).isSome r4 with
     | er a c r5=>
      rw [h6] at e6;simp only [dA] at e6;generalize (EU u).isSome=b at *
      rcases hw with hw|hw<;>rw [hw] at e1 e3 hwo<;>simp -implicitDefEqProofs [af,dh,hN,e1,e2,e3,e4,e5,e6,hwo]
     | ok v5 r5=>
      rw [h6] at e6;have w5:=(g6.ok h6).1;simp only [dD] at e6;simp only [OR.bind_ok];have e7:=lG hE1 r5 ⟨cx.lim,N+1⟩ hl;have w7:=iQ w5;have e8:=iE hE1 [94,94] (bY r5) w7 ⟨cx.lim,N+1⟩ hl;have g8:=aF w7 [94,94] (by simp);generalize (EU u).isSome=b at *
      cases h8:lJ src [94,94] (bY r5) with
      | er a c r8=>
       rw [h8] at e8;simp only [dA] at e8
       rcases hw with hw|hw<;>rw [hw] at e1 e3 hwo<;>simp -implicitDefEqProofs [af,dh,hN,e1,e2,e3,e4,e5,e6,e7,e8,hwo]
      | ok v8 r8=>
       rw [h8] at e8;have w8:=(g8.ok h8).1;simp only [dD] at e8;simp only [OR.bind_ok];have e9:=Hf hE1 wA0 [120,115,100,58] r8 w8 ⟨cx.lim,N+1⟩ hl
       cases h9:LC src wA0 [120,115,100,58] r8 with
       | er a c r9=>
        rw [h9] at e9;simp only [dA] at e9
        rcases hw with hw|hw<;>rw [hw] at e1 e3 hwo<;>simp -implicitDefEqProofs [af,dh,hN,e1,e2,e3,e4,e5,e6,e7,e8,e9,hwo]
       | ok v9 r9=>
        rw [h9] at e9;simp only [dD] at e9;have hg:=hE.gN r9 (NG nm lo hi) [];have hs:=fun y=>hE.sN r9 (NG nm lo hi) y [];unfold NG at *
        rcases hw with hw|hw<;>rw [hw] at e1 e3 hwo ⊢<;>simp -implicitDefEqProofs [af,dh,hN,e1,e2,e3,e4,e5,e6,e7,e8,e9,hwo,hg,hs,hl2,NG]
end
end Go.Ai.Z
namespace Go.Ai.Z
def zC:C:=C.mk 0 [] 0 0 true []
def axC (k:Int) (l r:C):Ax:=⟨k,false,l,r,true,[],[],[],[]⟩
def qI (src:Rl):Nat→Rd→OR Unit
 | 0,r=>.er 0 50 r
 | n+1,r=>(isR src wB9 r).bind fun b r=>
  if b=true then
   (lJ src [40] (bY r)).bind fun _ r=>(oh src r).bind fun s r=>(iI src r).bind fun t r=>(rG src (decide (t.1=3)) r).bind fun _ r=>(lJ src [41] (bY r)).bind fun _ r=>
    qI src n { r with op:=r.op || (decide (s=[111,112,101,110]) && decide (t.2.1=wD3)) }
  else .ok () r
def EM (w:Rl):Bool:=decide (w=[67,108,97,115,115]) || decide (w=wC7) || decide (w=wD1) || decide (w=wC4)
def U7 (src:Rl) (r:Rd):OR (List Ax):=
 (iI src r).bind fun t r=>(rG src (EM t.2.1) r).bind fun _ r=>(lJ src [40] (bY r)).bind fun _ r=>(oh src r).bind fun _ r=>(lJ src [41] r).bind fun _ r=>.ok [] r
def abd (src:Rl) (n:Nat) (r:Rd):OR (List Ax):=
 (qI src n r).bind fun _ r=>(yD src n r).bind fun a r=>(yD src n r).bind fun b r=>.ok [axC 1 a b] r
def JR:List C→List Ax
 | []=>[]
 | [_]=>[]
 | a::b::r=>axC 2 a b::JR (b::r)
def Ig:List C→List Ax→List Ax
 | [],x=>x
 | a::r,x=>if 1024<x.length then x else Ig r (x++r.map (axC 3 a))
def acz (src:Rl) (n:Nat) (r:Rd):OR (List Ax):=(qI src n r).bind fun _ r=>(oq src (yD src n) 2 n [] r).bind fun l r=>.ok (JR l) r
def acC (src:Rl) (n:Nat) (r:Rd):OR (List Ax):=(qI src n r).bind fun _ r=>(oq src (yD src n) 2 n [] r).bind fun l r=>.ok (Ig l []) r
def acA (src:Rl) (n:Nat) (r:Rd):OR (List Ax):=
 (qI src n r).bind fun _ r=>(oh src r).bind fun s r=>(yD src n r).bind fun c r=>.ok [⟨4,false,zC,c,true,[],s,[],[]⟩] r
def Y3 (src:Rl) (n:Nat) (r:Rd):OR (List Ax):=
 (qI src n r).bind fun _ r=>(isR src wA2 r).bind fun b r=>
  if b=true then (lJ src [40] (bY r)).bind fun _ r=>(oq src (oh src) 2 n [] r).bind fun l r=>(lJ src [41] r).bind fun _ r=>(oh src r).bind fun s r=>.ok [⟨6,false,zC,zC,false,l,s,[],[]⟩] r
  else (oh src r).bind fun a r=>(oh src r).bind fun s r=>.ok [⟨5,false,zC,zC,false,[a],s,[],[]⟩] r
def abu (src:Rl) (n:Nat) (r:Rd):OR (List Ax):=(qI src n r).bind fun _ r=>(oh src r).bind fun s r=>.ok [⟨7,false,zC,zC,true,[],s,[],[]⟩] r
def aa9 (src:Rl) (n:Nat) (r:Rd):OR (List Ax):=(qI src n r).bind fun _ r=>(yD src n r).bind fun c r=>(oh src r).bind fun a r=>.ok [⟨8,false,zC,c,true,[],[],a,[]⟩] r
def abL (src:Rl) (n:Nat) (r:Rd):OR (List Ax):=
 (qI src n r).bind fun _ r=>(oh src r).bind fun s r=>(oh src r).bind fun a r=>(oh src r).bind fun b r=>.ok [⟨9,false,zC,zC,true,[],s,a,b⟩] r
def aen (w:Rl):Bool:=decide (w=wC9) || decide (w=wC2) || decide (w=wB3) || decide (w=wB5) || decide (w=wB2) || decide (w=wA3) || decide (w=wA9) || decide (w=wB7) || decide (w=wB0)
def ET (src:Rl) (n:Nat) (w:Rl) (r:Rd):OR (List Ax):=
 if w=wC9 then U7 src r
 else if w=wC2 then abd src n r
 else if w=wB3 then acz src n r
 else if w=wB5 then acC src n r
 else if w=wB2 then acA src n r
 else if w=wA3 then Y3 src n r
 else if w=wA9 then abu src n r
 else if w=wB7 then aa9 src n r
 else abL src n r
def axV (N:Nat) (l:List Ax):AV:=match l with | []=>.ns|x::r=>.st N ((x::r).map cu)
def BL (N a0:Nat):List Ax→List Ax→Rd→OR (List Ax)
 | [],l,r=>.ok l r
 | x::xs,l,r=>if iT { x with op:=r.op }=0 then BL N a0 xs (l++[{ x with op:=r.op }]) { r with ax:=axV N (l++[{ x with op:=r.op }]) } else .er a0 (iT { x with op:=r.op }) r
def FZ (src:Rl) (n N:Nat) (l:List Ax) (r:Rd):OR (List Ax):=
 (iI src r).bind fun t r=>(rG src (aen t.2.1) r).bind fun _ r=>(lJ src [40] (bY r)).bind fun _ r=>(ET src n t.2.1 { r with op:=false }).bind fun xs r=>
  (lJ src [41] r).bind fun _ r=>(BL N t.2.2 xs l r).bind fun l r=>if 1024<l.length then .er t.2.2 2 r else .ok l r
def O1 (pre:List Rl) (t:Tk):Bool:=
 decide (t.1=4) && decide (Go.Lib.indexByte t.2.1 58=(t.2.1.length:Int) - 1) && (decide (t.2.1=[58]) || (match t.2.1 with | []=>false|c::_=>ltI c.toNat)) && !decide (t.2.1∈pre)
def Af (w:Rl) (u:Tk):Bool:=
 decide (u.1=2) && (!decide (w=[111,119,108,58]) || decide (u.2.1=wC1)) && (!decide (w=[120,115,100,58]) || decide (u.2.1=wB8))
def Ob (src:Rl) (r:Rd):OR Unit:=
 (lJ src wC0 r).bind fun _ r=>(lJ src [40] r).bind fun _ r=>(iI src r).bind fun t r=>(rG src (O1 r.pre t) r).bind fun _ r=>(lJ src [61] (bY r)).bind fun _ r=>
  (iI src r).bind fun u r=>(rG src (Af t.2.1 u) r).bind fun _ r=>(lJ src [41] (bY r)).bind fun _ r=>
   .ok () { r with pre:=qR r.pre t.2.1,iri:=if t.2.1=[58] then zF u.2.1 else r.iri }
def EJ (src:Rl):Nat→Rd→OR Unit
 | 0,r=>.er 0 50 r
 | n+1,r=>(isR src wC0 r).bind fun b r=>if b=true then (Ob src r).bind fun _ r=>EJ src n r else .ok () r
def F5 (src:Rl):Nat→Rd→OR Unit
 | 0,r=>.ok () r
 | k+1,r=>(iI src r).bind fun t r=>if t.1=2 then F5 src k (bY r) else .ok () r
def IB (src:Rl) (n N:Nat):Nat→List Ax→Rd→OR (List Ax)
 | 0,_,r=>.er 0 50 r
 | k+1,l,r=>(isR src [41] r).bind fun b r=>if b=true then .ok l r else (FZ src n N l r).bind fun l r=>IB src n N k l r
def Wv (src:Rl) (n N:Nat) (r:Rd):OR (List Ax):=
 (EJ src n r).bind fun _ r=>(isR src wC3 r).bind fun b r=>(rG src (b && decide ([58]∈r.pre)) r).bind fun _ r=>(lJ src [40] (bY r)).bind fun _ r=>
  (F5 src 2 r).bind fun _ r=>(IB src n N n [] r).bind fun l r=>(iI src (bY r)).bind fun t r=>(rG src (decide (t.1=5)) r).bind fun _ r=>.ok l r
end Go.Ai.Z
namespace Go.Ai.Z
theorem yU (k:Int) (n:Rl) (l h:Int):AV.ag [.i .i64 k,.s n,.i .i64 l,.i .i64 h,.ns]=aJ (.mk k n l h true []):=by
 rw [yg];rfl
@[simp] theorem akN (S:St) (n:Nat) (c:C):frz S n (aJ c)=some (aJ c):=by simp [frz]
theorem UX (k:Int) (n:Rl) (l h:Int) (c:C) (ps:List C):AV.ag [.i .i64 k,.s n,.i .i64 l,.i .i64 h,.sl (aJ c::ps.map aJ)]=aJ (.mk k n l h false (c::ps)):=by
 rw [yg (.mk k n l h false (c::ps))];rfl
section
variable {src:Rl} {S:Rd→St} {m N:Nat} (hE:yE src S m N)
include hE
theorem ala (r:Rd) (ha:Wr src r) (cx:Ctx) (hl:cx.lim≤m):
  aj P0 (.fn (.func kN) [] []) [.pt (m+1) 0] (S r) cx=uh aJ S (Vo src wB4 1 r):=by
 refine Ll (jS _ _ _) ?_;have hN:=hE.n;unfold Vo;obtain ⟨a,c,q,hx,e1⟩|⟨v1,r1,h1,e1,g1⟩:=spl (Hf hE wB4 [111,119,108,58] r ha ⟨cx.lim,N⟩ hl) (wB ha wB4 [111,119,108,58] (by simp))
 ·rw [hx];simp -implicitDefEqProofs [af,pq,hN,e1]
 rw [h1];simp only [OR.bind_ok];have w1:=g1.1;simp -implicitDefEqProofs [af,pq,hN,e1,dR,splice,yU]
theorem aff (r:Rd) (ha:Wr src r) (cx:Ctx) (hl:cx.lim≤m):
  aj P0 (.fn (.func iW) [] []) [.pt (m+1) 0] (S r) cx=uh aJ S (Vo src wB1 2 r):=by
 refine Gm (jS _ _ _) ?_;have hN:=hE.n;unfold Vo;obtain ⟨a,c,q,hx,e1⟩|⟨v1,r1,h1,e1,g1⟩:=spl (Hf hE wB1 [111,119,108,58] r ha ⟨cx.lim,N⟩ hl) (wB ha wB1 [111,119,108,58] (by simp))
 ·rw [hx];simp -implicitDefEqProofs [af,mG,hN,e1]
 rw [h1];simp only [OR.bind_ok];have w1:=g1.1;simp -implicitDefEqProofs [af,mG,hN,e1,dR,splice,yU]
theorem acO (r:Rd) (ha:Wr src r) (cx:Ctx) (hl:cx.lim≤m):
  aj P0 (.fn (.func iq) [] []) [.pt (m+1) 0] (S r) cx=uh aJ S (Zf src r):=by
 refine EY (jS _ _ _) ?_;have hN:=hE.n;unfold Zf;have e1:=lG hE r ⟨cx.lim,N⟩ hl;have w1:=iQ ha;obtain ⟨a,c,q,hx,e2⟩|⟨v2,r2,h2,e2,g2⟩:=spl (iE hE [40] (bY r) w1 ⟨cx.lim,N⟩ hl) (aF w1 [40] (by simp))
 ·rw [hx];simp -implicitDefEqProofs [af,iY,hN,e1,e2]
 rw [h2];simp only [OR.bind_ok];have w2:=g2.1;obtain ⟨a,c,q,hx,e3⟩|⟨s,r3,h3,e3,g3⟩:=spl (qQ hE r2 w2 ⟨cx.lim,N⟩ hl) (bC w2)
 ·rw [hx];simp -implicitDefEqProofs [af,iY,hN,e1,e2,e3]
 rw [h3];simp only [OR.bind_ok];have w3:=g3.1;obtain ⟨a,c,q,hx,e4⟩|⟨v4,r4,h4,e4,g4⟩:=spl (iE hE [41] r3 w3 ⟨cx.lim,N⟩ hl) (aF w3 [41] (by simp))
 ·rw [hx];simp -implicitDefEqProofs [af,iY,hN,e1,e2,e3,e4]
 rw [h4];simp only [OR.bind_ok];have w4:=g4.1;simp -implicitDefEqProofs [af,iY,hN,e1,e2,e3,e4,dR,splice,yU]
theorem aiB (r:Rd) (ha:Wr src r) (cx:Ctx) (hl:cx.lim≤m):
  aj P0 (.fn (.func jQ) [] []) [.pt (m+1) 0] (S r) cx=uh aJ S (RS src r):=by
 refine JJ (jS _ _ _) ?_;have hN:=hE.n;have hlt:=hE.lt;have hl2:cx.lim≤N:=by omega
 unfold RS adw XG;have e1:=lG hE r ⟨cx.lim,N⟩ hl;have w1:=iQ ha;obtain ⟨a,c,q,hx,e2⟩|⟨v2,r2,h2,e2,g2⟩:=spl (iE hE [40] (bY r) w1 ⟨cx.lim,N⟩ hl) (aF w1 [40] (by simp))
 ·rw [hx];simp -implicitDefEqProofs [af,aT,hN,hl2,hE.gN,hE.sN,hE.tk,dR,splice,e1,e2]
 rw [h2];simp only [OR.bind_ok];have w2:=g2.1;obtain ⟨a,c,q,hx,e3⟩|⟨s,r3,h3,e3,g3⟩:=spl (qQ hE r2 w2 ⟨cx.lim,N⟩ hl) (bC w2)
 ·rw [hx];simp -implicitDefEqProofs [af,aT,hN,hl2,hE.gN,hE.sN,hE.tk,dR,splice,e1,e2,e3]
 rw [h3];simp only [OR.bind_ok];have w3:=g3.1;have hB:=hE.app [NG s (-1099511627776) 1099511627776];obtain ⟨a,c,q,hx,e4⟩|⟨b,r4,h4,e4,g4⟩:=spl (JX hB wA7 r3 w3 ⟨cx.lim,N⟩ hl) (mV w3 wA7)
 ·rw [hx];simp -implicitDefEqProofs [af,aT,hN,hl2,hE.gN,hE.sN,hE.tk,dR,splice,e1,e2,e3,e4]
 rw [h4];simp only [OR.bind_ok];have w4:=g4.1
 cases b with
 | false=>
  simp only [Bool.false_eq_true,if_false,OR.bind_ok,if_neg];obtain ⟨a,c,q,hx,e5⟩|⟨v5,r5,h5,e5,g5⟩:=spl (Hf hB wA0 [120,115,100,58] r4 w4 ⟨cx.lim,N⟩ hl) (wB w4 wA0 [120,115,100,58] (by simp))
  ·rw [hx];simp -implicitDefEqProofs [af,aT,hN,hl2,hE.gN,hE.sN,hE.tk,dR,splice,e1,e2,e3,e4,e5]
  rw [h5];simp only [OR.bind_ok];have w5:=g5.1;obtain ⟨a,c,q,hx,e6⟩|⟨v6,r6,h6,e6,g6⟩:=spl (iE hB [41] r5 w5 ⟨cx.lim,N⟩ hl) (aF w5 [41] (by simp))
  ·rw [hx];simp -implicitDefEqProofs [af,aT,hN,hl2,hE.gN,hE.sN,hE.tk,dR,splice,e1,e2,e3,e4,e5,e6]
  rw [h6];simp only [OR.bind_ok];have w6:=g6.1;simp -implicitDefEqProofs [af,aT,hN,hl2,hE.gN,hE.sN,hE.tk,dR,splice,e1,e2,e3,e4,e5,e6,yU]
 | true=>
  simp only [if_true,OR.bind_ok];have e7:=lG hB r4 ⟨cx.lim,N⟩ hl;have w7:=iQ w4;obtain ⟨a,c,q,hx,e8⟩|⟨v8,r8,h8,e8,g8⟩:=spl (iE hB [40] (bY r4) w7 ⟨cx.lim,N⟩ hl) (aF w7 [40] (by simp))
  ·rw [hx];simp -implicitDefEqProofs [af,aT,hN,hl2,hE.gN,hE.sN,hE.tk,dR,splice,e1,e2,e3,e4,e7,e8]
  rw [h8];simp only [OR.bind_ok];have w8:=g8.1;obtain ⟨a,c,q,hx,e9⟩|⟨v9,r9,h9,e9,g9⟩:=spl (Hf hB wA0 [120,115,100,58] r8 w8 ⟨cx.lim,N⟩ hl) (wB w8 wA0 [120,115,100,58] (by simp))
  ·rw [hx];simp -implicitDefEqProofs [af,aT,hN,hl2,hE.gN,hE.sN,hE.tk,dR,splice,e1,e2,e3,e4,e7,e8,e9]
  rw [h9];simp only [OR.bind_ok];have w9:=g9.1;have e10:=aaU hE s [] (-1099511627776) (1099511627776) r9 w9 ⟨cx.lim,N⟩ hl;have g10:=Lc w9 [] (-1099511627776) (1099511627776)
  cases h10:TN src [] (-1099511627776) (1099511627776) r9 with
  | er a10 c10 r10=>
   rw [h10] at e10;simp only [aa5] at e10;simp -implicitDefEqProofs [af,aT,hN,hl2,hE.gN,hE.sN,hE.tk,dR,splice,e1,e2,e3,e4,e7,e8,e9,e10]
  | ok x r10=>
   rw [h10] at e10;have w10:=(g10.ok h10).1;simp only [aa4] at e10;simp only [OR.bind_ok];have hB2:=hE.app [NG s x.2.1 x.2.2];obtain ⟨a,c,q,hx,e11⟩|⟨b2,r11,h11,e11,g11⟩:=spl (JX hB2 [41] r10 w10 ⟨cx.lim,N⟩ hl) (mV w10 [41])
   ·rw [hx];simp -implicitDefEqProofs [af,aT,hN,hl2,hE.gN,hE.sN,hE.tk,dR,splice,e1,e2,e3,e4,e7,e8,e9,e10,e11]
   rw [h11];simp only [OR.bind_ok];have w11:=g11.1
   cases b2 with
   | false=>
    simp only [Bool.false_eq_true,if_false,OR.bind_ok,if_neg];have e12:=aaU hE s x.1 (x.2.1) (x.2.2) r11 w11 ⟨cx.lim,N⟩ hl;have g12:=Lc w11 x.1 x.2.1 x.2.2
    cases h12:TN src x.1 (x.2.1) (x.2.2) r11 with
    | er a12 c12 r12=>
     rw [h12] at e12;simp only [aa5] at e12;simp -implicitDefEqProofs [af,aT,hN,hl2,hE.gN,hE.sN,hE.tk,dR,splice,e1,e2,e3,e4,e7,e8,e9,e10,e11,e12]
    | ok y r12=>
     rw [h12] at e12;have w12:=(g12.ok h12).1;simp only [aa4] at e12;simp only [OR.bind_ok];have hB3:=hE.app [NG s y.2.1 y.2.2];obtain ⟨a,c,q,hx,e13⟩|⟨v13,r13,h13,e13,g13⟩:=spl (iE hB3 [41] r12 w12 ⟨cx.lim,N⟩ hl) (aF w12 [41] (by simp))
     ·rw [hx];simp -implicitDefEqProofs [af,aT,hN,hl2,hE.gN,hE.sN,hE.tk,dR,splice,e1,e2,e3,e4,e7,e8,e9,e10,e11,e12,e13]
     rw [h13];simp only [OR.bind_ok];have w13:=g13.1;obtain ⟨a,c,q,hx,e14⟩|⟨v14,r14,h14,e14,g14⟩:=spl (iE hB3 [41] r13 w13 ⟨cx.lim,N⟩ hl) (aF w13 [41] (by simp))
     ·rw [hx];simp -implicitDefEqProofs [af,aT,hN,hl2,hE.gN,hE.sN,hE.tk,dR,splice,e1,e2,e3,e4,e7,e8,e9,e10,e11,e12,e13,e14]
     rw [h14];simp only [OR.bind_ok];have w14:=g14.1;simp -implicitDefEqProofs [af,aT,hN,hl2,hE.gN,hE.sN,hE.tk,dR,splice,e1,e2,e3,e4,e7,e8,e9,e10,e11,e12,e13,e14,yU]
   | true=>
    simp only [if_true,OR.bind_ok];obtain ⟨a,c,q,hx,e15⟩|⟨v15,r15,h15,e15,g15⟩:=spl (iE hB2 [41] r11 w11 ⟨cx.lim,N⟩ hl) (aF w11 [41] (by simp))
    ·rw [hx];simp -implicitDefEqProofs [af,aT,hN,hl2,hE.gN,hE.sN,hE.tk,dR,splice,e1,e2,e3,e4,e7,e8,e9,e10,e11,e15]
    rw [h15];simp only [OR.bind_ok];have w15:=g15.1;obtain ⟨a,c,q,hx,e16⟩|⟨v16,r16,h16,e16,g16⟩:=spl (iE hB2 [41] r15 w15 ⟨cx.lim,N⟩ hl) (aF w15 [41] (by simp))
    ·rw [hx];simp -implicitDefEqProofs [af,aT,hN,hl2,hE.gN,hE.sN,hE.tk,dR,splice,e1,e2,e3,e4,e7,e8,e9,e10,e11,e15,e16]
    rw [h16];simp only [OR.bind_ok];have w16:=g16.1;simp -implicitDefEqProofs [af,aT,hN,hl2,hE.gN,hE.sN,hE.tk,dR,splice,e1,e2,e3,e4,e7,e8,e9,e10,e11,e15,e16,yU]
end
end Go.Ai.Z
