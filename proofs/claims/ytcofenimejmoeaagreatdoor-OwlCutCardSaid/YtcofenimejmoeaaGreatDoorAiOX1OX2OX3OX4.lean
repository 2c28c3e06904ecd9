/-
 The reader of ontology documents: how it measures tokens.
-/
import Derived.Test.YtcofenimejmoeaaGreatDoorAiOW1OW2OW3OW4OW5
import Derived.Test.YtcofenimejmoeaaGreatDoorAiRchR1R2R3R4R5
import Derived.Test.YtcofenimejmoeaaGreatDoorAiK1K2K3K4K5K6K7
set_option maxRecDepth 100000
set_option linter.unusedSimpArgs false
set_option linter.unusedVariables false
set_option linter.unusedSectionVars false
namespace Go.Ai.Z
def ltI (k:Int):Bool:=decide (97≤k) && decide (k≤122) || decide (65≤k) && decide (k≤90)
def wdI (k:Int):Bool:=ltI k || decide (48≤k) && decide (k≤57) || decide (k=95) || decide (k=58)
def stI (k:Int):Bool:=decide (32≤k) && decide (k≤126) && decide (k≠34)
def Dq (b:UInt8):Bool:=YE b.toNat
def QY (b:UInt8):Bool:=stI b.toNat
def zF (b:UInt8):Bool:=wdI b.toNat
def En (b:UInt8):Bool:=decide ((b.toNat:Int)≠10)
theorem Ub (b:UInt8) (s:St) (cx:Ctx):aj P0 (.fn (.func rG) [] []) [.i .u8 b.toNat] s cx=.ret (.b (stI b.toNat)) s:=by
 refine Qj (by simp) ?_;unfold stI;by_cases q1:32≤(b.toNat:Int)
 ·by_cases q2:(b.toNat:Int)≤126
  ·by_cases q5:(b.toNat:Int)=34
   ·simp -implicitDefEqProofs [af,nC,q1,q2,q5]
   ·simp -implicitDefEqProofs [af,nC,q1,q2,q5]
  ·simp -implicitDefEqProofs [af,nC,q1,q2]
 ·simp -implicitDefEqProofs [af,nC,q1]
theorem vC (k:Int) (s:St) (cx:Ctx):aj P0 (.fn (.func rF) [] []) [.i .u8 k] s cx=.ret (.b (ltI k)) s:=by
 refine Qi (by simp) ?_;unfold ltI
 by_cases q1:97≤k<;>by_cases q2:k≤122<;>by_cases q3:65≤k<;>by_cases q4:k≤90 <;>
  simp -implicitDefEqProofs [af,wX,q1,q2,q3,q4]
theorem Xv (b:UInt8) (s:St) (cx:Ctx):aj P0 (.fn (.func vX) [] []) [.i .u8 b.toNat] s cx=.ret (.b (wdI b.toNat)) s:=by
 refine UJ (by simp) ?_;have e1:=vC b.toNat;unfold wdI;cases h0:ltI b.toNat
 ·rw [h0] at e1;by_cases q1:48≤(b.toNat:Int)
  ·by_cases q2:(b.toNat:Int)≤57
   ·simp -implicitDefEqProofs [af,jZ,e1,q1,q2]
   ·by_cases q3:(b.toNat:Int)=95
    ·rw [q3] at e1;simp -implicitDefEqProofs [af,jZ,e1,q1,q2,q3]
    ·by_cases q4:(b.toNat:Int)=58
     ·rw [q4] at e1;simp -implicitDefEqProofs [af,jZ,e1,q1,q2,q3,q4]
     ·simp -implicitDefEqProofs [af,jZ,e1,q1,q2,q3,q4]
  ·by_cases q3:(b.toNat:Int)=95
   ·rw [q3] at e1;simp -implicitDefEqProofs [af,jZ,e1,q1,q3]
   ·by_cases q4:(b.toNat:Int)=58
    ·rw [q4] at e1;simp -implicitDefEqProofs [af,jZ,e1,q1,q3,q4]
    ·simp -implicitDefEqProofs [af,jZ,e1,q1,q3,q4]
 ·rw [h0] at e1;simp -implicitDefEqProofs [af,jZ,e1]
theorem Zk (b:UInt8) (s:St) (cx:Ctx):aj P0 (.fn (.func lG) [] []) [.i .u8 b.toNat] s cx=.ret (.b (En b)) s:=by
 refine GY (by simp) ?_;unfold En
 by_cases q:(b.toNat:Int)=10<;>simp -implicitDefEqProofs [af,pW,q]
def kW (p:UInt8→Bool) (l:Rl):Nat:=(l.takeWhile p).length
theorem Qr (p:UInt8→Bool) (l:Rl):kW p l≤l.length:=(List.takeWhile_sublist _).length_le
def agx (F:Nat) (p:UInt8→Bool):Prop:=∀(b:UInt8) (s:St) (cx:Ctx),aj P0 (.fn (.func F) [] []) [.i .u8 b.toNat] s cx=.ret (.b (p b)) s
theorem Es (l:Rl) (i:Nat) (h:i<(aC l).length) {b:UInt8} (hb:l[i]?=some b):(aC l)[i]=.i .u8 b.toNat:=by
 have hl:i<l.length:=by rw [kM] at h;exact h
 rw [List.getElem?_eq_getElem hl,Option.some_inj] at hb;simp [aC,hb]
theorem Ue (l:Rl) (n:Nat):(aC l).drop n=aC (l.drop n):=by simp [aC,List.map_drop]
theorem KF (l:Rl) (n:Nat):(aC l).take n=aC (l.take n):=by simp [aC,List.map_take]
theorem CU {l:Rl}:(∀z∈aC l,z.cells.length=1)=True:=eq_true (by
 intro z hz;unfold aC at hz;obtain ⟨b,_,rfl⟩:=List.mem_map.1 hz
 rfl)
theorem SS (F:Nat) (p:UInt8→Bool) (hF:agx F p) (l:Rl) (hl:l.length≤1000000) (s:St) (cx:Ctx):∀(A:Rl) (i:Nat),l.drop i=A→i≤l.length→
  gY (aB P0.glob (aj P0) cx false ve) [0,1,4] [(0,.v (.sl (aC l))),(1,.v (.fn (.func F) [] [])),(4,.v (.i .i64 i))] s=
   .exit 0 [(0,.v (.sl (aC l))),(1,.v (.fn (.func F) [] [])),(4,.v (.i .i64 ((i+kW p A:Nat):Int))),(16,.v (.b false))] s
 | [],i,h,hi=>by
  have h1:¬i<l.length:=Nat.not_lt.2 (drop_nil h);have hb:¬i<(aC l).length:=by rw [kM];exact h1
  refine ak fun K hK=>?_;simp -implicitDefEqProofs [ve,hb,kW]
 | b::r,i,h,hi=>by
  obtain ⟨h1,h2,h3,h4⟩:=drop_cons h;have hb:i<(aC l).length:=by rw [kM];exact h3
  have hg:=Es l i hb h1;have x:=wI (i:=i) (by omega);have e1:=hF b;cases q:p b
  ·rw [q] at e1;refine ak fun K hK=>?_;clear hK h4;have hs:kW p (b::r)=0:=by simp [kW,q]
   rw [hs];simp -implicitDefEqProofs [ve,hb,hg,e1]
  ·rw [q] at e1;have ih:=SS F p hF l hl s cx r (i+1) h2 (by omega);refine ak fun K hK=>?_;rw [←hK,show ((i+1:Nat):Int)=(i:Int)+1 from rfl] at ih;clear hK h4;have hs:i+kW p (b::r)=i+1+kW p r:=by simp [kW,q];omega
   rw [hs,←ih];clear ih;simp -implicitDefEqProofs [ve,hb,hg,e1,x]
theorem KD (F:Nat) (p:UInt8→Bool) (hF:agx F p) (l:Rl) (hl:l.length≤1000000) (s:St) (cx:Ctx):
  aj P0 (.fn (.func xH) [] []) [.sl (aC l),.fn (.func F) [] []] s cx=.ret (.i .i64 (kW p l)) s:=by
 have h:=SS F p hF l hl s ⟨cx.lim,s.length⟩ l 0 rfl (by omega);rw [show ((0:Nat):Int)=0 from rfl,Nat.zero_add] at h;refine YN (by simp) ?_;simp -implicitDefEqProofs [af,CG,h]
def G9 (p:UInt8→Bool) (e:UInt8) (l:Rl):Nat:=if l[1+kW p l.tail]?=some e then 2+kW p l.tail else 0
theorem Hu (F:Nat) (p:UInt8→Bool) (hF:agx F p) (e c:UInt8) (r:Rl) (hl:r.length≤100000) (s:St) (cx:Ctx):
  aj P0 (.fn (.func rH) [] []) [.sl (aC (c::r)),.fn (.func F) [] [],.i .u8 e.toNat] s cx=.ret (.i .i64 (G9 p e (c::r))) s:=by
 have e1:=KD F p hF r (by omega);have h1:=Qr p r;refine Qk (by simp) ?_;unfold G9;rw [List.tail_cons];have hg:(c::r)[1+kW p r]?=r[kW p r]?:=by rw [Nat.add_comm];rfl
 rw [hg];have w1:IntKind.i64.wrap (1+(kW p r:Int))=1+kW p r:=w64 (by omega) (by omega);have w2:IntKind.i64.wrap (1+(kW p r:Int)+1)=1+kW p r+1:=w64 (by omega) (by omega);have hn:(aC (c::r)).length=r.length+1:=by rw [kM];rfl
 have hd:(aC (c::r)).drop 1=aC r:=rfl;have J:=CU (l:=c::r);have A:(aC r).take r.length=aC r:=List.take_of_length_le (by rw [kM];omega);by_cases q:r[kW p r]?=some e
 ·have h2:kW p r<r.length:=(List.getElem?_eq_some_iff.1 q).1;have hb:1+kW p r<(aC (c::r)).length:=by rw [hn];omega
  have K:(aC (c::r))[1+kW p r]?=some (.i .u8 e.toNat):=by rw [List.getElem?_eq_getElem hb,Es (c::r) (1+kW p r) hb (by rw [hg];exact q)]
  have h0:(0:Int)≤1+(kW p r:Int):=by omega
  have x:¬(1+(kW p r:Int))=(r.length:Int)+1:=by omega
  have I:(1+(kW p r:Int)).toNat=1+kW p r:=by omega
  rw [if_pos q];have O:((2+kW p r:Nat):Int)=1+(kW p r:Int)+1:=by omega
  rw [O];generalize hB:aC (c::r)=B at *;generalize aC r=B2 at *;simp -implicitDefEqProofs [af,o9,J,A,e1,w1,w2,hn,hd,x,I,h0,K]
 ·rw [if_neg q];generalize hB:aC (c::r)=B at *;generalize aC r=B2 at *;by_cases h2:kW p r=r.length
  ·have x:(1+(r.length:Int))=(r.length:Int)+1:=by omega
   rw [h2] at e1;have w1:IntKind.i64.wrap ((r.length:Int)+1)=(r.length:Int)+1:=w64 (by omega) (by omega);simp -implicitDefEqProofs [af,o9,J,A,e1,w1,hn,hd,x]
  ·have h3:kW p r<r.length:=by omega
   have hb:1+kW p r<B.length:=by rw [hn];omega
   have h0:(0:Int)≤1+(kW p r:Int):=by omega
   have K:B[1+kW p r]?=some (.i .u8 (r[kW p r].toNat:Int)):=by
    subst hB;rw [List.getElem?_eq_getElem hb,Es (c::r) (1+kW p r) hb (by rw [hg];exact List.getElem?_eq_getElem h3)]
   have x:¬(1+(kW p r:Int))=(r.length:Int)+1:=by omega
   have I:(1+(kW p r:Int)).toNat=1+kW p r:=by omega
   have hv:¬((r[kW p r].toNat:Int)=(e.toNat:Int)):=fun h=>q (by
    rw [List.getElem?_eq_getElem h3]
    congr 1
    exact UInt8.toNat_inj.1 (by omega))
   simp -implicitDefEqProofs [af,o9,J,A,e1,w1,hn,hd,x,I,h0,K,hv]
end Go.Ai.Z
namespace Go.Ai.Z
def jG:Rl→Int×Nat
 | []=>(4,0)
 | c::r=>
  if (c.toNat:Int)=40∨(c.toNat:Int)=41∨(c.toNat:Int)=61 then (1,1)
  else if (c.toNat:Int)=94 then (1,if r.head?=some 94 then 2 else 0)
  else if (c.toNat:Int)=60 then (2,G9 Dq 62 (c::r))
  else if (c.toNat:Int)=34 then (3,G9 QY 34 (c::r))
  else (4,kW zF (c::r))
theorem UW (c:UInt8) (r:Rl) (hl:r.length≤100000) (s:St) (cx:Ctx):
  aj P0 (.fn (.func wP) [] []) [.sl (aC (c::r))] s cx=.ret (.tu [.i .i64 (jG (c::r)).1,.i .i64 (jG (c::r)).2]) s:=by
 have e1:=Hu vH Dq (fun b s cx=>PI b s cx) 62 c r hl;have e2:=Hu rG QY (fun b s cx=>Ub b s cx) 34 c r hl;have e3:=KD vX zF (fun b s cx=>Xv b s cx) (c::r) (by simp;omega);refine Ti (by simp) ?_;unfold jG;rw [show ((62:UInt8).toNat:Int)=62 from rfl] at e1;rw [show ((34:UInt8).toNat:Int)=34 from rfl] at e2;have hb:aC (c::r)=.i .u8 c.toNat::aC r:=rfl;rw [hb] at e1 e2 e3 ⊢;by_cases q1:(c.toNat:Int)=40
 ·simp -implicitDefEqProofs [af,iO,q1]
 by_cases q2:(c.toNat:Int)=41
 ·simp -implicitDefEqProofs [af,iO,q2]
 by_cases q3:(c.toNat:Int)=61
 ·simp -implicitDefEqProofs [af,iO,q3]
 by_cases q4:(c.toNat:Int)=94
 ·cases r with
  | nil=>
   simp -implicitDefEqProofs [af,iO,q4,aC]
  | cons d r=>
   have x:aC (d::r)=.i .u8 d.toNat::aC r:=rfl;have p:(1:Int)<(aC r).length+1+1:=by omega
   by_cases q:d=94
   ·subst q;simp -implicitDefEqProofs [af,iO,q4,x,p]
   ·have q':¬((d.toNat:Int)=94):=fun h=>q (UInt8.toNat_inj.1 (by have:(94:UInt8).toNat=94:=rfl;omega));simp -implicitDefEqProofs [af,iO,q4,x,p,q,q']
 by_cases q5:(c.toNat:Int)=60
 ·rw [q5] at e1;simp -implicitDefEqProofs [af,iO,q5,e1]
 by_cases q6:(c.toNat:Int)=34
 ·rw [q6] at e2;simp -implicitDefEqProofs [af,iO,q6,e2]
 ·simp -implicitDefEqProofs [af,iO,q1,q2,q3,q4,q5,q6,e3]
abbrev Tk:=Int×Rl×Nat
def fF (t:Tk):AV:=.ag [.i .i64 t.1,.s t.2.1,.i .i64 t.2.2]
structure Rd where
 at_:Nat
 ah:List Tk
 pre:List Rl
 iri:Rl
 op:Bool
 ax:AV
def ahV (l:List Tk):AV:=slf true (l.map fF)
def rO (src:Rl) (m:Nat) (r:Rd):gq:=.cells [.sl (aC src),.i .i64 r.at_,ahV r.ah,.mp m,.s r.iri,.b r.op,r.ax,.mp (m+2),.mp (m+3)]
def rdF (m:Nat) (f:Nat):AV:=.fn (.func f) [.pt (m+1) 0] []
def YB (m:Nat):List (AV×AV):=[
 (.s wC9,rdF m gV),
 (.s wC3,rdF m lY),
 (.s wB3,rdF m iq),
 (.s wB6,rdF m ja),
 (.s wB2,rdF m jL),
 (.s wA4,rdF m lC),
 (.s wA9,rdF m iJ),
 (.s wB9,rdF m jK),
 (.s wB0,rdF m lD)]
def Y8 (m:Nat):List (AV×AV):=[
 (.s wB4,rdF m kQ),
 (.s wB1,rdF m iY),
 (.s wA6,rdF m kR),
 (.s wA7,rdF m jR),
 (.s wB8,rdF m iE),
 (.s wA8,rdF m jS)]
structure yO (src:Rl) (S:Rd→St) (m N:Nat):Prop where
 cell:∀r,(S r)[m+1]?=some (rO src m r)
 sets:∀r q:Rd,q.pre=r.pre→(S r).set (m+1) (rO src m q)=S q
 pm:∀r,(S r)[m]?=some (.map (qI r.pre))
 setp:∀(r:Rd) P,(S r).set m (.map (qI P))=S { r with pre:=P }
 im:∀r,(S r)[m+2]?=some (.map (YB m))
 cm:∀r,(S r)[m+3]?=some (.map (Y8 m))
 n:∀r,(S r).length=N
 src:src.length≤70000
theorem yO.lt {src:Rl} {S:Rd→St} {m N:Nat} (h:yO src S m N):m+3<N:=by
 have:=(List.getElem?_eq_some_iff.1 (h.cm ⟨0,[],[],[],false,.ns⟩)).1
 rw [h.n] at this;exact this
theorem yO.app {src:Rl} {S:Rd→St} {m N:Nat} (h:yO src S m N) (X:St):yO src (fun r=>S r++X) m (N+X.length):=by
 have hl:=h.lt;refine ⟨fun r=>?_,fun r q hq=>?_,fun r=>?_,fun r P=>?_,fun r=>?_,fun r=>?_,fun r=>by simp [h.n],h.src⟩
 ·rw [List.getElem?_append_left (by rw [h.n];omega)];exact h.cell r
 ·rw [List.set_append_left _ _ (by rw [h.n];omega),h.sets r q hq]
 ·rw [List.getElem?_append_left (by rw [h.n];omega)];exact h.pm r
 ·rw [List.set_append_left _ _ (by rw [h.n];omega),h.setp]
 ·rw [List.getElem?_append_left (by rw [h.n];omega)];exact h.im r
 ·rw [List.getElem?_append_left (by rw [h.n];omega)];exact h.cm r
section
variable {src:Rl} {S:Rd→St} {m N:Nat} (h:yO src S m N)
include h
theorem yO.g1 (r:Rd) (X:St):(S r++X)[m+1]?=some (.cells [.sl (aC src),.i .i64 r.at_,ahV r.ah,.mp m,.s r.iri,.b r.op,r.ax,.mp (m+2),.mp (m+3)]):=(h.app X).cell r
theorem yO.s1 (r q:Rd) (X:St) (hq:q.pre=r.pre):(S r++X).set (m+1) (.cells [.sl (aC src),.i .i64 q.at_,ahV q.ah,.mp m,.s q.iri,.b q.op,q.ax,.mp (m+2),.mp (m+3)])=S q++X:=(h.app X).sets r q hq
theorem yO.gN (r:Rd) (x:gq) (X:St):(S r++x::X)[N]?=some x:=by
 rw [List.getElem?_append_right (by rw [h.n];omega),h.n];simp
theorem yO.sN (r:Rd) (x y:gq) (X:St):(S r++x::X).set N y=S r++y::X:=by
 rw [List.set_append_right _ _ (by rw [h.n];omega),h.n];simp
theorem yO.gN1 (r:Rd) (x y:gq) (X:St):(S r++x::y::X)[N+1]?=some y:=by
 rw [List.getElem?_append_right (by rw [h.n];omega),h.n,Nat.add_sub_cancel_left];simp
theorem yO.sN1 (r:Rd) (x y z:gq) (X:St):(S r++x::y::X).set (N+1) z=S r++x::z::X:=by
 rw [List.set_append_right _ _ (by rw [h.n];omega),h.n,Nat.add_sub_cancel_left];simp
theorem yO.tk (r:Rd) (X:St):(S r++X).take N=S r:=by
 rw [List.take_append_of_le_length (by rw [h.n];omega),List.take_of_length_le (by rw [h.n];omega)]
end
def skN:Nat→Rl→Nat
 | 0,_=>0
 | _+1,[]=>0
 | n+1,c::r=>
  if (c.toNat:Int)=9∨(c.toNat:Int)=10∨(c.toNat:Int)=13∨(c.toNat:Int)=32 then 1+skN n r
  else if (c.toNat:Int)=35 then kW En (c::r)+skN n ((c::r).drop (kW En (c::r))) else 0
theorem ZM:∀(n:Nat) (l:Rl),skN n l≤l.length
 | 0,l=>by simp [skN]
 | n+1,[]=>by simp [skN]
 | n+1,c::r=>by
  have h1:=ZM n r;have h2:=ZM n ((c::r).drop (kW En (c::r)));have h3:=Qr En (c::r);rw [List.length_drop] at h2;unfold skN;split
  ·simp only [List.length_cons];omega
  ·split
   ·omega
   ·omega
def skO (src:Rl) (a:Nat):Nat:=a+skN src.length (src.drop a)
theorem Ws {src:Rl} {a:Nat} (h:a≤src.length):skO src a≤src.length:=by
 have:=ZM src.length (src.drop a)
 rw [List.length_drop] at this;unfold skO;omega
section
variable {src:Rl} {S:Rd→St} {m N:Nat} (hE:yO src S m N)
include hE
theorem l_skip (cx:Ctx) (hl:cx.lim≤m):∀(n:Nat) (r:Rd),r.at_≤src.length→src.length - r.at_≤n→
  (∃E:Env,gY (aB P0.glob (aj P0) cx false dO) [0] [(0,.v (.pt (m+1) 0))] (S r)=.exit 0 E (S { r with at_:=r.at_+skN n (src.drop r.at_) }))∨
  (∃E,gY (aB P0.glob (aj P0) cx false dO) [0] [(0,.v (.pt (m+1) 0))] (S r)=.ret E (S { r with at_:=r.at_+skN n (src.drop r.at_) }))
 | 0,r,ha,hn=>by
  have h0:r.at_=src.length:=by omega
  have hc:=hE.cell r;unfold rO at hc;have p:=kM src;refine .inl ⟨[(0,.v (.pt (m+1) 0)),(11,.v (.b false))],ak fun K hK=>?_⟩;rw [show { r with at_:=r.at_+skN 0 (src.drop r.at_) }=r from by simp [skN]];simp -implicitDefEqProofs [dO,hc,p,h0]
 | n+1,r,ha,hn=>by
  have hc:=hE.cell r;have hS:=hE.src;have Y:=hE.lt;unfold rO at hc;have p:=kM src;have P:=CU (l:=src)
  cases hd:src.drop r.at_ with
  | nil=>
   have h0:r.at_=src.length:=by have:=List.drop_eq_nil_iff.1 hd;omega
   refine .inl ⟨[(0,.v (.pt (m+1) 0)),(11,.v (.b false))],ak fun K hK=>?_⟩;rw [show { r with at_:=r.at_+skN (n+1) [] }=r from by simp [skN]];simp -implicitDefEqProofs [dO,hc,p,h0]
  | cons c q=>
   have h1:src[r.at_]?=some c:=by rw [←List.head?_drop,hd];rfl
   have h3:r.at_<src.length:=(List.getElem?_eq_some_iff.1 h1).1;have A:(r.at_:Int)<(src.length:Int):=by omega
   have hb:r.at_<(aC src).length:=by rw [p];exact h3
   have hg:=Es src r.at_ hb h1;have I:(aC src)[r.at_]?=some (.i .u8 c.toNat):=by rw [List.getElem?_eq_getElem hb,hg]
   have hq:src.drop (r.at_+1)=q:=by rw [←List.drop_drop,hd];rfl
   have x:cx.lim≤m+1:=by omega
   by_cases q1:(c.toNat:Int)=9∨(c.toNat:Int)=10∨(c.toNat:Int)=13∨(c.toNat:Int)=32
   ·have hk:skN (n+1) (c::q)=1+skN n q:=by rw [skN,if_pos q1]
    have hw:=wI (i:=r.at_) (by omega);have hs:=hE.sets r { r with at_:=r.at_+1 } rfl;unfold rO at hs;rw [show (((r.at_+1:Nat)):Int)=(r.at_:Int)+1 from rfl] at hs;have ih:=l_skip cx hl n { r with at_:=r.at_+1 } (by simp only;omega) (by simp only;omega);simp only [hq] at ih;rw [hk,show r.at_+(1+skN n q)=r.at_+1+skN n q by omega]
    have key:∀K:Env→St→Out,(aB P0.glob (aj P0) cx false dO [(0,.v (.pt (m+1) 0))] (S r)).thn K=K [(0,.v (.pt (m+1) 0))] (S { r with at_:=r.at_+1 }):=by
     intro K
     rcases q1 with q1|q1|q1|q1 <;>
      simp -implicitDefEqProofs [dO,hc,p,A,hb,I,hg,hw,x,q1,hs]
    rcases ih with ⟨E,ih⟩|⟨E,ih⟩
    ·refine .inl ⟨E,ak fun K hK=>?_⟩;rw [←hK] at ih;rw [←ih];exact key K
    ·refine .inr ⟨E,ak fun K hK=>?_⟩;rw [←hK] at ih;rw [←ih];exact key K
   ·by_cases q2:(c.toNat:Int)=35
    ·have hk:skN (n+1) (c::q)=kW En (c::q)+skN n ((c::q).drop (kW En (c::q))):=by rw [skN,if_neg q1,if_pos q2]
     have Z:1≤kW En (c::q):=by
      have:En c=true:=by unfold En;rw [q2];rfl
      simp [kW,this]
     have a0:=Qr En (c::q);have W:(c::q).length=src.length - r.at_:=by rw [←hd,List.length_drop]
     have e1:=KD lG En (fun b s cx=>Zk b s cx) (c::q) (by omega);have Q:(aC src).drop r.at_=aC (c::q):=by rw [Ue,hd]
     have R:(aC (c::q)).take (src.length - r.at_)=aC (c::q):=List.take_of_length_le (by rw [kM];omega);rw [hk];have J:(c::q).drop (kW En (c::q))=src.drop (r.at_+kW En (c::q)):=by rw [←List.drop_drop,hd]
     rw [J];generalize kW En (c::q)=k at *;have hw:IntKind.i64.wrap ((r.at_:Int)+k)=(r.at_:Int)+k:=w64 (by omega) (by omega);have hs:=hE.sets r { r with at_:=r.at_+k } rfl;unfold rO at hs;rw [show (((r.at_+k:Nat)):Int)=(r.at_:Int)+k by omega] at hs;have ih:=l_skip cx hl n { r with at_:=r.at_+k } (by simp only;omega) (by simp only;omega);simp only at ih;rw [show r.at_+(k+skN n (src.drop (r.at_+k)))=r.at_+k+skN n (src.drop (r.at_+k)) by omega];have O:r.at_≤src.length:=ha
     have key:∀K:Env→St→Out,(aB P0.glob (aj P0) cx false dO [(0,.v (.pt (m+1) 0))] (S r)).thn K=K [(0,.v (.pt (m+1) 0))] (S { r with at_:=r.at_+k }):=by
      intro K;simp -implicitDefEqProofs [dO,hc,p,A,hb,I,hg,hw,x,q2,P,Q,R,e1,O,hs]
     rcases ih with ⟨E,ih⟩|⟨E,ih⟩
     ·refine .inl ⟨E,ak fun K hK=>?_⟩;rw [←hK] at ih;rw [←ih];exact key K
     ·refine .inr ⟨E,ak fun K hK=>?_⟩;rw [←hK] at ih;rw [←ih];exact key K
    ·refine .inr ⟨[(0,.v (.pt (m+1) 0)),(34,.v (.b false))],ak fun K hK=>?_⟩;have hk:skN (n+1) (c::q)=0:=by rw [skN,if_neg q1,if_neg q2]
     rw [hk];obtain ⟨p1,p2,p3,p4⟩:¬(c.toNat:Int)=9∧¬(c.toNat:Int)=10∧¬(c.toNat:Int)=13∧¬(c.toNat:Int)=32:=⟨fun h=>q1 (.inl h),fun h=>q1 (.inr (.inl h)),fun h=>q1 (.inr (.inr (.inl h))),fun h=>q1 (.inr (.inr (.inr h)))⟩;clear q1;simp -implicitDefEqProofs [dO,hc,p,A,hb,I,hg,p1,p2,p3,p4,q2]
theorem ajw (r:Rd) (ha:r.at_≤src.length) (cx:Ctx) (hl:cx.lim≤m):
  aj P0 (.fn (.func qf) [] []) [.pt (m+1) 0] (S r) cx=.ret (.tu []) (S { r with at_:=skO src r.at_ }):=by
 have h:=l_skip hE ⟨cx.lim,(S r).length⟩ hl src.length r ha (by omega);have hN:=hE.n;refine J3 (by simp) ?_;unfold skO;rw [hN] at h;rcases h with ⟨E,h⟩|⟨E,h⟩
 ·simp -implicitDefEqProofs [af,oK,hN,h]
 ·simp -implicitDefEqProofs [af,oK,hN,h]
end
end Go.Ai.Z
namespace Go.Ai.Z
inductive OR (α:Type) where
 | ok (v:α) (r:Rd)
 | er (a:Nat) (c:Int) (r:Rd)
def OR.bind {α β:Type} (x:OR α) (f:α→Rd→OR β):OR β:=
 match x with
 | .ok v r=>f v r
 | .er a c r=>.er a c r
@[simp] theorem OR.bind_ok {α β:Type} (v:α) (r:Rd) (f:α→Rd→OR β):(OR.ok v r).bind f=f v r:=rfl
@[simp] theorem OR.bind_er {α β:Type} (a:Nat) (c:Int) (r:Rd) (f:α→Rd→OR β):(OR.er a c r:OR α).bind f=.er a c r:=rfl
def flt (a:Nat) (c:Int):AV:=.ifc rV (.ag [.i .i64 (a:Int),.i .i64 c])
@[simp] theorem am1 (S:St) (n:Nat) (a:Nat) (c:Int):frz S n (flt a c)=some (flt a c):=by simp [frz,flt,AV.under,bY]
@[simp] theorem alQ (S:St) (n:Nat) (a:Int) (c:Int):frz S n (.ifc rV (.ag [.i .i64 a,.i .i64 c]))=some (.ifc rV (.ag [.i .i64 a,.i .i64 c])):=by simp [frz,AV.under,bY]
def uy {α:Type} (enc:α→AV) (S:Rd→St) (x:OR α):CO:=
 match x with
 | .ok v r=>.ret (enc v) (S r)
 | .er a c r=>.pan (flt a c) (S r)
@[simp] theorem dD {α:Type} (enc:α→AV) (S:Rd→St) (v:α) (r:Rd):uy enc S (.ok v r)=.ret (enc v) (S r):=rfl
@[simp] theorem dA {α:Type} (enc:α→AV) (S:Rd→St) (a:Nat) (c:Int) (r:Rd):uy enc S (.er a c r:OR α)=.pan (flt a c) (S r):=rfl
theorem jU {α:Type} (enc:α→AV) (S:Rd→St) (x:OR α):uy enc S x≠.fail:=by cases x<;>simp
def fM (src:Rl) (r:Rd):OR Tk:=
 match r.ah with
 | t::_=>.ok t r
 | []=>
  if skO src r.at_<src.length then
   if (jG (src.drop (skO src r.at_))).2=0 then .er (skO src r.at_) 50 { r with at_:=skO src r.at_ }
   else .ok ((jG (src.drop (skO src r.at_))).1,(src.drop (skO src r.at_)).take (jG (src.drop (skO src r.at_))).2,skO src r.at_)
    { r with at_:=skO src r.at_+(jG (src.drop (skO src r.at_))).2,ah:=[((jG (src.drop (skO src r.at_))).1,(src.drop (skO src r.at_)).take (jG (src.drop (skO src r.at_))).2,skO src r.at_)] }
  else .ok (5,[],skO src r.at_) { r with at_:=skO src r.at_,ah:=[(5,[],skO src r.at_)] }
theorem abN (p:UInt8→Bool) (e:UInt8) (l:Rl):G9 p e l≤l.length:=by
 unfold G9;split
 ·rename_i h;have:=(List.getElem?_eq_some_iff.1 h).1;omega
 ·omega
theorem Sm (l:Rl):(jG l).2≤l.length:=by
 unfold jG
 cases l with
 | nil=>simp
 | cons c r=>
  have h1:=abN Dq 62 (c::r);have h2:=abN QY 34 (c::r);have h3:=Qr zF (c::r);simp only;split
  ·simp
  split
  ·cases r with
   | nil=>simp
   | cons d r=>simp;split<;>omega
  split
  ·exact h1
  split
  ·exact h2
  ·exact h3
theorem Xj (k:Int) (t:Rl) (a:Int):(AV.sl [.ag [.i .i64 k,.s t,.i .i64 a]]).flat=true:=rfl
theorem af9:∀l:Rl,(aC l).mapM byteOf=some l
 | []=>rfl
 | b::r=>by
  have ih:=af9 r;unfold aC at ih ⊢;rw [List.map_cons,List.mapM_cons,ih];simp [byteOf]
section
variable {src:Rl} {S:Rd→St} {m N:Nat} (hE:yO src S m N)
include hE
theorem oZ (r:Rd) (ha:r.at_≤src.length) (cx:Ctx) (hl:cx.lim≤m):
  aj P0 (.fn (.func aP) [] []) [.pt (m+1) 0] (S r) cx=uy fF S (fM src r):=by
 refine J5 (jU _ _ _) ?_;have hN:=hE.n;have a9:=hE.lt;have hS:=hE.src;have x:cx.lim≤m+1:=by omega
 have hc:=hE.cell r;unfold rO at hc;obtain ⟨a0,ah,pre,iri,op,ax⟩:=r;unfold fM;simp only at ha hc
 cases ah with
 | cons t u=>
  obtain ⟨t1,t2,t3⟩:=t;unfold ahV at hc;simp only [List.map_cons,slf] at hc;have g1:=hE.g1 ⟨a0,(t1,t2,t3)::u,pre,iri,op,ax⟩;simp only [ahV,List.map_cons,slf] at g1;have hz:¬((u.length:Int)+1=0):=by omega
  have p:cx.lim≤N:=by omega
  simp -implicitDefEqProofs [af,kG,hN,g1,hE.gN,hE.sN,hE.tk,hz,p,fF,dU,splice,frz,AV.under,bY]
 | nil=>
  have a8:=hE.app [gq.cells [.i .i64 0,.s [],.i .i64 0]];have e1:=ajw a8 ⟨a0,[],pre,iri,op,ax⟩ ha ⟨cx.lim,N⟩ hl;have p:cx.lim≤N:=by omega
  have Q:cx.lim≤N+1:=by omega
  have A:=Ws (src:=src) ha;simp only at e1;have R:=hE.cell ⟨skO src a0,[],pre,iri,op,ax⟩;unfold rO at R;have g0:=hE.g1 ⟨a0,[],pre,iri,op,ax⟩;have g1:=hE.g1 ⟨skO src a0,[],pre,iri,op,ax⟩;generalize skO src a0=a at *;simp only [ahV,List.map_nil,slf] at g0 g1;have J:=CU (l:=src);have O:=kM src;have K:=Ue src a;have P:(aC (src.drop a)).take (src.length - a)=aC (src.drop a):=List.take_of_length_le (by rw [kM,List.length_drop];omega);have I:(aC (src.drop a)).length=src.length - a:=by rw [kM,List.length_drop]
  simp only [ahV,List.map_nil,slf] at hc R;by_cases q:a<src.length
  ·rw [if_pos q]
   obtain ⟨c,w,Y⟩:∃c w,src.drop a=c::w:=by
    cases hh:src.drop a with
    | nil=>have:=List.drop_eq_nil_iff.1 hh;omega
    | cons c w=>exact ⟨c,w,rfl⟩
   have a4:w.length≤100000:=by
    have:=congrArg List.length Y
    rw [List.length_drop,List.length_cons] at this;omega
   have e2:=UW c w a4;have W:=Sm (src.drop a);rw [←Y] at e2;rw [List.length_drop] at W;have Z:=CU (l:=src.drop a);generalize hB:aC (src.drop a)=B at *;have a2:0<src.length - a:=by omega
   by_cases z:(jG (src.drop a)).2=0
   ·rw [if_pos z];rw [z] at e2;simp -implicitDefEqProofs [af,kG,hN,g0,g1,hE.gN,hE.sN,hE.gN1,hE.sN1,hE.tk,fF,dU,splice,frz,AV.under,bY,O,Xj,e1,e2,J,K,P,A,I,a2,flt,p,Q]
   ·rw [if_neg z];have s1:=hE.s1 ⟨a,[],pre,iri,op,ax⟩ ⟨a+(jG (src.drop a)).2,[],pre,iri,op,ax⟩;have g2:=hE.g1 ⟨a+(jG (src.drop a)).2,[],pre,iri,op,ax⟩;have s2:=hE.s1 ⟨a+(jG (src.drop a)).2,[],pre,iri,op,ax⟩ ⟨a+(jG (src.drop a)).2,[((jG (src.drop a)).1,(src.drop a).take (jG (src.drop a)).2,a)],pre,iri,op,ax⟩;have g3:=hE.g1 ⟨a+(jG (src.drop a)).2,[((jG (src.drop a)).1,(src.drop a).take (jG (src.drop a)).2,a)],pre,iri,op,ax⟩
    have a3:(B.take (jG (src.drop a)).2).mapM byteOf=some ((src.drop a).take (jG (src.drop a)).2):=by
     rw [←hB,KF];exact af9 _
    generalize (jG (src.drop a)).2=n at *;generalize (jG (src.drop a)).1=k at *;generalize (src.drop a).take n=txt at *;have w1:IntKind.i64.wrap ((a:Int)+n)=(a:Int)+n:=w64 (by omega) (by omega);have a6:¬((n:Int)=0):=by omega
    have a5:n≤src.length - a:=W;simp [ahV,fF] at s1 g2 s2 g3;simp -implicitDefEqProofs [af,kG,hN,g0,g1,g2,g3,s1,s2,hE.gN,hE.sN,hE.gN1,hE.sN1,hE.tk,fF,dU,splice,frz,AV.under,bY,O,Xj,e1,e2,J,K,P,A,I,a2,flt,p,Q,x,a3,w1,z,a6,a5,Z]
  ·rw [if_neg q];have a1:a=src.length:=by omega
   have s2:=hE.s1 ⟨a,[],pre,iri,op,ax⟩ ⟨a,[(5,[],a)],pre,iri,op,ax⟩;have g3:=hE.g1 ⟨a,[(5,[],a)],pre,iri,op,ax⟩;simp [ahV,fF] at s2 g3;have a7:aC (src.drop a)=[]:=by rw [a1];simp [aC]
   simp -implicitDefEqProofs [af,kG,hN,g0,g1,g3,s2,hE.gN,hE.sN,hE.gN1,hE.sN1,hE.tk,fF,dU,splice,frz,AV.under,bY,O,Xj,e1,J,K,P,A,I,flt,p,Q,x,a7]
end
end Go.Ai.Z
namespace Go.Ai.Z
def bQ (r:Rd):Rd:={ r with ah:=[] }
def isR (src:Rl) (w:Rl) (r:Rd):OR Bool:=(fM src r).bind fun t r=>.ok (decide (t.2.1=w)) r
def oU (src:Rl) (b:Bool) (r:Rd):OR Unit:=if b=true then .ok () r else (fM src r).bind fun t r=>.er t.2.2 50 r
def jM (src:Rl) (w:Rl) (r:Rd):OR Unit:=(isR src w r).bind fun b r=>(oU src b r).bind fun _ r=>.ok () (bQ r)
structure ags (src:Rl) (t:Tk):Prop where
 len:t.2.1.length≤src.length
 two:t.1=2∨t.1=3→2≤t.2.1.length
 one:t.1≠5→1≤t.2.1.length
 at_:t.2.2≤src.length
structure Wr (src:Rl) (r:Rd):Prop where
 at_:r.at_≤src.length
 ah:∀t∈r.ah,ags src t
theorem acK (l:Rl) (h:(jG l).1=2∨(jG l).1=3) (h0:(jG l).2≠0):2≤(jG l).2:=by
 have he:∀p e,G9 p e l≠0→2≤G9 p e l:=by
  intro p e hh;unfold G9 at hh ⊢;split
  ·omega
  ·rename_i q;rw [if_neg q] at hh;exact absurd rfl hh
 cases l with
 | nil=>simp [jG] at h
 | cons c r=>
  unfold jG at h h0 ⊢;simp only at h h0 ⊢
  split at h
  ·simp at h
  rename_i q1;rw [if_neg q1] at h0 ⊢
  split at h
  ·simp at h
  rename_i q2;rw [if_neg q2] at h0 ⊢
  split at h
  ·rename_i q3;rw [if_pos q3] at h0 ⊢;exact he _ _ h0
  rename_i q3;rw [if_neg q3] at h0 ⊢
  split at h
  ·rename_i q4;rw [if_pos q4] at h0 ⊢;exact he _ _ h0
  ·simp at h
theorem nP {src:Rl} {r r':Rd} {t:Tk} (h:Wr src r) (e:fM src r=.ok t r'):Wr src r'∧ags src t:=by
 have h1:=Ws h.at_;have h2:=Sm (src.drop (skO src r.at_));have h3:=acK (src.drop (skO src r.at_));rw [List.length_drop] at h2;unfold fM at e
 split at e
 ·rename_i t0 u hh;cases e;exact ⟨h,h.ah t (by rw [hh];simp)⟩
 ·split at e
  ·split at e
   ·cases e
   ·rename_i q;cases e
    have ht:ags src ((jG (src.drop (skO src r.at_))).1,(src.drop (skO src r.at_)).take (jG (src.drop (skO src r.at_))).2,skO src r.at_):=by
     refine ⟨?_,fun hk=>?_,fun hk=>?_,h1⟩
     ·simp only [List.length_take,List.length_drop];omega
     ·have:=h3 hk q
      simp only [List.length_take,List.length_drop];omega
     ·simp only [List.length_take,List.length_drop];omega
    exact ⟨⟨by simp only;omega,fun t hm=>by simp at hm;subst hm;exact ht⟩,ht⟩
  ·cases e;have ht:ags src (5,[],skO src r.at_):=⟨by simp,fun hk=>by simp at hk,fun hk=>absurd rfl hk,h1⟩;exact ⟨⟨h1,fun t hm=>by simp at hm;subst hm;exact ht⟩,ht⟩
theorem jk {src:Rl} {r r':Rd} {t:Tk} (e:fM src r=.ok t r'):fM src r'=.ok t r'∧r'.pre=r.pre∧r'.iri=r.iri∧r'.op=r.op∧r'.ax=r.ax:=by
 unfold fM at e
 split at e
 ·rename_i hh;cases e;refine ⟨?_,rfl,rfl,rfl,rfl⟩;unfold fM;rw [hh]
 ·split at e
  ·split at e
   ·cases e
   ·cases e;refine ⟨?_,rfl,rfl,rfl,rfl⟩;unfold fM;rfl
  ·cases e;refine ⟨?_,rfl,rfl,rfl,rfl⟩;unfold fM;rfl
theorem dV {src:Rl} {r:Rd} (h:Wr src r):Wr src (bQ r):=⟨h.at_,by simp [bQ]⟩
theorem zB (src:Rl) (r:Rd):∃a c r2,oU src false r=.er a c r2:=by
 unfold oU;rw [if_neg Bool.false_ne_true]
 cases fM src r with
 | er a c r2=>exact ⟨a,c,r2,rfl⟩
 | ok t r2=>exact ⟨_,_,r2,rfl⟩
@[simp] theorem oM (src:Rl) (r:Rd):oU src true r=.ok () r:=rfl
theorem ah7 {src:Rl} {r r':Rd} {w:Rl} {b:Bool} (h:Wr src r) (e:isR src w r=.ok b r'):Wr src r':=by
 unfold isR at e
 cases hp:fM src r with
 | er a c r1=>rw [hp] at e;cases e
 | ok t r1=>rw [hp] at e;cases e;exact (nP h hp).1
def RU (pre:List Rl) (t:Tk):Bool:=
 match lH 58 t.2.1 with
 | some (x,y)=>decide (t.1=4) && !y.isEmpty && !decide ((58:UInt8)∈y) && decide (x++[58]∈pre) && !decide (x=[111,119,108]) && !decide (x=[120,115,100])
 | none=>false
def trimB (b:UInt8) (w:Rl):Rl:=match w with | []=>[] | c::r=>if c=b then r else c::r
def XK (w:Rl):Rl:=trimB 58 w
theorem Zo (w:Rl) (b:UInt8) (s:St) (cx:Ctx):aj P0 (.fn (.func gm) [] []) [.s w,.s [b]] s cx=.ret (.b (decide (w.head?=some b))) s:=by
 refine xZ (by simp) ?_
 cases w with
 | nil=>simp -implicitDefEqProofs [af,fE]
 | cons c r=>
  have h1:(1:Int)≤(r.length:Int)+1:=by omega
  by_cases q:c=b<;>simp -implicitDefEqProofs [af,fE,h1,q]
theorem MV (w:Rl) (b:UInt8) (s:St) (cx:Ctx):aj P0 (.fn (.func kP) [] []) [.s w,.s [b]] s cx=.ret (.s (trimB b w)) s:=by
 have e1:=Zo w b
 have e2:∀(s:St) (cx:Ctx),aj P0 (.fn (.func fG) [] []) [.s w,.s [b]] s cx=.ret (.s (trimB b w)) s:=fun s cx=>by
  refine xA (by simp) ?_
  cases w with
  | nil=>
   simp at e1;simp -implicitDefEqProofs [af,dH,e1,trimB]
  | cons c r=>
   by_cases q:c=b
   ·simp [q] at e1;simp -implicitDefEqProofs [af,dH,e1,trimB,q]
   ·simp [q] at e1;simp -implicitDefEqProofs [af,dH,e1,trimB,q]
 refine FV (by simp) ?_;simp -implicitDefEqProofs [af,oQ,e2]
def nG (src:Rl) (r:Rd):OR Rl:=(fM src r).bind fun t r=>(oU src (RU r.pre t) r).bind fun _ r=>.ok (XK t.2.1) (bQ r)
def IK (src:Rl) (w p:Rl) (r:Rd):OR Unit:=(isR src w r).bind fun b r=>(oU src (b && decide (p∈r.pre)) r).bind fun _ r=>.ok () (bQ r)
section
variable {src:Rl} {S:Rd→St} {m N:Nat} (hE:yO src S m N)
include hE
theorem qB (b:Bool) (r:Rd) (ha:Wr src r) (cx:Ctx) (hl:cx.lim≤m):
  aj P0 (.fn (.func bV) [] []) [.pt (m+1) 0,.b b] (S r) cx=uy (fun _=>.tu []) S (oU src b r):=by
 refine J9 (jU _ _ _) ?_;have hN:=hE.n;have e1:=oZ hE r ha.at_ ⟨cx.lim,N⟩ hl;unfold oU;cases b
 ·cases hp:fM src r with
  | er a c r1=>
   rw [hp] at e1;simp only [dA] at e1;simp -implicitDefEqProofs [af,lT,hN,e1]
  | ok t r1=>
   rw [hp] at e1;simp only [dD,fF] at e1;simp -implicitDefEqProofs [af,lT,hN,e1,dU,splice,flt]
 ·simp -implicitDefEqProofs [af,lT,hN]
theorem KE (w:Rl) (r:Rd) (ha:Wr src r) (cx:Ctx) (hl:cx.lim≤m):
  aj P0 (.fn (.func bK) [] []) [.pt (m+1) 0,.s w] (S r) cx=uy .b S (isR src w r):=by
 refine Ob (jU _ _ _) ?_;have hN:=hE.n;have e1:=oZ hE r ha.at_ ⟨cx.lim,N⟩ hl;unfold isR
 cases hp:fM src r with
 | er a c r1=>
  rw [hp] at e1;simp only [dA] at e1;simp -implicitDefEqProofs [af,qV,hN,e1]
 | ok t r1=>
  rw [hp] at e1;simp only [dD,fF] at e1
  by_cases q:t.2.1=w<;>simp -implicitDefEqProofs [af,qV,hN,e1,q]
theorem lJ (r:Rd) (cx:Ctx) (hl:cx.lim≤m):
  aj P0 (.fn (.func aN) [] []) [.pt (m+1) 0] (S r) cx=.ret (.tu []) (S (bQ r)):=by
 refine J6 (by simp) ?_;have hN:=hE.n;have hc:=hE.cell r;have hs:=hE.sets r (bQ r) rfl;have p:cx.lim≤m+1:=by omega
 unfold rO bQ at *;simp [ahV] at hs;simp -implicitDefEqProofs [af,sO,hN,hc,hs,p,show AV.ns.flat=true from rfl]
theorem iI (w:Rl) (r:Rd) (ha:Wr src r) (cx:Ctx) (hl:cx.lim≤m):
  aj P0 (.fn (.func aH) [] []) [.pt (m+1) 0,.s w] (S r) cx=uy (fun _=>.tu []) S (jM src w r):=by
 refine JY (jU _ _ _) ?_;have hN:=hE.n;have e1:=KE hE w r ha ⟨cx.lim,N⟩ hl;unfold jM
 cases hp:isR src w r with
 | er a c r1=>
  rw [hp] at e1;simp only [dA] at e1;simp -implicitDefEqProofs [af,lS,hN,e1]
 | ok b r1=>
  rw [hp] at e1;simp only [dD] at e1;have h1:=ah7 ha hp;have e2:=qB hE b r1 h1 ⟨cx.lim,N⟩ hl;simp only [OR.bind_ok]
  cases hq:oU src b r1 with
  | er a c r2=>
   rw [hq] at e2;simp only [dA] at e2;simp -implicitDefEqProofs [af,lS,hN,e1,e2]
  | ok v r2=>
   rw [hq] at e2;simp only [dD] at e2;have e3:=lJ hE r2 ⟨cx.lim,N⟩ hl;simp -implicitDefEqProofs [af,lS,hN,e1,e2,e3]
theorem Ii (w p:Rl) (r:Rd) (ha:Wr src r) (cx:Ctx) (hl:cx.lim≤m):
  aj P0 (.fn (.func gU) [] []) [.pt (m+1) 0,.s w,.s p] (S r) cx=uy (fun _=>.tu []) S (IK src w p r):=by
 refine II (jU _ _ _) ?_;have hN:=hE.n;have e1:=KE hE w r ha ⟨cx.lim,N⟩ hl;unfold IK
 cases hp:isR src w r with
 | er a c r1=>
  rw [hp] at e1;simp only [dA] at e1;simp -implicitDefEqProofs [af,dX,hN,e1]
 | ok b r1=>
  rw [hp] at e1;simp only [dD] at e1;have h1:=ah7 ha hp;have e2:=qB hE (b && decide (p∈r1.pre)) r1 h1 ⟨cx.lim,N⟩ hl;have hc:=hE.cell r1;have hm:=hE.pm r1;have hf:=Eg p r1.pre;unfold rO at hc;simp only [OR.bind_ok]
  have key:∀x,oU src (b && decide (p∈r1.pre)) r1=x→af P0.glob (aj P0) dX ([]++[.pt (m+1) 0,.s w,.s p]++[]) (S r) cx=uy (fun _=>.tu []) S (x.bind fun _ r=>.ok () (bQ r)):=by
   intro x hx;rw [hx] at e2
   cases x with
   | er a c r2=>
    simp only [dA] at e2;cases b
    ·simp at e2;simp -implicitDefEqProofs [af,dX,hN,e1,e2]
    ·by_cases q:p∈r1.pre
     ·simp [q] at e2 hf;simp -implicitDefEqProofs [af,dX,hN,e1,e2,hc,hm,hf]
     ·simp [q] at e2 hf;simp -implicitDefEqProofs [af,dX,hN,e1,e2,hc,hm,hf]
   | ok v r2=>
    simp only [dD] at e2;have e3:=lJ hE r2 ⟨cx.lim,N⟩ hl;cases b
    ·simp at e2;simp -implicitDefEqProofs [af,dX,hN,e1,e2,e3]
    ·by_cases q:p∈r1.pre
     ·simp [q] at e2 hf;simp -implicitDefEqProofs [af,dX,hN,e1,e2,hc,hm,hf,e3]
     ·simp [q] at e2 hf;simp -implicitDefEqProofs [af,dX,hN,e1,e2,hc,hm,hf,e3]
  exact key _ rfl
theorem qY (r:Rd) (ha:Wr src r) (cx:Ctx) (hl:cx.lim≤m):
  aj P0 (.fn (.func aQ) [] []) [.pt (m+1) 0] (S r) cx=uy .s S (nG src r):=by
 refine J7 (jU _ _ _) ?_;have hN:=hE.n;have hS:=hE.src;have e1:=oZ hE r ha.at_ ⟨cx.lim,N⟩ hl;unfold nG
 cases hp:fM src r with
 | er a c r1=>
  rw [hp] at e1;simp only [dA] at e1;simp -implicitDefEqProofs [af,dQ,hN,e1]
 | ok t r1=>
  rw [hp] at e1;obtain ⟨w1,w2⟩:=nP ha hp;obtain ⟨p1,p2,_,_,_⟩:=jk hp;have p:=oZ hE r1 w1.at_ ⟨cx.lim,N⟩ hl;rw [p1] at p;obtain ⟨k,w,a⟩:=t;simp only [dD,fF] at e1 p;have ec:=zD w 58 (by have:=w2.len;simp only at this;omega);have et:=MV w 58;have hc:=hE.cell r1;have hm:=hE.pm r1;unfold rO at hc;simp only [OR.bind_ok];have e3:=lJ hE r1 ⟨cx.lim,N⟩ hl;have e2:=fun b=>qB hE b r1 w1 ⟨cx.lim,N⟩ hl;obtain ⟨a2,c2,r2,hx⟩:=zB src r1;have A:=e2 false;have K:=e2 true;rw [hx] at A;simp only [dA,dD,oM] at A K;clear e2;unfold RU;simp only
  cases hcut:lH 58 w with
  | none=>
   rw [hcut] at ec;simp only at ec ⊢;rw [hx]
   by_cases q1:k=4<;>simp -implicitDefEqProofs [af,dQ,hN,e1,p,ec,A,q1]
  | some q=>
   obtain ⟨x,y⟩:=q;rw [hcut] at ec;simp only at ec ⊢;have hf:=Eg (x++[58]) r1.pre;have eC:=Lh y 58
   have J:x.length≤4611686018427387903:=by
    have h1:=wM hcut;have h2:=w2.len;simp only at h2;rw [h1] at h2;simp at h2;omega
   by_cases q1:¬k=4
   ·simp [q1,hx];simp -implicitDefEqProofs [af,dQ,hN,e1,p,ec,A,q1]
   have q1:k=4:=Classical.not_not.1 q1;by_cases q2:y=[]
   ·simp [q1,q2,hx];simp -implicitDefEqProofs [af,dQ,hN,e1,p,ec,A,q1,q2]
   have I:y.isEmpty=false:=by cases y<;>simp_all
   by_cases q3:(58:UInt8)∈y
   ·simp [q1,q2,q3,hx];simp [q3] at eC;simp -implicitDefEqProofs [af,dQ,hN,e1,p,ec,A,q1,I,eC]
   simp [q3] at eC;by_cases q4:¬x++[58]∈r1.pre
   ·simp [q1,q2,q3,q4,hx];simp [q4] at hf;simp -implicitDefEqProofs [af,dQ,hN,e1,p,ec,A,q1,I,eC,hc,hm,hf,J]
   have q4:x++[58]∈r1.pre:=Classical.not_not.1 q4;simp [q4] at hf;by_cases q5:x=[111,119,108]
   ·simp [q1,q2,q3,q4,q5,hx];subst q5;simp at hf q4;simp -implicitDefEqProofs [af,dQ,hN,e1,p,ec,A,q1,I,eC,hc,hm,hf,J,hx]
   by_cases q6:x=[120,115,100]
   ·simp [q1,q2,q3,q4,q5,q6,hx];subst q6;simp at hf q4;simp -implicitDefEqProofs [af,dQ,hN,e1,p,ec,A,q1,I,eC,hc,hm,hf,J,hx]
   ·simp [q1,q2,q3,q4,q5,q6];simp -implicitDefEqProofs [af,dQ,hN,e1,p,ec,K,e3,et,XK,q1,I,eC,hc,hm,hf,J,q5,q6]
end
end Go.Ai.Z
namespace Go.Ai.Z
open Go.Lib (atoi decNat decFrom digitVal)
def MN (b:UInt8):Bool:=decide (48≤(b.toNat:Int)) && decide ((b.toNat:Int)≤57)
def zO (w:Rl):Rl:=(w.drop 1).take (w.length - 2)
def ES (t:Tk):Option Int:=
 if t.1=3 then
  if (trimB 45 (zO t.2.1)).length<1∨18<(trimB 45 (zO t.2.1)).length then none
  else if (trimB 45 (zO t.2.1)).head?=some 48∧zO t.2.1≠[48] then none
  else if (trimB 45 (zO t.2.1)).all MN=true then atoi (zO t.2.1) else none
 else none
theorem Pv:∀(l:Rl) (p:Nat),l.all MN=true→∃n,decFrom p l=some n
 | [],p,_=>⟨p,rfl⟩
 | b::r,p,h=>by
  rw [List.all_cons,Bool.and_eq_true] at h;obtain ⟨n,hn⟩:=Pv r (p * 10+(b.toNat - 48)) h.2
  have hd:digitVal b=some (b.toNat - 48):=by
   have h1:=h.1;unfold MN at h1;rw [Bool.and_eq_true,decide_eq_true_eq,decide_eq_true_eq] at h1;unfold digitVal;rw [if_pos ⟨by omega,by omega⟩]
  refine ⟨n, ?_⟩;simp only [decFrom,hd];exact hn
theorem agc {s:Rl} (h1:1≤(trimB 45 s).length) (h2:(trimB 45 s).length≤18) (h3:(trimB 45 s).all MN=true):
  ∃n,atoi s=some n∧(s.length≤18∨(s.length=19∧s.head?=some 45)):=by
 obtain ⟨n,hn⟩:=Pv (trimB 45 s) 0 h3
 have p:decNat (trimB 45 s)=some n:=by
  unfold decNat
  cases hh:trimB 45 s with
  | nil=>rw [hh] at h1;simp at h1
  | cons c r=>rw [hh] at hn;simp [hn]
 cases s with
 | nil=>simp [trimB] at h1
 | cons c r=>
  unfold trimB at h2 h3 p;simp only at h2 h3 p;by_cases q:c=45
  ·subst q;simp at h2 h3 p;refine ⟨-(n:Int),by simp [atoi,p], ?_⟩;simp only [List.length_cons,List.head?_cons];by_cases z:r.length=18
   ·exact .inr ⟨by omega,trivial⟩
   ·exact .inl (by omega)
  ·rw [if_neg q] at h2 h3 p
   have q2:c≠43:=by
    intro hc;subst hc;simp [MN] at h3
   refine ⟨n, ?_,.inl h2⟩;have b1:(c == 45)=false:=by simpa using q
   have b2:(c == 43)=false:=by simpa using q2
   simp only [atoi,b1,b2,p,Option.map_some,Bool.false_eq_true,if_false]
theorem aff (w:Rl):(zO w).length=w.length - 2:=by
 unfold zO;rw [List.length_take,List.length_drop];omega
def rem (src:Rl) (r:Rd):Nat:=(src.length - r.at_)+(match r.ah with | []=>0|t::_=>t.2.1.length)
def aG {α:Type} (src:Rl) (r:Rd) (k:Nat) (x:OR α):Prop:=
 match x with
 | .ok _ q=>Wr src q∧rem src q+k≤rem src r∧q.pre=r.pre∧q.iri=r.iri∧q.ax=r.ax
 | .er a c _=>a≤src.length∧c=50
theorem aG.ok {α:Type} {src:Rl} {r q:Rd} {v:α} {k:Nat} {x:OR α} (h:aG src r k x) (e:x=.ok v q):Wr src q∧rem src q+k≤rem src r∧q.pre=r.pre∧q.iri=r.iri∧q.ax=r.ax:=by subst e;exact h
theorem spl {α:Type} {enc:α→AV} {S:Rd→St} {x:OR α} {C:CO} {src:Rl} {r:Rd} {k:Nat} (e:C=uy enc S x) (g:aG src r k x):
  (∃a c q,x=.er a c q∧C=.pan (flt a c) (S q))∨(∃v q,x=.ok v q∧C=.ret (enc v) (S q)∧Wr src q∧rem src q+k≤rem src r∧q.pre=r.pre∧q.iri=r.iri∧q.ax=r.ax):=by
 cases x with
 | er a c q=>exact .inl ⟨a,c,q,rfl,e⟩
 | ok v q=>exact .inr ⟨v,q,rfl,e,g⟩
theorem aG.mk {α:Type} {src:Rl} {r:Rd} {v:α} (h:Wr src r):aG src r 0 (.ok v r):=⟨h,by omega,rfl,rfl,rfl⟩
theorem aG.bind {α β:Type} {src:Rl} {r:Rd} {k j n:Nat} {x:OR α} {f:α→Rd→OR β} (h:aG src r k x)
  (hf:∀v q,x=.ok v q→Wr src q→rem src q+k≤rem src r→aG src q j (f v q)) (hn:n≤k+j):aG src r n (x.bind f):=by
 cases x with
 | er a c q=>exact h
 | ok v q=>
  obtain ⟨h1,h2,h3,h4,h5⟩:=h;have h6:=hf v q rfl h1 h2;rw [OR.bind_ok];generalize f v q=y at *
  cases y with
  | er a c q2=>exact h6
  | ok w q2=>
   obtain ⟨g1,g2,g3,g4,g5⟩:=h6;exact ⟨g1,by omega,g3.trans h3,g4.trans h4,g5.trans h5⟩
theorem dI {src:Rl} {r:Rd} (h:Wr src r):aG src r 0 (fM src r):=by
 cases e:fM src r with
 | er a c q=>
  have h1:=Ws h.at_;unfold fM at e
  split at e
  ·cases e
  ·split at e
   ·split at e
    ·cases e;exact ⟨h1,rfl⟩
    ·cases e
   ·cases e
 | ok t q=>
  obtain ⟨p1,p2,p3,p4,p5⟩:=jk e;refine ⟨(nP h e).1, ?_,p2,p3,p5⟩;have h1:=Ws h.at_;have h2:=Sm (src.drop (skO src r.at_));rw [List.length_drop] at h2;have h3:r.at_≤skO src r.at_:=by unfold skO;omega
  unfold fM at e
  split at e
  ·cases e;omega
  ·rename_i hh
   split at e
   ·split at e
    ·cases e
    ·cases e;unfold rem;rw [hh];simp only [List.length_take,List.length_drop];omega
   ·cases e;unfold rem;rw [hh];simp only [List.length_nil];omega
theorem agX {src:Rl} {r q:Rd} {t:Tk} (e:fM src r=.ok t q):∃u,q.ah=t::u:=by
 unfold fM at e
 split at e
 ·rename_i u hh;cases e;exact ⟨u,hh⟩
 ·split at e
  ·split at e
   ·cases e
   ·cases e;exact ⟨[],rfl⟩
  ·cases e;exact ⟨[],rfl⟩
theorem Qw {src:Rl} {r q:Rd} {t:Tk} (e:fM src r=.ok t q) (h:Wr src q) (ht:1≤t.2.1.length):Wr src (bQ q)∧rem src (bQ q)+1≤rem src q∧(bQ q).pre=q.pre∧(bQ q).iri=q.iri∧(bQ q).ax=q.ax:=by
 obtain ⟨u,hu⟩:=agX e;refine ⟨dV h, ?_,rfl,rfl,rfl⟩;unfold rem bQ;rw [hu];simp only;omega
theorem dM {src:Rl} {r:Rd} (h:Wr src r) (b:Bool):aG src r 0 (oU src b r):=by
 unfold oU;split
 ·exact .mk h
 ·have h1:=dI h
  cases e:fM src r with
  | er a c q=>rw [e] at h1;exact h1
  | ok t q=>exact ⟨(nP h e).2.at_,rfl⟩
theorem lu {src:Rl} {r q:Rd} {b:Bool} {v:Unit} (e:oU src b r=.ok v q):b=true∧q=r:=by
 cases b with
 | true=>cases e;exact ⟨rfl,rfl⟩
 | false=>
  obtain ⟨a,c,r2,h⟩:=zB src r;rw [h] at e;cases e
theorem fV {src:Rl} {r:Rd} (h:Wr src r) (w:Rl):aG src r 0 (isR src w r):=
 aG.bind (dI h) (fun _ _ _ h1 _=>aG.mk h1) (by omega)
theorem Aw {src:Rl} {r q:Rd} {w:Rl} {b:Bool} (e:isR src w r=.ok b q):∃t,fM src r=.ok t q∧b=decide (t.2.1=w):=by
 unfold isR at e
 cases hp:fM src r with
 | er a c r1=>rw [hp] at e;cases e
 | ok t r1=>rw [hp] at e;cases e;exact ⟨t,rfl,rfl⟩
theorem aF {src:Rl} {r:Rd} (h:Wr src r) (w:Rl) (hw:1≤w.length):aG src r 1 (jM src w r):=by
 unfold jM;refine aG.bind (fV h w) (j:=1) (fun b q e h1 h2=>?_) (by omega);refine aG.bind (dM h1 b) (j:=1) (fun v q2 e2 h3 h4=>?_) (by omega);obtain ⟨hb,hq⟩:=lu e2;subst hb;subst hq;obtain ⟨t,e3,e4⟩:=Aw e;obtain ⟨p1,_,_,_,_⟩:=jk e3;have e5:=of_decide_eq_true e4.symm;exact Qw p1 h3 (by rw [e5];exact hw)
theorem wJ {src:Rl} {r:Rd} (h:Wr src r) (w p:Rl) (hw:1≤w.length):aG src r 1 (IK src w p r):=by
 unfold IK;refine aG.bind (fV h w) (j:=1) (fun b q e h1 h2=>?_) (by omega);refine aG.bind (dM h1 _) (j:=1) (fun v q2 e2 h3 h4=>?_) (by omega);obtain ⟨hb,hq⟩:=lu e2;subst hq;rw [Bool.and_eq_true] at hb;obtain ⟨t,e3,e4⟩:=Aw e;obtain ⟨p1,_,_,_,_⟩:=jk e3;have e5:=of_decide_eq_true (e4.symm.trans hb.1);exact Qw p1 h3 (by rw [e5];exact hw)
theorem RS {pre:List Rl} {t:Tk} (h:RU pre t=true):t.1=4:=by
 unfold RU at h
 split at h
 ·simp at h;exact h.1.1.1.1.1
 ·cases h
theorem bn {src:Rl} {r:Rd} (h:Wr src r):aG src r 1 (nG src r):=by
 unfold nG;refine aG.bind (dI h) (j:=1) (fun t q e h1 h2=>?_) (by omega);refine aG.bind (dM h1 _) (j:=1) (fun v q2 e2 h3 h4=>?_) (by omega);obtain ⟨hb,hq⟩:=lu e2;subst hq;obtain ⟨p1,_,_,_,_⟩:=jk e;exact Qw p1 h3 ((nP h e).2.one (by have:=RS hb;omega))
end Go.Ai.Z
namespace Go.Ai.Z
def mW {α:Type} (src:Rl) (f:Rd→OR α) (least:Nat):Nat→List α→Rd→OR (List α)
 | 0,_,r=>.er 0 50 r
 | n+1,l,r=>
  (if l.length<least then .ok false r else isR src [41] r).bind fun b r=>
   if b=true then .ok l r else (f r).bind fun v r=>mW src f least n (l++[v]) r
def Us (src w:Rl) (k:Int) (r:Rd):OR C:=(IK src w [111,119,108,58] r).bind fun _ r=>.ok (C.mk k [] 0 0 true []) r
def Zu (src:Rl) (f:Rd→OR C) (n:Nat) (r:Rd):OR C:=
 (jM src [40] (bQ r)).bind fun _ r=>(mW src f 2 n [] r).bind fun l r=>(jM src [41] r).bind fun _ r=>.ok (C.mk 5 [] 0 0 false l) r
def OJ (src:Rl) (f:Rd→OR C) (r:Rd):OR C:=
 (jM src [40] (bQ r)).bind fun _ r=>(nG src r).bind fun s r=>(f r).bind fun c r=>(jM src [41] r).bind fun _ r=>.ok (C.mk 6 s 0 0 false [c]) r
def Yi (src:Rl) (r:Rd):OR C:=
 (jM src [40] (bQ r)).bind fun _ r=>(nG src r).bind fun s r=>(jM src [41] r).bind fun _ r=>.ok (C.mk 4 s 0 0 true []) r
def YV (other w:Rl):Bool:=(decide (w=wA0) || decide (w=wA3)) && !decide (w=other)
def Qm (src other:Rl) (lo hi:Int) (r:Rd):OR (Rl×Int×Int):=
 (fM src r).bind fun t r=>(oU src (YV other t.2.1) r).bind fun _ r=>(IK src t.2.1 [120,115,100,58] r).bind fun _ r=>
  (fM src r).bind fun u r=>(oU src (ES u).isSome r).bind fun _ r=>(jM src [94,94] (bQ r)).bind fun _ r=>(IK src wA1 [120,115,100,58] r).bind fun _ r=>
   .ok (t.2.1,if t.2.1=wA0 then (ES u).getD 0 else lo,if t.2.1=wA0 then hi else (ES u).getD 0) r
def Yp:Int:=1099511627776
def ZR (src:Rl) (r:Rd):OR (Int×Int):=
 (jM src [40] (bQ r)).bind fun _ r=>(IK src wA1 [120,115,100,58] r).bind fun _ r=>(Qm src [] (-Yp) Yp r).bind fun x r=>
  (isR src [41] r).bind fun b r=>(if b=true then .ok x r else Qm src x.1 x.2.1 x.2.2 r).bind fun y r=>(jM src [41] r).bind fun _ r=>.ok y.2 r
def Px (src:Rl) (r:Rd):OR C:=
 (jM src [40] (bQ r)).bind fun _ r=>(nG src r).bind fun s r=>(isR src wA5 r).bind fun b r=>
  (if b=true then ZR src r else (IK src wA1 [120,115,100,58] r).bind fun _ r=>.ok (-Yp,Yp) r).bind fun x r=>
   (jM src [41] r).bind fun _ r=>.ok (C.mk 7 s x.1 x.2 true []) r
def xC (src:Rl):Nat→Rd→OR C
 | 0,r=>.er 0 50 r
 | n+1,r=>(fM src r).bind fun t r=>
  if t.2.1=wB4 then Us src wB4 1 r
  else if t.2.1=wB1 then Us src wB1 2 r
  else if t.2.1=wA6 then Zu src (xC src n) n r
  else if t.2.1=wA7 then OJ src (xC src n) r
  else if t.2.1=wB8 then Yi src r
  else if t.2.1=wA8 then Px src r
  else (nG src r).bind fun s r=>.ok (C.mk 3 s 0 0 true []) r
def Sn (src:Rl) (r:Rd):Prop:=∃t,fM src r=.ok t r∧1≤t.2.1.length
theorem Sn.pass {src:Rl} {r:Rd} (h:Sn src r) (hw:Wr src r):Wr src (bQ r)∧rem src (bQ r)+1≤rem src r:=by
 obtain ⟨t,e,h1⟩:=h
 have:=Qw e hw h1
 exact ⟨this.1,this.2.1⟩
theorem qW {α:Type} {src:Rl} {r:Rd} {k:Nat} {x:OR α} (h:Sn src r) (hw:Wr src r) (hx:aG src (bQ r) k x):aG src r (k+1) x:=by
 have h1:=h.pass hw
 cases x with
 | er a c q=>exact hx
 | ok v q=>
  obtain ⟨g1,g2,g3,g4,g5⟩:=hx;exact ⟨g1,by omega,g3,g4,g5⟩
theorem KR {src:Rl} {r q:Rd} {t:Tk} (e:fM src r=.ok t q) (h:1≤t.2.1.length):Sn src q:=⟨t,(jk e).1,h⟩
theorem aa9 {src:Rl} {r q:Rd} {w:Rl} (e:isR src w r=.ok true q) (h:1≤w.length):Sn src q:=by
 obtain ⟨t,e1,e2⟩:=Aw e;exact KR e1 (by rw [of_decide_eq_true e2.symm];exact h)
theorem xO {α:Type} {src:Rl} {f:Rd→OR α} {least:Nat}:∀(n:Nat) (l:List α) (r:Rd),Wr src r→rem src r<n→(∀q,Wr src q→rem src q≤rem src r→aG src q 1 (f q))→
  aG src r 0 (mW src f least n l r)
 | 0,l,r,_,hn,_=>absurd hn (by omega)
 | n+1,l,r,hr,hn,hf=>by
  unfold mW;refine aG.bind (k:=0) (j:=0) ?_ (fun b q e h1 h2=>?_) (by omega)
  ·split
   ·exact .mk hr
   ·exact fV hr _
  split
  ·exact .mk h1
  refine aG.bind (j:=0) (hf q h1 (by omega)) (fun v q2 e2 h3 h4=>?_) (by omega);exact xO n _ q2 h3 (by omega) fun p hp x=>hf p hp (by omega)
theorem YJ {src:Rl} {r:Rd} (h:Wr src r) (w:Rl) (hw:1≤w.length) (k:Int):aG src r 1 (Us src w k r):=
 aG.bind (wJ h w _ hw) (fun _ _ _ h1 _=>aG.mk h1) (by omega)
theorem afC {src:Rl} {f:Rd→OR C} {n:Nat} {r:Rd} (h:Wr src r) (hs:Sn src r) (hn:rem src r≤n) (hf:∀q,Wr src q→rem src q<rem src r→aG src q 1 (f q)):aG src r 1 (Zu src f n r):=by
 have h0:=hs.pass h;refine qW (k:=0) hs h ?_;unfold Zu;refine aG.bind (j:=0) (aF h0.1 _ (by simp)) (fun _ q e h1 h2=>?_) (by omega);refine aG.bind (k:=0) (j:=0) (xO n [] q h1 (by omega) fun p hp x=>hf p hp (by omega)) (fun l q2 e h3 h4=>?_) (by omega);exact aG.bind (j:=0) (aF h3 _ (by simp)) (fun _ q e h1 h2=>aG.mk h1) (by omega)
theorem acZ {src:Rl} {f:Rd→OR C} {r:Rd} (h:Wr src r) (hs:Sn src r) (hf:∀q,Wr src q→rem src q<rem src r→aG src q 1 (f q)):aG src r 1 (OJ src f r):=by
 have h0:=hs.pass h;refine qW (k:=0) hs h ?_;unfold OJ;refine aG.bind (j:=0) (aF h0.1 _ (by simp)) (fun _ q e h1 h2=>?_) (by omega);refine aG.bind (j:=0) (bn h1) (fun s q2 e h3 h4=>?_) (by omega);refine aG.bind (j:=0) (hf q2 h3 (by omega)) (fun c q3 e h5 h6=>?_) (by omega);exact aG.bind (j:=0) (aF h5 _ (by simp)) (fun _ q e h1 h2=>aG.mk h1) (by omega)
theorem afo {src:Rl} {r:Rd} (h:Wr src r) (hs:Sn src r):aG src r 1 (Yi src r):=by
 have h0:=hs.pass h;refine qW (k:=0) hs h ?_;unfold Yi;refine aG.bind (j:=0) (aF h0.1 _ (by simp)) (fun _ q e h1 h2=>?_) (by omega);refine aG.bind (j:=0) (bn h1) (fun s q2 e h3 h4=>?_) (by omega);exact aG.bind (j:=0) (aF h3 _ (by simp)) (fun _ q e h1 h2=>aG.mk h1) (by omega)
theorem YU {o w:Rl} (h:YV o w=true):1≤w.length:=by
 unfold YV at h;rw [Bool.and_eq_true,Bool.or_eq_true,decide_eq_true_eq,decide_eq_true_eq] at h
 rcases h.1 with h|h<;>rw [h]<;>simp
theorem afd {src:Rl} {t:Tk} (ht:ags src t) (h:(ES t).isSome=true):1≤t.2.1.length:=by
 have h3:t.1=3:=by
  unfold ES at h
  split at h
  ·assumption
  ·cases h
 exact ht.one (by omega)
theorem LZ {src:Rl} {r:Rd} (h:Wr src r) (o:Rl) (lo hi:Int):aG src r 1 (Qm src o lo hi r):=by
 unfold Qm;refine aG.bind (k:=0) (j:=1) (dI h) (fun t q e h1 h2=>?_) (by omega);refine aG.bind (k:=0) (j:=1) (dM h1 _) (fun _ q2 e2 h3 h4=>?_) (by omega);obtain ⟨hb,hq⟩:=lu e2;subst hq;refine aG.bind (k:=1) (j:=0) (wJ h3 _ _ (YU hb)) (fun _ q3 e3 h5 h6=>?_) (by omega);refine aG.bind (k:=0) (j:=0) (dI h5) (fun u q4 e4 h7 h8=>?_) (by omega);refine aG.bind (k:=0) (j:=0) (dM h7 _) (fun _ q5 e5 h9 K=>?_) (by omega);obtain ⟨I,x⟩:=lu e5;subst x;have p:=KR e4 (afd (nP h5 e4).2 I);have hp:=p.pass h9
 have key:aG src q5 (0+1) ((jM src [94,94] (bQ q5)).bind fun _ r=>(IK src wA1 [120,115,100,58] r).bind fun _ r=>
   .ok (t.2.1,if t.2.1=wA0 then (ES u).getD 0 else lo,if t.2.1=wA0 then hi else (ES u).getD 0) r):=by
  refine qW p h9 ?_;refine aG.bind (k:=1) (j:=0) (aF hp.1 _ (by simp)) (fun _ q6 e6 A J=>?_) (by omega);exact aG.bind (k:=1) (j:=0) (wJ A _ _ (by simp)) (fun _ q e h1 h2=>aG.mk h1) (by omega)
 generalize (jM src [94,94] (bQ q5)).bind _=y at key ⊢
 cases y with
 | er a c q=>exact key
 | ok v q=>obtain ⟨g1,g2,g3⟩:=key;exact ⟨g1,by omega,g3⟩
theorem aG.wk {α:Type} {src:Rl} {r:Rd} {k j:Nat} {x:OR α} (h:aG src r k x) (hk:j≤k):aG src r j x:=by
 cases x with
 | er a c q=>exact h
 | ok v q=>obtain ⟨g1,g2,g3⟩:=h;exact ⟨g1,by omega,g3⟩
theorem afn {src:Rl} {r:Rd} (h:Wr src r) (hs:Sn src r):aG src r 1 (ZR src r):=by
 have h0:=hs.pass h;refine qW (k:=0) hs h ?_;unfold ZR;refine aG.bind (k:=1) (j:=0) (aF h0.1 _ (by simp)) (fun _ q e h1 h2=>?_) (by omega);refine aG.bind (k:=1) (j:=0) (wJ h1 _ _ (by simp)) (fun _ q2 e2 h3 h4=>?_) (by omega);refine aG.bind (k:=1) (j:=0) (LZ h3 _ _ _) (fun x q3 e3 h5 h6=>?_) (by omega);refine aG.bind (k:=0) (j:=0) (fV h5 _) (fun b q4 e4 h7 h8=>?_) (by omega);refine aG.bind (k:=0) (j:=0) ?_ (fun y q5 e5 h9 p=>?_) (by omega)
 ·split
  ·exact .mk h7
  ·exact (LZ h7 _ _ _).wk (by omega)
 exact aG.bind (k:=1) (j:=0) (aF h9 _ (by simp)) (fun _ q e h1 h2=>aG.mk h1) (by omega)
theorem adl {src:Rl} {r:Rd} (h:Wr src r) (hs:Sn src r):aG src r 1 (Px src r):=by
 have h0:=hs.pass h;refine qW (k:=0) hs h ?_;unfold Px;refine aG.bind (k:=1) (j:=0) (aF h0.1 _ (by simp)) (fun _ q e h1 h2=>?_) (by omega);refine aG.bind (k:=1) (j:=0) (bn h1) (fun s q2 e2 h3 h4=>?_) (by omega);refine aG.bind (k:=0) (j:=0) (fV h3 _) (fun b q3 e3 h5 h6=>?_) (by omega);refine aG.bind (k:=0) (j:=0) ?_ (fun y q5 e5 h9 p=>?_) (by omega)
 ·split
  ·rename_i hb;subst hb;exact (afn h5 (aa9 e3 (by simp))).wk (by omega)
  ·exact aG.bind (k:=1) (j:=0) (wJ h5 _ _ (by simp)) (fun _ q e h1 h2=>aG.mk h1) (by omega)
 exact aG.bind (k:=1) (j:=0) (aF h9 _ (by simp)) (fun _ q e h1 h2=>aG.mk h1) (by omega)
theorem mQ {src:Rl}:∀(n:Nat) (r:Rd),Wr src r→rem src r<n→aG src r 1 (xC src n r)
 | 0,r,_,hn=>absurd hn (by omega)
 | n+1,r,hr,hn=>by
  unfold xC;refine aG.bind (k:=0) (j:=1) (dI hr) (fun t q e h1 h2=>?_) (by omega);have x:∀w:Rl,1≤w.length→t.2.1=w→Sn src q:=fun w hw ht=>KR e (by rw [ht];exact hw);have hf:∀p,Wr src p→rem src p<rem src q→aG src p 1 (xC src n p):=fun p hp A=>mQ n p hp (by omega);split
  ·exact YJ h1 _ (by simp) _
  split
  ·exact YJ h1 _ (by simp) _
  split
  ·rename_i ht;exact afC h1 (x _ (by simp) ht) (by omega) hf
  split
  ·rename_i ht;exact acZ h1 (x _ (by simp) ht) hf
  split
  ·rename_i ht;exact afo h1 (x _ (by simp) ht)
  split
  ·rename_i ht;exact adl h1 (x _ (by simp) ht)
  ·exact aG.bind (k:=1) (j:=0) (bn h1) (fun _ q e h1 h2=>aG.mk h1) (by omega)
end Go.Ai.Z
namespace Go.Ai.Z
open Go.Lib (atoi)
theorem QE (b:UInt8):MN b=true ↔ 48≤(b.toNat:Int)∧(b.toNat:Int)≤57:=by
 unfold MN;rw [Bool.and_eq_true,decide_eq_true_eq,decide_eq_true_eq]
theorem VA (d w:Rl) (hd:d.length≤100000) (s:St) (cx:Ctx):∀(I:Rl) (i:Nat),d.drop i=I→i≤d.length→
  gY (aB P0.glob (aj P0) cx false mY) [4,39,40,41] [(4,.v (.s w)),(39,.v (.sl (aC d))),(40,.v (.i .i64 d.length)),(41,.v (.i .i64 i))] s=
   if I.all MN=true then .exit 0 [(4,.v (.s w)),(39,.v (.sl (aC d))),(40,.v (.i .i64 d.length)),(41,.v (.i .i64 d.length)),(42,.v (.b false))] s
   else .ret [(2,.v (.i .i64 0)),(3,.v (.b false))] s
 | [],i,h,hi=>by
  have h1:¬i<d.length:=Nat.not_lt.2 (drop_nil h);have h2:i=d.length:=by omega
  subst h2;refine ak fun K hK=>?_;simp -implicitDefEqProofs [mY]
 | b::r,i,h,hi=>by
  obtain ⟨h1,h2,h3,h4⟩:=drop_cons h;have hb:i<(aC d).length:=by rw [kM];exact h3
  have hg:=Es d i hb h1;have p:(aC d)[i]?=some (.i .u8 b.toNat):=by rw [List.getElem?_eq_getElem hb,hg]
  have A:=wI (i:=i) (by omega);have x:(i:Int)<(d.length:Int):=by omega
  rw [List.all_cons];cases q:MN b
  ·refine ak fun K hK=>?_;clear hK h4;have q2:¬(48≤(b.toNat:Int)∧(b.toNat:Int)≤57):=fun hh=>by rw [(QE b).2 hh] at q;cases q
   by_cases q3:(b.toNat:Int)<48
   ·simp -implicitDefEqProofs [mY,x,p,hg,hb,q3]
   ·have q4:57<(b.toNat:Int):=by omega
    simp -implicitDefEqProofs [mY,x,p,hg,hb,q3,q4]
  ·obtain ⟨q2,q3⟩:=(QE b).1 q;have q4:¬(b.toNat:Int)<48:=by omega
   have q5:¬57<(b.toNat:Int):=by omega
   have ih:=VA d w hd s cx r (i+1) h2 (by omega);refine ak fun K hK=>?_;rw [←hK,show ((i+1:Nat):Int)=(i:Int)+1 from rfl] at ih;clear hK h4;rw [Bool.true_and,←ih];clear ih;simp -implicitDefEqProofs [mY,x,p,hg,hb,q4,q5,A]
theorem XJ (b:UInt8) (w:Rl):(trimB b w).length≤w.length:=by
 unfold trimB
 cases w with
 | nil=>simp
 | cons c r=>simp only;split<;>simp
theorem adJ (t:Tk) (h2:t.1=3→2≤t.2.1.length) (hl:t.2.1.length≤100000) (s:St) (cx:Ctx):
  aj P0 (.fn (.func wQ) [] []) [fF t] s cx=.ret (.tu [.i .i64 ((ES t).getD 0),.b (ES t).isSome]) s:=by
 obtain ⟨k,w,a⟩:=t;refine Tj (by simp) ?_;unfold ES fF;simp only at h2 hl ⊢;by_cases q:k=3
 ·rw [if_pos q];have h3:=h2 q;have a2:=aff w;have a0:=XJ 45 (zO w);have w1:IntKind.i64.wrap ((w.length:Int) - 1)=(w.length:Int) - 1:=w64 (by omega) (by omega);have e1:=MV (zO w) 45;have h4:(1:Int)≤(w.length:Int):=by omega
  have h5:((w.length:Int) - 1).toNat=w.length - 1:=by omega
  have h6:w.tail.take (w.length - 1 - 1)=zO w:=by unfold zO;rw [Nat.sub_sub,List.drop_one]
  have h7:1≤w.length - 1:=by omega
  have I:=fun s cx=>VA (trimB 45 (zO w)) (zO w) (by omega) s cx (trimB 45 (zO w)) 0 rfl (by omega);rw [show ((0:Nat):Int)=0 from rfl] at I;have ha:=agc (s:=zO w);generalize hd:trimB 45 (zO w)=d at *;generalize zO w=x at *;by_cases q1:d.length<1
  ·rw [if_pos (.inl q1)];have P:(d.length:Int)<1:=by omega
   simp -implicitDefEqProofs [af,iP,q,dU,splice,w1,h4,h5,h6,h7,e1,P]
  by_cases q2:18<d.length
  ·rw [if_pos (.inr q2)];have P:¬(d.length:Int)<1:=by omega
   have S:18<(d.length:Int):=by omega
   simp -implicitDefEqProofs [af,iP,q,dU,splice,w1,h4,h5,h6,h7,e1,P,S]
  rw [if_neg (by omega)];have P:¬(d.length:Int)<1:=by omega
  have S:¬18<(d.length:Int):=by omega
  have a1:(18:Int)<(d.length:Int) ↔ False:=iff_false_intro S
  obtain ⟨c,r,J⟩:∃c r,d=c::r:=by
   cases d with
   | nil=>simp at q1
   | cons c r=>exact ⟨c,r,rfl⟩
  have key:∀z:Bool,decide (c=48∧x≠[48])=z→z=true→af P0.glob (aj P0) iP ([]++[.ag [.i .i64 k,.s w,.i .i64 a]]++[]) s cx=.ret (.tu [.i .i64 0,.b false]) s:=by
   intro z hz Z;rw [Z,decide_eq_true_eq] at hz;obtain ⟨hc,hx⟩:=hz;subst hc;have O:(d.length:Int)=(r.length:Int)+1:=by rw [J];simp
   rw [O] at P S;subst J;have q3:¬(r.length:Int)+1<1:=by omega
   have q4:¬18<(r.length:Int)+1:=by omega
   simp -implicitDefEqProofs [af,iP,q,dU,splice,w1,h4,h5,h6,h7,e1,q3,q4,hx]
  by_cases q5:d.head?=some 48∧x≠[48]
  ·rw [if_pos q5];exact key true (by rw [decide_eq_true_eq];rw [J] at q5;simpa using q5) rfl
  rw [if_neg q5];have q6:¬(c=48∧x≠[48]):=by rw [J] at q5;simpa using q5
  clear key q5;have Y:(c.toNat:Int)=48 ↔ c=48:=⟨fun hh=>UInt8.toNat_inj.1 (by have:(48:UInt8).toNat=48:=rfl;omega),fun hh=>by subst hh;rfl⟩;have p:(aC d).length=d.length:=kM d;have A:=I s ⟨s.length,s.length⟩;have O:(d.length:Int)=(r.length:Int)+1:=by rw [J];simp
  have K:d.all MN=true→∃n,atoi x=some n∧(x.length≤18∨(x.length=19∧x.head?=some 45)):=ha (by omega) (by omega)
  have Q:∀n,atoi x=some n→(x.length≤18∨(x.length=19∧x.head?=some 45))→∀(s:St) (cx:Ctx),aj P0 (.fn (.func BL) [] []) [.s x] s cx=.ret (.tu [.i .i64 n,.ni]) s:=fun n hn hx s cx=>
   sW (h:=I9 YI) rfl (by simp only [I9,YI,List.nil_append,List.append_nil];rw [if_pos hx,hn];rfl)
  have q3:¬(r.length:Int)+1<1:=by omega
  have q4:¬18<(r.length:Int)+1:=by omega
  by_cases q8:d.all MN=true
  ·rw [if_pos q8] at A ⊢;obtain ⟨n,hn,hx⟩:=K q8;have e2:=Q n hn hx;rw [hn];by_cases q7:c=48
   ·have R:x=[48]:=Classical.not_not.1 fun hh=>q6 ⟨q7,hh⟩;subst q7;clear K ha I Q;subst R;rw [J] at A e1 O p;simp at A p;simp -implicitDefEqProofs [af,iP,q,dU,splice,w1,h4,h5,h6,h7,e1,q3,q4,A,e2,p,UD]
   ·have W:¬(c.toNat:Int)=48:=fun hh=>q7 (Y.1 hh);clear K ha I Q;rw [J] at A e1 O p;simp at A p;simp -implicitDefEqProofs [af,iP,q,dU,splice,w1,h4,h5,h6,h7,e1,q3,q4,A,e2,q7,W,p,UD]
  ·rw [if_neg q8] at A ⊢;by_cases q7:c=48
   ·have R:x=[48]:=Classical.not_not.1 fun hh=>q6 ⟨q7,hh⟩;subst q7;clear K ha I Q;subst R;rw [J] at A e1 O p;simp at A p;simp -implicitDefEqProofs [af,iP,q,dU,splice,w1,h4,h5,h6,h7,e1,q3,q4,A,p]
   ·have W:¬(c.toNat:Int)=48:=fun hh=>q7 (Y.1 hh);clear K ha I Q;rw [J] at A e1 O p;simp at A p;simp -implicitDefEqProofs [af,iP,q,dU,splice,w1,h4,h5,h6,h7,e1,q3,q4,A,q7,W,p]
 ·rw [if_neg q];simp -implicitDefEqProofs [af,iP,q,dU,splice]
end Go.Ai.Z
namespace Go.Ai.Z
@[simp] theorem aii (t:Tk):(fF t).plain=fF t:=by simp [fF]
abbrev Ot (nm:Rl) (lo hi:Int):gq:=.cells [.i .i64 7,.s nm,.i .i64 lo,.i .i64 hi,.ns]
def ah5 (S:Rd→St) (nm:Rl) (lo hi:Int) (x:OR (Rl×Int×Int)):CO:=
 match x with
 | .ok v r=>.ret (.s v.1) (S r++[Ot nm v.2.1 v.2.2])
 | .er a c r=>.pan (flt a c) (S r++[Ot nm lo hi])
@[simp] theorem ab4 (S:Rd→St) (nm:Rl) (lo hi:Int) (v:Rl×Int×Int) (r:Rd):ah5 S nm lo hi (.ok v r)=.ret (.s v.1) (S r++[Ot nm v.2.1 v.2.2]):=rfl
@[simp] theorem ab5 (S:Rd→St) (nm:Rl) (lo hi:Int) (a:Nat) (c:Int) (r:Rd):ah5 S nm lo hi (.er a c r)=.pan (flt a c) (S r++[Ot nm lo hi]):=rfl
theorem ah4 (S:Rd→St) (nm:Rl) (lo hi:Int) (x:OR (Rl×Int×Int)):ah5 S nm lo hi x≠.fail:=by cases x<;>simp
section
variable {src:Rl} {S:Rd→St} {m N:Nat} (hE:yO src S m N)
include hE
theorem abT (nm other:Rl) (lo hi:Int) (r:Rd) (ha:Wr src r) (cx:Ctx) (hl:cx.lim≤m):
  aj P0 (.fn (.func lZ) [] []) [.pt (m+1) 0,.pt N 0,.s other] (S r++[Ot nm lo hi]) cx=ah5 S nm lo hi (Qm src other lo hi r):=by
 refine IJ (ah4 _ _ _ _ _) ?_;have hN:=hE.n;have hS:=hE.src;have I:=hE.lt;have x:=hE.app [Ot nm lo hi];have e1:=oZ x r ha.at_ ⟨cx.lim,N+1⟩ hl;have A:cx.lim≤N:=by omega
 unfold Qm
 cases hp:fM src r with
 | er a c r1=>
  rw [hp] at e1;simp only [dA] at e1;simp -implicitDefEqProofs [af,dh,hN,e1]
 | ok t r1=>
  rw [hp] at e1;obtain ⟨w1,w2⟩:=nP ha hp;obtain ⟨k,w,a⟩:=t;simp only [dD,fF] at e1;simp only [OR.bind_ok];cases qb:YV other w
  ·have e2:=qB x false r1 w1 ⟨cx.lim,N+1⟩ hl;obtain ⟨a2,c2,r2,hx⟩:=zB src r1;rw [hx] at e2 ⊢;simp only [dA] at e2;unfold YV at qb;by_cases q1:w=wA0
   ·rw [q1] at e1 qb;simp at qb;rw [←qb];simp -implicitDefEqProofs [af,dh,hN,e1,e2]
   ·by_cases q2:w=wA3
    ·rw [q2] at e1 qb;simp at qb;rw [←qb];simp -implicitDefEqProofs [af,dh,hN,e1,e2]
    ·simp -implicitDefEqProofs [af,dh,hN,e1,e2,q1,q2]
  ·have e2:=qB x true r1 w1 ⟨cx.lim,N+1⟩ hl;rw [oM] at e2 ⊢;simp only [dD] at e2;simp only [OR.bind_ok]
   have hw:(w=wA0∨w=wA3)∧¬w=other:=by
    unfold YV at qb
    simpa using qb
   obtain ⟨hw,p⟩:=hw;have e3:=Ii x w [120,115,100,58] r1 w1 ⟨cx.lim,N+1⟩ hl
   have g3:=wJ w1 w [120,115,100,58] (by rcases hw with hw|hw<;>rw [hw]<;>simp)
   cases h3:IK src w [120,115,100,58] r1 with
   | er a c r2=>
    rw [h3] at e3;simp only [dA] at e3
    rcases hw with hw|hw<;>rw [hw] at e1 e3 p<;>simp -implicitDefEqProofs [af,dh,hN,e1,e2,e3,p]
   | ok v3 r3=>
    rw [h3] at e3;have w3:=(g3.ok h3).1;simp only [dD] at e3;simp only [OR.bind_ok];have e4:=oZ x r3 w3.at_ ⟨cx.lim,N+1⟩ hl
    cases h4:fM src r3 with
    | er a c r4=>
     rw [h4] at e4;simp only [dA] at e4
     rcases hw with hw|hw<;>rw [hw] at e1 e3 p<;>simp -implicitDefEqProofs [af,dh,hN,e1,e2,e3,e4,p]
    | ok u r4=>
     rw [h4] at e4;obtain ⟨w4,k4⟩:=nP w3 h4;simp only [dD] at e4;simp only [OR.bind_ok];have e5:=adJ u (fun hk=>k4.two (.inr hk)) (by have:=k4.len;omega);have e6:=qB x (ES u).isSome r4 w4 ⟨cx.lim,N+1⟩ hl;have g6:=dM w4 (ES u).isSome;generalize (ES u).getD 0=n at *
     cases h6:oU src (ES u).isSome r4 with
     | er a c r5=>
      rw [h6] at e6;simp only [dA] at e6;generalize (ES u).isSome=b at *
      rcases hw with hw|hw<;>rw [hw] at e1 e3 p<;>simp -implicitDefEqProofs [af,dh,hN,e1,e2,e3,e4,e5,e6,p]
     | ok v5 r5=>
      rw [h6] at e6;have w5:=(g6.ok h6).1;simp only [dD] at e6;simp only [OR.bind_ok];have e7:=lJ x r5 ⟨cx.lim,N+1⟩ hl;have w7:=dV w5;have e8:=iI x [94,94] (bQ r5) w7 ⟨cx.lim,N+1⟩ hl;have g8:=aF w7 [94,94] (by simp);generalize (ES u).isSome=b at *
      cases h8:jM src [94,94] (bQ r5) with
      | er a c r8=>
       rw [h8] at e8;simp only [dA] at e8
       rcases hw with hw|hw<;>rw [hw] at e1 e3 p<;>simp -implicitDefEqProofs [af,dh,hN,e1,e2,e3,e4,e5,e6,e7,e8,p]
      | ok v8 r8=>
       rw [h8] at e8;have w8:=(g8.ok h8).1;simp only [dD] at e8;simp only [OR.bind_ok];have e9:=Ii x wA1 [120,115,100,58] r8 w8 ⟨cx.lim,N+1⟩ hl
       cases h9:IK src wA1 [120,115,100,58] r8 with
       | er a c r9=>
        rw [h9] at e9;simp only [dA] at e9
        rcases hw with hw|hw<;>rw [hw] at e1 e3 p<;>simp -implicitDefEqProofs [af,dh,hN,e1,e2,e3,e4,e5,e6,e7,e8,e9,p]
       | ok v9 r9=>
        rw [h9] at e9;simp only [dD] at e9;have hg:=hE.gN r9 (Ot nm lo hi) [];have hs:=fun y=>hE.sN r9 (Ot nm lo hi) y [];unfold Ot at *
        rcases hw with hw|hw<;>rw [hw] at e1 e3 p ⊢<;>simp -implicitDefEqProofs [af,dh,hN,e1,e2,e3,e4,e5,e6,e7,e8,e9,p,hg,hs,A,Ot]
end
end Go.Ai.Z
namespace Go.Ai.Z
def zC:C:=C.mk 0 [] 0 0 true []
def axC (k:Int) (l r:C):Ax:=⟨k,false,l,r,true,[],[],[],[]⟩
def oH (src:Rl):Nat→Rd→OR Unit
 | 0,r=>.er 0 50 r
 | n+1,r=>(isR src wC1 r).bind fun b r=>
  if b=true then
   (jM src [40] (bQ r)).bind fun _ r=>(nG src r).bind fun s r=>(fM src r).bind fun t r=>(oU src (decide (t.1=3)) r).bind fun _ r=>(jM src [41] (bQ r)).bind fun _ r=>
    oH src n { r with op:=r.op || (decide (s=[111,112,101,110]) && decide (t.2.1=wD0)) }
  else .ok () r
def Ei (w:Rl):Bool:=decide (w=[67,108,97,115,115]) || decide (w=wC7) || decide (w=wD1) || decide (w=wC4)
def TI (src:Rl) (r:Rd):OR (List Ax):=
 (fM src r).bind fun t r=>(oU src (Ei t.2.1) r).bind fun _ r=>(jM src [40] (bQ r)).bind fun _ r=>(nG src r).bind fun _ r=>(jM src [41] r).bind fun _ r=>.ok [] r
def ZJ (src:Rl) (n:Nat) (r:Rd):OR (List Ax):=
 (oH src n r).bind fun _ r=>(xC src n r).bind fun a r=>(xC src n r).bind fun b r=>.ok [axC 1 a b] r
def Kv:List C→List Ax
 | []=>[]
 | [_]=>[]
 | a::b::r=>axC 2 a b::Kv (b::r)
def IL:List C→List Ax→List Ax
 | [],x=>x
 | a::r,x=>if 1024<x.length then x else IL r (x++r.map (axC 3 a))
def aaB (src:Rl) (n:Nat) (r:Rd):OR (List Ax):=(oH src n r).bind fun _ r=>(mW src (xC src n) 2 n [] r).bind fun l r=>.ok (Kv l) r
def aaI (src:Rl) (n:Nat) (r:Rd):OR (List Ax):=(oH src n r).bind fun _ r=>(mW src (xC src n) 2 n [] r).bind fun l r=>.ok (IL l []) r
def aaE (src:Rl) (n:Nat) (r:Rd):OR (List Ax):=
 (oH src n r).bind fun _ r=>(nG src r).bind fun s r=>(xC src n r).bind fun c r=>.ok [⟨4,false,zC,c,true,[],s,[],[]⟩] r
def X7 (src:Rl) (n:Nat) (r:Rd):OR (List Ax):=
 (oH src n r).bind fun _ r=>(isR src wA2 r).bind fun b r=>
  if b=true then (jM src [40] (bQ r)).bind fun _ r=>(mW src (nG src) 2 n [] r).bind fun l r=>(jM src [41] r).bind fun _ r=>(nG src r).bind fun s r=>.ok [⟨6,false,zC,zC,false,l,s,[],[]⟩] r
  else (nG src r).bind fun a r=>(nG src r).bind fun s r=>.ok [⟨5,false,zC,zC,false,[a],s,[],[]⟩] r
def ZW (src:Rl) (n:Nat) (r:Rd):OR (List Ax):=(oH src n r).bind fun _ r=>(nG src r).bind fun s r=>.ok [⟨7,false,zC,zC,true,[],s,[],[]⟩] r
def ZH (src:Rl) (n:Nat) (r:Rd):OR (List Ax):=(oH src n r).bind fun _ r=>(xC src n r).bind fun c r=>(nG src r).bind fun a r=>.ok [⟨8,false,zC,c,true,[],[],a,[]⟩] r
def aaj (src:Rl) (n:Nat) (r:Rd):OR (List Ax):=
 (oH src n r).bind fun _ r=>(nG src r).bind fun s r=>(nG src r).bind fun a r=>(nG src r).bind fun b r=>.ok [⟨9,false,zC,zC,true,[],s,a,b⟩] r
def acQ (w:Rl):Bool:=decide (w=wC9) || decide (w=wC3) || decide (w=wB3) || decide (w=wB6) || decide (w=wB2) || decide (w=wA4) || decide (w=wA9) || decide (w=wB9) || decide (w=wB0)
def D6 (src:Rl) (n:Nat) (w:Rl) (r:Rd):OR (List Ax):=
 if w=wC9 then TI src r
 else if w=wC3 then ZJ src n r
 else if w=wB3 then aaB src n r
 else if w=wB6 then aaI src n r
 else if w=wB2 then aaE src n r
 else if w=wA4 then X7 src n r
 else if w=wA9 then ZW src n r
 else if w=wB9 then ZH src n r
 else aaj src n r
def axV (N:Nat) (l:List Ax):AV:=match l with | []=>.ns|x::r=>.st N ((x::r).map cu)
def Ad (N a0:Nat):List Ax→List Ax→Rd→OR (List Ax)
 | [],l,r=>.ok l r
 | x::xs,l,r=>if fH { x with op:=r.op }=0 then Ad N a0 xs (l++[{ x with op:=r.op }]) { r with ax:=axV N (l++[{ x with op:=r.op }]) } else .er a0 (fH { x with op:=r.op }) r
def Bo (src:Rl) (n N:Nat) (l:List Ax) (r:Rd):OR (List Ax):=
 (fM src r).bind fun t r=>(oU src (acQ t.2.1) r).bind fun _ r=>(jM src [40] (bQ r)).bind fun _ r=>(D6 src n t.2.1 { r with op:=false }).bind fun xs r=>
  (jM src [41] r).bind fun _ r=>(Ad N t.2.2 xs l r).bind fun l r=>if 1024<l.length then .er t.2.2 2 r else .ok l r
def PY (pre:List Rl) (t:Tk):Bool:=
 decide (t.1=4) && decide (Go.Lib.indexByte t.2.1 58=(t.2.1.length:Int) - 1) && (decide (t.2.1=[58]) || (match t.2.1 with | []=>false|c::_=>ltI c.toNat)) && !decide (t.2.1∈pre)
def xY (w:Rl) (u:Tk):Bool:=
 decide (u.1=2) && (!decide (w=[111,119,108,58]) || decide (u.2.1=wC2)) && (!decide (w=[120,115,100,58]) || decide (u.2.1=wC0))
def Cb (src:Rl) (r:Rd):OR Unit:=
 (jM src wB7 r).bind fun _ r=>(jM src [40] r).bind fun _ r=>(fM src r).bind fun t r=>(oU src (PY r.pre t) r).bind fun _ r=>(jM src [61] (bQ r)).bind fun _ r=>
  (fM src r).bind fun u r=>(oU src (xY t.2.1 u) r).bind fun _ r=>(jM src [41] (bQ r)).bind fun _ r=>
   .ok () { r with pre:=qJ r.pre t.2.1,iri:=if t.2.1=[58] then zO u.2.1 else r.iri }
def pK (src:Rl):Nat→Rd→OR Unit
 | 0,r=>.er 0 50 r
 | n+1,r=>(isR src wB7 r).bind fun b r=>if b=true then (Cb src r).bind fun _ r=>pK src n r else .ok () r
def Ae (src:Rl):Nat→Rd→OR Unit
 | 0,r=>.ok () r
 | k+1,r=>(fM src r).bind fun t r=>if t.1=2 then Ae src k (bQ r) else .ok () r
def zM (src:Rl) (n N:Nat):Nat→List Ax→Rd→OR (List Ax)
 | 0,_,r=>.er 0 50 r
 | k+1,l,r=>(isR src [41] r).bind fun b r=>if b=true then .ok l r else (Bo src n N l r).bind fun l r=>zM src n N k l r
def ML (src:Rl) (n N:Nat) (r:Rd):OR (List Ax):=
 (pK src n r).bind fun _ r=>(isR src wB5 r).bind fun b r=>(oU src (b && decide ([58]∈r.pre)) r).bind fun _ r=>(jM src [40] (bQ r)).bind fun _ r=>
  (Ae src 2 r).bind fun _ r=>(zM src n N n [] r).bind fun l r=>(fM src (bQ r)).bind fun t r=>(oU src (decide (t.1=5)) r).bind fun _ r=>.ok l r
end Go.Ai.Z
namespace Go.Ai.Z
theorem y9 (k:Int) (n:Rl) (l h:Int):AV.ag [.i .i64 k,.s n,.i .i64 l,.i .i64 h,.ns]=aJ (.mk k n l h true []):=by
 rw [yD];rfl
@[simp] theorem alR (S:St) (n:Nat) (c:C):frz S n (aJ c)=some (aJ c):=by simp [frz]
theorem VH (k:Int) (n:Rl) (l h:Int) (c:C) (ps:List C):AV.ag [.i .i64 k,.s n,.i .i64 l,.i .i64 h,.sl (aJ c::ps.map aJ)]=aJ (.mk k n l h false (c::ps)):=by
 rw [yD (.mk k n l h false (c::ps))];rfl
section
variable {src:Rl} {S:Rd→St} {m N:Nat} (hE:yO src S m N)
include hE
theorem ame (r:Rd) (ha:Wr src r) (cx:Ctx) (hl:cx.lim≤m):
  aj P0 (.fn (.func kQ) [] []) [.pt (m+1) 0] (S r) cx=uy aJ S (Us src wB4 1 r):=by
 refine Md (jU _ _ _) ?_;have hN:=hE.n;unfold Us;obtain ⟨a,c,q,hx,e1⟩|⟨v1,r1,h1,e1,g1⟩:=spl (Ii hE wB4 [111,119,108,58] r ha ⟨cx.lim,N⟩ hl) (wJ ha wB4 [111,119,108,58] (by simp))
 ·rw [hx];simp -implicitDefEqProofs [af,pV,hN,e1]
 rw [h1];simp only [OR.bind_ok];have w1:=g1.1;simp -implicitDefEqProofs [af,pV,hN,e1,dU,splice,y9]
theorem af6 (r:Rd) (ha:Wr src r) (cx:Ctx) (hl:cx.lim≤m):
  aj P0 (.fn (.func iY) [] []) [.pt (m+1) 0] (S r) cx=uy aJ S (Us src wB1 2 r):=by
 refine G6 (jU _ _ _) ?_;have hN:=hE.n;unfold Us;obtain ⟨a,c,q,hx,e1⟩|⟨v1,r1,h1,e1,g1⟩:=spl (Ii hE wB1 [111,119,108,58] r ha ⟨cx.lim,N⟩ hl) (wJ ha wB1 [111,119,108,58] (by simp))
 ·rw [hx];simp -implicitDefEqProofs [af,mP,hN,e1]
 rw [h1];simp only [OR.bind_ok];have w1:=g1.1;simp -implicitDefEqProofs [af,mP,hN,e1,dU,splice,y9]
theorem adH (r:Rd) (ha:Wr src r) (cx:Ctx) (hl:cx.lim≤m):
  aj P0 (.fn (.func iE) [] []) [.pt (m+1) 0] (S r) cx=uy aJ S (Yi src r):=by
 refine FW (jU _ _ _) ?_;have hN:=hE.n;unfold Yi;have e1:=lJ hE r ⟨cx.lim,N⟩ hl;have w1:=dV ha;obtain ⟨a,c,q,hx,e2⟩|⟨v2,r2,h2,e2,g2⟩:=spl (iI hE [40] (bQ r) w1 ⟨cx.lim,N⟩ hl) (aF w1 [40] (by simp))
 ·rw [hx];simp -implicitDefEqProofs [af,iZ,hN,e1,e2]
 rw [h2];simp only [OR.bind_ok];have w2:=g2.1;obtain ⟨a,c,q,hx,e3⟩|⟨s,r3,h3,e3,g3⟩:=spl (qY hE r2 w2 ⟨cx.lim,N⟩ hl) (bn w2)
 ·rw [hx];simp -implicitDefEqProofs [af,iZ,hN,e1,e2,e3]
 rw [h3];simp only [OR.bind_ok];have w3:=g3.1;obtain ⟨a,c,q,hx,e4⟩|⟨v4,r4,h4,e4,g4⟩:=spl (iI hE [41] r3 w3 ⟨cx.lim,N⟩ hl) (aF w3 [41] (by simp))
 ·rw [hx];simp -implicitDefEqProofs [af,iZ,hN,e1,e2,e3,e4]
 rw [h4];simp only [OR.bind_ok];have w4:=g4.1;simp -implicitDefEqProofs [af,iZ,hN,e1,e2,e3,e4,dU,splice,y9]
theorem ajA (r:Rd) (ha:Wr src r) (cx:Ctx) (hl:cx.lim≤m):
  aj P0 (.fn (.func jS) [] []) [.pt (m+1) 0] (S r) cx=uy aJ S (Px src r):=by
 refine Ko (jU _ _ _) ?_;have hN:=hE.n;have c4:=hE.lt;have p:cx.lim≤N:=by omega
 unfold Px ZR Yp;have e1:=lJ hE r ⟨cx.lim,N⟩ hl;have w1:=dV ha;obtain ⟨a,c,q,hx,e2⟩|⟨v2,r2,h2,e2,g2⟩:=spl (iI hE [40] (bQ r) w1 ⟨cx.lim,N⟩ hl) (aF w1 [40] (by simp))
 ·rw [hx];simp -implicitDefEqProofs [af,aT,hN,p,hE.gN,hE.sN,hE.tk,dU,splice,e1,e2]
 rw [h2];simp only [OR.bind_ok];have w2:=g2.1;obtain ⟨a,c,q,hx,e3⟩|⟨s,r3,h3,e3,g3⟩:=spl (qY hE r2 w2 ⟨cx.lim,N⟩ hl) (bn w2)
 ·rw [hx];simp -implicitDefEqProofs [af,aT,hN,p,hE.gN,hE.sN,hE.tk,dU,splice,e1,e2,e3]
 rw [h3];simp only [OR.bind_ok];have w3:=g3.1;have hB:=hE.app [Ot s (-1099511627776) 1099511627776];obtain ⟨a,c,q,hx,e4⟩|⟨b,r4,h4,e4,g4⟩:=spl (KE hB wA5 r3 w3 ⟨cx.lim,N⟩ hl) (fV w3 wA5)
 ·rw [hx];simp -implicitDefEqProofs [af,aT,hN,p,hE.gN,hE.sN,hE.tk,dU,splice,e1,e2,e3,e4]
 rw [h4];simp only [OR.bind_ok];have w4:=g4.1
 cases b with
 | false=>
  simp only [Bool.false_eq_true,if_false,OR.bind_ok,if_neg];obtain ⟨a,c,q,hx,e5⟩|⟨v5,r5,h5,e5,g5⟩:=spl (Ii hB wA1 [120,115,100,58] r4 w4 ⟨cx.lim,N⟩ hl) (wJ w4 wA1 [120,115,100,58] (by simp))
  ·rw [hx];simp -implicitDefEqProofs [af,aT,hN,p,hE.gN,hE.sN,hE.tk,dU,splice,e1,e2,e3,e4,e5]
  rw [h5];simp only [OR.bind_ok];have w5:=g5.1;obtain ⟨a,c,q,hx,e6⟩|⟨v6,r6,h6,e6,g6⟩:=spl (iI hB [41] r5 w5 ⟨cx.lim,N⟩ hl) (aF w5 [41] (by simp))
  ·rw [hx];simp -implicitDefEqProofs [af,aT,hN,p,hE.gN,hE.sN,hE.tk,dU,splice,e1,e2,e3,e4,e5,e6]
  rw [h6];simp only [OR.bind_ok];have w6:=g6.1;simp -implicitDefEqProofs [af,aT,hN,p,hE.gN,hE.sN,hE.tk,dU,splice,e1,e2,e3,e4,e5,e6,y9]
 | true=>
  simp only [if_true,OR.bind_ok];have e7:=lJ hB r4 ⟨cx.lim,N⟩ hl;have w7:=dV w4;obtain ⟨a,c,q,hx,e8⟩|⟨v8,r8,h8,e8,g8⟩:=spl (iI hB [40] (bQ r4) w7 ⟨cx.lim,N⟩ hl) (aF w7 [40] (by simp))
  ·rw [hx];simp -implicitDefEqProofs [af,aT,hN,p,hE.gN,hE.sN,hE.tk,dU,splice,e1,e2,e3,e4,e7,e8]
  rw [h8];simp only [OR.bind_ok];have w8:=g8.1;obtain ⟨a,c,q,hx,e9⟩|⟨v9,r9,h9,e9,g9⟩:=spl (Ii hB wA1 [120,115,100,58] r8 w8 ⟨cx.lim,N⟩ hl) (wJ w8 wA1 [120,115,100,58] (by simp))
  ·rw [hx];simp -implicitDefEqProofs [af,aT,hN,p,hE.gN,hE.sN,hE.tk,dU,splice,e1,e2,e3,e4,e7,e8,e9]
  rw [h9];simp only [OR.bind_ok];have w9:=g9.1;have A:=abT hE s [] (-1099511627776) (1099511627776) r9 w9 ⟨cx.lim,N⟩ hl;have a8:=LZ w9 [] (-1099511627776) (1099511627776)
  cases h10:Qm src [] (-1099511627776) (1099511627776) r9 with
  | er a10 c10 r10=>
   rw [h10] at A;simp only [ab5] at A;simp -implicitDefEqProofs [af,aT,hN,p,hE.gN,hE.sN,hE.tk,dU,splice,e1,e2,e3,e4,e7,e8,e9,A]
  | ok x r10=>
   rw [h10] at A;have a3:=(a8.ok h10).1;simp only [ab4] at A;simp only [OR.bind_ok];have W:=hE.app [Ot s x.2.1 x.2.2];obtain ⟨a,c,q,hx,I⟩|⟨b2,Q,b5,I,a4⟩:=spl (KE W [41] r10 a3 ⟨cx.lim,N⟩ hl) (fV a3 [41])
   ·rw [hx];simp -implicitDefEqProofs [af,aT,hN,p,hE.gN,hE.sN,hE.tk,dU,splice,e1,e2,e3,e4,e7,e8,e9,A,I]
   rw [b5];simp only [OR.bind_ok];have O:=a4.1
   cases b2 with
   | false=>
    simp only [Bool.false_eq_true,if_false,OR.bind_ok,if_neg];have J:=abT hE s x.1 (x.2.1) (x.2.2) Q O ⟨cx.lim,N⟩ hl;have a9:=LZ O x.1 x.2.1 x.2.2
    cases h12:Qm src x.1 (x.2.1) (x.2.2) Q with
    | er a12 c12 r12=>
     rw [h12] at J;simp only [ab5] at J;simp -implicitDefEqProofs [af,aT,hN,p,hE.gN,hE.sN,hE.tk,dU,splice,e1,e2,e3,e4,e7,e8,e9,A,I,J]
    | ok y r12=>
     rw [h12] at J;have a0:=(a9.ok h12).1;simp only [ab4] at J;simp only [OR.bind_ok];have Z:=hE.app [Ot s y.2.1 y.2.2];obtain ⟨a,c,q,hx,P⟩|⟨c6,b6,a5,P,a7⟩:=spl (iI Z [41] r12 a0 ⟨cx.lim,N⟩ hl) (aF a0 [41] (by simp))
     ·rw [hx];simp -implicitDefEqProofs [af,aT,hN,p,hE.gN,hE.sN,hE.tk,dU,splice,e1,e2,e3,e4,e7,e8,e9,A,I,J,P]
     rw [a5];simp only [OR.bind_ok];have a2:=a7.1;obtain ⟨a,c,q,hx,Y⟩|⟨c2,c5,b4,Y,b1⟩:=spl (iI Z [41] b6 a2 ⟨cx.lim,N⟩ hl) (aF a2 [41] (by simp))
     ·rw [hx];simp -implicitDefEqProofs [af,aT,hN,p,hE.gN,hE.sN,hE.tk,dU,splice,e1,e2,e3,e4,e7,e8,e9,A,I,J,P,Y]
     rw [b4];simp only [OR.bind_ok];have c7:=b1.1;simp -implicitDefEqProofs [af,aT,hN,p,hE.gN,hE.sN,hE.tk,dU,splice,e1,e2,e3,e4,e7,e8,e9,A,I,J,P,Y,y9]
   | true=>
    simp only [if_true,OR.bind_ok];obtain ⟨a,c,q,hx,K⟩|⟨b9,b7,b3,K,b0⟩:=spl (iI W [41] Q O ⟨cx.lim,N⟩ hl) (aF O [41] (by simp))
    ·rw [hx];simp -implicitDefEqProofs [af,aT,hN,p,hE.gN,hE.sN,hE.tk,dU,splice,e1,e2,e3,e4,e7,e8,e9,A,I,K]
    rw [b3];simp only [OR.bind_ok];have a1:=b0.1;obtain ⟨a,c,q,hx,R⟩|⟨c1,c3,a6,R,b8⟩:=spl (iI W [41] b7 a1 ⟨cx.lim,N⟩ hl) (aF a1 [41] (by simp))
    ·rw [hx];simp -implicitDefEqProofs [af,aT,hN,p,hE.gN,hE.sN,hE.tk,dU,splice,e1,e2,e3,e4,e7,e8,e9,A,I,K,R]
    rw [a6];simp only [OR.bind_ok];have c0:=b8.1;simp -implicitDefEqProofs [af,aT,hN,p,hE.gN,hE.sN,hE.tk,dU,splice,e1,e2,e3,e4,e7,e8,e9,A,I,K,R,y9]
end
end Go.Ai.Z
