/-
 The reader of ontology documents: how it measures tokens.
-/
import Derived.Test.YtcofenimejmoeaaGreatDoorAiOW6OW7OW8OW9OW10OW11OX0OW12OW13OW14OW15OW16OW17
import Derived.Test.YtcofenimejmoeaaGreatDoorAiRchR1R2R3R4R5
set_option maxRecDepth 100000
set_option linter.unusedSimpArgs false
set_option linter.unusedVariables false
set_option linter.unusedSectionVars false
namespace Go.Ai.Z
open Go.Ai
def ltI (k:Int):Bool:=decide (97≤k) && decide (k≤122) || decide (65≤k) && decide (k≤90)
def wdI (k:Int):Bool:=ltI k || decide (48≤k) && decide (k≤57) || decide (k=95) || decide (k=58)
def stI (k:Int):Bool:=decide (32≤k) && decide (k≤126) && decide (k≠34)
def Tn (b:UInt8):Bool:=acT b.toNat
def Rx (b:UInt8):Bool:=stI b.toNat
def DL (b:UInt8):Bool:=wdI b.toNat
def zK (b:UInt8):Bool:=decide ((b.toNat:Int)≠10)
theorem NS (b:UInt8) (s:St) (cx:Ctx):aj P0 (.fn (.func oH) [] []) [.i .u8 b.toNat] s cx=.ret (.b (stI b.toNat)) s:=by
 refine KJ (by simp) ?_;unfold stI;by_cases q1:32≤(b.toNat:Int)
 ·by_cases q2:(b.toNat:Int)≤126
  ·by_cases q5:(b.toNat:Int)=34
   ·simp -implicitDefEqProofs [af,kU,q1,q2,q5]
   ·simp -implicitDefEqProofs [af,kU,q1,q2,q5]
  ·simp -implicitDefEqProofs [af,kU,q1,q2]
 ·simp -implicitDefEqProofs [af,kU,q1]
theorem qR (k:Int) (s:St) (cx:Ctx):aj P0 (.fn (.func oG) [] []) [.i .u8 k] s cx=.ret (.b (ltI k)) s:=by
 refine KI (by simp) ?_;unfold ltI
 by_cases q1:97≤k<;>by_cases q2:k≤122<;>by_cases q3:65≤k<;>by_cases q4:k≤90 <;>
  simp -implicitDefEqProofs [af,sK,q1,q2,q3,q4]
theorem QX (b:UInt8) (s:St) (cx:Ctx):aj P0 (.fn (.func rH) [] []) [.i .u8 b.toNat] s cx=.ret (.b (wdI b.toNat)) s:=by
 refine OC (by simp) ?_;have e1:=qR b.toNat;unfold wdI;cases h0:ltI b.toNat
 ·rw [h0] at e1;by_cases q1:48≤(b.toNat:Int)
  ·by_cases q2:(b.toNat:Int)≤57
   ·simp -implicitDefEqProofs [af,ja,e1,q1,q2]
   ·by_cases q3:(b.toNat:Int)=95
    ·rw [q3] at e1;simp -implicitDefEqProofs [af,ja,e1,q1,q2,q3]
    ·by_cases q4:(b.toNat:Int)=58
     ·rw [q4] at e1;simp -implicitDefEqProofs [af,ja,e1,q1,q2,q3,q4]
     ·simp -implicitDefEqProofs [af,ja,e1,q1,q2,q3,q4]
  ·by_cases q3:(b.toNat:Int)=95
   ·rw [q3] at e1;simp -implicitDefEqProofs [af,ja,e1,q1,q3]
   ·by_cases q4:(b.toNat:Int)=58
    ·rw [q4] at e1;simp -implicitDefEqProofs [af,ja,e1,q1,q3,q4]
    ·simp -implicitDefEqProofs [af,ja,e1,q1,q3,q4]
 ·rw [h0] at e1;simp -implicitDefEqProofs [af,ja,e1]
theorem Uf (b:UInt8) (s:St) (cx:Ctx):aj P0 (.fn (.func jJ) [] []) [.i .u8 b.toNat] s cx=.ret (.b (zK b)) s:=by
 refine CS (by simp) ?_;unfold zK
 by_cases q:(b.toNat:Int)=10<;>simp -implicitDefEqProofs [af,mM,q]
def jK (p:UInt8→Bool) (l:Rl):Nat:=(l.takeWhile p).length
theorem KU (p:UInt8→Bool) (l:Rl):jK p l≤l.length:=(List.takeWhile_sublist _).length_le
def aax (F:Nat) (p:UInt8→Bool):Prop:=∀(b:UInt8) (s:St) (cx:Ctx),aj P0 (.fn (.func F) [] []) [.i .u8 b.toNat] s cx=.ret (.b (p b)) s
theorem zN (l:Rl) (i:Nat) (h:i<(aF l).length) {b:UInt8} (hb:l[i]?=some b):(aF l)[i]=.i .u8 b.toNat:=by
 have hl:i<l.length:=by rw [kR] at h;exact h
 rw [List.getElem?_eq_getElem hl,Option.some_inj] at hb;simp [aF,hb]
theorem NV (l:Rl) (n:Nat):(aF l).drop n=aF (l.drop n):=by simp [aF,List.map_drop]
theorem Vy (l:Rl) (n:Nat):(aF l).take n=aF (l.take n):=by simp [aF,List.map_take]
theorem yJ {l:Rl}:(∀z∈aF l,z.cells.length=1)=True:=eq_true (by
 intro z hz;unfold aF at hz;obtain ⟨b,_,rfl⟩:=List.mem_map.1 hz
 rfl)
theorem Nj (F:Nat) (p:UInt8→Bool) (hF:aax F p) (l:Rl) (hl:l.length≤1000000) (s:St) (cx:Ctx):∀(rest:Rl) (i:Nat),l.drop i=rest→i≤l.length→
  jw (aA P0.glob (aj P0) cx false qM) [0,1,4] [(0,.v (.sl (aF l))),(1,.v (.fn (.func F) [] [])),(4,.v (.i .i64 i))] s=
   .exit 0 [(0,.v (.sl (aF l))),(1,.v (.fn (.func F) [] [])),(4,.v (.i .i64 ((i+jK p rest:Nat):Int))),(16,.v (.b false))] s
 | [],i,h,hi=>by
  have h1:¬i<l.length:=Nat.not_lt.2 (drop_nil h);have hb:¬i<(aF l).length:=by rw [kR];exact h1
  refine ay fun K hK=>?_;simp -implicitDefEqProofs [qM,hb,jK]
 | b::r,i,h,hi=>by
  obtain ⟨h1,h2,h3,h4⟩:=drop_cons h;have hb:i<(aF l).length:=by rw [kR];exact h3
  have hg:=zN l i hb h1;have hwi:=wI (i:=i) (by omega);have e1:=hF b;cases q:p b
  ·rw [q] at e1;refine ay fun K hK=>?_;clear hK h4;have hs:jK p (b::r)=0:=by simp [jK,q]
   rw [hs];simp -implicitDefEqProofs [qM,hb,hg,e1]
  ·rw [q] at e1;have ih:=Nj F p hF l hl s cx r (i+1) h2 (by omega);refine ay fun K hK=>?_;rw [←hK,show ((i+1:Nat):Int)=(i:Int)+1 from rfl] at ih;clear hK h4;have hs:i+jK p (b::r)=i+1+jK p r:=by simp [jK,q];omega
   rw [hs,←ih];clear ih;simp -implicitDefEqProofs [qM,hb,hg,e1,hwi]
theorem FY (F:Nat) (p:UInt8→Bool) (hF:aax F p) (l:Rl) (hl:l.length≤1000000) (s:St) (cx:Ctx):
  aj P0 (.fn (.func tN) [] []) [.sl (aF l),.fn (.func F) [] []] s cx=.ret (.i .i64 (jK p l)) s:=by
 have h:=Nj F p hF l hl s ⟨cx.lim,s.length⟩ l 0 rfl (by omega);rw [show ((0:Nat):Int)=0 from rfl,Nat.zero_add] at h;refine TF (by simp) ?_;simp -implicitDefEqProofs [af,yH,h]
def Jd (p:UInt8→Bool) (e:UInt8) (l:Rl):Nat:=if l[1+jK p l.tail]?=some e then 2+jK p l.tail else 0
theorem Dj (F:Nat) (p:UInt8→Bool) (hF:aax F p) (e c:UInt8) (r:Rl) (hl:r.length≤100000) (s:St) (cx:Ctx):
  aj P0 (.fn (.func oI) [] []) [.sl (aF (c::r)),.fn (.func F) [] [],.i .u8 e.toNat] s cx=.ret (.i .i64 (Jd p e (c::r))) s:=by
 have e1:=FY F p hF r (by omega);have h1:=KU p r;refine KL (by simp) ?_;unfold Jd;rw [List.tail_cons];have hg:(c::r)[1+jK p r]?=r[jK p r]?:=by rw [Nat.add_comm];rfl
 rw [hg];have w1:IntKind.i64.wrap (1+(jK p r:Int))=1+jK p r:=w64 (by omega) (by omega);have w2:IntKind.i64.wrap (1+(jK p r:Int)+1)=1+jK p r+1:=w64 (by omega) (by omega);have hn:(aF (c::r)).length=r.length+1:=by rw [kR];rfl
 have hd:(aF (c::r)).drop 1=aF r:=rfl;have hcl:=yJ (l:=c::r);have htk:(aF r).take r.length=aF r:=List.take_of_length_le (by rw [kR];omega);by_cases q:r[jK p r]?=some e
 ·have h2:jK p r<r.length:=(List.getElem?_eq_some_iff.1 q).1;have hb:1+jK p r<(aF (c::r)).length:=by rw [hn];omega
  have hgt:(aF (c::r))[1+jK p r]?=some (.i .u8 e.toNat):=by rw [List.getElem?_eq_getElem hb,zN (c::r) (1+jK p r) hb (by rw [hg];exact q)]
  have h0:(0:Int)≤1+(jK p r:Int):=by omega
  have hne:¬(1+(jK p r:Int))=(r.length:Int)+1:=by omega
  have htn:(1+(jK p r:Int)).toNat=1+jK p r:=by omega
  rw [if_pos q];have hfin:((2+jK p r:Nat):Int)=1+(jK p r:Int)+1:=by omega
  rw [hfin];generalize hB:aF (c::r)=B at *;generalize aF r=B2 at *;simp -implicitDefEqProofs [af,lY,hcl,htk,e1,w1,w2,hn,hd,hne,htn,h0,hgt]
 ·rw [if_neg q];generalize hB:aF (c::r)=B at *;generalize aF r=B2 at *;by_cases h2:jK p r=r.length
  ·have hne:(1+(r.length:Int))=(r.length:Int)+1:=by omega
   rw [h2] at e1;have w1:IntKind.i64.wrap ((r.length:Int)+1)=(r.length:Int)+1:=w64 (by omega) (by omega);simp -implicitDefEqProofs [af,lY,hcl,htk,e1,w1,hn,hd,hne]
  ·have h3:jK p r<r.length:=by omega
   have hb:1+jK p r<B.length:=by rw [hn];omega
   have h0:(0:Int)≤1+(jK p r:Int):=by omega
   have hgt:B[1+jK p r]?=some (.i .u8 (r[jK p r].toNat:Int)):=by
    subst hB;rw [List.getElem?_eq_getElem hb,zN (c::r) (1+jK p r) hb (by rw [hg];exact List.getElem?_eq_getElem h3)]
   have hne:¬(1+(jK p r:Int))=(r.length:Int)+1:=by omega
   have htn:(1+(jK p r:Int)).toNat=1+jK p r:=by omega
   have hv:¬((r[jK p r].toNat:Int)=(e.toNat:Int)):=fun h=>q (by
    rw [List.getElem?_eq_getElem h3]
    congr 1
    exact UInt8.toNat_inj.1 (by omega))
   simp -implicitDefEqProofs [af,lY,hcl,htk,e1,w1,hn,hd,hne,htn,h0,hgt,hv]
end Go.Ai.Z
namespace Go.Ai.Z
open Go.Ai
def jv:Rl→Int×Nat
 | []=>(4,0)
 | c::r=>
  if (c.toNat:Int)=40∨(c.toNat:Int)=41∨(c.toNat:Int)=61 then (1,1)
  else if (c.toNat:Int)=94 then (1,if r.head?=some 94 then 2 else 0)
  else if (c.toNat:Int)=60 then (2,Jd Tn 62 (c::r))
  else if (c.toNat:Int)=34 then (3,Jd Rx 34 (c::r))
  else (4,jK DL (c::r))
theorem OL (c:UInt8) (r:Rl) (hl:r.length≤100000) (s:St) (cx:Ctx):
  aj P0 (.fn (.func sD) [] []) [.sl (aF (c::r))] s cx=.ret (.tu [.i .i64 (jv (c::r)).1,.i .i64 (jv (c::r)).2]) s:=by
 have e1:=Dj qU Tn (fun b s cx=>Ug b s cx) 62 c r hl;have e2:=Dj oH Rx (fun b s cx=>NS b s cx) 34 c r hl;have e3:=FY rH DL (fun b s cx=>QX b s cx) (c::r) (by simp;omega);refine Nu (by simp) ?_;unfold jv;rw [show ((62:UInt8).toNat:Int)=62 from rfl] at e1;rw [show ((34:UInt8).toNat:Int)=34 from rfl] at e2;have hb:aF (c::r)=.i .u8 c.toNat::aF r:=rfl;rw [hb] at e1 e2 e3 ⊢;by_cases q1:(c.toNat:Int)=40
 ·simp -implicitDefEqProofs [af,fU,q1]
 by_cases q2:(c.toNat:Int)=41
 ·simp -implicitDefEqProofs [af,fU,q2]
 by_cases q3:(c.toNat:Int)=61
 ·simp -implicitDefEqProofs [af,fU,q3]
 by_cases q4:(c.toNat:Int)=94
 ·cases r with
  | nil=>
   simp -implicitDefEqProofs [af,fU,q4,aF]
  | cons d r=>
   have hb2:aF (d::r)=.i .u8 d.toNat::aF r:=rfl;have hlen:(1:Int)<(aF r).length+1+1:=by omega
   by_cases q:d=94
   ·subst q;simp -implicitDefEqProofs [af,fU,q4,hb2,hlen]
   ·have q':¬((d.toNat:Int)=94):=fun h=>q (UInt8.toNat_inj.1 (by have:(94:UInt8).toNat=94:=rfl;omega));simp -implicitDefEqProofs [af,fU,q4,hb2,hlen,q,q']
 by_cases q5:(c.toNat:Int)=60
 ·rw [q5] at e1;simp -implicitDefEqProofs [af,fU,q5,e1]
 by_cases q6:(c.toNat:Int)=34
 ·rw [q6] at e2;simp -implicitDefEqProofs [af,fU,q6,e2]
 ·simp -implicitDefEqProofs [af,fU,q1,q2,q3,q4,q5,q6,e3]
abbrev Tk:=Int×Rl×Nat
def dU (t:Tk):AV:=.ag [.i .i64 t.1,.s t.2.1,.i .i64 t.2.2]
structure Rd where
 at_:Nat
 ah:List Tk
 pre:List Rl
 iri:Rl
 op:Bool
 ax:AV
def ahV (l:List Tk):AV:=slf true (l.map dU)
def rO (src:Rl) (m:Nat) (r:Rd):fE:=.cells [.sl (aF src),.i .i64 r.at_,ahV r.ah,.mp m,.s r.iri,.b r.op,r.ax,.mp (m+2),.mp (m+3)]
def rdF (m:Nat) (f:Nat):AV:=.fn (.func f) [.pt (m+1) 0] []
def Tj (m:Nat):List (AV×AV):=[
 (.s wC9,rdF m eX),
 (.s wC7,rdF m jY),
 (.s wA2,rdF m fC),
 (.s wA6,rdF m gG),
 (.s wB5,rdF m iK),
 (.s wB2,rdF m jG),
 (.s wB0,rdF m fM),
 (.s wC2,rdF m iJ),
 (.s wB7,rdF m jH)]
def TW (m:Nat):List (AV×AV):=[
 (.s wA8,rdF m jk),
 (.s wA7,rdF m gy),
 (.s wA0,rdF m jl),
 (.s wA1,rdF m iQ),
 (.s wB8,rdF m fG),
 (.s wA5,rdF m iR)]
structure ve (src:Rl) (S:Rd→St) (m N:Nat):Prop where
 cell:∀r,(S r)[m+1]?=some (rO src m r)
 sets:∀r q:Rd,q.pre=r.pre→(S r).set (m+1) (rO src m q)=S q
 pm:∀r,(S r)[m]?=some (.map (qH r.pre))
 setp:∀(r:Rd) P,(S r).set m (.map (qH P))=S { r with pre:=P }
 im:∀r,(S r)[m+2]?=some (.map (Tj m))
 cm:∀r,(S r)[m+3]?=some (.map (TW m))
 n:∀r,(S r).length=N
 src:src.length≤70000
theorem ve.lt {src:Rl} {S:Rd→St} {m N:Nat} (h:ve src S m N):m+3<N:=by
 have:=(List.getElem?_eq_some_iff.1 (h.cm ⟨0,[],[],[],false,.ns⟩)).1
 rw [h.n] at this;exact this
theorem ve.app {src:Rl} {S:Rd→St} {m N:Nat} (h:ve src S m N) (X:St):ve src (fun r=>S r++X) m (N+X.length):=by
 have hl:=h.lt;refine ⟨fun r=>?_,fun r q hq=>?_,fun r=>?_,fun r P=>?_,fun r=>?_,fun r=>?_,fun r=>by simp [h.n],h.src⟩
 ·rw [List.getElem?_append_left (by rw [h.n];omega)];exact h.cell r
 ·rw [List.set_append_left _ _ (by rw [h.n];omega),h.sets r q hq]
 ·rw [List.getElem?_append_left (by rw [h.n];omega)];exact h.pm r
 ·rw [List.set_append_left _ _ (by rw [h.n];omega),h.setp]
 ·rw [List.getElem?_append_left (by rw [h.n];omega)];exact h.im r
 ·rw [List.getElem?_append_left (by rw [h.n];omega)];exact h.cm r
section
variable {src:Rl} {S:Rd→St} {m N:Nat} (h:ve src S m N)
include h
theorem ve.g1 (r:Rd) (X:St):(S r++X)[m+1]?=some (.cells [.sl (aF src),.i .i64 r.at_,ahV r.ah,.mp m,.s r.iri,.b r.op,r.ax,.mp (m+2),.mp (m+3)]):=(h.app X).cell r
theorem ve.s1 (r q:Rd) (X:St) (hq:q.pre=r.pre):(S r++X).set (m+1) (.cells [.sl (aF src),.i .i64 q.at_,ahV q.ah,.mp m,.s q.iri,.b q.op,q.ax,.mp (m+2),.mp (m+3)])=S q++X:=(h.app X).sets r q hq
theorem ve.gN (r:Rd) (x:fE) (X:St):(S r++x::X)[N]?=some x:=by
 rw [List.getElem?_append_right (by rw [h.n];omega),h.n];simp
theorem ve.sN (r:Rd) (x y:fE) (X:St):(S r++x::X).set N y=S r++y::X:=by
 rw [List.set_append_right _ _ (by rw [h.n];omega),h.n];simp
theorem ve.gN1 (r:Rd) (x y:fE) (X:St):(S r++x::y::X)[N+1]?=some y:=by
 rw [List.getElem?_append_right (by rw [h.n];omega),h.n,Nat.add_sub_cancel_left];simp
theorem ve.sN1 (r:Rd) (x y z:fE) (X:St):(S r++x::y::X).set (N+1) z=S r++x::z::X:=by
 rw [List.set_append_right _ _ (by rw [h.n];omega),h.n,Nat.add_sub_cancel_left];simp
theorem ve.tk (r:Rd) (X:St):(S r++X).take N=S r:=by
 rw [List.take_append_of_le_length (by rw [h.n];omega),List.take_of_length_le (by rw [h.n];omega)]
end
def skN:Nat→Rl→Nat
 | 0,_=>0
 | _+1,[]=>0
 | n+1,c::r=>
  if (c.toNat:Int)=9∨(c.toNat:Int)=10∨(c.toNat:Int)=13∨(c.toNat:Int)=32 then 1+skN n r
  else if (c.toNat:Int)=35 then jK zK (c::r)+skN n ((c::r).drop (jK zK (c::r))) else 0
theorem UE:∀(n:Nat) (l:Rl),skN n l≤l.length
 | 0,l=>by simp [skN]
 | n+1,[]=>by simp [skN]
 | n+1,c::r=>by
  have h1:=UE n r;have h2:=UE n ((c::r).drop (jK zK (c::r)));have h3:=KU zK (c::r);rw [List.length_drop] at h2;unfold skN;split
  ·simp only [List.length_cons];omega
  ·split
   ·omega
   ·omega
def skO (src:Rl) (a:Nat):Nat:=a+skN src.length (src.drop a)
theorem Qe {src:Rl} {a:Nat} (h:a≤src.length):skO src a≤src.length:=by
 have:=UE src.length (src.drop a)
 rw [List.length_drop] at this;unfold skO;omega
section
variable {src:Rl} {S:Rd→St} {m N:Nat} (hE:ve src S m N)
include hE
theorem l_skip (cx:Ctx) (hl:cx.lim≤m):∀(n:Nat) (r:Rd),r.at_≤src.length→src.length - r.at_≤n→
  (∃E:Env,jw (aA P0.glob (aj P0) cx false dF) [0] [(0,.v (.pt (m+1) 0))] (S r)=.exit 0 E (S { r with at_:=r.at_+skN n (src.drop r.at_) }))∨
  (∃E,jw (aA P0.glob (aj P0) cx false dF) [0] [(0,.v (.pt (m+1) 0))] (S r)=.ret E (S { r with at_:=r.at_+skN n (src.drop r.at_) }))
 | 0,r,ha,hn=>by
  have h0:r.at_=src.length:=by omega
  have hc:=hE.cell r;unfold rO at hc;have hbl:=kR src;refine .inl ⟨[(0,.v (.pt (m+1) 0)),(11,.v (.b false))],ay fun K hK=>?_⟩;rw [show { r with at_:=r.at_+skN 0 (src.drop r.at_) }=r from by simp [skN]];simp -implicitDefEqProofs [dF,hc,hbl,h0]
 | n+1,r,ha,hn=>by
  have hc:=hE.cell r;have hS:=hE.src;have hlt:=hE.lt;unfold rO at hc;have hbl:=kR src;have hcl:=yJ (l:=src)
  cases hd:src.drop r.at_ with
  | nil=>
   have h0:r.at_=src.length:=by have:=List.drop_eq_nil_iff.1 hd;omega
   refine .inl ⟨[(0,.v (.pt (m+1) 0)),(11,.v (.b false))],ay fun K hK=>?_⟩;rw [show { r with at_:=r.at_+skN (n+1) [] }=r from by simp [skN]];simp -implicitDefEqProofs [dF,hc,hbl,h0]
  | cons c q=>
   have h1:src[r.at_]?=some c:=by rw [←List.head?_drop,hd];rfl
   have h3:r.at_<src.length:=(List.getElem?_eq_some_iff.1 h1).1;have h3i:(r.at_:Int)<(src.length:Int):=by omega
   have hb:r.at_<(aF src).length:=by rw [hbl];exact h3
   have hg:=zN src r.at_ hb h1;have hg':(aF src)[r.at_]?=some (.i .u8 c.toNat):=by rw [List.getElem?_eq_getElem hb,hg]
   have hq:src.drop (r.at_+1)=q:=by rw [←List.drop_drop,hd];rfl
   have hlim:cx.lim≤m+1:=by omega
   by_cases q1:(c.toNat:Int)=9∨(c.toNat:Int)=10∨(c.toNat:Int)=13∨(c.toNat:Int)=32
   ·have hk:skN (n+1) (c::q)=1+skN n q:=by rw [skN,if_pos q1]
    have hw:=wI (i:=r.at_) (by omega);have hs:=hE.sets r { r with at_:=r.at_+1 } rfl;unfold rO at hs;rw [show (((r.at_+1:Nat)):Int)=(r.at_:Int)+1 from rfl] at hs;have ih:=l_skip cx hl n { r with at_:=r.at_+1 } (by simp only;omega) (by simp only;omega);simp only [hq] at ih;rw [hk,show r.at_+(1+skN n q)=r.at_+1+skN n q by omega]
    have key:∀K:Env→St→Out,(aA P0.glob (aj P0) cx false dF [(0,.v (.pt (m+1) 0))] (S r)).thn K=K [(0,.v (.pt (m+1) 0))] (S { r with at_:=r.at_+1 }):=by
     intro K
     rcases q1 with q1|q1|q1|q1 <;>
      simp -implicitDefEqProofs [dF,hc,hbl,h3i,hb,hg',hg,hw,hlim,q1,hs]
    rcases ih with ⟨E,ih⟩|⟨E,ih⟩
    ·refine .inl ⟨E,ay fun K hK=>?_⟩;rw [←hK] at ih;rw [←ih];exact key K
    ·refine .inr ⟨E,ay fun K hK=>?_⟩;rw [←hK] at ih;rw [←ih];exact key K
   ·by_cases q2:(c.toNat:Int)=35
    ·have hk:skN (n+1) (c::q)=jK zK (c::q)+skN n ((c::q).drop (jK zK (c::q))):=by rw [skN,if_neg q1,if_pos q2]
     have hsp:1≤jK zK (c::q):=by
      have:zK c=true:=by unfold zK;rw [q2];rfl
      simp [jK,this]
     have hsl:=KU zK (c::q);have hlen:(c::q).length=src.length - r.at_:=by rw [←hd,List.length_drop]
     have e1:=FY jJ zK (fun b s cx=>Uf b s cx) (c::q) (by omega);have hdr:(aF src).drop r.at_=aF (c::q):=by rw [NV,hd]
     have htk:(aF (c::q)).take (src.length - r.at_)=aF (c::q):=List.take_of_length_le (by rw [kR];omega);rw [hk];have hdd:(c::q).drop (jK zK (c::q))=src.drop (r.at_+jK zK (c::q)):=by rw [←List.drop_drop,hd]
     rw [hdd];generalize jK zK (c::q)=k at *;have hw:IntKind.i64.wrap ((r.at_:Int)+k)=(r.at_:Int)+k:=w64 (by omega) (by omega);have hs:=hE.sets r { r with at_:=r.at_+k } rfl;unfold rO at hs;rw [show (((r.at_+k:Nat)):Int)=(r.at_:Int)+k by omega] at hs;have ih:=l_skip cx hl n { r with at_:=r.at_+k } (by simp only;omega) (by simp only;omega);simp only at ih;rw [show r.at_+(k+skN n (src.drop (r.at_+k)))=r.at_+k+skN n (src.drop (r.at_+k)) by omega];have hle:r.at_≤src.length:=ha
     have key:∀K:Env→St→Out,(aA P0.glob (aj P0) cx false dF [(0,.v (.pt (m+1) 0))] (S r)).thn K=K [(0,.v (.pt (m+1) 0))] (S { r with at_:=r.at_+k }):=by
      intro K;simp -implicitDefEqProofs [dF,hc,hbl,h3i,hb,hg',hg,hw,hlim,q2,hcl,hdr,htk,e1,hle,hs]
     rcases ih with ⟨E,ih⟩|⟨E,ih⟩
     ·refine .inl ⟨E,ay fun K hK=>?_⟩;rw [←hK] at ih;rw [←ih];exact key K
     ·refine .inr ⟨E,ay fun K hK=>?_⟩;rw [←hK] at ih;rw [←ih];exact key K
    ·refine .inr ⟨[(0,.v (.pt (m+1) 0)),(34,.v (.b false))],ay fun K hK=>?_⟩;have hk:skN (n+1) (c::q)=0:=by rw [skN,if_neg q1,if_neg q2]
     rw [hk];obtain ⟨p1,p2,p3,p4⟩:¬(c.toNat:Int)=9∧¬(c.toNat:Int)=10∧¬(c.toNat:Int)=13∧¬(c.toNat:Int)=32:=⟨fun h=>q1 (.inl h),fun h=>q1 (.inr (.inl h)),fun h=>q1 (.inr (.inr (.inl h))),fun h=>q1 (.inr (.inr (.inr h)))⟩;clear q1;simp -implicitDefEqProofs [dF,hc,hbl,h3i,hb,hg',hg,p1,p2,p3,p4,q2]
theorem adb (r:Rd) (ha:r.at_≤src.length) (cx:Ctx) (hl:cx.lim≤m):
  aj P0 (.fn (.func mV) [] []) [.pt (m+1) 0] (S r) cx=.ret (.tu []) (S { r with at_:=skO src r.at_ }):=by
 have h:=l_skip hE ⟨cx.lim,(S r).length⟩ hl src.length r ha (by omega);have hN:=hE.n;refine FD (by simp) ?_;unfold skO;rw [hN] at h;rcases h with ⟨E,h⟩|⟨E,h⟩
 ·simp -implicitDefEqProofs [af,lK,hN,h]
 ·simp -implicitDefEqProofs [af,lK,hN,h]
end
end Go.Ai.Z
namespace Go.Ai.Z
open Go.Ai
inductive OR (α:Type) where
 | ok (v:α) (r:Rd)
 | er (a:Nat) (c:Int) (r:Rd)
def OR.bind {α β:Type} (x:OR α) (f:α→Rd→OR β):OR β:=
 match x with
 | .ok v r=>f v r
 | .er a c r=>.er a c r
@[simp] theorem OR.bind_ok {α β:Type} (v:α) (r:Rd) (f:α→Rd→OR β):(OR.ok v r).bind f=f v r:=rfl
@[simp] theorem OR.bind_er {α β:Type} (a:Nat) (c:Int) (r:Rd) (f:α→Rd→OR β):(OR.er a c r:OR α).bind f=.er a c r:=rfl
def flt (a:Nat) (c:Int):AV:=.ifc oP (.ag [.i .i64 (a:Int),.i .i64 c])
@[simp] theorem agO (S:St) (n:Nat) (a:Nat) (c:Int):frz S n (flt a c)=some (flt a c):=by simp [frz,flt,AV.under,cu]
@[simp] theorem afu (S:St) (n:Nat) (a:Int) (c:Int):frz S n (.ifc oP (.ag [.i .i64 a,.i .i64 c]))=some (.ifc oP (.ag [.i .i64 a,.i .i64 c])):=by simp [frz,AV.under,cu]
def qy {α:Type} (enc:α→AV) (S:Rd→St) (x:OR α):CO:=
 match x with
 | .ok v r=>.ret (enc v) (S r)
 | .er a c r=>.pan (flt a c) (S r)
@[simp] theorem bY {α:Type} (enc:α→AV) (S:Rd→St) (v:α) (r:Rd):qy enc S (.ok v r)=.ret (enc v) (S r):=rfl
@[simp] theorem bV {α:Type} (enc:α→AV) (S:Rd→St) (a:Nat) (c:Int) (r:Rd):qy enc S (.er a c r:OR α)=.pan (flt a c) (S r):=rfl
theorem iT {α:Type} (enc:α→AV) (S:Rd→St) (x:OR α):qy enc S x≠.fail:=by cases x<;>simp
def fP (src:Rl) (r:Rd):OR Tk:=
 match r.ah with
 | t::_=>.ok t r
 | []=>
  if skO src r.at_<src.length then
   if (jv (src.drop (skO src r.at_))).2=0 then .er (skO src r.at_) 50 { r with at_:=skO src r.at_ }
   else .ok ((jv (src.drop (skO src r.at_))).1,(src.drop (skO src r.at_)).take (jv (src.drop (skO src r.at_))).2,skO src r.at_)
    { r with at_:=skO src r.at_+(jv (src.drop (skO src r.at_))).2,ah:=[((jv (src.drop (skO src r.at_))).1,(src.drop (skO src r.at_)).take (jv (src.drop (skO src r.at_))).2,skO src r.at_)] }
  else .ok (5,[],skO src r.at_) { r with at_:=skO src r.at_,ah:=[(5,[],skO src r.at_)] }
theorem Wq (p:UInt8→Bool) (e:UInt8) (l:Rl):Jd p e l≤l.length:=by
 unfold Jd;split
 ·rename_i h;have:=(List.getElem?_eq_some_iff.1 h).1;omega
 ·omega
theorem MO (l:Rl):(jv l).2≤l.length:=by
 unfold jv
 cases l with
 | nil=>simp
 | cons c r=>
  have h1:=Wq Tn 62 (c::r);have h2:=Wq Rx 34 (c::r);have h3:=KU DL (c::r);simp only;split
  ·simp
  split
  ·cases r with
   | nil=>simp
   | cons d r=>simp;split<;>omega
  split
  ·exact h1
  split
  ·exact h2
  ·exact h3
theorem QK (k:Int) (t:Rl) (a:Int):(AV.sl [.ag [.i .i64 k,.s t,.i .i64 a]]).flat=true:=rfl
theorem aag:∀l:Rl,(aF l).mapM byteOf=some l
 | []=>rfl
 | b::r=>by
  have ih:=aag r;unfold aF at ih ⊢;rw [List.map_cons,List.mapM_cons,ih];simp [byteOf]
section
variable {src:Rl} {S:Rd→St} {m N:Nat} (hE:ve src S m N)
include hE
theorem lW (r:Rd) (ha:r.at_≤src.length) (cx:Ctx) (hl:cx.lim≤m):
  aj P0 (.fn (.func aO) [] []) [.pt (m+1) 0] (S r) cx=qy dU S (fP src r):=by
 refine FI (iT _ _ _) ?_;have hN:=hE.n;have hlt:=hE.lt;have hS:=hE.src;have hlim:cx.lim≤m+1:=by omega
 have hc:=hE.cell r;unfold rO at hc;obtain ⟨a0,ah,pre,iri,op,ax⟩:=r;unfold fP;simp only at ha hc
 cases ah with
 | cons t u=>
  obtain ⟨t1,t2,t3⟩:=t;unfold ahV at hc;simp only [List.map_cons,slf] at hc;have g1:=hE.g1 ⟨a0,(t1,t2,t3)::u,pre,iri,op,ax⟩;simp only [ahV,List.map_cons,slf] at g1;have hz:¬((u.length:Int)+1=0):=by omega
  have hl0:cx.lim≤N:=by omega
  simp -implicitDefEqProofs [af,jd,hN,g1,hE.gN,hE.sN,hE.tk,hz,hl0,dU,dS,splice,frz,AV.under,cu]
 | nil=>
  have hE1:=hE.app [fE.cells [.i .i64 0,.s [],.i .i64 0]];have e1:=adb hE1 ⟨a0,[],pre,iri,op,ax⟩ ha ⟨cx.lim,N⟩ hl;have hl0:cx.lim≤N:=by omega
  have hl1:cx.lim≤N+1:=by omega
  have hle:=Qe (src:=src) ha;simp only at e1;have hc1:=hE.cell ⟨skO src a0,[],pre,iri,op,ax⟩;unfold rO at hc1;have g0:=hE.g1 ⟨a0,[],pre,iri,op,ax⟩;have g1:=hE.g1 ⟨skO src a0,[],pre,iri,op,ax⟩;generalize skO src a0=a at *;simp only [ahV,List.map_nil,slf] at g0 g1;have hcl:=yJ (l:=src);have hbl:=kR src;have hdr:=NV src a;have htk:(aF (src.drop a)).take (src.length - a)=aF (src.drop a):=List.take_of_length_le (by rw [kR,List.length_drop];omega);have hdl:(aF (src.drop a)).length=src.length - a:=by rw [kR,List.length_drop]
  simp only [ahV,List.map_nil,slf] at hc hc1;by_cases q:a<src.length
  ·rw [if_pos q]
   obtain ⟨c,w,hcw⟩:∃c w,src.drop a=c::w:=by
    cases hh:src.drop a with
    | nil=>have:=List.drop_eq_nil_iff.1 hh;omega
    | cons c w=>exact ⟨c,w,rfl⟩
   have hwl:w.length≤100000:=by
    have:=congrArg List.length hcw
    rw [List.length_drop,List.length_cons] at this;omega
   have e2:=OL c w hwl;have hml:=MO (src.drop a);rw [←hcw] at e2;rw [List.length_drop] at hml;have hcl2:=yJ (l:=src.drop a);generalize hB:aF (src.drop a)=B at *;have hgt:0<src.length - a:=by omega
   by_cases z:(jv (src.drop a)).2=0
   ·rw [if_pos z];rw [z] at e2;simp -implicitDefEqProofs [af,jd,hN,g0,g1,hE.gN,hE.sN,hE.gN1,hE.sN1,hE.tk,dU,dS,splice,frz,AV.under,cu,hbl,QK,e1,e2,hcl,hdr,htk,hle,hdl,hgt,flt,hl0,hl1]
   ·rw [if_neg z];have s1:=hE.s1 ⟨a,[],pre,iri,op,ax⟩ ⟨a+(jv (src.drop a)).2,[],pre,iri,op,ax⟩;have g2:=hE.g1 ⟨a+(jv (src.drop a)).2,[],pre,iri,op,ax⟩;have s2:=hE.s1 ⟨a+(jv (src.drop a)).2,[],pre,iri,op,ax⟩ ⟨a+(jv (src.drop a)).2,[((jv (src.drop a)).1,(src.drop a).take (jv (src.drop a)).2,a)],pre,iri,op,ax⟩;have g3:=hE.g1 ⟨a+(jv (src.drop a)).2,[((jv (src.drop a)).1,(src.drop a).take (jv (src.drop a)).2,a)],pre,iri,op,ax⟩
    have hb2:(B.take (jv (src.drop a)).2).mapM byteOf=some ((src.drop a).take (jv (src.drop a)).2):=by
     rw [←hB,Vy];exact aag _
    generalize (jv (src.drop a)).2=n at *;generalize (jv (src.drop a)).1=k at *;generalize (src.drop a).take n=txt at *;have w1:IntKind.i64.wrap ((a:Int)+n)=(a:Int)+n:=w64 (by omega) (by omega);have hnz:¬((n:Int)=0):=by omega
    have hnl:n≤src.length - a:=hml;simp [ahV,dU] at s1 g2 s2 g3;simp -implicitDefEqProofs [af,jd,hN,g0,g1,g2,g3,s1,s2,hE.gN,hE.sN,hE.gN1,hE.sN1,hE.tk,dU,dS,splice,frz,AV.under,cu,hbl,QK,e1,e2,hcl,hdr,htk,hle,hdl,hgt,flt,hl0,hl1,hlim,hb2,w1,z,hnz,hnl,hcl2]
  ·rw [if_neg q];have hle2:a=src.length:=by omega
   have s2:=hE.s1 ⟨a,[],pre,iri,op,ax⟩ ⟨a,[(5,[],a)],pre,iri,op,ax⟩;have g3:=hE.g1 ⟨a,[(5,[],a)],pre,iri,op,ax⟩;simp [ahV,dU] at s2 g3;have hB0:aF (src.drop a)=[]:=by rw [hle2];simp [aF]
   simp -implicitDefEqProofs [af,jd,hN,g0,g1,g3,s2,hE.gN,hE.sN,hE.gN1,hE.sN1,hE.tk,dU,dS,splice,frz,AV.under,cu,hbl,QK,e1,hcl,hdr,htk,hle,hdl,flt,hl0,hl1,hlim,hB0]
end
end Go.Ai.Z
namespace Go.Ai.Z
open Go.Ai
def bP (r:Rd):Rd:={ r with ah:=[] }
def isR (src:Rl) (w:Rl) (r:Rd):OR Bool:=(fP src r).bind fun t r=>.ok (decide (t.2.1=w)) r
def oN (src:Rl) (b:Bool) (r:Rd):OR Unit:=if b=true then .ok () r else (fP src r).bind fun t r=>.er t.2.2 50 r
def jP (src:Rl) (w:Rl) (r:Rd):OR Unit:=(isR src w r).bind fun b r=>(oN src b r).bind fun _ r=>.ok () (bP r)
structure aau (src:Rl) (t:Tk):Prop where
 len:t.2.1.length≤src.length
 two:t.1=2∨t.1=3→2≤t.2.1.length
 one:t.1≠5→1≤t.2.1.length
 at_:t.2.2≤src.length
structure Wr (src:Rl) (r:Rd):Prop where
 at_:r.at_≤src.length
 ah:∀t∈r.ah,aau src t
theorem Xn (l:Rl) (h:(jv l).1=2∨(jv l).1=3) (h0:(jv l).2≠0):2≤(jv l).2:=by
 have he:∀p e,Jd p e l≠0→2≤Jd p e l:=by
  intro p e hh;unfold Jd at hh ⊢;split
  ·omega
  ·rename_i q;rw [if_neg q] at hh;exact absurd rfl hh
 cases l with
 | nil=>simp [jv] at h
 | cons c r=>
  unfold jv at h h0 ⊢;simp only at h h0 ⊢
  split at h
  ·simp at h
  rename_i q1;rw [if_neg q1] at h0 ⊢
  split at h
  ·simp at h
  rename_i q2;rw [if_neg q2] at h0 ⊢
  split at h
  ·rename_i q3;rw [if_pos q3] at h0 ⊢;exact he _ _ h0
  rename_i q3;rw [if_neg q3] at h0 ⊢
  split at h
  ·rename_i q4;rw [if_pos q4] at h0 ⊢;exact he _ _ h0
  ·simp at h
theorem lU {src:Rl} {r r':Rd} {t:Tk} (h:Wr src r) (e:fP src r=.ok t r'):Wr src r'∧aau src t:=by
 have h1:=Qe h.at_;have h2:=MO (src.drop (skO src r.at_));have h3:=Xn (src.drop (skO src r.at_));rw [List.length_drop] at h2;unfold fP at e
 split at e
 ·rename_i t0 u hh;cases e;exact ⟨h,h.ah t (by rw [hh];simp)⟩
 ·split at e
  ·split at e
   ·cases e
   ·rename_i q;cases e
    have ht:aau src ((jv (src.drop (skO src r.at_))).1,(src.drop (skO src r.at_)).take (jv (src.drop (skO src r.at_))).2,skO src r.at_):=by
     refine ⟨?_,fun hk=>?_,fun hk=>?_,h1⟩
     ·simp only [List.length_take,List.length_drop];omega
     ·have:=h3 hk q
      simp only [List.length_take,List.length_drop];omega
     ·simp only [List.length_take,List.length_drop];omega
    exact ⟨⟨by simp only;omega,fun t hm=>by simp at hm;subst hm;exact ht⟩,ht⟩
  ·cases e;have ht:aau src (5,[],skO src r.at_):=⟨by simp,fun hk=>by simp at hk,fun hk=>absurd rfl hk,h1⟩;exact ⟨⟨h1,fun t hm=>by simp at hm;subst hm;exact ht⟩,ht⟩
theorem nR {src:Rl} {r r':Rd} {t:Tk} (e:fP src r=.ok t r'):fP src r'=.ok t r'∧r'.pre=r.pre∧r'.iri=r.iri∧r'.op=r.op∧r'.ax=r.ax:=by
 unfold fP at e
 split at e
 ·rename_i hh;cases e;refine ⟨?_,rfl,rfl,rfl,rfl⟩;unfold fP;rw [hh]
 ·split at e
  ·split at e
   ·cases e
   ·cases e;refine ⟨?_,rfl,rfl,rfl,rfl⟩;unfold fP;rfl
  ·cases e;refine ⟨?_,rfl,rfl,rfl,rfl⟩;unfold fP;rfl
theorem gq {src:Rl} {r:Rd} (h:Wr src r):Wr src (bP r):=⟨h.at_,by simp [bP]⟩
theorem wu (src:Rl) (r:Rd):∃a c r2,oN src false r=.er a c r2:=by
 unfold oN;rw [if_neg Bool.false_ne_true]
 cases fP src r with
 | er a c r2=>exact ⟨a,c,r2,rfl⟩
 | ok t r2=>exact ⟨_,_,r2,rfl⟩
@[simp] theorem pR (src:Rl) (r:Rd):oN src true r=.ok () r:=rfl
theorem abI {src:Rl} {r r':Rd} {w:Rl} {b:Bool} (h:Wr src r) (e:isR src w r=.ok b r'):Wr src r':=by
 unfold isR at e
 cases hp:fP src r with
 | er a c r1=>rw [hp] at e;cases e
 | ok t r1=>rw [hp] at e;cases e;exact (lU h hp).1
def MJ (pre:List Rl) (t:Tk):Bool:=
 match lN 58 t.2.1 with
 | some (x,y)=>decide (t.1=4) && !y.isEmpty && !decide ((58:UInt8)∈y) && decide (x++[58]∈pre) && !decide (x=[111,119,108]) && !decide (x=[120,115,100])
 | none=>false
def trimB (b:UInt8) (w:Rl):Rl:=match w with | []=>[] | c::r=>if c=b then r else c::r
def Rt (w:Rl):Rl:=trimB 58 w
theorem Uj (w:Rl) (b:UInt8) (s:St) (cx:Ctx):aj P0 (.fn (.func dZ) [] []) [.s w,.s [b]] s cx=.ret (.b (decide (w.head?=some b))) s:=by
 refine uo (by simp) ?_
 cases w with
 | nil=>simp -implicitDefEqProofs [af,dR]
 | cons c r=>
  have h1:(1:Int)≤(r.length:Int)+1:=by omega
  by_cases q:c=b<;>simp -implicitDefEqProofs [af,dR,h1,q]
theorem Ib (w:Rl) (b:UInt8) (s:St) (cx:Ctx):aj P0 (.fn (.func ji) [] []) [.s w,.s [b]] s cx=.ret (.s (trimB b w)) s:=by
 have e1:=Uj w b
 have e2:∀(s:St) (cx:Ctx),aj P0 (.fn (.func dV) [] []) [.s w,.s [b]] s cx=.ret (.s (trimB b w)) s:=fun s cx=>by
  refine sZ (by simp) ?_
  cases w with
  | nil=>
   simp at e1;simp -implicitDefEqProofs [af,dn,e1,trimB]
  | cons c r=>
   by_cases q:c=b
   ·simp [q] at e1;simp -implicitDefEqProofs [af,dn,e1,trimB,q]
   ·simp [q] at e1;simp -implicitDefEqProofs [af,dn,e1,trimB,q]
 refine BB (by simp) ?_;simp -implicitDefEqProofs [af,lV,e2]
def mr (src:Rl) (r:Rd):OR Rl:=(fP src r).bind fun t r=>(oN src (MJ r.pre t) r).bind fun _ r=>.ok (Rt t.2.1) (bP r)
def KN (src:Rl) (w p:Rl) (r:Rd):OR Unit:=(isR src w r).bind fun b r=>(oN src (b && decide (p∈r.pre)) r).bind fun _ r=>.ok () (bP r)
section
variable {src:Rl} {S:Rd→St} {m N:Nat} (hE:ve src S m N)
include hE
theorem nG (b:Bool) (r:Rd) (ha:Wr src r) (cx:Ctx) (hl:cx.lim≤m):
  aj P0 (.fn (.func bI) [] []) [.pt (m+1) 0,.b b] (S r) cx=qy (fun _=>.tu []) S (oN src b r):=by
 refine FO (iT _ _ _) ?_;have hN:=hE.n;have e1:=lW hE r ha.at_ ⟨cx.lim,N⟩ hl;unfold oN;cases b
 ·cases hp:fP src r with
  | er a c r1=>
   rw [hp] at e1;simp only [bV] at e1;simp -implicitDefEqProofs [af,jT,hN,e1]
  | ok t r1=>
   rw [hp] at e1;simp only [bY,dU] at e1;simp -implicitDefEqProofs [af,jT,hN,e1,dS,splice,flt]
 ·simp -implicitDefEqProofs [af,jT,hN]
theorem FZ (w:Rl) (r:Rd) (ha:Wr src r) (cx:Ctx) (hl:cx.lim≤m):
  aj P0 (.fn (.func bG) [] []) [.pt (m+1) 0,.s w] (S r) cx=qy .b S (isR src w r):=by
 refine I8 (iT _ _ _) ?_;have hN:=hE.n;have e1:=lW hE r ha.at_ ⟨cx.lim,N⟩ hl;unfold isR
 cases hp:fP src r with
 | er a c r1=>
  rw [hp] at e1;simp only [bV] at e1;simp -implicitDefEqProofs [af,nX,hN,e1]
 | ok t r1=>
  rw [hp] at e1;simp only [bY,dU] at e1
  by_cases q:t.2.1=w<;>simp -implicitDefEqProofs [af,nX,hN,e1,q]
theorem jM (r:Rd) (cx:Ctx) (hl:cx.lim≤m):
  aj P0 (.fn (.func aN) [] []) [.pt (m+1) 0] (S r) cx=.ret (.tu []) (S (bP r)):=by
 refine FK (by simp) ?_;have hN:=hE.n;have hc:=hE.cell r;have hs:=hE.sets r (bP r) rfl;have hlim:cx.lim≤m+1:=by omega
 unfold rO bP at *;simp [ahV] at hs;simp -implicitDefEqProofs [af,o7,hN,hc,hs,hlim,show AV.ns.flat=true from rfl]
theorem fK (w:Rl) (r:Rd) (ha:Wr src r) (cx:Ctx) (hl:cx.lim≤m):
  aj P0 (.fn (.func aH) [] []) [.pt (m+1) 0,.s w] (S r) cx=qy (fun _=>.tu []) S (jP src w r):=by
 refine FB (iT _ _ _) ?_;have hN:=hE.n;have e1:=FZ hE w r ha ⟨cx.lim,N⟩ hl;unfold jP
 cases hp:isR src w r with
 | er a c r1=>
  rw [hp] at e1;simp only [bV] at e1;simp -implicitDefEqProofs [af,jS,hN,e1]
 | ok b r1=>
  rw [hp] at e1;simp only [bY] at e1;have h1:=abI ha hp;have e2:=nG hE b r1 h1 ⟨cx.lim,N⟩ hl;simp only [OR.bind_ok]
  cases hq:oN src b r1 with
  | er a c r2=>
   rw [hq] at e2;simp only [bV] at e2;simp -implicitDefEqProofs [af,jS,hN,e1,e2]
  | ok v r2=>
   rw [hq] at e2;simp only [bY] at e2;have e3:=jM hE r2 ⟨cx.lim,N⟩ hl;simp -implicitDefEqProofs [af,jS,hN,e1,e2,e3]
theorem DJ (w p:Rl) (r:Rd) (ha:Wr src r) (cx:Ctx) (hl:cx.lim≤m):
  aj P0 (.fn (.func eU) [] []) [.pt (m+1) 0,.s w,.s p] (S r) cx=qy (fun _=>.tu []) S (KN src w p r):=by
 refine D8 (iT _ _ _) ?_;have hN:=hE.n;have e1:=FZ hE w r ha ⟨cx.lim,N⟩ hl;unfold KN
 cases hp:isR src w r with
 | er a c r1=>
  rw [hp] at e1;simp only [bV] at e1;simp -implicitDefEqProofs [af,dK,hN,e1]
 | ok b r1=>
  rw [hp] at e1;simp only [bY] at e1;have h1:=abI ha hp;have e2:=nG hE (b && decide (p∈r1.pre)) r1 h1 ⟨cx.lim,N⟩ hl;have hc:=hE.cell r1;have hm:=hE.pm r1;have hf:=zG p r1.pre;unfold rO at hc;simp only [OR.bind_ok]
  have key:∀x,oN src (b && decide (p∈r1.pre)) r1=x→af P0.glob (aj P0) dK ([]++[.pt (m+1) 0,.s w,.s p]++[]) (S r) cx=qy (fun _=>.tu []) S (x.bind fun _ r=>.ok () (bP r)):=by
   intro x hx;rw [hx] at e2
   cases x with
   | er a c r2=>
    simp only [bV] at e2;cases b
    ·simp at e2;simp -implicitDefEqProofs [af,dK,hN,e1,e2]
    ·by_cases q:p∈r1.pre
     ·simp [q] at e2 hf;simp -implicitDefEqProofs [af,dK,hN,e1,e2,hc,hm,hf]
     ·simp [q] at e2 hf;simp -implicitDefEqProofs [af,dK,hN,e1,e2,hc,hm,hf]
   | ok v r2=>
    simp only [bY] at e2;have e3:=jM hE r2 ⟨cx.lim,N⟩ hl;cases b
    ·simp at e2;simp -implicitDefEqProofs [af,dK,hN,e1,e2,e3]
    ·by_cases q:p∈r1.pre
     ·simp [q] at e2 hf;simp -implicitDefEqProofs [af,dK,hN,e1,e2,hc,hm,hf,e3]
     ·simp [q] at e2 hf;simp -implicitDefEqProofs [af,dK,hN,e1,e2,hc,hm,hf,e3]
  exact key _ rfl
theorem oq (r:Rd) (ha:Wr src r) (cx:Ctx) (hl:cx.lim≤m):
  aj P0 (.fn (.func aP) [] []) [.pt (m+1) 0] (S r) cx=qy .s S (mr src r):=by
 refine FM (iT _ _ _) ?_;have hN:=hE.n;have hS:=hE.src;have e1:=lW hE r ha.at_ ⟨cx.lim,N⟩ hl;unfold mr
 cases hp:fP src r with
 | er a c r1=>
  rw [hp] at e1;simp only [bV] at e1;simp -implicitDefEqProofs [af,dH,hN,e1]
 | ok t r1=>
  rw [hp] at e1;obtain ⟨w1,w2⟩:=lU ha hp;obtain ⟨p1,p2,_,_,_⟩:=nR hp;have e1b:=lW hE r1 w1.at_ ⟨cx.lim,N⟩ hl;rw [p1] at e1b;obtain ⟨k,w,a⟩:=t;simp only [bY,dU] at e1 e1b;have ec:=yY w 58 (by have:=w2.len;simp only at this;omega);have et:=Ib w 58;have hc:=hE.cell r1;have hm:=hE.pm r1;unfold rO at hc;simp only [OR.bind_ok];have e3:=jM hE r1 ⟨cx.lim,N⟩ hl;have e2:=fun b=>nG hE b r1 w1 ⟨cx.lim,N⟩ hl;obtain ⟨a2,c2,r2,hx⟩:=wu src r1;have e2f:=e2 false;have e2t:=e2 true;rw [hx] at e2f;simp only [bV,bY,pR] at e2f e2t;clear e2;unfold MJ;simp only
  cases hcut:lN 58 w with
  | none=>
   rw [hcut] at ec;simp only at ec ⊢;rw [hx]
   by_cases q1:k=4<;>simp -implicitDefEqProofs [af,dH,hN,e1,e1b,ec,e2f,q1]
  | some q=>
   obtain ⟨x,y⟩:=q;rw [hcut] at ec;simp only at ec ⊢;have hf:=zG (x++[58]) r1.pre;have eC:=Qr y 58
   have hxl:x.length≤4611686018427387903:=by
    have h1:=uO hcut;have h2:=w2.len;simp only at h2;rw [h1] at h2;simp at h2;omega
   by_cases q1:¬k=4
   ·simp [q1,hx];simp -implicitDefEqProofs [af,dH,hN,e1,e1b,ec,e2f,q1]
   have q1:k=4:=Classical.not_not.1 q1;by_cases q2:y=[]
   ·simp [q1,q2,hx];simp -implicitDefEqProofs [af,dH,hN,e1,e1b,ec,e2f,q1,q2]
   have q2b:y.isEmpty=false:=by cases y<;>simp_all
   by_cases q3:(58:UInt8)∈y
   ·simp [q1,q2,q3,hx];simp [q3] at eC;simp -implicitDefEqProofs [af,dH,hN,e1,e1b,ec,e2f,q1,q2b,eC]
   simp [q3] at eC;by_cases q4:¬x++[58]∈r1.pre
   ·simp [q1,q2,q3,q4,hx];simp [q4] at hf;simp -implicitDefEqProofs [af,dH,hN,e1,e1b,ec,e2f,q1,q2b,eC,hc,hm,hf,hxl]
   have q4:x++[58]∈r1.pre:=Classical.not_not.1 q4;simp [q4] at hf;by_cases q5:x=[111,119,108]
   ·simp [q1,q2,q3,q4,q5,hx];subst q5;simp at hf q4;simp -implicitDefEqProofs [af,dH,hN,e1,e1b,ec,e2f,q1,q2b,eC,hc,hm,hf,hxl,hx]
   by_cases q6:x=[120,115,100]
   ·simp [q1,q2,q3,q4,q5,q6,hx];subst q6;simp at hf q4;simp -implicitDefEqProofs [af,dH,hN,e1,e1b,ec,e2f,q1,q2b,eC,hc,hm,hf,hxl,hx]
   ·simp [q1,q2,q3,q4,q5,q6];simp -implicitDefEqProofs [af,dH,hN,e1,e1b,ec,e2t,e3,et,Rt,q1,q2b,eC,hc,hm,hf,hxl,q5,q6]
end
end Go.Ai.Z
