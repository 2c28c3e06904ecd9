/-
 The reader of ontology documents: how it measures tokens.
-/
import Derived.Test.YtcofenimejmoeaaGreatDoorAiOW1OW2OW3OW4OW5
import Derived.Test.YtcofenimejmoeaaGreatDoorAiRchR1R2R3R4R5
import Derived.Test.YtcofenimejmoeaaGreatDoorAiK1K2K3K4K5K6K7
set_option maxRecDepth 100000
set_option linter.unusedSimpArgs false
set_option linter.unusedVariables false
set_option linter.unusedSectionVars false
namespace Go.Ai.Z
def ltI (k:Int):Bool:=decide (97≤k) && decide (k≤122) || decide (65≤k) && decide (k≤90)
def wdI (k:Int):Bool:=ltI k || decide (48≤k) && decide (k≤57) || decide (k=95) || decide (k=58)
def stI (k:Int):Bool:=decide (32≤k) && decide (k≤126) && decide (k≠34)
def I9 (b:UInt8):Bool:=Xh b.toNat
def UM (b:UInt8):Bool:=stI b.toNat
def zJ (b:UInt8):Bool:=wdI b.toNat
def Dp (b:UInt8):Bool:=decide ((b.toNat:Int)≠10)
theorem Rw (b:UInt8) (s:St) (cx:Ctx):aj P0 (.fn (.func qO) [] []) [.i .u8 b.toNat] s cx=.ret (.b (stI b.toNat)) s:=by
 refine OM (by simp) ?_;unfold stI;by_cases q1:32≤(b.toNat:Int)
 ·by_cases q2:(b.toNat:Int)≤126
  ·by_cases q5:(b.toNat:Int)=34
   ·simp -implicitDefEqProofs [af,mX,q1,q2,q5]
   ·simp -implicitDefEqProofs [af,mX,q1,q2,q5]
  ·simp -implicitDefEqProofs [af,mX,q1,q2]
 ·simp -implicitDefEqProofs [af,mX,q1]
theorem uG (k:Int) (s:St) (cx:Ctx):aj P0 (.fn (.func qM) [] []) [.i .u8 k] s cx=.ret (.b (ltI k)) s:=by
 refine OL (by simp) ?_;unfold ltI
 by_cases q1:97≤k<;>by_cases q2:k≤122<;>by_cases q3:65≤k<;>by_cases q4:k≤90 <;>
  simp -implicitDefEqProofs [af,wo,q1,q2,q3,q4]
theorem VH (b:UInt8) (s:St) (cx:Ctx):aj P0 (.fn (.func vg) [] []) [.i .u8 b.toNat] s cx=.ret (.b (wdI b.toNat)) s:=by
 refine SI (by simp) ?_;have e1:=uG b.toNat;unfold wdI;cases h0:ltI b.toNat
 ·rw [h0] at e1;by_cases q1:48≤(b.toNat:Int)
  ·by_cases q2:(b.toNat:Int)≤57
   ·simp -implicitDefEqProofs [af,jW,e1,q1,q2]
   ·by_cases q3:(b.toNat:Int)=95
    ·rw [q3] at e1;simp -implicitDefEqProofs [af,jW,e1,q1,q2,q3]
    ·by_cases q4:(b.toNat:Int)=58
     ·rw [q4] at e1;simp -implicitDefEqProofs [af,jW,e1,q1,q2,q3,q4]
     ·simp -implicitDefEqProofs [af,jW,e1,q1,q2,q3,q4]
  ·by_cases q3:(b.toNat:Int)=95
   ·rw [q3] at e1;simp -implicitDefEqProofs [af,jW,e1,q1,q3]
   ·by_cases q4:(b.toNat:Int)=58
    ·rw [q4] at e1;simp -implicitDefEqProofs [af,jW,e1,q1,q3,q4]
    ·simp -implicitDefEqProofs [af,jW,e1,q1,q3,q4]
 ·rw [h0] at e1;simp -implicitDefEqProofs [af,jW,e1]
theorem XW (b:UInt8) (s:St) (cx:Ctx):aj P0 (.fn (.func lu) [] []) [.i .u8 b.toNat] s cx=.ret (.b (Dp b)) s:=by
 refine FP (by simp) ?_;unfold Dp
 by_cases q:(b.toNat:Int)=10<;>simp -implicitDefEqProofs [af,o7,q]
def lC (p:UInt8→Bool) (l:Rl):Nat:=(l.takeWhile p).length
theorem OV (p:UInt8→Bool) (l:Rl):lC p l≤l.length:=(List.takeWhile_sublist _).length_le
def aeT (F:Nat) (p:UInt8→Bool):Prop:=∀(b:UInt8) (s:St) (cx:Ctx),aj P0 (.fn (.func F) [] []) [.i .u8 b.toNat] s cx=.ret (.b (p b)) s
theorem Du (l:Rl) (i:Nat) (h:i<(aF l).length) {b:UInt8} (hb:l[i]?=some b):(aF l)[i]=.i .u8 b.toNat:=by
 have hl:i<l.length:=by rw [kK] at h;exact h
 rw [List.getElem?_eq_getElem hl,Option.some_inj] at hb;simp [aF,hb]
theorem Rz (l:Rl) (n:Nat):(aF l).drop n=aF (l.drop n):=by simp [aF,List.map_drop]
theorem Zl (l:Rl) (n:Nat):(aF l).take n=aF (l.take n):=by simp [aF,List.map_take]
theorem BF {l:Rl}:(∀z∈aF l,z.cells.length=1)=True:=eq_true (by
 intro z hz;unfold aF at hz;obtain ⟨b,_,rfl⟩:=List.mem_map.1 hz
 rfl)
theorem QD (F:Nat) (p:UInt8→Bool) (hF:aeT F p) (l:Rl) (hl:l.length≤1000000) (s:St) (cx:Ctx):∀(rest:Rl) (i:Nat),l.drop i=rest→i≤l.length→
  ig (aC P0.glob (aj P0) cx false uw) [0,1,4] [(0,.v (.sl (aF l))),(1,.v (.fn (.func F) [] [])),(4,.v (.i .i64 i))] s=
   .exit 0 [(0,.v (.sl (aF l))),(1,.v (.fn (.func F) [] [])),(4,.v (.i .i64 ((i+lC p rest:Nat):Int))),(16,.v (.b false))] s
 | [],i,h,hi=>by
  have h1:¬i<l.length:=Nat.not_lt.2 (drop_nil h);have hb:¬i<(aF l).length:=by rw [kK];exact h1
  refine ak fun K hK=>?_;simp -implicitDefEqProofs [uw,hb,lC]
 | b::r,i,h,hi=>by
  obtain ⟨h1,h2,h3,h4⟩:=drop_cons h;have hb:i<(aF l).length:=by rw [kK];exact h3
  have hg:=Du l i hb h1;have hwi:=wI (i:=i) (by omega);have e1:=hF b;cases q:p b
  ·rw [q] at e1;refine ak fun K hK=>?_;clear hK h4;have hs:lC p (b::r)=0:=by simp [lC,q]
   rw [hs];simp -implicitDefEqProofs [uw,hb,hg,e1]
  ·rw [q] at e1;have ih:=QD F p hF l hl s cx r (i+1) h2 (by omega);refine ak fun K hK=>?_;rw [←hK,show ((i+1:Nat):Int)=(i:Int)+1 from rfl] at ih;clear hK h4;have hs:i+lC p (b::r)=i+1+lC p r:=by simp [lC,q];omega
   rw [hs,←ih];clear ih;simp -implicitDefEqProofs [uw,hb,hg,e1,hwi]
theorem Jw (F:Nat) (p:UInt8→Bool) (hF:aeT F p) (l:Rl) (hl:l.length≤1000000) (s:St) (cx:Ctx):
  aj P0 (.fn (.func wQ) [] []) [.sl (aF l),.fn (.func F) [] []] s cx=.ret (.i .i64 (lC p l)) s:=by
 have h:=QD F p hF l hl s ⟨cx.lim,s.length⟩ l 0 rfl (by omega);rw [show ((0:Nat):Int)=0 from rfl,Nat.zero_add] at h;refine Xq (by simp) ?_;simp -implicitDefEqProofs [af,Bz,h]
def MN (p:UInt8→Bool) (e:UInt8) (l:Rl):Nat:=if l[1+lC p l.tail]?=some e then 2+lC p l.tail else 0
theorem Gf (F:Nat) (p:UInt8→Bool) (hF:aeT F p) (e c:UInt8) (r:Rl) (hl:r.length≤100000) (s:St) (cx:Ctx):
  aj P0 (.fn (.func qP) [] []) [.sl (aF (c::r)),.fn (.func F) [] [],.i .u8 e.toNat] s cx=.ret (.i .i64 (MN p e (c::r))) s:=by
 have e1:=Jw F p hF r (by omega);have h1:=OV p r;refine OO (by simp) ?_;unfold MN;rw [List.tail_cons];have hg:(c::r)[1+lC p r]?=r[lC p r]?:=by rw [Nat.add_comm];rfl
 rw [hg];have w1:IntKind.i64.wrap (1+(lC p r:Int))=1+lC p r:=w64 (by omega) (by omega);have w2:IntKind.i64.wrap (1+(lC p r:Int)+1)=1+lC p r+1:=w64 (by omega) (by omega);have hn:(aF (c::r)).length=r.length+1:=by rw [kK];rfl
 have hd:(aF (c::r)).drop 1=aF r:=rfl;have hcl:=BF (l:=c::r);have htk:(aF r).take r.length=aF r:=List.take_of_length_le (by rw [kK];omega);by_cases q:r[lC p r]?=some e
 ·have h2:lC p r<r.length:=(List.getElem?_eq_some_iff.1 q).1;have hb:1+lC p r<(aF (c::r)).length:=by rw [hn];omega
  have hgt:(aF (c::r))[1+lC p r]?=some (.i .u8 e.toNat):=by rw [List.getElem?_eq_getElem hb,Du (c::r) (1+lC p r) hb (by rw [hg];exact q)]
  have h0:(0:Int)≤1+(lC p r:Int):=by omega
  have hne:¬(1+(lC p r:Int))=(r.length:Int)+1:=by omega
  have htn:(1+(lC p r:Int)).toNat=1+lC p r:=by omega
  rw [if_pos q];have hfin:((2+lC p r:Nat):Int)=1+(lC p r:Int)+1:=by omega
  rw [hfin];generalize hB:aF (c::r)=B at *;generalize aF r=B2 at *;simp -implicitDefEqProofs [af,oN,hcl,htk,e1,w1,w2,hn,hd,hne,htn,h0,hgt]
 ·rw [if_neg q];generalize hB:aF (c::r)=B at *;generalize aF r=B2 at *;by_cases h2:lC p r=r.length
  ·have hne:(1+(r.length:Int))=(r.length:Int)+1:=by omega
   rw [h2] at e1;have w1:IntKind.i64.wrap ((r.length:Int)+1)=(r.length:Int)+1:=w64 (by omega) (by omega);simp -implicitDefEqProofs [af,oN,hcl,htk,e1,w1,hn,hd,hne]
  ·have h3:lC p r<r.length:=by omega
   have hb:1+lC p r<B.length:=by rw [hn];omega
   have h0:(0:Int)≤1+(lC p r:Int):=by omega
   have hgt:B[1+lC p r]?=some (.i .u8 (r[lC p r].toNat:Int)):=by
    subst hB;rw [List.getElem?_eq_getElem hb,Du (c::r) (1+lC p r) hb (by rw [hg];exact List.getElem?_eq_getElem h3)]
   have hne:¬(1+(lC p r:Int))=(r.length:Int)+1:=by omega
   have htn:(1+(lC p r:Int)).toNat=1+lC p r:=by omega
   have hv:¬((r[lC p r].toNat:Int)=(e.toNat:Int)):=fun h=>q (by
    rw [List.getElem?_eq_getElem h3]
    congr 1
    exact UInt8.toNat_inj.1 (by omega))
   simp -implicitDefEqProofs [af,oN,hcl,htk,e1,w1,hn,hd,hne,htn,h0,hgt,hv]
end Go.Ai.Z
namespace Go.Ai.Z
def kU:Rl→Int×Nat
 | []=>(4,0)
 | c::r=>
  if (c.toNat:Int)=40∨(c.toNat:Int)=41∨(c.toNat:Int)=61 then (1,1)
  else if (c.toNat:Int)=94 then (1,if r.head?=some 94 then 2 else 0)
  else if (c.toNat:Int)=60 then (2,MN I9 62 (c::r))
  else if (c.toNat:Int)=34 then (3,MN UM 34 (c::r))
  else (4,lC zJ (c::r))
theorem S9 (c:UInt8) (r:Rl) (hl:r.length≤100000) (s:St) (cx:Ctx):
  aj P0 (.fn (.func vU) [] []) [.sl (aF (c::r))] s cx=.ret (.tu [.i .i64 (kU (c::r)).1,.i .i64 (kU (c::r)).2]) s:=by
 have e1:=Gf uH I9 (fun b s cx=>Oe b s cx) 62 c r hl;have e2:=Gf qO UM (fun b s cx=>Rw b s cx) 34 c r hl;have e3:=Jw vg zJ (fun b s cx=>VH b s cx) (c::r) (by simp;omega);refine QM (by simp) ?_;unfold kU;rw [show ((62:UInt8).toNat:Int)=62 from rfl] at e1;rw [show ((34:UInt8).toNat:Int)=34 from rfl] at e2;have hb:aF (c::r)=.i .u8 c.toNat::aF r:=rfl;rw [hb] at e1 e2 e3 ⊢;by_cases q1:(c.toNat:Int)=40
 ·simp -implicitDefEqProofs [af,iP,q1]
 by_cases q2:(c.toNat:Int)=41
 ·simp -implicitDefEqProofs [af,iP,q2]
 by_cases q3:(c.toNat:Int)=61
 ·simp -implicitDefEqProofs [af,iP,q3]
 by_cases q4:(c.toNat:Int)=94
 ·cases r with
  | nil=>
   simp -implicitDefEqProofs [af,iP,q4,aF]
  | cons d r=>
   have hb2:aF (d::r)=.i .u8 d.toNat::aF r:=rfl;have hlen:(1:Int)<(aF r).length+1+1:=by omega
   by_cases q:d=94
   ·subst q;simp -implicitDefEqProofs [af,iP,q4,hb2,hlen]
   ·have q':¬((d.toNat:Int)=94):=fun h=>q (UInt8.toNat_inj.1 (by have:(94:UInt8).toNat=94:=rfl;omega));simp -implicitDefEqProofs [af,iP,q4,hb2,hlen,q,q']
 by_cases q5:(c.toNat:Int)=60
 ·rw [q5] at e1;simp -implicitDefEqProofs [af,iP,q5,e1]
 by_cases q6:(c.toNat:Int)=34
 ·rw [q6] at e2;simp -implicitDefEqProofs [af,iP,q6,e2]
 ·simp -implicitDefEqProofs [af,iP,q1,q2,q3,q4,q5,q6,e3]
abbrev Tk:=Int×Rl×Nat
def fG (t:Tk):AV:=.ag [.i .i64 t.1,.s t.2.1,.i .i64 t.2.2]
structure Rd where
 at_:Nat
 ah:List Tk
 pre:List Rl
 iri:Rl
 op:Bool
 ax:AV
def ahV (l:List Tk):AV:=slf true (l.map fG)
def rO (src:Rl) (m:Nat) (r:Rd):fZ:=.cells [.sl (aF src),.i .i64 r.at_,ahV r.ah,.mp m,.s r.iri,.b r.op,r.ax,.mp (m+2),.mp (m+3)]
def rdF (m:Nat) (f:Nat):AV:=.fn (.func f) [.pt (m+1) 0] []
def Xd (m:Nat):List (AV×AV):=[
 (.s wC9,rdF m gQ),
 (.s wC2,rdF m lX),
 (.s wB3,rdF m gY),
 (.s wB5,rdF m ja),
 (.s wB2,rdF m jH),
 (.s wA3,rdF m kZ),
 (.s wA9,rdF m iK),
 (.s wB7,rdF m jG),
 (.s wB0,rdF m lg)]
def XJ (m:Nat):List (AV×AV):=[
 (.s wB4,rdF m kN),
 (.s wB1,rdF m iY),
 (.s wA5,rdF m kP),
 (.s wA6,rdF m jM),
 (.s wB6,rdF m iD),
 (.s wA8,rdF m jO)]
structure x9 (src:Rl) (S:Rd→St) (m N:Nat):Prop where
 cell:∀r,(S r)[m+1]?=some (rO src m r)
 sets:∀r q:Rd,q.pre=r.pre→(S r).set (m+1) (rO src m q)=S q
 pm:∀r,(S r)[m]?=some (.map (pX r.pre))
 setp:∀(r:Rd) P,(S r).set m (.map (pX P))=S { r with pre:=P }
 im:∀r,(S r)[m+2]?=some (.map (Xd m))
 cm:∀r,(S r)[m+3]?=some (.map (XJ m))
 n:∀r,(S r).length=N
 src:src.length≤70000
theorem x9.lt {src:Rl} {S:Rd→St} {m N:Nat} (h:x9 src S m N):m+3<N:=by
 have:=(List.getElem?_eq_some_iff.1 (h.cm ⟨0,[],[],[],false,.ns⟩)).1
 rw [h.n] at this;exact this
theorem x9.app {src:Rl} {S:Rd→St} {m N:Nat} (h:x9 src S m N) (X:St):x9 src (fun r=>S r++X) m (N+X.length):=by
 have hl:=h.lt;refine ⟨fun r=>?_,fun r q hq=>?_,fun r=>?_,fun r P=>?_,fun r=>?_,fun r=>?_,fun r=>by simp [h.n],h.src⟩
 ·rw [List.getElem?_append_left (by rw [h.n];omega)];exact h.cell r
 ·rw [List.set_append_left _ _ (by rw [h.n];omega),h.sets r q hq]
 ·rw [List.getElem?_append_left (by rw [h.n];omega)];exact h.pm r
 ·rw [List.set_append_left _ _ (by rw [h.n];omega),h.setp]
 ·rw [List.getElem?_append_left (by rw [h.n];omega)];exact h.im r
 ·rw [List.getElem?_append_left (by rw [h.n];omega)];exact h.cm r
section
variable {src:Rl} {S:Rd→St} {m N:Nat} (h:x9 src S m N)
include h
theorem x9.g1 (r:Rd) (X:St):(S r++X)[m+1]?=some (.cells [.sl (aF src),.i .i64 r.at_,ahV r.ah,.mp m,.s r.iri,.b r.op,r.ax,.mp (m+2),.mp (m+3)]):=(h.app X).cell r
theorem x9.s1 (r q:Rd) (X:St) (hq:q.pre=r.pre):(S r++X).set (m+1) (.cells [.sl (aF src),.i .i64 q.at_,ahV q.ah,.mp m,.s q.iri,.b q.op,q.ax,.mp (m+2),.mp (m+3)])=S q++X:=(h.app X).sets r q hq
theorem x9.gN (r:Rd) (x:fZ) (X:St):(S r++x::X)[N]?=some x:=by
 rw [List.getElem?_append_right (by rw [h.n];omega),h.n];simp
theorem x9.sN (r:Rd) (x y:fZ) (X:St):(S r++x::X).set N y=S r++y::X:=by
 rw [List.set_append_right _ _ (by rw [h.n];omega),h.n];simp
theorem x9.gN1 (r:Rd) (x y:fZ) (X:St):(S r++x::y::X)[N+1]?=some y:=by
 rw [List.getElem?_append_right (by rw [h.n];omega),h.n,Nat.add_sub_cancel_left];simp
theorem x9.sN1 (r:Rd) (x y z:fZ) (X:St):(S r++x::y::X).set (N+1) z=S r++x::z::X:=by
 rw [List.set_append_right _ _ (by rw [h.n];omega),h.n,Nat.add_sub_cancel_left];simp
theorem x9.tk (r:Rd) (X:St):(S r++X).take N=S r:=by
 rw [List.take_append_of_le_length (by rw [h.n];omega),List.take_of_length_le (by rw [h.n];omega)]
end
def skN:Nat→Rl→Nat
 | 0,_=>0
 | _+1,[]=>0
 | n+1,c::r=>
  if (c.toNat:Int)=9∨(c.toNat:Int)=10∨(c.toNat:Int)=13∨(c.toNat:Int)=32 then 1+skN n r
  else if (c.toNat:Int)=35 then lC Dp (c::r)+skN n ((c::r).drop (lC Dp (c::r))) else 0
theorem Ym:∀(n:Nat) (l:Rl),skN n l≤l.length
 | 0,l=>by simp [skN]
 | n+1,[]=>by simp [skN]
 | n+1,c::r=>by
  have h1:=Ym n r;have h2:=Ym n ((c::r).drop (lC Dp (c::r)));have h3:=OV Dp (c::r);rw [List.length_drop] at h2;unfold skN;split
  ·simp only [List.length_cons];omega
  ·split
   ·omega
   ·omega
def skO (src:Rl) (a:Nat):Nat:=a+skN src.length (src.drop a)
theorem UO {src:Rl} {a:Nat} (h:a≤src.length):skO src a≤src.length:=by
 have:=Ym src.length (src.drop a)
 rw [List.length_drop] at this;unfold skO;omega
section
variable {src:Rl} {S:Rd→St} {m N:Nat} (hE:x9 src S m N)
include hE
theorem l_skip (cx:Ctx) (hl:cx.lim≤m):∀(n:Nat) (r:Rd),r.at_≤src.length→src.length - r.at_≤n→
  (∃E:Env,ig (aC P0.glob (aj P0) cx false dP) [0] [(0,.v (.pt (m+1) 0))] (S r)=.exit 0 E (S { r with at_:=r.at_+skN n (src.drop r.at_) }))∨
  (∃E,ig (aC P0.glob (aj P0) cx false dP) [0] [(0,.v (.pt (m+1) 0))] (S r)=.ret E (S { r with at_:=r.at_+skN n (src.drop r.at_) }))
 | 0,r,ha,hn=>by
  have h0:r.at_=src.length:=by omega
  have hc:=hE.cell r;unfold rO at hc;have hbl:=kK src;refine .inl ⟨[(0,.v (.pt (m+1) 0)),(11,.v (.b false))],ak fun K hK=>?_⟩;rw [show { r with at_:=r.at_+skN 0 (src.drop r.at_) }=r from by simp [skN]];simp -implicitDefEqProofs [dP,hc,hbl,h0]
 | n+1,r,ha,hn=>by
  have hc:=hE.cell r;have hS:=hE.src;have hlt:=hE.lt;unfold rO at hc;have hbl:=kK src;have hcl:=BF (l:=src)
  cases hd:src.drop r.at_ with
  | nil=>
   have h0:r.at_=src.length:=by have:=List.drop_eq_nil_iff.1 hd;omega
   refine .inl ⟨[(0,.v (.pt (m+1) 0)),(11,.v (.b false))],ak fun K hK=>?_⟩;rw [show { r with at_:=r.at_+skN (n+1) [] }=r from by simp [skN]];simp -implicitDefEqProofs [dP,hc,hbl,h0]
  | cons c q=>
   have h1:src[r.at_]?=some c:=by rw [←List.head?_drop,hd];rfl
   have h3:r.at_<src.length:=(List.getElem?_eq_some_iff.1 h1).1;have h3i:(r.at_:Int)<(src.length:Int):=by omega
   have hb:r.at_<(aF src).length:=by rw [hbl];exact h3
   have hg:=Du src r.at_ hb h1;have hg':(aF src)[r.at_]?=some (.i .u8 c.toNat):=by rw [List.getElem?_eq_getElem hb,hg]
   have hq:src.drop (r.at_+1)=q:=by rw [←List.drop_drop,hd];rfl
   have hlim:cx.lim≤m+1:=by omega
   by_cases q1:(c.toNat:Int)=9∨(c.toNat:Int)=10∨(c.toNat:Int)=13∨(c.toNat:Int)=32
   ·have hk:skN (n+1) (c::q)=1+skN n q:=by rw [skN,if_pos q1]
    have hw:=wI (i:=r.at_) (by omega);have hs:=hE.sets r { r with at_:=r.at_+1 } rfl;unfold rO at hs;rw [show (((r.at_+1:Nat)):Int)=(r.at_:Int)+1 from rfl] at hs;have ih:=l_skip cx hl n { r with at_:=r.at_+1 } (by simp only;omega) (by simp only;omega);simp only [hq] at ih;rw [hk,show r.at_+(1+skN n q)=r.at_+1+skN n q by omega]
    have key:∀K:Env→St→Out,(aC P0.glob (aj P0) cx false dP [(0,.v (.pt (m+1) 0))] (S r)).thn K=K [(0,.v (.pt (m+1) 0))] (S { r with at_:=r.at_+1 }):=by
     intro K
     rcases q1 with q1|q1|q1|q1 <;>
      simp -implicitDefEqProofs [dP,hc,hbl,h3i,hb,hg',hg,hw,hlim,q1,hs]
    rcases ih with ⟨E,ih⟩|⟨E,ih⟩
    ·refine .inl ⟨E,ak fun K hK=>?_⟩;rw [←hK] at ih;rw [←ih];exact key K
    ·refine .inr ⟨E,ak fun K hK=>?_⟩;rw [←hK] at ih;rw [←ih];exact key K
   ·by_cases q2:(c.toNat:Int)=35
    ·have hk:skN (n+1) (c::q)=lC Dp (c::q)+skN n ((c::q).drop (lC Dp (c::q))):=by rw [skN,if_neg q1,if_pos q2]
     have hsp:1≤lC Dp (c::q):=by
      have:Dp c=true:=by unfold Dp;rw [q2];rfl
      simp [lC,this]
     have hsl:=OV Dp (c::q);have hlen:(c::q).length=src.length - r.at_:=by rw [←hd,List.length_drop]
     have e1:=Jw lu Dp (fun b s cx=>XW b s cx) (c::q) (by omega);have hdr:(aF src).drop r.at_=aF (c::q):=by rw [Rz,hd]
     have htk:(aF (c::q)).take (src.length - r.at_)=aF (c::q):=List.take_of_length_le (by rw [kK];omega);rw [hk];have hdd:(c::q).drop (lC Dp (c::q))=src.drop (r.at_+lC Dp (c::q)):=by rw [←List.drop_drop,hd]
     rw [hdd];generalize lC Dp (c::q)=k at *;have hw:IntKind.i64.wrap ((r.at_:Int)+k)=(r.at_:Int)+k:=w64 (by omega) (by omega);have hs:=hE.sets r { r with at_:=r.at_+k } rfl;unfold rO at hs;rw [show (((r.at_+k:Nat)):Int)=(r.at_:Int)+k by omega] at hs;have ih:=l_skip cx hl n { r with at_:=r.at_+k } (by simp only;omega) (by simp only;omega);simp only at ih;rw [show r.at_+(k+skN n (src.drop (r.at_+k)))=r.at_+k+skN n (src.drop (r.at_+k)) by omega];have hle:r.at_≤src.length:=ha
     have key:∀K:Env→St→Out,(aC P0.glob (aj P0) cx false dP [(0,.v (.pt (m+1) 0))] (S r)).thn K=K [(0,.v (.pt (m+1) 0))] (S { r with at_:=r.at_+k }):=by
      intro K;simp -implicitDefEqProofs [dP,hc,hbl,h3i,hb,hg',hg,hw,hlim,q2,hcl,hdr,htk,e1,hle,hs]
     rcases ih with ⟨E,ih⟩|⟨E,ih⟩
     ·refine .inl ⟨E,ak fun K hK=>?_⟩;rw [←hK] at ih;rw [←ih];exact key K
     ·refine .inr ⟨E,ak fun K hK=>?_⟩;rw [←hK] at ih;rw [←ih];exact key K
    ·refine .inr ⟨[(0,.v (.pt (m+1) 0)),(34,.v (.b false))],ak fun K hK=>?_⟩;have hk:skN (n+1) (c::q)=0:=by rw [skN,if_neg q1,if_neg q2]
     rw [hk];obtain ⟨p1,p2,p3,p4⟩:¬(c.toNat:Int)=9∧¬(c.toNat:Int)=10∧¬(c.toNat:Int)=13∧¬(c.toNat:Int)=32:=⟨fun h=>q1 (.inl h),fun h=>q1 (.inr (.inl h)),fun h=>q1 (.inr (.inr (.inl h))),fun h=>q1 (.inr (.inr (.inr h)))⟩;clear q1;simp -implicitDefEqProofs [dP,hc,hbl,h3i,hb,hg',hg,p1,p2,p3,p4,q2]
theorem ahT (r:Rd) (ha:r.at_≤src.length) (cx:Ctx) (hl:cx.lim≤m):
  aj P0 (.fn (.func pz) [] []) [.pt (m+1) 0] (S r) cx=.ret (.tu []) (S { r with at_:=skO src r.at_ }):=by
 have h:=l_skip hE ⟨cx.lim,(S r).length⟩ hl src.length r ha (by omega);have hN:=hE.n;refine Jf (by simp) ?_;unfold skO;rw [hN] at h;rcases h with ⟨E,h⟩|⟨E,h⟩
 ·simp -implicitDefEqProofs [af,oq,hN,h]
 ·simp -implicitDefEqProofs [af,oq,hN,h]
end
end Go.Ai.Z
namespace Go.Ai.Z
inductive OR (α:Type) where
 | ok (v:α) (r:Rd)
 | er (a:Nat) (c:Int) (r:Rd)
def OR.bind {α β:Type} (x:OR α) (f:α→Rd→OR β):OR β:=
 match x with
 | .ok v r=>f v r
 | .er a c r=>.er a c r
@[simp] theorem OR.bind_ok {α β:Type} (v:α) (r:Rd) (f:α→Rd→OR β):(OR.ok v r).bind f=f v r:=rfl
@[simp] theorem OR.bind_er {α β:Type} (a:Nat) (c:Int) (r:Rd) (f:α→Rd→OR β):(OR.er a c r:OR α).bind f=.er a c r:=rfl
def flt (a:Nat) (c:Int):AV:=.ifc qX (.ag [.i .i64 (a:Int),.i .i64 c])
@[simp] theorem alm (S:St) (n:Nat) (a:Nat) (c:Int):frz S n (flt a c)=some (flt a c):=by simp [frz,flt,AV.under,bW]
@[simp] theorem akc (S:St) (n:Nat) (a:Int) (c:Int):frz S n (.ifc qX (.ag [.i .i64 a,.i .i64 c]))=some (.ifc qX (.ag [.i .i64 a,.i .i64 c])):=by simp [frz,AV.under,bW]
def tJ {α:Type} (enc:α→AV) (S:Rd→St) (x:OR α):CO:=
 match x with
 | .ok v r=>.ret (enc v) (S r)
 | .er a c r=>.pan (flt a c) (S r)
@[simp] theorem dF {α:Type} (enc:α→AV) (S:Rd→St) (v:α) (r:Rd):tJ enc S (.ok v r)=.ret (enc v) (S r):=rfl
@[simp] theorem dB {α:Type} (enc:α→AV) (S:Rd→St) (a:Nat) (c:Int) (r:Rd):tJ enc S (.er a c r:OR α)=.pan (flt a c) (S r):=rfl
theorem jQ {α:Type} (enc:α→AV) (S:Rd→St) (x:OR α):tJ enc S x≠.fail:=by cases x<;>simp
def iM (src:Rl) (r:Rd):OR Tk:=
 match r.ah with
 | t::_=>.ok t r
 | []=>
  if skO src r.at_<src.length then
   if (kU (src.drop (skO src r.at_))).2=0 then .er (skO src r.at_) 50 { r with at_:=skO src r.at_ }
   else .ok ((kU (src.drop (skO src r.at_))).1,(src.drop (skO src r.at_)).take (kU (src.drop (skO src r.at_))).2,skO src r.at_)
    { r with at_:=skO src r.at_+(kU (src.drop (skO src r.at_))).2,ah:=[((kU (src.drop (skO src r.at_))).1,(src.drop (skO src r.at_)).take (kU (src.drop (skO src r.at_))).2,skO src r.at_)] }
  else .ok (5,[],skO src r.at_) { r with at_:=skO src r.at_,ah:=[(5,[],skO src r.at_)] }
theorem aah (p:UInt8→Bool) (e:UInt8) (l:Rl):MN p e l≤l.length:=by
 unfold MN;split
 ·rename_i h;have:=(List.getElem?_eq_some_iff.1 h).1;omega
 ·omega
theorem Qp (l:Rl):(kU l).2≤l.length:=by
 unfold kU
 cases l with
 | nil=>simp
 | cons c r=>
  have h1:=aah I9 62 (c::r);have h2:=aah UM 34 (c::r);have h3:=OV zJ (c::r);simp only;split
  ·simp
  split
  ·cases r with
   | nil=>simp
   | cons d r=>simp;split<;>omega
  split
  ·exact h1
  split
  ·exact h2
  ·exact h3
theorem Vt (k:Int) (t:Rl) (a:Int):(AV.sl [.ag [.i .i64 k,.s t,.i .i64 a]]).flat=true:=rfl
theorem aeA:∀l:Rl,(aF l).mapM byteOf=some l
 | []=>rfl
 | b::r=>by
  have ih:=aeA r;unfold aF at ih ⊢;rw [List.map_cons,List.mapM_cons,ih];simp [byteOf]
section
variable {src:Rl} {S:Rd→St} {m N:Nat} (hE:x9 src S m N)
include hE
theorem oL (r:Rd) (ha:r.at_≤src.length) (cx:Ctx) (hl:cx.lim≤m):
  aj P0 (.fn (.func aO) [] []) [.pt (m+1) 0] (S r) cx=tJ fG S (iM src r):=by
 refine Jh (jQ _ _ _) ?_;have hN:=hE.n;have hlt:=hE.lt;have hS:=hE.src;have hlim:cx.lim≤m+1:=by omega
 have hc:=hE.cell r;unfold rO at hc;obtain ⟨a0,ah,pre,iri,op,ax⟩:=r;unfold iM;simp only at ha hc
 cases ah with
 | cons t u=>
  obtain ⟨t1,t2,t3⟩:=t;unfold ahV at hc;simp only [List.map_cons,slf] at hc;have g1:=hE.g1 ⟨a0,(t1,t2,t3)::u,pre,iri,op,ax⟩;simp only [ahV,List.map_cons,slf] at g1;have hz:¬((u.length:Int)+1=0):=by omega
  have hl0:cx.lim≤N:=by omega
  simp -implicitDefEqProofs [af,kD,hN,g1,hE.gN,hE.sN,hE.tk,hz,hl0,fG,dU,splice,frz,AV.under,bW]
 | nil=>
  have hE1:=hE.app [fZ.cells [.i .i64 0,.s [],.i .i64 0]];have e1:=ahT hE1 ⟨a0,[],pre,iri,op,ax⟩ ha ⟨cx.lim,N⟩ hl;have hl0:cx.lim≤N:=by omega
  have hl1:cx.lim≤N+1:=by omega
  have hle:=UO (src:=src) ha;simp only at e1;have hc1:=hE.cell ⟨skO src a0,[],pre,iri,op,ax⟩;unfold rO at hc1;have g0:=hE.g1 ⟨a0,[],pre,iri,op,ax⟩;have g1:=hE.g1 ⟨skO src a0,[],pre,iri,op,ax⟩;generalize skO src a0=a at *;simp only [ahV,List.map_nil,slf] at g0 g1;have hcl:=BF (l:=src);have hbl:=kK src;have hdr:=Rz src a;have htk:(aF (src.drop a)).take (src.length - a)=aF (src.drop a):=List.take_of_length_le (by rw [kK,List.length_drop];omega);have hdl:(aF (src.drop a)).length=src.length - a:=by rw [kK,List.length_drop]
  simp only [ahV,List.map_nil,slf] at hc hc1;by_cases q:a<src.length
  ·rw [if_pos q]
   obtain ⟨c,w,hcw⟩:∃c w,src.drop a=c::w:=by
    cases hh:src.drop a with
    | nil=>have:=List.drop_eq_nil_iff.1 hh;omega
    | cons c w=>exact ⟨c,w,rfl⟩
   have hwl:w.length≤100000:=by
    have:=congrArg List.length hcw
    rw [List.length_drop,List.length_cons] at this;omega
   have e2:=S9 c w hwl;have hml:=Qp (src.drop a);rw [←hcw] at e2;rw [List.length_drop] at hml;have hcl2:=BF (l:=src.drop a);generalize hB:aF (src.drop a)=B at *;have hgt:0<src.length - a:=by omega
   by_cases z:(kU (src.drop a)).2=0
   ·rw [if_pos z];rw [z] at e2;simp -implicitDefEqProofs [af,kD,hN,g0,g1,hE.gN,hE.sN,hE.gN1,hE.sN1,hE.tk,fG,dU,splice,frz,AV.under,bW,hbl,Vt,e1,e2,hcl,hdr,htk,hle,hdl,hgt,flt,hl0,hl1]
   ·rw [if_neg z];have s1:=hE.s1 ⟨a,[],pre,iri,op,ax⟩ ⟨a+(kU (src.drop a)).2,[],pre,iri,op,ax⟩;have g2:=hE.g1 ⟨a+(kU (src.drop a)).2,[],pre,iri,op,ax⟩;have s2:=hE.s1 ⟨a+(kU (src.drop a)).2,[],pre,iri,op,ax⟩ ⟨a+(kU (src.drop a)).2,[((kU (src.drop a)).1,(src.drop a).take (kU (src.drop a)).2,a)],pre,iri,op,ax⟩;have g3:=hE.g1 ⟨a+(kU (src.drop a)).2,[((kU (src.drop a)).1,(src.drop a).take (kU (src.drop a)).2,a)],pre,iri,op,ax⟩
    have hb2:(B.take (kU (src.drop a)).2).mapM byteOf=some ((src.drop a).take (kU (src.drop a)).2):=by
     rw [←hB,Zl];exact aeA _
    generalize (kU (src.drop a)).2=n at *;generalize (kU (src.drop a)).1=k at *;generalize (src.drop a).take n=txt at *;have w1:IntKind.i64.wrap ((a:Int)+n)=(a:Int)+n:=w64 (by omega) (by omega);have hnz:¬((n:Int)=0):=by omega
    have hnl:n≤src.length - a:=hml;simp [ahV,fG] at s1 g2 s2 g3;simp -implicitDefEqProofs [af,kD,hN,g0,g1,g2,g3,s1,s2,hE.gN,hE.sN,hE.gN1,hE.sN1,hE.tk,fG,dU,splice,frz,AV.under,bW,hbl,Vt,e1,e2,hcl,hdr,htk,hle,hdl,hgt,flt,hl0,hl1,hlim,hb2,w1,z,hnz,hnl,hcl2]
  ·rw [if_neg q];have hle2:a=src.length:=by omega
   have s2:=hE.s1 ⟨a,[],pre,iri,op,ax⟩ ⟨a,[(5,[],a)],pre,iri,op,ax⟩;have g3:=hE.g1 ⟨a,[(5,[],a)],pre,iri,op,ax⟩;simp [ahV,fG] at s2 g3;have hB0:aF (src.drop a)=[]:=by rw [hle2];simp [aF]
   simp -implicitDefEqProofs [af,kD,hN,g0,g1,g3,s2,hE.gN,hE.sN,hE.gN1,hE.sN1,hE.tk,fG,dU,splice,frz,AV.under,bW,hbl,Vt,e1,hcl,hdr,htk,hle,hdl,flt,hl0,hl1,hlim,hB0]
end
end Go.Ai.Z
namespace Go.Ai.Z
def cu (r:Rd):Rd:={ r with ah:=[] }
def isR (src:Rl) (w:Rl) (r:Rd):OR Bool:=(iM src r).bind fun t r=>.ok (decide (t.2.1=w)) r
def qV (src:Rl) (b:Bool) (r:Rd):OR Unit:=if b=true then .ok () r else (iM src r).bind fun t r=>.er t.2.2 50 r
def lK (src:Rl) (w:Rl) (r:Rd):OR Unit:=(isR src w r).bind fun b r=>(qV src b r).bind fun _ r=>.ok () (cu r)
structure aeP (src:Rl) (t:Tk):Prop where
 len:t.2.1.length≤src.length
 two:t.1=2∨t.1=3→2≤t.2.1.length
 one:t.1≠5→1≤t.2.1.length
 at_:t.2.2≤src.length
structure Wr (src:Rl) (r:Rd):Prop where
 at_:r.at_≤src.length
 ah:∀t∈r.ah,aeP src t
theorem aa2 (l:Rl) (h:(kU l).1=2∨(kU l).1=3) (h0:(kU l).2≠0):2≤(kU l).2:=by
 have he:∀p e,MN p e l≠0→2≤MN p e l:=by
  intro p e hh;unfold MN at hh ⊢;split
  ·omega
  ·rename_i q;rw [if_neg q] at hh;exact absurd rfl hh
 cases l with
 | nil=>simp [kU] at h
 | cons c r=>
  unfold kU at h h0 ⊢;simp only at h h0 ⊢
  split at h
  ·simp at h
  rename_i q1;rw [if_neg q1] at h0 ⊢
  split at h
  ·simp at h
  rename_i q2;rw [if_neg q2] at h0 ⊢
  split at h
  ·rename_i q3;rw [if_pos q3] at h0 ⊢;exact he _ _ h0
  rename_i q3;rw [if_neg q3] at h0 ⊢
  split at h
  ·rename_i q4;rw [if_pos q4] at h0 ⊢;exact he _ _ h0
  ·simp at h
theorem mM {src:Rl} {r r':Rd} {t:Tk} (h:Wr src r) (e:iM src r=.ok t r'):Wr src r'∧aeP src t:=by
 have h1:=UO h.at_;have h2:=Qp (src.drop (skO src r.at_));have h3:=aa2 (src.drop (skO src r.at_));rw [List.length_drop] at h2;unfold iM at e
 split at e
 ·rename_i t0 u hh;cases e;exact ⟨h,h.ah t (by rw [hh];simp)⟩
 ·split at e
  ·split at e
   ·cases e
   ·rename_i q;cases e
    have ht:aeP src ((kU (src.drop (skO src r.at_))).1,(src.drop (skO src r.at_)).take (kU (src.drop (skO src r.at_))).2,skO src r.at_):=by
     refine ⟨?_,fun hk=>?_,fun hk=>?_,h1⟩
     ·simp only [List.length_take,List.length_drop];omega
     ·have:=h3 hk q
      simp only [List.length_take,List.length_drop];omega
     ·simp only [List.length_take,List.length_drop];omega
    exact ⟨⟨by simp only;omega,fun t hm=>by simp at hm;subst hm;exact ht⟩,ht⟩
  ·cases e;have ht:aeP src (5,[],skO src r.at_):=⟨by simp,fun hk=>by simp at hk,fun hk=>absurd rfl hk,h1⟩;exact ⟨⟨h1,fun t hm=>by simp at hm;subst hm;exact ht⟩,ht⟩
theorem qw {src:Rl} {r r':Rd} {t:Tk} (e:iM src r=.ok t r'):iM src r'=.ok t r'∧r'.pre=r.pre∧r'.iri=r.iri∧r'.op=r.op∧r'.ax=r.ax:=by
 unfold iM at e
 split at e
 ·rename_i hh;cases e;refine ⟨?_,rfl,rfl,rfl,rfl⟩;unfold iM;rw [hh]
 ·split at e
  ·split at e
   ·cases e
   ·cases e;refine ⟨?_,rfl,rfl,rfl,rfl⟩;unfold iM;rfl
  ·cases e;refine ⟨?_,rfl,rfl,rfl,rfl⟩;unfold iM;rfl
theorem dN {src:Rl} {r:Rd} (h:Wr src r):Wr src (cu r):=⟨h.at_,by simp [cu]⟩
theorem yV (src:Rl) (r:Rd):∃a c r2,qV src false r=.er a c r2:=by
 unfold qV;rw [if_neg Bool.false_ne_true]
 cases iM src r with
 | er a c r2=>exact ⟨a,c,r2,rfl⟩
 | ok t r2=>exact ⟨_,_,r2,rfl⟩
@[simp] theorem o8 (src:Rl) (r:Rd):qV src true r=.ok () r:=rfl
theorem agv {src:Rl} {r r':Rd} {w:Rl} {b:Bool} (h:Wr src r) (e:isR src w r=.ok b r'):Wr src r':=by
 unfold isR at e
 cases hp:iM src r with
 | er a c r1=>rw [hp] at e;cases e
 | ok t r1=>rw [hp] at e;cases e;exact (mM h hp).1
def Qj (pre:List Rl) (t:Tk):Bool:=
 match lD 58 t.2.1 with
 | some (x,y)=>decide (t.1=4) && !y.isEmpty && !decide ((58:UInt8)∈y) && decide (x++[58]∈pre) && !decide (x=[111,119,108]) && !decide (x=[120,115,100])
 | none=>false
def trimB (b:UInt8) (w:Rl):Rl:=match w with | []=>[] | c::r=>if c=b then r else c::r
def VX (w:Rl):Rl:=trimB 58 w
theorem X4 (w:Rl) (b:UInt8) (s:St) (cx:Ctx):aj P0 (.fn (.func fV) [] []) [.s w,.s [b]] s cx=.ret (.b (decide (w.head?=some b))) s:=by
 refine xu (by simp) ?_
 cases w with
 | nil=>simp -implicitDefEqProofs [af,fF]
 | cons c r=>
  have h1:(1:Int)≤(r.length:Int)+1:=by omega
  by_cases q:c=b<;>simp -implicitDefEqProofs [af,fF,h1,q]
theorem Lc (w:Rl) (b:UInt8) (s:St) (cx:Ctx):aj P0 (.fn (.func kM) [] []) [.s w,.s [b]] s cx=.ret (.s (trimB b w)) s:=by
 have e1:=X4 w b
 have e2:∀(s:St) (cx:Ctx),aj P0 (.fn (.func fH) [] []) [.s w,.s [b]] s cx=.ret (.s (trimB b w)) s:=fun s cx=>by
  refine wJ (by simp) ?_
  cases w with
  | nil=>
   simp at e1;simp -implicitDefEqProofs [af,dI,e1,trimB]
  | cons c r=>
   by_cases q:c=b
   ·simp [q] at e1;simp -implicitDefEqProofs [af,dI,e1,trimB,q]
   ·simp [q] at e1;simp -implicitDefEqProofs [af,dI,e1,trimB,q]
 refine EK (by simp) ?_;simp -implicitDefEqProofs [af,oH,e2]
def nY (src:Rl) (r:Rd):OR Rl:=(iM src r).bind fun t r=>(qV src (Qj r.pre t) r).bind fun _ r=>.ok (VX t.2.1) (cu r)
def KN (src:Rl) (w p:Rl) (r:Rd):OR Unit:=(isR src w r).bind fun b r=>(qV src (b && decide (p∈r.pre)) r).bind fun _ r=>.ok () (cu r)
section
variable {src:Rl} {S:Rd→St} {m N:Nat} (hE:x9 src S m N)
include hE
theorem pU (b:Bool) (r:Rd) (ha:Wr src r) (cx:Ctx) (hl:cx.lim≤m):
  aj P0 (.fn (.func bQ) [] []) [.pt (m+1) 0,.b b] (S r) cx=tJ (fun _=>.tu []) S (qV src b r):=by
 refine Jl (jQ _ _ _) ?_;have hN:=hE.n;have e1:=oL hE r ha.at_ ⟨cx.lim,N⟩ hl;unfold qV;cases b
 ·cases hp:iM src r with
  | er a c r1=>
   rw [hp] at e1;simp only [dB] at e1;simp -implicitDefEqProofs [af,lS,hN,e1]
  | ok t r1=>
   rw [hp] at e1;simp only [dF,fG] at e1;simp -implicitDefEqProofs [af,lS,hN,e1,dU,splice,flt]
 ·simp -implicitDefEqProofs [af,lS,hN]
theorem Jy (w:Rl) (r:Rd) (ha:Wr src r) (cx:Ctx) (hl:cx.lim≤m):
  aj P0 (.fn (.func bK) [] []) [.pt (m+1) 0,.s w] (S r) cx=tJ .b S (isR src w r):=by
 refine MI (jQ _ _ _) ?_;have hN:=hE.n;have e1:=oL hE r ha.at_ ⟨cx.lim,N⟩ hl;unfold isR
 cases hp:iM src r with
 | er a c r1=>
  rw [hp] at e1;simp only [dB] at e1;simp -implicitDefEqProofs [af,qB,hN,e1]
 | ok t r1=>
  rw [hp] at e1;simp only [dF,fG] at e1
  by_cases q:t.2.1=w<;>simp -implicitDefEqProofs [af,qB,hN,e1,q]
theorem lG (r:Rd) (cx:Ctx) (hl:cx.lim≤m):
  aj P0 (.fn (.func aN) [] []) [.pt (m+1) 0] (S r) cx=.ret (.tu []) (S (cu r)):=by
 refine Ji (by simp) ?_;have hN:=hE.n;have hc:=hE.cell r;have hs:=hE.sets r (cu r) rfl;have hlim:cx.lim≤m+1:=by omega
 unfold rO cu at *;simp [ahV] at hs;simp -implicitDefEqProofs [af,rQ,hN,hc,hs,hlim,show AV.ns.flat=true from rfl]
theorem iI (w:Rl) (r:Rd) (ha:Wr src r) (cx:Ctx) (hl:cx.lim≤m):
  aj P0 (.fn (.func aH) [] []) [.pt (m+1) 0,.s w] (S r) cx=tJ (fun _=>.tu []) S (lK src w r):=by
 refine Jd (jQ _ _ _) ?_;have hN:=hE.n;have e1:=Jy hE w r ha ⟨cx.lim,N⟩ hl;unfold lK
 cases hp:isR src w r with
 | er a c r1=>
  rw [hp] at e1;simp only [dB] at e1;simp -implicitDefEqProofs [af,lQ,hN,e1]
 | ok b r1=>
  rw [hp] at e1;simp only [dF] at e1;have h1:=agv ha hp;have e2:=pU hE b r1 h1 ⟨cx.lim,N⟩ hl;simp only [OR.bind_ok]
  cases hq:qV src b r1 with
  | er a c r2=>
   rw [hq] at e2;simp only [dB] at e2;simp -implicitDefEqProofs [af,lQ,hN,e1,e2]
  | ok v r2=>
   rw [hq] at e2;simp only [dF] at e2;have e3:=lG hE r2 ⟨cx.lim,N⟩ hl;simp -implicitDefEqProofs [af,lQ,hN,e1,e2,e3]
theorem GH (w p:Rl) (r:Rd) (ha:Wr src r) (cx:Ctx) (hl:cx.lim≤m):
  aj P0 (.fn (.func gK) [] []) [.pt (m+1) 0,.s w,.s p] (S r) cx=tJ (fun _=>.tu []) S (KN src w p r):=by
 refine Hf (jQ _ _ _) ?_;have hN:=hE.n;have e1:=Jy hE w r ha ⟨cx.lim,N⟩ hl;unfold KN
 cases hp:isR src w r with
 | er a c r1=>
  rw [hp] at e1;simp only [dB] at e1;simp -implicitDefEqProofs [af,dX,hN,e1]
 | ok b r1=>
  rw [hp] at e1;simp only [dF] at e1;have h1:=agv ha hp;have e2:=pU hE (b && decide (p∈r1.pre)) r1 h1 ⟨cx.lim,N⟩ hl;have hc:=hE.cell r1;have hm:=hE.pm r1;have hf:=Dj p r1.pre;unfold rO at hc;simp only [OR.bind_ok]
  have key:∀x,qV src (b && decide (p∈r1.pre)) r1=x→af P0.glob (aj P0) dX ([]++[.pt (m+1) 0,.s w,.s p]++[]) (S r) cx=tJ (fun _=>.tu []) S (x.bind fun _ r=>.ok () (cu r)):=by
   intro x hx;rw [hx] at e2
   cases x with
   | er a c r2=>
    simp only [dB] at e2;cases b
    ·simp at e2;simp -implicitDefEqProofs [af,dX,hN,e1,e2]
    ·by_cases q:p∈r1.pre
     ·simp [q] at e2 hf;simp -implicitDefEqProofs [af,dX,hN,e1,e2,hc,hm,hf]
     ·simp [q] at e2 hf;simp -implicitDefEqProofs [af,dX,hN,e1,e2,hc,hm,hf]
   | ok v r2=>
    simp only [dF] at e2;have e3:=lG hE r2 ⟨cx.lim,N⟩ hl;cases b
    ·simp at e2;simp -implicitDefEqProofs [af,dX,hN,e1,e2,e3]
    ·by_cases q:p∈r1.pre
     ·simp [q] at e2 hf;simp -implicitDefEqProofs [af,dX,hN,e1,e2,hc,hm,hf,e3]
     ·simp [q] at e2 hf;simp -implicitDefEqProofs [af,dX,hN,e1,e2,hc,hm,hf,e3]
  exact key _ rfl
theorem qG (r:Rd) (ha:Wr src r) (cx:Ctx) (hl:cx.lim≤m):
  aj P0 (.fn (.func aP) [] []) [.pt (m+1) 0] (S r) cx=tJ .s S (nY src r):=by
 refine Jj (jQ _ _ _) ?_;have hN:=hE.n;have hS:=hE.src;have e1:=oL hE r ha.at_ ⟨cx.lim,N⟩ hl;unfold nY
 cases hp:iM src r with
 | er a c r1=>
  rw [hp] at e1;simp only [dB] at e1;simp -implicitDefEqProofs [af,dR,hN,e1]
 | ok t r1=>
  rw [hp] at e1;obtain ⟨w1,w2⟩:=mM ha hp;obtain ⟨p1,p2,_,_,_⟩:=qw hp;have e1b:=oL hE r1 w1.at_ ⟨cx.lim,N⟩ hl;rw [p1] at e1b;obtain ⟨k,w,a⟩:=t;simp only [dF,fG] at e1 e1b;have ec:=yX w 58 (by have:=w2.len;simp only at this;omega);have et:=Lc w 58;have hc:=hE.cell r1;have hm:=hE.pm r1;unfold rO at hc;simp only [OR.bind_ok];have e3:=lG hE r1 ⟨cx.lim,N⟩ hl;have e2:=fun b=>pU hE b r1 w1 ⟨cx.lim,N⟩ hl;obtain ⟨a2,c2,r2,hx⟩:=yV src r1;have e2f:=e2 false;have e2t:=e2 true;rw [hx] at e2f;simp only [dB,dF,o8] at e2f e2t;clear e2;unfold Qj;simp only
  cases hcut:lD 58 w with
  | none=>
   rw [hcut] at ec;simp only at ec ⊢;rw [hx]
   by_cases q1:k=4<;>simp -implicitDefEqProofs [af,dR,hN,e1,e1b,ec,e2f,q1]
  | some q=>
   obtain ⟨x,y⟩:=q;rw [hcut] at ec;simp only at ec ⊢;have hf:=Dj (x++[58]) r1.pre;have eC:=JV y 58
   have hxl:x.length≤4611686018427387903:=by
    have h1:=vS hcut;have h2:=w2.len;simp only at h2;rw [h1] at h2;simp at h2;omega
   by_cases q1:¬k=4
   ·simp [q1,hx];simp -implicitDefEqProofs [af,dR,hN,e1,e1b,ec,e2f,q1]
   have q1:k=4:=Classical.not_not.1 q1;by_cases q2:y=[]
   ·simp [q1,q2,hx];simp -implicitDefEqProofs [af,dR,hN,e1,e1b,ec,e2f,q1,q2]
   have q2b:y.isEmpty=false:=by cases y<;>simp_all
   by_cases q3:(58:UInt8)∈y
   ·simp [q1,q2,q3,hx];simp [q3] at eC;simp -implicitDefEqProofs [af,dR,hN,e1,e1b,ec,e2f,q1,q2b,eC]
   simp [q3] at eC;by_cases q4:¬x++[58]∈r1.pre
   ·simp [q1,q2,q3,q4,hx];simp [q4] at hf;simp -implicitDefEqProofs [af,dR,hN,e1,e1b,ec,e2f,q1,q2b,eC,hc,hm,hf,hxl]
   have q4:x++[58]∈r1.pre:=Classical.not_not.1 q4;simp [q4] at hf;by_cases q5:x=[111,119,108]
   ·simp [q1,q2,q3,q4,q5,hx];subst q5;simp at hf q4;simp -implicitDefEqProofs [af,dR,hN,e1,e1b,ec,e2f,q1,q2b,eC,hc,hm,hf,hxl,hx]
   by_cases q6:x=[120,115,100]
   ·simp [q1,q2,q3,q4,q5,q6,hx];subst q6;simp at hf q4;simp -implicitDefEqProofs [af,dR,hN,e1,e1b,ec,e2f,q1,q2b,eC,hc,hm,hf,hxl,hx]
   ·simp [q1,q2,q3,q4,q5,q6];simp -implicitDefEqProofs [af,dR,hN,e1,e1b,ec,e2t,e3,et,VX,q1,q2b,eC,hc,hm,hf,hxl,q5,q6]
end
end Go.Ai.Z
namespace Go.Ai.Z
open Go.Lib (atoi decNat decFrom digitVal)
def KU (b:UInt8):Bool:=decide (48≤(b.toNat:Int)) && decide ((b.toNat:Int)≤57)
def xX (w:Rl):Rl:=(w.drop 1).take (w.length - 2)
def EI (t:Tk):Option Int:=
 if t.1=3 then
  if (trimB 45 (xX t.2.1)).length<1∨18<(trimB 45 (xX t.2.1)).length then none
  else if (trimB 45 (xX t.2.1)).head?=some 48∧xX t.2.1≠[48] then none
  else if (trimB 45 (xX t.2.1)).all KU=true then atoi (xX t.2.1) else none
 else none
theorem N9:∀(l:Rl) (acc:Nat),l.all KU=true→∃n,decFrom acc l=some n
 | [],acc,_=>⟨acc,rfl⟩
 | b::r,acc,h=>by
  rw [List.all_cons,Bool.and_eq_true] at h;obtain ⟨n,hn⟩:=N9 r (acc * 10+(b.toNat - 48)) h.2
  have hd:digitVal b=some (b.toNat - 48):=by
   have h1:=h.1;unfold KU at h1;rw [Bool.and_eq_true,decide_eq_true_eq,decide_eq_true_eq] at h1;unfold digitVal;rw [if_pos ⟨by omega,by omega⟩]
  refine ⟨n, ?_⟩;simp only [decFrom,hd];exact hn
theorem aeD {s:Rl} (h1:1≤(trimB 45 s).length) (h2:(trimB 45 s).length≤18) (h3:(trimB 45 s).all KU=true):
  ∃n,atoi s=some n∧(s.length≤18∨(s.length=19∧s.head?=some 45)):=by
 obtain ⟨n,hn⟩:=N9 (trimB 45 s) 0 h3
 have hdn:decNat (trimB 45 s)=some n:=by
  unfold decNat
  cases hh:trimB 45 s with
  | nil=>rw [hh] at h1;simp at h1
  | cons c r=>rw [hh] at hn;simp [hn]
 cases s with
 | nil=>simp [trimB] at h1
 | cons c r=>
  unfold trimB at h2 h3 hdn;simp only at h2 h3 hdn;by_cases q:c=45
  ·subst q;simp at h2 h3 hdn;refine ⟨-(n:Int),by simp [atoi,hdn], ?_⟩;simp only [List.length_cons,List.head?_cons];by_cases z:r.length=18
   ·exact .inr ⟨by omega,trivial⟩
   ·exact .inl (by omega)
  ·rw [if_neg q] at h2 h3 hdn
   have q2:c≠43:=by
    intro hc;subst hc;simp [KU] at h3
   refine ⟨n, ?_,.inl h2⟩;have b1:(c == 45)=false:=by simpa using q
   have b2:(c == 43)=false:=by simpa using q2
   simp only [atoi,b1,b2,hdn,Option.map_some,Bool.false_eq_true,if_false]
theorem adJ (w:Rl):(xX w).length=w.length - 2:=by
 unfold xX;rw [List.length_take,List.length_drop];omega
def rem (src:Rl) (r:Rd):Nat:=(src.length - r.at_)+(match r.ah with | []=>0|t::_=>t.2.1.length)
def aG {α:Type} (src:Rl) (r:Rd) (k:Nat) (x:OR α):Prop:=
 match x with
 | .ok _ q=>Wr src q∧rem src q+k≤rem src r∧q.pre=r.pre∧q.iri=r.iri∧q.ax=r.ax
 | .er a c _=>a≤src.length∧c=50
theorem aG.ok {α:Type} {src:Rl} {r q:Rd} {v:α} {k:Nat} {x:OR α} (h:aG src r k x) (e:x=.ok v q):Wr src q∧rem src q+k≤rem src r∧q.pre=r.pre∧q.iri=r.iri∧q.ax=r.ax:=by subst e;exact h
theorem spl {α:Type} {enc:α→AV} {S:Rd→St} {x:OR α} {C:CO} {src:Rl} {r:Rd} {k:Nat} (e:C=tJ enc S x) (g:aG src r k x):
  (∃a c q,x=.er a c q∧C=.pan (flt a c) (S q))∨(∃v q,x=.ok v q∧C=.ret (enc v) (S q)∧Wr src q∧rem src q+k≤rem src r∧q.pre=r.pre∧q.iri=r.iri∧q.ax=r.ax):=by
 cases x with
 | er a c q=>exact .inl ⟨a,c,q,rfl,e⟩
 | ok v q=>exact .inr ⟨v,q,rfl,e,g⟩
theorem aG.mk {α:Type} {src:Rl} {r:Rd} {v:α} (h:Wr src r):aG src r 0 (.ok v r):=⟨h,by omega,rfl,rfl,rfl⟩
theorem aG.bind {α β:Type} {src:Rl} {r:Rd} {k j n:Nat} {x:OR α} {f:α→Rd→OR β} (h:aG src r k x)
  (hf:∀v q,x=.ok v q→Wr src q→rem src q+k≤rem src r→aG src q j (f v q)) (hn:n≤k+j):aG src r n (x.bind f):=by
 cases x with
 | er a c q=>exact h
 | ok v q=>
  obtain ⟨h1,h2,h3,h4,h5⟩:=h;have h6:=hf v q rfl h1 h2;rw [OR.bind_ok];generalize f v q=y at *
  cases y with
  | er a c q2=>exact h6
  | ok w q2=>
   obtain ⟨g1,g2,g3,g4,g5⟩:=h6;exact ⟨g1,by omega,g3.trans h3,g4.trans h4,g5.trans h5⟩
theorem dn {src:Rl} {r:Rd} (h:Wr src r):aG src r 0 (iM src r):=by
 cases e:iM src r with
 | er a c q=>
  have h1:=UO h.at_;unfold iM at e
  split at e
  ·cases e
  ·split at e
   ·split at e
    ·cases e;exact ⟨h1,rfl⟩
    ·cases e
   ·cases e
 | ok t q=>
  obtain ⟨p1,p2,p3,p4,p5⟩:=qw e;refine ⟨(mM h e).1, ?_,p2,p3,p5⟩;have h1:=UO h.at_;have h2:=Qp (src.drop (skO src r.at_));rw [List.length_drop] at h2;have h3:r.at_≤skO src r.at_:=by unfold skO;omega
  unfold iM at e
  split at e
  ·cases e;omega
  ·rename_i hh
   split at e
   ·split at e
    ·cases e
    ·cases e;unfold rem;rw [hh];simp only [List.length_take,List.length_drop];omega
   ·cases e;unfold rem;rw [hh];simp only [List.length_nil];omega
theorem afh {src:Rl} {r q:Rd} {t:Tk} (e:iM src r=.ok t q):∃u,q.ah=t::u:=by
 unfold iM at e
 split at e
 ·rename_i u hh;cases e;exact ⟨u,hh⟩
 ·split at e
  ·split at e
   ·cases e
   ·cases e;exact ⟨[],rfl⟩
  ·cases e;exact ⟨[],rfl⟩
theorem O0 {src:Rl} {r q:Rd} {t:Tk} (e:iM src r=.ok t q) (h:Wr src q) (ht:1≤t.2.1.length):Wr src (cu q)∧rem src (cu q)+1≤rem src q∧(cu q).pre=q.pre∧(cu q).iri=q.iri∧(cu q).ax=q.ax:=by
 obtain ⟨u,hu⟩:=afh e;refine ⟨dN h, ?_,rfl,rfl,rfl⟩;unfold rem cu;rw [hu];simp only;omega
theorem dL {src:Rl} {r:Rd} (h:Wr src r) (b:Bool):aG src r 0 (qV src b r):=by
 unfold qV;split
 ·exact .mk h
 ·have h1:=dn h
  cases e:iM src r with
  | er a c q=>rw [e] at h1;exact h1
  | ok t q=>exact ⟨(mM h e).2.at_,rfl⟩
theorem yU {src:Rl} {r q:Rd} {b:Bool} {v:Unit} (e:qV src b r=.ok v q):b=true∧q=r:=by
 cases b with
 | true=>cases e;exact ⟨rfl,rfl⟩
 | false=>
  obtain ⟨a,c,r2,h⟩:=yV src r;rw [h] at e;cases e
theorem jB {src:Rl} {r:Rd} (h:Wr src r) (w:Rl):aG src r 0 (isR src w r):=
 aG.bind (dn h) (fun _ _ _ h1 _=>aG.mk h1) (by omega)
theorem Vk {src:Rl} {r q:Rd} {w:Rl} {b:Bool} (e:isR src w r=.ok b q):∃t,iM src r=.ok t q∧b=decide (t.2.1=w):=by
 unfold isR at e
 cases hp:iM src r with
 | er a c r1=>rw [hp] at e;cases e
 | ok t r1=>rw [hp] at e;cases e;exact ⟨t,rfl,rfl⟩
theorem aB {src:Rl} {r:Rd} (h:Wr src r) (w:Rl) (hw:1≤w.length):aG src r 1 (lK src w r):=by
 unfold lK;refine aG.bind (jB h w) (j:=1) (fun b q e h1 h2=>?_) (by omega);refine aG.bind (dL h1 b) (j:=1) (fun v q2 e2 h3 h4=>?_) (by omega);obtain ⟨hb,hq⟩:=yU e2;subst hb;subst hq;obtain ⟨t,e3,e4⟩:=Vk e;obtain ⟨p1,_,_,_,_⟩:=qw e3;have e5:=of_decide_eq_true e4.symm;exact O0 p1 h3 (by rw [e5];exact hw)
theorem vN {src:Rl} {r:Rd} (h:Wr src r) (w p:Rl) (hw:1≤w.length):aG src r 1 (KN src w p r):=by
 unfold KN;refine aG.bind (jB h w) (j:=1) (fun b q e h1 h2=>?_) (by omega);refine aG.bind (dL h1 _) (j:=1) (fun v q2 e2 h3 h4=>?_) (by omega);obtain ⟨hb,hq⟩:=yU e2;subst hq;rw [Bool.and_eq_true] at hb;obtain ⟨t,e3,e4⟩:=Vk e;obtain ⟨p1,_,_,_,_⟩:=qw e3;have e5:=of_decide_eq_true (e4.symm.trans hb.1);exact O0 p1 h3 (by rw [e5];exact hw)
theorem YH {pre:List Rl} {t:Tk} (h:Qj pre t=true):t.1=4:=by
 unfold Qj at h
 split at h
 ·simp at h;exact h.1.1.1.1.1
 ·cases h
theorem bn {src:Rl} {r:Rd} (h:Wr src r):aG src r 1 (nY src r):=by
 unfold nY;refine aG.bind (dn h) (j:=1) (fun t q e h1 h2=>?_) (by omega);refine aG.bind (dL h1 _) (j:=1) (fun v q2 e2 h3 h4=>?_) (by omega);obtain ⟨hb,hq⟩:=yU e2;subst hq;obtain ⟨p1,_,_,_,_⟩:=qw e;exact O0 p1 h3 ((mM h e).2.one (by have:=YH hb;omega))
end Go.Ai.Z
namespace Go.Ai.Z
def nZ {α:Type} (src:Rl) (f:Rd→OR α) (least:Nat):Nat→List α→Rd→OR (List α)
 | 0,_,r=>.er 0 50 r
 | n+1,l,r=>
  (if l.length<least then .ok false r else isR src [41] r).bind fun b r=>
   if b=true then .ok l r else (f r).bind fun v r=>nZ src f least n (l++[v]) r
def UH (src w:Rl) (k:Int) (r:Rd):OR C:=(KN src w [111,119,108,58] r).bind fun _ r=>.ok (C.mk k [] 0 0 true []) r
def Zm (src:Rl) (f:Rd→OR C) (n:Nat) (r:Rd):OR C:=
 (lK src [40] (cu r)).bind fun _ r=>(nZ src f 2 n [] r).bind fun l r=>(lK src [41] r).bind fun _ r=>.ok (C.mk 5 [] 0 0 false l) r
def PI (src:Rl) (f:Rd→OR C) (r:Rd):OR C:=
 (lK src [40] (cu r)).bind fun _ r=>(nY src r).bind fun s r=>(f r).bind fun c r=>(lK src [41] r).bind fun _ r=>.ok (C.mk 6 s 0 0 false [c]) r
def YE (src:Rl) (r:Rd):OR C:=
 (lK src [40] (cu r)).bind fun _ r=>(nY src r).bind fun s r=>(lK src [41] r).bind fun _ r=>.ok (C.mk 4 s 0 0 true []) r
def Y2 (other w:Rl):Bool:=(decide (w=wA1) || decide (w=wA4)) && !decide (w=other)
def SL (src other:Rl) (lo hi:Int) (r:Rd):OR (Rl×Int×Int):=
 (iM src r).bind fun t r=>(qV src (Y2 other t.2.1) r).bind fun _ r=>(KN src t.2.1 [120,115,100,58] r).bind fun _ r=>
  (iM src r).bind fun u r=>(qV src (EI u).isSome r).bind fun _ r=>(lK src [94,94] (cu r)).bind fun _ r=>(KN src wA0 [120,115,100,58] r).bind fun _ r=>
   .ok (t.2.1,if t.2.1=wA1 then (EI u).getD 0 else lo,if t.2.1=wA1 then hi else (EI u).getD 0) r
def WQ:Int:=1099511627776
def acL (src:Rl) (r:Rd):OR (Int×Int):=
 (lK src [40] (cu r)).bind fun _ r=>(KN src wA0 [120,115,100,58] r).bind fun _ r=>(SL src [] (-WQ) WQ r).bind fun x r=>
  (isR src [41] r).bind fun b r=>(if b=true then .ok x r else SL src x.1 x.2.1 x.2.2 r).bind fun y r=>(lK src [41] r).bind fun _ r=>.ok y.2 r
def Q7 (src:Rl) (r:Rd):OR C:=
 (lK src [40] (cu r)).bind fun _ r=>(nY src r).bind fun s r=>(isR src wA7 r).bind fun b r=>
  (if b=true then acL src r else (KN src wA0 [120,115,100,58] r).bind fun _ r=>.ok (-WQ,WQ) r).bind fun x r=>
   (lK src [41] r).bind fun _ r=>.ok (C.mk 7 s x.1 x.2 true []) r
def xZ (src:Rl):Nat→Rd→OR C
 | 0,r=>.er 0 50 r
 | n+1,r=>(iM src r).bind fun t r=>
  if t.2.1=wB4 then UH src wB4 1 r
  else if t.2.1=wB1 then UH src wB1 2 r
  else if t.2.1=wA5 then Zm src (xZ src n) n r
  else if t.2.1=wA6 then PI src (xZ src n) r
  else if t.2.1=wB6 then YE src r
  else if t.2.1=wA8 then Q7 src r
  else (nY src r).bind fun s r=>.ok (C.mk 3 s 0 0 true []) r
def Sn (src:Rl) (r:Rd):Prop:=∃t,iM src r=.ok t r∧1≤t.2.1.length
theorem Sn.pass {src:Rl} {r:Rd} (h:Sn src r) (hw:Wr src r):Wr src (cu r)∧rem src (cu r)+1≤rem src r:=by
 obtain ⟨t,e,h1⟩:=h
 have:=O0 e hw h1
 exact ⟨this.1,this.2.1⟩
theorem qC {α:Type} {src:Rl} {r:Rd} {k:Nat} {x:OR α} (h:Sn src r) (hw:Wr src r) (hx:aG src (cu r) k x):aG src r (k+1) x:=by
 have h1:=h.pass hw
 cases x with
 | er a c q=>exact hx
 | ok v q=>
  obtain ⟨g1,g2,g3,g4,g5⟩:=hx;exact ⟨g1,by omega,g3,g4,g5⟩
theorem JI {src:Rl} {r q:Rd} {t:Tk} (e:iM src r=.ok t q) (h:1≤t.2.1.length):Sn src q:=⟨t,(qw e).1,h⟩
theorem ZA {src:Rl} {r q:Rd} {w:Rl} (e:isR src w r=.ok true q) (h:1≤w.length):Sn src q:=by
 obtain ⟨t,e1,e2⟩:=Vk e;exact JI e1 (by rw [of_decide_eq_true e2.symm];exact h)
theorem wX {α:Type} {src:Rl} {f:Rd→OR α} {least:Nat}:∀(n:Nat) (l:List α) (r:Rd),Wr src r→rem src r<n→(∀q,Wr src q→rem src q≤rem src r→aG src q 1 (f q))→
  aG src r 0 (nZ src f least n l r)
 | 0,l,r,_,hn,_=>absurd hn (by omega)
 | n+1,l,r,hr,hn,hf=>by
  unfold nZ;refine aG.bind (k:=0) (j:=0) ?_ (fun b q e h1 h2=>?_) (by omega)
  ·split
   ·exact .mk hr
   ·exact jB hr _
  split
  ·exact .mk h1
  refine aG.bind (j:=0) (hf q h1 (by omega)) (fun v q2 e2 h3 h4=>?_) (by omega);exact wX n _ q2 h3 (by omega) fun p hp hp2=>hf p hp (by omega)
theorem Xm {src:Rl} {r:Rd} (h:Wr src r) (w:Rl) (hw:1≤w.length) (k:Int):aG src r 1 (UH src w k r):=
 aG.bind (vN h w _ hw) (fun _ _ _ h1 _=>aG.mk h1) (by omega)
theorem ad6 {src:Rl} {f:Rd→OR C} {n:Nat} {r:Rd} (h:Wr src r) (hs:Sn src r) (hn:rem src r≤n) (hf:∀q,Wr src q→rem src q<rem src r→aG src q 1 (f q)):aG src r 1 (Zm src f n r):=by
 have h0:=hs.pass h;refine qC (k:=0) hs h ?_;unfold Zm;refine aG.bind (j:=0) (aB h0.1 _ (by simp)) (fun _ q e h1 h2=>?_) (by omega);refine aG.bind (k:=0) (j:=0) (wX n [] q h1 (by omega) fun p hp hp2=>hf p hp (by omega)) (fun l q2 e h3 h4=>?_) (by omega);exact aG.bind (j:=0) (aB h3 _ (by simp)) (fun _ q e h1 h2=>aG.mk h1) (by omega)
theorem abj {src:Rl} {f:Rd→OR C} {r:Rd} (h:Wr src r) (hs:Sn src r) (hf:∀q,Wr src q→rem src q<rem src r→aG src q 1 (f q)):aG src r 1 (PI src f r):=by
 have h0:=hs.pass h;refine qC (k:=0) hs h ?_;unfold PI;refine aG.bind (j:=0) (aB h0.1 _ (by simp)) (fun _ q e h1 h2=>?_) (by omega);refine aG.bind (j:=0) (bn h1) (fun s q2 e h3 h4=>?_) (by omega);refine aG.bind (j:=0) (hf q2 h3 (by omega)) (fun c q3 e h5 h6=>?_) (by omega);exact aG.bind (j:=0) (aB h5 _ (by simp)) (fun _ q e h1 h2=>aG.mk h1) (by omega)
theorem adR {src:Rl} {r:Rd} (h:Wr src r) (hs:Sn src r):aG src r 1 (YE src r):=by
 have h0:=hs.pass h;refine qC (k:=0) hs h ?_;unfold YE;refine aG.bind (j:=0) (aB h0.1 _ (by simp)) (fun _ q e h1 h2=>?_) (by omega);refine aG.bind (j:=0) (bn h1) (fun s q2 e h3 h4=>?_) (by omega);exact aG.bind (j:=0) (aB h3 _ (by simp)) (fun _ q e h1 h2=>aG.mk h1) (by omega)
theorem aed {o w:Rl} (h:Y2 o w=true):1≤w.length:=by
 unfold Y2 at h;rw [Bool.and_eq_true,Bool.or_eq_true,decide_eq_true_eq,decide_eq_true_eq] at h
 rcases h.1 with h|h<;>rw [h]<;>simp
theorem adH {src:Rl} {t:Tk} (ht:aeP src t) (h:(EI t).isSome=true):1≤t.2.1.length:=by
 have h3:t.1=3:=by
  unfold EI at h
  split at h
  ·assumption
  ·cases h
 exact ht.one (by omega)
theorem KA {src:Rl} {r:Rd} (h:Wr src r) (o:Rl) (lo hi:Int):aG src r 1 (SL src o lo hi r):=by
 unfold SL;refine aG.bind (k:=0) (j:=1) (dn h) (fun t q e h1 h2=>?_) (by omega);refine aG.bind (k:=0) (j:=1) (dL h1 _) (fun _ q2 e2 h3 h4=>?_) (by omega);obtain ⟨hb,hq⟩:=yU e2;subst hq;refine aG.bind (k:=1) (j:=0) (vN h3 _ _ (aed hb)) (fun _ q3 e3 h5 h6=>?_) (by omega);refine aG.bind (k:=0) (j:=0) (dn h5) (fun u q4 e4 h7 h8=>?_) (by omega);refine aG.bind (k:=0) (j:=0) (dL h7 _) (fun _ q5 e5 h9 h10=>?_) (by omega);obtain ⟨hb2,hq2⟩:=yU e5;subst hq2;have hsn:=JI e4 (adH (mM h5 e4).2 hb2);have hp:=hsn.pass h9
 have key:aG src q5 (0+1) ((lK src [94,94] (cu q5)).bind fun _ r=>(KN src wA0 [120,115,100,58] r).bind fun _ r=>
   .ok (t.2.1,if t.2.1=wA1 then (EI u).getD 0 else lo,if t.2.1=wA1 then hi else (EI u).getD 0) r):=by
  refine qC hsn h9 ?_;refine aG.bind (k:=1) (j:=0) (aB hp.1 _ (by simp)) (fun _ q6 e6 h11 h12=>?_) (by omega);exact aG.bind (k:=1) (j:=0) (vN h11 _ _ (by simp)) (fun _ q e h1 h2=>aG.mk h1) (by omega)
 generalize (lK src [94,94] (cu q5)).bind _=y at key ⊢
 cases y with
 | er a c q=>exact key
 | ok v q=>obtain ⟨g1,g2,g3⟩:=key;exact ⟨g1,by omega,g3⟩
theorem aG.wk {α:Type} {src:Rl} {r:Rd} {k j:Nat} {x:OR α} (h:aG src r k x) (hk:j≤k):aG src r j x:=by
 cases x with
 | er a c q=>exact h
 | ok v q=>obtain ⟨g1,g2,g3⟩:=h;exact ⟨g1,by omega,g3⟩
theorem adQ {src:Rl} {r:Rd} (h:Wr src r) (hs:Sn src r):aG src r 1 (acL src r):=by
 have h0:=hs.pass h;refine qC (k:=0) hs h ?_;unfold acL;refine aG.bind (k:=1) (j:=0) (aB h0.1 _ (by simp)) (fun _ q e h1 h2=>?_) (by omega);refine aG.bind (k:=1) (j:=0) (vN h1 _ _ (by simp)) (fun _ q2 e2 h3 h4=>?_) (by omega);refine aG.bind (k:=1) (j:=0) (KA h3 _ _ _) (fun x q3 e3 h5 h6=>?_) (by omega);refine aG.bind (k:=0) (j:=0) (jB h5 _) (fun b q4 e4 h7 h8=>?_) (by omega);refine aG.bind (k:=0) (j:=0) ?_ (fun y q5 e5 h9 h10=>?_) (by omega)
 ·split
  ·exact .mk h7
  ·exact (KA h7 _ _ _).wk (by omega)
 exact aG.bind (k:=1) (j:=0) (aB h9 _ (by simp)) (fun _ q e h1 h2=>aG.mk h1) (by omega)
theorem abC {src:Rl} {r:Rd} (h:Wr src r) (hs:Sn src r):aG src r 1 (Q7 src r):=by
 have h0:=hs.pass h;refine qC (k:=0) hs h ?_;unfold Q7;refine aG.bind (k:=1) (j:=0) (aB h0.1 _ (by simp)) (fun _ q e h1 h2=>?_) (by omega);refine aG.bind (k:=1) (j:=0) (bn h1) (fun s q2 e2 h3 h4=>?_) (by omega);refine aG.bind (k:=0) (j:=0) (jB h3 _) (fun b q3 e3 h5 h6=>?_) (by omega);refine aG.bind (k:=0) (j:=0) ?_ (fun y q5 e5 h9 h10=>?_) (by omega)
 ·split
  ·rename_i hb;subst hb;exact (adQ h5 (ZA e3 (by simp))).wk (by omega)
  ·exact aG.bind (k:=1) (j:=0) (vN h5 _ _ (by simp)) (fun _ q e h1 h2=>aG.mk h1) (by omega)
 exact aG.bind (k:=1) (j:=0) (aB h9 _ (by simp)) (fun _ q e h1 h2=>aG.mk h1) (by omega)
theorem mG {src:Rl}:∀(n:Nat) (r:Rd),Wr src r→rem src r<n→aG src r 1 (xZ src n r)
 | 0,r,_,hn=>absurd hn (by omega)
 | n+1,r,hr,hn=>by
  unfold xZ;refine aG.bind (k:=0) (j:=1) (dn hr) (fun t q e h1 h2=>?_) (by omega);have hsn:∀w:Rl,1≤w.length→t.2.1=w→Sn src q:=fun w hw ht=>JI e (by rw [ht];exact hw);have hf:∀p,Wr src p→rem src p<rem src q→aG src p 1 (xZ src n p):=fun p hp hp2=>mG n p hp (by omega);split
  ·exact Xm h1 _ (by simp) _
  split
  ·exact Xm h1 _ (by simp) _
  split
  ·rename_i ht;exact ad6 h1 (hsn _ (by simp) ht) (by omega) hf
  split
  ·rename_i ht;exact abj h1 (hsn _ (by simp) ht) hf
  split
  ·rename_i ht;exact adR h1 (hsn _ (by simp) ht)
  split
  ·rename_i ht;exact abC h1 (hsn _ (by simp) ht)
  ·exact aG.bind (k:=1) (j:=0) (bn h1) (fun _ q e h1 h2=>aG.mk h1) (by omega)
end Go.Ai.Z
namespace Go.Ai.Z
open Go.Lib (atoi)
theorem O8 (b:UInt8):KU b=true ↔ 48≤(b.toNat:Int)∧(b.toNat:Int)≤57:=by
 unfold KU;rw [Bool.and_eq_true,decide_eq_true_eq,decide_eq_true_eq]
theorem Ud (d w:Rl) (hd:d.length≤100000) (s:St) (cx:Ctx):∀(rest:Rl) (i:Nat),d.drop i=rest→i≤d.length→
  ig (aC P0.glob (aj P0) cx false mP) [4,39,40,41] [(4,.v (.s w)),(39,.v (.sl (aF d))),(40,.v (.i .i64 d.length)),(41,.v (.i .i64 i))] s=
   if rest.all KU=true then .exit 0 [(4,.v (.s w)),(39,.v (.sl (aF d))),(40,.v (.i .i64 d.length)),(41,.v (.i .i64 d.length)),(42,.v (.b false))] s
   else .ret [(2,.v (.i .i64 0)),(3,.v (.b false))] s
 | [],i,h,hi=>by
  have h1:¬i<d.length:=Nat.not_lt.2 (drop_nil h);have h2:i=d.length:=by omega
  subst h2;refine ak fun K hK=>?_;simp -implicitDefEqProofs [mP]
 | b::r,i,h,hi=>by
  obtain ⟨h1,h2,h3,h4⟩:=drop_cons h;have hb:i<(aF d).length:=by rw [kK];exact h3
  have hg:=Du d i hb h1;have hg':(aF d)[i]?=some (.i .u8 b.toNat):=by rw [List.getElem?_eq_getElem hb,hg]
  have hwi:=wI (i:=i) (by omega);have h3i:(i:Int)<(d.length:Int):=by omega
  rw [List.all_cons];cases q:KU b
  ·refine ak fun K hK=>?_;clear hK h4;have q2:¬(48≤(b.toNat:Int)∧(b.toNat:Int)≤57):=fun hh=>by rw [(O8 b).2 hh] at q;cases q
   by_cases q3:(b.toNat:Int)<48
   ·simp -implicitDefEqProofs [mP,h3i,hg',hg,hb,q3]
   ·have q4:57<(b.toNat:Int):=by omega
    simp -implicitDefEqProofs [mP,h3i,hg',hg,hb,q3,q4]
  ·obtain ⟨q2,q3⟩:=(O8 b).1 q;have q4:¬(b.toNat:Int)<48:=by omega
   have q5:¬57<(b.toNat:Int):=by omega
   have ih:=Ud d w hd s cx r (i+1) h2 (by omega);refine ak fun K hK=>?_;rw [←hK,show ((i+1:Nat):Int)=(i:Int)+1 from rfl] at ih;clear hK h4;rw [Bool.true_and,←ih];clear ih;simp -implicitDefEqProofs [mP,h3i,hg',hg,hb,q4,q5,hwi]
theorem VW (b:UInt8) (w:Rl):(trimB b w).length≤w.length:=by
 unfold trimB
 cases w with
 | nil=>simp
 | cons c r=>simp only;split<;>simp
theorem ab4 (t:Tk) (h2:t.1=3→2≤t.2.1.length) (hl:t.2.1.length≤100000) (s:St) (cx:Ctx):
  aj P0 (.fn (.func vV) [] []) [fG t] s cx=.ret (.tu [.i .i64 ((EI t).getD 0),.b (EI t).isSome]) s:=by
 obtain ⟨k,w,a⟩:=t;refine QN (by simp) ?_;unfold EI fG;simp only at h2 hl ⊢;by_cases q:k=3
 ·rw [if_pos q];have h3:=h2 q;have hil:=adJ w;have htl:=VW 45 (xX w);have w1:IntKind.i64.wrap ((w.length:Int) - 1)=(w.length:Int) - 1:=w64 (by omega) (by omega);have e1:=Lc (xX w) 45;have h4:(1:Int)≤(w.length:Int):=by omega
  have h5:((w.length:Int) - 1).toNat=w.length - 1:=by omega
  have h6:w.tail.take (w.length - 1 - 1)=xX w:=by unfold xX;rw [Nat.sub_sub,List.drop_one]
  have h7:1≤w.length - 1:=by omega
  have hloop:=fun s cx=>Ud (trimB 45 (xX w)) (xX w) (by omega) s cx (trimB 45 (xX w)) 0 rfl (by omega);rw [show ((0:Nat):Int)=0 from rfl] at hloop;have ha:=aeD (s:=xX w);generalize hd:trimB 45 (xX w)=d at *;generalize xX w=x at *;by_cases q1:d.length<1
  ·rw [if_pos (.inl q1)];have q1i:(d.length:Int)<1:=by omega
   simp -implicitDefEqProofs [af,iQ,q,dU,splice,w1,h4,h5,h6,h7,e1,q1i]
  by_cases q2:18<d.length
  ·rw [if_pos (.inr q2)];have q1i:¬(d.length:Int)<1:=by omega
   have q2i:18<(d.length:Int):=by omega
   simp -implicitDefEqProofs [af,iQ,q,dU,splice,w1,h4,h5,h6,h7,e1,q1i,q2i]
  rw [if_neg (by omega)];have q1i:¬(d.length:Int)<1:=by omega
  have q2i:¬18<(d.length:Int):=by omega
  have q2j:(18:Int)<(d.length:Int) ↔ False:=iff_false_intro q2i
  obtain ⟨c,r,hdc⟩:∃c r,d=c::r:=by
   cases d with
   | nil=>simp at q1
   | cons c r=>exact ⟨c,r,rfl⟩
  have key:∀z:Bool,decide (c=48∧x≠[48])=z→z=true→af P0.glob (aj P0) iQ ([]++[.ag [.i .i64 k,.s w,.i .i64 a]]++[]) s cx=.ret (.tu [.i .i64 0,.b false]) s:=by
   intro z hz hz2;rw [hz2,decide_eq_true_eq] at hz;obtain ⟨hc,hx⟩:=hz;subst hc;have hdl:(d.length:Int)=(r.length:Int)+1:=by rw [hdc];simp
   rw [hdl] at q1i q2i;subst hdc;have q3:¬(r.length:Int)+1<1:=by omega
   have q4:¬18<(r.length:Int)+1:=by omega
   simp -implicitDefEqProofs [af,iQ,q,dU,splice,w1,h4,h5,h6,h7,e1,q3,q4,hx]
  by_cases q5:d.head?=some 48∧x≠[48]
  ·rw [if_pos q5];exact key true (by rw [decide_eq_true_eq];rw [hdc] at q5;simpa using q5) rfl
  rw [if_neg q5];have q6:¬(c=48∧x≠[48]):=by rw [hdc] at q5;simpa using q5
  clear key q5;have hcc:(c.toNat:Int)=48 ↔ c=48:=⟨fun hh=>UInt8.toNat_inj.1 (by have:(48:UInt8).toNat=48:=rfl;omega),fun hh=>by subst hh;rfl⟩;have hs2b:(aF d).length=d.length:=kK d;have hl0:=hloop s ⟨s.length,s.length⟩;have hdl:(d.length:Int)=(r.length:Int)+1:=by rw [hdc];simp
  have hall:d.all KU=true→∃n,atoi x=some n∧(x.length≤18∨(x.length=19∧x.head?=some 45)):=ha (by omega) (by omega)
  have hat:∀n,atoi x=some n→(x.length≤18∨(x.length=19∧x.head?=some 45))→∀(s:St) (cx:Ctx),aj P0 (.fn (.func AY) [] []) [.s x] s cx=.ret (.tu [.i .i64 n,.ni]) s:=fun n hn hx s cx=>
   rY (h:=H6 Xl) rfl (by simp only [H6,Xl,List.nil_append,List.append_nil];rw [if_pos hx,hn];rfl)
  have q3:¬(r.length:Int)+1<1:=by omega
  have q4:¬18<(r.length:Int)+1:=by omega
  by_cases q8:d.all KU=true
  ·rw [if_pos q8] at hl0 ⊢;obtain ⟨n,hn,hx⟩:=hall q8;have e2:=hat n hn hx;rw [hn];by_cases q7:c=48
   ·have hx48:x=[48]:=Classical.not_not.1 fun hh=>q6 ⟨q7,hh⟩;subst q7;clear hall ha hloop hat;subst hx48;rw [hdc] at hl0 e1 hdl hs2b;simp at hl0 hs2b;simp -implicitDefEqProofs [af,iQ,q,dU,splice,w1,h4,h5,h6,h7,e1,q3,q4,hl0,e2,hs2b,Sz]
   ·have q7i:¬(c.toNat:Int)=48:=fun hh=>q7 (hcc.1 hh);clear hall ha hloop hat;rw [hdc] at hl0 e1 hdl hs2b;simp at hl0 hs2b;simp -implicitDefEqProofs [af,iQ,q,dU,splice,w1,h4,h5,h6,h7,e1,q3,q4,hl0,e2,q7,q7i,hs2b,Sz]
  ·rw [if_neg q8] at hl0 ⊢;by_cases q7:c=48
   ·have hx48:x=[48]:=Classical.not_not.1 fun hh=>q6 ⟨q7,hh⟩;subst q7;clear hall ha hloop hat;subst hx48;rw [hdc] at hl0 e1 hdl hs2b;simp at hl0 hs2b;simp -implicitDefEqProofs [af,iQ,q,dU,splice,w1,h4,h5,h6,h7,e1,q3,q4,hl0,hs2b]
   ·have q7i:¬(c.toNat:Int)=48:=fun hh=>q7 (hcc.1 hh);clear hall ha hloop hat;rw [hdc] at hl0 e1 hdl hs2b;simp at hl0 hs2b;simp -implicitDefEqProofs [af,iQ,q,dU,splice,w1,h4,h5,h6,h7,e1,q3,q4,hl0,q7,q7i,hs2b]
 ·rw [if_neg q];simp -implicitDefEqProofs [af,iQ,q,dU,splice]
end Go.Ai.Z
namespace Go.Ai.Z
@[simp] theorem agF (t:Tk):(fG t).plain=fG t:=by simp [fG]
abbrev MS (nm:Rl) (lo hi:Int):fZ:=.cells [.i .i64 7,.s nm,.i .i64 lo,.i .i64 hi,.ns]
def agt (S:Rd→St) (nm:Rl) (lo hi:Int) (x:OR (Rl×Int×Int)):CO:=
 match x with
 | .ok v r=>.ret (.s v.1) (S r++[MS nm v.2.1 v.2.2])
 | .er a c r=>.pan (flt a c) (S r++[MS nm lo hi])
@[simp] theorem aau (S:Rd→St) (nm:Rl) (lo hi:Int) (v:Rl×Int×Int) (r:Rd):agt S nm lo hi (.ok v r)=.ret (.s v.1) (S r++[MS nm v.2.1 v.2.2]):=rfl
@[simp] theorem aav (S:Rd→St) (nm:Rl) (lo hi:Int) (a:Nat) (c:Int) (r:Rd):agt S nm lo hi (.er a c r)=.pan (flt a c) (S r++[MS nm lo hi]):=rfl
theorem ags (S:Rd→St) (nm:Rl) (lo hi:Int) (x:OR (Rl×Int×Int)):agt S nm lo hi x≠.fail:=by cases x<;>simp
section
variable {src:Rl} {S:Rd→St} {m N:Nat} (hE:x9 src S m N)
include hE
theorem aam (nm other:Rl) (lo hi:Int) (r:Rd) (ha:Wr src r) (cx:Ctx) (hl:cx.lim≤m):
  aj P0 (.fn (.func lY) [] []) [.pt (m+1) 0,.pt N 0,.s other] (S r++[MS nm lo hi]) cx=agt S nm lo hi (SL src other lo hi r):=by
 refine Hg (ags _ _ _ _ _) ?_;have hN:=hE.n;have hS:=hE.src;have hlt:=hE.lt;have hE1:=hE.app [MS nm lo hi];have e1:=oL hE1 r ha.at_ ⟨cx.lim,N+1⟩ hl;have hl2:cx.lim≤N:=by omega
 unfold SL
 cases hp:iM src r with
 | er a c r1=>
  rw [hp] at e1;simp only [dB] at e1;simp -implicitDefEqProofs [af,dh,hN,e1]
 | ok t r1=>
  rw [hp] at e1;obtain ⟨w1,w2⟩:=mM ha hp;obtain ⟨k,w,a⟩:=t;simp only [dF,fG] at e1;simp only [OR.bind_ok];cases qb:Y2 other w
  ·have e2:=pU hE1 false r1 w1 ⟨cx.lim,N+1⟩ hl;obtain ⟨a2,c2,r2,hx⟩:=yV src r1;rw [hx] at e2 ⊢;simp only [dB] at e2;unfold Y2 at qb;by_cases q1:w=wA1
   ·rw [q1] at e1 qb;simp at qb;rw [←qb];simp -implicitDefEqProofs [af,dh,hN,e1,e2]
   ·by_cases q2:w=wA4
    ·rw [q2] at e1 qb;simp at qb;rw [←qb];simp -implicitDefEqProofs [af,dh,hN,e1,e2]
    ·simp -implicitDefEqProofs [af,dh,hN,e1,e2,q1,q2]
  ·have e2:=pU hE1 true r1 w1 ⟨cx.lim,N+1⟩ hl;rw [o8] at e2 ⊢;simp only [dF] at e2;simp only [OR.bind_ok]
   have hw:(w=wA1∨w=wA4)∧¬w=other:=by
    unfold Y2 at qb
    simpa using qb
   obtain ⟨hw,hwo⟩:=hw;have e3:=GH hE1 w [120,115,100,58] r1 w1 ⟨cx.lim,N+1⟩ hl
   have g3:=vN w1 w [120,115,100,58] (by rcases hw with hw|hw<;>rw [hw]<;>simp)
   cases h3:KN src w [120,115,100,58] r1 with
   | er a c r2=>
    rw [h3] at e3;simp only [dB] at e3
    rcases hw with hw|hw<;>rw [hw] at e1 e3 hwo<;>simp -implicitDefEqProofs [af,dh,hN,e1,e2,e3,hwo]
   | ok v3 r3=>
    rw [h3] at e3;have w3:=(g3.ok h3).1;simp only [dF] at e3;simp only [OR.bind_ok];have e4:=oL hE1 r3 w3.at_ ⟨cx.lim,N+1⟩ hl
    cases h4:iM src r3 with
    | er a c r4=>
     rw [h4] at e4;simp only [dB] at e4
     rcases hw with hw|hw<;>rw [hw] at e1 e3 hwo<;>simp -implicitDefEqProofs [af,dh,hN,e1,e2,e3,e4,hwo]
    | ok u r4=>
     rw [h4] at e4;obtain ⟨w4,k4⟩:=mM w3 h4;simp only [dF] at e4;simp only [OR.bind_ok];have e5:=ab4 u (fun hk=>k4.two (.inr hk)) (by have:=k4.len;omega);have e6:=pU hE1 (EI u).isSome r4 w4 ⟨cx.lim,N+1⟩ hl;have g6:=dL w4 (EI u).isSome;generalize (EI u).getD 0=n at *
     cases h6:qV src (EI u).isSome r4 with
     | er a c r5=>
      rw [h6] at e6;simp only [dB] at e6;generalize (EI u).isSome=b at *
      rcases hw with hw|hw<;>rw [hw] at e1 e3 hwo<;>simp -implicitDefEqProofs [af,dh,hN,e1,e2,e3,e4,e5,e6,hwo]
     | ok v5 r5=>
      rw [h6] at e6;have w5:=(g6.ok h6).1;simp only [dF] at e6;simp only [OR.bind_ok];have e7:=lG hE1 r5 ⟨cx.lim,N+1⟩ hl;have w7:=dN w5;have e8:=iI hE1 [94,94] (cu r5) w7 ⟨cx.lim,N+1⟩ hl;have g8:=aB w7 [94,94] (by simp);generalize (EI u).isSome=b at *
      cases h8:lK src [94,94] (cu r5) with
      | er a c r8=>
       rw [h8] at e8;simp only [dB] at e8
       rcases hw with hw|hw<;>rw [hw] at e1 e3 hwo<;>simp -implicitDefEqProofs [af,dh,hN,e1,e2,e3,e4,e5,e6,e7,e8,hwo]
      | ok v8 r8=>
       rw [h8] at e8;have w8:=(g8.ok h8).1;simp only [dF] at e8;simp only [OR.bind_ok];have e9:=GH hE1 wA0 [120,115,100,58] r8 w8 ⟨cx.lim,N+1⟩ hl
       cases h9:KN src wA0 [120,115,100,58] r8 with
       | er a c r9=>
        rw [h9] at e9;simp only [dB] at e9
        rcases hw with hw|hw<;>rw [hw] at e1 e3 hwo<;>simp -implicitDefEqProofs [af,dh,hN,e1,e2,e3,e4,e5,e6,e7,e8,e9,hwo]
       | ok v9 r9=>
        rw [h9] at e9;simp only [dF] at e9;have hg:=hE.gN r9 (MS nm lo hi) [];have hs:=fun y=>hE.sN r9 (MS nm lo hi) y [];unfold MS at *
        rcases hw with hw|hw<;>rw [hw] at e1 e3 hwo ⊢<;>simp -implicitDefEqProofs [af,dh,hN,e1,e2,e3,e4,e5,e6,e7,e8,e9,hwo,hg,hs,hl2,MS]
end
end Go.Ai.Z
namespace Go.Ai.Z
def zC:C:=C.mk 0 [] 0 0 true []
def axC (k:Int) (l r:C):Ax:=⟨k,false,l,r,true,[],[],[],[]⟩
def qx (src:Rl):Nat→Rd→OR Unit
 | 0,r=>.er 0 50 r
 | n+1,r=>(isR src wB9 r).bind fun b r=>
  if b=true then
   (lK src [40] (cu r)).bind fun _ r=>(nY src r).bind fun s r=>(iM src r).bind fun t r=>(qV src (decide (t.1=3)) r).bind fun _ r=>(lK src [41] (cu r)).bind fun _ r=>
    qx src n { r with op:=r.op || (decide (s=[111,112,101,110]) && decide (t.2.1=wD2)) }
  else .ok () r
def Eu (w:Rl):Bool:=decide (w=[67,108,97,115,115]) || decide (w=wC7) || decide (w=wD0) || decide (w=wC4)
def Uu (src:Rl) (r:Rd):OR (List Ax):=
 (iM src r).bind fun t r=>(qV src (Eu t.2.1) r).bind fun _ r=>(lK src [40] (cu r)).bind fun _ r=>(nY src r).bind fun _ r=>(lK src [41] r).bind fun _ r=>.ok [] r
def aaC (src:Rl) (n:Nat) (r:Rd):OR (List Ax):=
 (qx src n r).bind fun _ r=>(xZ src n r).bind fun a r=>(xZ src n r).bind fun b r=>.ok [axC 1 a b] r
def Js:List C→List Ax
 | []=>[]
 | [_]=>[]
 | a::b::r=>axC 2 a b::Js (b::r)
def Hl:List C→List Ax→List Ax
 | [],x=>x
 | a::r,x=>if 1024<x.length then x else Hl r (x++r.map (axC 3 a))
def abP (src:Rl) (n:Nat) (r:Rd):OR (List Ax):=(qx src n r).bind fun _ r=>(nZ src (xZ src n) 2 n [] r).bind fun l r=>.ok (Js l) r
def abR (src:Rl) (n:Nat) (r:Rd):OR (List Ax):=(qx src n r).bind fun _ r=>(nZ src (xZ src n) 2 n [] r).bind fun l r=>.ok (Hl l []) r
def abQ (src:Rl) (n:Nat) (r:Rd):OR (List Ax):=
 (qx src n r).bind fun _ r=>(nY src r).bind fun s r=>(xZ src n r).bind fun c r=>.ok [⟨4,false,zC,c,true,[],s,[],[]⟩] r
def Yr (src:Rl) (n:Nat) (r:Rd):OR (List Ax):=
 (qx src n r).bind fun _ r=>(isR src wA2 r).bind fun b r=>
  if b=true then (lK src [40] (cu r)).bind fun _ r=>(nZ src (nY src) 2 n [] r).bind fun l r=>(lK src [41] r).bind fun _ r=>(nY src r).bind fun s r=>.ok [⟨6,false,zC,zC,false,l,s,[],[]⟩] r
  else (nY src r).bind fun a r=>(nY src r).bind fun s r=>.ok [⟨5,false,zC,zC,false,[a],s,[],[]⟩] r
def aaR (src:Rl) (n:Nat) (r:Rd):OR (List Ax):=(qx src n r).bind fun _ r=>(nY src r).bind fun s r=>.ok [⟨7,false,zC,zC,true,[],s,[],[]⟩] r
def aaA (src:Rl) (n:Nat) (r:Rd):OR (List Ax):=(qx src n r).bind fun _ r=>(xZ src n r).bind fun c r=>(nY src r).bind fun a r=>.ok [⟨8,false,zC,c,true,[],[],a,[]⟩] r
def aa6 (src:Rl) (n:Nat) (r:Rd):OR (List Ax):=
 (qx src n r).bind fun _ r=>(nY src r).bind fun s r=>(nY src r).bind fun a r=>(nY src r).bind fun b r=>.ok [⟨9,false,zC,zC,true,[],s,a,b⟩] r
def adC (w:Rl):Bool:=decide (w=wC9) || decide (w=wC2) || decide (w=wB3) || decide (w=wB5) || decide (w=wB2) || decide (w=wA3) || decide (w=wA9) || decide (w=wB7) || decide (w=wB0)
def EH (src:Rl) (n:Nat) (w:Rl) (r:Rd):OR (List Ax):=
 if w=wC9 then Uu src r
 else if w=wC2 then aaC src n r
 else if w=wB3 then abP src n r
 else if w=wB5 then abR src n r
 else if w=wB2 then abQ src n r
 else if w=wA3 then Yr src n r
 else if w=wA9 then aaR src n r
 else if w=wB7 then aaA src n r
 else aa6 src n r
def axV (N:Nat) (l:List Ax):AV:=match l with | []=>.ns|x::r=>.st N ((x::r).map bY)
def zB (N a0:Nat):List Ax→List Ax→Rd→OR (List Ax)
 | [],l,r=>.ok l r
 | x::xs,l,r=>if dW { x with op:=r.op }=0 then zB N a0 xs (l++[{ x with op:=r.op }]) { r with ax:=axV N (l++[{ x with op:=r.op }]) } else .er a0 (dW { x with op:=r.op }) r
def zf (src:Rl) (n N:Nat) (l:List Ax) (r:Rd):OR (List Ax):=
 (iM src r).bind fun t r=>(qV src (adC t.2.1) r).bind fun _ r=>(lK src [40] (cu r)).bind fun _ r=>(EH src n t.2.1 { r with op:=false }).bind fun xs r=>
  (lK src [41] r).bind fun _ r=>(zB N t.2.2 xs l r).bind fun l r=>if 1024<l.length then .er t.2.2 2 r else .ok l r
def Ov (pre:List Rl) (t:Tk):Bool:=
 decide (t.1=4) && decide (Go.Lib.indexByte t.2.1 58=(t.2.1.length:Int) - 1) && (decide (t.2.1=[58]) || (match t.2.1 with | []=>false|c::_=>ltI c.toNat)) && !decide (t.2.1∈pre)
def zS (w:Rl) (u:Tk):Bool:=
 decide (u.1=2) && (!decide (w=[111,119,108,58]) || decide (u.2.1=wC1)) && (!decide (w=[120,115,100,58]) || decide (u.2.1=wB8))
def H7 (src:Rl) (r:Rd):OR Unit:=
 (lK src wC0 r).bind fun _ r=>(lK src [40] r).bind fun _ r=>(iM src r).bind fun t r=>(qV src (Ov r.pre t) r).bind fun _ r=>(lK src [61] (cu r)).bind fun _ r=>
  (iM src r).bind fun u r=>(qV src (zS t.2.1 u) r).bind fun _ r=>(lK src [41] (cu r)).bind fun _ r=>
   .ok () { r with pre:=qH r.pre t.2.1,iri:=if t.2.1=[58] then xX u.2.1 else r.iri }
def Bj (src:Rl):Nat→Rd→OR Unit
 | 0,r=>.er 0 50 r
 | n+1,r=>(isR src wC0 r).bind fun b r=>if b=true then (H7 src r).bind fun _ r=>Bj src n r else .ok () r
def C9 (src:Rl):Nat→Rd→OR Unit
 | 0,r=>.ok () r
 | k+1,r=>(iM src r).bind fun t r=>if t.1=2 then C9 src k (cu r) else .ok () r
def zF (src:Rl) (n N:Nat):Nat→List Ax→Rd→OR (List Ax)
 | 0,_,r=>.er 0 50 r
 | k+1,l,r=>(isR src [41] r).bind fun b r=>if b=true then .ok l r else (zf src n N l r).bind fun l r=>zF src n N k l r
def KT (src:Rl) (n N:Nat) (r:Rd):OR (List Ax):=
 (Bj src n r).bind fun _ r=>(isR src wC3 r).bind fun b r=>(qV src (b && decide ([58]∈r.pre)) r).bind fun _ r=>(lK src [40] (cu r)).bind fun _ r=>
  (C9 src 2 r).bind fun _ r=>(zF src n N n [] r).bind fun l r=>(iM src (cu r)).bind fun t r=>(qV src (decide (t.1=5)) r).bind fun _ r=>.ok l r
end Go.Ai.Z
namespace Go.Ai.Z
theorem yH (k:Int) (n:Rl) (l h:Int):AV.ag [.i .i64 k,.s n,.i .i64 l,.i .i64 h,.ns]=aK (.mk k n l h true []):=by
 rw [xK];rfl
@[simp] theorem akd (S:St) (n:Nat) (c:C):frz S n (aK c)=some (aK c):=by simp [frz]
theorem Ui (k:Int) (n:Rl) (l h:Int) (c:C) (ps:List C):AV.ag [.i .i64 k,.s n,.i .i64 l,.i .i64 h,.sl (aK c::ps.map aK)]=aK (.mk k n l h false (c::ps)):=by
 rw [xK (.mk k n l h false (c::ps))];rfl
section
variable {src:Rl} {S:Rd→St} {m N:Nat} (hE:x9 src S m N)
include hE
theorem akA (r:Rd) (ha:Wr src r) (cx:Ctx) (hl:cx.lim≤m):
  aj P0 (.fn (.func kN) [] []) [.pt (m+1) 0] (S r) cx=tJ aK S (UH src wB4 1 r):=by
 refine KF (jQ _ _ _) ?_;have hN:=hE.n;unfold UH;obtain ⟨a,c,q,hx,e1⟩|⟨v1,r1,h1,e1,g1⟩:=spl (GH hE wB4 [111,119,108,58] r ha ⟨cx.lim,N⟩ hl) (vN ha wB4 [111,119,108,58] (by simp))
 ·rw [hx];simp -implicitDefEqProofs [af,oZ,hN,e1]
 rw [h1];simp only [OR.bind_ok];have w1:=g1.1;simp -implicitDefEqProofs [af,oZ,hN,e1,dU,splice,yH]
theorem aex (r:Rd) (ha:Wr src r) (cx:Ctx) (hl:cx.lim≤m):
  aj P0 (.fn (.func iY) [] []) [.pt (m+1) 0] (S r) cx=tJ aK S (UH src wB1 2 r):=by
 refine FU (jQ _ _ _) ?_;have hN:=hE.n;unfold UH;obtain ⟨a,c,q,hx,e1⟩|⟨v1,r1,h1,e1,g1⟩:=spl (GH hE wB1 [111,119,108,58] r ha ⟨cx.lim,N⟩ hl) (vN ha wB1 [111,119,108,58] (by simp))
 ·rw [hx];simp -implicitDefEqProofs [af,mF,hN,e1]
 rw [h1];simp only [OR.bind_ok];have w1:=g1.1;simp -implicitDefEqProofs [af,mF,hN,e1,dU,splice,yH]
theorem ab3 (r:Rd) (ha:Wr src r) (cx:Ctx) (hl:cx.lim≤m):
  aj P0 (.fn (.func iD) [] []) [.pt (m+1) 0] (S r) cx=tJ aK S (YE src r):=by
 refine EL (jQ _ _ _) ?_;have hN:=hE.n;unfold YE;have e1:=lG hE r ⟨cx.lim,N⟩ hl;have w1:=dN ha;obtain ⟨a,c,q,hx,e2⟩|⟨v2,r2,h2,e2,g2⟩:=spl (iI hE [40] (cu r) w1 ⟨cx.lim,N⟩ hl) (aB w1 [40] (by simp))
 ·rw [hx];simp -implicitDefEqProofs [af,iZ,hN,e1,e2]
 rw [h2];simp only [OR.bind_ok];have w2:=g2.1;obtain ⟨a,c,q,hx,e3⟩|⟨s,r3,h3,e3,g3⟩:=spl (qG hE r2 w2 ⟨cx.lim,N⟩ hl) (bn w2)
 ·rw [hx];simp -implicitDefEqProofs [af,iZ,hN,e1,e2,e3]
 rw [h3];simp only [OR.bind_ok];have w3:=g3.1;obtain ⟨a,c,q,hx,e4⟩|⟨v4,r4,h4,e4,g4⟩:=spl (iI hE [41] r3 w3 ⟨cx.lim,N⟩ hl) (aB w3 [41] (by simp))
 ·rw [hx];simp -implicitDefEqProofs [af,iZ,hN,e1,e2,e3,e4]
 rw [h4];simp only [OR.bind_ok];have w4:=g4.1;simp -implicitDefEqProofs [af,iZ,hN,e1,e2,e3,e4,dU,splice,yH]
theorem ahY (r:Rd) (ha:Wr src r) (cx:Ctx) (hl:cx.lim≤m):
  aj P0 (.fn (.func jO) [] []) [.pt (m+1) 0] (S r) cx=tJ aK S (Q7 src r):=by
 refine Jm (jQ _ _ _) ?_;have hN:=hE.n;have hlt:=hE.lt;have hl2:cx.lim≤N:=by omega
 unfold Q7 acL WQ;have e1:=lG hE r ⟨cx.lim,N⟩ hl;have w1:=dN ha;obtain ⟨a,c,q,hx,e2⟩|⟨v2,r2,h2,e2,g2⟩:=spl (iI hE [40] (cu r) w1 ⟨cx.lim,N⟩ hl) (aB w1 [40] (by simp))
 ·rw [hx];simp -implicitDefEqProofs [af,aS,hN,hl2,hE.gN,hE.sN,hE.tk,dU,splice,e1,e2]
 rw [h2];simp only [OR.bind_ok];have w2:=g2.1;obtain ⟨a,c,q,hx,e3⟩|⟨s,r3,h3,e3,g3⟩:=spl (qG hE r2 w2 ⟨cx.lim,N⟩ hl) (bn w2)
 ·rw [hx];simp -implicitDefEqProofs [af,aS,hN,hl2,hE.gN,hE.sN,hE.tk,dU,splice,e1,e2,e3]
 rw [h3];simp only [OR.bind_ok];have w3:=g3.1;have hB:=hE.app [MS s (-1099511627776) 1099511627776];obtain ⟨a,c,q,hx,e4⟩|⟨b,r4,h4,e4,g4⟩:=spl (Jy hB wA7 r3 w3 ⟨cx.lim,N⟩ hl) (jB w3 wA7)
 ·rw [hx];simp -implicitDefEqProofs [af,aS,hN,hl2,hE.gN,hE.sN,hE.tk,dU,splice,e1,e2,e3,e4]
 rw [h4];simp only [OR.bind_ok];have w4:=g4.1
 cases b with
 | false=>
  simp only [Bool.false_eq_true,if_false,OR.bind_ok,if_neg];obtain ⟨a,c,q,hx,e5⟩|⟨v5,r5,h5,e5,g5⟩:=spl (GH hB wA0 [120,115,100,58] r4 w4 ⟨cx.lim,N⟩ hl) (vN w4 wA0 [120,115,100,58] (by simp))
  ·rw [hx];simp -implicitDefEqProofs [af,aS,hN,hl2,hE.gN,hE.sN,hE.tk,dU,splice,e1,e2,e3,e4,e5]
  rw [h5];simp only [OR.bind_ok];have w5:=g5.1;obtain ⟨a,c,q,hx,e6⟩|⟨v6,r6,h6,e6,g6⟩:=spl (iI hB [41] r5 w5 ⟨cx.lim,N⟩ hl) (aB w5 [41] (by simp))
  ·rw [hx];simp -implicitDefEqProofs [af,aS,hN,hl2,hE.gN,hE.sN,hE.tk,dU,splice,e1,e2,e3,e4,e5,e6]
  rw [h6];simp only [OR.bind_ok];have w6:=g6.1;simp -implicitDefEqProofs [af,aS,hN,hl2,hE.gN,hE.sN,hE.tk,dU,splice,e1,e2,e3,e4,e5,e6,yH]
 | true=>
  simp only [if_true,OR.bind_ok];have e7:=lG hB r4 ⟨cx.lim,N⟩ hl;have w7:=dN w4;obtain ⟨a,c,q,hx,e8⟩|⟨v8,r8,h8,e8,g8⟩:=spl (iI hB [40] (cu r4) w7 ⟨cx.lim,N⟩ hl) (aB w7 [40] (by simp))
  ·rw [hx];simp -implicitDefEqProofs [af,aS,hN,hl2,hE.gN,hE.sN,hE.tk,dU,splice,e1,e2,e3,e4,e7,e8]
  rw [h8];simp only [OR.bind_ok];have w8:=g8.1;obtain ⟨a,c,q,hx,e9⟩|⟨v9,r9,h9,e9,g9⟩:=spl (GH hB wA0 [120,115,100,58] r8 w8 ⟨cx.lim,N⟩ hl) (vN w8 wA0 [120,115,100,58] (by simp))
  ·rw [hx];simp -implicitDefEqProofs [af,aS,hN,hl2,hE.gN,hE.sN,hE.tk,dU,splice,e1,e2,e3,e4,e7,e8,e9]
  rw [h9];simp only [OR.bind_ok];have w9:=g9.1;have e10:=aam hE s [] (-1099511627776) (1099511627776) r9 w9 ⟨cx.lim,N⟩ hl;have g10:=KA w9 [] (-1099511627776) (1099511627776)
  cases h10:SL src [] (-1099511627776) (1099511627776) r9 with
  | er a10 c10 r10=>
   rw [h10] at e10;simp only [aav] at e10;simp -implicitDefEqProofs [af,aS,hN,hl2,hE.gN,hE.sN,hE.tk,dU,splice,e1,e2,e3,e4,e7,e8,e9,e10]
  | ok x r10=>
   rw [h10] at e10;have w10:=(g10.ok h10).1;simp only [aau] at e10;simp only [OR.bind_ok];have hB2:=hE.app [MS s x.2.1 x.2.2];obtain ⟨a,c,q,hx,e11⟩|⟨b2,r11,h11,e11,g11⟩:=spl (Jy hB2 [41] r10 w10 ⟨cx.lim,N⟩ hl) (jB w10 [41])
   ·rw [hx];simp -implicitDefEqProofs [af,aS,hN,hl2,hE.gN,hE.sN,hE.tk,dU,splice,e1,e2,e3,e4,e7,e8,e9,e10,e11]
   rw [h11];simp only [OR.bind_ok];have w11:=g11.1
   cases b2 with
   | false=>
    simp only [Bool.false_eq_true,if_false,OR.bind_ok,if_neg];have e12:=aam hE s x.1 (x.2.1) (x.2.2) r11 w11 ⟨cx.lim,N⟩ hl;have g12:=KA w11 x.1 x.2.1 x.2.2
    cases h12:SL src x.1 (x.2.1) (x.2.2) r11 with
    | er a12 c12 r12=>
     rw [h12] at e12;simp only [aav] at e12;simp -implicitDefEqProofs [af,aS,hN,hl2,hE.gN,hE.sN,hE.tk,dU,splice,e1,e2,e3,e4,e7,e8,e9,e10,e11,e12]
    | ok y r12=>
     rw [h12] at e12;have w12:=(g12.ok h12).1;simp only [aau] at e12;simp only [OR.bind_ok];have hB3:=hE.app [MS s y.2.1 y.2.2];obtain ⟨a,c,q,hx,e13⟩|⟨v13,r13,h13,e13,g13⟩:=spl (iI hB3 [41] r12 w12 ⟨cx.lim,N⟩ hl) (aB w12 [41] (by simp))
     ·rw [hx];simp -implicitDefEqProofs [af,aS,hN,hl2,hE.gN,hE.sN,hE.tk,dU,splice,e1,e2,e3,e4,e7,e8,e9,e10,e11,e12,e13]
     rw [h13];simp only [OR.bind_ok];have w13:=g13.1;obtain ⟨a,c,q,hx,e14⟩|⟨v14,r14,h14,e14,g14⟩:=spl (iI hB3 [41] r13 w13 ⟨cx.lim,N⟩ hl) (aB w13 [41] (by simp))
     ·rw [hx];simp -implicitDefEqProofs [af,aS,hN,hl2,hE.gN,hE.sN,hE.tk,dU,splice,e1,e2,e3,e4,e7,e8,e9,e10,e11,e12,e13,e14]
     rw [h14];simp only [OR.bind_ok];have w14:=g14.1;simp -implicitDefEqProofs [af,aS,hN,hl2,hE.gN,hE.sN,hE.tk,dU,splice,e1,e2,e3,e4,e7,e8,e9,e10,e11,e12,e13,e14,yH]
   | true=>
    simp only [if_true,OR.bind_ok];obtain ⟨a,c,q,hx,e15⟩|⟨v15,r15,h15,e15,g15⟩:=spl (iI hB2 [41] r11 w11 ⟨cx.lim,N⟩ hl) (aB w11 [41] (by simp))
    ·rw [hx];simp -implicitDefEqProofs [af,aS,hN,hl2,hE.gN,hE.sN,hE.tk,dU,splice,e1,e2,e3,e4,e7,e8,e9,e10,e11,e15]
    rw [h15];simp only [OR.bind_ok];have w15:=g15.1;obtain ⟨a,c,q,hx,e16⟩|⟨v16,r16,h16,e16,g16⟩:=spl (iI hB2 [41] r15 w15 ⟨cx.lim,N⟩ hl) (aB w15 [41] (by simp))
    ·rw [hx];simp -implicitDefEqProofs [af,aS,hN,hl2,hE.gN,hE.sN,hE.tk,dU,splice,e1,e2,e3,e4,e7,e8,e9,e10,e11,e15,e16]
    rw [h16];simp only [OR.bind_ok];have w16:=g16.1;simp -implicitDefEqProofs [af,aS,hN,hl2,hE.gN,hE.sN,hE.tk,dU,splice,e1,e2,e3,e4,e7,e8,e9,e10,e11,e15,e16,yH]
end
end Go.Ai.Z
