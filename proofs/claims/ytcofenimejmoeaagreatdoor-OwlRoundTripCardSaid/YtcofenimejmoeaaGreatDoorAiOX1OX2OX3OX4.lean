/-
 The reader of ontology documents: how it measures tokens.
-/
import Derived.Test.YtcofenimejmoeaaGreatDoorAiOW10OW11OX0OW12OW13OW14
import Derived.Test.YtcofenimejmoeaaGreatDoorAiRchR1R2R3R4R5
set_option maxRecDepth 100000
set_option linter.unusedSimpArgs false
set_option linter.unusedVariables false
set_option linter.unusedSectionVars false
namespace Go.Ai.Z
open Go.Ai
def ltI (k:Int):Bool:=decide (97≤k) && decide (k≤122) || decide (65≤k) && decide (k≤90)
def wdI (k:Int):Bool:=ltI k || decide (48≤k) && decide (k≤57) || decide (k=95) || decide (k=58)
def stI (k:Int):Bool:=decide (32≤k) && decide (k≤126) && decide (k≠34)
def MN (b:UInt8):Bool:=XI b.toNat
def Vj (b:UInt8):Bool:=stI b.toNat
def zU (b:UInt8):Bool:=wdI b.toNat
def DK (b:UInt8):Bool:=decide ((b.toNat:Int)≠10)
theorem Sj (b:UInt8) (s:St) (cx:Ctx):aj P0 (.fn (.func qX) [] []) [.i .u8 b.toNat] s cx=.ret (.b (stI b.toNat)) s:=by
 refine Ph (by simp) ?_;unfold stI;by_cases q1:32≤(b.toNat:Int)
 ·by_cases q2:(b.toNat:Int)≤126
  ·by_cases q5:(b.toNat:Int)=34
   ·simp -implicitDefEqProofs [af,mZ,q1,q2,q5]
   ·simp -implicitDefEqProofs [af,mZ,q1,q2,q5]
  ·simp -implicitDefEqProofs [af,mZ,q1,q2]
 ·simp -implicitDefEqProofs [af,mZ,q1]
theorem uQ (k:Int) (s:St) (cx:Ctx):aj P0 (.fn (.func qW) [] []) [.i .u8 k] s cx=.ret (.b (ltI k)) s:=by
 refine Pg (by simp) ?_;unfold ltI
 by_cases q1:97≤k<;>by_cases q2:k≤122<;>by_cases q3:65≤k<;>by_cases q4:k≤90 <;>
  simp -implicitDefEqProofs [af,wK,q1,q2,q3,q4]
theorem Wu (b:UInt8) (s:St) (cx:Ctx):aj P0 (.fn (.func vK) [] []) [.i .u8 b.toNat] s cx=.ret (.b (wdI b.toNat)) s:=by
 refine Tv (by simp) ?_;have e1:=uQ b.toNat;unfold wdI;cases h0:ltI b.toNat
 ·rw [h0] at e1;by_cases q1:48≤(b.toNat:Int)
  ·by_cases q2:(b.toNat:Int)≤57
   ·simp -implicitDefEqProofs [af,jW,e1,q1,q2]
   ·by_cases q3:(b.toNat:Int)=95
    ·rw [q3] at e1;simp -implicitDefEqProofs [af,jW,e1,q1,q2,q3]
    ·by_cases q4:(b.toNat:Int)=58
     ·rw [q4] at e1;simp -implicitDefEqProofs [af,jW,e1,q1,q2,q3,q4]
     ·simp -implicitDefEqProofs [af,jW,e1,q1,q2,q3,q4]
  ·by_cases q3:(b.toNat:Int)=95
   ·rw [q3] at e1;simp -implicitDefEqProofs [af,jW,e1,q1,q3]
   ·by_cases q4:(b.toNat:Int)=58
    ·rw [q4] at e1;simp -implicitDefEqProofs [af,jW,e1,q1,q3,q4]
    ·simp -implicitDefEqProofs [af,jW,e1,q1,q3,q4]
 ·rw [h0] at e1;simp -implicitDefEqProofs [af,jW,e1]
theorem Yp (b:UInt8) (s:St) (cx:Ctx):aj P0 (.fn (.func lm) [] []) [.i .u8 b.toNat] s cx=.ret (.b (DK b)) s:=by
 refine Gf (by simp) ?_;unfold DK
 by_cases q:(b.toNat:Int)=10<;>simp -implicitDefEqProofs [af,o9,q]
def lu (p:UInt8→Bool) (l:Rl):Nat:=(l.takeWhile p).length
theorem Pq (p:UInt8→Bool) (l:Rl):lu p l≤l.length:=(List.takeWhile_sublist _).length_le
def afe (F:Nat) (p:UInt8→Bool):Prop:=∀(b:UInt8) (s:St) (cx:Ctx),aj P0 (.fn (.func F) [] []) [.i .u8 b.toNat] s cx=.ret (.b (p b)) s
theorem DR (l:Rl) (i:Nat) (h:i<(aC l).length) {b:UInt8} (hb:l[i]?=some b):(aC l)[i]=.i .u8 b.toNat:=by
 have hl:i<l.length:=by rw [lg] at h;exact h
 rw [List.getElem?_eq_getElem hl,Option.some_inj] at hb;simp [aC,hb]
theorem Sv (l:Rl) (n:Nat):(aC l).drop n=aC (l.drop n):=by simp [aC,List.map_drop]
theorem ZK (l:Rl) (n:Nat):(aC l).take n=aC (l.take n):=by simp [aC,List.map_take]
theorem BR {l:Rl}:(∀z∈aC l,z.cells.length=1)=True:=eq_true (by
 intro z hz;unfold aC at hz;obtain ⟨b,_,rfl⟩:=List.mem_map.1 hz
 rfl)
theorem QZ (F:Nat) (p:UInt8→Bool) (hF:afe F p) (l:Rl) (hl:l.length≤1000000) (s:St) (cx:Ctx):∀(rest:Rl) (i:Nat),l.drop i=rest→i≤l.length→
  gQ (aB P0.glob (aj P0) cx false uK) [0,1,4] [(0,.v (.sl (aC l))),(1,.v (.fn (.func F) [] [])),(4,.v (.i .i64 i))] s=
   .exit 0 [(0,.v (.sl (aC l))),(1,.v (.fn (.func F) [] [])),(4,.v (.i .i64 ((i+lu p rest:Nat):Int))),(16,.v (.b false))] s
 | [],i,h,hi=>by
  have h1:¬i<l.length:=Nat.not_lt.2 (drop_nil h);have hb:¬i<(aC l).length:=by rw [lg];exact h1
  refine ak fun K hK=>?_;simp -implicitDefEqProofs [uK,hb,lu]
 | b::r,i,h,hi=>by
  obtain ⟨h1,h2,h3,h4⟩:=drop_cons h;have hb:i<(aC l).length:=by rw [lg];exact h3
  have hg:=DR l i hb h1;have hwi:=wI (i:=i) (by omega);have e1:=hF b;cases q:p b
  ·rw [q] at e1;refine ak fun K hK=>?_;clear hK h4;have hs:lu p (b::r)=0:=by simp [lu,q]
   rw [hs];simp -implicitDefEqProofs [uK,hb,hg,e1]
  ·rw [q] at e1;have ih:=QZ F p hF l hl s cx r (i+1) h2 (by omega);refine ak fun K hK=>?_;rw [←hK,show ((i+1:Nat):Int)=(i:Int)+1 from rfl] at ih;clear hK h4;have hs:i+lu p (b::r)=i+1+lu p r:=by simp [lu,q];omega
   rw [hs,←ih];clear ih;simp -implicitDefEqProofs [uK,hb,hg,e1,hwi]
theorem JO (F:Nat) (p:UInt8→Bool) (hF:afe F p) (l:Rl) (hl:l.length≤1000000) (s:St) (cx:Ctx):
  aj P0 (.fn (.func xg) [] []) [.sl (aC l),.fn (.func F) [] []] s cx=.ret (.i .i64 (lu p l)) s:=by
 have h:=QZ F p hF l hl s ⟨cx.lim,s.length⟩ l 0 rfl (by omega);rw [show ((0:Nat):Int)=0 from rfl,Nat.zero_add] at h;refine XU (by simp) ?_;simp -implicitDefEqProofs [af,BN,h]
def Nk (p:UInt8→Bool) (e:UInt8) (l:Rl):Nat:=if l[1+lu p l.tail]?=some e then 2+lu p l.tail else 0
theorem Gw (F:Nat) (p:UInt8→Bool) (hF:afe F p) (e c:UInt8) (r:Rl) (hl:r.length≤100000) (s:St) (cx:Ctx):
  aj P0 (.fn (.func qY) [] []) [.sl (aC (c::r)),.fn (.func F) [] [],.i .u8 e.toNat] s cx=.ret (.i .i64 (Nk p e (c::r))) s:=by
 have e1:=JO F p hF r (by omega);have h1:=Pq p r;refine Pj (by simp) ?_;unfold Nk;rw [List.tail_cons];have hg:(c::r)[1+lu p r]?=r[lu p r]?:=by rw [Nat.add_comm];rfl
 rw [hg];have w1:IntKind.i64.wrap (1+(lu p r:Int))=1+lu p r:=w64 (by omega) (by omega);have w2:IntKind.i64.wrap (1+(lu p r:Int)+1)=1+lu p r+1:=w64 (by omega) (by omega);have hn:(aC (c::r)).length=r.length+1:=by rw [lg];rfl
 have hd:(aC (c::r)).drop 1=aC r:=rfl;have hcl:=BR (l:=c::r);have htk:(aC r).take r.length=aC r:=List.take_of_length_le (by rw [lg];omega);by_cases q:r[lu p r]?=some e
 ·have h2:lu p r<r.length:=(List.getElem?_eq_some_iff.1 q).1;have hb:1+lu p r<(aC (c::r)).length:=by rw [hn];omega
  have hgt:(aC (c::r))[1+lu p r]?=some (.i .u8 e.toNat):=by rw [List.getElem?_eq_getElem hb,DR (c::r) (1+lu p r) hb (by rw [hg];exact q)]
  have h0:(0:Int)≤1+(lu p r:Int):=by omega
  have hne:¬(1+(lu p r:Int))=(r.length:Int)+1:=by omega
  have htn:(1+(lu p r:Int)).toNat=1+lu p r:=by omega
  rw [if_pos q];have hfin:((2+lu p r:Nat):Int)=1+(lu p r:Int)+1:=by omega
  rw [hfin];generalize hB:aC (c::r)=B at *;generalize aC r=B2 at *;simp -implicitDefEqProofs [af,oN,hcl,htk,e1,w1,w2,hn,hd,hne,htn,h0,hgt]
 ·rw [if_neg q];generalize hB:aC (c::r)=B at *;generalize aC r=B2 at *;by_cases h2:lu p r=r.length
  ·have hne:(1+(r.length:Int))=(r.length:Int)+1:=by omega
   rw [h2] at e1;have w1:IntKind.i64.wrap ((r.length:Int)+1)=(r.length:Int)+1:=w64 (by omega) (by omega);simp -implicitDefEqProofs [af,oN,hcl,htk,e1,w1,hn,hd,hne]
  ·have h3:lu p r<r.length:=by omega
   have hb:1+lu p r<B.length:=by rw [hn];omega
   have h0:(0:Int)≤1+(lu p r:Int):=by omega
   have hgt:B[1+lu p r]?=some (.i .u8 (r[lu p r].toNat:Int)):=by
    subst hB;rw [List.getElem?_eq_getElem hb,DR (c::r) (1+lu p r) hb (by rw [hg];exact List.getElem?_eq_getElem h3)]
   have hne:¬(1+(lu p r:Int))=(r.length:Int)+1:=by omega
   have htn:(1+(lu p r:Int)).toNat=1+lu p r:=by omega
   have hv:¬((r[lu p r].toNat:Int)=(e.toNat:Int)):=fun h=>q (by
    rw [List.getElem?_eq_getElem h3]
    congr 1
    exact UInt8.toNat_inj.1 (by omega))
   simp -implicitDefEqProofs [af,oN,hcl,htk,e1,w1,hn,hd,hne,htn,h0,hgt,hv]
end Go.Ai.Z
namespace Go.Ai.Z
open Go.Ai
def kS:Rl→Int×Nat
 | []=>(4,0)
 | c::r=>
  if (c.toNat:Int)=40∨(c.toNat:Int)=41∨(c.toNat:Int)=61 then (1,1)
  else if (c.toNat:Int)=94 then (1,if r.head?=some 94 then 2 else 0)
  else if (c.toNat:Int)=60 then (2,Nk MN 62 (c::r))
  else if (c.toNat:Int)=34 then (3,Nk Vj 34 (c::r))
  else (4,lu zU (c::r))
theorem TN (c:UInt8) (r:Rl) (hl:r.length≤100000) (s:St) (cx:Ctx):
  aj P0 (.fn (.func wB) [] []) [.sl (aC (c::r))] s cx=.ret (.tu [.i .i64 (kS (c::r)).1,.i .i64 (kS (c::r)).2]) s:=by
 have e1:=Gw uU MN (fun b s cx=>OE b s cx) 62 c r hl;have e2:=Gw qX Vj (fun b s cx=>Sj b s cx) 34 c r hl;have e3:=JO vK zU (fun b s cx=>Wu b s cx) (c::r) (by simp;omega);refine Rj (by simp) ?_;unfold kS;rw [show ((62:UInt8).toNat:Int)=62 from rfl] at e1;rw [show ((34:UInt8).toNat:Int)=34 from rfl] at e2;have hb:aC (c::r)=.i .u8 c.toNat::aC r:=rfl;rw [hb] at e1 e2 e3 ⊢;by_cases q1:(c.toNat:Int)=40
 ·simp -implicitDefEqProofs [af,iJ,q1]
 by_cases q2:(c.toNat:Int)=41
 ·simp -implicitDefEqProofs [af,iJ,q2]
 by_cases q3:(c.toNat:Int)=61
 ·simp -implicitDefEqProofs [af,iJ,q3]
 by_cases q4:(c.toNat:Int)=94
 ·cases r with
  | nil=>
   simp -implicitDefEqProofs [af,iJ,q4,aC]
  | cons d r=>
   have hb2:aC (d::r)=.i .u8 d.toNat::aC r:=rfl;have hlen:(1:Int)<(aC r).length+1+1:=by omega
   by_cases q:d=94
   ·subst q;simp -implicitDefEqProofs [af,iJ,q4,hb2,hlen]
   ·have q':¬((d.toNat:Int)=94):=fun h=>q (UInt8.toNat_inj.1 (by have:(94:UInt8).toNat=94:=rfl;omega));simp -implicitDefEqProofs [af,iJ,q4,hb2,hlen,q,q']
 by_cases q5:(c.toNat:Int)=60
 ·rw [q5] at e1;simp -implicitDefEqProofs [af,iJ,q5,e1]
 by_cases q6:(c.toNat:Int)=34
 ·rw [q6] at e2;simp -implicitDefEqProofs [af,iJ,q6,e2]
 ·simp -implicitDefEqProofs [af,iJ,q1,q2,q3,q4,q5,q6,e3]
abbrev Tk:=Int×Rl×Nat
def fC (t:Tk):AV:=.ag [.i .i64 t.1,.s t.2.1,.i .i64 t.2.2]
structure Rd where
 at_:Nat
 ah:List Tk
 pre:List Rl
 iri:Rl
 op:Bool
 ax:AV
def ahV (l:List Tk):AV:=slf true (l.map fC)
def rO (src:Rl) (m:Nat) (r:Rd):fP:=.cells [.sl (aC src),.i .i64 r.at_,ahV r.ah,.mp m,.s r.iri,.b r.op,r.ax,.mp (m+2),.mp (m+3)]
def rdF (m:Nat) (f:Nat):AV:=.fn (.func f) [.pt (m+1) 0] []
def XF (m:Nat):List (AV×AV):=[
 (.s wC9,rdF m gG),
 (.s wC2,rdF m lW),
 (.s wB3,rdF m gW),
 (.s wB5,rdF m iY),
 (.s wB2,rdF m jG),
 (.s wA3,rdF m kX),
 (.s wA9,rdF m iE),
 (.s wB7,rdF m jF),
 (.s wB0,rdF m kY)]
def Yf (m:Nat):List (AV×AV):=[
 (.s wB4,rdF m kL),
 (.s wB1,rdF m iU),
 (.s wA5,rdF m kM),
 (.s wA6,rdF m jL),
 (.s wB6,rdF m ig),
 (.s wA8,rdF m jM)]
structure yA (src:Rl) (S:Rd→St) (m N:Nat):Prop where
 cell:∀r,(S r)[m+1]?=some (rO src m r)
 sets:∀r q:Rd,q.pre=r.pre→(S r).set (m+1) (rO src m q)=S q
 pm:∀r,(S r)[m]?=some (.map (qm r.pre))
 setp:∀(r:Rd) P,(S r).set m (.map (qm P))=S { r with pre:=P }
 im:∀r,(S r)[m+2]?=some (.map (XF m))
 cm:∀r,(S r)[m+3]?=some (.map (Yf m))
 n:∀r,(S r).length=N
 src:src.length≤70000
theorem yA.lt {src:Rl} {S:Rd→St} {m N:Nat} (h:yA src S m N):m+3<N:=by
 have:=(List.getElem?_eq_some_iff.1 (h.cm ⟨0,[],[],[],false,.ns⟩)).1
 rw [h.n] at this;exact this
theorem yA.app {src:Rl} {S:Rd→St} {m N:Nat} (h:yA src S m N) (X:St):yA src (fun r=>S r++X) m (N+X.length):=by
 have hl:=h.lt;refine ⟨fun r=>?_,fun r q hq=>?_,fun r=>?_,fun r P=>?_,fun r=>?_,fun r=>?_,fun r=>by simp [h.n],h.src⟩
 ·rw [List.getElem?_append_left (by rw [h.n];omega)];exact h.cell r
 ·rw [List.set_append_left _ _ (by rw [h.n];omega),h.sets r q hq]
 ·rw [List.getElem?_append_left (by rw [h.n];omega)];exact h.pm r
 ·rw [List.set_append_left _ _ (by rw [h.n];omega),h.setp]
 ·rw [List.getElem?_append_left (by rw [h.n];omega)];exact h.im r
 ·rw [List.getElem?_append_left (by rw [h.n];omega)];exact h.cm r
section
variable {src:Rl} {S:Rd→St} {m N:Nat} (h:yA src S m N)
include h
theorem yA.g1 (r:Rd) (X:St):(S r++X)[m+1]?=some (.cells [.sl (aC src),.i .i64 r.at_,ahV r.ah,.mp m,.s r.iri,.b r.op,r.ax,.mp (m+2),.mp (m+3)]):=(h.app X).cell r
theorem yA.s1 (r q:Rd) (X:St) (hq:q.pre=r.pre):(S r++X).set (m+1) (.cells [.sl (aC src),.i .i64 q.at_,ahV q.ah,.mp m,.s q.iri,.b q.op,q.ax,.mp (m+2),.mp (m+3)])=S q++X:=(h.app X).sets r q hq
theorem yA.gN (r:Rd) (x:fP) (X:St):(S r++x::X)[N]?=some x:=by
 rw [List.getElem?_append_right (by rw [h.n];omega),h.n];simp
theorem yA.sN (r:Rd) (x y:fP) (X:St):(S r++x::X).set N y=S r++y::X:=by
 rw [List.set_append_right _ _ (by rw [h.n];omega),h.n];simp
theorem yA.gN1 (r:Rd) (x y:fP) (X:St):(S r++x::y::X)[N+1]?=some y:=by
 rw [List.getElem?_append_right (by rw [h.n];omega),h.n,Nat.add_sub_cancel_left];simp
theorem yA.sN1 (r:Rd) (x y z:fP) (X:St):(S r++x::y::X).set (N+1) z=S r++x::z::X:=by
 rw [List.set_append_right _ _ (by rw [h.n];omega),h.n,Nat.add_sub_cancel_left];simp
theorem yA.tk (r:Rd) (X:St):(S r++X).take N=S r:=by
 rw [List.take_append_of_le_length (by rw [h.n];omega),List.take_of_length_le (by rw [h.n];omega)]
end
def skN:Nat→Rl→Nat
 | 0,_=>0
 | _+1,[]=>0
 | n+1,c::r=>
  if (c.toNat:Int)=9∨(c.toNat:Int)=10∨(c.toNat:Int)=13∨(c.toNat:Int)=32 then 1+skN n r
  else if (c.toNat:Int)=35 then lu DK (c::r)+skN n ((c::r).drop (lu DK (c::r))) else 0
theorem YM:∀(n:Nat) (l:Rl),skN n l≤l.length
 | 0,l=>by simp [skN]
 | n+1,[]=>by simp [skN]
 | n+1,c::r=>by
  have h1:=YM n r;have h2:=YM n ((c::r).drop (lu DK (c::r)));have h3:=Pq DK (c::r);rw [List.length_drop] at h2;unfold skN;split
  ·simp only [List.length_cons];omega
  ·split
   ·omega
   ·omega
def skO (src:Rl) (a:Nat):Nat:=a+skN src.length (src.drop a)
theorem Vl {src:Rl} {a:Nat} (h:a≤src.length):skO src a≤src.length:=by
 have:=YM src.length (src.drop a)
 rw [List.length_drop] at this;unfold skO;omega
section
variable {src:Rl} {S:Rd→St} {m N:Nat} (hE:yA src S m N)
include hE
theorem l_skip (cx:Ctx) (hl:cx.lim≤m):∀(n:Nat) (r:Rd),r.at_≤src.length→src.length - r.at_≤n→
  (∃E:Env,gQ (aB P0.glob (aj P0) cx false dM) [0] [(0,.v (.pt (m+1) 0))] (S r)=.exit 0 E (S { r with at_:=r.at_+skN n (src.drop r.at_) }))∨
  (∃E,gQ (aB P0.glob (aj P0) cx false dM) [0] [(0,.v (.pt (m+1) 0))] (S r)=.ret E (S { r with at_:=r.at_+skN n (src.drop r.at_) }))
 | 0,r,ha,hn=>by
  have h0:r.at_=src.length:=by omega
  have hc:=hE.cell r;unfold rO at hc;have hbl:=lg src;refine .inl ⟨[(0,.v (.pt (m+1) 0)),(11,.v (.b false))],ak fun K hK=>?_⟩;rw [show { r with at_:=r.at_+skN 0 (src.drop r.at_) }=r from by simp [skN]];simp -implicitDefEqProofs [dM,hc,hbl,h0]
 | n+1,r,ha,hn=>by
  have hc:=hE.cell r;have hS:=hE.src;have hlt:=hE.lt;unfold rO at hc;have hbl:=lg src;have hcl:=BR (l:=src)
  cases hd:src.drop r.at_ with
  | nil=>
   have h0:r.at_=src.length:=by have:=List.drop_eq_nil_iff.1 hd;omega
   refine .inl ⟨[(0,.v (.pt (m+1) 0)),(11,.v (.b false))],ak fun K hK=>?_⟩;rw [show { r with at_:=r.at_+skN (n+1) [] }=r from by simp [skN]];simp -implicitDefEqProofs [dM,hc,hbl,h0]
  | cons c q=>
   have h1:src[r.at_]?=some c:=by rw [←List.head?_drop,hd];rfl
   have h3:r.at_<src.length:=(List.getElem?_eq_some_iff.1 h1).1;have h3i:(r.at_:Int)<(src.length:Int):=by omega
   have hb:r.at_<(aC src).length:=by rw [hbl];exact h3
   have hg:=DR src r.at_ hb h1;have hg':(aC src)[r.at_]?=some (.i .u8 c.toNat):=by rw [List.getElem?_eq_getElem hb,hg]
   have hq:src.drop (r.at_+1)=q:=by rw [←List.drop_drop,hd];rfl
   have hlim:cx.lim≤m+1:=by omega
   by_cases q1:(c.toNat:Int)=9∨(c.toNat:Int)=10∨(c.toNat:Int)=13∨(c.toNat:Int)=32
   ·have hk:skN (n+1) (c::q)=1+skN n q:=by rw [skN,if_pos q1]
    have hw:=wI (i:=r.at_) (by omega);have hs:=hE.sets r { r with at_:=r.at_+1 } rfl;unfold rO at hs;rw [show (((r.at_+1:Nat)):Int)=(r.at_:Int)+1 from rfl] at hs;have ih:=l_skip cx hl n { r with at_:=r.at_+1 } (by simp only;omega) (by simp only;omega);simp only [hq] at ih;rw [hk,show r.at_+(1+skN n q)=r.at_+1+skN n q by omega]
    have key:∀K:Env→St→Out,(aB P0.glob (aj P0) cx false dM [(0,.v (.pt (m+1) 0))] (S r)).thn K=K [(0,.v (.pt (m+1) 0))] (S { r with at_:=r.at_+1 }):=by
     intro K
     rcases q1 with q1|q1|q1|q1 <;>
      simp -implicitDefEqProofs [dM,hc,hbl,h3i,hb,hg',hg,hw,hlim,q1,hs]
    rcases ih with ⟨E,ih⟩|⟨E,ih⟩
    ·refine .inl ⟨E,ak fun K hK=>?_⟩;rw [←hK] at ih;rw [←ih];exact key K
    ·refine .inr ⟨E,ak fun K hK=>?_⟩;rw [←hK] at ih;rw [←ih];exact key K
   ·by_cases q2:(c.toNat:Int)=35
    ·have hk:skN (n+1) (c::q)=lu DK (c::q)+skN n ((c::q).drop (lu DK (c::q))):=by rw [skN,if_neg q1,if_pos q2]
     have hsp:1≤lu DK (c::q):=by
      have:DK c=true:=by unfold DK;rw [q2];rfl
      simp [lu,this]
     have hsl:=Pq DK (c::q);have hlen:(c::q).length=src.length - r.at_:=by rw [←hd,List.length_drop]
     have e1:=JO lm DK (fun b s cx=>Yp b s cx) (c::q) (by omega);have hdr:(aC src).drop r.at_=aC (c::q):=by rw [Sv,hd]
     have htk:(aC (c::q)).take (src.length - r.at_)=aC (c::q):=List.take_of_length_le (by rw [lg];omega);rw [hk];have hdd:(c::q).drop (lu DK (c::q))=src.drop (r.at_+lu DK (c::q)):=by rw [←List.drop_drop,hd]
     rw [hdd];generalize lu DK (c::q)=k at *;have hw:IntKind.i64.wrap ((r.at_:Int)+k)=(r.at_:Int)+k:=w64 (by omega) (by omega);have hs:=hE.sets r { r with at_:=r.at_+k } rfl;unfold rO at hs;rw [show (((r.at_+k:Nat)):Int)=(r.at_:Int)+k by omega] at hs;have ih:=l_skip cx hl n { r with at_:=r.at_+k } (by simp only;omega) (by simp only;omega);simp only at ih;rw [show r.at_+(k+skN n (src.drop (r.at_+k)))=r.at_+k+skN n (src.drop (r.at_+k)) by omega];have hle:r.at_≤src.length:=ha
     have key:∀K:Env→St→Out,(aB P0.glob (aj P0) cx false dM [(0,.v (.pt (m+1) 0))] (S r)).thn K=K [(0,.v (.pt (m+1) 0))] (S { r with at_:=r.at_+k }):=by
      intro K;simp -implicitDefEqProofs [dM,hc,hbl,h3i,hb,hg',hg,hw,hlim,q2,hcl,hdr,htk,e1,hle,hs]
     rcases ih with ⟨E,ih⟩|⟨E,ih⟩
     ·refine .inl ⟨E,ak fun K hK=>?_⟩;rw [←hK] at ih;rw [←ih];exact key K
     ·refine .inr ⟨E,ak fun K hK=>?_⟩;rw [←hK] at ih;rw [←ih];exact key K
    ·refine .inr ⟨[(0,.v (.pt (m+1) 0)),(34,.v (.b false))],ak fun K hK=>?_⟩;have hk:skN (n+1) (c::q)=0:=by rw [skN,if_neg q1,if_neg q2]
     rw [hk];obtain ⟨p1,p2,p3,p4⟩:¬(c.toNat:Int)=9∧¬(c.toNat:Int)=10∧¬(c.toNat:Int)=13∧¬(c.toNat:Int)=32:=⟨fun h=>q1 (.inl h),fun h=>q1 (.inr (.inl h)),fun h=>q1 (.inr (.inr (.inl h))),fun h=>q1 (.inr (.inr (.inr h)))⟩;clear q1;simp -implicitDefEqProofs [dM,hc,hbl,h3i,hb,hg',hg,p1,p2,p3,p4,q2]
theorem aik (r:Rd) (ha:r.at_≤src.length) (cx:Ctx) (hl:cx.lim≤m):
  aj P0 (.fn (.func pI) [] []) [.pt (m+1) 0] (S r) cx=.ret (.tu []) (S { r with at_:=skO src r.at_ }):=by
 have h:=l_skip hE ⟨cx.lim,(S r).length⟩ hl src.length r ha (by omega);have hN:=hE.n;refine Jw (by simp) ?_;unfold skO;rw [hN] at h;rcases h with ⟨E,h⟩|⟨E,h⟩
 ·simp -implicitDefEqProofs [af,ou,hN,h]
 ·simp -implicitDefEqProofs [af,ou,hN,h]
end
end Go.Ai.Z
namespace Go.Ai.Z
open Go.Ai
inductive OR (α:Type) where
 | ok (v:α) (r:Rd)
 | er (a:Nat) (c:Int) (r:Rd)
def OR.bind {α β:Type} (x:OR α) (f:α→Rd→OR β):OR β:=
 match x with
 | .ok v r=>f v r
 | .er a c r=>.er a c r
@[simp] theorem OR.bind_ok {α β:Type} (v:α) (r:Rd) (f:α→Rd→OR β):(OR.ok v r).bind f=f v r:=rfl
@[simp] theorem OR.bind_er {α β:Type} (a:Nat) (c:Int) (r:Rd) (f:α→Rd→OR β):(OR.er a c r:OR α).bind f=.er a c r:=rfl
def flt (a:Nat) (c:Int):AV:=.ifc rF (.ag [.i .i64 (a:Int),.i .i64 c])
@[simp] theorem alM (S:St) (n:Nat) (a:Nat) (c:Int):frz S n (flt a c)=some (flt a c):=by simp [frz,flt,AV.under,bW]
@[simp] theorem akA (S:St) (n:Nat) (a:Int) (c:Int):frz S n (.ifc rF (.ag [.i .i64 a,.i .i64 c]))=some (.ifc rF (.ag [.i .i64 a,.i .i64 c])):=by simp [frz,AV.under,bW]
def tZ {α:Type} (enc:α→AV) (S:Rd→St) (x:OR α):CO:=
 match x with
 | .ok v r=>.ret (enc v) (S r)
 | .er a c r=>.pan (flt a c) (S r)
@[simp] theorem dD {α:Type} (enc:α→AV) (S:Rd→St) (v:α) (r:Rd):tZ enc S (.ok v r)=.ret (enc v) (S r):=rfl
@[simp] theorem dA {α:Type} (enc:α→AV) (S:Rd→St) (a:Nat) (c:Int) (r:Rd):tZ enc S (.er a c r:OR α)=.pan (flt a c) (S r):=rfl
theorem jP {α:Type} (enc:α→AV) (S:Rd→St) (x:OR α):tZ enc S x≠.fail:=by cases x<;>simp
def iH (src:Rl) (r:Rd):OR Tk:=
 match r.ah with
 | t::_=>.ok t r
 | []=>
  if skO src r.at_<src.length then
   if (kS (src.drop (skO src r.at_))).2=0 then .er (skO src r.at_) 50 { r with at_:=skO src r.at_ }
   else .ok ((kS (src.drop (skO src r.at_))).1,(src.drop (skO src r.at_)).take (kS (src.drop (skO src r.at_))).2,skO src r.at_)
    { r with at_:=skO src r.at_+(kS (src.drop (skO src r.at_))).2,ah:=[((kS (src.drop (skO src r.at_))).1,(src.drop (skO src r.at_)).take (kS (src.drop (skO src r.at_))).2,skO src r.at_)] }
  else .ok (5,[],skO src r.at_) { r with at_:=skO src r.at_,ah:=[(5,[],skO src r.at_)] }
theorem aaF (p:UInt8→Bool) (e:UInt8) (l:Rl):Nk p e l≤l.length:=by
 unfold Nk;split
 ·rename_i h;have:=(List.getElem?_eq_some_iff.1 h).1;omega
 ·omega
theorem QI (l:Rl):(kS l).2≤l.length:=by
 unfold kS
 cases l with
 | nil=>simp
 | cons c r=>
  have h1:=aaF MN 62 (c::r);have h2:=aaF Vj 34 (c::r);have h3:=Pq zU (c::r);simp only;split
  ·simp
  split
  ·cases r with
   | nil=>simp
   | cons d r=>simp;split<;>omega
  split
  ·exact h1
  split
  ·exact h2
  ·exact h3
theorem V5 (k:Int) (t:Rl) (a:Int):(AV.sl [.ag [.i .i64 k,.s t,.i .i64 a]]).flat=true:=rfl
theorem aeU:∀l:Rl,(aC l).mapM byteOf=some l
 | []=>rfl
 | b::r=>by
  have ih:=aeU r;unfold aC at ih ⊢;rw [List.map_cons,List.mapM_cons,ih];simp [byteOf]
section
variable {src:Rl} {S:Rd→St} {m N:Nat} (hE:yA src S m N)
include hE
theorem oL (r:Rd) (ha:r.at_≤src.length) (cx:Ctx) (hl:cx.lim≤m):
  aj P0 (.fn (.func aO) [] []) [.pt (m+1) 0] (S r) cx=tZ fC S (iH src r):=by
 refine Jz (jP _ _ _) ?_;have hN:=hE.n;have hlt:=hE.lt;have hS:=hE.src;have hlim:cx.lim≤m+1:=by omega
 have hc:=hE.cell r;unfold rO at hc;obtain ⟨a0,ah,pre,iri,op,ax⟩:=r;unfold iH;simp only at ha hc
 cases ah with
 | cons t u=>
  obtain ⟨t1,t2,t3⟩:=t;unfold ahV at hc;simp only [List.map_cons,slf] at hc;have g1:=hE.g1 ⟨a0,(t1,t2,t3)::u,pre,iri,op,ax⟩;simp only [ahV,List.map_cons,slf] at g1;have hz:¬((u.length:Int)+1=0):=by omega
  have hl0:cx.lim≤N:=by omega
  simp -implicitDefEqProofs [af,kD,hN,g1,hE.gN,hE.sN,hE.tk,hz,hl0,fC,dQ,splice,frz,AV.under,bW]
 | nil=>
  have hE1:=hE.app [fP.cells [.i .i64 0,.s [],.i .i64 0]];have e1:=aik hE1 ⟨a0,[],pre,iri,op,ax⟩ ha ⟨cx.lim,N⟩ hl;have hl0:cx.lim≤N:=by omega
  have hl1:cx.lim≤N+1:=by omega
  have hle:=Vl (src:=src) ha;simp only at e1;have hc1:=hE.cell ⟨skO src a0,[],pre,iri,op,ax⟩;unfold rO at hc1;have g0:=hE.g1 ⟨a0,[],pre,iri,op,ax⟩;have g1:=hE.g1 ⟨skO src a0,[],pre,iri,op,ax⟩;generalize skO src a0=a at *;simp only [ahV,List.map_nil,slf] at g0 g1;have hcl:=BR (l:=src);have hbl:=lg src;have hdr:=Sv src a;have htk:(aC (src.drop a)).take (src.length - a)=aC (src.drop a):=List.take_of_length_le (by rw [lg,List.length_drop];omega);have hdl:(aC (src.drop a)).length=src.length - a:=by rw [lg,List.length_drop]
  simp only [ahV,List.map_nil,slf] at hc hc1;by_cases q:a<src.length
  ·rw [if_pos q]
   obtain ⟨c,w,hcw⟩:∃c w,src.drop a=c::w:=by
    cases hh:src.drop a with
    | nil=>have:=List.drop_eq_nil_iff.1 hh;omega
    | cons c w=>exact ⟨c,w,rfl⟩
   have hwl:w.length≤100000:=by
    have:=congrArg List.length hcw
    rw [List.length_drop,List.length_cons] at this;omega
   have e2:=TN c w hwl;have hml:=QI (src.drop a);rw [←hcw] at e2;rw [List.length_drop] at hml;have hcl2:=BR (l:=src.drop a);generalize hB:aC (src.drop a)=B at *;have hgt:0<src.length - a:=by omega
   by_cases z:(kS (src.drop a)).2=0
   ·rw [if_pos z];rw [z] at e2;simp -implicitDefEqProofs [af,kD,hN,g0,g1,hE.gN,hE.sN,hE.gN1,hE.sN1,hE.tk,fC,dQ,splice,frz,AV.under,bW,hbl,V5,e1,e2,hcl,hdr,htk,hle,hdl,hgt,flt,hl0,hl1]
   ·rw [if_neg z];have s1:=hE.s1 ⟨a,[],pre,iri,op,ax⟩ ⟨a+(kS (src.drop a)).2,[],pre,iri,op,ax⟩;have g2:=hE.g1 ⟨a+(kS (src.drop a)).2,[],pre,iri,op,ax⟩;have s2:=hE.s1 ⟨a+(kS (src.drop a)).2,[],pre,iri,op,ax⟩ ⟨a+(kS (src.drop a)).2,[((kS (src.drop a)).1,(src.drop a).take (kS (src.drop a)).2,a)],pre,iri,op,ax⟩;have g3:=hE.g1 ⟨a+(kS (src.drop a)).2,[((kS (src.drop a)).1,(src.drop a).take (kS (src.drop a)).2,a)],pre,iri,op,ax⟩
    have hb2:(B.take (kS (src.drop a)).2).mapM byteOf=some ((src.drop a).take (kS (src.drop a)).2):=by
     rw [←hB,ZK];exact aeU _
    generalize (kS (src.drop a)).2=n at *;generalize (kS (src.drop a)).1=k at *;generalize (src.drop a).take n=txt at *;have w1:IntKind.i64.wrap ((a:Int)+n)=(a:Int)+n:=w64 (by omega) (by omega);have hnz:¬((n:Int)=0):=by omega
    have hnl:n≤src.length - a:=hml;simp [ahV,fC] at s1 g2 s2 g3;simp -implicitDefEqProofs [af,kD,hN,g0,g1,g2,g3,s1,s2,hE.gN,hE.sN,hE.gN1,hE.sN1,hE.tk,fC,dQ,splice,frz,AV.under,bW,hbl,V5,e1,e2,hcl,hdr,htk,hle,hdl,hgt,flt,hl0,hl1,hlim,hb2,w1,z,hnz,hnl,hcl2]
  ·rw [if_neg q];have hle2:a=src.length:=by omega
   have s2:=hE.s1 ⟨a,[],pre,iri,op,ax⟩ ⟨a,[(5,[],a)],pre,iri,op,ax⟩;have g3:=hE.g1 ⟨a,[(5,[],a)],pre,iri,op,ax⟩;simp [ahV,fC] at s2 g3;have hB0:aC (src.drop a)=[]:=by rw [hle2];simp [aC]
   simp -implicitDefEqProofs [af,kD,hN,g0,g1,g3,s2,hE.gN,hE.sN,hE.gN1,hE.sN1,hE.tk,fC,dQ,splice,frz,AV.under,bW,hbl,V5,e1,hcl,hdr,htk,hle,hdl,flt,hl0,hl1,hlim,hB0]
end
end Go.Ai.Z
namespace Go.Ai.Z
open Go.Ai
def bY (r:Rd):Rd:={ r with ah:=[] }
def isR (src:Rl) (w:Rl) (r:Rd):OR Bool:=(iH src r).bind fun t r=>.ok (decide (t.2.1=w)) r
def rD (src:Rl) (b:Bool) (r:Rd):OR Unit:=if b=true then .ok () r else (iH src r).bind fun t r=>.er t.2.2 50 r
def lI (src:Rl) (w:Rl) (r:Rd):OR Unit:=(isR src w r).bind fun b r=>(rD src b r).bind fun _ r=>.ok () (bY r)
structure afa (src:Rl) (t:Tk):Prop where
 len:t.2.1.length≤src.length
 two:t.1=2∨t.1=3→2≤t.2.1.length
 one:t.1≠5→1≤t.2.1.length
 at_:t.2.2≤src.length
structure Wr (src:Rl) (r:Rd):Prop where
 at_:r.at_≤src.length
 ah:∀t∈r.ah,afa src t
theorem abw (l:Rl) (h:(kS l).1=2∨(kS l).1=3) (h0:(kS l).2≠0):2≤(kS l).2:=by
 have he:∀p e,Nk p e l≠0→2≤Nk p e l:=by
  intro p e hh;unfold Nk at hh ⊢;split
  ·omega
  ·rename_i q;rw [if_neg q] at hh;exact absurd rfl hh
 cases l with
 | nil=>simp [kS] at h
 | cons c r=>
  unfold kS at h h0 ⊢;simp only at h h0 ⊢
  split at h
  ·simp at h
  rename_i q1;rw [if_neg q1] at h0 ⊢
  split at h
  ·simp at h
  rename_i q2;rw [if_neg q2] at h0 ⊢
  split at h
  ·rename_i q3;rw [if_pos q3] at h0 ⊢;exact he _ _ h0
  rename_i q3;rw [if_neg q3] at h0 ⊢
  split at h
  ·rename_i q4;rw [if_pos q4] at h0 ⊢;exact he _ _ h0
  ·simp at h
theorem oH {src:Rl} {r r':Rd} {t:Tk} (h:Wr src r) (e:iH src r=.ok t r'):Wr src r'∧afa src t:=by
 have h1:=Vl h.at_;have h2:=QI (src.drop (skO src r.at_));have h3:=abw (src.drop (skO src r.at_));rw [List.length_drop] at h2;unfold iH at e
 split at e
 ·rename_i t0 u hh;cases e;exact ⟨h,h.ah t (by rw [hh];simp)⟩
 ·split at e
  ·split at e
   ·cases e
   ·rename_i q;cases e
    have ht:afa src ((kS (src.drop (skO src r.at_))).1,(src.drop (skO src r.at_)).take (kS (src.drop (skO src r.at_))).2,skO src r.at_):=by
     refine ⟨?_,fun hk=>?_,fun hk=>?_,h1⟩
     ·simp only [List.length_take,List.length_drop];omega
     ·have:=h3 hk q
      simp only [List.length_take,List.length_drop];omega
     ·simp only [List.length_take,List.length_drop];omega
    exact ⟨⟨by simp only;omega,fun t hm=>by simp at hm;subst hm;exact ht⟩,ht⟩
  ·cases e;have ht:afa src (5,[],skO src r.at_):=⟨by simp,fun hk=>by simp at hk,fun hk=>absurd rfl hk,h1⟩;exact ⟨⟨h1,fun t hm=>by simp at hm;subst hm;exact ht⟩,ht⟩
theorem qE {src:Rl} {r r':Rd} {t:Tk} (e:iH src r=.ok t r'):iH src r'=.ok t r'∧r'.pre=r.pre∧r'.iri=r.iri∧r'.op=r.op∧r'.ax=r.ax:=by
 unfold iH at e
 split at e
 ·rename_i hh;cases e;refine ⟨?_,rfl,rfl,rfl,rfl⟩;unfold iH;rw [hh]
 ·split at e
  ·split at e
   ·cases e
   ·cases e;refine ⟨?_,rfl,rfl,rfl,rfl⟩;unfold iH;rfl
  ·cases e;refine ⟨?_,rfl,rfl,rfl,rfl⟩;unfold iH;rfl
theorem iP {src:Rl} {r:Rd} (h:Wr src r):Wr src (bY r):=⟨h.at_,by simp [bY]⟩
theorem zi (src:Rl) (r:Rd):∃a c r2,rD src false r=.er a c r2:=by
 unfold rD;rw [if_neg Bool.false_ne_true]
 cases iH src r with
 | er a c r2=>exact ⟨a,c,r2,rfl⟩
 | ok t r2=>exact ⟨_,_,r2,rfl⟩
@[simp] theorem pq (src:Rl) (r:Rd):rD src true r=.ok () r:=rfl
theorem agR {src:Rl} {r r':Rd} {w:Rl} {b:Bool} (h:Wr src r) (e:isR src w r=.ok b r'):Wr src r':=by
 unfold isR at e
 cases hp:iH src r with
 | er a c r1=>rw [hp] at e;cases e
 | ok t r1=>rw [hp] at e;cases e;exact (oH h hp).1
def QB (pre:List Rl) (t:Tk):Bool:=
 match lC 58 t.2.1 with
 | some (x,y)=>decide (t.1=4) && !y.isEmpty && !decide ((58:UInt8)∈y) && decide (x++[58]∈pre) && !decide (x=[111,119,108]) && !decide (x=[120,115,100])
 | none=>false
def trimB (b:UInt8) (w:Rl):Rl:=match w with | []=>[] | c::r=>if c=b then r else c::r
def WN (w:Rl):Rl:=trimB 58 w
theorem Yu (w:Rl) (b:UInt8) (s:St) (cx:Ctx):aj P0 (.fn (.func fO) [] []) [.s w,.s [b]] s cx=.ret (.b (decide (w.head?=some b))) s:=by
 refine xH (by simp) ?_
 cases w with
 | nil=>simp -implicitDefEqProofs [af,fB]
 | cons c r=>
  have h1:(1:Int)≤(r.length:Int)+1:=by omega
  by_cases q:c=b<;>simp -implicitDefEqProofs [af,fB,h1,q]
theorem LJ (w:Rl) (b:UInt8) (s:St) (cx:Ctx):aj P0 (.fn (.func kK) [] []) [.s w,.s [b]] s cx=.ret (.s (trimB b w)) s:=by
 have e1:=Yu w b
 have e2:∀(s:St) (cx:Ctx),aj P0 (.fn (.func fD) [] []) [.s w,.s [b]] s cx=.ret (.s (trimB b w)) s:=fun s cx=>by
  refine wV (by simp) ?_
  cases w with
  | nil=>
   simp at e1;simp -implicitDefEqProofs [af,dH,e1,trimB]
  | cons c r=>
   by_cases q:c=b
   ·simp [q] at e1;simp -implicitDefEqProofs [af,dH,e1,trimB,q]
   ·simp [q] at e1;simp -implicitDefEqProofs [af,dH,e1,trimB,q]
 refine EX (by simp) ?_;simp -implicitDefEqProofs [af,oI,e2]
def nY (src:Rl) (r:Rd):OR Rl:=(iH src r).bind fun t r=>(rD src (QB r.pre t) r).bind fun _ r=>.ok (WN t.2.1) (bY r)
def Lj (src:Rl) (w p:Rl) (r:Rd):OR Unit:=(isR src w r).bind fun b r=>(rD src (b && decide (p∈r.pre)) r).bind fun _ r=>.ok () (bY r)
section
variable {src:Rl} {S:Rd→St} {m N:Nat} (hE:yA src S m N)
include hE
theorem pY (b:Bool) (r:Rd) (ha:Wr src r) (cx:Ctx) (hl:cx.lim≤m):
  aj P0 (.fn (.func bU) [] []) [.pt (m+1) 0,.b b] (S r) cx=tZ (fun _=>.tu []) S (rD src b r):=by
 refine JD (jP _ _ _) ?_;have hN:=hE.n;have e1:=oL hE r ha.at_ ⟨cx.lim,N⟩ hl;unfold rD;cases b
 ·cases hp:iH src r with
  | er a c r1=>
   rw [hp] at e1;simp only [dA] at e1;simp -implicitDefEqProofs [af,lQ,hN,e1]
  | ok t r1=>
   rw [hp] at e1;simp only [dD,fC] at e1;simp -implicitDefEqProofs [af,lQ,hN,e1,dQ,splice,flt]
 ·simp -implicitDefEqProofs [af,lQ,hN]
theorem JQ (w:Rl) (r:Rd) (ha:Wr src r) (cx:Ctx) (hl:cx.lim≤m):
  aj P0 (.fn (.func bK) [] []) [.pt (m+1) 0,.s w] (S r) cx=tZ .b S (isR src w r):=by
 refine Nb (jP _ _ _) ?_;have hN:=hE.n;have e1:=oL hE r ha.at_ ⟨cx.lim,N⟩ hl;unfold isR
 cases hp:iH src r with
 | er a c r1=>
  rw [hp] at e1;simp only [dA] at e1;simp -implicitDefEqProofs [af,qI,hN,e1]
 | ok t r1=>
  rw [hp] at e1;simp only [dD,fC] at e1
  by_cases q:t.2.1=w<;>simp -implicitDefEqProofs [af,qI,hN,e1,q]
theorem lF (r:Rd) (cx:Ctx) (hl:cx.lim≤m):
  aj P0 (.fn (.func aN) [] []) [.pt (m+1) 0] (S r) cx=.ret (.tu []) (S (bY r)):=by
 refine JA (by simp) ?_;have hN:=hE.n;have hc:=hE.cell r;have hs:=hE.sets r (bY r) rfl;have hlim:cx.lim≤m+1:=by omega
 unfold rO bY at *;simp [ahV] at hs;simp -implicitDefEqProofs [af,rZ,hN,hc,hs,hlim,show AV.ns.flat=true from rfl]
theorem iD (w:Rl) (r:Rd) (ha:Wr src r) (cx:Ctx) (hl:cx.lim≤m):
  aj P0 (.fn (.func aH) [] []) [.pt (m+1) 0,.s w] (S r) cx=tZ (fun _=>.tu []) S (lI src w r):=by
 refine Ju (jP _ _ _) ?_;have hN:=hE.n;have e1:=JQ hE w r ha ⟨cx.lim,N⟩ hl;unfold lI
 cases hp:isR src w r with
 | er a c r1=>
  rw [hp] at e1;simp only [dA] at e1;simp -implicitDefEqProofs [af,lN,hN,e1]
 | ok b r1=>
  rw [hp] at e1;simp only [dD] at e1;have h1:=agR ha hp;have e2:=pY hE b r1 h1 ⟨cx.lim,N⟩ hl;simp only [OR.bind_ok]
  cases hq:rD src b r1 with
  | er a c r2=>
   rw [hq] at e2;simp only [dA] at e2;simp -implicitDefEqProofs [af,lN,hN,e1,e2]
  | ok v r2=>
   rw [hq] at e2;simp only [dD] at e2;have e3:=lF hE r2 ⟨cx.lim,N⟩ hl;simp -implicitDefEqProofs [af,lN,hN,e1,e2,e3]
theorem G8 (w p:Rl) (r:Rd) (ha:Wr src r) (cx:Ctx) (hl:cx.lim≤m):
  aj P0 (.fn (.func gB) [] []) [.pt (m+1) 0,.s w,.s p] (S r) cx=tZ (fun _=>.tu []) S (Lj src w p r):=by
 refine H9 (jP _ _ _) ?_;have hN:=hE.n;have e1:=JQ hE w r ha ⟨cx.lim,N⟩ hl;unfold Lj
 cases hp:isR src w r with
 | er a c r1=>
  rw [hp] at e1;simp only [dA] at e1;simp -implicitDefEqProofs [af,dS,hN,e1]
 | ok b r1=>
  rw [hp] at e1;simp only [dD] at e1;have h1:=agR ha hp;have e2:=pY hE (b && decide (p∈r1.pre)) r1 h1 ⟨cx.lim,N⟩ hl;have hc:=hE.cell r1;have hm:=hE.pm r1;have hf:=DC p r1.pre;unfold rO at hc;simp only [OR.bind_ok]
  have key:∀x,rD src (b && decide (p∈r1.pre)) r1=x→af P0.glob (aj P0) dS ([]++[.pt (m+1) 0,.s w,.s p]++[]) (S r) cx=tZ (fun _=>.tu []) S (x.bind fun _ r=>.ok () (bY r)):=by
   intro x hx;rw [hx] at e2
   cases x with
   | er a c r2=>
    simp only [dA] at e2;cases b
    ·simp at e2;simp -implicitDefEqProofs [af,dS,hN,e1,e2]
    ·by_cases q:p∈r1.pre
     ·simp [q] at e2 hf;simp -implicitDefEqProofs [af,dS,hN,e1,e2,hc,hm,hf]
     ·simp [q] at e2 hf;simp -implicitDefEqProofs [af,dS,hN,e1,e2,hc,hm,hf]
   | ok v r2=>
    simp only [dD] at e2;have e3:=lF hE r2 ⟨cx.lim,N⟩ hl;cases b
    ·simp at e2;simp -implicitDefEqProofs [af,dS,hN,e1,e2,e3]
    ·by_cases q:p∈r1.pre
     ·simp [q] at e2 hf;simp -implicitDefEqProofs [af,dS,hN,e1,e2,hc,hm,hf,e3]
     ·simp [q] at e2 hf;simp -implicitDefEqProofs [af,dS,hN,e1,e2,hc,hm,hf,e3]
  exact key _ rfl
theorem qM (r:Rd) (ha:Wr src r) (cx:Ctx) (hl:cx.lim≤m):
  aj P0 (.fn (.func aP) [] []) [.pt (m+1) 0] (S r) cx=tZ .s S (nY src r):=by
 refine JB (jP _ _ _) ?_;have hN:=hE.n;have hS:=hE.src;have e1:=oL hE r ha.at_ ⟨cx.lim,N⟩ hl;unfold nY
 cases hp:iH src r with
 | er a c r1=>
  rw [hp] at e1;simp only [dA] at e1;simp -implicitDefEqProofs [af,dO,hN,e1]
 | ok t r1=>
  rw [hp] at e1;obtain ⟨w1,w2⟩:=oH ha hp;obtain ⟨p1,p2,_,_,_⟩:=qE hp;have e1b:=oL hE r1 w1.at_ ⟨cx.lim,N⟩ hl;rw [p1] at e1b;obtain ⟨k,w,a⟩:=t;simp only [dD,fC] at e1 e1b;have ec:=zk w 58 (by have:=w2.len;simp only at this;omega);have et:=LJ w 58;have hc:=hE.cell r1;have hm:=hE.pm r1;unfold rO at hc;simp only [OR.bind_ok];have e3:=lF hE r1 ⟨cx.lim,N⟩ hl;have e2:=fun b=>pY hE b r1 w1 ⟨cx.lim,N⟩ hl;obtain ⟨a2,c2,r2,hx⟩:=zi src r1;have e2f:=e2 false;have e2t:=e2 true;rw [hx] at e2f;simp only [dA,dD,pq] at e2f e2t;clear e2;unfold QB;simp only
  cases hcut:lC 58 w with
  | none=>
   rw [hcut] at ec;simp only at ec ⊢;rw [hx]
   by_cases q1:k=4<;>simp -implicitDefEqProofs [af,dO,hN,e1,e1b,ec,e2f,q1]
  | some q=>
   obtain ⟨x,y⟩:=q;rw [hcut] at ec;simp only at ec ⊢;have hf:=DC (x++[58]) r1.pre;have eC:=Kt y 58
   have hxl:x.length≤4611686018427387903:=by
    have h1:=wu hcut;have h2:=w2.len;simp only at h2;rw [h1] at h2;simp at h2;omega
   by_cases q1:¬k=4
   ·simp [q1,hx];simp -implicitDefEqProofs [af,dO,hN,e1,e1b,ec,e2f,q1]
   have q1:k=4:=Classical.not_not.1 q1;by_cases q2:y=[]
   ·simp [q1,q2,hx];simp -implicitDefEqProofs [af,dO,hN,e1,e1b,ec,e2f,q1,q2]
   have q2b:y.isEmpty=false:=by cases y<;>simp_all
   by_cases q3:(58:UInt8)∈y
   ·simp [q1,q2,q3,hx];simp [q3] at eC;simp -implicitDefEqProofs [af,dO,hN,e1,e1b,ec,e2f,q1,q2b,eC]
   simp [q3] at eC;by_cases q4:¬x++[58]∈r1.pre
   ·simp [q1,q2,q3,q4,hx];simp [q4] at hf;simp -implicitDefEqProofs [af,dO,hN,e1,e1b,ec,e2f,q1,q2b,eC,hc,hm,hf,hxl]
   have q4:x++[58]∈r1.pre:=Classical.not_not.1 q4;simp [q4] at hf;by_cases q5:x=[111,119,108]
   ·simp [q1,q2,q3,q4,q5,hx];subst q5;simp at hf q4;simp -implicitDefEqProofs [af,dO,hN,e1,e1b,ec,e2f,q1,q2b,eC,hc,hm,hf,hxl,hx]
   by_cases q6:x=[120,115,100]
   ·simp [q1,q2,q3,q4,q5,q6,hx];subst q6;simp at hf q4;simp -implicitDefEqProofs [af,dO,hN,e1,e1b,ec,e2f,q1,q2b,eC,hc,hm,hf,hxl,hx]
   ·simp [q1,q2,q3,q4,q5,q6];simp -implicitDefEqProofs [af,dO,hN,e1,e1b,ec,e2t,e3,et,WN,q1,q2b,eC,hc,hm,hf,hxl,q5,q6]
end
end Go.Ai.Z
