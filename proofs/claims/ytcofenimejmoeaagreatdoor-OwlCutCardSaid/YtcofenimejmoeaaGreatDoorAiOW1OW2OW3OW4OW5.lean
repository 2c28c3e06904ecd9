/-
 Names, numbers and calls in ontology documents.
-/
import Derived.Test.YtcofenimejmoeaaGreatDoorAiK1K2K3K4K5K6K7
import Derived.Test.YtcofenimejmoeaaGreatDoorAiRchR1R2R3R4R5
import Derived.Test.YtcofenimejmoeaaGreatDoorAiPSortOK
set_option maxRecDepth 100000
set_option linter.unusedSimpArgs false
set_option linter.unusedVariables false
set_option linter.unusedSectionVars false
namespace Go.Ai.Z
open Go.Lib (itoa decDigits nDigits)
theorem Cj (l:Rl) (b:UInt8) (s:St) (cx:Ctx):aj P0 (.fn (.func pF) [] []) [.s l,.s [b]] s cx=.ret (.i .i64 (Go.Lib.indexByte l b)) s:=by
 refine Oa (by simp) ?_;simp [af,vP,Xx]
theorem Lh (l:Rl) (b:UInt8) (s:St) (cx:Ctx):aj P0 (.fn (.func lX) [] []) [.s l,.s [b]] s cx=.ret (.b (decide (b∈l))) s:=by
 have e1:=Cj l b;refine IC (by simp) ?_
 cases hc:lH b l with
 | none=>
  have hm:=zi.1 hc;rw [index_none hc] at e1;simp [af,nJ,e1,hm]
 | some p=>
  obtain ⟨x,y⟩:=p;have hm:b∈l:=by rw [wM hc];simp
  rw [ET hc] at e1;simp [af,nJ,e1,hm]
def owN (n:Rl):Rl:=if (58:UInt8)∈n then n else 58::n
def lN (w:Rl) (args:List Rl):Rl:=w++[40]++joinL [32] args++[41]
def ttI:Rl:=[34,94,94,120,115,100,58,105,110,116,101,103,101,114]
def Bv (w:Rl) (n:Int):Rl:=w++[32,34]++itoa n++ttI
theorem bW (n:Rl) (hn:n.length≤1000000) (s:St) (cx:Ctx):aj P0 (.fn (.func jb) [] []) [.s n] s cx=.ret (.s (owN n)) s:=by
 have e1:=Lh n 58;have l1:n.length+1≤4611686018427387904:=by omega
 refine YO (by simp) ?_
 by_cases h:(58:UInt8)∈n<;>simp [af,CJ,e1,h,owN,l1]
theorem eF (w:Rl) (args:List Rl) (hw:w.length≤1000) (hj:(joinL [32] args).length≤1000000) (ha:args.length≤1000000) (s:St) (cx:Ctx):
  aj P0 (.fn (.func oP) [] []) [.s w,.sl (args.map .s)] s cx=.ret (.s (lN w args)) s:=by
 have e1:=Ht args [32] (by omega) (by omega);refine YP (by simp) ?_;unfold lN;simp [af,CP,e1]
 repeat' (first | (split<;>(try simp only [gG,gI,gQ,kE,kF])<;>(try simp [*])) | (simp only [gG,gI,gQ,kE,kF]<;>(try simp [*]))|omega)
theorem PK (w:Rl) (n:Int) (hw:w.length≤1000) (h1:-1099511627776≤n) (h2:n≤1099511627776) (s:St) (cx:Ctx):
  aj P0 (.fn (.func xQ) [] []) [.s w,.i .i64 n] s cx=.ret (.s (Bv w n)) s:=by
 have e1:=Ua n (by omega) (by omega);have l1:=Go.Lib.itoa_length_le n (by omega) (by omega);refine Xf (by simp) ?_;unfold Bv ttI;simp [af,AA,e1]
 repeat' (first | (split<;>(try simp only [gG,gI,gQ,kE,kF])<;>(try simp [*])) | (simp only [gG,gI,gQ,kE,kF]<;>(try simp [*]))|omega)
def KG (n:Rl):Rl:=match lH 58 n with|some (x,_)=>x|none=>[]
theorem abt {n:Rl} (h:oV n=true∨Ny n=true):(KG n=[] ↔ (58:UInt8) ∉ n)∧n.length≤24:=by
 unfold KG;rcases h with h|h
 ·unfold oV at h;rw [Bool.and_eq_true,decide_eq_true_eq] at h;refine ⟨?_,h.1⟩
  cases hc:lH 58 n with
  | none=>simp [zi.1 hc]
  | some p=>
   obtain ⟨x,y⟩:=p;rw [hc] at h;have h2:=h.2;simp only [Bool.and_eq_true] at h2;have hx:x≠[]:=fun e=>by rw [e] at h2;simp [Ba] at h2
   have hm:(58:UInt8)∈n:=by rw [wM hc];simp
   simp [hx,hm]
 ·unfold Ny at h;simp only [Bool.and_eq_true,decide_eq_true_eq] at h;obtain ⟨⟨⟨h1,h2⟩,h3⟩,h4⟩:=h;refine ⟨?_,h2⟩
  have A:(58:UInt8) ∉ n:=by
   have ht:∀l:Rl,I5 l=true→(58:UInt8) ∉ l:=by
    intro l
    induction l with
    | nil=>simp
    | cons b r ih=>
     intro hl;rw [Jq,Bool.and_eq_true] at hl;simp only [List.mem_cons,not_or];refine ⟨?_,ih hl.2⟩;rintro rfl
     have:aas 58=false:=by decide
     rw [this] at hl;exact absurd hl.1 (by decide)
   exact ht n h4
  rw [zi.2 A];simp [A]
end Go.Ai.Z
namespace Go.Ai.Z
open Go.Lib (itoa)
mutual
def owC:C→Rl
 | .mk k n lo hi _ ps=>
  if k=1 then wB4
  else if k=2 then wB1
  else if k=4 then lN wB8 [owN n]
  else if k=5 then lN wA6 (acH ps)
  else if k=6 then lN wA7 [owN n,(acH ps).headD []]
  else if k=7 then lN wA8 [owN n,lN wA5 [wA1,Bv wA0 lo,Bv wA3 hi]]
  else owN n
def acH:List C→List Rl
 | []=>[]
 | c::r=>owC c::acH r
end
theorem abk:∀l:List C,acH l=l.map owC
 | []=>by simp [acH]
 | c::r=>by simp [acH,abk r]
theorem Di (c:C):owC c=if c.kind=1 then wB4
  else if c.kind=2 then wB1
  else if c.kind=4 then lN wB8 [owN c.name]
  else if c.kind=5 then lN wA6 (c.parts.map owC)
  else if c.kind=6 then lN wA7 [owN c.name,(c.parts.map owC).headD []]
  else if c.kind=7 then lN wA8 [owN c.name,lN wA5 [wA1,Bv wA0 c.lo,Bv wA3 c.hi]]
  else owN c.name:=by cases c;simp only [owC,abk];rfl
theorem eY (n:Rl):(owN n).length≤n.length+1:=by unfold owN;split<;>simp
theorem WN:∀(c:C),iL c=0→(owC c).length+10≤300 * wC c:=by
 refine C.ind' fun c ih hv=>?_;obtain ⟨v1,v2,v3⟩:=KJ hv;have hw:=FC c;have hq:c.name.length≤40 * (c.name.length / 40)+39:=by omega
 have hn:=eY c.name;have A:∀p∈c.parts,(owC p).length+10≤300 * wC p:=fun p hp=>ih p hp (v3 p hp)
 have I:((c.parts.map owC).map fun x=>x.length+([32]:Rl).length).sum≤300 * wL c.parts:=by
  clear ih v3 hw;generalize c.parts=l at A
  induction l with
  | nil=>simp [wL]
  | cons a r ih=>
   have h1:=A a (by simp);have h2:=ih (fun p hp=>A p (by simp [hp]));simp [wL] at h2 ⊢;omega
 rw [Di];unfold lN Bv ttI;rcases Jr v1 with k|k|k|k|⟨k,k1,k2,k3⟩|⟨k,k1⟩|⟨k,k1⟩
 ·simp [k];omega
 ·simp [k];omega
 ·simp [k];omega
 ·simp [k,joinL];omega
 ·have l1:=Go.Lib.itoa_length_le c.lo (by omega) (by omega);have l2:=Go.Lib.itoa_length_le c.hi (by omega) (by omega);simp [k,joinL];omega
 ·rcases hps:c.parts with _|⟨a,r⟩
  ·simp [hps] at k1
  ·have:=A a (by simp [hps])
   rw [hps] at hw;simp only [wL] at hw;simp [k,joinL];omega
 ·have:=D5 (c.parts.map owC) [32]
  simp [k];simp at this I;omega
theorem Jd (s:St) (cx:Ctx) (c:C) (I:c.parts.length≤100000)
  (ih:∀p∈c.parts,∀(s:St) (cx:Ctx),aj P0 (.fn (.func fD) [] []) [aJ p] s cx=.ret (.s (owC p)) s):
  ∀(J:List C) (i:Nat) (t:List Rl),c.parts.drop i=J→t.length=i→
  ∃j:Int,gY (aB P0.glob (aj P0) cx false uJ) [3,23,24,25] [(3,.own false au 1 (t.map .s)),(23,.v (slf c.z (c.parts.map aJ))),(24,.v (.i .i64 c.parts.length)),(25,.v (.i .i64 i))] s=
   .exit 1 [(3,.own false au 1 ((t++J.map owC).map .s)),(23,.v (slf c.z (c.parts.map aJ))),(24,.v (.i .i64 c.parts.length)),(25,.v (.i .i64 j)),(26,.v (.b false))] s
 | [],i,t,h,ht=>by
  have h1:¬i<c.parts.length:=Nat.not_lt.2 (drop_nil h);refine ⟨i,ak fun K hK=>?_⟩;simp [uJ,h1]
 | p::r,i,t,h,ht=>by
  obtain ⟨h1,h2,h3,h4⟩:=drop_cons h;have h5:=h4 h3;have hp:p∈c.parts:=by rw [←h5];exact List.getElem_mem h3
  have A:=wI (i:=i) (by omega);obtain ⟨j,x⟩:=Jd s cx c I ih r (i+1) (t++[owC p]) h2 (by simp [ht]);refine ⟨j,ak fun K hK=>?_⟩;rw [←hK] at x;have e1:=ih p hp;clear hK h4 ih;simp at x;have hm:t.length+1≤aS:=by unfold aS;omega
  simp [uJ,h3,h5,A,e1,hm,x,List.range_succ,splice]
theorem nY:∀(c:C),wC c≤1000→iL c=0→∀(s:St) (cx:Ctx),aj P0 (.fn (.func fD) [] []) [aJ c] s cx=.ret (.s (owC c)) s:=by
 refine C.ind' fun c ih hw hv s cx=>?_;obtain ⟨v1,v2,v3⟩:=KJ hv;have A:=hw;rw [FC] at A
 have hO:∀p∈c.parts,∀(s:St) (cx:Ctx),aj P0 (.fn (.func fD) [] []) [aJ p] s cx=.ret (.s (owC p)) s:=fun p hp=>
  ih p hp (by have:=Nl hp;omega) (v3 p hp)
 have hl:∀p∈c.parts,(owC p).length+10≤300 * wC p:=fun p hp=>WN p (v3 p hp);have I:=QU c.parts;have J:=WN c hv;have K:c.name.length≤100000:=by omega
 have hN:=eY c.name;have eN:=bW c.name (by omega);clear ih;refine Tm (by simp) ?_;rcases Jr v1 with k|k|k|k|⟨k,k1,k2,k3⟩|⟨k,k1⟩|⟨k,k1⟩
 ·rw [show owC c=_ from by rw [Di,if_pos k]];simp [af,kz,kd k]
 ·rw [show owC c=_ from by rw [Di,if_neg (by omega),if_pos k]];simp [af,kz,kd k,kn 1 k rfl]
 ·rw [show owC c=owN c.name from by rw [Di,if_neg (by omega),if_neg (by omega),if_neg (by omega),if_neg (by omega),if_neg (by omega),if_neg (by omega)]];simp [af,kz,kn 1 k rfl,kn 2 k rfl,kn 4 k rfl,kn 5 k rfl,kn 6 k rfl,kn 7 k rfl,eN]
 ·rw [show owC c=_ from by rw [Di,if_neg (by omega),if_neg (by omega),if_pos k]];have e1:=eF wB8 [owN c.name] (by decide) (by simp [joinL];omega) (by simp);simp at e1;simp [af,kz,kd k,kn 1 k rfl,kn 2 k rfl,eN,e1]
 ·rw [show owC c=_ from by rw [Di,if_neg (by omega),if_neg (by omega),if_neg (by omega),if_neg (by omega),if_neg (by omega),if_pos k]];have l1:=Go.Lib.itoa_length_le c.lo (by omega) (by omega);have l2:=Go.Lib.itoa_length_le c.hi (by omega) (by omega);have e1:=PK wA0 c.lo (by decide) (by omega) (by omega);have e2:=PK wA3 c.hi (by decide) (by omega) (by omega);have e3:=eF wA5 [wA1,Bv wA0 c.lo,Bv wA3 c.hi] (by decide) (by simp [joinL,Bv,ttI];omega) (by simp);have e4:=eF wA8 [owN c.name,lN wA5 [wA1,Bv wA0 c.lo,Bv wA3 c.hi]] (by decide) (by simp [joinL,lN,Bv,ttI];omega) (by simp);generalize lN wA5 [wA1,Bv wA0 c.lo,Bv wA3 c.hi]=Z at *;simp at e3 e4;simp [af,kz,kd k,kn 1 k rfl,kn 2 k rfl,kn 4 k rfl,kn 5 k rfl,kn 6 k rfl,eN,e1,e2,e3,e4,List.range_succ]
 ·rcases hps:c.parts with _|⟨a,r⟩
  ·simp [hps] at k1
  ·have e1:=hO a (by simp [hps]);have l1:=hl a (by simp [hps]);have O:wC a≤1000:=by have:=Nl (p:=a) (l:=c.parts) (by simp [hps]);omega
   rw [show owC c=_ from by rw [Di,if_neg (by omega),if_neg (by omega),if_neg (by omega),if_neg (by omega),if_pos k]];have e4:=eF wA7 [owN c.name,owC a] (by decide) (by simp [joinL];omega) (by simp);simp at e4;simp [af,kz,kd k,kn 1 k rfl,kn 2 k rfl,kn 4 k rfl,kn 5 k rfl,eN,e1,e4,hps,List.range_succ]
 ·rw [show owC c=_ from by rw [Di,if_neg (by omega),if_neg (by omega),if_neg (by omega),if_pos k]];obtain ⟨j,h⟩:=Jd s ⟨s.length,s.length⟩ c (by omega) hO c.parts 0 [] rfl rfl;have hj:=D5 (c.parts.map owC) [32]
  have hs:((c.parts.map owC).map fun x=>x.length+([32]:Rl).length).sum≤300 * wL c.parts:=by
   clear hO h I J hN eN K A hw hj v3 k1;generalize c.parts=l at hl
   induction l with
   | nil=>simp [wL]
   | cons a r ih=>
    have h1:=hl a (by simp);have h2:=ih (fun p hp=>hl p (by simp [hp]));simp [wL] at h2 ⊢;omega
  have e1:=eF wA6 (c.parts.map owC) (by decide) (by omega) (by simp;omega);simp at h e1;simp [af,kz,kd k,kn 1 k rfl,kn 2 k rfl,kn 4 k rfl,h,e1]
end Go.Ai.Z
namespace Go.Ai.Z
open Go.Lib (itoa)
end Go.Ai.Z
namespace Go.Ai.Z
def fO:Rl:=wD2
def iC (x:Ax):List Rl:=if x.op=true then [fO] else []
def vM (k:Int):Rl:=
 if k=1 then wC3
 else if k=2 then wB3
 else if k=3 then wB6
 else if k=4 then wB2
 else if k=5 then wA4
 else if k=6 then wA4
 else if k=7 then wA9
 else if k=8 then wB9
 else wB0
def zI (x:Ax):List Rl:=
 if x.kind=1 then [owC x.left,owC x.right]
 else if x.kind=2 then [owC x.left,owC x.right]
 else if x.kind=3 then [owC x.left,owC x.right]
 else if x.kind=4 then [owN x.role,owC x.right]
 else if x.kind=5 then [owN (x.roles.headD []),owN x.role]
 else if x.kind=6 then [lN wA2 (x.roles.map owN),owN x.role]
 else if x.kind=7 then [owN x.role]
 else if x.kind=8 then [owC x.right,owN x.a]
 else [owN x.role,owN x.a,owN x.b]
def owA (x:Ax):Rl:=lN (vM x.kind) (iC x++zI x)
theorem Gl {c:C} (hw:wC c≤150) (hv:iL c=0):(owC c).length≤45000:=by have:=WN c hv;omega
theorem GK (s:St) (cx:Ctx) (z:Bool) (x:List Rl) (hl:x.length≤600) (hb:∀r∈x,r.length≤600) (V1 V4:List AV):
  ∀(O:List Rl) (i:Nat) (t:List Rl),x.drop i=O→t.length=i→
  ∃j:Int,gY (aB P0.glob (aj P0) cx false wY) [1,4,5,75,76,77] [(1,.bx V1),(4,.own false au 1 V4),(5,.own false au 1 (t.map .s)),(75,.v (slf z (x.map .s))),(76,.v (.i .i64 x.length)),(77,.v (.i .i64 i))] s=
   .exit 1 [(1,.bx V1),(4,.own false au 1 V4),(5,.own false au 1 ((t++O.map owN).map .s)),(75,.v (slf z (x.map .s))),(76,.v (.i .i64 x.length)),(77,.v (.i .i64 j)),(78,.v (.b false))] s
 | [],i,t,h,ht=>by
  have h1:¬i<x.length:=Nat.not_lt.2 (drop_nil h);refine ⟨i,ak fun K hK=>?_⟩;simp [wY,h1]
 | p::r,i,t,h,ht=>by
  obtain ⟨h1,h2,h3,h4⟩:=drop_cons h;have h5:=h4 h3;have hp:p∈x:=by rw [←h5];exact List.getElem_mem h3
  have I:=wI (i:=i) (by omega);have J:=hb p hp;obtain ⟨j,A⟩:=GK s cx z x hl hb V1 V4 r (i+1) (t++[owN p]) h2 (by simp [ht]);refine ⟨j,ak fun K hK=>?_⟩;rw [←hK] at A;have e1:=bW p (by omega);clear hK h4;simp at A;have hm:t.length+1≤aS:=by unfold aS;omega
  simp [wY,h3,h5,I,e1,hm,A,List.range_succ]
theorem ag8 (x:Ax) (hx:x.Few) (hg:x.Good) (k:x.kind=1) (s:St) (cx:Ctx):aj P0 (.fn (.func jT) [] []) [cu x] s cx=.ret (.s (owA x)) s:=by
 have J:1≤aS:=by decide
 have A:2≤aS:=by decide
 have I:3≤aS:=by decide
 have p:4≤aS:=by decide
 have a1:=eY x.role;have a2:=eY x.a;have a3:=eY x.b;have b1:=hx.role;have b2:=hx.a;have b3:=hx.b;have e1:=bW x.role (by omega);have e2:=bW x.a (by omega);have e3:=bW x.b (by omega);have vl:=hg.l (by simp [k]);have cl:=nY x.left (by have:=hx.l;omega) vl;have ll:=Gl hx.l vl;have vr:=hg.r (by simp [k]);have cr:=nY x.right (by have:=hx.r;omega) vr;have lr:=Gl hx.r vr
 have ho:owA x=lN wC3 (iC x++[owC x.left,owC x.right]):=by
  unfold owA vM zI;simp [k]
 rw [ho];cases hop:x.op
 ·have hn:iC x=[]:=by unfold iC;rw [hop];rfl
  rw [hn];have ec:=eF wC3 ([]++[owC x.left,owC x.right]) (by decide) (by simp [joinL,fO];omega) (by simp);simp [fO] at ec ⊢;refine fA (by simp) ?_;simp -implicitDefEqProofs [af,dK,cu,cellsA,k,hop,e1,e2,e3,ec,List.range_succ,J,A,I,p,cl,cr]
 ·have hn:iC x=[fO]:=by unfold iC;rw [hop];rfl
  rw [hn];have ec:=eF wC3 ([fO]++[owC x.left,owC x.right]) (by decide) (by simp [joinL,fO];omega) (by simp);simp [fO] at ec ⊢;refine fA (by simp) ?_;simp -implicitDefEqProofs [af,dK,cu,cellsA,k,hop,e1,e2,e3,ec,List.range_succ,J,A,I,p,cl,cr]
theorem ag7 (x:Ax) (hx:x.Few) (hg:x.Good) (k:x.kind=2) (s:St) (cx:Ctx):aj P0 (.fn (.func jT) [] []) [cu x] s cx=.ret (.s (owA x)) s:=by
 have J:1≤aS:=by decide
 have A:2≤aS:=by decide
 have I:3≤aS:=by decide
 have p:4≤aS:=by decide
 have a1:=eY x.role;have a2:=eY x.a;have a3:=eY x.b;have b1:=hx.role;have b2:=hx.a;have b3:=hx.b;have e1:=bW x.role (by omega);have e2:=bW x.a (by omega);have e3:=bW x.b (by omega);have vl:=hg.l (by simp [k]);have cl:=nY x.left (by have:=hx.l;omega) vl;have ll:=Gl hx.l vl;have vr:=hg.r (by simp [k]);have cr:=nY x.right (by have:=hx.r;omega) vr;have lr:=Gl hx.r vr
 have ho:owA x=lN wB3 (iC x++[owC x.left,owC x.right]):=by
  unfold owA vM zI;simp [k]
 rw [ho];cases hop:x.op
 ·have hn:iC x=[]:=by unfold iC;rw [hop];rfl
  rw [hn];have ec:=eF wB3 ([]++[owC x.left,owC x.right]) (by decide) (by simp [joinL,fO];omega) (by simp);simp [fO] at ec ⊢;refine fA (by simp) ?_;simp -implicitDefEqProofs [af,dK,cu,cellsA,k,hop,e1,e2,e3,ec,List.range_succ,J,A,I,p,cl,cr]
 ·have hn:iC x=[fO]:=by unfold iC;rw [hop];rfl
  rw [hn];have ec:=eF wB3 ([fO]++[owC x.left,owC x.right]) (by decide) (by simp [joinL,fO];omega) (by simp);simp [fO] at ec ⊢;refine fA (by simp) ?_;simp -implicitDefEqProofs [af,dK,cu,cellsA,k,hop,e1,e2,e3,ec,List.range_succ,J,A,I,p,cl,cr]
theorem ag6 (x:Ax) (hx:x.Few) (hg:x.Good) (k:x.kind=3) (s:St) (cx:Ctx):aj P0 (.fn (.func jT) [] []) [cu x] s cx=.ret (.s (owA x)) s:=by
 have J:1≤aS:=by decide
 have A:2≤aS:=by decide
 have I:3≤aS:=by decide
 have p:4≤aS:=by decide
 have a1:=eY x.role;have a2:=eY x.a;have a3:=eY x.b;have b1:=hx.role;have b2:=hx.a;have b3:=hx.b;have e1:=bW x.role (by omega);have e2:=bW x.a (by omega);have e3:=bW x.b (by omega);have vl:=hg.l (by simp [k]);have cl:=nY x.left (by have:=hx.l;omega) vl;have ll:=Gl hx.l vl;have vr:=hg.r (by simp [k]);have cr:=nY x.right (by have:=hx.r;omega) vr;have lr:=Gl hx.r vr
 have ho:owA x=lN wB6 (iC x++[owC x.left,owC x.right]):=by
  unfold owA vM zI;simp [k]
 rw [ho];cases hop:x.op
 ·have hn:iC x=[]:=by unfold iC;rw [hop];rfl
  rw [hn];have ec:=eF wB6 ([]++[owC x.left,owC x.right]) (by decide) (by simp [joinL,fO];omega) (by simp);simp [fO] at ec ⊢;refine fA (by simp) ?_;simp -implicitDefEqProofs [af,dK,cu,cellsA,k,hop,e1,e2,e3,ec,List.range_succ,J,A,I,p,cl,cr]
 ·have hn:iC x=[fO]:=by unfold iC;rw [hop];rfl
  rw [hn];have ec:=eF wB6 ([fO]++[owC x.left,owC x.right]) (by decide) (by simp [joinL,fO];omega) (by simp);simp [fO] at ec ⊢;refine fA (by simp) ?_;simp -implicitDefEqProofs [af,dK,cu,cellsA,k,hop,e1,e2,e3,ec,List.range_succ,J,A,I,p,cl,cr]
theorem ag5 (x:Ax) (hx:x.Few) (hg:x.Good) (k:x.kind=4) (s:St) (cx:Ctx):aj P0 (.fn (.func jT) [] []) [cu x] s cx=.ret (.s (owA x)) s:=by
 have J:1≤aS:=by decide
 have A:2≤aS:=by decide
 have I:3≤aS:=by decide
 have p:4≤aS:=by decide
 have a1:=eY x.role;have a2:=eY x.a;have a3:=eY x.b;have b1:=hx.role;have b2:=hx.a;have b3:=hx.b;have e1:=bW x.role (by omega);have e2:=bW x.a (by omega);have e3:=bW x.b (by omega);have vr:=hg.r (by simp [k]);have cr:=nY x.right (by have:=hx.r;omega) vr;have lr:=Gl hx.r vr
 have ho:owA x=lN wB2 (iC x++[owN x.role,owC x.right]):=by
  unfold owA vM zI;simp [k]
 rw [ho];cases hop:x.op
 ·have hn:iC x=[]:=by unfold iC;rw [hop];rfl
  rw [hn];have ec:=eF wB2 ([]++[owN x.role,owC x.right]) (by decide) (by simp [joinL,fO];omega) (by simp);simp [fO] at ec ⊢;refine fA (by simp) ?_;simp -implicitDefEqProofs [af,dK,cu,cellsA,k,hop,e1,e2,e3,ec,List.range_succ,J,A,I,p,cr]
 ·have hn:iC x=[fO]:=by unfold iC;rw [hop];rfl
  rw [hn];have ec:=eF wB2 ([fO]++[owN x.role,owC x.right]) (by decide) (by simp [joinL,fO];omega) (by simp);simp [fO] at ec ⊢;refine fA (by simp) ?_;simp -implicitDefEqProofs [af,dK,cu,cellsA,k,hop,e1,e2,e3,ec,List.range_succ,J,A,I,p,cr]
theorem ag4 (x:Ax) (hx:x.Few) (hg:x.Good) (k:x.kind=5) (s:St) (cx:Ctx):aj P0 (.fn (.func jT) [] []) [cu x] s cx=.ret (.s (owA x)) s:=by
 have K:1≤aS:=by decide
 have I:2≤aS:=by decide
 have J:3≤aS:=by decide
 have A:4≤aS:=by decide
 have a1:=eY x.role;have a2:=eY x.a;have a3:=eY x.b;have b1:=hx.role;have b2:=hx.a;have b3:=hx.b;have e1:=bW x.role (by omega);have e2:=bW x.a (by omega);have e3:=bW x.b (by omega)
 obtain ⟨r0,p⟩:∃r0,x.roles=[r0]:=by
  have:=hg.r5 k
  match hh:x.roles,this with
  | [r0],_=>exact ⟨r0,rfl⟩
 have br:=hx.rs r0 (by rw [p];simp);have ar:=eY r0;have e4:=bW r0 (by omega)
 have ho:owA x=lN wA4 (iC x++[owN (x.roles.headD []),owN x.role]):=by
  unfold owA vM zI;simp [k]
 rw [ho];cases hop:x.op
 ·have hn:iC x=[]:=by unfold iC;rw [hop];rfl
  rw [hn];rw [p];simp only [List.headD_cons];have ec:=eF wA4 ([]++[owN (r0),owN x.role]) (by decide) (by simp [joinL,fO];omega) (by simp);simp [fO] at ec ⊢;refine fA (by simp) ?_;simp -implicitDefEqProofs [af,dK,cu,cellsA,k,hop,e1,e2,e3,ec,List.range_succ,K,I,J,A,p,e4]
 ·have hn:iC x=[fO]:=by unfold iC;rw [hop];rfl
  rw [hn];rw [p];simp only [List.headD_cons];have ec:=eF wA4 ([fO]++[owN (r0),owN x.role]) (by decide) (by simp [joinL,fO];omega) (by simp);simp [fO] at ec ⊢;refine fA (by simp) ?_;simp -implicitDefEqProofs [af,dK,cu,cellsA,k,hop,e1,e2,e3,ec,List.range_succ,K,I,J,A,p,e4]
theorem ag3 (x:Ax) (hx:x.Few) (hg:x.Good) (k:x.kind=6) (s:St) (cx:Ctx):aj P0 (.fn (.func jT) [] []) [cu x] s cx=.ret (.s (owA x)) s:=by
 have K:1≤aS:=by decide
 have I:2≤aS:=by decide
 have J:3≤aS:=by decide
 have A:4≤aS:=by decide
 have a1:=eY x.role;have a2:=eY x.a;have a3:=eY x.b;have b1:=hx.role;have b2:=hx.a;have b3:=hx.b;have e1:=bW x.role (by omega);have e2:=bW x.a (by omega);have e3:=bW x.b (by omega)
 have ho:owA x=lN wA4 (iC x++[lN wA2 (x.roles.map owN),owN x.role]):=by
  unfold owA vM zI;simp [k]
 rw [ho];obtain ⟨h2,h4⟩:=hg.r6 k;have hj:=D5 (x.roles.map owN) [32]
 have O:((x.roles.map owN).map fun y=>y.length+([32]:Rl).length).sum≤602 * x.roles.length:=by
  have hb:=hx.rs;clear hj h2 h4 ho;generalize x.roles=l at hb
  induction l with
  | nil=>simp
  | cons a r ih=>
   have q1:=hb a (by simp);have q2:=ih (fun p hp=>hb p (by simp [hp]));have q3:=eY a;simp at q2 ⊢;omega
 have e5:=eF wA2 (x.roles.map owN) (by decide) (by omega) (by simp;omega);have P:(lN wA2 (x.roles.map owN)).length≤10000:=by unfold lN;simp;omega
 generalize lN wA2 (x.roles.map owN)=CH at *;cases hop:x.op
 ·have hn:iC x=[]:=by unfold iC;rw [hop];rfl
  rw [hn];obtain ⟨j,h⟩:=GK s ⟨s.length,s.length⟩ x.z x.roles (by omega) hx.rs (cellsA x) [] x.roles 0 [] rfl rfl;have ec:=eF wA4 ([]++[CH,owN x.role]) (by decide) (by simp [joinL,fO];omega) (by simp);simp [fO,cellsA,k,hop] at h;simp [fO] at ec e5 ⊢;refine fA (by simp) ?_;simp -implicitDefEqProofs [af,dK,cu,cellsA,k,hop,e1,e5,ec,h,List.range_succ,K,I,J,A]
 ·have hn:iC x=[fO]:=by unfold iC;rw [hop];rfl
  rw [hn];obtain ⟨j,h⟩:=GK s ⟨s.length,s.length⟩ x.z x.roles (by omega) hx.rs (cellsA x) [.s fO] x.roles 0 [] rfl rfl;have ec:=eF wA4 ([fO]++[CH,owN x.role]) (by decide) (by simp [joinL,fO];omega) (by simp);simp [fO,cellsA,k,hop] at h;simp [fO] at ec e5 ⊢;refine fA (by simp) ?_;simp -implicitDefEqProofs [af,dK,cu,cellsA,k,hop,e1,e5,ec,h,List.range_succ,K,I,J,A]
theorem ag2 (x:Ax) (hx:x.Few) (hg:x.Good) (k:x.kind=7) (s:St) (cx:Ctx):aj P0 (.fn (.func jT) [] []) [cu x] s cx=.ret (.s (owA x)) s:=by
 have J:1≤aS:=by decide
 have A:2≤aS:=by decide
 have I:3≤aS:=by decide
 have p:4≤aS:=by decide
 have a1:=eY x.role;have a2:=eY x.a;have a3:=eY x.b;have b1:=hx.role;have b2:=hx.a;have b3:=hx.b;have e1:=bW x.role (by omega);have e2:=bW x.a (by omega);have e3:=bW x.b (by omega)
 have ho:owA x=lN wA9 (iC x++[owN x.role]):=by
  unfold owA vM zI;simp [k]
 rw [ho];cases hop:x.op
 ·have hn:iC x=[]:=by unfold iC;rw [hop];rfl
  rw [hn];have ec:=eF wA9 ([]++[owN x.role]) (by decide) (by simp [joinL,fO];omega) (by simp);simp [fO] at ec ⊢;refine fA (by simp) ?_;simp -implicitDefEqProofs [af,dK,cu,cellsA,k,hop,e1,e2,e3,ec,List.range_succ,J,A,I,p]
 ·have hn:iC x=[fO]:=by unfold iC;rw [hop];rfl
  rw [hn];have ec:=eF wA9 ([fO]++[owN x.role]) (by decide) (by simp [joinL,fO];omega) (by simp);simp [fO] at ec ⊢;refine fA (by simp) ?_;simp -implicitDefEqProofs [af,dK,cu,cellsA,k,hop,e1,e2,e3,ec,List.range_succ,J,A,I,p]
theorem ag1 (x:Ax) (hx:x.Few) (hg:x.Good) (k:x.kind=8) (s:St) (cx:Ctx):aj P0 (.fn (.func jT) [] []) [cu x] s cx=.ret (.s (owA x)) s:=by
 have J:1≤aS:=by decide
 have A:2≤aS:=by decide
 have I:3≤aS:=by decide
 have p:4≤aS:=by decide
 have a1:=eY x.role;have a2:=eY x.a;have a3:=eY x.b;have b1:=hx.role;have b2:=hx.a;have b3:=hx.b;have e1:=bW x.role (by omega);have e2:=bW x.a (by omega);have e3:=bW x.b (by omega);have vr:=hg.r (by simp [k]);have cr:=nY x.right (by have:=hx.r;omega) vr;have lr:=Gl hx.r vr
 have ho:owA x=lN wB9 (iC x++[owC x.right,owN x.a]):=by
  unfold owA vM zI;simp [k]
 rw [ho];cases hop:x.op
 ·have hn:iC x=[]:=by unfold iC;rw [hop];rfl
  rw [hn];have ec:=eF wB9 ([]++[owC x.right,owN x.a]) (by decide) (by simp [joinL,fO];omega) (by simp);simp [fO] at ec ⊢;refine fA (by simp) ?_;simp -implicitDefEqProofs [af,dK,cu,cellsA,k,hop,e1,e2,e3,ec,List.range_succ,J,A,I,p,cr]
 ·have hn:iC x=[fO]:=by unfold iC;rw [hop];rfl
  rw [hn];have ec:=eF wB9 ([fO]++[owC x.right,owN x.a]) (by decide) (by simp [joinL,fO];omega) (by simp);simp [fO] at ec ⊢;refine fA (by simp) ?_;simp -implicitDefEqProofs [af,dK,cu,cellsA,k,hop,e1,e2,e3,ec,List.range_succ,J,A,I,p,cr]
theorem ag0 (x:Ax) (hx:x.Few) (hg:x.Good) (k:x.kind=9) (s:St) (cx:Ctx):aj P0 (.fn (.func jT) [] []) [cu x] s cx=.ret (.s (owA x)) s:=by
 have J:1≤aS:=by decide
 have A:2≤aS:=by decide
 have I:3≤aS:=by decide
 have p:4≤aS:=by decide
 have a1:=eY x.role;have a2:=eY x.a;have a3:=eY x.b;have b1:=hx.role;have b2:=hx.a;have b3:=hx.b;have e1:=bW x.role (by omega);have e2:=bW x.a (by omega);have e3:=bW x.b (by omega)
 have ho:owA x=lN wB0 (iC x++[owN x.role,owN x.a,owN x.b]):=by
  unfold owA vM zI;simp [k]
 rw [ho];cases hop:x.op
 ·have hn:iC x=[]:=by unfold iC;rw [hop];rfl
  rw [hn];have ec:=eF wB0 ([]++[owN x.role,owN x.a,owN x.b]) (by decide) (by simp [joinL,fO];omega) (by simp);simp [fO] at ec ⊢;refine fA (by simp) ?_;simp -implicitDefEqProofs [af,dK,cu,cellsA,k,hop,e1,e2,e3,ec,List.range_succ,J,A,I,p]
 ·have hn:iC x=[fO]:=by unfold iC;rw [hop];rfl
  rw [hn];have ec:=eF wB0 ([fO]++[owN x.role,owN x.a,owN x.b]) (by decide) (by simp [joinL,fO];omega) (by simp);simp [fO] at ec ⊢;refine fA (by simp) ?_;simp -implicitDefEqProofs [af,dK,cu,cellsA,k,hop,e1,e2,e3,ec,List.range_succ,J,A,I,p]
theorem Zl (x:Ax) (hx:x.Few) (hg:x.Good) (s:St) (cx:Ctx):aj P0 (.fn (.func jT) [] []) [cu x] s cx=.ret (.s (owA x)) s:=by
 rcases hg.k with k|k|k|k|k|k|k|k|k
 ·exact ag8 x hx hg k s cx
 ·exact ag7 x hx hg k s cx
 ·exact ag6 x hx hg k s cx
 ·exact ag5 x hx hg k s cx
 ·exact ag4 x hx hg k s cx
 ·exact ag3 x hx hg k s cx
 ·exact ag2 x hx hg k s cx
 ·exact ag1 x hx hg k s cx
 ·exact ag0 x hx hg k s cx
def ah2 (n:Rl):Prop:=KG n=[] ↔ (58:UInt8) ∉ n
structure Ax.Nm (x:Ax):Prop where
 role:x.kind=4∨x.kind=5∨x.kind=6∨x.kind=7∨x.kind=9→ah2 x.role
 rs:∀r∈x.roles,ah2 r
 a:x.kind=8∨x.kind=9→ah2 x.a
 b:x.kind=9→ah2 x.b
theorem V5:∀{l:List Rl},allPlain l=true→∀r∈l,oV r=true
 | [],_,_,h=>by simp at h
 | a::l,hl,r,h=>by
  simp only [allPlain,Bool.and_eq_true] at hl;rcases List.mem_cons.1 h with rfl|h
  ·exact hl.1
  ·exact V5 hl.2 r h
theorem abB (z:Bool) (l:List Ax) (hl:l.length≤1024) (hx:∀x∈l,x.Few) (s:St) (cx:Ctx):
  ∀(p:List Ax) (i:Nat),l.drop i=p→zS p≠0→
  gY (aB P0.glob (aj P0) cx false iH) [0,2,3,21,22,23]
   [(0,.v (slf z (l.map cu))),(2,.bx [.ns,.ns,.ns,.ns]),(3,.v (.i .i64 0)),(21,.v (slf z (l.map cu))),(22,.v (.i .i64 l.length)),(23,.v (.i .i64 i))] s=
   .ret [(2,.bx [.ns,.ns,.ns,.ns]),(3,.v (.i .i64 (zS p)))] s
 | [],i,h,hn=>absurd rfl hn
 | x::p,i,h,hn=>by
  obtain ⟨g1,g2,g3,g4⟩:=drop_cons h;have g5:=g4 g3;have A:=wI (i:=i) (by omega);have hm:x∈l:=by rw [←g5];exact List.getElem_mem g3
  have e1:=BD x (hx x hm);by_cases h0:fH x=0
  ·have ih:=abB z l hl hx s cx p (i+1) g2 (by rw [zS,if_pos h0] at hn;exact hn);refine ak fun K hK=>?_;rw [←hK,show ((i+1:Nat):Int)=(i:Int)+1 from rfl] at ih;clear hK g4 hx;have hc:zS (x::p)=zS p:=by rw [zS,if_pos h0]
   rw [hc,←ih];rw [h0] at e1;simp -implicitDefEqProofs [iH,g3,g5,A,e1]
  ·refine ak fun K hK=>?_;clear hK g4 hx;have hc:zS (x::p)=fH x:=by rw [zS,if_neg h0]
   rw [hc];simp -implicitDefEqProofs [iH,g3,g5,A,e1,h0,dU,splice]
theorem IW (z:Bool) (l:List Ax) (hl:l.length≤1024) (hx:∀x∈l,x.Few) (h0:zS l≠0) (s:St) (cx:Ctx):
  aj P0 (.fn (.func lW) [] []) [slf z (l.map cu)] s cx=.ret (.tu [.ag [.ns,.ns,.ns,.ns],.i .i64 (zS l)]) s:=by
 have e0:=abB z l (by omega) hx s ⟨s.length,s.length⟩ l 0 rfl h0;refine Af (by simp) ?_;simp at e0;simp -implicitDefEqProofs [af,nI,e0]
def oW (a:Rl):List Rl→List Rl
 | []=>[]
 | b::r=>if b=a then oW b r else b::oW b r
def gu:List Rl→List Rl
 | []=>[]
 | a::r=>a::oW a r
theorem E5:∀(a:Rl) (l:List Rl),(oW a l).Sublist l
 | a,[]=>.slnil
 | a,b::r=>by
  unfold oW;split
  ·exact (E5 b r).cons _
  ·exact (E5 b r).cons_cons _
theorem VT:∀l:List Rl,(gu l).Sublist l
 | []=>.slnil
 | a::r=>(E5 a r).cons_cons _
theorem TT (a:Rl):∀(l:List Rl) (b:Rl),oW a (l++[b])=if b=l.getLastD a then oW a l else oW a l++[b]
 | [],b=>by simp [oW]
 | x::l,b=>by
  simp only [List.cons_append,oW];have h:=TT x l b;have hl:(x::l).getLastD a=l.getLastD x:=List.getLastD_cons;rw [h,hl]
  split<;>split<;>rfl
theorem TQ (L:List Rl) (j:Nat) (h:j+1<L.length):gu (L.take (j+2))=if L[j+1]=L[j] then gu (L.take (j+1)) else gu (L.take (j+1))++[L[j+1]]:=by
 have h1:L.take (j+2)=L.take (j+1)++[L[j+1]]:=List.take_succ_eq_append_getElem h;rw [h1]
 have h2:∃a r,L.take (j+1)=a::r∧r.getLastD a=L[j]:=by
  have h3:L.take (j+1)=L.take j++[L[j]]:=List.take_succ_eq_append_getElem (by omega);rw [h3]
  cases hL:L.take j with
  | nil=>exact ⟨_,_,rfl,rfl⟩
  | cons a r=>exact ⟨a,r++[L[j]],rfl,by simp⟩
 obtain ⟨a,r,e1,e2⟩:=h2;rw [e1];simp only [List.cons_append,gu,TT,e2]
 split<;>rfl
theorem Y9 (l:List Rl):(gu l).length≤l.length:=(VT l).length_le
@[simp] theorem ajj {env:Env} {l ver sz o n:Nat}:wE env (some (.v (.sk l ver sz o n)))=none:=rfl
section
variable (L:List Rl) (hL:L.length≤200000) (s:St) (cx:Ctx) (l t ver:Nat) (hl:l<s.length) (hlim:cx.lim≤l) (hbase:cx.base≤l)
include hL hl hlim hbase
theorem O6 (k0:Nat) (a1:1≤k0):∀(d q:Nat),k0+q+1+d=L.length→(gu (L.take (k0+q+1))).length≤k0+q→
  ∃k2:Int,gY (aB P0.glob (aj P0) cx true eU) [0,3,4,5]
   [(0,.v (.sk l ver 1 0 L.length)),(3,.v (.i .i64 (gu (L.take (k0+q+1))).length)),(4,.v (.sk l ver 1 k0 (L.length - k0))),(5,.v (.i .i64 ((q+1:Nat):Int)))]
   (s.set l (.buf t 1 ver ((gu (L.take (k0+q+1))++L.drop (gu (L.take (k0+q+1))).length).map .s)))=
   .exit 2 [(0,.v (.sk l ver 1 0 L.length)),(3,.v (.i .i64 (gu L).length)),(4,.v (.sk l ver 1 k0 (L.length - k0))),(5,.v (.i .i64 k2)),(32,.v (.b false))]
   (s.set l (.buf t 1 ver ((gu L++L.drop (gu L).length).map .s)))
 | 0,q,hd,hq=>by
  have h1:L.take (k0+q+1)=L:=List.take_of_length_le (by omega);have h2:¬(q+1<L.length - k0):=by omega
  refine ⟨((q+1:Nat):Int),ak fun K hK=>?_⟩;rw [h1];simp [eU,h2]
  repeat' (first | (split<;>(try simp only [gG,gI,gQ,kE,kF])<;>(try simp [*])) | (simp only [gG,gI,gQ,kE,kF]<;>(try simp [*]))|omega)
 | d+1,q,hd,hq=>by
  have hj:k0+q+1<L.length:=by omega
  have I:=TQ L (k0+q) hj
  obtain ⟨k2,ih⟩:=O6 k0 a1 d (q+1) (by omega) (by
   rw [show k0+(q+1)+1=k0+q+2 by omega,I];split
   ·omega
   ·simp;omega)
  refine ⟨k2,ak fun K hK=>?_⟩;rw [←hK] at ih;clear hK;have a0:=hq;rw [show k0+(q+1)+1=k0+q+2 by omega,I] at ih;generalize hW:gu (L.take (k0+q+1))=W at ih a0;have h2:q+1<L.length - k0:=by omega
  generalize hM:W++L.drop W.length=M;have a2:M.length=L.length:=by rw [←hM];simp;omega
  have hg:∀i,W.length≤i→i<L.length→M[i]?=L[i]?:=by
   intro i h3 h4;rw [←hM,List.getElem?_append_right h3,List.getElem?_drop];congr 1;omega
  have Z:M[k0+(q+1)]?=some L[k0+q+1]:=by
   rw [hg _ (by omega) (by omega),List.getElem?_eq_getElem (by omega:k0+(q+1)<L.length)];rfl
  have S:M[k0+q]?=some L[k0+q]:=by
   rw [hg _ (by omega) (by omega),List.getElem?_eq_getElem (by omega:k0+q<L.length)]
  have hs:splice (M.map AV.s) W.length [.s L[k0+q+1]]=(M.set W.length L[k0+q+1]).map .s:=by
   simp only [splice,List.length_cons,List.length_nil,←List.map_take,←List.map_drop];rw [List.set_eq_take_append_cons_drop,if_pos (by omega)];simp
  have p:M.set W.length L[k0+q+1]=(W++[L[k0+q+1]])++L.drop (W++[L[k0+q+1]]).length:=by
   rw [←hM];have h3:L.drop W.length=L[W.length]'(by omega)::L.drop (W.length+1):=List.drop_eq_getElem_cons (by omega);rw [h3,List.set_append_right _ _ (Nat.le_refl _),Nat.sub_self,List.set_cons_zero];simp
  rw [p] at hs
  have x:IntKind.i64.wrap (q:Int)=(q:Int):=by rw [w64]<;>omega
  have A:IntKind.i64.wrap ((q:Int)+1+1)=(q:Int)+1+1:=by rw [w64]<;>omega
  have P:(q:Int)+1<((L.length - k0:Nat):Int):=by omega
  have O:q<L.length - k0:=by omega
  have J:(0:Int)≤(q:Int)+1:=by omega
  have Q:W.length<L.length:=by omega
  have Y:=wI (i:=W.length) (by omega);have R:W.length+1≤M.length:=by omega
  clear I hq hW hg p;by_cases hc:L[k0+q+1]=L[k0+q]
  ·rw [if_pos hc,hM] at ih;simp [eU,J,Q,h2,P,O,hl,Z,S,x,A,hc] at ih ⊢;exact ih
  ·rw [if_neg hc] at ih;simp [eU,J,Q,h2,P,O,hl,Z,S,x,A,Y,hc,R,hlim,hbase] at ih ⊢;simp [splice] at hs;rw [hs];exact ih
def zX (L:List Rl):List AV:=(gu L).map AV.s++List.replicate (L.length - (gu L).length) (AV.s [])
theorem O7:∀(d k:Nat),k+1+d=L.length→gu (L.take (k+1))=L.take (k+1)→
  gY (aB P0.glob (aj P0) cx true eX) [0,3]
   [(0,.v (.sk l ver 1 0 L.length)),(3,.v (.i .i64 ((k+1:Nat):Int)))] (s.set l (.buf t 1 ver (L.map .s)))=
   if (gu L).length=L.length then .exit 0 [(0,.v (.sk l ver 1 0 L.length)),(3,.v (.i .i64 L.length)),(13,.v (.b false))] (s.set l (.buf t 1 ver (zX L)))
   else .ret [(2,.v (.sk l ver 1 0 (gu L).length))] (s.set l (.buf t 1 ver (zX L)))
 | 0,k,hd,hc=>by
  have h1:L.take (k+1)=L:=List.take_of_length_le (by omega);rw [h1] at hc;have h2:¬((k:Int)+1<(L.length:Int)):=by omega
  have h3:(k:Int)+1=(L.length:Int):=by omega
  refine ak fun K hK=>?_;simp [eX,h2,hc,zX];exact h3
 | d+1,k,hd,hcm=>by
  have hj:k+1<L.length:=by omega
  have p:=TQ L k hj;refine ak fun K hK=>?_;have h2:(k:Int)+1<(L.length:Int):=by omega
  have a1:L[k+1]?=some L[k+1]:=List.getElem?_eq_getElem hj;have a5:L[k]?=some L[k]:=List.getElem?_eq_getElem (by omega)
  have Q:IntKind.i64.wrap (k:Int)=(k:Int):=by rw [w64]<;>omega
  have a3:IntKind.i64.wrap ((k:Int)+1+1)=(k:Int)+1+1:=by rw [w64]<;>omega
  have W:k<L.length:=by omega
  have a6:(0:Int)≤(k:Int)+1:=by omega
  by_cases hc:L[k+1]=L[k]
  ·-- the first repetition: the inner loop
   rw [if_pos hc,hcm] at p
   have Y:¬(gu L).length=L.length:=by
    intro a8;have he:gu L=L:=(VT L).eq_of_length a8
    have h3:(gu (L.take (k+2))).length=k+2:=by
     have h4:∀(a:Rl) (x y:List Rl),oW a (x++y)=x++y→oW a x=x:=by
      intro a x
      induction x generalizing a with
      | nil=>intro y _;rfl
      | cons b x ih=>
       intro y h5;simp only [List.cons_append,oW] at h5 ⊢
       split at h5
       ·have:=(E5 b (x++y)).length_le
        rw [h5] at this;simp at this;omega
       ·rename_i h6;rw [if_neg h6];injection h5 with _ h7;rw [ih b y h7]
     have h5:gu (L.take (k+2)++L.drop (k+2))=L.take (k+2)++L.drop (k+2):=by rw [List.take_append_drop];exact he
     have h6:gu (L.take (k+2))=L.take (k+2):=by
      cases hx:L.take (k+2) with
      | nil=>rfl
      | cons a x=>
       rw [hx] at h5;simp only [List.cons_append,gu] at h5 ⊢;injection h5 with _ h7;rw [h4 a x _ h7]
     rw [h6];simp;omega
    rw [p] at h3;simp at h3;omega
   obtain ⟨k2,J⟩:=O6 L hL s cx l t ver hl hlim hbase (k+1) (by omega) (L.length - (k+2)) 0 (by omega) (by
    show (gu (L.take (k+2))).length≤_
    rw [p];simp;omega)
   have Z:gu (L.take (k+1+0+1))=L.take (k+1):=p;rw [Z] at J
   have a2:L.take (k+1)++L.drop (L.take (k+1)).length=L:=by
    rw [List.length_take,Nat.min_eq_left (by omega)];exact List.take_append_drop _ _
   rw [a2,List.length_take,Nat.min_eq_left (by omega)] at J;have a7:=Y9 L;have a4:(gu L).length<L.length:=by omega
   rw [if_neg Y];obtain ⟨m,hm⟩:∃m,L.length - (gu L).length=m+1:=⟨L.length - (gu L).length - 1,by omega⟩;have A:zX L=(gu L).map AV.s++List.replicate (m+1) (AV.s []):=by rw [zX,hm]
   have I:splice ((gu L++L.drop (gu L).length).map AV.s) (gu L).length (List.replicate (m+1) (AV.s []))=zX L:=by
    rw [A];unfold splice;rw [List.map_append,List.take_left' (by simp),List.drop_of_length_le (by simp;omega),List.append_nil]
   have P:(List.replicate (m+1) [AV.s []]).flatten=List.replicate (m+1) (AV.s []):=by
    generalize m+1=r
    induction r with
    | zero=>rfl
    | succ r ih=>simp [List.replicate_succ,ih]
   have a0:(gu L).length+(m+1)≤L.length:=by omega
   have R:(gu L).length≤L.length:=a7;clear p hcm Z a2 A Y a4 hK;generalize hX:List.replicate (m+1) (AV.s [])=X at I P;simp [eX,a6,h2,W,hj,hl,a1,a5,Q,hc] at J ⊢;have a9:k+1≤L.length:=by omega
   have S:(gu L).length+(m+1)≤(gu L).length+(L.length - (gu L).length):=by omega
   simp [a9,J,hl,R,hm,P,hX,a0,S,hlim,hbase];simp [splice] at I;rw [I]
  ·have O:gu (L.take (k+2))=L.take (k+2):=by
    rw [p,if_neg hc,hcm];exact (List.take_succ_eq_append_getElem hj).symm
   have ih:=O7 d (k+1) (by omega) O;rw [←hK] at ih;clear hK p O hcm;simp [eX,a6,h2,W,hj,hl,a1,a5,Q,a3,hc] at ih ⊢;exact ih
theorem aaU (m:Nat) (hm:m=L.length) (hs:s[l]?=some (.buf t 1 ver (L.map .s))):
  aj P0 (.fn (.func eH) [] []) [.sk l ver 1 0 m] s cx=.ret (.sk l ver 1 0 (gu L).length) (s.set l (.buf t 1 ver (zX L))):=by
 subst hm
 have p:s.set l (.buf t 1 ver (L.map .s))=s:=by
  apply List.ext_getElem?;intro i;by_cases hi:l=i
  ·subst hi;rw [List.getElem?_set_self hl,hs]
  ·rw [List.getElem?_set_ne hi]
 refine qF (by simp) ?_
 match L,hL with
 | [],_=>
  have h1:zX []=([]:List Rl).map .s:=by simp [zX,gu]
  rw [h1,p];simp [af,bJ,gu]
 | [a],_=>
  have h1:zX [a]=[a].map .s:=by simp [zX,gu,oW]
  rw [h1,p];simp [af,bJ,gu,oW]
 | a::b::r,hL=>
  have h:=O7 (a::b::r) hL s ⟨cx.lim,cx.base⟩ l t ver hl hlim hbase r.length.succ 0 (by simp;omega) (by simp [gu,oW]);rw [p] at h;have h2:¬((a::b::r).length:Int)<2:=by simp;omega
  by_cases hc:(gu (a::b::r)).length=(a::b::r).length
  ·rw [if_pos hc] at h;simp only [Nat.zero_add] at h;generalize hX:a::b::r=X at *;simp at h;simp [af,bJ,h2,h,hc]
  ·rw [if_neg hc] at h;simp only [Nat.zero_add] at h;generalize hX:a::b::r=X at *;simp at h;simp [af,bJ,h2,h]
end
def aaV (n:Nat):List Rl→AV
 | []=>.ns
 | _::r=>.sk n r.length 1 0 (r.length+1)
def Zz:List Rl→St
 | []=>[]
 | a::r=>[.buf au 1 r.length ((a::r).map .s)]
theorem aaR (V:List Rl) (hV:V.length≤300000) (s:St) (cx:Ctx) (l t ver:Nat) (hs:s[l]?=some (.buf t 1 ver (V.map .s))) (Q:cx.lim≤l) (P:cx.base≤l):
  aj P0 (.fn (.func kT) [] []) [.sk l ver 1 0 V.length] s cx=.ret (.tu []) (s.set l (.buf t 1 ver ((Go.Ai.sortStr V).map .s))):=by
 refine OA (A:=P0) (k:=.sortS) rfl rfl (by simp) ?_
 cases V with
 | nil=>
  have I:s.set l (.buf t 1 ver (([]:List Rl).map .s))=s:=by
   apply List.ext_getElem?;intro i;by_cases hi:l=i
   ·subst hi;rw [List.getElem?_set_self (List.getElem?_eq_some_iff.1 hs).1,hs]
   ·rw [List.getElem?_set_ne hi]
  simp only [Go.Ai.sortStr];rw [I];simp [lU]
 | cons a r=>
  have hm:∀l:List Rl,(l.map AV.s).mapM strOf=some l:=by
   intro l
   induction l with
   | nil=>rfl
   | cons x l ih=>simp only [List.map_cons,List.mapM_cons,ih,strOf];rfl
  have J:(Go.Ai.sortStr (a::r)).length=r.length+1:=(rX (a::r)).length_eq
  have p:ver=ver∧(1:Nat)=1∧(1:Nat)=1∧0+(r.length+1)≤((a::r).map AV.s).length∧r.length<aS∧cx.lim≤l∧cx.base≤l:=
   ⟨rfl,rfl,rfl,by simp,by unfold aS;simp at hV;omega,Q,P⟩
  have O:(((a::r).map AV.s).drop 0).take (r.length+1)=(a::r).map AV.s:=by rw [List.drop_zero,List.take_of_length_le (by simp)]
  have K:splice ((a::r).map AV.s) 0 ((Go.Ai.sortStr (a::r)).map AV.s)=(Go.Ai.sortStr (a::r)).map AV.s:=by
   unfold splice;rw [List.take_zero,List.nil_append,List.drop_of_length_le (by simp [J]),List.append_nil]
  show lU (aj P0) (aj P0.quiet) .sortS [.sk l ver 1 0 (r.length+1)] s cx=_;unfold lU;dsimp only;rw [hs];dsimp only;rw [if_pos p,O,hm];dsimp only;rw [K]
theorem ahr {S:St} {n m:Nat} {a:AV} (h:a.under n=true):AL S n m a=some a:=by
 cases m<;>simp [AL,h]
theorem Yq {F:AV→Option AV}:∀{l:List AV},(∀a∈l,F a=some a)→l.mapM F=some l
 | [],_=>by simp
 | a::l,h=>by
  simp only [List.mapM_cons,Option.bind_eq_bind,Option.pure_def,h a (by simp),Yq (l:=l) (fun b hb=>h b (by simp [hb]))];rfl
theorem abK {s:St} {t ver:Nat} (M:List Rl) (hM:M≠[]) (Z:List AV):frz (s++[.buf t 1 ver (M.map .s++Z)]) s.length (.sk s.length ver 1 0 M.length)=some (.sl (M.map .s)):=by
 have h1:(AV.sk s.length ver 1 0 M.length).under s.length=false:=by simp [AV.under]
 have ht:(M.map AV.s++Z).take (M.length * 1)=M.map AV.s:=by rw [Nat.mul_one,List.take_left' (by simp)]
 have hm:(M.map AV.s).mapM (AL (s++[.buf t 1 ver (M.map .s++Z)]) s.length 5)=some (M.map AV.s):=Yq fun a ha=>ahr (by
  obtain ⟨x,_,rfl⟩:=List.mem_map.1 ha;simp)
 have ho:(M.map AV.s).all AV.one=true:=List.all_eq_true.2 fun a ha=>by obtain ⟨x,_,rfl⟩:=List.mem_map.1 ha;rfl
 have hc:∀N:List Rl,chunk 1 N.length (N.map AV.s)=N.map .s:=by
  intro N
  induction N with
  | nil=>rfl
  | cons x N ih=>simp only [List.length_cons,List.map_cons,chunk,if_true,List.drop_succ_cons,List.drop_zero,ih];rfl
 rw [frz,if_neg (by rw [h1];exact Bool.false_ne_true),AL,if_neg (by rw [h1];exact Bool.false_ne_true)];simp only [List.getElem?_append_right (Nat.le_refl _),Nat.sub_self,List.getElem?_cons_zero];rw [if_pos (by simp),List.drop_zero,ht,hm];show (if _ then _ else _)=_;rw [if_pos ⟨by omega,ho⟩,hc]
theorem UZ (s:St) (cx:Ctx):aj P0 (.fn (.func eH) [] []) [.ns] s cx=.ret .ns s:=by
 refine qF (by simp) ?_;simp [af,bJ]
theorem UR (s:St) (cx:Ctx):aj P0 (.fn (.func kT) [] []) [.ns] s cx=.ret (.tu []) s:=
 OA (A:=P0) (k:=.sortS) rfl rfl (by simp) (by simp [lU])
theorem Yw (l:List Rl) (x:Rl) (hl:l.length≤1000000) (v:AV) (hv:v=.sl (l.map .s)∨(v=.ns∧l=[])) (s:St) (cx:Ctx):
  ∀(J:List Rl) (i:Nat),l.drop i=J→
  ∃j:Nat,gY (aB P0.glob (aj P0) cx false fQ) [0,1,7,8] [(0,.v v),(1,.v (.s x)),(7,.v (.i .i64 l.length)),(8,.v (.i .i64 i))] s=
   if x∈J then .ret [(4,.v (.i .i64 (j:Int)))] s else .exit 0 [(0,.v v),(1,.v (.s x)),(7,.v (.i .i64 l.length)),(8,.v (.i .i64 (j:Int))),(9,.v (.b false))] s
 | [],i,h=>by
  have h1:¬i<l.length:=Nat.not_lt.2 (drop_nil h);refine ⟨i,ak fun K hK=>?_⟩;simp [fQ,h1]
 | p::r,i,h=>by
  obtain ⟨h1,h2,h3,h4⟩:=drop_cons h;have h5:=h4 h3;have hw:=wI (i:=i) (by omega)
  have I:v=.sl (l.map .s):=by
   rcases hv with h|⟨_,h⟩
   ·exact h
   ·subst h;simp at h3
  subst I;by_cases hp:p=x
  ·refine ⟨i,ak fun K hK=>?_⟩;clear h4;simp [fQ,h3,h5,hw,hp]
  ·obtain ⟨j,ih⟩:=Yw l x hl _ (.inl rfl) s cx r (i+1) h2;have A:¬x=p:=fun h=>hp h.symm;refine ⟨j,ak fun K hK=>?_⟩;rw [←hK,show ((i+1:Nat):Int)=(i:Int)+1 from rfl] at ih;clear hK h4
   try simp at ih
   simp [fQ,h3,h5,hw,hp,A,ih]
theorem PL (l:List Rl) (x:Rl) (hl:l.length≤1000000) (v:AV) (hv:v=.sl (l.map .s)∨(v=.ns∧l=[])) (s:St) (cx:Ctx):
  aj P0 (.fn (.func dY) [] []) [v,.s x] s cx=.ret (.b (decide (x∈l))) s:=by
 have key:∃n:Int,(0≤n ↔ x∈l)∧∀cx,aj P0 (.fn (.func iR) [] []) [v,.s x] s cx=.ret (.i .i64 n) s:=by
  obtain ⟨j,h⟩:=Yw l x hl v hv s ⟨s.length,s.length⟩ l 0 rfl
  have A:wE [(6,.v v),(0,.v v),(1,.v (.s x))] (some (.v v))=some (l.map .s):=by
   rcases hv with h|⟨h,h'⟩
   ·subst h;rfl
   ·subst h h';rfl
  rw [show ((0:Nat):Int)=0 from rfl] at h;by_cases hx:x∈l
  ·rw [if_pos hx] at h;refine ⟨j,by simp [hx],fun cx=>rQ (by simp) ?_⟩;rcases hv with h' | ⟨h',p⟩
   ·subst h'
    try simp at h
    simp [af,fB,h]
   ·subst p;cases hx
  ·rw [if_neg hx] at h;refine ⟨-1,by simp [hx],fun cx=>rQ (by simp) ?_⟩;rcases hv with h' | ⟨h',p⟩
   ·subst h'
    try simp at h
    simp [af,fB,h]
   ·subst h' p
    try simp at h
    simp [af,fB,h]
 obtain ⟨n,hn,h⟩:=key;refine yt (by simp) ?_
 have hd:decide (x∈l)=decide (0≤n):=by by_cases hx:x∈l<;>simp [hx,hn]
 rw [hd];rcases hv with h' | ⟨h',p⟩
 ·subst h';simp [af,fU,h]
 ·subst h';simp [af,fU,h]
theorem ajB (n:Nat) (h1:0<n) (h2:n≤1000000) (s:St) (cx:Ctx):
  aj P0 (.fn (.func gX) [] []) [.ns,.i .i64 n] s cx=.ret (.sk s.length 0 1 0 0) (s++[.buf au 1 0 (List.replicate n [AV.s []]).flatten]):=by
 refine tN (by simp) ?_;have q1:¬(n:Int)<0:=by omega
 have q2:(0:Int)<n:=by omega
 have q3:n≤16777216:=by omega
 have q4:IntKind.i64.wrap (n:Int)=n:=w64 (by omega) (by omega);have q5:IntKind.i64.wrap (0:Int)=0:=by decide
 simp [af,iM,q1,q2,q3,q4,q5,h1]
theorem agP (l:List Rl):slS l=slf true (l.map .s):=by cases l<;>rfl
def qQ (l:List Rl):AV:=slf true (l.map .s)
def Dh:List (List Rl)→Nat
 | []=>0
 | a::r=>a.length+Dh r
theorem U5:∀LL:List (List Rl),LL.flatten.length=Dh LL
 | []=>rfl
 | a::r=>by simp [Dh,U5 r]
@[simp] theorem aiR (l:List Rl):(qQ l).plain=qQ l:=by cases l<;>rfl
@[simp] theorem aif (l:List Rl):(qQ l).plain1=qQ l:=by cases l<;>rfl
@[simp] theorem alx (l:List Rl):(qQ l).one=true:=by cases l<;>rfl
@[simp] theorem aiT (l:List Rl):(qQ l).cells=[qQ l]:=by cases l<;>rfl
@[simp] theorem aiS (l:List Rl) (env:Env):wE env (some (.v (qQ l)))=some (l.map .s):=by cases l<;>rfl
theorem adC (V:List Rl):(V.map AV.s).all (fun e=>e.cells.length == 1)=true:=by simp
section
variable (LL:List (List Rl)) (hL:LL.length≤1000) (hT:Dh LL≤200000) (s:St) (cx:Ctx)
include hL
theorem ail:∀(x:List (List Rl)) (k n:Nat),LL.drop k=x→k≤LL.length→n+Dh x≤200000→
  gY (aB P0.glob (aj P0) cx false iU) [0,3,9,10,11] [(0,.v (.sl (LL.map qQ))),(3,.v (.i .i64 n)),(9,.v (.sl (LL.map qQ))),(10,.v (.i .i64 LL.length)),(11,.v (.i .i64 k))] s=
   .exit 0 [(0,.v (.sl (LL.map qQ))),(3,.v (.i .i64 ((n+Dh x:Nat):Int))),(9,.v (.sl (LL.map qQ))),(10,.v (.i .i64 LL.length)),(11,.v (.i .i64 LL.length)),(12,.v (.b false))] s
 | [],k,n,h,hk,hn=>by
  have h1:¬k<LL.length:=Nat.not_lt.2 (drop_nil h);have h2:k=LL.length:=by omega
  refine ak fun K hK=>?_;simp [iU,h2,Dh]
 | p::r,k,n,h,hk,hn=>by
  obtain ⟨h1,h2,h3,h4⟩:=drop_cons h;have h5:=h4 h3;have hw:=wI (i:=k) (by omega);simp only [Dh] at hn;have ih:=ail r (k+1) (n+p.length) h2 (by omega) (by omega);have w1:IntKind.i64.wrap ((n:Int)+p.length)=n+p.length:=w64 (by omega) (by omega);have q1:¬(n:Int)+p.length<0:=by omega
  refine ak fun K hK=>?_;rw [←hK,show ((k+1:Nat):Int)=(k:Int)+1 from rfl,show ((n+p.length:Nat):Int)=(n:Int)+p.length by omega] at ih;clear hK h4;rw [show n+Dh (p::r)=n+p.length+Dh r by simp [Dh];omega];simp [iU,h3,h5,hw,w1,q1,ih]
theorem ae7 (A:cx.lim≤s.length):∀(Q:List (List Rl)) (k v:Nat) (M:List Rl) (Z:List AV),LL.drop k=Q→k≤LL.length→M.length+Dh Q≤200000→
  ∃(v':Nat) (Z':List AV),gY (aB P0.glob (aj P0) cx false bC) [6,25,26,27] [(6,.v (.sk s.length v 1 0 M.length)),(25,.v (.sl (LL.map qQ))),(26,.v (.i .i64 LL.length)),(27,.v (.i .i64 k))] (s++[.buf au 1 v (M.map .s++Z)])=
    .exit 2 [(6,.v (.sk s.length v' 1 0 (M++Q.flatten).length)),(25,.v (.sl (LL.map qQ))),(26,.v (.i .i64 LL.length)),(27,.v (.i .i64 LL.length)),(28,.v (.b false))] (s++[.buf au 1 v' ((M++Q.flatten).map .s++Z')])
 | [],k,v,M,Z,h,hk,hn=>by
  have h1:¬k<LL.length:=Nat.not_lt.2 (drop_nil h);have h2:k=LL.length:=by omega
  refine ⟨v,Z,ak fun K hK=>?_⟩;simp [bC,h2]
 | []::r,k,v,M,Z,h,hk,hn=>by
  obtain ⟨h1,h2,h3,h4⟩:=drop_cons h;have h5:=h4 h3;have hw:=wI (i:=k) (by omega);obtain ⟨v',Z',ih⟩:=ae7 A r (k+1) v M Z h2 (by omega) (by simpa [Dh] using hn);refine ⟨v',Z',ak fun K hK=>?_⟩;rw [←hK,show ((k+1:Nat):Int)=(k:Int)+1 from rfl] at ih;clear hK h4;have e0:qQ []=.ns:=rfl;simp only [List.flatten_cons,List.nil_append];rw [←ih];clear ih;simp [bC,h3,h5,hw,e0]
 | (a::p)::r,k,v,M,Z,h,hk,hn=>by
  obtain ⟨h1,h2,h3,h4⟩:=drop_cons h;have h5:=h4 h3;have hw:=wI (i:=k) (by omega);simp only [Dh,List.length_cons] at hn;obtain ⟨v',Z',ih⟩:=ae7 A r (k+1) (v+1) (M++(a::p)) [] h2 (by omega) (by simp;omega);refine ⟨v',Z',ak fun K hK=>?_⟩;rw [←hK,show ((k+1:Nat):Int)=(k:Int)+1 from rfl] at ih;clear hK h4;have e0:qQ (a::p)=.sl ((a::p).map .s):=rfl
  have J:∀L:List Rl,(L.map AV.s).flatMap AV.cells=L.map AV.s:=fun L=>by
   induction L with
   | nil=>rfl
   | cons x r ih=>rw [List.map_cons,List.flatMap_cons,ih];rfl
  have P:=adC p;have O:M.length+(p.length+1)≤1073741824:=by omega
  have I:∀Y:List AV,List.take M.length (M.map AV.s++Y)=M.map AV.s:=fun Y=>List.take_left' (by simp);simp only [List.flatten_cons,←List.append_assoc];rw [←ih];clear ih;simp [bC,h3,h5,hw,e0,aS,A,O,P,J,I]
theorem VZ (s:St) (cx:Ctx):∀(x:List (List Rl)) (k:Nat),LL.drop k=x→k≤LL.length→Dh x=0→
  gY (aB P0.glob (aj P0) cx false bC) [6,25,26,27] [(6,.v .ns),(25,.v (.sl (LL.map qQ))),(26,.v (.i .i64 LL.length)),(27,.v (.i .i64 k))] s=
   .exit 2 [(6,.v .ns),(25,.v (.sl (LL.map qQ))),(26,.v (.i .i64 LL.length)),(27,.v (.i .i64 LL.length)),(28,.v (.b false))] s
 | [],k,h,hk,hn=>by
  have h1:¬k<LL.length:=Nat.not_lt.2 (drop_nil h);have h2:k=LL.length:=by omega
  refine ak fun K hK=>?_;simp [bC,h2]
 | p::r,k,h,hk,hn=>by
  obtain ⟨h1,h2,h3,h4⟩:=drop_cons h;have h5:=h4 h3;have hw:=wI (i:=k) (by omega);simp only [Dh] at hn;have ih:=VZ s cx r (k+1) h2 (by omega) (by omega);have hp:p=[]:=List.eq_nil_of_length_eq_zero (by omega);subst hp;refine ak fun K hK=>?_;rw [←hK,show ((k+1:Nat):Int)=(k:Int)+1 from rfl] at ih;clear hK h4;have e0:qQ []=.ns:=rfl;rw [←ih];clear ih;simp [bC,h3,h5,hw,e0]
include hT
theorem af8 (s:St) (cx:Ctx) (I:cx.lim≤s.length):
  aj P0 (.fn (.func iD) [] []) [.sl (LL.map qQ)] s cx=.ret (qQ LL.flatten) s:=by
 have e0:=ail LL hL s ⟨cx.lim,s.length⟩ LL 0 0 rfl (by omega) (by omega);have p:=U5 LL;refine y8 (by simp) ?_;simp only [Nat.zero_add] at e0;by_cases hz:Dh LL=0
 ·have e1:=VZ LL hL s ⟨cx.lim,s.length⟩ LL 0 rfl (by omega) hz;have h0:LL.flatten=[]:=List.eq_nil_of_length_eq_zero (by omega);rw [hz] at e0;have q5:IntKind.i64.wrap (0:Int)=0:=by decide
  have hg:aj P0 (.fn (.func gX) [] []) [.ns,.i .i64 0] s ⟨cx.lim,s.length⟩=.ret .ns s:=by
   refine tN (by simp) ?_;simp [af,iM,q5]
  simp at e0 e1;simp [af,ig,e0,e1,hg,h0,qQ]
 ·have eg:=ajB (Dh LL) (by omega) (by omega) s ⟨cx.lim,s.length⟩;obtain ⟨v',Z',e1⟩:=ae7 LL hL s ⟨cx.lim,s.length⟩ I LL 0 0 [] (List.replicate (Dh LL) [AV.s []]).flatten rfl (by omega) (by simpa using hT);generalize (List.replicate (Dh LL) [AV.s []]).flatten=Z at *;have x:LL.flatten≠[]:=fun h=>by rw [h] at p;exact hz p.symm
  have A:=abK (s:=s) (t:=au) (ver:=v') LL.flatten x Z'
  have hr:qQ LL.flatten=.sl (LL.flatten.map .s):=by
   cases hh:LL.flatten with
   | nil=>exact absurd hh x
   | cons a r=>rfl
  rw [hr];simp only [List.nil_append] at e1;generalize LL.flatten=M at *;simp at e0 e1 A;simp [af,ig,e0,eg,e1,A]
end
def KA (n:Rl):List Rl:=match lH 58 n with|some (x,_)=>[x] | none=>[]
theorem Y6 (n:Rl):(KA n).length≤1:=by unfold KA;split<;>simp
theorem Oj:∀N:List Rl,(N.flatMap KA).length≤N.length
 | []=>by simp
 | a::r=>by
  have h1:=Oj r;have h2:=Y6 a;simp only [List.flatMap_cons,List.length_append,List.length_cons];omega
theorem VD (N:List Rl) (hN:N.length≤200000) (hn:∀x∈N,x.length≤1000000) (s:St):∀(P:List Rl) (k:Nat) (V:List Rl),N.drop k=P→k≤N.length→V.length+P.length≤200000→
  gY (aB P0.glob (aj P0) ⟨s.length,s.length⟩ false mZ) [2,17,18,19]
   [(2,.v (aaV s.length V)),(17,.v (qQ N)),(18,.v (.i .i64 N.length)),(19,.v (.i .i64 k))] (s++Zz V)=
  .exit 0 [(2,.v (aaV s.length (V++P.flatMap KA))),(17,.v (qQ N)),(18,.v (.i .i64 N.length)),(19,.v (.i .i64 N.length)),(20,.v (.b false))] (s++Zz (V++P.flatMap KA))
 | [],k,V,h,hk,_=>by
  have h1:¬k<N.length:=Nat.not_lt.2 (drop_nil h);have h2:k=N.length:=by omega
  refine ak fun K hK=>?_;simp [mZ,h2]
 | p::r,k,V,h,hk,hV=>by
  obtain ⟨h1,h2,h3,h4⟩:=drop_cons h;have h5:=h4 h3;have hw:=wI (i:=k) (by omega);have O:=Y6 p;simp only [List.length_cons] at hV;have ih:=VD N hN hn s r (k+1) (V++KA p) h2 (by omega) (by simp;omega);have ec:=zD p 58 (by have:=hn p (by rw [←h5];exact List.getElem_mem h3);omega)
  have hr:qQ N=.sl (N.map .s):=by
   cases N with
   | nil=>simp at h3
   | cons a r=>rfl
  have A:V.length+1≤aS:=by unfold aS;omega
  have I:1≤aS:=by unfold aS;omega
  simp only [List.flatMap_cons,←List.append_assoc];rw [hr] at ih ⊢;refine ak fun K hK=>?_;rw [←hK,show ((k+1:Nat):Int)=(k:Int)+1 from rfl] at ih;rw [←ih];clear hK h4 ih hn;unfold KA
  cases hc:lH 58 p with
  | none=>
   rw [hc] at ec;simp [mZ,h3,h5,hw,ec]
  | some q=>
   obtain ⟨x,y⟩:=q;rw [hc] at ec
   cases V with
   | nil=>simp [mZ,h3,h5,hw,ec,aaV,Zz,I]
   | cons v r=>
    simp at A;have J:List.take r.length (r.map AV.s)=r.map AV.s:=List.take_of_length_le (by simp);simp [mZ,h3,h5,hw,ec,aaV,Zz,A,J]
def PU (V:List Rl):List Rl:=gu (Go.Ai.sortStr V)
theorem UX (A R F I:List Rl) (hT:A.length+R.length+F.length+I.length≤200000) (hn:∀x∈A++R++F++I,x.length≤1000000) (s:St) (cx:Ctx):
  aj P0 (.fn (.func wR) [] []) [.ag [qQ A,qQ R,qQ F,qQ I]] s cx=.ret (qQ (PU ((A++R++F++I).flatMap KA))) s:=by
 have ec:=af8 [A,R,F,I] (by simp) (by simp [Dh];omega) s ⟨s.length,s.length⟩ (Nat.le_refl _);have P:[A,R,F,I].flatten=A++R++F++I:=by simp
 rw [P] at ec;have W:(A++R++F++I).length≤200000:=by simp;omega
 generalize A++R++F++I=N at *;have hl:=VD N (by omega) hn s N 0 [] rfl (by omega) (by simp;omega);have S:=Oj N;rw [show aaV s.length []=.ns from rfl,show s++Zz []=s from by simp [Zz],List.nil_append] at hl;generalize N.flatMap KA=V at *;simp only [List.map_cons,List.map_nil] at ec
 cases V with
 | nil=>
  have h0:qQ (PU [])=.ns:=rfl;rw [h0];refine G7 (by simp) ?_;simp [aaV,Zz] at hl;simp [af,vg,show List.range 4=[0,1,2,3] from rfl,ec,hl,dU,splice,UR,UZ]
 | cons v r=>
  have J:(v::r).length≤300000:=by omega
  have p:(Go.Ai.sortStr (v::r)).length=(v::r).length:=(rX (v::r)).length_eq
  have K:gu (Go.Ai.sortStr (v::r))≠[]:=by
   cases hS:Go.Ai.sortStr (v::r) with
   | nil=>rw [hS] at p;simp at p
   | cons a r=>simp [gu]
  have e2:=aaR (v::r) J (s++[.buf au 1 r.length ((v::r).map .s)]) ⟨s.length,s.length⟩ s.length au r.length (by simp) (Nat.le_refl _) (Nat.le_refl _);have e3:=aaU (Go.Ai.sortStr (v::r)) (by omega) (s++[.buf au 1 r.length ((Go.Ai.sortStr (v::r)).map .s)]) ⟨s.length,s.length⟩ s.length au r.length (by simp) (Nat.le_refl _) (Nat.le_refl _) (v::r).length p.symm (by simp);obtain ⟨Z,hZ⟩:∃Z,zX (Go.Ai.sortStr (v::r))=(gu (Go.Ai.sortStr (v::r))).map AV.s++Z:=⟨_,rfl⟩;rw [hZ] at e3;have O:∀x y:gq,(s++[x]).set s.length y=s++[y]:=fun x y=>by simp
  rw [O] at e2 e3;have Q:=abK (s:=s) (t:=au) (ver:=r.length) (gu (Go.Ai.sortStr (v::r))) K Z
  have h0:qQ (PU (v::r))=.sl ((gu (Go.Ai.sortStr (v::r))).map AV.s):=by
   unfold PU
   cases hc:gu (Go.Ai.sortStr (v::r)) with
   | nil=>exact absurd hc K
   | cons x y=>rfl
  rw [h0];generalize gu (Go.Ai.sortStr (v::r))=C at *;generalize Go.Ai.sortStr (v::r)=S1 at *;simp only [aaV,Zz] at hl;simp only [List.length_cons] at e2 e3;simp only [List.map_cons] at hl e2;refine G7 (by simp) ?_;simp at hl;simp [af,vg,show List.range 4=[0,1,2,3] from rfl,ec,hl,dU,splice,e2,e3,Q]
def V4.addS (v:V4) (x:C):V4:=
 if x.kind=3 then { v with c:=zZ v.c x.name } else if x.kind=6 then { v with r:=zZ v.r x.name }
 else if x.kind=7 then { v with f:=zZ v.f x.name } else if x.kind=4 then { v with i:=zZ v.i x.name } else v
mutual
def Rt:C→V4→V4
 | .mk k n l h z ps,v=>aem ps (v.addS (.mk k n l h z ps))
def aem:List C→V4→V4
 | [],v=>v
 | p::r,v=>aem r (Rt p v)
end
theorem abe (x:C) (v:V4):Rt x v=aem x.parts (v.addS x):=by cases x;simp [Rt]
structure SB1 (n:Nat) (V:List Rl):Prop where
 srt:Srt V
 len:V.length≤n
theorem SB1.add {n:Nat} {V:List Rl} (h:SB1 n V) (k:Rl):SB1 (n+1) (zZ V k):=⟨ach h.srt,by have:=ab8 V k;have:=h.len;omega⟩
theorem SB1.le {n m:Nat} {V:List Rl} (h:SB1 n V) (hm:n≤m):SB1 m V:=⟨h.srt,Nat.le_trans h.len hm⟩
structure SB (n:Nat) (v:V4):Prop where
 c:SB1 n v.c
 r:SB1 n v.r
 f:SB1 n v.f
 i:SB1 n v.i
theorem SB.le {n m:Nat} {v:V4} (h:SB n v) (hm:n≤m):SB m v:=⟨h.c.le hm,h.r.le hm,h.f.le hm,h.i.le hm⟩
theorem SB.add {n:Nat} {v:V4} (h:SB n v) (x:C):SB (n+1) (v.addS x):=by
 have h':=h.le (Nat.le_succ n);unfold V4.addS;split
 ·exact ⟨h.c.add _,h'.r,h'.f,h'.i⟩
 ·split
  ·exact ⟨h'.c,h.r.add _,h'.f,h'.i⟩
  ·split
   ·exact ⟨h'.c,h'.r,h.f.add _,h'.i⟩
   ·split
    ·exact ⟨h'.c,h'.r,h'.f,h.i.add _⟩
    ·exact h'
def Ov (V:List Rl) (x:Rl):List Rl:=if x=[] then V else zZ V x
def alA (x:Ax) (v:V4):V4:=
 let u:=Rt x.right (Rt x.left v)
 ⟨u.c,x.roles.foldl zZ (Ov u.r x.role),u.f,Ov (Ov u.i x.a) x.b⟩
def ZX:List Ax→V4→V4
 | [],v=>v
 | x::r,v=>ZX r (alA x v)
theorem SB1.Ov {n:Nat} {V:List Rl} (h:SB1 n V) (k:Rl):SB1 (n+1) (Ov V k):=by
 unfold Go.Ai.Z.Ov;split
 ·exact h.le (Nat.le_succ n)
 ·exact h.add k
theorem SB.nil:SB 0 V4.nil:=by
 have h:SB1 0 []:=⟨by simp [Srt],by simp⟩;exact ⟨h,h,h,h⟩
end Go.Ai.Z
namespace Go.Ai.Z
theorem kM (l:Rl):(aC l).length=l.length:=by simp [aC]
def YE (k:Int):Bool:=decide (33≤k) && decide (k≤126) && decide (k≠60) && decide (k≠62) && decide (k≠34)
theorem PI (b:UInt8) (s:St) (cx:Ctx):aj P0 (.fn (.func vH) [] []) [.i .u8 b.toNat] s cx=.ret (.b (YE b.toNat)) s:=by
 refine Xe (by simp) ?_;unfold YE;by_cases q1:33≤(b.toNat:Int)
 ·by_cases q2:(b.toNat:Int)≤126
  ·by_cases q3:(b.toNat:Int)=60
   ·simp -implicitDefEqProofs [af,nV,q1,q2,q3]
   ·by_cases q4:(b.toNat:Int)=62
    ·simp -implicitDefEqProofs [af,nV,q1,q2,q3,q4]
    ·by_cases q5:(b.toNat:Int)=34
     ·simp -implicitDefEqProofs [af,nV,q1,q2,q3,q4,q5]
     ·simp -implicitDefEqProofs [af,nV,q1,q2,q3,q4,q5]
  ·simp -implicitDefEqProofs [af,nV,q1,q2]
 ·simp -implicitDefEqProofs [af,nV,q1]
end Go.Ai.Z
namespace Go.Ai.Z
def Nd (n:Rl):Prop:=n=[]∨oV n=true∨Ny n=true
theorem Nd.len {n:Rl} (h:Nd n):n.length≤24:=by
 rcases h with rfl|h
 ·simp
 ·exact (abt h).2
theorem Nd.cut {n:Rl} (h:Nd n):KA n=if KG n=[] then [] else [KG n]:=by
 unfold KA KG
 cases hc:lH 58 n with
 | none=>simp
 | some p=>
  obtain ⟨x,y⟩:=p;have hb:KG n=x:=by unfold KG;rw [hc]
  have hm:(58:UInt8)∈n:=by rw [wM hc];simp
  rcases h with rfl|h
  ·simp at hm
  ·have:=(abt h).1
   rw [hb] at this;have hx:¬x=[]:=fun e=>this.1 e hm;simp [hx]
theorem ahM (n:Rl):(KG n).length≤n.length:=by
 unfold KG
 cases hc:lH 58 n with
 | none=>simp
 | some p=>
  obtain ⟨x,y⟩:=p;rw [wM hc];simp
theorem TJ {n w:Rl} (h:Nd n):w∈KA n ↔ KG n=w∧w≠[]:=by
 rw [h.cut];split
 ·rename_i e;simp only [List.not_mem_nil,false_iff,not_and];intro e2 e3;exact e3 (by rw [←e2,e])
 ·rename_i e;simp only [List.mem_singleton];constructor
  ·rintro rfl;exact ⟨rfl,e⟩
  ·rintro ⟨h,_⟩;exact h.symm
def V4.all (v:V4):List Rl:=v.c++v.r++v.f++v.i
structure N4 (v:V4):Prop where
 c:∀x∈v.c,Nd x
 r:∀x∈v.r,Nd x
 f:∀x∈v.f,Nd x
 i:∀x∈v.i,Nd x
def V4.tot (v:V4):Nat:=v.c.length+v.r.length+v.f.length+v.i.length
theorem Fg {V:List Rl} {k:Rl} (h:∀x∈V,Nd x) (hk:Nd k):∀x∈qJ V k,Nd x:=fun x hx=>by
 rcases jd.1 hx with rfl|hx
 ·exact hk
 ·exact h x hx
theorem Gx {c:C} (h:uq c=true) (hk:c.kind=3∨c.kind=4∨c.kind=6∨c.kind=7):Nd c.name:=by
 unfold uq at h
 rcases hk with k|k|k|k<;>simp [k] at h
 ·exact .inr (.inl h)
 ·exact .inr h
 ·exact .inr (.inl h)
 ·exact .inr (.inl h)
theorem N4.add {v:V4} (h:N4 v) {c:C} (hn:uq c=true):N4 (v.add c):=by
 unfold V4.add;split
 ·rename_i k;exact ⟨Fg h.c (Gx hn (by simp [k])),h.r,h.f,h.i⟩
 ·split
  ·rename_i k;exact ⟨h.c,Fg h.r (Gx hn (by simp [k])),h.f,h.i⟩
  ·split
   ·rename_i k;exact ⟨h.c,h.r,Fg h.f (Gx hn (by simp [k])),h.i⟩
   ·split
    ·rename_i k;exact ⟨h.c,h.r,h.f,Fg h.i (Gx hn (by simp [k]))⟩
    ·exact h
theorem agO (v:V4) (c:C):(v.add c).tot≤v.tot+1:=by
 have h:=fun V=>Eu V c.name;have h1:=h v.c;have h2:=h v.r;have h3:=h v.f;have h4:=h v.i;unfold V4.add V4.tot
 repeat' split
 all_goals (first|omega | (simp only;omega))
def EqM (V W:List Rl):Prop:=∀x:Rl,x≠[]→(x∈V ↔ x∈W)
theorem EqM.qJ {V W:List Rl} (h:EqM V W) (k:Rl):EqM (qJ V k) (zZ W k):=fun x hx=>by rw [jd,Vw,h x hx]
theorem EqM.Ov {V W:List Rl} (h:EqM V W) (k:Rl):EqM (Go.Ai.Z.qJ V k) (Ov W k):=fun x hx=>by
 unfold Go.Ai.Z.Ov;split
 ·rename_i e;subst e;rw [jd,h x hx];simp [hx]
 ·exact h.qJ k x hx
structure E4 (v u:V4):Prop where
 c:EqM v.c u.c
 r:EqM v.r u.r
 f:EqM v.f u.f
 i:EqM v.i u.i
theorem E4.add {v w:V4} (h:E4 v w) (c:C):E4 (v.add c) (w.addS c):=by
 unfold V4.add V4.addS
 repeat' split
 ·exact ⟨h.c.qJ _,h.r,h.f,h.i⟩
 ·exact ⟨h.c,h.r.qJ _,h.f,h.i⟩
 ·exact ⟨h.c,h.r,h.f.qJ _,h.i⟩
 ·exact ⟨h.c,h.r,h.f,h.i.qJ _⟩
 ·exact h
theorem adW:∀(c:C) {v w:V4},E4 v w→E4 (ou c v) (Rt c w):=by
 have key:∀c:C,∀(v w:V4),E4 v w→E4 (ou c v) (Rt c w):=by
  refine C.ind' fun c ih v w h=>?_
  have hL:∀(l:List C),(∀p∈l,∀(v w:V4),E4 v w→E4 (ou p v) (Rt p w))→∀(v w:V4),E4 v w→E4 (xU l v) (aem l w):=by
   intro l
   induction l with
   | nil=>intro _ v w h;exact h
   | cons p r ihr=>intro hp v w h;exact ihr (fun q hq=>hp q (by simp [hq])) _ _ (hp p (by simp) v w h)
  rw [BP,abe];exact hL c.parts ih _ _ (h.add c)
 exact fun c {v w} h=>key c v w h
theorem aix:∀c:C,iL c=0→∀v:V4,N4 v→N4 (ou c v):=by
 refine C.ind' fun c ih hv v h=>?_;obtain ⟨v1,v2,v3⟩:=KJ hv
 have hL:∀(l:List C),(∀p∈l,∀v:V4,N4 v→N4 (ou p v))→∀v:V4,N4 v→N4 (xU l v):=by
  intro l
  induction l with
  | nil=>intro _ v h;exact h
  | cons p r ihr=>intro hp v h;exact ihr (fun q hq=>hp q (by simp [hq])) _ (hp p (by simp) v h)
 rw [BP];exact hL c.parts (fun p hp=>ih p hp (v3 p hp)) _ (h.add v2)
theorem aa4:∀c:C,∀v:V4,(ou c v).tot≤v.tot+oD c:=by
 refine C.ind' fun c ih v=>?_
 have hL:∀(l:List C),(∀p∈l,∀v:V4,(ou p v).tot≤v.tot+oD p)→∀v:V4,(xU l v).tot≤v.tot+Ac l:=by
  intro l
  induction l with
  | nil=>intro _ v;simp [xU,Ac]
  | cons p r ihr=>
   intro hp v;have h1:=hp p (by simp) v;have h2:=ihr (fun q hq=>hp q (by simp [hq])) (ou p v);simp only [xU,Ac];omega
 have h1:=hL c.parts ih (v.add c);have h2:=agO v c;rw [BP,DC];omega
structure Ax.Vd (x:Ax):Prop where
 l:emptyS x.left=true∨iL x.left=0∧oD x.left≤64
 r:emptyS x.right=true∨iL x.right=0∧oD x.right≤64
 n:x.roles.length≤4
 rs:∀r∈x.roles,Nd r
 role:Nd x.role
 a:Nd x.a
 b:Nd x.b
theorem afX {c:C} (h:vz c=0):iL c=0∧oD c≤64:=by
 unfold vz at h
 split at h
 ·cases h
 ·rename_i q;exact ⟨h,by omega⟩
theorem vd {x:Ax} (h:fH x=0):x.Vd:=by
 unfold fH at h
 split at h
 ·cases h
 split at h
 ·cases h
 rename_i hs hn;have hs:pJ x=true:=by simpa using hs
 have hn:Dl x (kJ x.kind)=true:=by simpa using hn
 unfold U9 at h
 split at h
 ·rename_i q;exact absurd h q.2
 split at h
 ·rename_i q;exact absurd h q.2
 rename_i ql qr;unfold pJ at hs;simp only [Bool.and_eq_true,Bool.or_eq_true,decide_eq_true_eq] at hs;obtain ⟨⟨⟨⟨⟨⟨⟨s0,s1⟩,s2⟩,s3⟩,s4⟩,s5⟩,s6⟩,s7⟩:=hs;unfold Dl at hn;simp only [Bool.and_eq_true,Bool.or_eq_true,Bool.not_eq_true'] at hn;obtain ⟨⟨⟨n1,n2⟩,n3⟩,n4⟩:=hn;have hb:∀u:Bool,u=false→¬u=true:=fun u h=>by rw [h];exact Bool.false_ne_true
 have A:∀n:Rl,zo n=true→Nd n:=fun n h=>by
  unfold zo at h;rw [Bool.or_eq_true] at h;exact .inr h
 refine ⟨?_, ?_, ?_,fun r hr=>.inr (.inl (V5 n4 r hr)), ?_, ?_, ?_⟩
 ·rcases s1 with q|q
  ·exact .inr (afX (Classical.not_not.1 fun e=>ql ⟨q,e⟩))
  ·exact .inl q
 ·rcases s2 with q|q
  ·exact .inr (afX (Classical.not_not.1 fun e=>qr ⟨q,e⟩))
  ·exact .inl q
 ·have hk:1≤x.kind∧x.kind≤9:=by simp [Dp] at s0;exact s0
  have I:x.kind=1∨x.kind=2∨x.kind=3∨x.kind=4∨x.kind=5∨x.kind=6∨x.kind=7∨x.kind=8∨x.kind=9:=by omega
  have:(kJ x.kind).hi≤4:=by rcases I with q|q|q|q|q|q|q|q|q<;>rw [q]<;>decide
  omega
 ·rcases s3 with q|q
  ·rcases n1 with p|p
   ·exact absurd q (hb _ p)
   ·exact .inr (.inl p)
  ·exact .inl q
 ·rcases s4 with q|q
  ·rcases n2 with p|p
   ·exact absurd q (hb _ p)
   ·exact A _ p
  ·exact .inl q
 ·rcases s5 with q|q
  ·rcases n3 with p|p
   ·exact absurd q (hb _ p)
   ·exact A _ p
  ·exact .inl q
theorem VP {c:C} (h:emptyS c=true) (v:V4):ou c v=v∧Rt c v=v∧oD c=1:=by
 unfold emptyS at h;simp only [Bool.and_eq_true,decide_eq_true_eq] at h;obtain ⟨⟨⟨⟨h1,h2⟩,h3⟩,h4⟩,h5⟩:=h;have hp:c.parts=[]:=List.eq_nil_of_length_eq_zero (by omega);rw [BP,abe,DC,hp];simp [xU,aem,V4.add,V4.addS,h1,Ac]
theorem aa5 {c:C} (h:emptyS c=true∨iL c=0∧oD c≤64) {v:V4} (hv:N4 v):N4 (ou c v):=by
 rcases h with h|h
 ·rw [(VP h v).1];exact hv
 ·exact aix c h.1 v hv
theorem Wu {c:C} (h:emptyS c=true∨iL c=0∧oD c≤64):oD c≤64:=by
 rcases h with h|h
 ·rw [(VP h V4.nil).2.2];omega
 ·exact h.2
theorem Zy {rs:List Rl}:∀{V:List Rl} {x:Rl},x∈Fh V rs ↔ x∈V∨x∈rs:=by
 induction rs with
 | nil=>intro V x;simp [Fh]
 | cons r rs ih=>
  intro V x;rw [Fh,ih,jd,List.mem_cons];constructor
  ·rintro ((h|h)|h)
   ·exact .inr (.inl h)
   ·exact .inl h
   ·exact .inr (.inr h)
  ·rintro (h|h|h)
   ·exact .inl (.inr h)
   ·exact .inl (.inl h)
   ·exact .inr h
theorem agn {rs:List Rl}:∀{V:List Rl},(Fh V rs).length≤V.length+rs.length:=by
 induction rs with
 | nil=>intro V;simp [Fh]
 | cons r rs ih=>
  intro V;have h1:=ih (V:=qJ V r);have h2:=Eu V r;rw [Fh,List.length_cons];omega
theorem afF {rs:List Rl}:∀{V:List Rl} {x:Rl},x∈rs.foldl zZ V ↔ x∈V∨x∈rs:=by
 induction rs with
 | nil=>intro V x;simp
 | cons r rs ih=>
  intro V x;rw [List.foldl_cons,ih,Vw,List.mem_cons];constructor
  ·rintro ((h|h)|h)
   ·exact .inr (.inl h)
   ·exact .inl h
   ·exact .inr (.inr h)
  ·rintro (h|h|h)
   ·exact .inl (.inr h)
   ·exact .inl (.inl h)
   ·exact .inr h
theorem adX {x:Ax} (hx:x.Vd) {v w:V4} (hN:N4 v) (hE:E4 v w):N4 (Np x v)∧E4 (Np x v) (alA x w)∧(Np x v).tot≤v.tot+140:=by
 have n1:=aa5 hx.l hN;have n2:=aa5 hx.r n1;have e2:=adW x.right (adW x.left hE);have t1:=aa4 x.left v;have t2:=aa4 x.right (ou x.left v);have s1:=Wu hx.l;have s2:=Wu hx.r;have s3:=hx.n;refine ⟨⟨n2.c, ?_,n2.f,Fg (Fg n2.i hx.a) hx.b⟩,⟨e2.c, ?_,e2.f,(e2.i.Ov x.a).Ov x.b⟩, ?_⟩
 ·refine Fg (fun y hy=>?_) hx.role;rcases Zy.1 hy with h|h
  ·exact n2.r y h
  ·exact hx.rs y h
 ·intro y hy;show y∈qJ (Fh (ou x.right (ou x.left v)).r x.roles) x.role ↔ y∈x.roles.foldl zZ (Ov (Rt x.right (Rt x.left w)).r x.role);rw [jd,Zy,afF,←(e2.r.Ov x.role) y hy,jd];constructor
  ·rintro (h|h|h)
   ·exact .inl (.inl h)
   ·exact .inl (.inr h)
   ·exact .inr h
  ·rintro ((h|h)|h)
   ·exact .inl h
   ·exact .inr (.inl h)
   ·exact .inr (.inr h)
 ·have l1:=Eu (Fh (ou x.right (ou x.left v)).r x.roles) x.role;have l2:=agn (V:=(ou x.right (ou x.left v)).r) (rs:=x.roles);have l3:=Eu (qJ (ou x.right (ou x.left v)).i x.a) x.b;have l4:=Eu (ou x.right (ou x.left v)).i x.a;unfold V4.tot at t2 ⊢;simp only [Np];unfold V4.tot at t1
  try simp only at t1
  omega
theorem Bc:∀{l:List Ax},(∀x∈l,x.Vd)→∀{v w:V4},N4 v→E4 v w→N4 (oz l v)∧E4 (oz l v) (ZX l w)∧(oz l v).tot≤v.tot+140 * l.length
 | [],_,v,w,hN,hE=>⟨hN,hE,by simp [oz]⟩
 | x::l,hx,v,w,hN,hE=>by
  obtain ⟨h1,h2,h3⟩:=adX (hx x (by simp)) hN hE;obtain ⟨g1,g2,g3⟩:=Bc (l:=l) (fun y hy=>hx y (by simp [hy])) h1 h2;refine ⟨g1,g2, ?_⟩;simp only [oz,List.length_cons];omega
theorem TS:∀(L:List Rl) (a x:Rl),x∈a::oW a L ↔ x∈a::L
 | [],a,x=>by simp [oW]
 | b::r,a,x=>by
  have ih:=TS r b x;unfold oW;split
  ·rename_i e;subst e;simp only [List.mem_cons] at ih ⊢;rw [ih];simp
  ·simp only [List.mem_cons] at ih ⊢;rw [ih]
theorem ady (L:List Rl) (x:Rl):x∈gu L ↔ x∈L:=by
 cases L with
 | nil=>simp [gu]
 | cons a r=>exact TS r a x
theorem TR:∀(L:List Rl) (a:Rl),(a::L).Pairwise (·≤·)→Srt (a::oW a L)
 | [],a,_=>by simp [oW,Srt]
 | b::r,a,h=>by
  have h1:=List.pairwise_cons.1 h;have ih:=TR r b h1.2;unfold oW;split
  ·rename_i e;subst e;exact ih
  ·rename_i e
   have p:a<b:=by
    rcases List.le_iff_lt_or_eq.1 (h1.1 b (by simp)) with q|q
    ·exact q
    ·exact absurd q.symm e
   unfold Srt at ih ⊢;refine List.pairwise_cons.2 ⟨fun y hy=>?_,ih⟩;rcases List.mem_cons.1 hy with rfl|hy
   ·exact p
   ·exact List.lt_trans p ((List.pairwise_cons.1 ih).1 y hy)
theorem XQ (V:List Rl):Srt (PU V):=by
 have h:=Bf V;unfold PU
 cases hs:Go.Ai.sortStr V with
 | nil=>simp [gu,Srt]
 | cons a r=>rw [hs] at h;exact TR r a h
theorem XR (V:List Rl) (x:Rl):x∈PU V ↔ x∈V:=by
 unfold PU;rw [ady,(rX V).mem_iff]
theorem ad7 (V:List Rl):(PU V).length≤V.length:=by
 unfold PU;have h1:=Y9 (Go.Ai.sortStr V);have h2:=(rX V).length_eq;omega
def Gw (l:List Ax):List Rl:=vA l++vR l++vF l++vI l
def jc (l:List Ax):List Rl:=PU ((Gw l).flatMap KA)
def X8 (l:List Ax):List Rl:=(ZX l V4.nil).all
theorem WV:N4 V4.nil:=⟨by simp [V4.nil],by simp [V4.nil],by simp [V4.nil],by simp [V4.nil]⟩
theorem WW:E4 V4.nil V4.nil:=⟨fun _ _=>Iff.rfl,fun _ _=>Iff.rfl,fun _ _=>Iff.rfl,fun _ _=>Iff.rfl⟩
section
variable {l:List Ax} (h:∀x∈l,x.Vd)
include h
theorem DU:∀x∈Gw l,Nd x:=by
 have hN:=(Bc h WV WW).1;intro x hx;unfold Gw vA vR vF vI at hx;simp only [List.mem_append,(uV _).mem_iff] at hx;rcases hx with ((hx|hx)|hx)|hx
 ·exact hN.c x hx
 ·exact hN.r x (List.erase_sublist.subset hx)
 ·exact hN.f x hx
 ·exact hN.i x (List.erase_sublist.subset hx)
theorem Vs:(Gw l).length≤140 * l.length:=by
 have ht:=(Bc h WV WW).2.2;unfold V4.tot at ht;have h1:(IQ (oz l V4.nil).r []).length≤(oz l V4.nil).r.length:=List.erase_sublist.length_le;have h2:(IQ (oz l V4.nil).i []).length≤(oz l V4.nil).i.length:=List.erase_sublist.length_le;unfold Gw vA vR vF vI;simp only [List.length_append,(uV _).length_eq];simp only [V4.nil,List.length_nil] at *;omega
theorem H9 {x:Rl} (hx:x≠[]):x∈Gw l ↔ x∈X8 l:=by
 have hE:=(Bc h WV WW).2.1;unfold Gw X8 vA vR vF vI V4.all IQ;simp only [List.mem_append,(uV _).mem_iff,List.mem_erase_of_ne hx,hE.c x hx,hE.r x hx,hE.f x hx,hE.i x hx]
theorem aa0 {w:Rl}:w∈jc l ↔ ∃n∈X8 l,KG n=w∧w≠[]:=by
 unfold jc;rw [XR,List.mem_flatMap];constructor
 ·rintro ⟨n,hn,hw⟩;obtain ⟨h1,h2⟩:=(TJ (DU h n hn)).1 hw;have h3:n≠[]:=fun e=>by rw [e] at h1;exact h2 (h1 ▸ rfl)
  exact ⟨n,(H9 h h3).1 hn,h1,h2⟩
 ·rintro ⟨n,hn,h1,h2⟩;have h3:n≠[]:=fun e=>by rw [e] at h1;exact h2 (h1 ▸ rfl)
  have h4:=(H9 h h3).2 hn;exact ⟨n,h4,(TJ (DU h n h4)).2 ⟨h1,h2⟩⟩
theorem agI:(jc l).length≤140 * l.length:=by
 have h1:=ad7 ((Gw l).flatMap KA);have h2:=Oj (Gw l);have h3:=Vs h;unfold jc;omega
theorem agH:∀w∈jc l,w.length≤24:=fun w hw=>by
 unfold jc at hw;rw [XR,List.mem_flatMap] at hw;obtain ⟨n,hn,hw⟩:=hw;have hd:=DU h n hn;obtain ⟨h1,_⟩:=(TJ hd).1 hw
 have:=hd.len
 have:=ahM n
 rw [←h1];omega
theorem ai7:∀n∈Gw l,n.length≤1000000:=fun n hn=>by have:=(DU h n hn).len;omega
end
def Jw:Rl:=[111,119,108]
def Nk:Rl:=[120,115,100]
def Xa (p:Rl):Bool:=p.all fun b=>YE b.toNat
section
variable (L0:AV) (p:Rl) (LL:List (List Rl)) (hLL:LL.length≤100) (hT:∀T∈LL,T.length≤50000) (hn:∀T∈LL,∀x∈T,x.length≤1000000) (s:St) (cx:Ctx)
include hT hn
end
def Il (p w:Rl):Rl:=wC6++w++[58,61,60]++p++w++[47,62,41]
def Z8:Rl:=[79,110,116,111,108,111,103,121,40]
def Qd (p:Rl):Rl:=[80,114,101,102,105,120,40,58,61,60]++p++[62,41]
def Tc:Rl:=[80,114,101,102,105,120,40,111,119,108,58,61,60]++wC8++[62,41]
def S9:Rl:=[80,114,101,102,105,120,40,120,115,100,58,61,60]++wC5++[62,41]
def aaG (p:Rl) (W:List Rl) (l:List Ax):List Rl:=[Qd p,Tc,S9]++W.map (Il p)++[Z8]++l.map owA++[[41]]
def rM (ls:List Rl):Rl:=ls.flatMap fun x=>x++[10]
theorem GH (a b:List Rl):rM (a++b)=rM a++rM b:=by simp [rM]
def Kz (p:Rl) (W:List Rl) (l:List Ax):Rl:=rM (aaG p W l)
theorem SN (k:Nat):∀ls:List Rl,(∀x∈ls,x.length≤k)→(rM ls).length≤(k+1) * ls.length
 | [],_=>by simp [rM]
 | a::r,h=>by
  have h1:=h a (by simp);have h2:=SN k r fun x hx=>h x (by simp [hx]);have h3:(rM (a::r)).length=a.length+1+(rM r).length:=by simp [rM];omega
  rw [h3,List.length_cons,Nat.mul_succ];omega
theorem aev (p w:Rl):(Il p w).length=13+p.length+2 * w.length:=by simp [Il];omega
theorem ahA (p:Rl) (W:List Rl) (l:List Ax):Kz p W l=rM [Qd p,Tc,S9]++rM (W.map (Il p))++rM [Z8]++rM (l.map owA)++[41,10]:=by
 unfold Kz aaG;rw [GH,GH,GH,GH];rfl
def Dc (l:List Ax) (p:Rl):Int:=
 if 200<p.length∨Xa p=false then 50 else if zS l≠0 then zS l else if Jw∈jc l∨Nk∈jc l then 50
 else if 65536<(Kz p (jc l) l).length then 2 else 0
def ab6 (l:List Ax) (p:Rl):AV:=if Dc l p=0 then .sl (aC (Kz p (jc l) l)) else .ns
theorem YA (ls:List Rl):joinL [10] (ls++[[]])=rM ls:=by
 have key:∀(r:List Rl) (a:Rl),a++((r++[[]]).flatMap fun y=>([10]:Rl)++y)=rM (a::r):=by
  intro r
  induction r with
  | nil=>intro a;simp [rM]
  | cons b r ih=>
   intro a;have h:=ih b;rw [List.cons_append,List.flatMap_cons];have e:rM (a::b::r)=a++[10]++rM (b::r):=by simp [rM]
   rw [e,←h];simp
 cases ls with
 | nil=>rfl
 | cons a r=>exact key r a
theorem ae2 (L0:AV) (p:Rl) (hp:p.length≤100000) (s:St) (cx:Ctx):∀(A:Rl) (i:Nat),p.drop i=A→
  ∃j:Int,gY (aB P0.glob (aj P0) cx false tK) [0,1,23,24,25]
   [(0,.v L0),(1,.v (.s p)),(23,.v (.sl (aC p))),(24,.v (.i .i64 p.length)),(25,.v (.i .i64 i))] s=
   if Xa A=true then .exit 0 [(0,.v L0),(1,.v (.s p)),(23,.v (.sl (aC p))),(24,.v (.i .i64 p.length)),(25,.v (.i .i64 j)),(26,.v (.b false))] s
   else .ret [(4,.v .ns),(5,.v (.i .i64 50))] s
 | [],i,h=>by
  have h1:¬i<p.length:=Nat.not_lt.2 (drop_nil h);refine ⟨i,ak fun K hK=>?_⟩;simp [tK,h1,Xa]
 | b::r,i,h=>by
  obtain ⟨h1,h2,h3,h4⟩:=drop_cons h;have h5:=h4 h3;have x:=wI (i:=i) (by omega);have hb:i<(aC p).length:=by rw [kM];exact h3
  have hg:(aC p)[i]=.i .u8 b.toNat:=by simp [aC,h5]
  have e1:=PI b;obtain ⟨j,ih⟩:=ae2 L0 p hp s cx r (i+1) h2;have hc:Xa (b::r)=(YE b.toNat && Xa r):=rfl;rw [hc];by_cases q:YE b.toNat=true
  ·refine ⟨j,ak fun K hK=>?_⟩;rw [←hK,show ((i+1:Nat):Int)=(i:Int)+1 from rfl] at ih;clear hK h4;rw [q,Bool.true_and,←ih];clear ih;rw [q] at e1;simp -implicitDefEqProofs [tK,h3,hb,hg,x,e1]
  ·refine ⟨i,ak fun K hK=>?_⟩;clear hK h4 ih;rw [if_neg (by simp [q])];have q':YE b.toNat=false:=by simpa using q
   rw [q'] at e1;simp -implicitDefEqProofs [tK,h3,hb,hg,e1]
theorem ae1 (L0:AV) (p:Rl) (W:List Rl) (hW:W.length≤200000) (hp:p.length≤100000) (hw:∀w∈W,w.length≤24) (s:St) (cx:Ctx):∀(J:List Rl) (i:Nat) (t:List Rl),W.drop i=J→t.length+J.length≤8000000→
  ∃j:Int,gY (aB P0.glob (aj P0) cx false xg) [0,1,10,53,54,55]
   [(0,.v L0),(1,.v (.s p)),(10,.own false au 1 (t.map .s)),(53,.v (qQ W)),(54,.v (.i .i64 W.length)),(55,.v (.i .i64 i))] s=
   .exit 2 [(0,.v L0),(1,.v (.s p)),(10,.own false au 1 ((t++J.map (Il p)).map .s)),(53,.v (qQ W)),(54,.v (.i .i64 W.length)),(55,.v (.i .i64 j)),(56,.v (.b false))] s
 | [],i,t,h,ht=>by
  have h1:¬i<W.length:=Nat.not_lt.2 (drop_nil h);refine ⟨i,ak fun K hK=>?_⟩;simp [xg,h1]
 | w::r,i,t,h,ht=>by
  obtain ⟨h1,h2,h3,h4⟩:=drop_cons h;have h5:=h4 h3;have I:=hw w (by rw [←h5];exact List.getElem_mem h3);have A:=wI (i:=i) (by omega)
  have x:qQ W=.sl (W.map .s):=by
   cases W with
   | nil=>simp at h3
   | cons a r=>rfl
  simp only [List.length_cons] at ht;obtain ⟨j,ih⟩:=ae1 L0 p W hW hp hw s cx r (i+1) (t++[Il p w]) h2 (by simp;omega);refine ⟨j,ak fun K hK=>?_⟩;rw [←hK,show ((i+1:Nat):Int)=(i:Int)+1 from rfl] at ih;clear hK h4 hw;rw [x] at ih ⊢;have e:(t++(w::r).map (Il p))=(t++[Il p w])++r.map (Il p):=by simp
  rw [e,←ih];clear ih e;have hm:t.length+1≤aS:=by unfold aS;omega
  simp -implicitDefEqProofs [xg,h3,h5,A,hm,Il]
  repeat' (first | (split<;>(try simp only [gG,gI,gQ,kE,kF])<;>(try simp [*])) | (simp only [gG,gI,gQ,kE,kF]<;>(try simp [*]))|omega)
theorem ae0 (z:Bool) (l:List Ax) (hl:l.length≤1024) (hx:∀x∈l,x.Few∧x.Good) (s:St) (cx:Ctx):∀(A:List Ax) (i:Nat) (t:List Rl),l.drop i=A→t.length+A.length≤8000000→
  ∃j:Int,gY (aB P0.glob (aj P0) cx false wZ) [10,74,75,76]
   [(10,.own false au 1 (t.map .s)),(74,.v (slf z (l.map cu))),(75,.v (.i .i64 l.length)),(76,.v (.i .i64 i))] s=
   .exit 4 [(10,.own false au 1 ((t++A.map owA).map .s)),(74,.v (slf z (l.map cu))),(75,.v (.i .i64 l.length)),(76,.v (.i .i64 j)),(77,.v (.b false))] s
 | [],i,t,h,ht=>by
  have h1:¬i<l.length:=Nat.not_lt.2 (drop_nil h);refine ⟨i,ak fun K hK=>?_⟩;simp [wZ,h1]
 | x::r,i,t,h,ht=>by
  obtain ⟨h1,h2,h3,h4⟩:=drop_cons h;have h5:=h4 h3;obtain ⟨x1,x2⟩:=hx x (by rw [←h5];exact List.getElem_mem h3);have p:=wI (i:=i) (by omega);have e1:=Zl x x1 x2;simp only [List.length_cons] at ht;obtain ⟨j,ih⟩:=ae0 z l hl hx s cx r (i+1) (t++[owA x]) h2 (by simp;omega);refine ⟨j,ak fun K hK=>?_⟩;rw [←hK,show ((i+1:Nat):Int)=(i:Int)+1 from rfl] at ih;clear hK h4 hx;have e:(t++(x::r).map owA)=(t++[owA x])++r.map owA:=by simp
  rw [e,←ih];clear ih e;have hm:t.length+1≤aS:=by unfold aS;omega
  simp -implicitDefEqProofs [wZ,h3,h5,p,e1,hm]
  repeat' (first | (split<;>(try simp only [gG,gI,gQ,kE,kF])<;>(try simp [*])) | (simp only [gG,gI,gQ,kE,kF]<;>(try simp [*]))|omega)
theorem Zm (z:Bool) (l:List Ax) (hl:l.length≤1024) (hf:∀x∈l,x.Few) (hx:zS l=0→∀x∈l,(owA x).length≤33000) (p:Rl) (hp:p.length≤100000) (s:St) (cx:Ctx):
  aj P0 (.fn (.func xR) [] []) [slf z (l.map cu),.s p] s cx=.ret (.tu [ab6 l p,.i .i64 (Dc l p)]) s:=by
 obtain ⟨j0,e0⟩:=ae2 (slf z (l.map cu)) p hp s ⟨s.length,s.length⟩ p 0 rfl;have q0:¬(1024:Int)<(l.length:Int):=by omega
 have J:=kM p;refine Xg (by simp) ?_;unfold ab6;by_cases h1:200<p.length
 ·rw [show Dc l p=50 from by unfold Dc;rw [if_pos (.inl h1)]];have A:(200:Int)<(p.length:Int):=by omega
  simp -implicitDefEqProofs [af,mG,q0,A]
 have A:¬(200:Int)<(p.length:Int):=by omega
 cases h2:Xa p
 ·rw [show Dc l p=50 from by unfold Dc;rw [if_pos (.inr h2)]];rw [if_neg (by rw [h2];exact Bool.false_ne_true)] at e0;simp at e0;simp -implicitDefEqProofs [af,mG,q0,A,J,e0]
 rw [if_pos h2] at e0;simp at e0;have O:¬(200<p.length∨Xa p=false):=by rw [h2];simp;omega
 by_cases h3:zS l≠0
 ·rw [show Dc l p=zS l from by unfold Dc;rw [if_neg O,if_pos h3],if_neg h3];have ev:=IW z l (by omega) hf h3;simp -implicitDefEqProofs [af,mG,q0,A,J,e0,ev,h3,dU,splice]
 have h3:zS l=0:=Classical.not_not.1 h3;have ev:=IY z l (by omega) hf h3;have er:∀X:List Rl,slf true (X.map AV.s)=qQ X:=fun _=>rfl;simp only [agP,er] at ev;have hv:∀x∈l,x.Vd:=fun x hm=>vd (tV h3 x hm);have a3:=agI hv;have K:=agH hv;have Y:=Vs hv;have Q:=ai7 hv;have ef:=UX (vA l) (vR l) (vF l) (vI l) (by unfold Gw at Y;simp only [List.length_append] at Y;omega) Q;have a2:PU ((vA l++vR l++vF l++vI l).flatMap KA)=jc l:=rfl;rw [a2] at ef
 have I:qQ (jc l)=.sl ((jc l).map .s)∨(qQ (jc l)=.ns∧jc l=[]):=by
  cases jc l with
  | nil=>exact .inr ⟨rfl,rfl⟩
  | cons a r=>exact .inl rfl
 have c1:=PL (jc l) Jw (by omega) (qQ (jc l)) I;have c2:=PL (jc l) Nk (by omega) (qQ (jc l)) I;unfold Jw at c1;unfold Nk at c2;by_cases h4:Jw∈jc l∨Nk∈jc l
 ·rw [show Dc l p=50 from by unfold Dc;rw [if_neg O,if_neg (by omega),if_pos h4]]
  have d1:decide (Jw∈jc l)=true∨decide (Jw∈jc l)=false∧decide (Nk∈jc l)=true:=by
   by_cases q:Jw∈jc l
   ·exact .inl (decide_eq_true q)
   ·exact .inr ⟨decide_eq_false q,decide_eq_true (h4.resolve_left q)⟩
  unfold Jw Nk at d1;clear hv hf hx K Q I h4;rcases d1 with d1|⟨d1,d2⟩
  ·rw [d1] at c1;simp -implicitDefEqProofs [af,mG,q0,A,J,e0,ev,ef,c1,dU,splice]
  ·rw [d1] at c1;rw [d2] at c2;simp -implicitDefEqProofs [af,mG,q0,A,J,e0,ev,ef,c1,c2,dU,splice]
 have hE:Dc l p=if 65536<(Kz p (jc l) l).length then 2 else 0:=by unfold Dc;rw [if_neg O,if_neg (by omega),if_neg h4]
 rw [hE];have d1:decide (Jw∈jc l)=false:=decide_eq_false fun q=>h4 (.inl q);have d2:decide (Nk∈jc l)=false:=decide_eq_false fun q=>h4 (.inr q);unfold Jw at d1;unfold Nk at d2;rw [d1] at c1;rw [d2] at c2;have R:=ahA p (jc l) l
 have b1:(rM [Qd p,Tc,S9]).length≤500:=by
  have h5:(rM [Qd p,Tc,S9]).length=(Qd p).length+1+(rM [Tc,S9]).length:=by simp [rM];omega
  have h6:(rM [Tc,S9]).length=95:=by decide
  rw [h5];simp only [Qd,List.length_append,List.length_cons,List.length_nil];omega
 have b2:=SN 261 ((jc l).map (Il p)) (by
  intro x hm;obtain ⟨w,hw,rfl⟩:=List.mem_map.1 hm
  have:=K w hw
  rw [aev];omega)
 have b3:=SN 33000 (l.map owA) (by
  intro x hm;obtain ⟨a,ha,rfl⟩:=List.mem_map.1 hm
  exact hx h3 a ha)
 rw [List.length_map] at b2 b3;have b4:(rM [Z8]).length=10:=by decide
 have bD:(Kz p (jc l) l).length≤1073741824:=by
  rw [R];simp only [List.length_append,List.length_cons,List.length_nil];omega
 obtain ⟨j2,e2⟩:=ae1 (slf z (l.map cu)) p (jc l) (by omega) hp K s ⟨s.length,s.length⟩ (jc l) 0 [Qd p,Tc,S9] rfl (by simp;omega);obtain ⟨j3,e3⟩:=ae0 z l (by omega) (fun x hm=>⟨hf x hm,good (tV h3 x hm)⟩) s ⟨s.length,s.length⟩ l 0 ([Qd p,Tc,S9]++(jc l).map (Il p)++[Z8]) rfl (by simp;omega);have ej:=Ht (aaG p (jc l) l++[[]]) [10] (by rw [YA];exact bD) (by simp [aaG];omega);rw [YA] at ej;have a1:rM (aaG p (jc l) l)=Kz p (jc l) l:=rfl;rw [a1] at ej;clear hv hf hx K Q I R b2 b3;unfold aaG at ej;have a0:(jc l).length+1+1+1+1≤aS:=by unfold aS;omega
 have S:(jc l).length+(l.length+1)+1+1+1+2≤aS:=by unfold aS;omega
 have W:p.length≤4611686018427387894:=by omega
 have Z:p.length≤4611686018427387892:=by omega
 unfold Qd Tc S9 at e2 e3 ej;unfold Z8 at e3 ej;simp at e2 e3 ej;generalize Kz p (jc l) l=D at *;by_cases h5:65536<D.length
 ·rw [if_pos h5];have P:(65536:Int)<(D.length:Int):=by omega
  simp -implicitDefEqProofs [af,mG,q0,A,J,e0,ev,ef,c1,c2,dU,splice,show List.range 2=[0,1] from rfl,show List.range 3=[0,1,2] from rfl,e2,e3,ej,W,Z,a0,S,P]
  repeat' (first | (split<;>(try simp only [gG,gI,gQ,kE,kF])<;>(try simp [*])) | (simp only [gG,gI,gQ,kE,kF]<;>(try simp [*]))|omega)
 ·rw [if_neg h5];have P:¬(65536:Int)<(D.length:Int):=by omega
  simp -implicitDefEqProofs [af,mG,q0,A,J,e0,ev,ef,c1,c2,dU,splice,show List.range 2=[0,1] from rfl,show List.range 3=[0,1,2] from rfl,e2,e3,ej,W,Z,a0,S,P]
  repeat' (first | (split<;>(try simp only [gG,gI,gQ,kE,kF])<;>(try simp [*])) | (simp only [gG,gI,gQ,kE,kF]<;>(try simp [*]))|omega)
theorem akk:∀c:C,iL c=0→wC c=oD c:=by
 refine C.ind' fun c ih hv=>?_;obtain ⟨v1,v2,v3⟩:=KJ hv
 have hL:∀(l:List C),(∀p∈l,wC p=oD p)→wL l=Ac l:=by
  intro l
  induction l with
  | nil=>intro _;rfl
  | cons p r ihr=>intro h;rw [wL,Ac,h p (by simp),ihr fun q hq=>h q (by simp [hq])]
 have hn:c.name.length / 40=0:=by
  have K:c.name.length≤24:=by
   by_cases hk:c.kind=3∨c.kind=4∨c.kind=6∨c.kind=7
   ·exact (Gx v2 hk).len
   ·have A:¬c.kind=3:=fun h=>hk (.inl h);have J:¬c.kind=4:=fun h=>hk (.inr (.inl h));have x:¬c.kind=6:=fun h=>hk (.inr (.inr (.inl h)));have I:¬c.kind=7:=fun h=>hk (.inr (.inr (.inr h)));unfold kU at v1;simp only [A,J,x,I,if_false] at v1
    have:c.name=[]:=by
     revert v1
     repeat' split
     all_goals simp_all
    rw [this];simp
  omega
 rw [FC,DC,hn,hL c.parts fun p hp=>ih p hp (v3 p hp)]
theorem aeA:∀(c:C),iL c=0→(owC c).length+10≤250 * wC c:=by
 refine C.ind' fun c ih hv=>?_;obtain ⟨v1,v2,v3⟩:=KJ hv;have hw:=FC c;have hq:c.name.length≤40 * (c.name.length / 40)+39:=by omega
 have hn:=eY c.name;have A:∀p∈c.parts,(owC p).length+10≤250 * wC p:=fun p hp=>ih p hp (v3 p hp)
 have I:((c.parts.map owC).map fun x=>x.length+([32]:Rl).length).sum≤250 * wL c.parts:=by
  clear ih v3 hw;generalize c.parts=l at A
  induction l with
  | nil=>simp [wL]
  | cons a r ih=>
   have h1:=A a (by simp);have h2:=ih (fun p hp=>A p (by simp [hp]));simp [wL] at h2 ⊢;omega
 rw [Di];unfold lN Bv ttI;rcases Jr v1 with k|k|k|k|⟨k,k1,k2,k3⟩|⟨k,k1⟩|⟨k,k1⟩
 ·simp [k];omega
 ·simp [k];omega
 ·simp [k];omega
 ·simp [k,joinL];omega
 ·have l1:=Go.Lib.itoa_length_le c.lo (by omega) (by omega);have l2:=Go.Lib.itoa_length_le c.hi (by omega) (by omega);simp [k,joinL];omega
 ·rcases hps:c.parts with _|⟨a,r⟩
  ·simp [hps] at k1
  ·have:=A a (by simp [hps])
   rw [hps] at hw;simp only [wL] at hw;simp [k,joinL];omega
 ·have:=D5 (c.parts.map owC) [32]
  simp [k];simp at this I;omega
theorem ag9 {x:Ax} (hg:x.Good) (hv:x.Vd):(owA x).length≤33000:=by
 have p:∀c:C,(emptyS c=true∨iL c=0∧oD c≤64)→iL c=0→(owC c).length≤16000:=by
  intro c h h2;have h3:=aeA c h2;have h4:=akk c h2;have h5:=Wu h;omega
 have o1:=eY x.role;have o2:=eY x.a;have o3:=eY x.b;have o4:=hv.role.len;have o5:=hv.a.len;have o6:=hv.b.len
 have J:((iC x).map fun y=>y.length+1).sum≤25:=by unfold iC;split<;>decide
 have K:(vM x.kind).length≤30:=by
  unfold vM
  repeat' split
  all_goals decide
 have hj:=D5 (iC x++zI x) [32];have A:((iC x++zI x).map fun y=>y.length+([32]:Rl).length).sum=((iC x).map fun y=>y.length+1).sum+((zI x).map fun y=>y.length+1).sum:=by simp
 rw [A] at hj;have hT:(owA x).length=(vM x.kind).length+2+(joinL [32] (iC x++zI x)).length:=by unfold owA lN;simp;omega
 have hA:((zI x).map fun y=>y.length+1).sum≤32500:=by
  unfold zI;rcases hg.k with k|k|k|k|k|k|k|k|k
  ·have l1:=p x.left hv.l (hg.l (by simp [k]));have l2:=p x.right hv.r (hg.r (by simp [k]));simp [k];omega
  ·have l1:=p x.left hv.l (hg.l (by simp [k]));have l2:=p x.right hv.r (hg.r (by simp [k]));simp [k];omega
  ·have l1:=p x.left hv.l (hg.l (by simp [k]));have l2:=p x.right hv.r (hg.r (by simp [k]));simp [k];omega
  ·have l2:=p x.right hv.r (hg.r (by simp [k]));simp [k];omega
  ·have l3:=eY (x.roles.headD [])
   have l4:(x.roles.headD []).length≤24:=by
    cases hh:x.roles with
    | nil=>simp
    | cons r rr=>exact (hv.rs r (by rw [hh];simp)).len
   rw [if_neg (by omega),if_neg (by omega),if_neg (by omega),if_neg (by omega),if_pos k];simp only [List.map_cons,List.map_nil,List.sum_cons,List.sum_nil];omega
  ·have I:=D5 (x.roles.map owN) [32]
   have hr:∀rs:List Rl,(∀r∈rs,Nd r)→((rs.map owN).map fun y=>y.length+([32]:Rl).length).sum≤26 * rs.length:=by
    intro rs
    induction rs with
    | nil=>intro _;simp
    | cons r rs ih=>
     intro h;have h1:=ih fun q hq=>h q (by simp [hq]);have h2:=(h r (by simp)).len;have h3:=eY r;simp only [List.map_cons,List.sum_cons,List.length_cons,List.length_nil] at h1 ⊢;omega
   have h1:=hr x.roles hv.rs;have h2:=hv.n;rw [if_neg (by omega),if_neg (by omega),if_neg (by omega),if_neg (by omega),if_neg (by omega),if_pos k];unfold lN;simp only [List.map_cons,List.map_nil,List.sum_cons,List.sum_nil,List.length_append,List.length_cons,List.length_nil];omega
  ·simp [k];omega
  ·have l2:=p x.right hv.r (hg.r (by simp [k]));simp [k];omega
  ·simp [k];omega
 omega
end Go.Ai.Z
