/-
 Names, numbers and calls in ontology documents.
-/
import Derived.Test.YtcofenimejmoeaaGreatDoorAiK1K2K3K4K5K6K7
import Derived.Test.YtcofenimejmoeaaGreatDoorAiRchR1R2R3R4R5
import Derived.Test.YtcofenimejmoeaaGreatDoorAiPSortOK
set_option maxRecDepth 100000
set_option linter.unusedSimpArgs false
set_option linter.unusedVariables false
set_option linter.unusedSectionVars false
namespace Go.Ai.Z
open Go.Lib (itoa decDigits nDigits)
theorem Bq (l:Rl) (b:UInt8) (s:St) (cx:Ctx):aj P0 (.fn (.func oP) [] []) [.s l,.s [b]] s cx=.ret (.i .i64 (Go.Lib.indexByte l b)) s:=by
 refine MH (by simp) ?_;simp [af,uQ,VJ]
theorem JV (l:Rl) (b:UInt8) (s:St) (cx:Ctx):aj P0 (.fn (.func lW) [] []) [.s l,.s [b]] s cx=.ret (.b (decide (b∈l))) s:=by
 have e1:=Bq l b;refine G8 (by simp) ?_
 cases hc:lD b l with
 | none=>
  have hm:=yK.1 hc;rw [index_none hc] at e1;simp [af,ng,e1,hm]
 | some p=>
  obtain ⟨x,y⟩:=p;have hm:b∈l:=by rw [vS hc];simp
  rw [DY hc] at e1;simp [af,ng,e1,hm]
def owN (n:Rl):Rl:=if (58:UInt8)∈n then n else 58::n
def lM (w:Rl) (args:List Rl):Rl:=w++[40]++joinL [32] args++[41]
def ttI:Rl:=[34,94,94,120,115,100,58,105,110,116,101,103,101,114]
def AA (w:Rl) (n:Int):Rl:=w++[32,34]++itoa n++ttI
theorem bV (n:Rl) (hn:n.length≤1000000) (s:St) (cx:Ctx):aj P0 (.fn (.func jb) [] []) [.s n] s cx=.ret (.s (owN n)) s:=by
 have e1:=JV n 58;have l1:n.length+1≤4611686018427387904:=by omega
 refine Xr (by simp) ?_
 by_cases h:(58:UInt8)∈n<;>simp [af,BA,e1,h,owN,l1]
theorem eG (w:Rl) (args:List Rl) (hw:w.length≤1000) (hj:(joinL [32] args).length≤1000000) (ha:args.length≤1000000) (s:St) (cx:Ctx):
  aj P0 (.fn (.func oD) [] []) [.s w,.sl (args.map .s)] s cx=.ret (.s (lM w args)) s:=by
 have e1:=F9 args [32] (by omega) (by omega);refine Xt (by simp) ?_;unfold lM;simp [af,BB,e1]
 repeat' (first | (split<;>(try simp only [gy,gB,gJ,kz,kC])<;>(try simp [*])) | (simp only [gy,gB,gJ,kz,kC]<;>(try simp [*]))|omega)
theorem Og (w:Rl) (n:Int) (hw:w.length≤1000) (h1:-1099511627776≤n) (h2:n≤1099511627776) (s:St) (cx:Ctx):
  aj P0 (.fn (.func wY) [] []) [.s w,.i .i64 n] s cx=.ret (.s (AA w n)) s:=by
 have e1:=Ru n (by omega) (by omega);have l1:=Go.Lib.itoa_length_le n (by omega) (by omega);refine Vp (by simp) ?_;unfold AA ttI;simp [af,zT,e1]
 repeat' (first | (split<;>(try simp only [gy,gB,gJ,kz,kC])<;>(try simp [*])) | (simp only [gy,gB,gJ,kz,kC]<;>(try simp [*]))|omega)
def Jz (n:Rl):Rl:=match lD 58 n with|some (x,_)=>x|none=>[]
theorem ZN {n:Rl} (h:oJ n=true∨LD n=true):(Jz n=[] ↔ (58:UInt8) ∉ n)∧n.length≤24:=by
 unfold Jz;rcases h with h|h
 ·unfold oJ at h;rw [Bool.and_eq_true,decide_eq_true_eq] at h;refine ⟨?_,h.1⟩
  cases hc:lD 58 n with
  | none=>simp [yK.1 hc]
  | some p=>
   obtain ⟨x,y⟩:=p;rw [hc] at h;have h2:=h.2;simp only [Bool.and_eq_true] at h2;have hx:x≠[]:=fun e=>by rw [e] at h2;simp [Ak] at h2
   have hm:(58:UInt8)∈n:=by rw [vS hc];simp
   simp [hx,hm]
 ·unfold LD at h;simp only [Bool.and_eq_true,decide_eq_true_eq] at h;obtain ⟨⟨⟨h1,h2⟩,h3⟩,h4⟩:=h;refine ⟨?_,h2⟩
  have hno:(58:UInt8) ∉ n:=by
   have ht:∀l:Rl,Hy l=true→(58:UInt8) ∉ l:=by
    intro l
    induction l with
    | nil=>simp
    | cons b r ih=>
     intro hl;rw [Ir,Bool.and_eq_true] at hl;simp only [List.mem_cons,not_or];refine ⟨?_,ih hl.2⟩;rintro rfl
     have:YT 58=false:=by decide
     rw [this] at hl;exact absurd hl.1 (by decide)
   exact ht n h4
  rw [yK.2 hno];simp [hno]
end Go.Ai.Z
namespace Go.Ai.Z
open Go.Lib (itoa)
mutual
def owC:C→Rl
 | .mk k n lo hi _ ps=>
  if k=1 then wB4
  else if k=2 then wB1
  else if k=4 then lM wB6 [owN n]
  else if k=5 then lM wA5 (aaZ ps)
  else if k=6 then lM wA6 [owN n,(aaZ ps).headD []]
  else if k=7 then lM wA8 [owN n,lM wA7 [wA0,AA wA1 lo,AA wA4 hi]]
  else owN n
def aaZ:List C→List Rl
 | []=>[]
 | c::r=>owC c::aaZ r
end
theorem ZJ:∀l:List C,aaZ l=l.map owC
 | []=>by simp [aaZ]
 | c::r=>by simp [aaZ,ZJ r]
theorem BO (c:C):owC c=if c.kind=1 then wB4
  else if c.kind=2 then wB1
  else if c.kind=4 then lM wB6 [owN c.name]
  else if c.kind=5 then lM wA5 (c.parts.map owC)
  else if c.kind=6 then lM wA6 [owN c.name,(c.parts.map owC).headD []]
  else if c.kind=7 then lM wA8 [owN c.name,lM wA7 [wA0,AA wA1 c.lo,AA wA4 c.hi]]
  else owN c.name:=by cases c;simp only [owC,ZJ];rfl
theorem fA (n:Rl):(owN n).length≤n.length+1:=by unfold owN;split<;>simp
theorem U7:∀(c:C),iq c=0→(owC c).length+10≤300 * wC c:=by
 refine C.ind' fun c ih hv=>?_;obtain ⟨v1,v2,v3⟩:=JC hv;have hw:=Eo c;have hq:c.name.length≤40 * (c.name.length / 40)+39:=by omega
 have hn:=fA c.name;have hop:∀p∈c.parts,(owC p).length+10≤300 * wC p:=fun p hp=>ih p hp (v3 p hp)
 have hsum:((c.parts.map owC).map fun x=>x.length+([32]:Rl).length).sum≤300 * wL c.parts:=by
  clear ih v3 hw;generalize c.parts=l at hop
  induction l with
  | nil=>simp [wL]
  | cons a r ih=>
   have h1:=hop a (by simp);have h2:=ih (fun p hp=>hop p (by simp [hp]));simp [wL] at h2 ⊢;omega
 rw [BO];unfold lM AA ttI;rcases Iu v1 with k|k|k|k|⟨k,k1,k2,k3⟩|⟨k,k1⟩|⟨k,k1⟩
 ·simp [k];omega
 ·simp [k];omega
 ·simp [k];omega
 ·simp [k,joinL];omega
 ·have l1:=Go.Lib.itoa_length_le c.lo (by omega) (by omega);have l2:=Go.Lib.itoa_length_le c.hi (by omega) (by omega);simp [k,joinL];omega
 ·rcases hps:c.parts with _|⟨a,r⟩
  ·simp [hps] at k1
  ·have:=hop a (by simp [hps])
   rw [hps] at hw;simp only [wL] at hw;simp [k,joinL];omega
 ·have:=CZ (c.parts.map owC) [32]
  simp [k];simp at this hsum;omega
theorem Ia (s:St) (cx:Ctx) (c:C) (hps:c.parts.length≤100000)
  (ih:∀p∈c.parts,∀(s:St) (cx:Ctx),aj P0 (.fn (.func fE) [] []) [aK p] s cx=.ret (.s (owC p)) s):
  ∀(rest:List C) (i:Nat) (t:List Rl),c.parts.drop i=rest→t.length=i→
  ∃j:Int,ig (aC P0.glob (aj P0) cx false tX) [3,23,24,25] [(3,.own false au 1 (t.map .s)),(23,.v (slf c.z (c.parts.map aK))),(24,.v (.i .i64 c.parts.length)),(25,.v (.i .i64 i))] s=
   .exit 1 [(3,.own false au 1 ((t++rest.map owC).map .s)),(23,.v (slf c.z (c.parts.map aK))),(24,.v (.i .i64 c.parts.length)),(25,.v (.i .i64 j)),(26,.v (.b false))] s
 | [],i,t,h,ht=>by
  have h1:¬i<c.parts.length:=Nat.not_lt.2 (drop_nil h);refine ⟨i,ak fun K hK=>?_⟩;simp [tX,h1]
 | p::r,i,t,h,ht=>by
  obtain ⟨h1,h2,h3,h4⟩:=drop_cons h;have h5:=h4 h3;have hp:p∈c.parts:=by rw [←h5];exact List.getElem_mem h3
  have hwi:=wI (i:=i) (by omega);obtain ⟨j,ih2⟩:=Ia s cx c hps ih r (i+1) (t++[owC p]) h2 (by simp [ht]);refine ⟨j,ak fun K hK=>?_⟩;rw [←hK] at ih2;have e1:=ih p hp;clear hK h4 ih;simp at ih2;have hm:t.length+1≤aQ:=by unfold aQ;omega
  simp [tX,h3,h5,hwi,e1,hm,ih2,List.range_succ,splice]
theorem nO:∀(c:C),wC c≤1000→iq c=0→∀(s:St) (cx:Ctx),aj P0 (.fn (.func fE) [] []) [aK c] s cx=.ret (.s (owC c)) s:=by
 refine C.ind' fun c ih hw hv s cx=>?_;obtain ⟨v1,v2,v3⟩:=JC hv;have hw':=hw;rw [Eo] at hw'
 have hO:∀p∈c.parts,∀(s:St) (cx:Ctx),aj P0 (.fn (.func fE) [] []) [aK p] s cx=.ret (.s (owC p)) s:=fun p hp=>
  ih p hp (by have:=Lp hp;omega) (v3 p hp)
 have hl:∀p∈c.parts,(owC p).length+10≤300 * wC p:=fun p hp=>U7 p (v3 p hp);have hlen:=Pv c.parts;have htl:=U7 c hv;have hnl:c.name.length≤100000:=by omega
 have hN:=fA c.name;have eN:=bV c.name (by omega);clear ih;refine QO (by simp) ?_;rcases Iu v1 with k|k|k|k|⟨k,k1,k2,k3⟩|⟨k,k1⟩|⟨k,k1⟩
 ·rw [show owC c=_ from by rw [BO,if_pos k]];simp [af,jX,kd k]
 ·rw [show owC c=_ from by rw [BO,if_neg (by omega),if_pos k]];simp [af,jX,kd k,kn 1 k rfl]
 ·rw [show owC c=owN c.name from by rw [BO,if_neg (by omega),if_neg (by omega),if_neg (by omega),if_neg (by omega),if_neg (by omega),if_neg (by omega)]];simp [af,jX,kn 1 k rfl,kn 2 k rfl,kn 4 k rfl,kn 5 k rfl,kn 6 k rfl,kn 7 k rfl,eN]
 ·rw [show owC c=_ from by rw [BO,if_neg (by omega),if_neg (by omega),if_pos k]];have e1:=eG wB6 [owN c.name] (by decide) (by simp [joinL];omega) (by simp);simp at e1;simp [af,jX,kd k,kn 1 k rfl,kn 2 k rfl,eN,e1]
 ·rw [show owC c=_ from by rw [BO,if_neg (by omega),if_neg (by omega),if_neg (by omega),if_neg (by omega),if_neg (by omega),if_pos k]];have l1:=Go.Lib.itoa_length_le c.lo (by omega) (by omega);have l2:=Go.Lib.itoa_length_le c.hi (by omega) (by omega);have e1:=Og wA1 c.lo (by decide) (by omega) (by omega);have e2:=Og wA4 c.hi (by decide) (by omega) (by omega);have e3:=eG wA7 [wA0,AA wA1 c.lo,AA wA4 c.hi] (by decide) (by simp [joinL,AA,ttI];omega) (by simp);have e4:=eG wA8 [owN c.name,lM wA7 [wA0,AA wA1 c.lo,AA wA4 c.hi]] (by decide) (by simp [joinL,lM,AA,ttI];omega) (by simp);generalize lM wA7 [wA0,AA wA1 c.lo,AA wA4 c.hi]=Z at *;simp at e3 e4;simp [af,jX,kd k,kn 1 k rfl,kn 2 k rfl,kn 4 k rfl,kn 5 k rfl,kn 6 k rfl,eN,e1,e2,e3,e4,List.range_succ]
 ·rcases hps:c.parts with _|⟨a,r⟩
  ·simp [hps] at k1
  ·have e1:=hO a (by simp [hps]);have l1:=hl a (by simp [hps]);have hwa:wC a≤1000:=by have:=Lp (p:=a) (l:=c.parts) (by simp [hps]);omega
   rw [show owC c=_ from by rw [BO,if_neg (by omega),if_neg (by omega),if_neg (by omega),if_neg (by omega),if_pos k]];have e4:=eG wA6 [owN c.name,owC a] (by decide) (by simp [joinL];omega) (by simp);simp at e4;simp [af,jX,kd k,kn 1 k rfl,kn 2 k rfl,kn 4 k rfl,kn 5 k rfl,eN,e1,e4,hps,List.range_succ]
 ·rw [show owC c=_ from by rw [BO,if_neg (by omega),if_neg (by omega),if_neg (by omega),if_pos k]];obtain ⟨j,h⟩:=Ia s ⟨s.length,s.length⟩ c (by omega) hO c.parts 0 [] rfl rfl;have hj:=CZ (c.parts.map owC) [32]
  have hs:((c.parts.map owC).map fun x=>x.length+([32]:Rl).length).sum≤300 * wL c.parts:=by
   clear hO h hlen htl hN eN hnl hw' hw hj v3 k1;generalize c.parts=l at hl
   induction l with
   | nil=>simp [wL]
   | cons a r ih=>
    have h1:=hl a (by simp);have h2:=ih (fun p hp=>hl p (by simp [hp]));simp [wL] at h2 ⊢;omega
  have e1:=eG wA5 (c.parts.map owC) (by decide) (by omega) (by simp;omega);simp at h e1;simp [af,jX,kd k,kn 1 k rfl,kn 2 k rfl,kn 4 k rfl,h,e1]
end Go.Ai.Z
namespace Go.Ai.Z
open Go.Lib (itoa)
end Go.Ai.Z
namespace Go.Ai.Z
def fM:Rl:=wD1
def iw (x:Ax):List Rl:=if x.op=true then [fM] else []
def yA (k:Int):Rl:=
 if k=1 then wC2
 else if k=2 then wB3
 else if k=3 then wB5
 else if k=4 then wB2
 else if k=5 then wA3
 else if k=6 then wA3
 else if k=7 then wA9
 else if k=8 then wB7
 else wB0
def y5 (x:Ax):List Rl:=
 if x.kind=1 then [owC x.left,owC x.right]
 else if x.kind=2 then [owC x.left,owC x.right]
 else if x.kind=3 then [owC x.left,owC x.right]
 else if x.kind=4 then [owN x.role,owC x.right]
 else if x.kind=5 then [owN (x.roles.headD []),owN x.role]
 else if x.kind=6 then [lM wA2 (x.roles.map owN),owN x.role]
 else if x.kind=7 then [owN x.role]
 else if x.kind=8 then [owC x.right,owN x.a]
 else [owN x.role,owN x.a,owN x.b]
def owA (x:Ax):Rl:=lM (yA x.kind) (iw x++y5 x)
theorem EY {c:C} (hw:wC c≤150) (hv:iq c=0):(owC c).length≤45000:=by have:=U7 c hv;omega
theorem FC (s:St) (cx:Ctx) (z:Bool) (roles:List Rl) (hl:roles.length≤600) (hb:∀r∈roles,r.length≤600) (V1 V4:List AV):
  ∀(rest:List Rl) (i:Nat) (t:List Rl),roles.drop i=rest→t.length=i→
  ∃j:Int,ig (aC P0.glob (aj P0) cx false wu) [1,4,5,75,76,77] [(1,.bx V1),(4,.own false au 1 V4),(5,.own false au 1 (t.map .s)),(75,.v (slf z (roles.map .s))),(76,.v (.i .i64 roles.length)),(77,.v (.i .i64 i))] s=
   .exit 1 [(1,.bx V1),(4,.own false au 1 V4),(5,.own false au 1 ((t++rest.map owN).map .s)),(75,.v (slf z (roles.map .s))),(76,.v (.i .i64 roles.length)),(77,.v (.i .i64 j)),(78,.v (.b false))] s
 | [],i,t,h,ht=>by
  have h1:¬i<roles.length:=Nat.not_lt.2 (drop_nil h);refine ⟨i,ak fun K hK=>?_⟩;simp [wu,h1]
 | p::r,i,t,h,ht=>by
  obtain ⟨h1,h2,h3,h4⟩:=drop_cons h;have h5:=h4 h3;have hp:p∈roles:=by rw [←h5];exact List.getElem_mem h3
  have hwi:=wI (i:=i) (by omega);have hpl:=hb p hp;obtain ⟨j,ih2⟩:=FC s cx z roles hl hb V1 V4 r (i+1) (t++[owN p]) h2 (by simp [ht]);refine ⟨j,ak fun K hK=>?_⟩;rw [←hK] at ih2;have e1:=bV p (by omega);clear hK h4;simp at ih2;have hm:t.length+1≤aQ:=by unfold aQ;omega
  simp [wu,h3,h5,hwi,e1,hm,ih2,List.range_succ]
theorem afs (x:Ax) (hx:x.Few) (hg:x.Good) (k:x.kind=1) (s:St) (cx:Ctx):aj P0 (.fn (.func jP) [] []) [bY x] s cx=.ret (.s (owA x)) s:=by
 have hs1:1≤aQ:=by decide
 have hs2:2≤aQ:=by decide
 have hs3:3≤aQ:=by decide
 have hs4:4≤aQ:=by decide
 have a1:=fA x.role;have a2:=fA x.a;have a3:=fA x.b;have b1:=hx.role;have b2:=hx.a;have b3:=hx.b;have e1:=bV x.role (by omega);have e2:=bV x.a (by omega);have e3:=bV x.b (by omega);have vl:=hg.l (by simp [k]);have cl:=nO x.left (by have:=hx.l;omega) vl;have ll:=EY hx.l vl;have vr:=hg.r (by simp [k]);have cr:=nO x.right (by have:=hx.r;omega) vr;have lr:=EY hx.r vr
 have ho:owA x=lM wC2 (iw x++[owC x.left,owC x.right]):=by
  unfold owA yA y5;simp [k]
 rw [ho];cases hop:x.op
 ·have hn:iw x=[]:=by unfold iw;rw [hop];rfl
  rw [hn];have ec:=eG wC2 ([]++[owC x.left,owC x.right]) (by decide) (by simp [joinL,fM];omega) (by simp);simp [fM] at ec ⊢;refine fB (by simp) ?_;simp -implicitDefEqProofs [af,dK,bY,cellsA,k,hop,e1,e2,e3,ec,List.range_succ,hs1,hs2,hs3,hs4,cl,cr]
 ·have hn:iw x=[fM]:=by unfold iw;rw [hop];rfl
  rw [hn];have ec:=eG wC2 ([fM]++[owC x.left,owC x.right]) (by decide) (by simp [joinL,fM];omega) (by simp);simp [fM] at ec ⊢;refine fB (by simp) ?_;simp -implicitDefEqProofs [af,dK,bY,cellsA,k,hop,e1,e2,e3,ec,List.range_succ,hs1,hs2,hs3,hs4,cl,cr]
theorem afr (x:Ax) (hx:x.Few) (hg:x.Good) (k:x.kind=2) (s:St) (cx:Ctx):aj P0 (.fn (.func jP) [] []) [bY x] s cx=.ret (.s (owA x)) s:=by
 have hs1:1≤aQ:=by decide
 have hs2:2≤aQ:=by decide
 have hs3:3≤aQ:=by decide
 have hs4:4≤aQ:=by decide
 have a1:=fA x.role;have a2:=fA x.a;have a3:=fA x.b;have b1:=hx.role;have b2:=hx.a;have b3:=hx.b;have e1:=bV x.role (by omega);have e2:=bV x.a (by omega);have e3:=bV x.b (by omega);have vl:=hg.l (by simp [k]);have cl:=nO x.left (by have:=hx.l;omega) vl;have ll:=EY hx.l vl;have vr:=hg.r (by simp [k]);have cr:=nO x.right (by have:=hx.r;omega) vr;have lr:=EY hx.r vr
 have ho:owA x=lM wB3 (iw x++[owC x.left,owC x.right]):=by
  unfold owA yA y5;simp [k]
 rw [ho];cases hop:x.op
 ·have hn:iw x=[]:=by unfold iw;rw [hop];rfl
  rw [hn];have ec:=eG wB3 ([]++[owC x.left,owC x.right]) (by decide) (by simp [joinL,fM];omega) (by simp);simp [fM] at ec ⊢;refine fB (by simp) ?_;simp -implicitDefEqProofs [af,dK,bY,cellsA,k,hop,e1,e2,e3,ec,List.range_succ,hs1,hs2,hs3,hs4,cl,cr]
 ·have hn:iw x=[fM]:=by unfold iw;rw [hop];rfl
  rw [hn];have ec:=eG wB3 ([fM]++[owC x.left,owC x.right]) (by decide) (by simp [joinL,fM];omega) (by simp);simp [fM] at ec ⊢;refine fB (by simp) ?_;simp -implicitDefEqProofs [af,dK,bY,cellsA,k,hop,e1,e2,e3,ec,List.range_succ,hs1,hs2,hs3,hs4,cl,cr]
theorem afq (x:Ax) (hx:x.Few) (hg:x.Good) (k:x.kind=3) (s:St) (cx:Ctx):aj P0 (.fn (.func jP) [] []) [bY x] s cx=.ret (.s (owA x)) s:=by
 have hs1:1≤aQ:=by decide
 have hs2:2≤aQ:=by decide
 have hs3:3≤aQ:=by decide
 have hs4:4≤aQ:=by decide
 have a1:=fA x.role;have a2:=fA x.a;have a3:=fA x.b;have b1:=hx.role;have b2:=hx.a;have b3:=hx.b;have e1:=bV x.role (by omega);have e2:=bV x.a (by omega);have e3:=bV x.b (by omega);have vl:=hg.l (by simp [k]);have cl:=nO x.left (by have:=hx.l;omega) vl;have ll:=EY hx.l vl;have vr:=hg.r (by simp [k]);have cr:=nO x.right (by have:=hx.r;omega) vr;have lr:=EY hx.r vr
 have ho:owA x=lM wB5 (iw x++[owC x.left,owC x.right]):=by
  unfold owA yA y5;simp [k]
 rw [ho];cases hop:x.op
 ·have hn:iw x=[]:=by unfold iw;rw [hop];rfl
  rw [hn];have ec:=eG wB5 ([]++[owC x.left,owC x.right]) (by decide) (by simp [joinL,fM];omega) (by simp);simp [fM] at ec ⊢;refine fB (by simp) ?_;simp -implicitDefEqProofs [af,dK,bY,cellsA,k,hop,e1,e2,e3,ec,List.range_succ,hs1,hs2,hs3,hs4,cl,cr]
 ·have hn:iw x=[fM]:=by unfold iw;rw [hop];rfl
  rw [hn];have ec:=eG wB5 ([fM]++[owC x.left,owC x.right]) (by decide) (by simp [joinL,fM];omega) (by simp);simp [fM] at ec ⊢;refine fB (by simp) ?_;simp -implicitDefEqProofs [af,dK,bY,cellsA,k,hop,e1,e2,e3,ec,List.range_succ,hs1,hs2,hs3,hs4,cl,cr]
theorem afp (x:Ax) (hx:x.Few) (hg:x.Good) (k:x.kind=4) (s:St) (cx:Ctx):aj P0 (.fn (.func jP) [] []) [bY x] s cx=.ret (.s (owA x)) s:=by
 have hs1:1≤aQ:=by decide
 have hs2:2≤aQ:=by decide
 have hs3:3≤aQ:=by decide
 have hs4:4≤aQ:=by decide
 have a1:=fA x.role;have a2:=fA x.a;have a3:=fA x.b;have b1:=hx.role;have b2:=hx.a;have b3:=hx.b;have e1:=bV x.role (by omega);have e2:=bV x.a (by omega);have e3:=bV x.b (by omega);have vr:=hg.r (by simp [k]);have cr:=nO x.right (by have:=hx.r;omega) vr;have lr:=EY hx.r vr
 have ho:owA x=lM wB2 (iw x++[owN x.role,owC x.right]):=by
  unfold owA yA y5;simp [k]
 rw [ho];cases hop:x.op
 ·have hn:iw x=[]:=by unfold iw;rw [hop];rfl
  rw [hn];have ec:=eG wB2 ([]++[owN x.role,owC x.right]) (by decide) (by simp [joinL,fM];omega) (by simp);simp [fM] at ec ⊢;refine fB (by simp) ?_;simp -implicitDefEqProofs [af,dK,bY,cellsA,k,hop,e1,e2,e3,ec,List.range_succ,hs1,hs2,hs3,hs4,cr]
 ·have hn:iw x=[fM]:=by unfold iw;rw [hop];rfl
  rw [hn];have ec:=eG wB2 ([fM]++[owN x.role,owC x.right]) (by decide) (by simp [joinL,fM];omega) (by simp);simp [fM] at ec ⊢;refine fB (by simp) ?_;simp -implicitDefEqProofs [af,dK,bY,cellsA,k,hop,e1,e2,e3,ec,List.range_succ,hs1,hs2,hs3,hs4,cr]
theorem afo (x:Ax) (hx:x.Few) (hg:x.Good) (k:x.kind=5) (s:St) (cx:Ctx):aj P0 (.fn (.func jP) [] []) [bY x] s cx=.ret (.s (owA x)) s:=by
 have hs1:1≤aQ:=by decide
 have hs2:2≤aQ:=by decide
 have hs3:3≤aQ:=by decide
 have hs4:4≤aQ:=by decide
 have a1:=fA x.role;have a2:=fA x.a;have a3:=fA x.b;have b1:=hx.role;have b2:=hx.a;have b3:=hx.b;have e1:=bV x.role (by omega);have e2:=bV x.a (by omega);have e3:=bV x.b (by omega)
 obtain ⟨r0,hr0⟩:∃r0,x.roles=[r0]:=by
  have:=hg.r5 k
  match hh:x.roles,this with
  | [r0],_=>exact ⟨r0,rfl⟩
 have br:=hx.rs r0 (by rw [hr0];simp);have ar:=fA r0;have e4:=bV r0 (by omega)
 have ho:owA x=lM wA3 (iw x++[owN (x.roles.headD []),owN x.role]):=by
  unfold owA yA y5;simp [k]
 rw [ho];cases hop:x.op
 ·have hn:iw x=[]:=by unfold iw;rw [hop];rfl
  rw [hn];rw [hr0];simp only [List.headD_cons];have ec:=eG wA3 ([]++[owN (r0),owN x.role]) (by decide) (by simp [joinL,fM];omega) (by simp);simp [fM] at ec ⊢;refine fB (by simp) ?_;simp -implicitDefEqProofs [af,dK,bY,cellsA,k,hop,e1,e2,e3,ec,List.range_succ,hs1,hs2,hs3,hs4,hr0,e4]
 ·have hn:iw x=[fM]:=by unfold iw;rw [hop];rfl
  rw [hn];rw [hr0];simp only [List.headD_cons];have ec:=eG wA3 ([fM]++[owN (r0),owN x.role]) (by decide) (by simp [joinL,fM];omega) (by simp);simp [fM] at ec ⊢;refine fB (by simp) ?_;simp -implicitDefEqProofs [af,dK,bY,cellsA,k,hop,e1,e2,e3,ec,List.range_succ,hs1,hs2,hs3,hs4,hr0,e4]
theorem afn (x:Ax) (hx:x.Few) (hg:x.Good) (k:x.kind=6) (s:St) (cx:Ctx):aj P0 (.fn (.func jP) [] []) [bY x] s cx=.ret (.s (owA x)) s:=by
 have hs1:1≤aQ:=by decide
 have hs2:2≤aQ:=by decide
 have hs3:3≤aQ:=by decide
 have hs4:4≤aQ:=by decide
 have a1:=fA x.role;have a2:=fA x.a;have a3:=fA x.b;have b1:=hx.role;have b2:=hx.a;have b3:=hx.b;have e1:=bV x.role (by omega);have e2:=bV x.a (by omega);have e3:=bV x.b (by omega)
 have ho:owA x=lM wA3 (iw x++[lM wA2 (x.roles.map owN),owN x.role]):=by
  unfold owA yA y5;simp [k]
 rw [ho];obtain ⟨h2,h4⟩:=hg.r6 k;have hj:=CZ (x.roles.map owN) [32]
 have hsum:((x.roles.map owN).map fun y=>y.length+([32]:Rl).length).sum≤602 * x.roles.length:=by
  have hb:=hx.rs;clear hj h2 h4 ho;generalize x.roles=l at hb
  induction l with
  | nil=>simp
  | cons a r ih=>
   have q1:=hb a (by simp);have q2:=ih (fun p hp=>hb p (by simp [hp]));have q3:=fA a;simp at q2 ⊢;omega
 have e5:=eG wA2 (x.roles.map owN) (by decide) (by omega) (by simp;omega);have hcl:(lM wA2 (x.roles.map owN)).length≤10000:=by unfold lM;simp;omega
 generalize lM wA2 (x.roles.map owN)=CH at *;cases hop:x.op
 ·have hn:iw x=[]:=by unfold iw;rw [hop];rfl
  rw [hn];obtain ⟨j,h⟩:=FC s ⟨s.length,s.length⟩ x.z x.roles (by omega) hx.rs (cellsA x) [] x.roles 0 [] rfl rfl;have ec:=eG wA3 ([]++[CH,owN x.role]) (by decide) (by simp [joinL,fM];omega) (by simp);simp [fM,cellsA,k,hop] at h;simp [fM] at ec e5 ⊢;refine fB (by simp) ?_;simp -implicitDefEqProofs [af,dK,bY,cellsA,k,hop,e1,e5,ec,h,List.range_succ,hs1,hs2,hs3,hs4]
 ·have hn:iw x=[fM]:=by unfold iw;rw [hop];rfl
  rw [hn];obtain ⟨j,h⟩:=FC s ⟨s.length,s.length⟩ x.z x.roles (by omega) hx.rs (cellsA x) [.s fM] x.roles 0 [] rfl rfl;have ec:=eG wA3 ([fM]++[CH,owN x.role]) (by decide) (by simp [joinL,fM];omega) (by simp);simp [fM,cellsA,k,hop] at h;simp [fM] at ec e5 ⊢;refine fB (by simp) ?_;simp -implicitDefEqProofs [af,dK,bY,cellsA,k,hop,e1,e5,ec,h,List.range_succ,hs1,hs2,hs3,hs4]
theorem afm (x:Ax) (hx:x.Few) (hg:x.Good) (k:x.kind=7) (s:St) (cx:Ctx):aj P0 (.fn (.func jP) [] []) [bY x] s cx=.ret (.s (owA x)) s:=by
 have hs1:1≤aQ:=by decide
 have hs2:2≤aQ:=by decide
 have hs3:3≤aQ:=by decide
 have hs4:4≤aQ:=by decide
 have a1:=fA x.role;have a2:=fA x.a;have a3:=fA x.b;have b1:=hx.role;have b2:=hx.a;have b3:=hx.b;have e1:=bV x.role (by omega);have e2:=bV x.a (by omega);have e3:=bV x.b (by omega)
 have ho:owA x=lM wA9 (iw x++[owN x.role]):=by
  unfold owA yA y5;simp [k]
 rw [ho];cases hop:x.op
 ·have hn:iw x=[]:=by unfold iw;rw [hop];rfl
  rw [hn];have ec:=eG wA9 ([]++[owN x.role]) (by decide) (by simp [joinL,fM];omega) (by simp);simp [fM] at ec ⊢;refine fB (by simp) ?_;simp -implicitDefEqProofs [af,dK,bY,cellsA,k,hop,e1,e2,e3,ec,List.range_succ,hs1,hs2,hs3,hs4]
 ·have hn:iw x=[fM]:=by unfold iw;rw [hop];rfl
  rw [hn];have ec:=eG wA9 ([fM]++[owN x.role]) (by decide) (by simp [joinL,fM];omega) (by simp);simp [fM] at ec ⊢;refine fB (by simp) ?_;simp -implicitDefEqProofs [af,dK,bY,cellsA,k,hop,e1,e2,e3,ec,List.range_succ,hs1,hs2,hs3,hs4]
theorem afl (x:Ax) (hx:x.Few) (hg:x.Good) (k:x.kind=8) (s:St) (cx:Ctx):aj P0 (.fn (.func jP) [] []) [bY x] s cx=.ret (.s (owA x)) s:=by
 have hs1:1≤aQ:=by decide
 have hs2:2≤aQ:=by decide
 have hs3:3≤aQ:=by decide
 have hs4:4≤aQ:=by decide
 have a1:=fA x.role;have a2:=fA x.a;have a3:=fA x.b;have b1:=hx.role;have b2:=hx.a;have b3:=hx.b;have e1:=bV x.role (by omega);have e2:=bV x.a (by omega);have e3:=bV x.b (by omega);have vr:=hg.r (by simp [k]);have cr:=nO x.right (by have:=hx.r;omega) vr;have lr:=EY hx.r vr
 have ho:owA x=lM wB7 (iw x++[owC x.right,owN x.a]):=by
  unfold owA yA y5;simp [k]
 rw [ho];cases hop:x.op
 ·have hn:iw x=[]:=by unfold iw;rw [hop];rfl
  rw [hn];have ec:=eG wB7 ([]++[owC x.right,owN x.a]) (by decide) (by simp [joinL,fM];omega) (by simp);simp [fM] at ec ⊢;refine fB (by simp) ?_;simp -implicitDefEqProofs [af,dK,bY,cellsA,k,hop,e1,e2,e3,ec,List.range_succ,hs1,hs2,hs3,hs4,cr]
 ·have hn:iw x=[fM]:=by unfold iw;rw [hop];rfl
  rw [hn];have ec:=eG wB7 ([fM]++[owC x.right,owN x.a]) (by decide) (by simp [joinL,fM];omega) (by simp);simp [fM] at ec ⊢;refine fB (by simp) ?_;simp -implicitDefEqProofs [af,dK,bY,cellsA,k,hop,e1,e2,e3,ec,List.range_succ,hs1,hs2,hs3,hs4,cr]
theorem afk (x:Ax) (hx:x.Few) (hg:x.Good) (k:x.kind=9) (s:St) (cx:Ctx):aj P0 (.fn (.func jP) [] []) [bY x] s cx=.ret (.s (owA x)) s:=by
 have hs1:1≤aQ:=by decide
 have hs2:2≤aQ:=by decide
 have hs3:3≤aQ:=by decide
 have hs4:4≤aQ:=by decide
 have a1:=fA x.role;have a2:=fA x.a;have a3:=fA x.b;have b1:=hx.role;have b2:=hx.a;have b3:=hx.b;have e1:=bV x.role (by omega);have e2:=bV x.a (by omega);have e3:=bV x.b (by omega)
 have ho:owA x=lM wB0 (iw x++[owN x.role,owN x.a,owN x.b]):=by
  unfold owA yA y5;simp [k]
 rw [ho];cases hop:x.op
 ·have hn:iw x=[]:=by unfold iw;rw [hop];rfl
  rw [hn];have ec:=eG wB0 ([]++[owN x.role,owN x.a,owN x.b]) (by decide) (by simp [joinL,fM];omega) (by simp);simp [fM] at ec ⊢;refine fB (by simp) ?_;simp -implicitDefEqProofs [af,dK,bY,cellsA,k,hop,e1,e2,e3,ec,List.range_succ,hs1,hs2,hs3,hs4]
 ·have hn:iw x=[fM]:=by unfold iw;rw [hop];rfl
  rw [hn];have ec:=eG wB0 ([fM]++[owN x.role,owN x.a,owN x.b]) (by decide) (by simp [joinL,fM];omega) (by simp);simp [fM] at ec ⊢;refine fB (by simp) ?_;simp -implicitDefEqProofs [af,dK,bY,cellsA,k,hop,e1,e2,e3,ec,List.range_succ,hs1,hs2,hs3,hs4]
theorem XY (x:Ax) (hx:x.Few) (hg:x.Good) (s:St) (cx:Ctx):aj P0 (.fn (.func jP) [] []) [bY x] s cx=.ret (.s (owA x)) s:=by
 rcases hg.k with k|k|k|k|k|k|k|k|k
 ·exact afs x hx hg k s cx
 ·exact afr x hx hg k s cx
 ·exact afq x hx hg k s cx
 ·exact afp x hx hg k s cx
 ·exact afo x hx hg k s cx
 ·exact afn x hx hg k s cx
 ·exact afm x hx hg k s cx
 ·exact afl x hx hg k s cx
 ·exact afk x hx hg k s cx
def agp (n:Rl):Prop:=Jz n=[] ↔ (58:UInt8) ∉ n
structure Ax.Nm (x:Ax):Prop where
 role:x.kind=4∨x.kind=5∨x.kind=6∨x.kind=7∨x.kind=9→agp x.role
 rs:∀r∈x.roles,agp r
 a:x.kind=8∨x.kind=9→agp x.a
 b:x.kind=9→agp x.b
theorem UC:∀{l:List Rl},allPlain l=true→∀r∈l,oJ r=true
 | [],_,_,h=>by simp at h
 | a::l,hl,r,h=>by
  simp only [allPlain,Bool.and_eq_true] at hl;rcases List.mem_cons.1 h with rfl|h
  ·exact hl.1
  ·exact UC hl.2 r h
theorem ZW (z:Bool) (l:List Ax) (hl:l.length≤1024) (hx:∀x∈l,x.Few) (s:St) (cx:Ctx):
  ∀(rest:List Ax) (i:Nat),l.drop i=rest→yM rest≠0→
  ig (aC P0.glob (aj P0) cx false iG) [0,2,3,21,22,23]
   [(0,.v (slf z (l.map bY))),(2,.bx [.ns,.ns,.ns,.ns]),(3,.v (.i .i64 0)),(21,.v (slf z (l.map bY))),(22,.v (.i .i64 l.length)),(23,.v (.i .i64 i))] s=
   .ret [(2,.bx [.ns,.ns,.ns,.ns]),(3,.v (.i .i64 (yM rest)))] s
 | [],i,h,hn=>absurd rfl hn
 | x::rest,i,h,hn=>by
  obtain ⟨g1,g2,g3,g4⟩:=drop_cons h;have g5:=g4 g3;have hwi:=wI (i:=i) (by omega);have hm:x∈l:=by rw [←g5];exact List.getElem_mem g3
  have e1:=wP x (hx x hm);by_cases h0:dW x=0
  ·have ih:=ZW z l hl hx s cx rest (i+1) g2 (by rw [yM,if_pos h0] at hn;exact hn);refine ak fun K hK=>?_;rw [←hK,show ((i+1:Nat):Int)=(i:Int)+1 from rfl] at ih;clear hK g4 hx;have hc:yM (x::rest)=yM rest:=by rw [yM,if_pos h0]
   rw [hc,←ih];rw [h0] at e1;simp -implicitDefEqProofs [iG,g3,g5,hwi,e1]
  ·refine ak fun K hK=>?_;clear hK g4 hx;have hc:yM (x::rest)=dW x:=by rw [yM,if_neg h0]
   rw [hc];simp -implicitDefEqProofs [iG,g3,g5,hwi,e1,h0,dU,splice]
theorem Ht (z:Bool) (l:List Ax) (hl:l.length≤1024) (hx:∀x∈l,x.Few) (h0:yM l≠0) (s:St) (cx:Ctx):
  aj P0 (.fn (.func lV) [] []) [slf z (l.map bY)] s cx=.ret (.tu [.ag [.ns,.ns,.ns,.ns],.i .i64 (yM l)]) s:=by
 have e0:=ZW z l (by omega) hx s ⟨s.length,s.length⟩ l 0 rfl h0;refine zG (by simp) ?_;simp at e0;simp -implicitDefEqProofs [af,mZ,e0]
def oK (a:Rl):List Rl→List Rl
 | []=>[]
 | b::r=>if b=a then oK b r else b::oK b r
def gm:List Rl→List Rl
 | []=>[]
 | a::r=>a::oK a r
theorem Ea:∀(a:Rl) (l:List Rl),(oK a l).Sublist l
 | a,[]=>.slnil
 | a,b::r=>by
  unfold oK;split
  ·exact (Ea b r).cons _
  ·exact (Ea b r).cons_cons _
theorem Uw:∀l:List Rl,(gm l).Sublist l
 | []=>.slnil
 | a::r=>(Ea a r).cons_cons _
theorem Rk (a:Rl):∀(l:List Rl) (b:Rl),oK a (l++[b])=if b=l.getLastD a then oK a l else oK a l++[b]
 | [],b=>by simp [oK]
 | x::l,b=>by
  simp only [List.cons_append,oK];have h:=Rk x l b;have hl:(x::l).getLastD a=l.getLastD x:=List.getLastD_cons;rw [h,hl]
  split<;>split<;>rfl
theorem Rh (L:List Rl) (j:Nat) (h:j+1<L.length):gm (L.take (j+2))=if L[j+1]=L[j] then gm (L.take (j+1)) else gm (L.take (j+1))++[L[j+1]]:=by
 have h1:L.take (j+2)=L.take (j+1)++[L[j+1]]:=List.take_succ_eq_append_getElem h;rw [h1]
 have h2:∃a r,L.take (j+1)=a::r∧r.getLastD a=L[j]:=by
  have h3:L.take (j+1)=L.take j++[L[j]]:=List.take_succ_eq_append_getElem (by omega);rw [h3]
  cases hL:L.take j with
  | nil=>exact ⟨_,_,rfl,rfl⟩
  | cons a r=>exact ⟨a,r++[L[j]],rfl,by simp⟩
 obtain ⟨a,r,e1,e2⟩:=h2;rw [e1];simp only [List.cons_append,gm,Rk,e2]
 split<;>rfl
theorem XK (l:List Rl):(gm l).length≤l.length:=(Uw l).length_le
@[simp] theorem ahI {env:Env} {l ver sz o n:Nat}:vH env (some (.v (.sk l ver sz o n)))=none:=rfl
section
variable (L:List Rl) (hL:L.length≤200000) (s:St) (cx:Ctx) (l t ver:Nat) (hl:l<s.length) (hlim:cx.lim≤l) (hbase:cx.base≤l)
include hL hl hlim hbase
theorem NP (k0:Nat) (hk0:1≤k0):∀(d q:Nat),k0+q+1+d=L.length→(gm (L.take (k0+q+1))).length≤k0+q→
  ∃k2:Int,ig (aC P0.glob (aj P0) cx true eX) [0,3,4,5]
   [(0,.v (.sk l ver 1 0 L.length)),(3,.v (.i .i64 (gm (L.take (k0+q+1))).length)),(4,.v (.sk l ver 1 k0 (L.length - k0))),(5,.v (.i .i64 ((q+1:Nat):Int)))]
   (s.set l (.buf t 1 ver ((gm (L.take (k0+q+1))++L.drop (gm (L.take (k0+q+1))).length).map .s)))=
   .exit 2 [(0,.v (.sk l ver 1 0 L.length)),(3,.v (.i .i64 (gm L).length)),(4,.v (.sk l ver 1 k0 (L.length - k0))),(5,.v (.i .i64 k2)),(32,.v (.b false))]
   (s.set l (.buf t 1 ver ((gm L++L.drop (gm L).length).map .s)))
 | 0,q,hd,hq=>by
  have h1:L.take (k0+q+1)=L:=List.take_of_length_le (by omega);have h2:¬(q+1<L.length - k0):=by omega
  refine ⟨((q+1:Nat):Int),ak fun K hK=>?_⟩;rw [h1];simp [eX,h2]
  repeat' (first | (split<;>(try simp only [gy,gB,gJ,kz,kC])<;>(try simp [*])) | (simp only [gy,gB,gJ,kz,kC]<;>(try simp [*]))|omega)
 | d+1,q,hd,hq=>by
  have hj:k0+q+1<L.length:=by omega
  have hct:=Rh L (k0+q) hj
  obtain ⟨k2,ih⟩:=NP k0 hk0 d (q+1) (by omega) (by
   rw [show k0+(q+1)+1=k0+q+2 by omega,hct];split
   ·omega
   ·simp;omega)
  refine ⟨k2,ak fun K hK=>?_⟩;rw [←hK] at ih;clear hK;have hwl:=hq;rw [show k0+(q+1)+1=k0+q+2 by omega,hct] at ih;generalize hW:gm (L.take (k0+q+1))=W at ih hwl;have h2:q+1<L.length - k0:=by omega
  generalize hM:W++L.drop W.length=M;have hMl:M.length=L.length:=by rw [←hM];simp;omega
  have hg:∀i,W.length≤i→i<L.length→M[i]?=L[i]?:=by
   intro i h3 h4;rw [←hM,List.getElem?_append_right h3,List.getElem?_drop];congr 1;omega
  have hp1:M[k0+(q+1)]?=some L[k0+q+1]:=by
   rw [hg _ (by omega) (by omega),List.getElem?_eq_getElem (by omega:k0+(q+1)<L.length)];rfl
  have hp2:M[k0+q]?=some L[k0+q]:=by
   rw [hg _ (by omega) (by omega),List.getElem?_eq_getElem (by omega:k0+q<L.length)]
  have hs:splice (M.map AV.s) W.length [.s L[k0+q+1]]=(M.set W.length L[k0+q+1]).map .s:=by
   simp only [splice,List.length_cons,List.length_nil,←List.map_take,←List.map_drop];rw [List.set_eq_take_append_cons_drop,if_pos (by omega)];simp
  have hset:M.set W.length L[k0+q+1]=(W++[L[k0+q+1]])++L.drop (W++[L[k0+q+1]]).length:=by
   rw [←hM];have h3:L.drop W.length=L[W.length]'(by omega)::L.drop (W.length+1):=List.drop_eq_getElem_cons (by omega);rw [h3,List.set_append_right _ _ (Nat.le_refl _),Nat.sub_self,List.set_cons_zero];simp
  rw [hset] at hs
  have hwi1:IntKind.i64.wrap (q:Int)=(q:Int):=by rw [w64]<;>omega
  have hwi2:IntKind.i64.wrap ((q:Int)+1+1)=(q:Int)+1+1:=by rw [w64]<;>omega
  have h2i:(q:Int)+1<((L.length - k0:Nat):Int):=by omega
  have h2j:q<L.length - k0:=by omega
  have h00:(0:Int)≤(q:Int)+1:=by omega
  have hWL:W.length<L.length:=by omega
  have hwi3:=wI (i:=W.length) (by omega);have hfit:W.length+1≤M.length:=by omega
  clear hct hq hW hg hset;by_cases hc:L[k0+q+1]=L[k0+q]
  ·rw [if_pos hc,hM] at ih;simp [eX,h00,hWL,h2,h2i,h2j,hl,hp1,hp2,hwi1,hwi2,hc] at ih ⊢;exact ih
  ·rw [if_neg hc] at ih;simp [eX,h00,hWL,h2,h2i,h2j,hl,hp1,hp2,hwi1,hwi2,hwi3,hc,hfit,hlim,hbase] at ih ⊢;simp [splice] at hs;rw [hs];exact ih
def zq (L:List Rl):List AV:=(gm L).map AV.s++List.replicate (L.length - (gm L).length) (AV.s [])
theorem NQ:∀(d k:Nat),k+1+d=L.length→gm (L.take (k+1))=L.take (k+1)→
  ig (aC P0.glob (aj P0) cx true eY) [0,3]
   [(0,.v (.sk l ver 1 0 L.length)),(3,.v (.i .i64 ((k+1:Nat):Int)))] (s.set l (.buf t 1 ver (L.map .s)))=
   if (gm L).length=L.length then .exit 0 [(0,.v (.sk l ver 1 0 L.length)),(3,.v (.i .i64 L.length)),(13,.v (.b false))] (s.set l (.buf t 1 ver (zq L)))
   else .ret [(2,.v (.sk l ver 1 0 (gm L).length))] (s.set l (.buf t 1 ver (zq L)))
 | 0,k,hd,hc=>by
  have h1:L.take (k+1)=L:=List.take_of_length_le (by omega);rw [h1] at hc;have h2:¬((k:Int)+1<(L.length:Int)):=by omega
  have h3:(k:Int)+1=(L.length:Int):=by omega
  refine ak fun K hK=>?_;simp [eY,h2,hc,zq];exact h3
 | d+1,k,hd,hcm=>by
  have hj:k+1<L.length:=by omega
  have hct:=Rh L k hj;refine ak fun K hK=>?_;have h2:(k:Int)+1<(L.length:Int):=by omega
  have hp1:L[k+1]?=some L[k+1]:=List.getElem?_eq_getElem hj;have hp2:L[k]?=some L[k]:=List.getElem?_eq_getElem (by omega)
  have hwi1:IntKind.i64.wrap (k:Int)=(k:Int):=by rw [w64]<;>omega
  have hwi2:IntKind.i64.wrap ((k:Int)+1+1)=(k:Int)+1+1:=by rw [w64]<;>omega
  have h2j:k<L.length:=by omega
  have h00:(0:Int)≤(k:Int)+1:=by omega
  by_cases hc:L[k+1]=L[k]
  ·-- the first repetition: the inner loop
   rw [if_pos hc,hcm] at hct
   have hne:¬(gm L).length=L.length:=by
    intro hel;have he:gm L=L:=(Uw L).eq_of_length hel
    have h3:(gm (L.take (k+2))).length=k+2:=by
     have h4:∀(a:Rl) (x y:List Rl),oK a (x++y)=x++y→oK a x=x:=by
      intro a x
      induction x generalizing a with
      | nil=>intro y _;rfl
      | cons b x ih=>
       intro y h5;simp only [List.cons_append,oK] at h5 ⊢
       split at h5
       ·have:=(Ea b (x++y)).length_le
        rw [h5] at this;simp at this;omega
       ·rename_i h6;rw [if_neg h6];injection h5 with _ h7;rw [ih b y h7]
     have h5:gm (L.take (k+2)++L.drop (k+2))=L.take (k+2)++L.drop (k+2):=by rw [List.take_append_drop];exact he
     have h6:gm (L.take (k+2))=L.take (k+2):=by
      cases hx:L.take (k+2) with
      | nil=>rfl
      | cons a x=>
       rw [hx] at h5;simp only [List.cons_append,gm] at h5 ⊢;injection h5 with _ h7;rw [h4 a x _ h7]
     rw [h6];simp;omega
    rw [hct] at h3;simp at h3;omega
   obtain ⟨k2,hin⟩:=NP L hL s cx l t ver hl hlim hbase (k+1) (by omega) (L.length - (k+2)) 0 (by omega) (by
    show (gm (L.take (k+2))).length≤_
    rw [hct];simp;omega)
   have hk2:gm (L.take (k+1+0+1))=L.take (k+1):=hct;rw [hk2] at hin
   have htd:L.take (k+1)++L.drop (L.take (k+1)).length=L:=by
    rw [List.length_take,Nat.min_eq_left (by omega)];exact List.take_append_drop _ _
   rw [htd,List.length_take,Nat.min_eq_left (by omega)] at hin;have hcl:=XK L;have hclt:(gm L).length<L.length:=by omega
   rw [if_neg hne];obtain ⟨m,hm⟩:∃m,L.length - (gm L).length=m+1:=⟨L.length - (gm L).length - 1,by omega⟩;have hcells:zq L=(gm L).map AV.s++List.replicate (m+1) (AV.s []):=by rw [zq,hm]
   have hspl:splice ((gm L++L.drop (gm L).length).map AV.s) (gm L).length (List.replicate (m+1) (AV.s []))=zq L:=by
    rw [hcells];unfold splice;rw [List.map_append,List.take_left' (by simp),List.drop_of_length_le (by simp;omega),List.append_nil]
   have hrep:(List.replicate (m+1) [AV.s []]).flatten=List.replicate (m+1) (AV.s []):=by
    generalize m+1=r
    induction r with
    | zero=>rfl
    | succ r ih=>simp [List.replicate_succ,ih]
   have hfit:(gm L).length+(m+1)≤L.length:=by omega
   have hcond:(gm L).length≤L.length:=hcl;clear hct hcm hk2 htd hcells hne hclt hK;generalize hX:List.replicate (m+1) (AV.s [])=X at hspl hrep;simp [eY,h00,h2,h2j,hj,hl,hp1,hp2,hwi1,hc] at hin ⊢;have hj1:k+1≤L.length:=by omega
   have hfit2:(gm L).length+(m+1)≤(gm L).length+(L.length - (gm L).length):=by omega
   simp [hj1,hin,hl,hcond,hm,hrep,hX,hfit,hfit2,hlim,hbase];simp [splice] at hspl;rw [hspl]
  ·have hct':gm (L.take (k+2))=L.take (k+2):=by
    rw [hct,if_neg hc,hcm];exact (List.take_succ_eq_append_getElem hj).symm
   have ih:=NQ d (k+1) (by omega) hct';rw [←hK] at ih;clear hK hct hct' hcm;simp [eY,h00,h2,h2j,hj,hl,hp1,hp2,hwi1,hwi2,hc] at ih ⊢;exact ih
theorem Zk (m:Nat) (hm:m=L.length) (hs:s[l]?=some (.buf t 1 ver (L.map .s))):
  aj P0 (.fn (.func eP) [] []) [.sk l ver 1 0 m] s cx=.ret (.sk l ver 1 0 (gm L).length) (s.set l (.buf t 1 ver (zq L))):=by
 subst hm
 have hset:s.set l (.buf t 1 ver (L.map .s))=s:=by
  apply List.ext_getElem?;intro i;by_cases hi:l=i
  ·subst hi;rw [List.getElem?_set_self hl,hs]
  ·rw [List.getElem?_set_ne hi]
 refine pW (by simp) ?_
 match L,hL with
 | [],_=>
  have h1:zq []=([]:List Rl).map .s:=by simp [zq,gm]
  rw [h1,hset];simp [af,bJ,gm]
 | [a],_=>
  have h1:zq [a]=[a].map .s:=by simp [zq,gm,oK]
  rw [h1,hset];simp [af,bJ,gm,oK]
 | a::b::r,hL=>
  have h:=NQ (a::b::r) hL s ⟨cx.lim,cx.base⟩ l t ver hl hlim hbase r.length.succ 0 (by simp;omega) (by simp [gm,oK]);rw [hset] at h;have h2:¬((a::b::r).length:Int)<2:=by simp;omega
  by_cases hc:(gm (a::b::r)).length=(a::b::r).length
  ·rw [if_pos hc] at h;simp only [Nat.zero_add] at h;generalize hX:a::b::r=X at *;simp at h;simp [af,bJ,h2,h,hc]
  ·rw [if_neg hc] at h;simp only [Nat.zero_add] at h;generalize hX:a::b::r=X at *;simp at h;simp [af,bJ,h2,h]
end
def Zn (n:Nat):List Rl→AV
 | []=>.ns
 | _::r=>.sk n r.length 1 0 (r.length+1)
def Yd:List Rl→St
 | []=>[]
 | a::r=>[.buf au 1 r.length ((a::r).map .s)]
theorem Zg (V:List Rl) (hV:V.length≤300000) (s:St) (cx:Ctx) (l t ver:Nat) (hs:s[l]?=some (.buf t 1 ver (V.map .s))) (hlim:cx.lim≤l) (hbase:cx.base≤l):
  aj P0 (.fn (.func kR) [] []) [.sk l ver 1 0 V.length] s cx=.ret (.tu []) (s.set l (.buf t 1 ver ((Go.Ai.sortStr V).map .s))):=by
 refine Nb (A:=P0) (k:=.sortS) rfl rfl (by simp) ?_
 cases V with
 | nil=>
  have hset:s.set l (.buf t 1 ver (([]:List Rl).map .s))=s:=by
   apply List.ext_getElem?;intro i;by_cases hi:l=i
   ·subst hi;rw [List.getElem?_set_self (List.getElem?_eq_some_iff.1 hs).1,hs]
   ·rw [List.getElem?_set_ne hi]
  simp only [Go.Ai.sortStr];rw [hset];simp [lT]
 | cons a r=>
  have hm:∀l:List Rl,(l.map AV.s).mapM strOf=some l:=by
   intro l
   induction l with
   | nil=>rfl
   | cons x l ih=>simp only [List.map_cons,List.mapM_cons,ih,strOf];rfl
  have hlen:(Go.Ai.sortStr (a::r)).length=r.length+1:=(rq (a::r)).length_eq
  have hcond:ver=ver∧(1:Nat)=1∧(1:Nat)=1∧0+(r.length+1)≤((a::r).map AV.s).length∧r.length<aQ∧cx.lim≤l∧cx.base≤l:=
   ⟨rfl,rfl,rfl,by simp,by unfold aQ;simp at hV;omega,hlim,hbase⟩
  have htk:(((a::r).map AV.s).drop 0).take (r.length+1)=(a::r).map AV.s:=by rw [List.drop_zero,List.take_of_length_le (by simp)]
  have hsp:splice ((a::r).map AV.s) 0 ((Go.Ai.sortStr (a::r)).map AV.s)=(Go.Ai.sortStr (a::r)).map AV.s:=by
   unfold splice;rw [List.take_zero,List.nil_append,List.drop_of_length_le (by simp [hlen]),List.append_nil]
  show lT (aj P0) (aj P0.quiet) .sortS [.sk l ver 1 0 (r.length+1)] s cx=_;unfold lT;dsimp only;rw [hs];dsimp only;rw [if_pos hcond,htk,hm];dsimp only;rw [hsp]
theorem afO {S:St} {n m:Nat} {a:AV} (h:a.under n=true):zV S n m a=some a:=by
 cases m<;>simp [zV,h]
theorem WR {F:AV→Option AV}:∀{l:List AV},(∀a∈l,F a=some a)→l.mapM F=some l
 | [],_=>by simp
 | a::l,h=>by
  simp only [List.mapM_cons,Option.bind_eq_bind,Option.pure_def,h a (by simp),WR (l:=l) (fun b hb=>h b (by simp [hb]))];rfl
theorem aad {s:St} {t ver:Nat} (M:List Rl) (hM:M≠[]) (Z:List AV):frz (s++[.buf t 1 ver (M.map .s++Z)]) s.length (.sk s.length ver 1 0 M.length)=some (.sl (M.map .s)):=by
 have h1:(AV.sk s.length ver 1 0 M.length).under s.length=false:=by simp [AV.under]
 have ht:(M.map AV.s++Z).take (M.length * 1)=M.map AV.s:=by rw [Nat.mul_one,List.take_left' (by simp)]
 have hm:(M.map AV.s).mapM (zV (s++[.buf t 1 ver (M.map .s++Z)]) s.length 5)=some (M.map AV.s):=WR fun a ha=>afO (by
  obtain ⟨x,_,rfl⟩:=List.mem_map.1 ha;simp)
 have ho:(M.map AV.s).all AV.one=true:=List.all_eq_true.2 fun a ha=>by obtain ⟨x,_,rfl⟩:=List.mem_map.1 ha;rfl
 have hc:∀N:List Rl,chunk 1 N.length (N.map AV.s)=N.map .s:=by
  intro N
  induction N with
  | nil=>rfl
  | cons x N ih=>simp only [List.length_cons,List.map_cons,chunk,if_true,List.drop_succ_cons,List.drop_zero,ih];rfl
 rw [frz,if_neg (by rw [h1];exact Bool.false_ne_true),zV,if_neg (by rw [h1];exact Bool.false_ne_true)];simp only [List.getElem?_append_right (Nat.le_refl _),Nat.sub_self,List.getElem?_cons_zero];rw [if_pos (by simp),List.drop_zero,ht,hm];show (if _ then _ else _)=_;rw [if_pos ⟨by omega,ho⟩,hc]
theorem Tf (s:St) (cx:Ctx):aj P0 (.fn (.func eP) [] []) [.ns] s cx=.ret .ns s:=by
 refine pW (by simp) ?_;simp [af,bJ]
theorem SY (s:St) (cx:Ctx):aj P0 (.fn (.func kR) [] []) [.ns] s cx=.ret (.tu []) s:=
 Nb (A:=P0) (k:=.sortS) rfl rfl (by simp) (by simp [lT])
theorem WX (l:List Rl) (x:Rl) (hl:l.length≤1000000) (v:AV) (hv:v=.sl (l.map .s)∨(v=.ns∧l=[])) (s:St) (cx:Ctx):
  ∀(rest:List Rl) (i:Nat),l.drop i=rest→
  ∃j:Nat,ig (aC P0.glob (aj P0) cx false fP) [0,1,7,8] [(0,.v v),(1,.v (.s x)),(7,.v (.i .i64 l.length)),(8,.v (.i .i64 i))] s=
   if x∈rest then .ret [(4,.v (.i .i64 (j:Int)))] s else .exit 0 [(0,.v v),(1,.v (.s x)),(7,.v (.i .i64 l.length)),(8,.v (.i .i64 (j:Int))),(9,.v (.b false))] s
 | [],i,h=>by
  have h1:¬i<l.length:=Nat.not_lt.2 (drop_nil h);refine ⟨i,ak fun K hK=>?_⟩;simp [fP,h1]
 | p::r,i,h=>by
  obtain ⟨h1,h2,h3,h4⟩:=drop_cons h;have h5:=h4 h3;have hw:=wI (i:=i) (by omega)
  have hv':v=.sl (l.map .s):=by
   rcases hv with h|⟨_,h⟩
   ·exact h
   ·subst h;simp at h3
  subst hv';by_cases hp:p=x
  ·refine ⟨i,ak fun K hK=>?_⟩;clear h4;simp [fP,h3,h5,hw,hp]
  ·obtain ⟨j,ih⟩:=WX l x hl _ (.inl rfl) s cx r (i+1) h2;have hp':¬x=p:=fun h=>hp h.symm;refine ⟨j,ak fun K hK=>?_⟩;rw [←hK,show ((i+1:Nat):Int)=(i:Int)+1 from rfl] at ih;clear hK h4
   try simp at ih
   simp [fP,h3,h5,hw,hp,hp',ih]
theorem Oh (l:List Rl) (x:Rl) (hl:l.length≤1000000) (v:AV) (hv:v=.sl (l.map .s)∨(v=.ns∧l=[])) (s:St) (cx:Ctx):
  aj P0 (.fn (.func dY) [] []) [v,.s x] s cx=.ret (.b (decide (x∈l))) s:=by
 have key:∃n:Int,(0≤n ↔ x∈l)∧∀cx,aj P0 (.fn (.func iT) [] []) [v,.s x] s cx=.ret (.i .i64 n) s:=by
  obtain ⟨j,h⟩:=WX l x hl v hv s ⟨s.length,s.length⟩ l 0 rfl
  have hlen:vH [(6,.v v),(0,.v v),(1,.v (.s x))] (some (.v v))=some (l.map .s):=by
   rcases hv with h|⟨h,h'⟩
   ·subst h;rfl
   ·subst h h';rfl
  rw [show ((0:Nat):Int)=0 from rfl] at h;by_cases hx:x∈l
  ·rw [if_pos hx] at h;refine ⟨j,by simp [hx],fun cx=>qU (by simp) ?_⟩;rcases hv with h' | ⟨h',h''⟩
   ·subst h'
    try simp at h
    simp [af,fC,h]
   ·subst h'';cases hx
  ·rw [if_neg hx] at h;refine ⟨-1,by simp [hx],fun cx=>qU (by simp) ?_⟩;rcases hv with h' | ⟨h',h''⟩
   ·subst h'
    try simp at h
    simp [af,fC,h]
   ·subst h' h''
    try simp at h
    simp [af,fC,h]
 obtain ⟨n,hn,h⟩:=key;refine xC (by simp) ?_
 have hd:decide (x∈l)=decide (0≤n):=by by_cases hx:x∈l<;>simp [hx,hn]
 rw [hd];rcases hv with h' | ⟨h',h''⟩
 ·subst h';simp [af,fQ,h]
 ·subst h';simp [af,fQ,h]
theorem ahZ (n:Nat) (h1:0<n) (h2:n≤1000000) (s:St) (cx:Ctx):
  aj P0 (.fn (.func gV) [] []) [.ns,.i .i64 n] s cx=.ret (.sk s.length 0 1 0 0) (s++[.buf au 1 0 (List.replicate n [AV.s []]).flatten]):=by
 refine sJ (by simp) ?_;have q1:¬(n:Int)<0:=by omega
 have q2:(0:Int)<n:=by omega
 have q3:n≤16777216:=by omega
 have q4:IntKind.i64.wrap (n:Int)=n:=w64 (by omega) (by omega);have q5:IntKind.i64.wrap (0:Int)=0:=by decide
 simp [af,iO,q1,q2,q3,q4,q5,h1]
theorem afc (l:List Rl):slS l=slf true (l.map .s):=by cases l<;>rfl
def qm (l:List Rl):AV:=slf true (l.map .s)
def BN:List (List Rl)→Nat
 | []=>0
 | a::r=>a.length+BN r
theorem Tt:∀LL:List (List Rl),LL.flatten.length=BN LL
 | []=>rfl
 | a::r=>by simp [BN,Tt r]
@[simp] theorem ahe (l:List Rl):(qm l).plain=qm l:=by cases l<;>rfl
@[simp] theorem agE (l:List Rl):(qm l).plain1=qm l:=by cases l<;>rfl
@[simp] theorem ajP (l:List Rl):(qm l).one=true:=by cases l<;>rfl
@[simp] theorem ahg (l:List Rl):(qm l).cells=[qm l]:=by cases l<;>rfl
@[simp] theorem ahf (l:List Rl) (env:Env):vH env (some (.v (qm l)))=some (l.map .s):=by cases l<;>rfl
theorem abX (V:List Rl):(V.map AV.s).all (fun e=>e.cells.length == 1)=true:=by simp
section
variable (LL:List (List Rl)) (hL:LL.length≤1000) (hT:BN LL≤200000) (s:St) (cx:Ctx)
include hL
theorem agH:∀(rest:List (List Rl)) (k n:Nat),LL.drop k=rest→k≤LL.length→n+BN rest≤200000→
  ig (aC P0.glob (aj P0) cx false iV) [0,3,9,10,11] [(0,.v (.sl (LL.map qm))),(3,.v (.i .i64 n)),(9,.v (.sl (LL.map qm))),(10,.v (.i .i64 LL.length)),(11,.v (.i .i64 k))] s=
   .exit 0 [(0,.v (.sl (LL.map qm))),(3,.v (.i .i64 ((n+BN rest:Nat):Int))),(9,.v (.sl (LL.map qm))),(10,.v (.i .i64 LL.length)),(11,.v (.i .i64 LL.length)),(12,.v (.b false))] s
 | [],k,n,h,hk,hn=>by
  have h1:¬k<LL.length:=Nat.not_lt.2 (drop_nil h);have h2:k=LL.length:=by omega
  refine ak fun K hK=>?_;simp [iV,h2,BN]
 | p::r,k,n,h,hk,hn=>by
  obtain ⟨h1,h2,h3,h4⟩:=drop_cons h;have h5:=h4 h3;have hw:=wI (i:=k) (by omega);simp only [BN] at hn;have ih:=agH r (k+1) (n+p.length) h2 (by omega) (by omega);have w1:IntKind.i64.wrap ((n:Int)+p.length)=n+p.length:=w64 (by omega) (by omega);have q1:¬(n:Int)+p.length<0:=by omega
  refine ak fun K hK=>?_;rw [←hK,show ((k+1:Nat):Int)=(k:Int)+1 from rfl,show ((n+p.length:Nat):Int)=(n:Int)+p.length by omega] at ih;clear hK h4;rw [show n+BN (p::r)=n+p.length+BN r by simp [BN];omega];simp [iV,h3,h5,hw,w1,q1,ih]
theorem adz (hlim:cx.lim≤s.length):∀(rest:List (List Rl)) (k v:Nat) (M:List Rl) (Z:List AV),LL.drop k=rest→k≤LL.length→M.length+BN rest≤200000→
  ∃(v':Nat) (Z':List AV),ig (aC P0.glob (aj P0) cx false bC) [6,25,26,27] [(6,.v (.sk s.length v 1 0 M.length)),(25,.v (.sl (LL.map qm))),(26,.v (.i .i64 LL.length)),(27,.v (.i .i64 k))] (s++[.buf au 1 v (M.map .s++Z)])=
    .exit 2 [(6,.v (.sk s.length v' 1 0 (M++rest.flatten).length)),(25,.v (.sl (LL.map qm))),(26,.v (.i .i64 LL.length)),(27,.v (.i .i64 LL.length)),(28,.v (.b false))] (s++[.buf au 1 v' ((M++rest.flatten).map .s++Z')])
 | [],k,v,M,Z,h,hk,hn=>by
  have h1:¬k<LL.length:=Nat.not_lt.2 (drop_nil h);have h2:k=LL.length:=by omega
  refine ⟨v,Z,ak fun K hK=>?_⟩;simp [bC,h2]
 | []::r,k,v,M,Z,h,hk,hn=>by
  obtain ⟨h1,h2,h3,h4⟩:=drop_cons h;have h5:=h4 h3;have hw:=wI (i:=k) (by omega);obtain ⟨v',Z',ih⟩:=adz hlim r (k+1) v M Z h2 (by omega) (by simpa [BN] using hn);refine ⟨v',Z',ak fun K hK=>?_⟩;rw [←hK,show ((k+1:Nat):Int)=(k:Int)+1 from rfl] at ih;clear hK h4;have e0:qm []=.ns:=rfl;simp only [List.flatten_cons,List.nil_append];rw [←ih];clear ih;simp [bC,h3,h5,hw,e0]
 | (a::p)::r,k,v,M,Z,h,hk,hn=>by
  obtain ⟨h1,h2,h3,h4⟩:=drop_cons h;have h5:=h4 h3;have hw:=wI (i:=k) (by omega);simp only [BN,List.length_cons] at hn;obtain ⟨v',Z',ih⟩:=adz hlim r (k+1) (v+1) (M++(a::p)) [] h2 (by omega) (by simp;omega);refine ⟨v',Z',ak fun K hK=>?_⟩;rw [←hK,show ((k+1:Nat):Int)=(k:Int)+1 from rfl] at ih;clear hK h4;have e0:qm (a::p)=.sl ((a::p).map .s):=rfl
  have hfm:∀L:List Rl,(L.map AV.s).flatMap AV.cells=L.map AV.s:=fun L=>by
   induction L with
   | nil=>rfl
   | cons x r ih=>rw [List.map_cons,List.flatMap_cons,ih];rfl
  have hcl:=abX p;have hm2:M.length+(p.length+1)≤1073741824:=by omega
  have htk:∀Y:List AV,List.take M.length (M.map AV.s++Y)=M.map AV.s:=fun Y=>List.take_left' (by simp);simp only [List.flatten_cons,←List.append_assoc];rw [←ih];clear ih;simp [bC,h3,h5,hw,e0,aQ,hlim,hm2,hcl,hfm,htk]
theorem UB (s:St) (cx:Ctx):∀(rest:List (List Rl)) (k:Nat),LL.drop k=rest→k≤LL.length→BN rest=0→
  ig (aC P0.glob (aj P0) cx false bC) [6,25,26,27] [(6,.v .ns),(25,.v (.sl (LL.map qm))),(26,.v (.i .i64 LL.length)),(27,.v (.i .i64 k))] s=
   .exit 2 [(6,.v .ns),(25,.v (.sl (LL.map qm))),(26,.v (.i .i64 LL.length)),(27,.v (.i .i64 LL.length)),(28,.v (.b false))] s
 | [],k,h,hk,hn=>by
  have h1:¬k<LL.length:=Nat.not_lt.2 (drop_nil h);have h2:k=LL.length:=by omega
  refine ak fun K hK=>?_;simp [bC,h2]
 | p::r,k,h,hk,hn=>by
  obtain ⟨h1,h2,h3,h4⟩:=drop_cons h;have h5:=h4 h3;have hw:=wI (i:=k) (by omega);simp only [BN] at hn;have ih:=UB s cx r (k+1) h2 (by omega) (by omega);have hp:p=[]:=List.eq_nil_of_length_eq_zero (by omega);subst hp;refine ak fun K hK=>?_;rw [←hK,show ((k+1:Nat):Int)=(k:Int)+1 from rfl] at ih;clear hK h4;have e0:qm []=.ns:=rfl;rw [←ih];clear ih;simp [bC,h3,h5,hw,e0]
include hT
theorem aez (s:St) (cx:Ctx) (hlim:cx.lim≤s.length):
  aj P0 (.fn (.func iC) [] []) [.sl (LL.map qm)] s cx=.ret (qm LL.flatten) s:=by
 have e0:=agH LL hL s ⟨cx.lim,s.length⟩ LL 0 0 rfl (by omega) (by omega);have hfl:=Tt LL;refine yG (by simp) ?_;simp only [Nat.zero_add] at e0;by_cases hz:BN LL=0
 ·have e1:=UB LL hL s ⟨cx.lim,s.length⟩ LL 0 rfl (by omega) hz;have h0:LL.flatten=[]:=List.eq_nil_of_length_eq_zero (by omega);rw [hz] at e0;have q5:IntKind.i64.wrap (0:Int)=0:=by decide
  have hg:aj P0 (.fn (.func gV) [] []) [.ns,.i .i64 0] s ⟨cx.lim,s.length⟩=.ret .ns s:=by
   refine sJ (by simp) ?_;simp [af,iO,q5]
  simp at e0 e1;simp [af,gX,e0,e1,hg,h0,qm]
 ·have eg:=ahZ (BN LL) (by omega) (by omega) s ⟨cx.lim,s.length⟩;obtain ⟨v',Z',e1⟩:=adz LL hL s ⟨cx.lim,s.length⟩ hlim LL 0 0 [] (List.replicate (BN LL) [AV.s []]).flatten rfl (by omega) (by simpa using hT);generalize (List.replicate (BN LL) [AV.s []]).flatten=Z at *;have hne:LL.flatten≠[]:=fun h=>by rw [h] at hfl;exact hz hfl.symm
  have hfr:=aad (s:=s) (t:=au) (ver:=v') LL.flatten hne Z'
  have hr:qm LL.flatten=.sl (LL.flatten.map .s):=by
   cases hh:LL.flatten with
   | nil=>exact absurd hh hne
   | cons a r=>rfl
  rw [hr];simp only [List.nil_append] at e1;generalize LL.flatten=M at *;simp at e0 e1 hfr;simp [af,gX,e0,eg,e1,hfr]
end
def Jv (n:Rl):List Rl:=match lD 58 n with|some (x,_)=>[x] | none=>[]
theorem XH (n:Rl):(Jv n).length≤1:=by unfold Jv;split<;>simp
theorem MP:∀N:List Rl,(N.flatMap Jv).length≤N.length
 | []=>by simp
 | a::r=>by
  have h1:=MP r;have h2:=XH a;simp only [List.flatMap_cons,List.length_append,List.length_cons];omega
theorem Ue (N:List Rl) (hN:N.length≤200000) (hn:∀x∈N,x.length≤1000000) (s:St):∀(rest:List Rl) (k:Nat) (V:List Rl),N.drop k=rest→k≤N.length→V.length+rest.length≤200000→
  ig (aC P0.glob (aj P0) ⟨s.length,s.length⟩ false mQ) [2,17,18,19]
   [(2,.v (Zn s.length V)),(17,.v (qm N)),(18,.v (.i .i64 N.length)),(19,.v (.i .i64 k))] (s++Yd V)=
  .exit 0 [(2,.v (Zn s.length (V++rest.flatMap Jv))),(17,.v (qm N)),(18,.v (.i .i64 N.length)),(19,.v (.i .i64 N.length)),(20,.v (.b false))] (s++Yd (V++rest.flatMap Jv))
 | [],k,V,h,hk,_=>by
  have h1:¬k<N.length:=Nat.not_lt.2 (drop_nil h);have h2:k=N.length:=by omega
  refine ak fun K hK=>?_;simp [mQ,h2]
 | p::r,k,V,h,hk,hV=>by
  obtain ⟨h1,h2,h3,h4⟩:=drop_cons h;have h5:=h4 h3;have hw:=wI (i:=k) (by omega);have hc1:=XH p;simp only [List.length_cons] at hV;have ih:=Ue N hN hn s r (k+1) (V++Jv p) h2 (by omega) (by simp;omega);have ec:=yX p 58 (by have:=hn p (by rw [←h5];exact List.getElem_mem h3);omega)
  have hr:qm N=.sl (N.map .s):=by
   cases N with
   | nil=>simp at h3
   | cons a r=>rfl
  have hmx:V.length+1≤aQ:=by unfold aQ;omega
  have h1m:1≤aQ:=by unfold aQ;omega
  simp only [List.flatMap_cons,←List.append_assoc];rw [hr] at ih ⊢;refine ak fun K hK=>?_;rw [←hK,show ((k+1:Nat):Int)=(k:Int)+1 from rfl] at ih;rw [←ih];clear hK h4 ih hn;unfold Jv
  cases hc:lD 58 p with
  | none=>
   rw [hc] at ec;simp [mQ,h3,h5,hw,ec]
  | some q=>
   obtain ⟨x,y⟩:=q;rw [hc] at ec
   cases V with
   | nil=>simp [mQ,h3,h5,hw,ec,Zn,Yd,h1m]
   | cons v r=>
    simp at hmx;have htk:List.take r.length (r.map AV.s)=r.map AV.s:=List.take_of_length_le (by simp);simp [mQ,h3,h5,hw,ec,Zn,Yd,hmx,htk]
def Oo (V:List Rl):List Rl:=gm (Go.Ai.sortStr V)
theorem Tc (A R F I:List Rl) (hT:A.length+R.length+F.length+I.length≤200000) (hn:∀x∈A++R++F++I,x.length≤1000000) (s:St) (cx:Ctx):
  aj P0 (.fn (.func vW) [] []) [.ag [qm A,qm R,qm F,qm I]] s cx=.ret (qm (Oo ((A++R++F++I).flatMap Jv))) s:=by
 have ec:=aez [A,R,F,I] (by simp) (by simp [BN];omega) s ⟨s.length,s.length⟩ (Nat.le_refl _);have hfl:[A,R,F,I].flatten=A++R++F++I:=by simp
 rw [hfl] at ec;have hNl:(A++R++F++I).length≤200000:=by simp;omega
 generalize A++R++F++I=N at *;have hl:=Ue N (by omega) hn s N 0 [] rfl (by omega) (by simp;omega);have hvl:=MP N;rw [show Zn s.length []=.ns from rfl,show s++Yd []=s from by simp [Yd],List.nil_append] at hl;generalize N.flatMap Jv=V at *;simp only [List.map_cons,List.map_nil] at ec
 cases V with
 | nil=>
  have h0:qm (Oo [])=.ns:=rfl;rw [h0];refine FV (by simp) ?_;simp [Zn,Yd] at hl;simp [af,uy,show List.range 4=[0,1,2,3] from rfl,ec,hl,dU,splice,SY,Tf]
 | cons v r=>
  have hvl':(v::r).length≤300000:=by omega
  have hSl:(Go.Ai.sortStr (v::r)).length=(v::r).length:=(rq (v::r)).length_eq
  have hne:gm (Go.Ai.sortStr (v::r))≠[]:=by
   cases hS:Go.Ai.sortStr (v::r) with
   | nil=>rw [hS] at hSl;simp at hSl
   | cons a r=>simp [gm]
  have e2:=Zg (v::r) hvl' (s++[.buf au 1 r.length ((v::r).map .s)]) ⟨s.length,s.length⟩ s.length au r.length (by simp) (Nat.le_refl _) (Nat.le_refl _);have e3:=Zk (Go.Ai.sortStr (v::r)) (by omega) (s++[.buf au 1 r.length ((Go.Ai.sortStr (v::r)).map .s)]) ⟨s.length,s.length⟩ s.length au r.length (by simp) (Nat.le_refl _) (Nat.le_refl _) (v::r).length hSl.symm (by simp);obtain ⟨Z,hZ⟩:∃Z,zq (Go.Ai.sortStr (v::r))=(gm (Go.Ai.sortStr (v::r))).map AV.s++Z:=⟨_,rfl⟩;rw [hZ] at e3;have hset:∀x y:fZ,(s++[x]).set s.length y=s++[y]:=fun x y=>by simp
  rw [hset] at e2 e3;have hfz:=aad (s:=s) (t:=au) (ver:=r.length) (gm (Go.Ai.sortStr (v::r))) hne Z
  have h0:qm (Oo (v::r))=.sl ((gm (Go.Ai.sortStr (v::r))).map AV.s):=by
   unfold Oo
   cases hc:gm (Go.Ai.sortStr (v::r)) with
   | nil=>exact absurd hc hne
   | cons x y=>rfl
  rw [h0];generalize gm (Go.Ai.sortStr (v::r))=C at *;generalize Go.Ai.sortStr (v::r)=S1 at *;simp only [Zn,Yd] at hl;simp only [List.length_cons] at e2 e3;simp only [List.map_cons] at hl e2;refine FV (by simp) ?_;simp at hl;simp [af,uy,show List.range 4=[0,1,2,3] from rfl,ec,hl,dU,splice,e2,e3,hfz]
def V4.addS (v:V4) (x:C):V4:=
 if x.kind=3 then { v with c:=zx v.c x.name } else if x.kind=6 then { v with r:=zx v.r x.name }
 else if x.kind=7 then { v with f:=zx v.f x.name } else if x.kind=4 then { v with i:=zx v.i x.name } else v
mutual
def P6:C→V4→V4
 | .mk k n l h z ps,v=>acM ps (v.addS (.mk k n l h z ps))
def acM:List C→V4→V4
 | [],v=>v
 | p::r,v=>acM r (P6 p v)
end
theorem ZE (x:C) (v:V4):P6 x v=acM x.parts (v.addS x):=by cases x;simp [P6]
structure SB1 (n:Nat) (V:List Rl):Prop where
 srt:Srt V
 len:V.length≤n
theorem SB1.add {n:Nat} {V:List Rl} (h:SB1 n V) (k:Rl):SB1 (n+1) (zx V k):=⟨aaG h.srt,by have:=aay V k;have:=h.len;omega⟩
theorem SB1.le {n m:Nat} {V:List Rl} (h:SB1 n V) (hm:n≤m):SB1 m V:=⟨h.srt,Nat.le_trans h.len hm⟩
structure SB (n:Nat) (v:V4):Prop where
 c:SB1 n v.c
 r:SB1 n v.r
 f:SB1 n v.f
 i:SB1 n v.i
theorem SB.le {n m:Nat} {v:V4} (h:SB n v) (hm:n≤m):SB m v:=⟨h.c.le hm,h.r.le hm,h.f.le hm,h.i.le hm⟩
theorem SB.add {n:Nat} {v:V4} (h:SB n v) (x:C):SB (n+1) (v.addS x):=by
 have h':=h.le (Nat.le_succ n);unfold V4.addS;split
 ·exact ⟨h.c.add _,h'.r,h'.f,h'.i⟩
 ·split
  ·exact ⟨h'.c,h.r.add _,h'.f,h'.i⟩
  ·split
   ·exact ⟨h'.c,h'.r,h.f.add _,h'.i⟩
   ·split
    ·exact ⟨h'.c,h'.r,h'.f,h.i.add _⟩
    ·exact h'
def MW (V:List Rl) (x:Rl):List Rl:=if x=[] then V else zx V x
def ajS (x:Ax) (v:V4):V4:=
 let u:=P6 x.right (P6 x.left v)
 ⟨u.c,x.roles.foldl zx (MW u.r x.role),u.f,MW (MW u.i x.a) x.b⟩
def Yw:List Ax→V4→V4
 | [],v=>v
 | x::r,v=>Yw r (ajS x v)
theorem SB1.MW {n:Nat} {V:List Rl} (h:SB1 n V) (k:Rl):SB1 (n+1) (MW V k):=by
 unfold Go.Ai.Z.MW;split
 ·exact h.le (Nat.le_succ n)
 ·exact h.add k
theorem SB.nil:SB 0 V4.nil:=by
 have h:SB1 0 []:=⟨by simp [Srt],by simp⟩;exact ⟨h,h,h,h⟩
end Go.Ai.Z
namespace Go.Ai.Z
theorem kK (l:Rl):(aF l).length=l.length:=by simp [aF]
def Xh (k:Int):Bool:=decide (33≤k) && decide (k≤126) && decide (k≠60) && decide (k≠62) && decide (k≠34)
theorem Oe (b:UInt8) (s:St) (cx:Ctx):aj P0 (.fn (.func uH) [] []) [.i .u8 b.toNat] s cx=.ret (.b (Xh b.toNat)) s:=by
 refine Vo (by simp) ?_;unfold Xh;by_cases q1:33≤(b.toNat:Int)
 ·by_cases q2:(b.toNat:Int)≤126
  ·by_cases q3:(b.toNat:Int)=60
   ·simp -implicitDefEqProofs [af,nK,q1,q2,q3]
   ·by_cases q4:(b.toNat:Int)=62
    ·simp -implicitDefEqProofs [af,nK,q1,q2,q3,q4]
    ·by_cases q5:(b.toNat:Int)=34
     ·simp -implicitDefEqProofs [af,nK,q1,q2,q3,q4,q5]
     ·simp -implicitDefEqProofs [af,nK,q1,q2,q3,q4,q5]
  ·simp -implicitDefEqProofs [af,nK,q1,q2]
 ·simp -implicitDefEqProofs [af,nK,q1]
end Go.Ai.Z
namespace Go.Ai.Z
def Nd (n:Rl):Prop:=n=[]∨oJ n=true∨LD n=true
theorem Nd.len {n:Rl} (h:Nd n):n.length≤24:=by
 rcases h with rfl|h
 ·simp
 ·exact (ZN h).2
theorem Nd.cut {n:Rl} (h:Nd n):Jv n=if Jz n=[] then [] else [Jz n]:=by
 unfold Jv Jz
 cases hc:lD 58 n with
 | none=>simp
 | some p=>
  obtain ⟨x,y⟩:=p;have hb:Jz n=x:=by unfold Jz;rw [hc]
  have hm:(58:UInt8)∈n:=by rw [vS hc];simp
  rcases h with rfl|h
  ·simp at hm
  ·have:=(ZN h).1
   rw [hb] at this;have hx:¬x=[]:=fun e=>this.1 e hm;simp [hx]
theorem aga (n:Rl):(Jz n).length≤n.length:=by
 unfold Jz
 cases hc:lD 58 n with
 | none=>simp
 | some p=>
  obtain ⟨x,y⟩:=p;rw [vS hc];simp
theorem Q8 {n w:Rl} (h:Nd n):w∈Jv n ↔ Jz n=w∧w≠[]:=by
 rw [h.cut];split
 ·rename_i e;simp only [List.not_mem_nil,false_iff,not_and];intro e2 e3;exact e3 (by rw [←e2,e])
 ·rename_i e;simp only [List.mem_singleton];constructor
  ·rintro rfl;exact ⟨rfl,e⟩
  ·rintro ⟨h,_⟩;exact h.symm
def V4.all (v:V4):List Rl:=v.c++v.r++v.f++v.i
structure N4 (v:V4):Prop where
 c:∀x∈v.c,Nd x
 r:∀x∈v.r,Nd x
 f:∀x∈v.f,Nd x
 i:∀x∈v.i,Nd x
def V4.tot (v:V4):Nat:=v.c.length+v.r.length+v.f.length+v.i.length
theorem Ef {V:List Rl} {k:Rl} (h:∀x∈V,Nd x) (hk:Nd k):∀x∈qH V k,Nd x:=fun x hx=>by
 rcases jc.1 hx with rfl|hx
 ·exact hk
 ·exact h x hx
theorem Fj {c:C} (h:tC c=true) (hk:c.kind=3∨c.kind=4∨c.kind=6∨c.kind=7):Nd c.name:=by
 unfold tC at h
 rcases hk with k|k|k|k<;>simp [k] at h
 ·exact .inr (.inl h)
 ·exact .inr h
 ·exact .inr (.inl h)
 ·exact .inr (.inl h)
theorem N4.add {v:V4} (h:N4 v) {c:C} (hn:tC c=true):N4 (v.add c):=by
 unfold V4.add;split
 ·rename_i k;exact ⟨Ef h.c (Fj hn (by simp [k])),h.r,h.f,h.i⟩
 ·split
  ·rename_i k;exact ⟨h.c,Ef h.r (Fj hn (by simp [k])),h.f,h.i⟩
  ·split
   ·rename_i k;exact ⟨h.c,h.r,Ef h.f (Fj hn (by simp [k])),h.i⟩
   ·split
    ·rename_i k;exact ⟨h.c,h.r,h.f,Ef h.i (Fj hn (by simp [k]))⟩
    ·exact h
theorem afb (v:V4) (c:C):(v.add c).tot≤v.tot+1:=by
 have h:=fun V=>Dv V c.name;have h1:=h v.c;have h2:=h v.r;have h3:=h v.f;have h4:=h v.i;unfold V4.add V4.tot
 repeat' split
 all_goals (first|omega | (simp only;omega))
def EqM (V W:List Rl):Prop:=∀x:Rl,x≠[]→(x∈V ↔ x∈W)
theorem EqM.qH {V W:List Rl} (h:EqM V W) (k:Rl):EqM (qH V k) (zx W k):=fun x hx=>by rw [jc,TY,h x hx]
theorem EqM.MW {V W:List Rl} (h:EqM V W) (k:Rl):EqM (Go.Ai.Z.qH V k) (MW W k):=fun x hx=>by
 unfold Go.Ai.Z.MW;split
 ·rename_i e;subst e;rw [jc,h x hx];simp [hx]
 ·exact h.qH k x hx
structure E4 (v u:V4):Prop where
 c:EqM v.c u.c
 r:EqM v.r u.r
 f:EqM v.f u.f
 i:EqM v.i u.i
theorem E4.add {v w:V4} (h:E4 v w) (c:C):E4 (v.add c) (w.addS c):=by
 unfold V4.add V4.addS
 repeat' split
 ·exact ⟨h.c.qH _,h.r,h.f,h.i⟩
 ·exact ⟨h.c,h.r.qH _,h.f,h.i⟩
 ·exact ⟨h.c,h.r,h.f.qH _,h.i⟩
 ·exact ⟨h.c,h.r,h.f,h.i.qH _⟩
 ·exact h
theorem ack:∀(c:C) {v w:V4},E4 v w→E4 (nT c v) (P6 c w):=by
 have key:∀c:C,∀(v w:V4),E4 v w→E4 (nT c v) (P6 c w):=by
  refine C.ind' fun c ih v w h=>?_
  have hL:∀(l:List C),(∀p∈l,∀(v w:V4),E4 v w→E4 (nT p v) (P6 p w))→∀(v w:V4),E4 v w→E4 (xg l v) (acM l w):=by
   intro l
   induction l with
   | nil=>intro _ v w h;exact h
   | cons p r ihr=>intro hp v w h;exact ihr (fun q hq=>hp q (by simp [hq])) _ _ (hp p (by simp) v w h)
  rw [Ba,ZE];exact hL c.parts ih _ _ (h.add c)
 exact fun c {v w} h=>key c v w h
theorem agT:∀c:C,iq c=0→∀v:V4,N4 v→N4 (nT c v):=by
 refine C.ind' fun c ih hv v h=>?_;obtain ⟨v1,v2,v3⟩:=JC hv
 have hL:∀(l:List C),(∀p∈l,∀v:V4,N4 v→N4 (nT p v))→∀v:V4,N4 v→N4 (xg l v):=by
  intro l
  induction l with
  | nil=>intro _ v h;exact h
  | cons p r ihr=>intro hp v h;exact ihr (fun q hq=>hp q (by simp [hq])) _ (hp p (by simp) v h)
 rw [Ba];exact hL c.parts (fun p hp=>ih p hp (v3 p hp)) _ (h.add v2)
theorem Zv:∀c:C,∀v:V4,(nT c v).tot≤v.tot+nN c:=by
 refine C.ind' fun c ih v=>?_
 have hL:∀(l:List C),(∀p∈l,∀v:V4,(nT p v).tot≤v.tot+nN p)→∀v:V4,(xg l v).tot≤v.tot+zy l:=by
  intro l
  induction l with
  | nil=>intro _ v;simp [xg,zy]
  | cons p r ihr=>
   intro hp v;have h1:=hp p (by simp) v;have h2:=ihr (fun q hq=>hp q (by simp [hq])) (nT p v);simp only [xg,zy];omega
 have h1:=hL c.parts ih (v.add c);have h2:=afb v c;rw [Ba,Ci];omega
structure Ax.Vd (x:Ax):Prop where
 l:emptyS x.left=true∨iq x.left=0∧nN x.left≤64
 r:emptyS x.right=true∨iq x.right=0∧nN x.right≤64
 n:x.roles.length≤4
 rs:∀r∈x.roles,Nd r
 role:Nd x.role
 a:Nd x.a
 b:Nd x.b
theorem aeo {c:C} (h:uF c=0):iq c=0∧nN c≤64:=by
 unfold uF at h
 split at h
 ·cases h
 ·rename_i q;exact ⟨h,by omega⟩
theorem vd {x:Ax} (h:dW x=0):x.Vd:=by
 unfold dW at h
 split at h
 ·cases h
 split at h
 ·cases h
 rename_i hs hn;have hs:oV x=true:=by simpa using hs
 have hn:BQ x (kG x.kind)=true:=by simpa using hn
 unfold TB at h
 split at h
 ·rename_i q;exact absurd h q.2
 split at h
 ·rename_i q;exact absurd h q.2
 rename_i ql qr;unfold oV at hs;simp only [Bool.and_eq_true,Bool.or_eq_true,decide_eq_true_eq] at hs;obtain ⟨⟨⟨⟨⟨⟨⟨s0,s1⟩,s2⟩,s3⟩,s4⟩,s5⟩,s6⟩,s7⟩:=hs;unfold BQ at hn;simp only [Bool.and_eq_true,Bool.or_eq_true,Bool.not_eq_true'] at hn;obtain ⟨⟨⟨n1,n2⟩,n3⟩,n4⟩:=hn;have hb:∀u:Bool,u=false→¬u=true:=fun u h=>by rw [h];exact Bool.false_ne_true
 have hps:∀n:Rl,yP n=true→Nd n:=fun n h=>by
  unfold yP at h;rw [Bool.or_eq_true] at h;exact .inr h
 refine ⟨?_, ?_, ?_,fun r hr=>.inr (.inl (UC n4 r hr)), ?_, ?_, ?_⟩
 ·rcases s1 with q|q
  ·exact .inr (aeo (Classical.not_not.1 fun e=>ql ⟨q,e⟩))
  ·exact .inl q
 ·rcases s2 with q|q
  ·exact .inr (aeo (Classical.not_not.1 fun e=>qr ⟨q,e⟩))
  ·exact .inl q
 ·have hk:1≤x.kind∧x.kind≤9:=by simp [BU] at s0;exact s0
  have hk9:x.kind=1∨x.kind=2∨x.kind=3∨x.kind=4∨x.kind=5∨x.kind=6∨x.kind=7∨x.kind=8∨x.kind=9:=by omega
  have:(kG x.kind).hi≤4:=by rcases hk9 with q|q|q|q|q|q|q|q|q<;>rw [q]<;>decide
  omega
 ·rcases s3 with q|q
  ·rcases n1 with p|p
   ·exact absurd q (hb _ p)
   ·exact .inr (.inl p)
  ·exact .inl q
 ·rcases s4 with q|q
  ·rcases n2 with p|p
   ·exact absurd q (hb _ p)
   ·exact hps _ p
  ·exact .inl q
 ·rcases s5 with q|q
  ·rcases n3 with p|p
   ·exact absurd q (hb _ p)
   ·exact hps _ p
  ·exact .inl q
theorem Ur {c:C} (h:emptyS c=true) (v:V4):nT c v=v∧P6 c v=v∧nN c=1:=by
 unfold emptyS at h;simp only [Bool.and_eq_true,decide_eq_true_eq] at h;obtain ⟨⟨⟨⟨h1,h2⟩,h3⟩,h4⟩,h5⟩:=h;have hp:c.parts=[]:=List.eq_nil_of_length_eq_zero (by omega);rw [Ba,ZE,Ci,hp];simp [xg,acM,V4.add,V4.addS,h1,zy]
theorem Zw {c:C} (h:emptyS c=true∨iq c=0∧nN c≤64) {v:V4} (hv:N4 v):N4 (nT c v):=by
 rcases h with h|h
 ·rw [(Ur h v).1];exact hv
 ·exact agT c h.1 v hv
theorem UQ {c:C} (h:emptyS c=true∨iq c=0∧nN c≤64):nN c≤64:=by
 rcases h with h|h
 ·rw [(Ur h V4.nil).2.2];omega
 ·exact h.2
theorem Yc {rs:List Rl}:∀{V:List Rl} {x:Rl},x∈Eg V rs ↔ x∈V∨x∈rs:=by
 induction rs with
 | nil=>intro V x;simp [Eg]
 | cons r rs ih=>
  intro V x;rw [Eg,ih,jc,List.mem_cons];constructor
  ·rintro ((h|h)|h)
   ·exact .inr (.inl h)
   ·exact .inl h
   ·exact .inr (.inr h)
  ·rintro (h|h|h)
   ·exact .inl (.inr h)
   ·exact .inl (.inl h)
   ·exact .inr h
theorem aeM {rs:List Rl}:∀{V:List Rl},(Eg V rs).length≤V.length+rs.length:=by
 induction rs with
 | nil=>intro V;simp [Eg]
 | cons r rs ih=>
  intro V;have h1:=ih (V:=qH V r);have h2:=Dv V r;rw [Eg,List.length_cons];omega
theorem ad9 {rs:List Rl}:∀{V:List Rl} {x:Rl},x∈rs.foldl zx V ↔ x∈V∨x∈rs:=by
 induction rs with
 | nil=>intro V x;simp
 | cons r rs ih=>
  intro V x;rw [List.foldl_cons,ih,TY,List.mem_cons];constructor
  ·rintro ((h|h)|h)
   ·exact .inr (.inl h)
   ·exact .inl h
   ·exact .inr (.inr h)
  ·rintro (h|h|h)
   ·exact .inl (.inr h)
   ·exact .inl (.inl h)
   ·exact .inr h
theorem acn {x:Ax} (hx:x.Vd) {v w:V4} (hN:N4 v) (hE:E4 v w):N4 (Lr x v)∧E4 (Lr x v) (ajS x w)∧(Lr x v).tot≤v.tot+140:=by
 have n1:=Zw hx.l hN;have n2:=Zw hx.r n1;have e2:=ack x.right (ack x.left hE);have t1:=Zv x.left v;have t2:=Zv x.right (nT x.left v);have s1:=UQ hx.l;have s2:=UQ hx.r;have s3:=hx.n;refine ⟨⟨n2.c, ?_,n2.f,Ef (Ef n2.i hx.a) hx.b⟩,⟨e2.c, ?_,e2.f,(e2.i.MW x.a).MW x.b⟩, ?_⟩
 ·refine Ef (fun y hy=>?_) hx.role;rcases Yc.1 hy with h|h
  ·exact n2.r y h
  ·exact hx.rs y h
 ·intro y hy;show y∈qH (Eg (nT x.right (nT x.left v)).r x.roles) x.role ↔ y∈x.roles.foldl zx (MW (P6 x.right (P6 x.left w)).r x.role);rw [jc,Yc,ad9,←(e2.r.MW x.role) y hy,jc];constructor
  ·rintro (h|h|h)
   ·exact .inl (.inl h)
   ·exact .inl (.inr h)
   ·exact .inr h
  ·rintro ((h|h)|h)
   ·exact .inl h
   ·exact .inr (.inl h)
   ·exact .inr (.inr h)
 ·have l1:=Dv (Eg (nT x.right (nT x.left v)).r x.roles) x.role;have l2:=aeM (V:=(nT x.right (nT x.left v)).r) (rs:=x.roles);have l3:=Dv (qH (nT x.right (nT x.left v)).i x.a) x.b;have l4:=Dv (nT x.right (nT x.left v)).i x.a;unfold V4.tot at t2 ⊢;simp only [Lr];unfold V4.tot at t1
  try simp only at t1
  omega
theorem Am:∀{l:List Ax},(∀x∈l,x.Vd)→∀{v w:V4},N4 v→E4 v w→N4 (nU l v)∧E4 (nU l v) (Yw l w)∧(nU l v).tot≤v.tot+140 * l.length
 | [],_,v,w,hN,hE=>⟨hN,hE,by simp [nU]⟩
 | x::l,hx,v,w,hN,hE=>by
  obtain ⟨h1,h2,h3⟩:=acn (hx x (by simp)) hN hE;obtain ⟨g1,g2,g3⟩:=Am (l:=l) (fun y hy=>hx y (by simp [hy])) h1 h2;refine ⟨g1,g2, ?_⟩;simp only [nU,List.length_cons];omega
theorem Rj:∀(L:List Rl) (a x:Rl),x∈a::oK a L ↔ x∈a::L
 | [],a,x=>by simp [oK]
 | b::r,a,x=>by
  have ih:=Rj r b x;unfold oK;split
  ·rename_i e;subst e;simp only [List.mem_cons] at ih ⊢;rw [ih];simp
  ·simp only [List.mem_cons] at ih ⊢;rw [ih]
theorem abS (L:List Rl) (x:Rl):x∈gm L ↔ x∈L:=by
 cases L with
 | nil=>simp [gm]
 | cons a r=>exact Rj r a x
theorem Ri:∀(L:List Rl) (a:Rl),(a::L).Pairwise (·≤·)→Srt (a::oK a L)
 | [],a,_=>by simp [oK,Srt]
 | b::r,a,h=>by
  have h1:=List.pairwise_cons.1 h;have ih:=Ri r b h1.2;unfold oK;split
  ·rename_i e;subst e;exact ih
  ·rename_i e
   have hab:a<b:=by
    rcases List.le_iff_lt_or_eq.1 (h1.1 b (by simp)) with q|q
    ·exact q
    ·exact absurd q.symm e
   unfold Srt at ih ⊢;refine List.pairwise_cons.2 ⟨fun y hy=>?_,ih⟩;rcases List.mem_cons.1 hy with rfl|hy
   ·exact hab
   ·exact List.lt_trans hab ((List.pairwise_cons.1 ih).1 y hy)
theorem acv (V:List Rl):Srt (Oo V):=by
 have h:=Aq V;unfold Oo
 cases hs:Go.Ai.sortStr V with
 | nil=>simp [gm,Srt]
 | cons a r=>rw [hs] at h;exact Ri r a h
theorem V6 (V:List Rl) (x:Rl):x∈Oo V ↔ x∈V:=by
 unfold Oo;rw [abS,(rq V).mem_iff]
theorem acw (V:List Rl):(Oo V).length≤V.length:=by
 unfold Oo;have h1:=XK (Go.Ai.sortStr V);have h2:=(rq V).length_eq;omega
def Fh (l:List Ax):List Rl:=vA l++vR l++vF l++vI l
def kF (l:List Ax):List Rl:=Oo ((Fh l).flatMap Jv)
def Wu (l:List Ax):List Rl:=(Yw l V4.nil).all
theorem Ve:N4 V4.nil:=⟨by simp [V4.nil],by simp [V4.nil],by simp [V4.nil],by simp [V4.nil]⟩
theorem Vf:E4 V4.nil V4.nil:=⟨fun _ _=>Iff.rfl,fun _ _=>Iff.rfl,fun _ _=>Iff.rfl,fun _ _=>Iff.rfl⟩
section
variable {l:List Ax} (h:∀x∈l,x.Vd)
include h
theorem CU:∀x∈Fh l,Nd x:=by
 have hN:=(Am h Ve Vf).1;intro x hx;unfold Fh vA vR vF vI at hx;simp only [List.mem_append,(uo _).mem_iff] at hx;rcases hx with ((hx|hx)|hx)|hx
 ·exact hN.c x hx
 ·exact hN.r x (List.erase_sublist.subset hx)
 ·exact hN.f x hx
 ·exact hN.i x (List.erase_sublist.subset hx)
theorem TV:(Fh l).length≤140 * l.length:=by
 have ht:=(Am h Ve Vf).2.2;unfold V4.tot at ht;have h1:(Ho (nU l V4.nil).r []).length≤(nU l V4.nil).r.length:=List.erase_sublist.length_le;have h2:(Ho (nU l V4.nil).i []).length≤(nU l V4.nil).i.length:=List.erase_sublist.length_le;unfold Fh vA vR vF vI;simp only [List.length_append,(uo _).length_eq];simp only [V4.nil,List.length_nil] at *;omega
theorem Gt {x:Rl} (hx:x≠[]):x∈Fh l ↔ x∈Wu l:=by
 have hE:=(Am h Ve Vf).2.1;unfold Fh Wu vA vR vF vI V4.all Ho;simp only [List.mem_append,(uo _).mem_iff,List.mem_erase_of_ne hx,hE.c x hx,hE.r x hx,hE.f x hx,hE.i x hx]
theorem Zt {w:Rl}:w∈kF l ↔ ∃n∈Wu l,Jz n=w∧w≠[]:=by
 unfold kF;rw [V6,List.mem_flatMap];constructor
 ·rintro ⟨n,hn,hw⟩;obtain ⟨h1,h2⟩:=(Q8 (CU h n hn)).1 hw;have h3:n≠[]:=fun e=>by rw [e] at h1;exact h2 (h1 ▸ rfl)
  exact ⟨n,(Gt h h3).1 hn,h1,h2⟩
 ·rintro ⟨n,hn,h1,h2⟩;have h3:n≠[]:=fun e=>by rw [e] at h1;exact h2 (h1 ▸ rfl)
  have h4:=(Gt h h3).2 hn;exact ⟨n,h4,(Q8 (CU h n h4)).2 ⟨h1,h2⟩⟩
theorem ae4:(kF l).length≤140 * l.length:=by
 have h1:=acw ((Fh l).flatMap Jv);have h2:=MP (Fh l);have h3:=TV h;unfold kF;omega
theorem ae3:∀w∈kF l,w.length≤24:=fun w hw=>by
 unfold kF at hw;rw [V6,List.mem_flatMap] at hw;obtain ⟨n,hn,hw⟩:=hw;have hd:=CU h n hn;obtain ⟨h1,_⟩:=(Q8 hd).1 hw
 have:=hd.len
 have:=aga n
 rw [←h1];omega
theorem ahv:∀n∈Fh l,n.length≤1000000:=fun n hn=>by have:=(CU h n hn).len;omega
end
def JU:Rl:=[111,119,108]
def Ol:Rl:=[120,115,100]
def Xg (p:Rl):Bool:=p.all fun b=>Xh b.toNat
section
variable (L0:AV) (p:Rl) (LL:List (List Rl)) (hLL:LL.length≤100) (hT:∀T∈LL,T.length≤50000) (hn:∀T∈LL,∀x∈T,x.length≤1000000) (s:St) (cx:Ctx)
include hT hn
end
def GL (p w:Rl):Rl:=wC6++w++[58,61,60]++p++w++[47,62,41]
def YB:Rl:=[79,110,116,111,108,111,103,121,40]
def OG (p:Rl):Rl:=[80,114,101,102,105,120,40,58,61,60]++p++[62,41]
def QJ:Rl:=[80,114,101,102,105,120,40,111,119,108,58,61,60]++wC8++[62,41]
def QI:Rl:=[80,114,101,102,105,120,40,120,115,100,58,61,60]++wC5++[62,41]
def Y7 (p:Rl) (W:List Rl) (l:List Ax):List Rl:=[OG p,QJ,QI]++W.map (GL p)++[YB]++l.map owA++[[41]]
def uO (ls:List Rl):Rl:=ls.flatMap fun x=>x++[10]
theorem Fz (a b:List Rl):uO (a++b)=uO a++uO b:=by simp [uO]
def Ju (p:Rl) (W:List Rl) (l:List Ax):Rl:=uO (Y7 p W l)
theorem QB (k:Nat):∀ls:List Rl,(∀x∈ls,x.length≤k)→(uO ls).length≤(k+1) * ls.length
 | [],_=>by simp [uO]
 | a::r,h=>by
  have h1:=h a (by simp);have h2:=QB k r fun x hx=>h x (by simp [hx]);have h3:(uO (a::r)).length=a.length+1+(uO r).length:=by simp [uO];omega
  rw [h3,List.length_cons,Nat.mul_succ];omega
theorem acU (p w:Rl):(GL p w).length=13+p.length+2 * w.length:=by simp [GL];omega
theorem afX (p:Rl) (W:List Rl) (l:List Ax):Ju p W l=uO [OG p,QJ,QI]++uO (W.map (GL p))++uO [YB]++uO (l.map owA)++[41,10]:=by
 unfold Ju Y7;rw [Fz,Fz,Fz,Fz];rfl
def Ez (l:List Ax) (p:Rl):Int:=
 if 200<p.length∨Xg p=false then 50 else if yM l≠0 then yM l else if JU∈kF l∨Ol∈kF l then 50
 else if 65536<(Ju p (kF l) l).length then 2 else 0
def aaw (l:List Ax) (p:Rl):AV:=if Ez l p=0 then .sl (aF (Ju p (kF l) l)) else .ns
theorem Xa (ls:List Rl):joinL [10] (ls++[[]])=uO ls:=by
 have key:∀(r:List Rl) (a:Rl),a++((r++[[]]).flatMap fun y=>([10]:Rl)++y)=uO (a::r):=by
  intro r
  induction r with
  | nil=>intro a;simp [uO]
  | cons b r ih=>
   intro a;have h:=ih b;rw [List.cons_append,List.flatMap_cons];have e:uO (a::b::r)=a++[10]++uO (b::r):=by simp [uO]
   rw [e,←h];simp
 cases ls with
 | nil=>rfl
 | cons a r=>exact key r a
theorem adu (L0:AV) (p:Rl) (hp:p.length≤100000) (s:St) (cx:Ctx):∀(rest:Rl) (i:Nat),p.drop i=rest→
  ∃j:Int,ig (aC P0.glob (aj P0) cx false sH) [0,1,23,24,25]
   [(0,.v L0),(1,.v (.s p)),(23,.v (.sl (aF p))),(24,.v (.i .i64 p.length)),(25,.v (.i .i64 i))] s=
   if Xg rest=true then .exit 0 [(0,.v L0),(1,.v (.s p)),(23,.v (.sl (aF p))),(24,.v (.i .i64 p.length)),(25,.v (.i .i64 j)),(26,.v (.b false))] s
   else .ret [(4,.v .ns),(5,.v (.i .i64 50))] s
 | [],i,h=>by
  have h1:¬i<p.length:=Nat.not_lt.2 (drop_nil h);refine ⟨i,ak fun K hK=>?_⟩;simp [sH,h1,Xg]
 | b::r,i,h=>by
  obtain ⟨h1,h2,h3,h4⟩:=drop_cons h;have h5:=h4 h3;have hwi:=wI (i:=i) (by omega);have hb:i<(aF p).length:=by rw [kK];exact h3
  have hg:(aF p)[i]=.i .u8 b.toNat:=by simp [aF,h5]
  have e1:=Oe b;obtain ⟨j,ih⟩:=adu L0 p hp s cx r (i+1) h2;have hc:Xg (b::r)=(Xh b.toNat && Xg r):=rfl;rw [hc];by_cases q:Xh b.toNat=true
  ·refine ⟨j,ak fun K hK=>?_⟩;rw [←hK,show ((i+1:Nat):Int)=(i:Int)+1 from rfl] at ih;clear hK h4;rw [q,Bool.true_and,←ih];clear ih;rw [q] at e1;simp -implicitDefEqProofs [sH,h3,hb,hg,hwi,e1]
  ·refine ⟨i,ak fun K hK=>?_⟩;clear hK h4 ih;rw [if_neg (by simp [q])];have q':Xh b.toNat=false:=by simpa using q
   rw [q'] at e1;simp -implicitDefEqProofs [sH,h3,hb,hg,e1]
theorem adt (L0:AV) (p:Rl) (W:List Rl) (hW:W.length≤200000) (hp:p.length≤100000) (hw:∀w∈W,w.length≤24) (s:St) (cx:Ctx):∀(rest:List Rl) (i:Nat) (t:List Rl),W.drop i=rest→t.length+rest.length≤8000000→
  ∃j:Int,ig (aC P0.glob (aj P0) cx false wB) [0,1,10,53,54,55]
   [(0,.v L0),(1,.v (.s p)),(10,.own false au 1 (t.map .s)),(53,.v (qm W)),(54,.v (.i .i64 W.length)),(55,.v (.i .i64 i))] s=
   .exit 2 [(0,.v L0),(1,.v (.s p)),(10,.own false au 1 ((t++rest.map (GL p)).map .s)),(53,.v (qm W)),(54,.v (.i .i64 W.length)),(55,.v (.i .i64 j)),(56,.v (.b false))] s
 | [],i,t,h,ht=>by
  have h1:¬i<W.length:=Nat.not_lt.2 (drop_nil h);refine ⟨i,ak fun K hK=>?_⟩;simp [wB,h1]
 | w::r,i,t,h,ht=>by
  obtain ⟨h1,h2,h3,h4⟩:=drop_cons h;have h5:=h4 h3;have hwl:=hw w (by rw [←h5];exact List.getElem_mem h3);have hwi:=wI (i:=i) (by omega)
  have hrow:qm W=.sl (W.map .s):=by
   cases W with
   | nil=>simp at h3
   | cons a r=>rfl
  simp only [List.length_cons] at ht;obtain ⟨j,ih⟩:=adt L0 p W hW hp hw s cx r (i+1) (t++[GL p w]) h2 (by simp;omega);refine ⟨j,ak fun K hK=>?_⟩;rw [←hK,show ((i+1:Nat):Int)=(i:Int)+1 from rfl] at ih;clear hK h4 hw;rw [hrow] at ih ⊢;have e:(t++(w::r).map (GL p))=(t++[GL p w])++r.map (GL p):=by simp
  rw [e,←ih];clear ih e;have hm:t.length+1≤aQ:=by unfold aQ;omega
  simp -implicitDefEqProofs [wB,h3,h5,hwi,hm,GL]
  repeat' (first | (split<;>(try simp only [gy,gB,gJ,kz,kC])<;>(try simp [*])) | (simp only [gy,gB,gJ,kz,kC]<;>(try simp [*]))|omega)
theorem ads (z:Bool) (l:List Ax) (hl:l.length≤1024) (hx:∀x∈l,x.Few∧x.Good) (s:St) (cx:Ctx):∀(rest:List Ax) (i:Nat) (t:List Rl),l.drop i=rest→t.length+rest.length≤8000000→
  ∃j:Int,ig (aC P0.glob (aj P0) cx false wz) [10,74,75,76]
   [(10,.own false au 1 (t.map .s)),(74,.v (slf z (l.map bY))),(75,.v (.i .i64 l.length)),(76,.v (.i .i64 i))] s=
   .exit 4 [(10,.own false au 1 ((t++rest.map owA).map .s)),(74,.v (slf z (l.map bY))),(75,.v (.i .i64 l.length)),(76,.v (.i .i64 j)),(77,.v (.b false))] s
 | [],i,t,h,ht=>by
  have h1:¬i<l.length:=Nat.not_lt.2 (drop_nil h);refine ⟨i,ak fun K hK=>?_⟩;simp [wz,h1]
 | x::r,i,t,h,ht=>by
  obtain ⟨h1,h2,h3,h4⟩:=drop_cons h;have h5:=h4 h3;obtain ⟨x1,x2⟩:=hx x (by rw [←h5];exact List.getElem_mem h3);have hwi:=wI (i:=i) (by omega);have e1:=XY x x1 x2;simp only [List.length_cons] at ht;obtain ⟨j,ih⟩:=ads z l hl hx s cx r (i+1) (t++[owA x]) h2 (by simp;omega);refine ⟨j,ak fun K hK=>?_⟩;rw [←hK,show ((i+1:Nat):Int)=(i:Int)+1 from rfl] at ih;clear hK h4 hx;have e:(t++(x::r).map owA)=(t++[owA x])++r.map owA:=by simp
  rw [e,←ih];clear ih e;have hm:t.length+1≤aQ:=by unfold aQ;omega
  simp -implicitDefEqProofs [wz,h3,h5,hwi,e1,hm]
  repeat' (first | (split<;>(try simp only [gy,gB,gJ,kz,kC])<;>(try simp [*])) | (simp only [gy,gB,gJ,kz,kC]<;>(try simp [*]))|omega)
theorem XZ (z:Bool) (l:List Ax) (hl:l.length≤1024) (hf:∀x∈l,x.Few) (hx:yM l=0→∀x∈l,(owA x).length≤33000) (p:Rl) (hp:p.length≤100000) (s:St) (cx:Ctx):
  aj P0 (.fn (.func wZ) [] []) [slf z (l.map bY),.s p] s cx=.ret (.tu [aaw l p,.i .i64 (Ez l p)]) s:=by
 obtain ⟨j0,e0⟩:=adu (slf z (l.map bY)) p hp s ⟨s.length,s.length⟩ p 0 rfl;have q0:¬(1024:Int)<(l.length:Int):=by omega
 have hbl:=kK p;refine Vq (by simp) ?_;unfold aaw;by_cases h1:200<p.length
 ·rw [show Ez l p=50 from by unfold Ez;rw [if_pos (.inl h1)]];have h1i:(200:Int)<(p.length:Int):=by omega
  simp -implicitDefEqProofs [af,mg,q0,h1i]
 have h1i:¬(200:Int)<(p.length:Int):=by omega
 cases h2:Xg p
 ·rw [show Ez l p=50 from by unfold Ez;rw [if_pos (.inr h2)]];rw [if_neg (by rw [h2];exact Bool.false_ne_true)] at e0;simp at e0;simp -implicitDefEqProofs [af,mg,q0,h1i,hbl,e0]
 rw [if_pos h2] at e0;simp at e0;have h12:¬(200<p.length∨Xg p=false):=by rw [h2];simp;omega
 by_cases h3:yM l≠0
 ·rw [show Ez l p=yM l from by unfold Ez;rw [if_neg h12,if_pos h3],if_neg h3];have ev:=Ht z l (by omega) hf h3;simp -implicitDefEqProofs [af,mg,q0,h1i,hbl,e0,ev,h3,dU,splice]
 have h3:yM l=0:=Classical.not_not.1 h3;have ev:=Hu z l (by omega) hf h3;have er:∀X:List Rl,slf true (X.map AV.s)=qm X:=fun _=>rfl;simp only [afc,er] at ev;have hv:∀x∈l,x.Vd:=fun x hm=>vd (vT h3 x hm);have hw1:=ae4 hv;have hw2:=ae3 hv;have hnl:=TV hv;have hn1:=ahv hv;have ef:=Tc (vA l) (vR l) (vF l) (vI l) (by unfold Fh at hnl;simp only [List.length_append] at hnl;omega) hn1;have hwd:Oo ((vA l++vR l++vF l++vI l).flatMap Jv)=kF l:=rfl;rw [hwd] at ef
 have hrow:qm (kF l)=.sl ((kF l).map .s)∨(qm (kF l)=.ns∧kF l=[]):=by
  cases kF l with
  | nil=>exact .inr ⟨rfl,rfl⟩
  | cons a r=>exact .inl rfl
 have c1:=Oh (kF l) JU (by omega) (qm (kF l)) hrow;have c2:=Oh (kF l) Ol (by omega) (qm (kF l)) hrow;unfold JU at c1;unfold Ol at c2;by_cases h4:JU∈kF l∨Ol∈kF l
 ·rw [show Ez l p=50 from by unfold Ez;rw [if_neg h12,if_neg (by omega),if_pos h4]]
  have d1:decide (JU∈kF l)=true∨decide (JU∈kF l)=false∧decide (Ol∈kF l)=true:=by
   by_cases q:JU∈kF l
   ·exact .inl (decide_eq_true q)
   ·exact .inr ⟨decide_eq_false q,decide_eq_true (h4.resolve_left q)⟩
  unfold JU Ol at d1;clear hv hf hx hw2 hn1 hrow h4;rcases d1 with d1|⟨d1,d2⟩
  ·rw [d1] at c1;simp -implicitDefEqProofs [af,mg,q0,h1i,hbl,e0,ev,ef,c1,dU,splice]
  ·rw [d1] at c1;rw [d2] at c2;simp -implicitDefEqProofs [af,mg,q0,h1i,hbl,e0,ev,ef,c1,c2,dU,splice]
 have hE:Ez l p=if 65536<(Ju p (kF l) l).length then 2 else 0:=by unfold Ez;rw [if_neg h12,if_neg (by omega),if_neg h4]
 rw [hE];have d1:decide (JU∈kF l)=false:=decide_eq_false fun q=>h4 (.inl q);have d2:decide (Ol∈kF l)=false:=decide_eq_false fun q=>h4 (.inr q);unfold JU at d1;unfold Ol at d2;rw [d1] at c1;rw [d2] at c2;have hdl:=afX p (kF l) l
 have b1:(uO [OG p,QJ,QI]).length≤500:=by
  have h5:(uO [OG p,QJ,QI]).length=(OG p).length+1+(uO [QJ,QI]).length:=by simp [uO];omega
  have h6:(uO [QJ,QI]).length=95:=by decide
  rw [h5];simp only [OG,List.length_append,List.length_cons,List.length_nil];omega
 have b2:=QB 261 ((kF l).map (GL p)) (by
  intro x hm;obtain ⟨w,hw,rfl⟩:=List.mem_map.1 hm
  have:=hw2 w hw
  rw [acU];omega)
 have b3:=QB 33000 (l.map owA) (by
  intro x hm;obtain ⟨a,ha,rfl⟩:=List.mem_map.1 hm
  exact hx h3 a ha)
 rw [List.length_map] at b2 b3;have b4:(uO [YB]).length=10:=by decide
 have bD:(Ju p (kF l) l).length≤1073741824:=by
  rw [hdl];simp only [List.length_append,List.length_cons,List.length_nil];omega
 obtain ⟨j2,e2⟩:=adt (slf z (l.map bY)) p (kF l) (by omega) hp hw2 s ⟨s.length,s.length⟩ (kF l) 0 [OG p,QJ,QI] rfl (by simp;omega);obtain ⟨j3,e3⟩:=ads z l (by omega) (fun x hm=>⟨hf x hm,good (vT h3 x hm)⟩) s ⟨s.length,s.length⟩ l 0 ([OG p,QJ,QI]++(kF l).map (GL p)++[YB]) rfl (by simp;omega);have ej:=F9 (Y7 p (kF l) l++[[]]) [10] (by rw [Xa];exact bD) (by simp [Y7];omega);rw [Xa] at ej;have hdo:uO (Y7 p (kF l) l)=Ju p (kF l) l:=rfl;rw [hdo] at ej;clear hv hf hx hw2 hn1 hrow hdl b2 b3;unfold Y7 at ej;have hm1:(kF l).length+1+1+1+1≤aQ:=by unfold aQ;omega
 have hm2:(kF l).length+(l.length+1)+1+1+1+2≤aQ:=by unfold aQ;omega
 have hp1:p.length≤4611686018427387894:=by omega
 have hp2:p.length≤4611686018427387892:=by omega
 unfold OG QJ QI at e2 e3 ej;unfold YB at e3 ej;simp at e2 e3 ej;generalize Ju p (kF l) l=D at *;by_cases h5:65536<D.length
 ·rw [if_pos h5];have h5':(65536:Int)<(D.length:Int):=by omega
  simp -implicitDefEqProofs [af,mg,q0,h1i,hbl,e0,ev,ef,c1,c2,dU,splice,show List.range 2=[0,1] from rfl,show List.range 3=[0,1,2] from rfl,e2,e3,ej,hp1,hp2,hm1,hm2,h5']
  repeat' (first | (split<;>(try simp only [gy,gB,gJ,kz,kC])<;>(try simp [*])) | (simp only [gy,gB,gJ,kz,kC]<;>(try simp [*]))|omega)
 ·rw [if_neg h5];have h5':¬(65536:Int)<(D.length:Int):=by omega
  simp -implicitDefEqProofs [af,mg,q0,h1i,hbl,e0,ev,ef,c1,c2,dU,splice,show List.range 2=[0,1] from rfl,show List.range 3=[0,1,2] from rfl,e2,e3,ej,hp1,hp2,hm1,hm2,h5']
  repeat' (first | (split<;>(try simp only [gy,gB,gJ,kz,kC])<;>(try simp [*])) | (simp only [gy,gB,gJ,kz,kC]<;>(try simp [*]))|omega)
theorem agw:∀c:C,iq c=0→wC c=nN c:=by
 refine C.ind' fun c ih hv=>?_;obtain ⟨v1,v2,v3⟩:=JC hv
 have hL:∀(l:List C),(∀p∈l,wC p=nN p)→wL l=zy l:=by
  intro l
  induction l with
  | nil=>intro _;rfl
  | cons p r ihr=>intro h;rw [wL,zy,h p (by simp),ihr fun q hq=>h q (by simp [hq])]
 have hn:c.name.length / 40=0:=by
  have h24:c.name.length≤24:=by
   by_cases hk:c.kind=3∨c.kind=4∨c.kind=6∨c.kind=7
   ·exact (Fj v2 hk).len
   ·have hk3:¬c.kind=3:=fun h=>hk (.inl h);have hk4:¬c.kind=4:=fun h=>hk (.inr (.inl h));have hk6:¬c.kind=6:=fun h=>hk (.inr (.inr (.inl h)));have hk7:¬c.kind=7:=fun h=>hk (.inr (.inr (.inr h)));unfold kS at v1;simp only [hk3,hk4,hk6,hk7,if_false] at v1
    have:c.name=[]:=by
     revert v1
     repeat' split
     all_goals simp_all
    rw [this];simp
  omega
 rw [Eo,Ci,hn,hL c.parts fun p hp=>ih p hp (v3 p hp)]
theorem acZ:∀(c:C),iq c=0→(owC c).length+10≤250 * wC c:=by
 refine C.ind' fun c ih hv=>?_;obtain ⟨v1,v2,v3⟩:=JC hv;have hw:=Eo c;have hq:c.name.length≤40 * (c.name.length / 40)+39:=by omega
 have hn:=fA c.name;have hop:∀p∈c.parts,(owC p).length+10≤250 * wC p:=fun p hp=>ih p hp (v3 p hp)
 have hsum:((c.parts.map owC).map fun x=>x.length+([32]:Rl).length).sum≤250 * wL c.parts:=by
  clear ih v3 hw;generalize c.parts=l at hop
  induction l with
  | nil=>simp [wL]
  | cons a r ih=>
   have h1:=hop a (by simp);have h2:=ih (fun p hp=>hop p (by simp [hp]));simp [wL] at h2 ⊢;omega
 rw [BO];unfold lM AA ttI;rcases Iu v1 with k|k|k|k|⟨k,k1,k2,k3⟩|⟨k,k1⟩|⟨k,k1⟩
 ·simp [k];omega
 ·simp [k];omega
 ·simp [k];omega
 ·simp [k,joinL];omega
 ·have l1:=Go.Lib.itoa_length_le c.lo (by omega) (by omega);have l2:=Go.Lib.itoa_length_le c.hi (by omega) (by omega);simp [k,joinL];omega
 ·rcases hps:c.parts with _|⟨a,r⟩
  ·simp [hps] at k1
  ·have:=hop a (by simp [hps])
   rw [hps] at hw;simp only [wL] at hw;simp [k,joinL];omega
 ·have:=CZ (c.parts.map owC) [32]
  simp [k];simp at this hsum;omega
theorem aft {x:Ax} (hg:x.Good) (hv:x.Vd):(owA x).length≤33000:=by
 have hside:∀c:C,(emptyS c=true∨iq c=0∧nN c≤64)→iq c=0→(owC c).length≤16000:=by
  intro c h h2;have h3:=acZ c h2;have h4:=agw c h2;have h5:=UQ h;omega
 have o1:=fA x.role;have o2:=fA x.a;have o3:=fA x.b;have o4:=hv.role.len;have o5:=hv.a.len;have o6:=hv.b.len
 have hnt:((iw x).map fun y=>y.length+1).sum≤25:=by unfold iw;split<;>decide
 have hwd:(yA x.kind).length≤30:=by
  unfold yA
  repeat' split
  all_goals decide
 have hj:=CZ (iw x++y5 x) [32];have hsum:((iw x++y5 x).map fun y=>y.length+([32]:Rl).length).sum=((iw x).map fun y=>y.length+1).sum+((y5 x).map fun y=>y.length+1).sum:=by simp
 rw [hsum] at hj;have hT:(owA x).length=(yA x.kind).length+2+(joinL [32] (iw x++y5 x)).length:=by unfold owA lM;simp;omega
 have hA:((y5 x).map fun y=>y.length+1).sum≤32500:=by
  unfold y5;rcases hg.k with k|k|k|k|k|k|k|k|k
  ·have l1:=hside x.left hv.l (hg.l (by simp [k]));have l2:=hside x.right hv.r (hg.r (by simp [k]));simp [k];omega
  ·have l1:=hside x.left hv.l (hg.l (by simp [k]));have l2:=hside x.right hv.r (hg.r (by simp [k]));simp [k];omega
  ·have l1:=hside x.left hv.l (hg.l (by simp [k]));have l2:=hside x.right hv.r (hg.r (by simp [k]));simp [k];omega
  ·have l2:=hside x.right hv.r (hg.r (by simp [k]));simp [k];omega
  ·have l3:=fA (x.roles.headD [])
   have l4:(x.roles.headD []).length≤24:=by
    cases hh:x.roles with
    | nil=>simp
    | cons r rr=>exact (hv.rs r (by rw [hh];simp)).len
   rw [if_neg (by omega),if_neg (by omega),if_neg (by omega),if_neg (by omega),if_pos k];simp only [List.map_cons,List.map_nil,List.sum_cons,List.sum_nil];omega
  ·have hj2:=CZ (x.roles.map owN) [32]
   have hr:∀rs:List Rl,(∀r∈rs,Nd r)→((rs.map owN).map fun y=>y.length+([32]:Rl).length).sum≤26 * rs.length:=by
    intro rs
    induction rs with
    | nil=>intro _;simp
    | cons r rs ih=>
     intro h;have h1:=ih fun q hq=>h q (by simp [hq]);have h2:=(h r (by simp)).len;have h3:=fA r;simp only [List.map_cons,List.sum_cons,List.length_cons,List.length_nil] at h1 ⊢;omega
   have h1:=hr x.roles hv.rs;have h2:=hv.n;rw [if_neg (by omega),if_neg (by omega),if_neg (by omega),if_neg (by omega),if_neg (by omega),if_pos k];unfold lM;simp only [List.map_cons,List.map_nil,List.sum_cons,List.sum_nil,List.length_append,List.length_cons,List.length_nil];omega
  ·simp [k];omega
  ·have l2:=hside x.right hv.r (hg.r (by simp [k]));simp [k];omega
  ·simp [k];omega
 omega
end Go.Ai.Z
