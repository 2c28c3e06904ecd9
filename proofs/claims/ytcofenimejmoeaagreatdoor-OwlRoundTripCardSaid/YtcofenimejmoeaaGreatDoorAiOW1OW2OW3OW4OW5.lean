/-
 Names, numbers and calls in ontology documents.
-/
import Derived.Test.YtcofenimejmoeaaGreatDoorAiK5K6K7
import Derived.Test.YtcofenimejmoeaaGreatDoorAiCircCRefR37R61R62R63K13
set_option maxRecDepth 100000
set_option linter.unusedSimpArgs false
set_option linter.unusedVariables false
set_option linter.unusedSectionVars false
namespace Go.Ai.Z
open Go.Lib (itoa decDigits nDigits)
theorem BK (l:Rl) (b:UInt8) (s:St) (cx:Ctx):aj P0 (.fn (.func oP) [] []) [.s l,.s [b]] s cx=.ret (.i .i64 (Go.Lib.indexByte l b)) s:=by
 refine Na (by simp) ?_;simp [af,vw,Wx]
theorem Kt (l:Rl) (b:UInt8) (s:St) (cx:Ctx):aj P0 (.fn (.func lV) [] []) [.s l,.s [b]] s cx=.ret (.b (decide (b∈l))) s:=by
 have e1:=BK l b;refine H6 (by simp) ?_
 cases hc:lC b l with
 | none=>
  have hm:=yU.1 hc;rw [index_none hc] at e1;simp [af,nC,e1,hm]
 | some p=>
  obtain ⟨x,y⟩:=p;have hm:b∈l:=by rw [wu hc];simp
  rw [Eg hc] at e1;simp [af,nC,e1,hm]
def owN (n:Rl):Rl:=if (58:UInt8)∈n then n else 58::n
def lK (w:Rl) (args:List Rl):Rl:=w++[40]++joinL [32] args++[41]
def ttI:Rl:=[34,94,94,120,115,100,58,105,110,116,101,103,101,114]
def A7 (w:Rl) (n:Int):Rl:=w++[32,34]++itoa n++ttI
theorem bV (n:Rl) (hn:n.length≤1000000) (s:St) (cx:Ctx):aj P0 (.fn (.func iZ) [] []) [.s n] s cx=.ret (.s (owN n)) s:=by
 have e1:=Kt n 58;have l1:n.length+1≤4611686018427387904:=by omega
 refine XV (by simp) ?_
 by_cases h:(58:UInt8)∈n<;>simp [af,BO,e1,h,owN,l1]
theorem dY (w:Rl) (args:List Rl) (hw:w.length≤1000) (hj:(joinL [32] args).length≤1000000) (ha:args.length≤1000000) (s:St) (cx:Ctx):
  aj P0 (.fn (.func oG) [] []) [.s w,.sl (args.map .s)] s cx=.ret (.s (lK w args)) s:=by
 have e1:=Gv args [32] (by omega) (by omega);refine XW (by simp) ?_;unfold lK;simp [af,BP,e1]
 repeat' (first | (split<;>(try simp only [fZ,gm,gy,kz,kC])<;>(try simp [*])) | (simp only [fZ,gm,gy,kz,kC]<;>(try simp [*]))|omega)
theorem OG (w:Rl) (n:Int) (hw:w.length≤1000) (h1:-1099511627776≤n) (h2:n≤1099511627776) (s:St) (cx:Ctx):
  aj P0 (.fn (.func xC) [] []) [.s w,.i .i64 n] s cx=.ret (.s (A7 w n)) s:=by
 have e1:=Si n (by omega) (by omega);have l1:=Go.Lib.itoa_length_le n (by omega) (by omega);refine VX (by simp) ?_;unfold A7 ttI;simp [af,Af,e1]
 repeat' (first | (split<;>(try simp only [fZ,gm,gy,kz,kC])<;>(try simp [*])) | (simp only [fZ,gm,gy,kz,kC]<;>(try simp [*]))|omega)
def JR (n:Rl):Rl:=match lC 58 n with|some (x,_)=>x|none=>[]
theorem aal {n:Rl} (h:oJ n=true∨L6 n=true):(JR n=[] ↔ (58:UInt8) ∉ n)∧n.length≤24:=by
 unfold JR;rcases h with h|h
 ·unfold oJ at h;rw [Bool.and_eq_true,decide_eq_true_eq] at h;refine ⟨?_,h.1⟩
  cases hc:lC 58 n with
  | none=>simp [yU.1 hc]
  | some p=>
   obtain ⟨x,y⟩:=p;rw [hc] at h;have h2:=h.2;simp only [Bool.and_eq_true] at h2;have hx:x≠[]:=fun e=>by rw [e] at h2;simp [AB] at h2
   have hm:(58:UInt8)∈n:=by rw [wu hc];simp
   simp [hx,hm]
 ·unfold L6 at h;simp only [Bool.and_eq_true,decide_eq_true_eq] at h;obtain ⟨⟨⟨h1,h2⟩,h3⟩,h4⟩:=h;refine ⟨?_,h2⟩
  have hno:(58:UInt8) ∉ n:=by
   have ht:∀l:Rl,Ik l=true→(58:UInt8) ∉ l:=by
    intro l
    induction l with
    | nil=>simp
    | cons b r ih=>
     intro hl;rw [IV,Bool.and_eq_true] at hl;simp only [List.mem_cons,not_or];refine ⟨?_,ih hl.2⟩;rintro rfl
     have:Zj 58=false:=by decide
     rw [this] at hl;exact absurd hl.1 (by decide)
   exact ht n h4
  rw [yU.2 hno];simp [hno]
end Go.Ai.Z
namespace Go.Ai.Z
open Go.Lib (itoa)
mutual
def owC:C→Rl
 | .mk k n lo hi _ ps=>
  if k=1 then wB4
  else if k=2 then wB1
  else if k=4 then lK wB6 [owN n]
  else if k=5 then lK wA5 (abt ps)
  else if k=6 then lK wA6 [owN n,(abt ps).headD []]
  else if k=7 then lK wA8 [owN n,lK wA7 [wA0,A7 wA1 lo,A7 wA4 hi]]
  else owN n
def abt:List C→List Rl
 | []=>[]
 | c::r=>owC c::abt r
end
theorem aah:∀l:List C,abt l=l.map owC
 | []=>by simp [abt]
 | c::r=>by simp [abt,aah r]
theorem zH (c:C):owC c=if c.kind=1 then wB4
  else if c.kind=2 then wB1
  else if c.kind=4 then lK wB6 [owN c.name]
  else if c.kind=5 then lK wA5 (c.parts.map owC)
  else if c.kind=6 then lK wA6 [owN c.name,(c.parts.map owC).headD []]
  else if c.kind=7 then lK wA8 [owN c.name,lK wA7 [wA0,A7 wA1 c.lo,A7 wA4 c.hi]]
  else owN c.name:=by cases c;simp only [owC,aah];rfl
theorem eP (n:Rl):(owN n).length≤n.length+1:=by unfold owN;split<;>simp
theorem VE:∀(c:C),iG c=0→(owC c).length+10≤300 * wC c:=by
 refine C.ind' fun c ih hv=>?_;obtain ⟨v1,v2,v3⟩:=JU hv;have hw:=Bz c;have hq:c.name.length≤40 * (c.name.length / 40)+39:=by omega
 have hn:=eP c.name;have hop:∀p∈c.parts,(owC p).length+10≤300 * wC p:=fun p hp=>ih p hp (v3 p hp)
 have hsum:((c.parts.map owC).map fun x=>x.length+([32]:Rl).length).sum≤300 * wL c.parts:=by
  clear ih v3 hw;generalize c.parts=l at hop
  induction l with
  | nil=>simp [wL]
  | cons a r ih=>
   have h1:=hop a (by simp);have h2:=ih (fun p hp=>hop p (by simp [hp]));simp [wL] at h2 ⊢;omega
 rw [zH];unfold lK A7 ttI;rcases IW v1 with k|k|k|k|⟨k,k1,k2,k3⟩|⟨k,k1⟩|⟨k,k1⟩
 ·simp [k];omega
 ·simp [k];omega
 ·simp [k];omega
 ·simp [k,joinL];omega
 ·have l1:=Go.Lib.itoa_length_le c.lo (by omega) (by omega);have l2:=Go.Lib.itoa_length_le c.hi (by omega) (by omega);simp [k,joinL];omega
 ·rcases hps:c.parts with _|⟨a,r⟩
  ·simp [hps] at k1
  ·have:=hop a (by simp [hps])
   rw [hps] at hw;simp only [wL] at hw;simp [k,joinL];omega
 ·have:=Dv (c.parts.map owC) [32]
  simp [k];simp at this hsum;omega
theorem Iw (s:St) (cx:Ctx) (c:C) (hps:c.parts.length≤100000)
  (ih:∀p∈c.parts,∀(s:St) (cx:Ctx),aj P0 (.fn (.func fA) [] []) [aJ p] s cx=.ret (.s (owC p)) s):
  ∀(rest:List C) (i:Nat) (t:List Rl),c.parts.drop i=rest→t.length=i→
  ∃j:Int,gQ (aB P0.glob (aj P0) cx false um) [3,23,24,25] [(3,.own false au 1 (t.map .s)),(23,.v (slf c.z (c.parts.map aJ))),(24,.v (.i .i64 c.parts.length)),(25,.v (.i .i64 i))] s=
   .exit 1 [(3,.own false au 1 ((t++rest.map owC).map .s)),(23,.v (slf c.z (c.parts.map aJ))),(24,.v (.i .i64 c.parts.length)),(25,.v (.i .i64 j)),(26,.v (.b false))] s
 | [],i,t,h,ht=>by
  have h1:¬i<c.parts.length:=Nat.not_lt.2 (drop_nil h);refine ⟨i,ak fun K hK=>?_⟩;simp [um,h1]
 | p::r,i,t,h,ht=>by
  obtain ⟨h1,h2,h3,h4⟩:=drop_cons h;have h5:=h4 h3;have hp:p∈c.parts:=by rw [←h5];exact List.getElem_mem h3
  have hwi:=wI (i:=i) (by omega);obtain ⟨j,ih2⟩:=Iw s cx c hps ih r (i+1) (t++[owC p]) h2 (by simp [ht]);refine ⟨j,ak fun K hK=>?_⟩;rw [←hK] at ih2;have e1:=ih p hp;clear hK h4 ih;simp at ih2;have hm:t.length+1≤aQ:=by unfold aQ;omega
  simp [um,h3,h5,hwi,e1,hm,ih2,List.range_succ,splice]
theorem nP:∀(c:C),wC c≤1000→iG c=0→∀(s:St) (cx:Ctx),aj P0 (.fn (.func fA) [] []) [aJ c] s cx=.ret (.s (owC c)) s:=by
 refine C.ind' fun c ih hw hv s cx=>?_;obtain ⟨v1,v2,v3⟩:=JU hv;have hw':=hw;rw [Bz] at hw'
 have hO:∀p∈c.parts,∀(s:St) (cx:Ctx),aj P0 (.fn (.func fA) [] []) [aJ p] s cx=.ret (.s (owC p)) s:=fun p hp=>
  ih p hp (by have:=LW hp;omega) (v3 p hp)
 have hl:∀p∈c.parts,(owC p).length+10≤300 * wC p:=fun p hp=>VE p (v3 p hp);have hlen:=PZ c.parts;have htl:=VE c hv;have hnl:c.name.length≤100000:=by omega
 have hN:=eP c.name;have eN:=bV c.name (by omega);clear ih;refine Rn (by simp) ?_;rcases IW v1 with k|k|k|k|⟨k,k1,k2,k3⟩|⟨k,k1⟩|⟨k,k1⟩
 ·rw [show owC c=_ from by rw [zH,if_pos k]];simp [af,jX,kd k]
 ·rw [show owC c=_ from by rw [zH,if_neg (by omega),if_pos k]];simp [af,jX,kd k,kn 1 k rfl]
 ·rw [show owC c=owN c.name from by rw [zH,if_neg (by omega),if_neg (by omega),if_neg (by omega),if_neg (by omega),if_neg (by omega),if_neg (by omega)]];simp [af,jX,kn 1 k rfl,kn 2 k rfl,kn 4 k rfl,kn 5 k rfl,kn 6 k rfl,kn 7 k rfl,eN]
 ·rw [show owC c=_ from by rw [zH,if_neg (by omega),if_neg (by omega),if_pos k]];have e1:=dY wB6 [owN c.name] (by decide) (by simp [joinL];omega) (by simp);simp at e1;simp [af,jX,kd k,kn 1 k rfl,kn 2 k rfl,eN,e1]
 ·rw [show owC c=_ from by rw [zH,if_neg (by omega),if_neg (by omega),if_neg (by omega),if_neg (by omega),if_neg (by omega),if_pos k]];have l1:=Go.Lib.itoa_length_le c.lo (by omega) (by omega);have l2:=Go.Lib.itoa_length_le c.hi (by omega) (by omega);have e1:=OG wA1 c.lo (by decide) (by omega) (by omega);have e2:=OG wA4 c.hi (by decide) (by omega) (by omega);have e3:=dY wA7 [wA0,A7 wA1 c.lo,A7 wA4 c.hi] (by decide) (by simp [joinL,A7,ttI];omega) (by simp);have e4:=dY wA8 [owN c.name,lK wA7 [wA0,A7 wA1 c.lo,A7 wA4 c.hi]] (by decide) (by simp [joinL,lK,A7,ttI];omega) (by simp);generalize lK wA7 [wA0,A7 wA1 c.lo,A7 wA4 c.hi]=Z at *;simp at e3 e4;simp [af,jX,kd k,kn 1 k rfl,kn 2 k rfl,kn 4 k rfl,kn 5 k rfl,kn 6 k rfl,eN,e1,e2,e3,e4,List.range_succ]
 ·rcases hps:c.parts with _|⟨a,r⟩
  ·simp [hps] at k1
  ·have e1:=hO a (by simp [hps]);have l1:=hl a (by simp [hps]);have hwa:wC a≤1000:=by have:=LW (p:=a) (l:=c.parts) (by simp [hps]);omega
   rw [show owC c=_ from by rw [zH,if_neg (by omega),if_neg (by omega),if_neg (by omega),if_neg (by omega),if_pos k]];have e4:=dY wA6 [owN c.name,owC a] (by decide) (by simp [joinL];omega) (by simp);simp at e4;simp [af,jX,kd k,kn 1 k rfl,kn 2 k rfl,kn 4 k rfl,kn 5 k rfl,eN,e1,e4,hps,List.range_succ]
 ·rw [show owC c=_ from by rw [zH,if_neg (by omega),if_neg (by omega),if_neg (by omega),if_pos k]];obtain ⟨j,h⟩:=Iw s ⟨s.length,s.length⟩ c (by omega) hO c.parts 0 [] rfl rfl;have hj:=Dv (c.parts.map owC) [32]
  have hs:((c.parts.map owC).map fun x=>x.length+([32]:Rl).length).sum≤300 * wL c.parts:=by
   clear hO h hlen htl hN eN hnl hw' hw hj v3 k1;generalize c.parts=l at hl
   induction l with
   | nil=>simp [wL]
   | cons a r ih=>
    have h1:=hl a (by simp);have h2:=ih (fun p hp=>hl p (by simp [hp]));simp [wL] at h2 ⊢;omega
  have e1:=dY wA5 (c.parts.map owC) (by decide) (by omega) (by simp;omega);simp at h e1;simp [af,jX,kd k,kn 1 k rfl,kn 2 k rfl,kn 4 k rfl,h,e1]
end Go.Ai.Z
namespace Go.Ai.Z
open Go.Lib (itoa)
end Go.Ai.Z
namespace Go.Ai.Z
def fG:Rl:=wD1
def gY (x:Ax):List Rl:=if x.op=true then [fG] else []
def yJ (k:Int):Rl:=
 if k=1 then wC2
 else if k=2 then wB3
 else if k=3 then wB5
 else if k=4 then wB2
 else if k=5 then wA3
 else if k=6 then wA3
 else if k=7 then wA9
 else if k=8 then wB7
 else wB0
def yK (x:Ax):List Rl:=
 if x.kind=1 then [owC x.left,owC x.right]
 else if x.kind=2 then [owC x.left,owC x.right]
 else if x.kind=3 then [owC x.left,owC x.right]
 else if x.kind=4 then [owN x.role,owC x.right]
 else if x.kind=5 then [owN (x.roles.headD []),owN x.role]
 else if x.kind=6 then [lK wA2 (x.roles.map owN),owN x.role]
 else if x.kind=7 then [owN x.role]
 else if x.kind=8 then [owC x.right,owN x.a]
 else [owN x.role,owN x.a,owN x.b]
def owA (x:Ax):Rl:=lK (yJ x.kind) (gY x++yK x)
theorem FB {c:C} (hw:wC c≤150) (hv:iG c=0):(owC c).length≤45000:=by have:=VE c hv;omega
theorem FV (s:St) (cx:Ctx) (z:Bool) (roles:List Rl) (hl:roles.length≤600) (hb:∀r∈roles,r.length≤600) (V1 V4:List AV):
  ∀(rest:List Rl) (i:Nat) (t:List Rl),roles.drop i=rest→t.length=i→
  ∃j:Int,gQ (aB P0.glob (aj P0) cx false wM) [1,4,5,75,76,77] [(1,.bx V1),(4,.own false au 1 V4),(5,.own false au 1 (t.map .s)),(75,.v (slf z (roles.map .s))),(76,.v (.i .i64 roles.length)),(77,.v (.i .i64 i))] s=
   .exit 1 [(1,.bx V1),(4,.own false au 1 V4),(5,.own false au 1 ((t++rest.map owN).map .s)),(75,.v (slf z (roles.map .s))),(76,.v (.i .i64 roles.length)),(77,.v (.i .i64 j)),(78,.v (.b false))] s
 | [],i,t,h,ht=>by
  have h1:¬i<roles.length:=Nat.not_lt.2 (drop_nil h);refine ⟨i,ak fun K hK=>?_⟩;simp [wM,h1]
 | p::r,i,t,h,ht=>by
  obtain ⟨h1,h2,h3,h4⟩:=drop_cons h;have h5:=h4 h3;have hp:p∈roles:=by rw [←h5];exact List.getElem_mem h3
  have hwi:=wI (i:=i) (by omega);have hpl:=hb p hp;obtain ⟨j,ih2⟩:=FV s cx z roles hl hb V1 V4 r (i+1) (t++[owN p]) h2 (by simp [ht]);refine ⟨j,ak fun K hK=>?_⟩;rw [←hK] at ih2;have e1:=bV p (by omega);clear hK h4;simp at ih2;have hm:t.length+1≤aQ:=by unfold aQ;omega
  simp [wM,h3,h5,hwi,e1,hm,ih2,List.range_succ]
theorem afP (x:Ax) (hx:x.Few) (hg:x.Good) (k:x.kind=1) (s:St) (cx:Ctx):aj P0 (.fn (.func jO) [] []) [cu x] s cx=.ret (.s (owA x)) s:=by
 have hs1:1≤aQ:=by decide
 have hs2:2≤aQ:=by decide
 have hs3:3≤aQ:=by decide
 have hs4:4≤aQ:=by decide
 have a1:=eP x.role;have a2:=eP x.a;have a3:=eP x.b;have b1:=hx.role;have b2:=hx.a;have b3:=hx.b;have e1:=bV x.role (by omega);have e2:=bV x.a (by omega);have e3:=bV x.b (by omega);have vl:=hg.l (by simp [k]);have cl:=nP x.left (by have:=hx.l;omega) vl;have ll:=FB hx.l vl;have vr:=hg.r (by simp [k]);have cr:=nP x.right (by have:=hx.r;omega) vr;have lr:=FB hx.r vr
 have ho:owA x=lK wC2 (gY x++[owC x.left,owC x.right]):=by
  unfold owA yJ yK;simp [k]
 rw [ho];cases hop:x.op
 ·have hn:gY x=[]:=by unfold gY;rw [hop];rfl
  rw [hn];have ec:=dY wC2 ([]++[owC x.left,owC x.right]) (by decide) (by simp [joinL,fG];omega) (by simp);simp [fG] at ec ⊢;refine eU (by simp) ?_;simp -implicitDefEqProofs [af,dJ,cu,cellsA,k,hop,e1,e2,e3,ec,List.range_succ,hs1,hs2,hs3,hs4,cl,cr]
 ·have hn:gY x=[fG]:=by unfold gY;rw [hop];rfl
  rw [hn];have ec:=dY wC2 ([fG]++[owC x.left,owC x.right]) (by decide) (by simp [joinL,fG];omega) (by simp);simp [fG] at ec ⊢;refine eU (by simp) ?_;simp -implicitDefEqProofs [af,dJ,cu,cellsA,k,hop,e1,e2,e3,ec,List.range_succ,hs1,hs2,hs3,hs4,cl,cr]
theorem afO (x:Ax) (hx:x.Few) (hg:x.Good) (k:x.kind=2) (s:St) (cx:Ctx):aj P0 (.fn (.func jO) [] []) [cu x] s cx=.ret (.s (owA x)) s:=by
 have hs1:1≤aQ:=by decide
 have hs2:2≤aQ:=by decide
 have hs3:3≤aQ:=by decide
 have hs4:4≤aQ:=by decide
 have a1:=eP x.role;have a2:=eP x.a;have a3:=eP x.b;have b1:=hx.role;have b2:=hx.a;have b3:=hx.b;have e1:=bV x.role (by omega);have e2:=bV x.a (by omega);have e3:=bV x.b (by omega);have vl:=hg.l (by simp [k]);have cl:=nP x.left (by have:=hx.l;omega) vl;have ll:=FB hx.l vl;have vr:=hg.r (by simp [k]);have cr:=nP x.right (by have:=hx.r;omega) vr;have lr:=FB hx.r vr
 have ho:owA x=lK wB3 (gY x++[owC x.left,owC x.right]):=by
  unfold owA yJ yK;simp [k]
 rw [ho];cases hop:x.op
 ·have hn:gY x=[]:=by unfold gY;rw [hop];rfl
  rw [hn];have ec:=dY wB3 ([]++[owC x.left,owC x.right]) (by decide) (by simp [joinL,fG];omega) (by simp);simp [fG] at ec ⊢;refine eU (by simp) ?_;simp -implicitDefEqProofs [af,dJ,cu,cellsA,k,hop,e1,e2,e3,ec,List.range_succ,hs1,hs2,hs3,hs4,cl,cr]
 ·have hn:gY x=[fG]:=by unfold gY;rw [hop];rfl
  rw [hn];have ec:=dY wB3 ([fG]++[owC x.left,owC x.right]) (by decide) (by simp [joinL,fG];omega) (by simp);simp [fG] at ec ⊢;refine eU (by simp) ?_;simp -implicitDefEqProofs [af,dJ,cu,cellsA,k,hop,e1,e2,e3,ec,List.range_succ,hs1,hs2,hs3,hs4,cl,cr]
theorem afN (x:Ax) (hx:x.Few) (hg:x.Good) (k:x.kind=3) (s:St) (cx:Ctx):aj P0 (.fn (.func jO) [] []) [cu x] s cx=.ret (.s (owA x)) s:=by
 have hs1:1≤aQ:=by decide
 have hs2:2≤aQ:=by decide
 have hs3:3≤aQ:=by decide
 have hs4:4≤aQ:=by decide
 have a1:=eP x.role;have a2:=eP x.a;have a3:=eP x.b;have b1:=hx.role;have b2:=hx.a;have b3:=hx.b;have e1:=bV x.role (by omega);have e2:=bV x.a (by omega);have e3:=bV x.b (by omega);have vl:=hg.l (by simp [k]);have cl:=nP x.left (by have:=hx.l;omega) vl;have ll:=FB hx.l vl;have vr:=hg.r (by simp [k]);have cr:=nP x.right (by have:=hx.r;omega) vr;have lr:=FB hx.r vr
 have ho:owA x=lK wB5 (gY x++[owC x.left,owC x.right]):=by
  unfold owA yJ yK;simp [k]
 rw [ho];cases hop:x.op
 ·have hn:gY x=[]:=by unfold gY;rw [hop];rfl
  rw [hn];have ec:=dY wB5 ([]++[owC x.left,owC x.right]) (by decide) (by simp [joinL,fG];omega) (by simp);simp [fG] at ec ⊢;refine eU (by simp) ?_;simp -implicitDefEqProofs [af,dJ,cu,cellsA,k,hop,e1,e2,e3,ec,List.range_succ,hs1,hs2,hs3,hs4,cl,cr]
 ·have hn:gY x=[fG]:=by unfold gY;rw [hop];rfl
  rw [hn];have ec:=dY wB5 ([fG]++[owC x.left,owC x.right]) (by decide) (by simp [joinL,fG];omega) (by simp);simp [fG] at ec ⊢;refine eU (by simp) ?_;simp -implicitDefEqProofs [af,dJ,cu,cellsA,k,hop,e1,e2,e3,ec,List.range_succ,hs1,hs2,hs3,hs4,cl,cr]
theorem afM (x:Ax) (hx:x.Few) (hg:x.Good) (k:x.kind=4) (s:St) (cx:Ctx):aj P0 (.fn (.func jO) [] []) [cu x] s cx=.ret (.s (owA x)) s:=by
 have hs1:1≤aQ:=by decide
 have hs2:2≤aQ:=by decide
 have hs3:3≤aQ:=by decide
 have hs4:4≤aQ:=by decide
 have a1:=eP x.role;have a2:=eP x.a;have a3:=eP x.b;have b1:=hx.role;have b2:=hx.a;have b3:=hx.b;have e1:=bV x.role (by omega);have e2:=bV x.a (by omega);have e3:=bV x.b (by omega);have vr:=hg.r (by simp [k]);have cr:=nP x.right (by have:=hx.r;omega) vr;have lr:=FB hx.r vr
 have ho:owA x=lK wB2 (gY x++[owN x.role,owC x.right]):=by
  unfold owA yJ yK;simp [k]
 rw [ho];cases hop:x.op
 ·have hn:gY x=[]:=by unfold gY;rw [hop];rfl
  rw [hn];have ec:=dY wB2 ([]++[owN x.role,owC x.right]) (by decide) (by simp [joinL,fG];omega) (by simp);simp [fG] at ec ⊢;refine eU (by simp) ?_;simp -implicitDefEqProofs [af,dJ,cu,cellsA,k,hop,e1,e2,e3,ec,List.range_succ,hs1,hs2,hs3,hs4,cr]
 ·have hn:gY x=[fG]:=by unfold gY;rw [hop];rfl
  rw [hn];have ec:=dY wB2 ([fG]++[owN x.role,owC x.right]) (by decide) (by simp [joinL,fG];omega) (by simp);simp [fG] at ec ⊢;refine eU (by simp) ?_;simp -implicitDefEqProofs [af,dJ,cu,cellsA,k,hop,e1,e2,e3,ec,List.range_succ,hs1,hs2,hs3,hs4,cr]
theorem afL (x:Ax) (hx:x.Few) (hg:x.Good) (k:x.kind=5) (s:St) (cx:Ctx):aj P0 (.fn (.func jO) [] []) [cu x] s cx=.ret (.s (owA x)) s:=by
 have hs1:1≤aQ:=by decide
 have hs2:2≤aQ:=by decide
 have hs3:3≤aQ:=by decide
 have hs4:4≤aQ:=by decide
 have a1:=eP x.role;have a2:=eP x.a;have a3:=eP x.b;have b1:=hx.role;have b2:=hx.a;have b3:=hx.b;have e1:=bV x.role (by omega);have e2:=bV x.a (by omega);have e3:=bV x.b (by omega)
 obtain ⟨r0,hr0⟩:∃r0,x.roles=[r0]:=by
  have:=hg.r5 k
  match hh:x.roles,this with
  | [r0],_=>exact ⟨r0,rfl⟩
 have br:=hx.rs r0 (by rw [hr0];simp);have ar:=eP r0;have e4:=bV r0 (by omega)
 have ho:owA x=lK wA3 (gY x++[owN (x.roles.headD []),owN x.role]):=by
  unfold owA yJ yK;simp [k]
 rw [ho];cases hop:x.op
 ·have hn:gY x=[]:=by unfold gY;rw [hop];rfl
  rw [hn];rw [hr0];simp only [List.headD_cons];have ec:=dY wA3 ([]++[owN (r0),owN x.role]) (by decide) (by simp [joinL,fG];omega) (by simp);simp [fG] at ec ⊢;refine eU (by simp) ?_;simp -implicitDefEqProofs [af,dJ,cu,cellsA,k,hop,e1,e2,e3,ec,List.range_succ,hs1,hs2,hs3,hs4,hr0,e4]
 ·have hn:gY x=[fG]:=by unfold gY;rw [hop];rfl
  rw [hn];rw [hr0];simp only [List.headD_cons];have ec:=dY wA3 ([fG]++[owN (r0),owN x.role]) (by decide) (by simp [joinL,fG];omega) (by simp);simp [fG] at ec ⊢;refine eU (by simp) ?_;simp -implicitDefEqProofs [af,dJ,cu,cellsA,k,hop,e1,e2,e3,ec,List.range_succ,hs1,hs2,hs3,hs4,hr0,e4]
theorem afK (x:Ax) (hx:x.Few) (hg:x.Good) (k:x.kind=6) (s:St) (cx:Ctx):aj P0 (.fn (.func jO) [] []) [cu x] s cx=.ret (.s (owA x)) s:=by
 have hs1:1≤aQ:=by decide
 have hs2:2≤aQ:=by decide
 have hs3:3≤aQ:=by decide
 have hs4:4≤aQ:=by decide
 have a1:=eP x.role;have a2:=eP x.a;have a3:=eP x.b;have b1:=hx.role;have b2:=hx.a;have b3:=hx.b;have e1:=bV x.role (by omega);have e2:=bV x.a (by omega);have e3:=bV x.b (by omega)
 have ho:owA x=lK wA3 (gY x++[lK wA2 (x.roles.map owN),owN x.role]):=by
  unfold owA yJ yK;simp [k]
 rw [ho];obtain ⟨h2,h4⟩:=hg.r6 k;have hj:=Dv (x.roles.map owN) [32]
 have hsum:((x.roles.map owN).map fun y=>y.length+([32]:Rl).length).sum≤602 * x.roles.length:=by
  have hb:=hx.rs;clear hj h2 h4 ho;generalize x.roles=l at hb
  induction l with
  | nil=>simp
  | cons a r ih=>
   have q1:=hb a (by simp);have q2:=ih (fun p hp=>hb p (by simp [hp]));have q3:=eP a;simp at q2 ⊢;omega
 have e5:=dY wA2 (x.roles.map owN) (by decide) (by omega) (by simp;omega);have hcl:(lK wA2 (x.roles.map owN)).length≤10000:=by unfold lK;simp;omega
 generalize lK wA2 (x.roles.map owN)=CH at *;cases hop:x.op
 ·have hn:gY x=[]:=by unfold gY;rw [hop];rfl
  rw [hn];obtain ⟨j,h⟩:=FV s ⟨s.length,s.length⟩ x.z x.roles (by omega) hx.rs (cellsA x) [] x.roles 0 [] rfl rfl;have ec:=dY wA3 ([]++[CH,owN x.role]) (by decide) (by simp [joinL,fG];omega) (by simp);simp [fG,cellsA,k,hop] at h;simp [fG] at ec e5 ⊢;refine eU (by simp) ?_;simp -implicitDefEqProofs [af,dJ,cu,cellsA,k,hop,e1,e5,ec,h,List.range_succ,hs1,hs2,hs3,hs4]
 ·have hn:gY x=[fG]:=by unfold gY;rw [hop];rfl
  rw [hn];obtain ⟨j,h⟩:=FV s ⟨s.length,s.length⟩ x.z x.roles (by omega) hx.rs (cellsA x) [.s fG] x.roles 0 [] rfl rfl;have ec:=dY wA3 ([fG]++[CH,owN x.role]) (by decide) (by simp [joinL,fG];omega) (by simp);simp [fG,cellsA,k,hop] at h;simp [fG] at ec e5 ⊢;refine eU (by simp) ?_;simp -implicitDefEqProofs [af,dJ,cu,cellsA,k,hop,e1,e5,ec,h,List.range_succ,hs1,hs2,hs3,hs4]
theorem afJ (x:Ax) (hx:x.Few) (hg:x.Good) (k:x.kind=7) (s:St) (cx:Ctx):aj P0 (.fn (.func jO) [] []) [cu x] s cx=.ret (.s (owA x)) s:=by
 have hs1:1≤aQ:=by decide
 have hs2:2≤aQ:=by decide
 have hs3:3≤aQ:=by decide
 have hs4:4≤aQ:=by decide
 have a1:=eP x.role;have a2:=eP x.a;have a3:=eP x.b;have b1:=hx.role;have b2:=hx.a;have b3:=hx.b;have e1:=bV x.role (by omega);have e2:=bV x.a (by omega);have e3:=bV x.b (by omega)
 have ho:owA x=lK wA9 (gY x++[owN x.role]):=by
  unfold owA yJ yK;simp [k]
 rw [ho];cases hop:x.op
 ·have hn:gY x=[]:=by unfold gY;rw [hop];rfl
  rw [hn];have ec:=dY wA9 ([]++[owN x.role]) (by decide) (by simp [joinL,fG];omega) (by simp);simp [fG] at ec ⊢;refine eU (by simp) ?_;simp -implicitDefEqProofs [af,dJ,cu,cellsA,k,hop,e1,e2,e3,ec,List.range_succ,hs1,hs2,hs3,hs4]
 ·have hn:gY x=[fG]:=by unfold gY;rw [hop];rfl
  rw [hn];have ec:=dY wA9 ([fG]++[owN x.role]) (by decide) (by simp [joinL,fG];omega) (by simp);simp [fG] at ec ⊢;refine eU (by simp) ?_;simp -implicitDefEqProofs [af,dJ,cu,cellsA,k,hop,e1,e2,e3,ec,List.range_succ,hs1,hs2,hs3,hs4]
theorem afI (x:Ax) (hx:x.Few) (hg:x.Good) (k:x.kind=8) (s:St) (cx:Ctx):aj P0 (.fn (.func jO) [] []) [cu x] s cx=.ret (.s (owA x)) s:=by
 have hs1:1≤aQ:=by decide
 have hs2:2≤aQ:=by decide
 have hs3:3≤aQ:=by decide
 have hs4:4≤aQ:=by decide
 have a1:=eP x.role;have a2:=eP x.a;have a3:=eP x.b;have b1:=hx.role;have b2:=hx.a;have b3:=hx.b;have e1:=bV x.role (by omega);have e2:=bV x.a (by omega);have e3:=bV x.b (by omega);have vr:=hg.r (by simp [k]);have cr:=nP x.right (by have:=hx.r;omega) vr;have lr:=FB hx.r vr
 have ho:owA x=lK wB7 (gY x++[owC x.right,owN x.a]):=by
  unfold owA yJ yK;simp [k]
 rw [ho];cases hop:x.op
 ·have hn:gY x=[]:=by unfold gY;rw [hop];rfl
  rw [hn];have ec:=dY wB7 ([]++[owC x.right,owN x.a]) (by decide) (by simp [joinL,fG];omega) (by simp);simp [fG] at ec ⊢;refine eU (by simp) ?_;simp -implicitDefEqProofs [af,dJ,cu,cellsA,k,hop,e1,e2,e3,ec,List.range_succ,hs1,hs2,hs3,hs4,cr]
 ·have hn:gY x=[fG]:=by unfold gY;rw [hop];rfl
  rw [hn];have ec:=dY wB7 ([fG]++[owC x.right,owN x.a]) (by decide) (by simp [joinL,fG];omega) (by simp);simp [fG] at ec ⊢;refine eU (by simp) ?_;simp -implicitDefEqProofs [af,dJ,cu,cellsA,k,hop,e1,e2,e3,ec,List.range_succ,hs1,hs2,hs3,hs4,cr]
theorem afH (x:Ax) (hx:x.Few) (hg:x.Good) (k:x.kind=9) (s:St) (cx:Ctx):aj P0 (.fn (.func jO) [] []) [cu x] s cx=.ret (.s (owA x)) s:=by
 have hs1:1≤aQ:=by decide
 have hs2:2≤aQ:=by decide
 have hs3:3≤aQ:=by decide
 have hs4:4≤aQ:=by decide
 have a1:=eP x.role;have a2:=eP x.a;have a3:=eP x.b;have b1:=hx.role;have b2:=hx.a;have b3:=hx.b;have e1:=bV x.role (by omega);have e2:=bV x.a (by omega);have e3:=bV x.b (by omega)
 have ho:owA x=lK wB0 (gY x++[owN x.role,owN x.a,owN x.b]):=by
  unfold owA yJ yK;simp [k]
 rw [ho];cases hop:x.op
 ·have hn:gY x=[]:=by unfold gY;rw [hop];rfl
  rw [hn];have ec:=dY wB0 ([]++[owN x.role,owN x.a,owN x.b]) (by decide) (by simp [joinL,fG];omega) (by simp);simp [fG] at ec ⊢;refine eU (by simp) ?_;simp -implicitDefEqProofs [af,dJ,cu,cellsA,k,hop,e1,e2,e3,ec,List.range_succ,hs1,hs2,hs3,hs4]
 ·have hn:gY x=[fG]:=by unfold gY;rw [hop];rfl
  rw [hn];have ec:=dY wB0 ([fG]++[owN x.role,owN x.a,owN x.b]) (by decide) (by simp [joinL,fG];omega) (by simp);simp [fG] at ec ⊢;refine eU (by simp) ?_;simp -implicitDefEqProofs [af,dJ,cu,cellsA,k,hop,e1,e2,e3,ec,List.range_succ,hs1,hs2,hs3,hs4]
theorem Yq (x:Ax) (hx:x.Few) (hg:x.Good) (s:St) (cx:Ctx):aj P0 (.fn (.func jO) [] []) [cu x] s cx=.ret (.s (owA x)) s:=by
 rcases hg.k with k|k|k|k|k|k|k|k|k
 ·exact afP x hx hg k s cx
 ·exact afO x hx hg k s cx
 ·exact afN x hx hg k s cx
 ·exact afM x hx hg k s cx
 ·exact afL x hx hg k s cx
 ·exact afK x hx hg k s cx
 ·exact afJ x hx hg k s cx
 ·exact afI x hx hg k s cx
 ·exact afH x hx hg k s cx
end Go.Ai.Z
namespace Go.Ai.Z
def agL (n:Rl):Prop:=JR n=[] ↔ (58:UInt8) ∉ n
structure Ax.Nm (x:Ax):Prop where
 role:x.kind=4∨x.kind=5∨x.kind=6∨x.kind=7∨x.kind=9→agL x.role
 rs:∀r∈x.roles,agL r
 a:x.kind=8∨x.kind=9→agL x.a
 b:x.kind=9→agL x.b
theorem U5:∀{l:List Rl},allPlain l=true→∀r∈l,oJ r=true
 | [],_,_,h=>by simp at h
 | a::l,hl,r,h=>by
  simp only [allPlain,Bool.and_eq_true] at hl;rcases List.mem_cons.1 h with rfl|h
  ·exact hl.1
  ·exact U5 hl.2 r h
end Go.Ai.Z
