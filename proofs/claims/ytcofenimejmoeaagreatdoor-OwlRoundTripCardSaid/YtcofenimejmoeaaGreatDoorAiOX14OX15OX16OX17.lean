/-
 The reader of ontology documents: lists of equivalent and of disjoint concepts.
-/
import Derived.Test.YtcofenimejmoeaaGreatDoorAiOX11OX12OX13
set_option maxRecDepth 100000
set_option linter.unusedSimpArgs false
set_option linter.unusedVariables false
set_option linter.unusedSectionVars false
namespace Go.Ai.Z
open Go.Ai
theorem KP (l:List C) (hlen:l.length≤200000) (s:St) (cx:Ctx):∀(rest:List C) (i:Nat) (a:C) (x:List Ax),l.drop i=a::rest→x.length+rest.length≤400000→
  gQ (aB P0.glob (aj P0) cx false kN) [2,3,13,14,15] [(2,.own false bG 16 (x.map cu)),(3,.v (.sl (l.map aJ))),(13,.v (.sl (l.tail.map aJ))),(14,.v (.i .i64 l.tail.length)),(15,.v (.i .i64 i))] s=
   .exit 0 [(2,.own false bG 16 ((x++JJ (a::rest)).map cu)),(3,.v (.sl (l.map aJ))),(13,.v (.sl (l.tail.map aJ))),(14,.v (.i .i64 l.tail.length)),(15,.v (.i .i64 l.tail.length)),(16,.v (.b false))] s
 | [],i,a,x,h,hx=>by
  have hl:l.length - i=1:=by rw [←List.length_drop,h];rfl
  have hi:i=l.tail.length:=by rw [List.length_tail];omega
  subst hi;refine ak fun K hK=>?_;simp -implicitDefEqProofs [kN,JJ]
 | b::r,i,a,x,h,hx=>by
  have hl:l.length - i=r.length+2:=by rw [←List.length_drop,h];simp
  obtain ⟨h1,h2,h3,h4⟩:=drop_cons h;have ht1:l.tail[i]?=some b:=by rw [List.getElem?_tail,←List.head?_drop,h2];rfl
  have htl:l.tail.length=l.length - 1:=List.length_tail;have hi:(i:Int)<(l.tail.length:Int):=by omega
  have hi2:i<l.tail.length:=by omega
  have hwi:=wI (i:=i) (by omega);have hml:x.length+1≤aQ:=by unfold aQ;simp at hx;omega
  have ih:=KP l hlen s cx r (i+1) b (x++[axC 2 a b]) h2 (by simp at hx ⊢;omega);have he:x++JJ (a::b::r)=(x++[axC 2 a b])++JJ (b::r):=by simp [JJ]
  rw [he];refine ak fun K hK=>?_;rw [←hK,show ((i+1:Nat):Int)=(i:Int)+1 from rfl] at ih;clear hK h4 h htl;rw [←ih];clear ih he;rw [List.map_append];generalize l.tail=t at *;have hg1:(l.map aJ)[i]?=some (aJ a):=by rw [List.getElem?_map,h1];rfl
  have hg2:(t.map aJ)[i]?=some (aJ b):=by rw [List.getElem?_map,ht1];rfl
  have hlx:(x.map cu).length=x.length:=List.length_map _;generalize hX:x.map cu=X at *;generalize l.map aJ=L at *;generalize hT:t.map aJ=T at *;simp -implicitDefEqProofs [kN,hi,hi2,hg1,hg2,hwi,hml,hlx,dQ,splice,Rt]
theorem Og (l:List C) (hlen:l.length≤200000) (p:C) (k:Nat) (hp:l[k]?=some p) (t:List C) (htl:t.length≤200000) (s:St) (cx:Ctx):∀(rest:List C) (i:Nat) (x:List Ax),t.drop i=rest→x.length+rest.length≤400000→
  gQ (aB P0.glob (aj P0) cx false lH) [2,3,4,14,15,24,25,26] [(2,.own false bG 16 (x.map cu)),(3,.v (.sl (l.map aJ))),(4,.v (.i .i64 k)),(14,.v (.i .i64 l.length)),(15,.v (.i .i64 k)),(24,.v (.sl (t.map aJ))),(25,.v (.i .i64 t.length)),(26,.v (.i .i64 i))] s=
   .exit 2 [(2,.own false bG 16 ((x++rest.map (axC 3 p)).map cu)),(3,.v (.sl (l.map aJ))),(4,.v (.i .i64 k)),(14,.v (.i .i64 l.length)),(15,.v (.i .i64 k)),(24,.v (.sl (t.map aJ))),(25,.v (.i .i64 t.length)),(26,.v (.i .i64 (i+rest.length:Nat))),(27,.v (.b false))] s
 | [],i,x,h,hx=>by
  have h1:¬(i:Int)<(t.length:Int):=by have:=drop_nil h;omega
  refine ak fun K hK=>?_;simp -implicitDefEqProofs [lH,h1]
 | b::r,i,x,h,hx=>by
  obtain ⟨h1,h2,h3,h4⟩:=drop_cons h;have hi:(i:Int)<(t.length:Int):=by omega
  have hwi:=wI (i:=i) (by omega);have hml:x.length+1≤aQ:=by unfold aQ;simp at hx;omega
  have ih:=Og l hlen p k hp t htl s cx r (i+1) (x++[axC 3 p b]) h2 (by simp at hx ⊢;omega);have he:x++(b::r).map (axC 3 p)=(x++[axC 3 p b])++r.map (axC 3 p):=by simp
  have hn:i+(b::r).length=i+1+r.length:=by simp;omega
  rw [he,hn];refine ak fun K hK=>?_;rw [←hK,show ((i+1:Nat):Int)=(i:Int)+1 from rfl] at ih;clear hK h4 h;rw [←ih];clear ih he;rw [List.map_append];have hg1:(l.map aJ)[k]?=some (aJ p):=by rw [List.getElem?_map,hp];rfl
  have hg2:(t.map aJ)[i]?=some (aJ b):=by rw [List.getElem?_map,h1];rfl
  have hlx:(x.map cu).length=x.length:=List.length_map _;generalize hX:x.map cu=X at *;generalize l.map aJ=L at *;generalize hT:t.map aJ=T at *;simp -implicitDefEqProofs [lH,hi,hg1,hg2,hwi,hml,hlx,dQ,splice,Rt]
theorem aaJ {l:List C}:(∀z∈l.map aJ,z.cells.length=5)=True:=eq_true (by
 intro z hz;obtain ⟨c,_,rfl⟩:=List.mem_map.1 hz
 simp)
theorem Oh (l:List C) (hlen:l.length≤150000) (s:St) (cx:Ctx):∀(rest:List C) (i:Nat) (x:List Ax),l.drop i=rest→x.length≤1024+150000→
  ∃E,((∃j:Int,E=[(3,.v (.sl (l.map aJ))),(14,.v (.i .i64 l.length)),(15,.v (.i .i64 j)),(16,.v (.b false))])∨(∃j:Int,E=[(3,.v (.sl (l.map aJ))),(4,.v (.i .i64 j)),(14,.v (.i .i64 l.length)),(15,.v (.i .i64 j)),(20,.v (.b true))]))∧gQ (aB P0.glob (aj P0) cx false jD) [2,3,14,15] [(2,.own false bG 16 (x.map cu)),(3,.v (.sl (l.map aJ))),(14,.v (.i .i64 l.length)),(15,.v (.i .i64 i))] s=
   .exit 0 ((2,.own false bG 16 ((Ib rest x).map cu))::E) s
 | [],i,x,h,hx=>by
  have h1:¬(i:Int)<(l.length:Int):=by have:=drop_nil h;omega
  refine ⟨[(3,.v (.sl (l.map aJ))),(14,.v (.i .i64 l.length)),(15,.v (.i .i64 i)),(16,.v (.b false))],.inl ⟨i,rfl⟩,ak fun K hK=>?_⟩;simp -implicitDefEqProofs [jD,h1,Ib]
 | p::r,i,x,h,hx=>by
  obtain ⟨h1,h2,h3,h4⟩:=drop_cons h;have hi:(i:Int)<(l.length:Int):=by omega
  have hwi:=wI (i:=i) (by omega);have hlx:(x.map cu).length=x.length:=List.length_map _;unfold Ib;by_cases q:1024<x.length
  ·rw [if_pos q];have qi:(1024:Int)<(x.length:Int):=by omega
   refine ⟨[(3,.v (.sl (l.map aJ))),(4,.v (.i .i64 i)),(14,.v (.i .i64 l.length)),(15,.v (.i .i64 i)),(20,.v (.b true))],.inr ⟨i,rfl⟩,ak fun K hK=>?_⟩;simp -implicitDefEqProofs [jD,hi,qi]
  ·rw [if_neg q];have qi:¬(1024:Int)<(x.length:Int):=by omega
   have hrl:r.length≤l.length:=by rw [←h2,List.length_drop];omega
   obtain ⟨E,hEE,ih⟩:=Oh l hlen s cx r (i+1) (x++r.map (axC 3 p)) h2 (by simp;omega);have h5:=Og l (by omega) p i h1 r (by omega) s cx r 0 x rfl (by omega);rw [show ((0:Nat):Int)=0 from rfl] at h5;refine ⟨E,hEE,ak fun K hK=>?_⟩;rw [←hK,show ((i+1:Nat):Int)=(i:Int)+1 from rfl] at ih;clear hK h4;rw [←ih];clear ih;have hcl:=aaJ (l:=l)
   have hdr:((l.map aJ).drop (i+1)).take (l.length - (i+1))=r.map aJ:=by
    rw [←List.map_drop,h2];exact List.take_of_length_le (by rw [List.length_map,←h2,List.length_drop];omega)
   have hL:(l.map aJ).length=l.length:=List.length_map _;have hR:(r.map aJ).length=r.length:=List.length_map _;have hle:i+1≤l.length:=h3;have h0:(0:Int)≤(i:Int)+1:=by omega
   have htn:((i:Int)+1).toNat=i+1:=by omega
   generalize hX:x.map cu=X at *;generalize l.map aJ=L at *;generalize r.map aJ=R at *;simp -implicitDefEqProofs [jD,hi,qi,hwi,hdr,hL,hR,hle,h0,htn,hcl,h5,hlx,hX]
theorem Yc:∀(l:List C) (x:List Ax),∃Y,Ib l x=x++Y
 | [],x=>⟨[],by simp [Ib]⟩
 | a::r,x=>by
  unfold Ib;split
  ·exact ⟨[],by simp⟩
  ·obtain ⟨Y,h⟩:=Yc r (x++r.map (axC 3 a));exact ⟨r.map (axC 3 a)++Y,by rw [h];simp⟩
theorem agm (a b:C) (l:List C):∃y Y,Ib (a::b::l) []=y::Y:=by
 obtain ⟨Y,h⟩:=Yc (b::l) ([]++(b::l).map (axC 3 a));exact ⟨axC 3 a b,l.map (axC 3 a)++Y,by rw [Ib,if_neg (by simp),h];simp⟩
theorem Dt {α:Type} {src:Rl} {f:Rd→OR α}:∀(n:Nat) (l:List α) (r:Rd) (l':List α) (q:Rd),nZ src f 2 n l r=.ok l' q→l'.length≤l.length+n
 | 0,l,r,l',q,h=>by cases h
 | n+1,l,r,l',q,h=>by
  have key:∀(v:α) r2,nZ src f 2 n (l++[v]) r2=.ok l' q→l'.length≤l.length+(n+1):=fun v r2 h=>by
   have:=Dt n _ r2 l' q h
   simp at this;omega
  unfold nZ at h;by_cases z:l.length<2
  ·rw [if_pos z] at h;simp only [OR.bind_ok,Bool.false_eq_true,if_false] at h
   cases e:f r with
   | er a c r2=>rw [e] at h;cases h
   | ok v r2=>rw [e] at h;exact key v r2 h
  ·rw [if_neg z] at h
   cases e0:isR src [41] r with
   | er a c r2=>rw [e0] at h;cases h
   | ok b r2=>
    rw [e0] at h;simp only [OR.bind_ok] at h
    cases b with
    | true=>cases h;omega
    | false=>
     simp only [Bool.false_eq_true,if_false] at h
     cases e:f r2 with
     | er a c r3=>rw [e] at h;cases h
     | ok v r3=>rw [e] at h;exact key v r3 h
section
variable {src:Rl} {S:Rd→St} {m N:Nat} (hE:yA src S m N)
include hE
theorem Wy (n:Nat) (hn2:n≤100000) (r:Rd) (ha:Wr src r) (hn:rem src r<n) (cx:Ctx) (hl:cx.lim≤m):
  aj P0 (.fn (.func gW) [] []) [.pt (m+1) 0] (S r) cx=tZ xW S (acj src n r):=by
 refine CP (jP _ _ _) ?_;have hN:=hE.n;have hF:Pn src S m (n - 1) aU aJ (yw src n):=⟨fun p cx2 h1 h2 h3=>Sm hE n (by omega) p cx2 h1 (by omega) h3,fun p h1 h2=>mJ n p h1 (by omega)⟩;unfold acj;obtain ⟨a,c,q,hx,e1⟩|⟨v1,r1,h1,e1,g1⟩:=spl (BX hE n r ha (by omega) ⟨cx.lim,N⟩ hl) (jm n r ha (by omega))
 ·rw [hx];simp -implicitDefEqProofs [af,iT,hN,e1]
 rw [h1];simp only [OR.bind_ok];have w1:=g1.1;have k1:=g1.2.1;obtain ⟨a,c,q,hx,e2⟩|⟨l,r2,h2,e2,g2⟩:=spl (Wv hE hF n r1 w1 (by omega) (by omega) (by omega) ⟨cx.lim,N⟩ hl) (xA (least:=2) n [] r1 w1 (by omega) (fun q hq1 hq2=>hF.2 q hq1 (by omega)))
 ·rw [hx];simp -implicitDefEqProofs [af,iT,hN,e1,e2]
 rw [h2];simp only [OR.bind_ok];have w2:=g2.1;have hlen:=Dt _ _ _ _ _ h2;obtain ⟨x1,x2,x3,rfl⟩:=zu _ _ _ _ _ h2;have hq:=KP (x1::x2::x3) (by simp at hlen ⊢;omega) (S r2) ⟨cx.lim,N⟩ (x2::x3) 0 x1 [] rfl (by simp at hlen ⊢;omega);rw [List.map_nil,show ((0:Nat):Int)=0 from rfl] at hq;simp [JJ] at hq;have hcl:=aaJ (l:=x1::x2::x3);simp at hcl;have htk:(x3.map aJ).take x3.length=x3.map aJ:=List.take_of_length_le (by simp);simp -implicitDefEqProofs [af,iT,hN,e1,e2,hq,hcl,htk,xW,JJ]
theorem ZI (n:Nat) (hn2:n≤100000) (r:Rd) (ha:Wr src r) (hn:rem src r<n) (cx:Ctx) (hl:cx.lim≤m):
  aj P0 (.fn (.func iY) [] []) [.pt (m+1) 0] (S r) cx=tZ xW S (aco src n r):=by
 refine Eh (jP _ _ _) ?_;have hN:=hE.n;have hF:Pn src S m (n - 1) aU aJ (yw src n):=⟨fun p cx2 h1 h2 h3=>Sm hE n (by omega) p cx2 h1 (by omega) h3,fun p h1 h2=>mJ n p h1 (by omega)⟩;unfold aco;obtain ⟨a,c,q,hx,e1⟩|⟨v1,r1,h1,e1,g1⟩:=spl (BX hE n r ha (by omega) ⟨cx.lim,N⟩ hl) (jm n r ha (by omega))
 ·rw [hx];simp -implicitDefEqProofs [af,jy,hN,e1]
 rw [h1];simp only [OR.bind_ok];have w1:=g1.1;have k1:=g1.2.1;obtain ⟨a,c,q,hx,e2⟩|⟨l,r2,h2,e2,g2⟩:=spl (Wv hE hF n r1 w1 (by omega) (by omega) (by omega) ⟨cx.lim,N⟩ hl) (xA (least:=2) n [] r1 w1 (by omega) (fun q hq1 hq2=>hF.2 q hq1 (by omega)))
 ·rw [hx];simp -implicitDefEqProofs [af,jy,hN,e1,e2]
 rw [h2];simp only [OR.bind_ok];have w2:=g2.1;have hlen:=Dt _ _ _ _ _ h2;obtain ⟨x1,x2,x3,rfl⟩:=zu _ _ _ _ _ h2;obtain ⟨E,hEE,hq⟩:=Oh (x1::x2::x3) (by simp at hlen ⊢;omega) (S r2) ⟨cx.lim,N⟩ (x1::x2::x3) 0 [] rfl (by simp);rw [List.map_nil,show ((0:Nat):Int)=0 from rfl] at hq;simp at hq;obtain ⟨y,Y,hY⟩:=agm x1 x2 x3;rw [hY] at hq ⊢;simp at hq
 rcases hEE with ⟨j,rfl⟩|⟨j,rfl⟩<;>simp at hq<;>simp -implicitDefEqProofs [af,jy,hN,e1,e2,hq,xW]
end
end Go.Ai.Z
namespace Go.Ai.Z
open Go.Ai
theorem QV {α:Type} {src:Rl} {f:Rd→OR α} {P:α→Prop} {B:Nat} (hf:∀q v q2,Wr src q→rem src q≤B→f q=.ok v q2→P v) (hg:∀q,Wr src q→rem src q≤B→aG src q 1 (f q)):
  ∀(n:Nat) (l:List α) (r:Rd) (l':List α) (q:Rd),Wr src r→rem src r≤B→(∀v∈l,P v)→nZ src f 2 n l r=.ok l' q→∀v∈l',P v
 | 0,l,r,l',q,_,_,_,h=>by cases h
 | n+1,l,r,l',q,hr,hB,hl,h=>by
  have key:∀r1,Wr src r1→rem src r1≤B→(f r1).bind (fun v r=>nZ src f 2 n (l++[v]) r)=.ok l' q→∀v∈l',P v:=fun r1 h1 h2 h3=>by
   cases e:f r1 with
   | er a c r2=>rw [e] at h3;cases h3
   | ok v r2=>
    rw [e] at h3;have g:=(hg r1 h1 h2).ok e
    exact QV hf hg n (l++[v]) r2 l' q g.1 (by omega) (fun u hu=>by
     rcases List.mem_append.1 hu with hu|hu
     ·exact hl u hu
     ·rw [List.mem_singleton.1 hu];exact hf r1 v r2 h1 h2 e) h3
  unfold nZ at h;by_cases z:l.length<2
  ·rw [if_pos z] at h;simp only [OR.bind_ok,Bool.false_eq_true,if_false] at h;exact key r hr hB h
  ·rw [if_neg z] at h;have g0:=mV hr [41]
   cases e0:isR src [41] r with
   | er a c r2=>rw [e0] at h;cases h
   | ok b r2=>
    rw [e0] at h;simp only [OR.bind_ok] at h;have g:=g0.ok e0
    cases b with
    | true=>cases h;exact hl
    | false=>
     simp only [Bool.false_eq_true,if_false] at h;exact key r2 g.1 (by omega) h
theorem OR.bind_eq {α β:Type} {x:OR α} {f:α→Rd→OR β} {v:β} {q:Rd} (h:x.bind f=.ok v q):∃u r,x=.ok u r∧f u r=.ok v q:=by
 cases x with
 | er a c r=>cases h
 | ok u r=>exact ⟨u,r,rfl,h⟩
theorem FP {src:Rl} {r q:Rd} {s:Rl} (hr:Wr src r) (h:nY src r=.ok s q):s.length≤src.length:=by
 unfold nY at h;obtain ⟨t,r1,h1,h⟩:=OR.bind_eq h;obtain ⟨u,r2,h2,h⟩:=OR.bind_eq h;cases h
 have:=(oH hr h1).2.len
 exact Nat.le_trans (WM 58 _) this
theorem Dp {k:Int} {n:Rl} {l h:Int} {z:Bool} (hn:n.length≤200000):C.Lng (.mk k n l h z []):=.mk _ (by simpa using Nat.le_trans hn (by decide)) (by simp) (by simp)
theorem Wl {src:Rl} (hs:src.length≤100000):∀(n:Nat) (r:Rd) (c:C) (q:Rd),n≤200000→Wr src r→rem src r<n→yw src n r=.ok c q→C.Lng c
 | 0,r,c,q,_,_,_,h=>by cases h
 | n+1,r,c,q,hn,hr,hr2,h=>by
  unfold yw at h;obtain ⟨t,r1,h1,h⟩:=OR.bind_eq h;have g1:=(gJ hr).ok h1;have hsn:∀w:Rl,1≤w.length→t.2.1=w→Sn src r1:=fun w hw ht=>J3 h1 (by rw [ht];exact hw)
  split at h
  ·obtain ⟨u,r2,h2,h⟩:=OR.bind_eq h;cases h;exact Dp (by simp)
  split at h
  ·obtain ⟨u,r2,h2,h⟩:=OR.bind_eq h;cases h;exact Dp (by simp)
  split at h
  ·rename_i ht;have hp:=(hsn _ (by simp) ht).pass g1.1;unfold ZL at h;obtain ⟨u,r2,h2,h⟩:=OR.bind_eq h;obtain ⟨l,r3,h3,h⟩:=OR.bind_eq h;obtain ⟨u,r4,h4,h⟩:=OR.bind_eq h;cases h;have g2:=(aF hp.1 [40] (by simp)).ok h2;have hl:=Dt n [] r2 l r3 h3;have ha:=QV (src:=src) (f:=yw src n) (P:=C.Lng) (B:=n - 1) (fun p v p2 hp1 hp2 hp3=>Wl hs n p v p2 (by omega) hp1 (by omega) hp3) (fun p hp1 hp2=>mJ n p hp1 (by omega)) n [] r2 l r3 g2.1 (by omega) (by simp) h3;refine .mk _ (by simp) ?_ ?_
   ·simp at hl ⊢;omega
   ·simpa using ha
  split at h
  ·rename_i ht;have hp:=(hsn _ (by simp) ht).pass g1.1;unfold Qa at h;obtain ⟨u,r2,h2,h⟩:=OR.bind_eq h;obtain ⟨s,r3,h3,h⟩:=OR.bind_eq h;obtain ⟨d,r4,h4,h⟩:=OR.bind_eq h;obtain ⟨u,r5,h5,h⟩:=OR.bind_eq h;cases h;have g2:=(aF hp.1 [40] (by simp)).ok h2;have g3:=(bn g2.1).ok h3;have hl:=FP g2.1 h3;have hd:=Wl hs n r3 d r4 (by omega) g3.1 (by omega) h4;exact .mk _ (by simp;omega) (by simp) (by simpa using hd)
  split at h
  ·rename_i ht;have hp:=(hsn _ (by simp) ht).pass g1.1;unfold Y4 at h;obtain ⟨u,r2,h2,h⟩:=OR.bind_eq h;obtain ⟨s,r3,h3,h⟩:=OR.bind_eq h;obtain ⟨u,r5,h5,h⟩:=OR.bind_eq h;cases h;have g2:=(aF hp.1 [40] (by simp)).ok h2;exact Dp (Nat.le_trans (FP g2.1 h3) (by omega))
  split at h
  ·rename_i ht;have hp:=(hsn _ (by simp) ht).pass g1.1;unfold RD at h;obtain ⟨u,r2,h2,h⟩:=OR.bind_eq h;obtain ⟨s,r3,h3,h⟩:=OR.bind_eq h;obtain ⟨b,r4,h4,h⟩:=OR.bind_eq h;obtain ⟨x,r5,h5,h⟩:=OR.bind_eq h;obtain ⟨u,r6,h6,h⟩:=OR.bind_eq h;cases h;have g2:=(aF hp.1 [40] (by simp)).ok h2;exact Dp (Nat.le_trans (FP g2.1 h3) (by omega))
  ·obtain ⟨s,r3,h3,h⟩:=OR.bind_eq h;cases h;exact Dp (Nat.le_trans (FP g1.1 h3) (by omega))
theorem Cc:C.Lng zC:=Dp (by simp)
theorem WB {k:Int} {a b:C} (ha:C.Lng a) (hb:C.Lng b):(axC k a b).Lng:=⟨ha,hb,by simp [axC],by simp [axC],by simp [axC]⟩
theorem X5:∀{l:List C},(∀c∈l,C.Lng c)→∀x∈JJ l,x.Lng
 | [],_,x,hx=>by cases hx
 | [_],_,x,hx=>by cases hx
 | a::b::r,h,x,hx=>by
  rcases List.mem_cons.1 hx with rfl|hx
  ·exact WB (h a (by simp)) (h b (by simp))
  ·exact X5 (l:=b::r) (fun c hc=>h c (by simp [hc])) x hx
theorem Ya:∀{l:List C} {X:List Ax},(∀c∈l,C.Lng c)→(∀x∈X,x.Lng)→∀x∈Ib l X,x.Lng
 | [],X,_,hX,x,hx=>hX x hx
 | a::r,X,h,hX,x,hx=>by
  unfold Ib at hx
  split at hx
  ·exact hX x hx
  ·refine Ya (l:=r) (fun c hc=>h c (by simp [hc])) (fun y hy=>?_) x hx;rcases List.mem_append.1 hy with hy|hy
   ·exact hX y hy
   ·obtain ⟨c,hc,rfl⟩:=List.mem_map.1 hy;exact WB (h a (by simp)) (h c (by simp [hc]))
theorem X6:∀(l:List C),(JJ l).length≤l.length
 | []=>by simp [JJ]
 | [_]=>by simp [JJ]
 | a::b::r=>by have:=X6 (b::r);simp [JJ] at this ⊢;omega
theorem Yb:∀(l:List C) (X:List Ax) (k:Nat),l.length≤k→X.length≤1024+k→(Ib l X).length≤1024+k
 | [],X,k,_,hX=>by simpa [Ib] using hX
 | a::r,X,k,hl,hX=>by
  unfold Ib;split
  ·exact hX
  ·exact Yb r _ k (by simp at hl;omega) (by simp at hl ⊢;omega)
structure ak7 (X:List Ax):Prop where
 len:X.length≤200000
 lng:∀x∈X,x.Lng
theorem IL {x:Ax} (h:x.Lng):ak7 [x]:=⟨by simp,fun y hy=>by rw [List.mem_singleton.1 hy];exact h⟩
theorem ah1 {src:Rl} (hs:src.length≤70000) {n:Nat} (hn:n≤100000) {w:Rl} {r q:Rd} {X:List Ax} (hr:Wr src r) (hr2:rem src r<n) (h:ET src n w r=.ok X q):ak7 X:=by
 have hcon:∀{r c q},Wr src r→rem src r<n→yw src n r=.ok c q→C.Lng c:=fun h1 h2 h3=>Wl (by omega) n _ _ _ (by omega) h1 h2 h3;have hnm:∀{r s q},Wr src r→nY src r=.ok s q→s.length≤1152921504606846976:=fun h1 h2=>Nat.le_trans (FP h1 h2) (by omega)
 have hlst:∀{r l q},Wr src r→rem src r<n→nZ src (yw src n) 2 n [] r=.ok l q→(∀c∈l,C.Lng c)∧l.length≤100000:=fun {r l q} h1 h2 h3=>
  ⟨QV (src:=src) (f:=yw src n) (P:=C.Lng) (B:=n - 1) (fun p v p2 hp1 hp2 hp3=>hcon hp1 (by omega) hp3) (fun p hp1 hp2=>mJ n p hp1 (by omega)) n [] r l q h1 (by omega) (by simp) h3,
   by have:=Dt n [] r l q h3;simp at this;omega⟩
 unfold ET at h
 split at h
 ·unfold UY at h;obtain ⟨t,r1,h1,h⟩:=OR.bind_eq h;obtain ⟨u,r2,h2,h⟩:=OR.bind_eq h;obtain ⟨u,r3,h3,h⟩:=OR.bind_eq h;obtain ⟨u,r4,h4,h⟩:=OR.bind_eq h;obtain ⟨u,r5,h5,h⟩:=OR.bind_eq h;cases h;exact ⟨by simp,by simp⟩
 split at h
 ·unfold aaZ at h;obtain ⟨u,r1,h1,h⟩:=OR.bind_eq h;obtain ⟨a,r2,h2,h⟩:=OR.bind_eq h;obtain ⟨b,r3,h3,h⟩:=OR.bind_eq h;cases h;have g1:=(jm n r hr hr2).ok h1;have g2:=(mJ n r1 g1.1 (by omega)).ok h2;exact IL (WB (hcon g1.1 (by omega) h2) (hcon g2.1 (by omega) h3))
 split at h
 ·unfold acj at h;obtain ⟨u,r1,h1,h⟩:=OR.bind_eq h;obtain ⟨l,r2,h2,h⟩:=OR.bind_eq h;cases h;have g1:=(jm n r hr hr2).ok h1;obtain ⟨k1,k2⟩:=hlst g1.1 (by omega) h2;exact ⟨by have:=X6 l;omega,X5 k1⟩
 split at h
 ·unfold aco at h;obtain ⟨u,r1,h1,h⟩:=OR.bind_eq h;obtain ⟨l,r2,h2,h⟩:=OR.bind_eq h;cases h;have g1:=(jm n r hr hr2).ok h1;obtain ⟨k1,k2⟩:=hlst g1.1 (by omega) h2;exact ⟨by have:=Yb l [] l.length (by omega) (by simp);omega,Ya k1 (by simp)⟩
 split at h
 ·unfold ack at h;obtain ⟨u,r1,h1,h⟩:=OR.bind_eq h;obtain ⟨s,r2,h2,h⟩:=OR.bind_eq h;obtain ⟨c,r3,h3,h⟩:=OR.bind_eq h;cases h;have g1:=(jm n r hr hr2).ok h1;have g2:=(bn g1.1).ok h2;exact IL ⟨Cc,hcon g2.1 (by omega) h3,by simp,by simp,by simp⟩
 split at h
 ·unfold YR at h;obtain ⟨u,r1,h1,h⟩:=OR.bind_eq h;obtain ⟨b,r2,h2,h⟩:=OR.bind_eq h
  split at h
  ·obtain ⟨u,r3,h3,h⟩:=OR.bind_eq h;obtain ⟨l,r4,h4,h⟩:=OR.bind_eq h;obtain ⟨u,r5,h5,h⟩:=OR.bind_eq h;obtain ⟨s,r6,h6,h⟩:=OR.bind_eq h;cases h;have hl:=Dt n [] r3 l r4 h4;exact IL ⟨Cc,Cc,by simp at hl ⊢;omega,by simp,by simp⟩
  ·obtain ⟨a,r3,h3,h⟩:=OR.bind_eq h;obtain ⟨s,r4,h4,h⟩:=OR.bind_eq h;cases h;exact IL ⟨Cc,Cc,by simp,by simp,by simp⟩
 split at h
 ·unfold abj at h;obtain ⟨u,r1,h1,h⟩:=OR.bind_eq h;obtain ⟨s,r2,h2,h⟩:=OR.bind_eq h;cases h;exact IL ⟨Cc,Cc,by simp,by simp,by simp⟩
 split at h
 ·unfold aaX at h;obtain ⟨u,r1,h1,h⟩:=OR.bind_eq h;obtain ⟨c,r2,h2,h⟩:=OR.bind_eq h;obtain ⟨a,r3,h3,h⟩:=OR.bind_eq h;cases h;have g1:=(jm n r hr hr2).ok h1;have g2:=(mJ n r1 g1.1 (by omega)).ok h2;exact IL ⟨Cc,hcon g1.1 (by omega) h2,by simp,hnm g2.1 h3,by simp⟩
 ·unfold abA at h;obtain ⟨u,r1,h1,h⟩:=OR.bind_eq h;obtain ⟨s,r2,h2,h⟩:=OR.bind_eq h;obtain ⟨a,r3,h3,h⟩:=OR.bind_eq h;obtain ⟨b,r4,h4,h⟩:=OR.bind_eq h;cases h;have g1:=(jm n r hr hr2).ok h1;have g2:=(bn g1.1).ok h2;have g3:=(bn g2.1).ok h3;exact IL ⟨Cc,Cc,by simp,hnm g2.1 h3,hnm g3.1 h4⟩
end Go.Ai.Z
namespace Go.Ai.Z
open Go.Ai
theorem ab3 {src:Rl} {r:Rd} (h:Wr src r):aG src r 0 (UY src r):=by
 unfold UY;refine aG.bind (k:=0) (j:=0) (gJ h) (fun t q e h1 h2=>?_) (by omega);refine aG.bind (k:=0) (j:=0) (je h1 _) (fun _ q2 e2 h3 h4=>?_) (by omega);obtain ⟨hb,hq⟩:=zh e2;subst hq
 have hsn:Sn src q2:=J3 e (by
  unfold EL at hb;rw [Bool.or_eq_true,Bool.or_eq_true,Bool.or_eq_true,decide_eq_true_eq,decide_eq_true_eq,decide_eq_true_eq,decide_eq_true_eq] at hb
  rcases hb with ((hb|hb)|hb)|hb<;>rw [hb]<;>simp)
 have hp:=hsn.pass h3;refine (qJ (k:=0) hsn h3 ?_).wk (by omega);refine aG.bind (k:=1) (j:=0) (aF hp.1 _ (by simp)) (fun _ q e h1 h2=>?_) (by omega);refine aG.bind (k:=1) (j:=0) (bn h1) (fun _ q e h1 h2=>?_) (by omega);exact aG.bind (k:=1) (j:=0) (aF h1 _ (by simp)) (fun _ q e h1 h2=>aG.mk h1) (by omega)
theorem XR {src:Rl} {n:Nat} {w:Rl} {r:Rd} (h:Wr src r) (hn:rem src r<n):aG src r 0 (ET src n w r):=by
 have hno:=jm n r h hn;have hli:∀q,Wr src q→rem src q<n→aG src q 0 (nZ src (yw src n) 2 n [] q):=fun q h1 h2=>xA (least:=2) n [] q h1 h2 (fun p hp1 hp2=>mJ n p hp1 (by omega));unfold ET;split
 ·exact ab3 h
 split
 ·unfold aaZ;refine aG.bind (k:=0) (j:=0) hno (fun _ q e h1 h2=>?_) (by omega);refine aG.bind (k:=1) (j:=0) (mJ n q h1 (by omega)) (fun _ q2 e2 h3 h4=>?_) (by omega);exact aG.bind (k:=1) (j:=0) (mJ n q2 h3 (by omega)) (fun _ q e h1 h2=>aG.mk h1) (by omega)
 split
 ·unfold acj;refine aG.bind (k:=0) (j:=0) hno (fun _ q e h1 h2=>?_) (by omega);exact aG.bind (k:=0) (j:=0) (hli q h1 (by omega)) (fun _ q e h1 h2=>aG.mk h1) (by omega)
 split
 ·unfold aco;refine aG.bind (k:=0) (j:=0) hno (fun _ q e h1 h2=>?_) (by omega);exact aG.bind (k:=0) (j:=0) (hli q h1 (by omega)) (fun _ q e h1 h2=>aG.mk h1) (by omega)
 split
 ·unfold ack;refine aG.bind (k:=0) (j:=0) hno (fun _ q e h1 h2=>?_) (by omega);refine aG.bind (k:=1) (j:=0) (bn h1) (fun _ q2 e2 h3 h4=>?_) (by omega);exact aG.bind (k:=1) (j:=0) (mJ n q2 h3 (by omega)) (fun _ q e h1 h2=>aG.mk h1) (by omega)
 split
 ·unfold YR;refine aG.bind (k:=0) (j:=0) hno (fun _ q e h1 h2=>?_) (by omega);refine aG.bind (k:=0) (j:=0) (mV h1 _) (fun b q2 e2 h3 h4=>?_) (by omega);split
  ·rename_i hb;subst hb;have hs:=Z5 e2 (by simp);have hp:=hs.pass h3;refine (qJ (k:=0) hs h3 ?_).wk (by omega);refine aG.bind (k:=1) (j:=0) (aF hp.1 _ (by simp)) (fun _ q3 e3 h5 h6=>?_) (by omega);refine aG.bind (k:=0) (j:=0) (xA (least:=2) n [] q3 h5 (by omega) (fun p hp1 hp2=>bn hp1)) (fun _ q4 e4 h7 h8=>?_) (by omega);refine aG.bind (k:=1) (j:=0) (aF h7 _ (by simp)) (fun _ q5 e5 h9 h10=>?_) (by omega);exact aG.bind (k:=1) (j:=0) (bn h9) (fun _ q e h1 h2=>aG.mk h1) (by omega)
  ·refine aG.bind (k:=1) (j:=0) (bn h3) (fun _ q3 e3 h5 h6=>?_) (by omega);exact aG.bind (k:=1) (j:=0) (bn h5) (fun _ q e h1 h2=>aG.mk h1) (by omega)
 split
 ·unfold abj;refine aG.bind (k:=0) (j:=0) hno (fun _ q e h1 h2=>?_) (by omega);exact aG.bind (k:=1) (j:=0) (bn h1) (fun _ q e h1 h2=>aG.mk h1) (by omega)
 split
 ·unfold aaX;refine aG.bind (k:=0) (j:=0) hno (fun _ q e h1 h2=>?_) (by omega);refine aG.bind (k:=1) (j:=0) (mJ n q h1 (by omega)) (fun _ q2 e2 h3 h4=>?_) (by omega);exact aG.bind (k:=1) (j:=0) (bn h3) (fun _ q e h1 h2=>aG.mk h1) (by omega)
 ·unfold abA;refine aG.bind (k:=0) (j:=0) hno (fun _ q e h1 h2=>?_) (by omega);refine aG.bind (k:=1) (j:=0) (bn h1) (fun _ q2 e2 h3 h4=>?_) (by omega);refine aG.bind (k:=1) (j:=0) (bn h3) (fun _ q3 e3 h5 h6=>?_) (by omega);exact aG.bind (k:=1) (j:=0) (bn h5) (fun _ q e h1 h2=>aG.mk h1) (by omega)
def axT (l:List Ax):St:=match l with | []=>[] | x::r=>[.row bG 16 (x::r).length]
theorem agA (N:Nat) (l:List Ax) (x:Ax):axV N (l++[x])=.st N (l.map cu++[cu x]):=by cases l<;>simp [axV]
theorem agB (l:List Ax) (x:Ax):axT (l++[x])=[.row bG 16 (l.length+1)]:=by cases l<;>simp [axT]
theorem V3 (x:Ax) (b:Bool):AV.ag [.i .i64 x.kind,.b b,.i .i64 x.left.kind,.s x.left.name,.i .i64 x.left.lo,.i .i64 x.left.hi,slf x.left.z (x.left.parts.map aJ),
 .i .i64 x.right.kind,.s x.right.name,.i .i64 x.right.lo,.i .i64 x.right.hi,slf x.right.z (x.right.parts.map aJ),slf x.z (x.roles.map .s),.s x.role,.s x.a,.s x.b]=cu { x with op:=b }:=rfl
def itE (m:Nat) (t:Tk) (V:AV) (k:Nat):Env:=[(0,.v (.pt (m+1) 0)),(2,.bx [.i .i64 t.1,.s t.2.1,.i .i64 t.2.2]),(35,.v V),(36,.v (.i .i64 k)),(37,.v (.i .i64 k)),(38,.v (.b false))]
def Zf (w:Rl):Option Nat:=
 if w=wC9 then some gG
 else if w=wC2 then some lW
 else if w=wB3 then some gW
 else if w=wB5 then some iY
 else if w=wB2 then some jG
 else if w=wA3 then some kX
 else if w=wA9 then some iE
 else if w=wB7 then some jF
 else if w=wB0 then some kY
 else none
theorem ach (m:Nat) (w:Rl):find 1 (.s w) (XF m)=some ((Zf w).map (rdF m)):=by
 unfold Zf XF;split
 ·rename_i h;simp [find,jC,h]
 split
 ·rename_i h;simp [find,jC,h]
 split
 ·rename_i h;simp [find,jC,h]
 split
 ·rename_i h;simp [find,jC,h]
 split
 ·rename_i h;simp [find,jC,h]
 split
 ·rename_i h;simp [find,jC,h]
 split
 ·rename_i h;simp [find,jC,h]
 split
 ·rename_i h;simp [find,jC,h]
 split
 ·rename_i h;simp [find,jC,h]
 ·simp [find,jC, *]
theorem abD (w:Rl):(Zf w).isSome=ad3 w:=by
 unfold Zf ad3;split
 ·rename_i h;simp [h]
 split
 ·rename_i h;simp [h]
 split
 ·rename_i h;simp [h]
 split
 ·rename_i h;simp [h]
 split
 ·rename_i h;simp [h]
 split
 ·rename_i h;simp [h]
 split
 ·rename_i h;simp [h]
 split
 ·rename_i h;simp [h]
 split
 ·rename_i h;simp [h]
 ·simp [*]
section
variable {src:Rl} {S:Rd→St} {m N:Nat} (hE:yA src S m N)
include hE
theorem ahy (r:Rd) (v:AV) (X:St):(S r++X).set (m+1) (.cells [.sl (aC src),.i .i64 r.at_,ahV r.ah,.mp m,.s r.iri,.b r.op,v,.mp (m+2),.mp (m+3)])=S { r with ax:=v }++X:=hE.s1 r { r with ax:=v } X rfl
theorem ak0 (n:Nat) (hn2:n≤100000) (w:Rl) (F:Nat) (hF:Zf w=some F) (r:Rd) (ha:Wr src r) (hn:rem src r<n) (cx:Ctx) (hl:cx.lim≤m):
  aj P0 (.fn (.func F) [] []) [.pt (m+1) 0] (S r) cx=tZ xW S (ET src n w r):=by
 unfold Zf at hF;unfold ET
 split at hF
 ·rename_i h0;cases hF;simp only [if_pos h0];exact TQ hE r ha cx hl
 rename_i h0
 split at hF
 ·rename_i h1;cases hF;simp only [if_neg h0,if_pos h1];exact akZ hE n (by omega) r ha hn cx hl
 rename_i h1
 split at hF
 ·rename_i h2;cases hF;simp only [if_neg h0,if_neg h1,if_pos h2];exact Wy hE n (by omega) r ha hn cx hl
 rename_i h2
 split at hF
 ·rename_i h3;cases hF;simp only [if_neg h0,if_neg h1,if_neg h2,if_pos h3];exact ZI hE n (by omega) r ha hn cx hl
 rename_i h3
 split at hF
 ·rename_i h4;cases hF;simp only [if_neg h0,if_neg h1,if_neg h2,if_neg h3,if_pos h4];exact aeR hE n (by omega) r ha hn cx hl
 rename_i h4
 split at hF
 ·rename_i h5;cases hF;simp only [if_neg h0,if_neg h1,if_neg h2,if_neg h3,if_neg h4,if_pos h5];exact ail hE n (by omega) r ha hn cx hl
 rename_i h5
 split at hF
 ·rename_i h6;cases hF;simp only [if_neg h0,if_neg h1,if_neg h2,if_neg h3,if_neg h4,if_neg h5,if_pos h6];exact Yo hE n (by omega) r ha hn cx hl
 rename_i h6
 split at hF
 ·rename_i h7;cases hF;simp only [if_neg h0,if_neg h1,if_neg h2,if_neg h3,if_neg h4,if_neg h5,if_neg h6,if_pos h7];exact aeN hE n (by omega) r ha hn cx hl
 rename_i h7
 split at hF
 ·cases hF;simp only [if_neg h0,if_neg h1,if_neg h2,if_neg h3,if_neg h4,if_neg h5,if_neg h6,if_neg h7];exact aim hE n (by omega) r ha hn cx hl
 ·cases hF
theorem adV (xs:List Ax) (hxl:xs.length≤200000) (hxs:∀x∈xs,x.Lng) (t:Tk) (cx:Ctx) (hl:cx.lim≤m) (hb:cx.base≤m):∀(rest:List Ax) (i:Nat) (l:List Ax) (r:Rd),xs.drop i=rest→i≤xs.length→r.ax=axV N l→l.length+rest.length≤300000→
  ∃X:St,gQ (aB P0.glob (aj P0) cx true gU) [0,2,35,36,37] [(0,.v (.pt (m+1) 0)),(2,.bx [.i .i64 t.1,.s t.2.1,.i .i64 t.2.2]),(35,.v (.sl (xs.map cu))),(36,.v (.i .i64 xs.length)),(37,.v (.i .i64 i))] (S r++axT l)=
   match BH N t.2.2 rest l r with
   | .ok l' r'=>.exit 0 (itE m t (.sl (xs.map cu)) xs.length) (S r'++axT l')
   | .er a c r'=>.pan (flt a c) (S r'++X)
 | [],i,l,r,h,hi0,hr,hlen=>by
  have h1:¬(i:Int)<(xs.length:Int):=by have:=drop_nil h;omega
  refine ⟨[],ak fun K hK=>?_⟩;have h2:i=xs.length:=by omega
  subst h2;simp -implicitDefEqProofs [gU,h1,BH,itE]
 | x::rest,i,l,r,h,hi0,hr,hlen=>by
  obtain ⟨h1,h2,h3,h4⟩:=drop_cons h;have hi:(i:Int)<(xs.length:Int):=by omega
  have hwi:=wI (i:=i) (by omega);have hx:x∈xs:=by rw [←List.take_append_drop i xs,h];simp
  have hlim:cx.lim≤m+1:=by omega
  have hb1:cx.base≤m+1:=by omega
  have hlt:=hE.lt;have hl2:cx.lim≤N:=by omega
  have hN:=hE.n;have hg1:(xs.map cu)[i]?=some (cu x):=by rw [List.getElem?_map,h1];rfl
  have hc:=hE.g1 r;have e1:=zT { x with op:=r.op } ⟨(hxs x hx).l,(hxs x hx).r,(hxs x hx).roles,(hxs x hx).a,(hxs x hx).b⟩;unfold BH;by_cases q:iR { x with op:=r.op }=0
  ·rw [if_pos q];rw [q] at e1;obtain ⟨X,ih⟩:=adV xs hxl hxs t cx hl hb rest (i+1) (l++[{ x with op:=r.op }]) { r with ax:=axV N (l++[{ x with op:=r.op }]) } h2 (by omega) rfl (by simp at hlen ⊢;omega);refine ⟨X,ak fun K hK=>?_⟩;rw [←hK,show ((i+1:Nat):Int)=(i:Int)+1 from rfl] at ih;clear hK h4;rw [←ih];clear ih;rw [agA,agB];rw [hr] at hc;have hs:=ahy hE r;have hm1:l.length+1≤aQ:=by unfold aQ;simp at hlen;omega
   have hm0:1≤aQ:=by decide
   generalize xs.map cu=XS at *
   cases l with
   | nil=>
    simp only [axV,axT,List.append_nil] at hc ⊢;have hc0:=vg hE r;rw [hr] at hc0;simp only [axV] at hc0;have hN2:(S r).length=N:=hN r;simp -implicitDefEqProofs [gU,hi,hg1,hwi,hc,hc0,e1,hs,hlim,hb1,hN2,V3,hm0]
   | cons y l=>
    simp only [axV,axT] at hc ⊢;have hgN:=hE.gN r;have hsN:=hE.sN r;have hm2:l.length+1+1≤aQ:=by simpa using hm1
    simp -implicitDefEqProofs [gU,hi,hg1,hwi,hc,e1,hs,hlim,hb1,hl2,hgN,hsN,V3,hm2]
  ·rw [if_neg q];refine ⟨axT l,ak fun K hK=>?_⟩;generalize xs.map cu=XS at *;generalize iR { x with op:=r.op }=e at *;simp -implicitDefEqProofs [gU,hi,hg1,hwi,hc,e1,hlim,V3,q,flt,dQ,splice]
end
end Go.Ai.Z
namespace Go.Ai.Z
open Go.Ai
def agN (S:Rd→St) (X:St) (x:OR (List Ax)):CO:=
 match x with
 | .ok l r=>.ret (.tu []) (S r++axT l)
 | .er a c r=>.pan (flt a c) (S r++X)
@[simp] theorem WI (S:Rd→St) (X:St) (l:List Ax) (r:Rd):agN S X (.ok l r)=.ret (.tu []) (S r++axT l):=rfl
@[simp] theorem pU (S:Rd→St) (X:St) (a:Nat) (c:Int) (r:Rd):agN S X (.er a c r)=.pan (flt a c) (S r++X):=rfl
theorem Nw (N:Nat) (l:List Ax) (env:Env):vV env (some (.v (axV N l)))=some (l.map cu):=by cases l<;>rfl
theorem Ze (m:Nat) (t:Tk) (s:St) (cx:Ctx):
  gQ (aB P0.glob (aj P0) cx true gU) [0,2,35,36,37] [(0,.v (.pt (m+1) 0)),(2,.bx [.i .i64 t.1,.s t.2.1,.i .i64 t.2.2]),(35,.v .ns),(36,.v (.i .i64 0)),(37,.v (.i .i64 0))] s=.exit 0 (itE m t .ns 0) s:=by
 refine ak fun K hK=>?_;simp -implicitDefEqProofs [gU,itE]
theorem Vz (N a0:Nat):∀(xs l:List Ax) (r:Rd) {l':List Ax} {q:Rd},r.ax=axV N l→BH N a0 xs l r=.ok l' q→q.ax=axV N l'
 | [],l,r,l',q,hr,h=>by cases h;exact hr
 | x::xs,l,r,l',q,hr,h=>by
  unfold BH at h
  split at h
  ·exact Vz N a0 xs _ _ rfl h
  ·cases h
section
variable {src:Rl} {S:Rd→St} {m N:Nat} (hE:yA src S m N)
include hE
theorem ain (n:Nat) (hn2:n≤100000) (l:List Ax) (hll:l.length≤1024) (r:Rd) (hr:r.ax=axV N l) (ha:Wr src r) (hn:rem src r<n) (cx:Ctx) (hl:cx.lim≤m) (hb:cx.base≤m):
  ∃X,aj P0 (.fn (.func pJ) [] []) [.pt (m+1) 0] (S r++axT l) cx=agN S X (FW src n N l r):=by
 have hN:=hE.n;have hS:=hE.src;have hA:=hE.app (axT l);have hlim:cx.lim≤m+1:=by omega
 have hb1:cx.base≤m+1:=by omega
 unfold FW;obtain ⟨a,c,q,hx,e1⟩|⟨t,r1,h1,e1,g1⟩:=spl (oL hA r (ha).at_ ⟨cx.lim,cx.base⟩ hl) (gJ ha)
 ·rw [hx];simp only [OR.bind_er,pU];refine ⟨axT l,gu (by simp) ?_⟩;simp -implicitDefEqProofs [af,dG,fC,e1]
 rw [h1];simp only [OR.bind_ok];have w1:=g1.1;have hc:=vg hA r1;have him:=hA.im r1;have hfd:=ach m t.2.1
 try simp only at hc him
 have hsm:=abD t.2.1
 cases hF:Zf t.2.1 with
 | none=>
  rw [hF] at hsm hfd;simp only [Option.map_none,Option.isSome_none] at hsm hfd;rw [←hsm];have ef:=pY hA false r1 w1 ⟨cx.lim,cx.base⟩ hl;obtain ⟨a2,c2,r2,hx⟩:=zi src r1;rw [hx] at ef ⊢;simp only [dA] at ef;simp only [OR.bind_er,pU];refine ⟨axT l,gu (by simp) ?_⟩;obtain ⟨k,w,a⟩:=t
  skip
  simp -implicitDefEqProofs [af,dG,fC,e1,hc,him,hfd,ef]
 | some F=>
  rw [hF] at hsm hfd;simp only [Option.map_some,Option.isSome_some,rdF] at hsm hfd;rw [←hsm];obtain ⟨a,c,q,hx,e2⟩|⟨v2,r2,h2,e2,g2⟩:=spl (pY hA true r1 w1 ⟨cx.lim,cx.base⟩ hl) (je w1 true)
  ·rw [hx];simp only [OR.bind_er,pU];refine ⟨axT l,gu (by simp) ?_⟩;simp -implicitDefEqProofs [af,dG,fC,e1,hc,him,hfd,jT,e2]
  rw [h2];simp only [OR.bind_ok];have w2:=g2.1;have k2:=g2;have e3:=lF hA r2 ⟨cx.lim,cx.base⟩ hl;have w3:=iP w2;have kp:=AU src r2;obtain ⟨a,c,q,hx,e4⟩|⟨v4,r4,h4,e4,g4⟩:=spl (iD hA [40] (bY r2) w3 ⟨cx.lim,cx.base⟩ hl) (aF w3 [40] (by simp))
  ·rw [hx];simp only [OR.bind_er,pU];refine ⟨axT l,gu (by simp) ?_⟩;simp -implicitDefEqProofs [af,dG,fC,e1,hc,him,hfd,jT,e2,e3,e4]
  rw [h4];simp only [OR.bind_ok];have w4:=g4.1;have k4:=g4;have hc4:=vg hA r4;have hs4:=adv hA r4;have k1:=g1;have hre:rem src { r4 with op:=false }<n:=by show rem src r4<n;omega
  obtain ⟨a,c,q,hx,e5⟩|⟨xs,r5,h5,e5,g5⟩:=spl (ak0 hA n hn2 t.2.1 F hF { r4 with op:=false } (TU w4 false) hre ⟨cx.lim,cx.base⟩ hl) (XR (n:=n) (w:=t.2.1) (TU w4 false) hre)
  ·rw [hx];simp only [OR.bind_er,pU];refine ⟨axT l,gu (by simp) ?_⟩;simp -implicitDefEqProofs [af,dG,fC,e1,hc,him,hfd,jT,e2,e3,e4,hc4,hs4,hlim,hb1,e5]
  rw [h5];simp only [OR.bind_ok];have w5:=g5.1;have k5:=g5;have hxs:=ah1 hS hn2 (TU w4 false) hre h5;obtain ⟨a,c,q,hx,e6⟩|⟨v6,r6,h6,e6,g6⟩:=spl (iD hA [41] r5 w5 ⟨cx.lim,cx.base⟩ hl) (aF w5 [41] (by simp))
  ·rw [hx];simp only [OR.bind_er,pU];refine ⟨axT l,gu (by simp) ?_⟩;simp -implicitDefEqProofs [af,dG,fC,e1,hc,him,hfd,jT,e2,e3,e4,hc4,hs4,hlim,hb1,e5,e6]
  rw [h6];simp only [OR.bind_ok];have w6:=g6.1;have k6:=g6;have hax:r6.ax=axV N l:=by rw [k6.2.2.2.2,k5.2.2.2.2];show r4.ax=_;rw [k4.2.2.2.2];show r2.ax=_;rw [k2.2.2.2.2,k1.2.2.2.2,hr]
  cases xs with
  | nil=>
   have hlp:=Ze m t (S r6++axT l) cx;have hcf:=vg hA r6;rw [hax] at hcf;have hlen:¬(1024:Int)<(l.length:Int):=by omega
   simp only [BH,OR.bind_ok,if_neg (show ¬1024<l.length by omega)];refine ⟨[],gu (by simp) ?_⟩;simp only [Au] at e5;simp -implicitDefEqProofs [af,dG,fC,e1,hc,him,hfd,jT,e2,e3,e4,hc4,hs4,hlim,hb1,e5,e6,hlp,itE,hcf,Nw,hlen]
  | cons x xs=>
   obtain ⟨X,hlp⟩:=adV hE (x::xs) hxs.len hxs.lng t cx hl hb (x::xs) 0 l r6 rfl (by omega) hax (by have:=hxs.len;omega);rw [show ((0:Nat):Int)=0 from rfl] at hlp;have e5':xW (x::xs)=.sl ((x::xs).map cu):=rfl;rw [e5'] at e5;have hxl:((x::xs).map cu).length=(x::xs).length:=List.length_map _;generalize hXS:(x::xs).map cu=XS at *
   cases hp:BH N t.2.2 (x::xs) l r6 with
   | er a c q=>
    rw [hp] at hlp;simp only at hlp;simp only [OR.bind_er,pU];refine ⟨X,gu (by simp) ?_⟩;simp -implicitDefEqProofs [af,dG,fC,e1,hc,him,hfd,jT,e2,e3,e4,hc4,hs4,hlim,hb1,e5,e6,hxl];simp at hlp;simp -implicitDefEqProofs [hlp]
   | ok l' q=>
    rw [hp] at hlp;simp only at hlp;simp only [OR.bind_ok];have hcf:=vg (hE.app (axT l')) q;rw [Vz _ _ _ _ _ hax hp] at hcf
    try simp only at hcf
    simp at hlp;by_cases hlen:1024<l'.length
    ·rw [if_pos hlen];have hleni:(1024:Int)<(l'.length:Int):=by omega
     refine ⟨axT l',gu (by simp) ?_⟩;simp -implicitDefEqProofs [af,dG,fC,e1,hc,him,hfd,jT,e2,e3,e4,hc4,hs4,hlim,hb1,e5,e6,hxl,hlp,itE,hcf,Nw,hleni,dQ,splice,flt]
    ·rw [if_neg hlen];have hleni:¬(1024:Int)<(l'.length:Int):=by omega
     refine ⟨[],gu (by simp) ?_⟩;simp -implicitDefEqProofs [af,dG,fC,e1,hc,him,hfd,jT,e2,e3,e4,hc4,hs4,hlim,hb1,e5,e6,hxl,hlp,itE,hcf,Nw,hleni]
end
end Go.Ai.Z
