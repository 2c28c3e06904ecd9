/-
 The reader of ontology documents: lists of equivalent and of disjoint concepts.
-/
import Derived.Test.YtcofenimejmoeaaGreatDoorAiOX11OX12OX13
set_option maxRecDepth 100000
set_option linter.unusedSimpArgs false
set_option linter.unusedVariables false
set_option linter.unusedSectionVars false
namespace Go.Ai.Z
open Go.Ai
theorem GN (l:List C) (hlen:l.length≤200000) (s:St) (cx:Ctx):∀(rest:List C) (i:Nat) (a:C) (x:List Ax),l.drop i=a::rest→x.length+rest.length≤400000→
  jw (aA P0.glob (aj P0) cx false jm) [2,3,13,14,15] [(2,.own false bC 16 (x.map iH)),(3,.v (.sl (l.map aK))),(13,.v (.sl (l.tail.map aK))),(14,.v (.i .i64 l.tail.length)),(15,.v (.i .i64 i))] s=
   .exit 0 [(2,.own false bC 16 ((x++vN (a::rest)).map iH)),(3,.v (.sl (l.map aK))),(13,.v (.sl (l.tail.map aK))),(14,.v (.i .i64 l.tail.length)),(15,.v (.i .i64 l.tail.length)),(16,.v (.b false))] s
 | [],i,a,x,h,hx=>by
  have hl:l.length - i=1:=by rw [←List.length_drop,h];rfl
  have hi:i=l.tail.length:=by rw [List.length_tail];omega
  subst hi;refine ay fun K hK=>?_;simp -implicitDefEqProofs [jm,vN]
 | b::r,i,a,x,h,hx=>by
  have hl:l.length - i=r.length+2:=by rw [←List.length_drop,h];simp
  obtain ⟨h1,h2,h3,h4⟩:=drop_cons h;have ht1:l.tail[i]?=some b:=by rw [List.getElem?_tail,←List.head?_drop,h2];rfl
  have htl:l.tail.length=l.length - 1:=List.length_tail;have hi:(i:Int)<(l.tail.length:Int):=by omega
  have hi2:i<l.tail.length:=by omega
  have hwi:=wI (i:=i) (by omega);have hml:x.length+1≤eu:=by unfold eu;simp at hx;omega
  have ih:=GN l hlen s cx r (i+1) b (x++[axC 2 a b]) h2 (by simp at hx ⊢;omega);have he:x++vN (a::b::r)=(x++[axC 2 a b])++vN (b::r):=by simp [vN]
  rw [he];refine ay fun K hK=>?_;rw [←hK,show ((i+1:Nat):Int)=(i:Int)+1 from rfl] at ih;clear hK h4 h htl;rw [←ih];clear ih he;rw [List.map_append];generalize l.tail=t at *;have hg1:(l.map aK)[i]?=some (aK a):=by rw [List.getElem?_map,h1];rfl
  have hg2:(t.map aK)[i]?=some (aK b):=by rw [List.getElem?_map,ht1];rfl
  have hlx:(x.map iH).length=x.length:=List.length_map _;generalize hX:x.map iH=X at *;generalize l.map aK=L at *;generalize hT:t.map aK=T at *;simp -implicitDefEqProofs [jm,hi,hi2,hg1,hg2,hwi,hml,hlx,dS,splice,Nz]
theorem JG (l:List C) (hlen:l.length≤200000) (p:C) (k:Nat) (hp:l[k]?=some p) (t:List C) (htl:t.length≤200000) (s:St) (cx:Ctx):∀(rest:List C) (i:Nat) (x:List Ax),t.drop i=rest→x.length+rest.length≤400000→
  jw (aA P0.glob (aj P0) cx false jO) [2,3,4,14,15,24,25,26] [(2,.own false bC 16 (x.map iH)),(3,.v (.sl (l.map aK))),(4,.v (.i .i64 k)),(14,.v (.i .i64 l.length)),(15,.v (.i .i64 k)),(24,.v (.sl (t.map aK))),(25,.v (.i .i64 t.length)),(26,.v (.i .i64 i))] s=
   .exit 2 [(2,.own false bC 16 ((x++rest.map (axC 3 p)).map iH)),(3,.v (.sl (l.map aK))),(4,.v (.i .i64 k)),(14,.v (.i .i64 l.length)),(15,.v (.i .i64 k)),(24,.v (.sl (t.map aK))),(25,.v (.i .i64 t.length)),(26,.v (.i .i64 (i+rest.length:Nat))),(27,.v (.b false))] s
 | [],i,x,h,hx=>by
  have h1:¬(i:Int)<(t.length:Int):=by have:=drop_nil h;omega
  refine ay fun K hK=>?_;simp -implicitDefEqProofs [jO,h1]
 | b::r,i,x,h,hx=>by
  obtain ⟨h1,h2,h3,h4⟩:=drop_cons h;have hi:(i:Int)<(t.length:Int):=by omega
  have hwi:=wI (i:=i) (by omega);have hml:x.length+1≤eu:=by unfold eu;simp at hx;omega
  have ih:=JG l hlen p k hp t htl s cx r (i+1) (x++[axC 3 p b]) h2 (by simp at hx ⊢;omega);have he:x++(b::r).map (axC 3 p)=(x++[axC 3 p b])++r.map (axC 3 p):=by simp
  have hn:i+(b::r).length=i+1+r.length:=by simp;omega
  rw [he,hn];refine ay fun K hK=>?_;rw [←hK,show ((i+1:Nat):Int)=(i:Int)+1 from rfl] at ih;clear hK h4 h;rw [←ih];clear ih he;rw [List.map_append];have hg1:(l.map aK)[k]?=some (aK p):=by rw [List.getElem?_map,hp];rfl
  have hg2:(t.map aK)[i]?=some (aK b):=by rw [List.getElem?_map,h1];rfl
  have hlx:(x.map iH).length=x.length:=List.length_map _;generalize hX:x.map iH=X at *;generalize l.map aK=L at *;generalize hT:t.map aK=T at *;simp -implicitDefEqProofs [jO,hi,hg1,hg2,hwi,hml,hlx,dS,splice,Nz]
theorem WA {l:List C}:(∀z∈l.map aK,z.cells.length=5)=True:=eq_true (by
 intro z hz;obtain ⟨c,_,rfl⟩:=List.mem_map.1 hz
 simp)
theorem JH (l:List C) (hlen:l.length≤150000) (s:St) (cx:Ctx):∀(rest:List C) (i:Nat) (x:List Ax),l.drop i=rest→x.length≤1024+150000→
  ∃E,((∃j:Int,E=[(3,.v (.sl (l.map aK))),(14,.v (.i .i64 l.length)),(15,.v (.i .i64 j)),(16,.v (.b false))])∨(∃j:Int,E=[(3,.v (.sl (l.map aK))),(4,.v (.i .i64 j)),(14,.v (.i .i64 l.length)),(15,.v (.i .i64 j)),(20,.v (.b true))]))∧jw (aA P0.glob (aj P0) cx false iG) [2,3,14,15] [(2,.own false bC 16 (x.map iH)),(3,.v (.sl (l.map aK))),(14,.v (.i .i64 l.length)),(15,.v (.i .i64 i))] s=
   .exit 0 ((2,.own false bC 16 ((AL rest x).map iH))::E) s
 | [],i,x,h,hx=>by
  have h1:¬(i:Int)<(l.length:Int):=by have:=drop_nil h;omega
  refine ⟨[(3,.v (.sl (l.map aK))),(14,.v (.i .i64 l.length)),(15,.v (.i .i64 i)),(16,.v (.b false))],.inl ⟨i,rfl⟩,ay fun K hK=>?_⟩;simp -implicitDefEqProofs [iG,h1,AL]
 | p::r,i,x,h,hx=>by
  obtain ⟨h1,h2,h3,h4⟩:=drop_cons h;have hi:(i:Int)<(l.length:Int):=by omega
  have hwi:=wI (i:=i) (by omega);have hlx:(x.map iH).length=x.length:=List.length_map _;unfold AL;by_cases q:1024<x.length
  ·rw [if_pos q];have qi:(1024:Int)<(x.length:Int):=by omega
   refine ⟨[(3,.v (.sl (l.map aK))),(4,.v (.i .i64 i)),(14,.v (.i .i64 l.length)),(15,.v (.i .i64 i)),(20,.v (.b true))],.inr ⟨i,rfl⟩,ay fun K hK=>?_⟩;simp -implicitDefEqProofs [iG,hi,qi]
  ·rw [if_neg q];have qi:¬(1024:Int)<(x.length:Int):=by omega
   have hrl:r.length≤l.length:=by rw [←h2,List.length_drop];omega
   obtain ⟨E,hEE,ih⟩:=JH l hlen s cx r (i+1) (x++r.map (axC 3 p)) h2 (by simp;omega);have h5:=JG l (by omega) p i h1 r (by omega) s cx r 0 x rfl (by omega);rw [show ((0:Nat):Int)=0 from rfl] at h5;refine ⟨E,hEE,ay fun K hK=>?_⟩;rw [←hK,show ((i+1:Nat):Int)=(i:Int)+1 from rfl] at ih;clear hK h4;rw [←ih];clear ih;have hcl:=WA (l:=l)
   have hdr:((l.map aK).drop (i+1)).take (l.length - (i+1))=r.map aK:=by
    rw [←List.map_drop,h2];exact List.take_of_length_le (by rw [List.length_map,←h2,List.length_drop];omega)
   have hL:(l.map aK).length=l.length:=List.length_map _;have hR:(r.map aK).length=r.length:=List.length_map _;have hle:i+1≤l.length:=h3;have h0:(0:Int)≤(i:Int)+1:=by omega
   have htn:((i:Int)+1).toNat=i+1:=by omega
   generalize hX:x.map iH=X at *;generalize l.map aK=L at *;generalize r.map aK=R at *;simp -implicitDefEqProofs [iG,hi,qi,hwi,hdr,hL,hR,hle,h0,htn,hcl,h5,hlx,hX]
theorem TT:∀(l:List C) (x:List Ax),∃Y,AL l x=x++Y
 | [],x=>⟨[],by simp [AL]⟩
 | a::r,x=>by
  unfold AL;split
  ·exact ⟨[],by simp⟩
  ·obtain ⟨Y,h⟩:=TT r (x++r.map (axC 3 a));exact ⟨r.map (axC 3 a)++Y,by rw [h];simp⟩
theorem abh (a b:C) (l:List C):∃y Y,AL (a::b::l) []=y::Y:=by
 obtain ⟨Y,h⟩:=TT (b::l) ([]++(b::l).map (axC 3 a));exact ⟨axC 3 a b,l.map (axC 3 a)++Y,by rw [AL,if_neg (by simp),h];simp⟩
theorem zu {α:Type} {src:Rl} {f:Rd→OR α}:∀(n:Nat) (l:List α) (r:Rd) (l':List α) (q:Rd),lD src f 2 n l r=.ok l' q→l'.length≤l.length+n
 | 0,l,r,l',q,h=>by cases h
 | n+1,l,r,l',q,h=>by
  have key:∀(v:α) r2,lD src f 2 n (l++[v]) r2=.ok l' q→l'.length≤l.length+(n+1):=fun v r2 h=>by
   have:=zu n _ r2 l' q h
   simp at this;omega
  unfold lD at h;by_cases z:l.length<2
  ·rw [if_pos z] at h;simp only [OR.bind_ok,Bool.false_eq_true,if_false] at h
   cases e:f r with
   | er a c r2=>rw [e] at h;cases h
   | ok v r2=>rw [e] at h;exact key v r2 h
  ·rw [if_neg z] at h
   cases e0:isR src [41] r with
   | er a c r2=>rw [e0] at h;cases h
   | ok b r2=>
    rw [e0] at h;simp only [OR.bind_ok] at h
    cases b with
    | true=>cases h;omega
    | false=>
     simp only [Bool.false_eq_true,if_false] at h
     cases e:f r2 with
     | er a c r3=>rw [e] at h;cases h
     | ok v r3=>rw [e] at h;exact key v r3 h
section
variable {src:Rl} {S:Rd→St} {m N:Nat} (hE:ve src S m N)
include hE
theorem Q5 (n:Nat) (hn2:n≤100000) (r:Rd) (ha:Wr src r) (hn:rem src r<n) (cx:Ctx) (hl:cx.lim≤m):
  aj P0 (.fn (.func fC) [] []) [.pt (m+1) 0] (S r) cx=qy uM S (X9 src n r):=by
 refine yV (iT _ _ _) ?_;have hN:=hE.n;have hF:KP src S m (n - 1) aT aK (vS src n):=⟨fun p cx2 h1 h2 h3=>NT hE n (by omega) p cx2 h1 (by omega) h3,fun p h1 h2=>kJ n p h1 (by omega)⟩;unfold X9;obtain ⟨a,c,q,hx,e1⟩|⟨v1,r1,h1,e1,g1⟩:=spl (yM hE n r ha (by omega) ⟨cx.lim,N⟩ hl) (ig n r ha (by omega))
 ·rw [hx];simp -implicitDefEqProofs [af,gu,hN,e1]
 rw [h1];simp only [OR.bind_ok];have w1:=g1.1;have k1:=g1.2.1;obtain ⟨a,c,q,hx,e2⟩|⟨l,r2,h2,e2,g2⟩:=spl (QY hE hF n r1 w1 (by omega) (by omega) (by omega) ⟨cx.lim,N⟩ hl) (uf (least:=2) n [] r1 w1 (by omega) (fun q hq1 hq2=>hF.2 q hq1 (by omega)))
 ·rw [hx];simp -implicitDefEqProofs [af,gu,hN,e1,e2]
 rw [h2];simp only [OR.bind_ok];have w2:=g2.1;have hlen:=zu _ _ _ _ _ h2;obtain ⟨x1,x2,x3,rfl⟩:=wE _ _ _ _ _ h2;have hq:=GN (x1::x2::x3) (by simp at hlen ⊢;omega) (S r2) ⟨cx.lim,N⟩ (x2::x3) 0 x1 [] rfl (by simp at hlen ⊢;omega);rw [List.map_nil,show ((0:Nat):Int)=0 from rfl] at hq;simp [vN] at hq;have hcl:=WA (l:=x1::x2::x3);simp at hcl;have htk:(x3.map aK).take x3.length=x3.map aK:=List.take_of_length_le (by simp);simp -implicitDefEqProofs [af,gu,hN,e1,e2,hq,hcl,htk,uM,vN]
theorem Vx (n:Nat) (hn2:n≤100000) (r:Rd) (ha:Wr src r) (hn:rem src r<n) (cx:Ctx) (hl:cx.lim≤m):
  aj P0 (.fn (.func gG) [] []) [.pt (m+1) 0] (S r) cx=qy uM S (Ya src n r):=by
 refine Aw (iT _ _ _) ?_;have hN:=hE.n;have hF:KP src S m (n - 1) aT aK (vS src n):=⟨fun p cx2 h1 h2 h3=>NT hE n (by omega) p cx2 h1 (by omega) h3,fun p h1 h2=>kJ n p h1 (by omega)⟩;unfold Ya;obtain ⟨a,c,q,hx,e1⟩|⟨v1,r1,h1,e1,g1⟩:=spl (yM hE n r ha (by omega) ⟨cx.lim,N⟩ hl) (ig n r ha (by omega))
 ·rw [hx];simp -implicitDefEqProofs [af,iE,hN,e1]
 rw [h1];simp only [OR.bind_ok];have w1:=g1.1;have k1:=g1.2.1;obtain ⟨a,c,q,hx,e2⟩|⟨l,r2,h2,e2,g2⟩:=spl (QY hE hF n r1 w1 (by omega) (by omega) (by omega) ⟨cx.lim,N⟩ hl) (uf (least:=2) n [] r1 w1 (by omega) (fun q hq1 hq2=>hF.2 q hq1 (by omega)))
 ·rw [hx];simp -implicitDefEqProofs [af,iE,hN,e1,e2]
 rw [h2];simp only [OR.bind_ok];have w2:=g2.1;have hlen:=zu _ _ _ _ _ h2;obtain ⟨x1,x2,x3,rfl⟩:=wE _ _ _ _ _ h2;obtain ⟨E,hEE,hq⟩:=JH (x1::x2::x3) (by simp at hlen ⊢;omega) (S r2) ⟨cx.lim,N⟩ (x1::x2::x3) 0 [] rfl (by simp);rw [List.map_nil,show ((0:Nat):Int)=0 from rfl] at hq;simp at hq;obtain ⟨y,Y,hY⟩:=abh x1 x2 x3;rw [hY] at hq ⊢;simp at hq
 rcases hEE with ⟨j,rfl⟩|⟨j,rfl⟩<;>simp at hq<;>simp -implicitDefEqProofs [af,iE,hN,e1,e2,hq,uM]
end
end Go.Ai.Z
namespace Go.Ai.Z
open Go.Ai
theorem Nc {α:Type} {src:Rl} {f:Rd→OR α} {P:α→Prop} {B:Nat} (hf:∀q v q2,Wr src q→rem src q≤B→f q=.ok v q2→P v) (hg:∀q,Wr src q→rem src q≤B→aG src q 1 (f q)):
  ∀(n:Nat) (l:List α) (r:Rd) (l':List α) (q:Rd),Wr src r→rem src r≤B→(∀v∈l,P v)→lD src f 2 n l r=.ok l' q→∀v∈l',P v
 | 0,l,r,l',q,_,_,_,h=>by cases h
 | n+1,l,r,l',q,hr,hB,hl,h=>by
  have key:∀r1,Wr src r1→rem src r1≤B→(f r1).bind (fun v r=>lD src f 2 n (l++[v]) r)=.ok l' q→∀v∈l',P v:=fun r1 h1 h2 h3=>by
   cases e:f r1 with
   | er a c r2=>rw [e] at h3;cases h3
   | ok v r2=>
    rw [e] at h3;have g:=(hg r1 h1 h2).ok e
    exact Nc hf hg n (l++[v]) r2 l' q g.1 (by omega) (fun u hu=>by
     rcases List.mem_append.1 hu with hu|hu
     ·exact hl u hu
     ·rw [List.mem_singleton.1 hu];exact hf r1 v r2 h1 h2 e) h3
  unfold lD at h;by_cases z:l.length<2
  ·rw [if_pos z] at h;simp only [OR.bind_ok,Bool.false_eq_true,if_false] at h;exact key r hr hB h
  ·rw [if_neg z] at h;have g0:=kQ hr [41]
   cases e0:isR src [41] r with
   | er a c r2=>rw [e0] at h;cases h
   | ok b r2=>
    rw [e0] at h;simp only [OR.bind_ok] at h;have g:=g0.ok e0
    cases b with
    | true=>cases h;exact hl
    | false=>
     simp only [Bool.false_eq_true,if_false] at h;exact key r2 g.1 (by omega) h
theorem OR.bind_eq {α β:Type} {x:OR α} {f:α→Rd→OR β} {v:β} {q:Rd} (h:x.bind f=.ok v q):∃u r,x=.ok u r∧f u r=.ok v q:=by
 cases x with
 | er a c r=>cases h
 | ok u r=>exact ⟨u,r,rfl,h⟩
theorem Cb {src:Rl} {r q:Rd} {s:Rl} (hr:Wr src r) (h:mr src r=.ok s q):s.length≤src.length:=by
 unfold mr at h;obtain ⟨t,r1,h1,h⟩:=OR.bind_eq h;obtain ⟨u,r2,h2,h⟩:=OR.bind_eq h;cases h
 have:=(lU hr h1).2.len
 exact Nat.le_trans (Rq 58 _) this
theorem zo {k:Int} {n:Rl} {l h:Int} {z:Bool} (hn:n.length≤200000):C.Lng (.mk k n l h z []):=.mk _ (by simpa using Nat.le_trans hn (by decide)) (by simp) (by simp)
theorem QS {src:Rl} (hs:src.length≤100000):∀(n:Nat) (r:Rd) (c:C) (q:Rd),n≤200000→Wr src r→rem src r<n→vS src n r=.ok c q→C.Lng c
 | 0,r,c,q,_,_,_,h=>by cases h
 | n+1,r,c,q,hn,hr,hr2,h=>by
  unfold vS at h;obtain ⟨t,r1,h1,h⟩:=OR.bind_eq h;have g1:=(fA hr).ok h1;have hsn:∀w:Rl,1≤w.length→t.2.1=w→Sn src r1:=fun w hw ht=>F8 h1 (by rw [ht];exact hw)
  split at h
  ·obtain ⟨u,r2,h2,h⟩:=OR.bind_eq h;cases h;exact zo (by simp)
  split at h
  ·obtain ⟨u,r2,h2,h⟩:=OR.bind_eq h;cases h;exact zo (by simp)
  split at h
  ·rename_i ht;have hp:=(hsn _ (by simp) ht).pass g1.1;unfold Yn at h;obtain ⟨u,r2,h2,h⟩:=OR.bind_eq h;obtain ⟨l,r3,h3,h⟩:=OR.bind_eq h;obtain ⟨u,r4,h4,h⟩:=OR.bind_eq h;cases h;have g2:=(aC hp.1 [40] (by simp)).ok h2;have hl:=zu n [] r2 l r3 h3;have ha:=Nc (src:=src) (f:=vS src n) (P:=C.Lng) (B:=n - 1) (fun p v p2 hp1 hp2 hp3=>QS hs n p v p2 (by omega) hp1 (by omega) hp3) (fun p hp1 hp2=>kJ n p hp1 (by omega)) n [] r2 l r3 g2.1 (by omega) (by simp) h3;refine .mk _ (by simp) ?_ ?_
   ·simp at hl ⊢;omega
   ·simpa using ha
  split at h
  ·rename_i ht;have hp:=(hsn _ (by simp) ht).pass g1.1;unfold OY at h;obtain ⟨u,r2,h2,h⟩:=OR.bind_eq h;obtain ⟨s,r3,h3,h⟩:=OR.bind_eq h;obtain ⟨d,r4,h4,h⟩:=OR.bind_eq h;obtain ⟨u,r5,h5,h⟩:=OR.bind_eq h;cases h;have g2:=(aC hp.1 [40] (by simp)).ok h2;have g3:=(bf g2.1).ok h3;have hl:=Cb g2.1 h3;have hd:=QS hs n r3 d r4 (by omega) g3.1 (by omega) h4;exact .mk _ (by simp;omega) (by simp) (by simpa using hd)
  split at h
  ·rename_i ht;have hp:=(hsn _ (by simp) ht).pass g1.1;unfold Xl at h;obtain ⟨u,r2,h2,h⟩:=OR.bind_eq h;obtain ⟨s,r3,h3,h⟩:=OR.bind_eq h;obtain ⟨u,r5,h5,h⟩:=OR.bind_eq h;cases h;have g2:=(aC hp.1 [40] (by simp)).ok h2;exact zo (Nat.le_trans (Cb g2.1 h3) (by omega))
  split at h
  ·rename_i ht;have hp:=(hsn _ (by simp) ht).pass g1.1;unfold PV at h;obtain ⟨u,r2,h2,h⟩:=OR.bind_eq h;obtain ⟨s,r3,h3,h⟩:=OR.bind_eq h;obtain ⟨b,r4,h4,h⟩:=OR.bind_eq h;obtain ⟨x,r5,h5,h⟩:=OR.bind_eq h;obtain ⟨u,r6,h6,h⟩:=OR.bind_eq h;cases h;have g2:=(aC hp.1 [40] (by simp)).ok h2;exact zo (Nat.le_trans (Cb g2.1 h3) (by omega))
  ·obtain ⟨s,r3,h3,h⟩:=OR.bind_eq h;cases h;exact zo (Nat.le_trans (Cb g1.1 h3) (by omega))
theorem yQ:C.Lng zC:=zo (by simp)
theorem Q8 {k:Int} {a b:C} (ha:C.Lng a) (hb:C.Lng b):(axC k a b).Lng:=⟨ha,hb,by simp [axC],by simp [axC],by simp [axC]⟩
theorem TN:∀{l:List C},(∀c∈l,C.Lng c)→∀x∈vN l,x.Lng
 | [],_,x,hx=>by cases hx
 | [_],_,x,hx=>by cases hx
 | a::b::r,h,x,hx=>by
  rcases List.mem_cons.1 hx with rfl|hx
  ·exact Q8 (h a (by simp)) (h b (by simp))
  ·exact TN (l:=b::r) (fun c hc=>h c (by simp [hc])) x hx
theorem TR:∀{l:List C} {X:List Ax},(∀c∈l,C.Lng c)→(∀x∈X,x.Lng)→∀x∈AL l X,x.Lng
 | [],X,_,hX,x,hx=>hX x hx
 | a::r,X,h,hX,x,hx=>by
  unfold AL at hx
  split at hx
  ·exact hX x hx
  ·refine TR (l:=r) (fun c hc=>h c (by simp [hc])) (fun y hy=>?_) x hx;rcases List.mem_append.1 hy with hy|hy
   ·exact hX y hy
   ·obtain ⟨c,hc,rfl⟩:=List.mem_map.1 hy;exact Q8 (h a (by simp)) (h c (by simp [hc]))
theorem ND:∀(l:List C),(vN l).length≤l.length
 | []=>by simp [vN]
 | [_]=>by simp [vN]
 | a::b::r=>by have:=ND (b::r);simp [vN] at this ⊢;omega
theorem TS:∀(l:List C) (X:List Ax) (k:Nat),l.length≤k→X.length≤1024+k→(AL l X).length≤1024+k
 | [],X,k,_,hX=>by simpa [AL] using hX
 | a::r,X,k,hl,hX=>by
  unfold AL;split
  ·exact hX
  ·exact TS r _ k (by simp at hl;omega) (by simp at hl ⊢;omega)
structure af6 (X:List Ax):Prop where
 len:X.length≤200000
 lng:∀x∈X,x.Lng
theorem EC {x:Ax} (h:x.Lng):af6 [x]:=⟨by simp,fun y hy=>by rw [List.mem_singleton.1 hy];exact h⟩
theorem acR {src:Rl} (hs:src.length≤70000) {n:Nat} (hn:n≤100000) {w:Rl} {r q:Rd} {X:List Ax} (hr:Wr src r) (hr2:rem src r<n) (h:Oy src n w r=.ok X q):af6 X:=by
 have hcon:∀{r c q},Wr src r→rem src r<n→vS src n r=.ok c q→C.Lng c:=fun h1 h2 h3=>QS (by omega) n _ _ _ (by omega) h1 h2 h3;have hnm:∀{r s q},Wr src r→mr src r=.ok s q→s.length≤1152921504606846976:=fun h1 h2=>Nat.le_trans (Cb h1 h2) (by omega)
 have hlst:∀{r l q},Wr src r→rem src r<n→lD src (vS src n) 2 n [] r=.ok l q→(∀c∈l,C.Lng c)∧l.length≤100000:=fun {r l q} h1 h2 h3=>
  ⟨Nc (src:=src) (f:=vS src n) (P:=C.Lng) (B:=n - 1) (fun p v p2 hp1 hp2 hp3=>hcon hp1 (by omega) hp3) (fun p hp1 hp2=>kJ n p hp1 (by omega)) n [] r l q h1 (by omega) (by simp) h3,
   by have:=zu n [] r l q h3;simp at this;omega⟩
 unfold Oy at h
 split at h
 ·unfold PU at h;obtain ⟨t,r1,h1,h⟩:=OR.bind_eq h;obtain ⟨u,r2,h2,h⟩:=OR.bind_eq h;obtain ⟨u,r3,h3,h⟩:=OR.bind_eq h;obtain ⟨u,r4,h4,h⟩:=OR.bind_eq h;obtain ⟨u,r5,h5,h⟩:=OR.bind_eq h;cases h;exact ⟨by simp,by simp⟩
 split at h
 ·unfold YB at h;obtain ⟨u,r1,h1,h⟩:=OR.bind_eq h;obtain ⟨a,r2,h2,h⟩:=OR.bind_eq h;obtain ⟨b,r3,h3,h⟩:=OR.bind_eq h;cases h;have g1:=(ig n r hr hr2).ok h1;have g2:=(kJ n r1 g1.1 (by omega)).ok h2;exact EC (Q8 (hcon g1.1 (by omega) h2) (hcon g2.1 (by omega) h3))
 split at h
 ·unfold X9 at h;obtain ⟨u,r1,h1,h⟩:=OR.bind_eq h;obtain ⟨l,r2,h2,h⟩:=OR.bind_eq h;cases h;have g1:=(ig n r hr hr2).ok h1;obtain ⟨k1,k2⟩:=hlst g1.1 (by omega) h2;exact ⟨by have:=ND l;omega,TN k1⟩
 split at h
 ·unfold Ya at h;obtain ⟨u,r1,h1,h⟩:=OR.bind_eq h;obtain ⟨l,r2,h2,h⟩:=OR.bind_eq h;cases h;have g1:=(ig n r hr hr2).ok h1;obtain ⟨k1,k2⟩:=hlst g1.1 (by omega) h2;exact ⟨by have:=TS l [] l.length (by omega) (by simp);omega,TR k1 (by simp)⟩
 split at h
 ·unfold Z7 at h;obtain ⟨u,r1,h1,h⟩:=OR.bind_eq h;obtain ⟨s,r2,h2,h⟩:=OR.bind_eq h;obtain ⟨c,r3,h3,h⟩:=OR.bind_eq h;cases h;have g1:=(ig n r hr hr2).ok h1;have g2:=(bf g1.1).ok h2;exact EC ⟨yQ,hcon g2.1 (by omega) h3,by simp,by simp,by simp⟩
 split at h
 ·unfold YP at h;obtain ⟨u,r1,h1,h⟩:=OR.bind_eq h;obtain ⟨b,r2,h2,h⟩:=OR.bind_eq h
  split at h
  ·obtain ⟨u,r3,h3,h⟩:=OR.bind_eq h;obtain ⟨l,r4,h4,h⟩:=OR.bind_eq h;obtain ⟨u,r5,h5,h⟩:=OR.bind_eq h;obtain ⟨s,r6,h6,h⟩:=OR.bind_eq h;cases h;have hl:=zu n [] r3 l r4 h4;exact EC ⟨yQ,yQ,by simp at hl ⊢;omega,by simp,by simp⟩
  ·obtain ⟨a,r3,h3,h⟩:=OR.bind_eq h;obtain ⟨s,r4,h4,h⟩:=OR.bind_eq h;cases h;exact EC ⟨yQ,yQ,by simp,by simp,by simp⟩
 split at h
 ·unfold YQ at h;obtain ⟨u,r1,h1,h⟩:=OR.bind_eq h;obtain ⟨s,r2,h2,h⟩:=OR.bind_eq h;cases h;exact EC ⟨yQ,yQ,by simp,by simp,by simp⟩
 split at h
 ·unfold Yz at h;obtain ⟨u,r1,h1,h⟩:=OR.bind_eq h;obtain ⟨c,r2,h2,h⟩:=OR.bind_eq h;obtain ⟨a,r3,h3,h⟩:=OR.bind_eq h;cases h;have g1:=(ig n r hr hr2).ok h1;have g2:=(kJ n r1 g1.1 (by omega)).ok h2;exact EC ⟨yQ,hcon g1.1 (by omega) h2,by simp,hnm g2.1 h3,by simp⟩
 ·unfold Zf at h;obtain ⟨u,r1,h1,h⟩:=OR.bind_eq h;obtain ⟨s,r2,h2,h⟩:=OR.bind_eq h;obtain ⟨a,r3,h3,h⟩:=OR.bind_eq h;obtain ⟨b,r4,h4,h⟩:=OR.bind_eq h;cases h;have g1:=(ig n r hr hr2).ok h1;have g2:=(bf g1.1).ok h2;have g3:=(bf g2.1).ok h3;exact EC ⟨yQ,yQ,by simp,hnm g2.1 h3,hnm g3.1 h4⟩
end Go.Ai.Z
namespace Go.Ai.Z
open Go.Ai
theorem XR {src:Rl} {r:Rd} (h:Wr src r):aG src r 0 (PU src r):=by
 unfold PU;refine aG.bind (k:=0) (j:=0) (fA h) (fun t q e h1 h2=>?_) (by omega);refine aG.bind (k:=0) (j:=0) (gK h1 _) (fun _ q2 e2 h3 h4=>?_) (by omega);obtain ⟨hb,hq⟩:=wo e2;subst hq
 have hsn:Sn src q2:=F8 e (by
  unfold Bg at hb;rw [Bool.or_eq_true,Bool.or_eq_true,Bool.or_eq_true,decide_eq_true_eq,decide_eq_true_eq,decide_eq_true_eq,decide_eq_true_eq] at hb
  rcases hb with ((hb|hb)|hb)|hb<;>rw [hb]<;>simp)
 have hp:=hsn.pass h3;refine (nY (k:=0) hsn h3 ?_).wk (by omega);refine aG.bind (k:=1) (j:=0) (aC hp.1 _ (by simp)) (fun _ q e h1 h2=>?_) (by omega);refine aG.bind (k:=1) (j:=0) (bf h1) (fun _ q e h1 h2=>?_) (by omega);exact aG.bind (k:=1) (j:=0) (aC h1 _ (by simp)) (fun _ q e h1 h2=>aG.mk h1) (by omega)
theorem TA {src:Rl} {n:Nat} {w:Rl} {r:Rd} (h:Wr src r) (hn:rem src r<n):aG src r 0 (Oy src n w r):=by
 have hno:=ig n r h hn;have hli:∀q,Wr src q→rem src q<n→aG src q 0 (lD src (vS src n) 2 n [] q):=fun q h1 h2=>uf (least:=2) n [] q h1 h2 (fun p hp1 hp2=>kJ n p hp1 (by omega));unfold Oy;split
 ·exact XR h
 split
 ·unfold YB;refine aG.bind (k:=0) (j:=0) hno (fun _ q e h1 h2=>?_) (by omega);refine aG.bind (k:=1) (j:=0) (kJ n q h1 (by omega)) (fun _ q2 e2 h3 h4=>?_) (by omega);exact aG.bind (k:=1) (j:=0) (kJ n q2 h3 (by omega)) (fun _ q e h1 h2=>aG.mk h1) (by omega)
 split
 ·unfold X9;refine aG.bind (k:=0) (j:=0) hno (fun _ q e h1 h2=>?_) (by omega);exact aG.bind (k:=0) (j:=0) (hli q h1 (by omega)) (fun _ q e h1 h2=>aG.mk h1) (by omega)
 split
 ·unfold Ya;refine aG.bind (k:=0) (j:=0) hno (fun _ q e h1 h2=>?_) (by omega);exact aG.bind (k:=0) (j:=0) (hli q h1 (by omega)) (fun _ q e h1 h2=>aG.mk h1) (by omega)
 split
 ·unfold Z7;refine aG.bind (k:=0) (j:=0) hno (fun _ q e h1 h2=>?_) (by omega);refine aG.bind (k:=1) (j:=0) (bf h1) (fun _ q2 e2 h3 h4=>?_) (by omega);exact aG.bind (k:=1) (j:=0) (kJ n q2 h3 (by omega)) (fun _ q e h1 h2=>aG.mk h1) (by omega)
 split
 ·unfold YP;refine aG.bind (k:=0) (j:=0) hno (fun _ q e h1 h2=>?_) (by omega);refine aG.bind (k:=0) (j:=0) (kQ h1 _) (fun b q2 e2 h3 h4=>?_) (by omega);split
  ·rename_i hb;subst hb;have hs:=VJ e2 (by simp);have hp:=hs.pass h3;refine (nY (k:=0) hs h3 ?_).wk (by omega);refine aG.bind (k:=1) (j:=0) (aC hp.1 _ (by simp)) (fun _ q3 e3 h5 h6=>?_) (by omega);refine aG.bind (k:=0) (j:=0) (uf (least:=2) n [] q3 h5 (by omega) (fun p hp1 hp2=>bf hp1)) (fun _ q4 e4 h7 h8=>?_) (by omega);refine aG.bind (k:=1) (j:=0) (aC h7 _ (by simp)) (fun _ q5 e5 h9 h10=>?_) (by omega);exact aG.bind (k:=1) (j:=0) (bf h9) (fun _ q e h1 h2=>aG.mk h1) (by omega)
  ·refine aG.bind (k:=1) (j:=0) (bf h3) (fun _ q3 e3 h5 h6=>?_) (by omega);exact aG.bind (k:=1) (j:=0) (bf h5) (fun _ q e h1 h2=>aG.mk h1) (by omega)
 split
 ·unfold YQ;refine aG.bind (k:=0) (j:=0) hno (fun _ q e h1 h2=>?_) (by omega);exact aG.bind (k:=1) (j:=0) (bf h1) (fun _ q e h1 h2=>aG.mk h1) (by omega)
 split
 ·unfold Yz;refine aG.bind (k:=0) (j:=0) hno (fun _ q e h1 h2=>?_) (by omega);refine aG.bind (k:=1) (j:=0) (kJ n q h1 (by omega)) (fun _ q2 e2 h3 h4=>?_) (by omega);exact aG.bind (k:=1) (j:=0) (bf h3) (fun _ q e h1 h2=>aG.mk h1) (by omega)
 ·unfold Zf;refine aG.bind (k:=0) (j:=0) hno (fun _ q e h1 h2=>?_) (by omega);refine aG.bind (k:=1) (j:=0) (bf h1) (fun _ q2 e2 h3 h4=>?_) (by omega);refine aG.bind (k:=1) (j:=0) (bf h3) (fun _ q3 e3 h5 h6=>?_) (by omega);exact aG.bind (k:=1) (j:=0) (bf h5) (fun _ q e h1 h2=>aG.mk h1) (by omega)
def axT (l:List Ax):St:=match l with | []=>[] | x::r=>[.row bC 16 (x::r).length]
theorem abr (N:Nat) (l:List Ax) (x:Ax):axV N (l++[x])=.st N (l.map iH++[iH x]):=by cases l<;>simp [axV]
theorem abt (l:List Ax) (x:Ax):axT (l++[x])=[.row bC 16 (l.length+1)]:=by cases l<;>simp [axT]
theorem QJ (x:Ax) (b:Bool):AV.ag [.i .i64 x.kind,.b b,.i .i64 x.left.kind,.s x.left.name,.i .i64 x.left.lo,.i .i64 x.left.hi,slf x.left.z (x.left.parts.map aK),
 .i .i64 x.right.kind,.s x.right.name,.i .i64 x.right.lo,.i .i64 x.right.hi,slf x.right.z (x.right.parts.map aK),slf x.z (x.roles.map .s),.s x.role,.s x.a,.s x.b]=iH { x with op:=b }:=rfl
def itE (m:Nat) (t:Tk) (V:AV) (k:Nat):Env:=[(0,.v (.pt (m+1) 0)),(2,.bx [.i .i64 t.1,.s t.2.1,.i .i64 t.2.2]),(35,.v V),(36,.v (.i .i64 k)),(37,.v (.i .i64 k)),(38,.v (.b false))]
def U3 (w:Rl):Option Nat:=
 if w=wC9 then some eX
 else if w=wC7 then some jY
 else if w=wA2 then some fC
 else if w=wA6 then some gG
 else if w=wB5 then some iK
 else if w=wB2 then some jG
 else if w=wB0 then some fM
 else if w=wC2 then some iJ
 else if w=wB7 then some jH
 else none
theorem X6 (m:Nat) (w:Rl):find 1 (.s w) (Tj m)=some ((U3 w).map (rdF m)):=by
 unfold U3 Tj;split
 ·rename_i h;simp [find,jQ,h]
 split
 ·rename_i h;simp [find,jQ,h]
 split
 ·rename_i h;simp [find,jQ,h]
 split
 ·rename_i h;simp [find,jQ,h]
 split
 ·rename_i h;simp [find,jQ,h]
 split
 ·rename_i h;simp [find,jQ,h]
 split
 ·rename_i h;simp [find,jQ,h]
 split
 ·rename_i h;simp [find,jQ,h]
 split
 ·rename_i h;simp [find,jQ,h]
 ·simp [find,jQ, *]
theorem Xu (w:Rl):(U3 w).isSome=aaZ w:=by
 unfold U3 aaZ;split
 ·rename_i h;simp [h]
 split
 ·rename_i h;simp [h]
 split
 ·rename_i h;simp [h]
 split
 ·rename_i h;simp [h]
 split
 ·rename_i h;simp [h]
 split
 ·rename_i h;simp [h]
 split
 ·rename_i h;simp [h]
 split
 ·rename_i h;simp [h]
 split
 ·rename_i h;simp [h]
 ·simp [*]
section
variable {src:Rl} {S:Rd→St} {m N:Nat} (hE:ve src S m N)
include hE
theorem acr (r:Rd) (v:AV) (X:St):(S r++X).set (m+1) (.cells [.sl (aF src),.i .i64 r.at_,ahV r.ah,.mp m,.s r.iri,.b r.op,v,.mp (m+2),.mp (m+3)])=S { r with ax:=v }++X:=hE.s1 r { r with ax:=v } X rfl
theorem afX (n:Nat) (hn2:n≤100000) (w:Rl) (F:Nat) (hF:U3 w=some F) (r:Rd) (ha:Wr src r) (hn:rem src r<n) (cx:Ctx) (hl:cx.lim≤m):
  aj P0 (.fn (.func F) [] []) [.pt (m+1) 0] (S r) cx=qy uM S (Oy src n w r):=by
 unfold U3 at hF;unfold Oy
 split at hF
 ·rename_i h0;cases hF;simp only [if_pos h0];exact OM hE r ha cx hl
 rename_i h0
 split at hF
 ·rename_i h1;cases hF;simp only [if_neg h0,if_pos h1];exact afW hE n (by omega) r ha hn cx hl
 rename_i h1
 split at hF
 ·rename_i h2;cases hF;simp only [if_neg h0,if_neg h1,if_pos h2];exact Q5 hE n (by omega) r ha hn cx hl
 rename_i h2
 split at hF
 ·rename_i h3;cases hF;simp only [if_neg h0,if_neg h1,if_neg h2,if_pos h3];exact Vx hE n (by omega) r ha hn cx hl
 rename_i h3
 split at hF
 ·rename_i h4;cases hF;simp only [if_neg h0,if_neg h1,if_neg h2,if_neg h3,if_pos h4];exact aae hE n (by omega) r ha hn cx hl
 rename_i h4
 split at hF
 ·rename_i h5;cases hF;simp only [if_neg h0,if_neg h1,if_neg h2,if_neg h3,if_neg h4,if_pos h5];exact ade hE n (by omega) r ha hn cx hl
 rename_i h5
 split at hF
 ·rename_i h6;cases hF;simp only [if_neg h0,if_neg h1,if_neg h2,if_neg h3,if_neg h4,if_neg h5,if_pos h6];exact Ue hE n (by omega) r ha hn cx hl
 rename_i h6
 split at hF
 ·rename_i h7;cases hF;simp only [if_neg h0,if_neg h1,if_neg h2,if_neg h3,if_neg h4,if_neg h5,if_neg h6,if_pos h7];exact Z9 hE n (by omega) r ha hn cx hl
 rename_i h7
 split at hF
 ·cases hF;simp only [if_neg h0,if_neg h1,if_neg h2,if_neg h3,if_neg h4,if_neg h5,if_neg h6,if_neg h7];exact adf hE n (by omega) r ha hn cx hl
 ·cases hF
theorem Zj (xs:List Ax) (hxl:xs.length≤200000) (hxs:∀x∈xs,x.Lng) (t:Tk) (cx:Ctx) (hl:cx.lim≤m) (hb:cx.base≤m):∀(rest:List Ax) (i:Nat) (l:List Ax) (r:Rd),xs.drop i=rest→i≤xs.length→r.ax=axV N l→l.length+rest.length≤300000→
  ∃X:St,jw (aA P0.glob (aj P0) cx true fB) [0,2,35,36,37] [(0,.v (.pt (m+1) 0)),(2,.bx [.i .i64 t.1,.s t.2.1,.i .i64 t.2.2]),(35,.v (.sl (xs.map iH))),(36,.v (.i .i64 xs.length)),(37,.v (.i .i64 i))] (S r++axT l)=
   match yC N t.2.2 rest l r with
   | .ok l' r'=>.exit 0 (itE m t (.sl (xs.map iH)) xs.length) (S r'++axT l')
   | .er a c r'=>.pan (flt a c) (S r'++X)
 | [],i,l,r,h,hi0,hr,hlen=>by
  have h1:¬(i:Int)<(xs.length:Int):=by have:=drop_nil h;omega
  refine ⟨[],ay fun K hK=>?_⟩;have h2:i=xs.length:=by omega
  subst h2;simp -implicitDefEqProofs [fB,h1,yC,itE]
 | x::rest,i,l,r,h,hi0,hr,hlen=>by
  obtain ⟨h1,h2,h3,h4⟩:=drop_cons h;have hi:(i:Int)<(xs.length:Int):=by omega
  have hwi:=wI (i:=i) (by omega);have hx:x∈xs:=by rw [←List.take_append_drop i xs,h];simp
  have hlim:cx.lim≤m+1:=by omega
  have hb1:cx.base≤m+1:=by omega
  have hlt:=hE.lt;have hl2:cx.lim≤N:=by omega
  have hN:=hE.n;have hg1:(xs.map iH)[i]?=some (iH x):=by rw [List.getElem?_map,h1];rfl
  have hc:=hE.g1 r;have e1:=Ec { x with op:=r.op } ⟨(hxs x hx).l,(hxs x hx).r,(hxs x hx).roles,(hxs x hx).a,(hxs x hx).b⟩;unfold yC;by_cases q:pq { x with op:=r.op }=0
  ·rw [if_pos q];rw [q] at e1;obtain ⟨X,ih⟩:=Zj xs hxl hxs t cx hl hb rest (i+1) (l++[{ x with op:=r.op }]) { r with ax:=axV N (l++[{ x with op:=r.op }]) } h2 (by omega) rfl (by simp at hlen ⊢;omega);refine ⟨X,ay fun K hK=>?_⟩;rw [←hK,show ((i+1:Nat):Int)=(i:Int)+1 from rfl] at ih;clear hK h4;rw [←ih];clear ih;rw [abr,abt];rw [hr] at hc;have hs:=acr hE r;have hm1:l.length+1≤eu:=by unfold eu;simp at hlen;omega
   have hm0:1≤eu:=by decide
   generalize xs.map iH=XS at *
   cases l with
   | nil=>
    simp only [axV,axT,List.append_nil] at hc ⊢;have hc0:=qY hE r;rw [hr] at hc0;simp only [axV] at hc0;have hN2:(S r).length=N:=hN r;simp -implicitDefEqProofs [fB,hi,hg1,hwi,hc,hc0,e1,hs,hlim,hb1,hN2,QJ,hm0]
   | cons y l=>
    simp only [axV,axT] at hc ⊢;have hgN:=hE.gN r;have hsN:=hE.sN r;have hm2:l.length+1+1≤eu:=by simpa using hm1
    simp -implicitDefEqProofs [fB,hi,hg1,hwi,hc,e1,hs,hlim,hb1,hl2,hgN,hsN,QJ,hm2]
  ·rw [if_neg q];refine ⟨axT l,ay fun K hK=>?_⟩;generalize xs.map iH=XS at *;generalize pq { x with op:=r.op }=e at *;simp -implicitDefEqProofs [fB,hi,hg1,hwi,hc,e1,hlim,QJ,q,flt,dS,splice]
end
end Go.Ai.Z
namespace Go.Ai.Z
open Go.Ai
def abD (S:Rd→St) (X:St) (x:OR (List Ax)):CO:=
 match x with
 | .ok l r=>.ret (.tu []) (S r++axT l)
 | .er a c r=>.pan (flt a c) (S r++X)
@[simp] theorem Rk (S:Rd→St) (X:St) (l:List Ax) (r:Rd):abD S X (.ok l r)=.ret (.tu []) (S r++axT l):=rfl
@[simp] theorem mZ (S:Rd→St) (X:St) (a:Nat) (c:Int) (r:Rd):abD S X (.er a c r)=.pan (flt a c) (S r++X):=rfl
theorem Jh (N:Nat) (l:List Ax) (env:Env):tC env (some (.v (axV N l)))=some (l.map iH):=by cases l<;>rfl
theorem U2 (m:Nat) (t:Tk) (s:St) (cx:Ctx):
  jw (aA P0.glob (aj P0) cx true fB) [0,2,35,36,37] [(0,.v (.pt (m+1) 0)),(2,.bx [.i .i64 t.1,.s t.2.1,.i .i64 t.2.2]),(35,.v .ns),(36,.v (.i .i64 0)),(37,.v (.i .i64 0))] s=.exit 0 (itE m t .ns 0) s:=by
 refine ay fun K hK=>?_;simp -implicitDefEqProofs [fB,itE]
theorem Qq (N a0:Nat):∀(xs l:List Ax) (r:Rd) {l':List Ax} {q:Rd},r.ax=axV N l→yC N a0 xs l r=.ok l' q→q.ax=axV N l'
 | [],l,r,l',q,hr,h=>by cases h;exact hr
 | x::xs,l,r,l',q,hr,h=>by
  unfold yC at h
  split at h
  ·exact Qq N a0 xs _ _ rfl h
  ·cases h
section
variable {src:Rl} {S:Rd→St} {m N:Nat} (hE:ve src S m N)
include hE
theorem adg (n:Nat) (hn2:n≤100000) (l:List Ax) (hll:l.length≤1024) (r:Rd) (hr:r.ax=axV N l) (ha:Wr src r) (hn:rem src r<n) (cx:Ctx) (hl:cx.lim≤m) (hb:cx.base≤m):
  ∃X,aj P0 (.fn (.func mW) [] []) [.pt (m+1) 0] (S r++axT l) cx=abD S X (En src n N l r):=by
 have hN:=hE.n;have hS:=hE.src;have hA:=hE.app (axT l);have hlim:cx.lim≤m+1:=by omega
 have hb1:cx.base≤m+1:=by omega
 unfold En;obtain ⟨a,c,q,hx,e1⟩|⟨t,r1,h1,e1,g1⟩:=spl (lW hA r (ha).at_ ⟨cx.lim,cx.base⟩ hl) (fA ha)
 ·rw [hx];simp only [OR.bind_er,mZ];refine ⟨axT l,eP (by simp) ?_⟩;simp -implicitDefEqProofs [af,dh,dU,e1]
 rw [h1];simp only [OR.bind_ok];have w1:=g1.1;have hc:=qY hA r1;have him:=hA.im r1;have hfd:=X6 m t.2.1
 try simp only at hc him
 have hsm:=Xu t.2.1
 cases hF:U3 t.2.1 with
 | none=>
  rw [hF] at hsm hfd;simp only [Option.map_none,Option.isSome_none] at hsm hfd;rw [←hsm];have ef:=nG hA false r1 w1 ⟨cx.lim,cx.base⟩ hl;obtain ⟨a2,c2,r2,hx⟩:=wu src r1;rw [hx] at ef ⊢;simp only [bV] at ef;simp only [OR.bind_er,mZ];refine ⟨axT l,eP (by simp) ?_⟩;obtain ⟨k,w,a⟩:=t
  skip
  simp -implicitDefEqProofs [af,dh,dU,e1,hc,him,hfd,ef]
 | some F=>
  rw [hF] at hsm hfd;simp only [Option.map_some,Option.isSome_some,rdF] at hsm hfd;rw [←hsm];obtain ⟨a,c,q,hx,e2⟩|⟨v2,r2,h2,e2,g2⟩:=spl (nG hA true r1 w1 ⟨cx.lim,cx.base⟩ hl) (gK w1 true)
  ·rw [hx];simp only [OR.bind_er,mZ];refine ⟨axT l,eP (by simp) ?_⟩;simp -implicitDefEqProofs [af,dh,dU,e1,hc,him,hfd,iW,e2]
  rw [h2];simp only [OR.bind_ok];have w2:=g2.1;have k2:=g2;have e3:=jM hA r2 ⟨cx.lim,cx.base⟩ hl;have w3:=gq w2;have kp:=xO src r2;obtain ⟨a,c,q,hx,e4⟩|⟨v4,r4,h4,e4,g4⟩:=spl (fK hA [40] (bP r2) w3 ⟨cx.lim,cx.base⟩ hl) (aC w3 [40] (by simp))
  ·rw [hx];simp only [OR.bind_er,mZ];refine ⟨axT l,eP (by simp) ?_⟩;simp -implicitDefEqProofs [af,dh,dU,e1,hc,him,hfd,iW,e2,e3,e4]
  rw [h4];simp only [OR.bind_ok];have w4:=g4.1;have k4:=g4;have hc4:=qY hA r4;have hs4:=YX hA r4;have k1:=g1;have hre:rem src { r4 with op:=false }<n:=by show rem src r4<n;omega
  obtain ⟨a,c,q,hx,e5⟩|⟨xs,r5,h5,e5,g5⟩:=spl (afX hA n hn2 t.2.1 F hF { r4 with op:=false } (OT w4 false) hre ⟨cx.lim,cx.base⟩ hl) (TA (n:=n) (w:=t.2.1) (OT w4 false) hre)
  ·rw [hx];simp only [OR.bind_er,mZ];refine ⟨axT l,eP (by simp) ?_⟩;simp -implicitDefEqProofs [af,dh,dU,e1,hc,him,hfd,iW,e2,e3,e4,hc4,hs4,hlim,hb1,e5]
  rw [h5];simp only [OR.bind_ok];have w5:=g5.1;have k5:=g5;have hxs:=acR hS hn2 (OT w4 false) hre h5;obtain ⟨a,c,q,hx,e6⟩|⟨v6,r6,h6,e6,g6⟩:=spl (fK hA [41] r5 w5 ⟨cx.lim,cx.base⟩ hl) (aC w5 [41] (by simp))
  ·rw [hx];simp only [OR.bind_er,mZ];refine ⟨axT l,eP (by simp) ?_⟩;simp -implicitDefEqProofs [af,dh,dU,e1,hc,him,hfd,iW,e2,e3,e4,hc4,hs4,hlim,hb1,e5,e6]
  rw [h6];simp only [OR.bind_ok];have w6:=g6.1;have k6:=g6;have hax:r6.ax=axV N l:=by rw [k6.2.2.2.2,k5.2.2.2.2];show r4.ax=_;rw [k4.2.2.2.2];show r2.ax=_;rw [k2.2.2.2.2,k1.2.2.2.2,hr]
  cases xs with
  | nil=>
   have hlp:=U2 m t (S r6++axT l) cx;have hcf:=qY hA r6;rw [hax] at hcf;have hlen:¬(1024:Int)<(l.length:Int):=by omega
   simp only [yC,OR.bind_ok,if_neg (show ¬1024<l.length by omega)];refine ⟨[],eP (by simp) ?_⟩;simp only [xE] at e5;simp -implicitDefEqProofs [af,dh,dU,e1,hc,him,hfd,iW,e2,e3,e4,hc4,hs4,hlim,hb1,e5,e6,hlp,itE,hcf,Jh,hlen]
  | cons x xs=>
   obtain ⟨X,hlp⟩:=Zj hE (x::xs) hxs.len hxs.lng t cx hl hb (x::xs) 0 l r6 rfl (by omega) hax (by have:=hxs.len;omega);rw [show ((0:Nat):Int)=0 from rfl] at hlp;have e5':uM (x::xs)=.sl ((x::xs).map iH):=rfl;rw [e5'] at e5;have hxl:((x::xs).map iH).length=(x::xs).length:=List.length_map _;generalize hXS:(x::xs).map iH=XS at *
   cases hp:yC N t.2.2 (x::xs) l r6 with
   | er a c q=>
    rw [hp] at hlp;simp only at hlp;simp only [OR.bind_er,mZ];refine ⟨X,eP (by simp) ?_⟩;simp -implicitDefEqProofs [af,dh,dU,e1,hc,him,hfd,iW,e2,e3,e4,hc4,hs4,hlim,hb1,e5,e6,hxl];simp at hlp;simp -implicitDefEqProofs [hlp]
   | ok l' q=>
    rw [hp] at hlp;simp only at hlp;simp only [OR.bind_ok];have hcf:=qY (hE.app (axT l')) q;rw [Qq _ _ _ _ _ hax hp] at hcf
    try simp only at hcf
    simp at hlp;by_cases hlen:1024<l'.length
    ·rw [if_pos hlen];have hleni:(1024:Int)<(l'.length:Int):=by omega
     refine ⟨axT l',eP (by simp) ?_⟩;simp -implicitDefEqProofs [af,dh,dU,e1,hc,him,hfd,iW,e2,e3,e4,hc4,hs4,hlim,hb1,e5,e6,hxl,hlp,itE,hcf,Jh,hleni,dS,splice,flt]
    ·rw [if_neg hlen];have hleni:¬(1024:Int)<(l'.length:Int):=by omega
     refine ⟨[],eP (by simp) ?_⟩;simp -implicitDefEqProofs [af,dh,dU,e1,hc,him,hfd,iW,e2,e3,e4,hc4,hs4,hlim,hb1,e5,e6,hxl,hlp,itE,hcf,Jh,hleni]
end
end Go.Ai.Z
