/-
 The merge of two sorted neighbours.
-/
import Derived.Test.YtpnlnnfcaeednaaGreatDoorAiV1V2V3
set_option maxRecDepth 100000
set_option linter.unusedSimpArgs false
set_option linter.unusedVariables false
set_option linter.unusedSectionVars false
namespace Go.Ai.Z
theorem LY {A X T:List Pb} {a i:Nat} (ha:A.length=a) (hi:i<X.length):kP (A++(X++T)) (a+i)=kP X i:=by
 unfold kP
 simp only [List.getD_eq_getElem?_getD]
 rw [List.getElem?_append_right (by omega),show a+i - A.length=i by omega,List.getElem?_append_left hi]
theorem GL {X:List Pb} (h:lM X) {i j:Nat} (hij:i≤j) (hj:j<X.length):kP X i≤kP X j:=by
 rcases Nat.lt_or_eq_of_le hij with h1|rfl
 ·have:=(List.pairwise_iff_getElem.1 h) i j (by omega) hj h1
  rw [Il (List.getElem?_eq_getElem (show i<X.length by omega)),Il (List.getElem?_eq_getElem hj)]
  exact this
 ·exact Int.le_refl _
theorem O6 {X:List Pb} {n:Nat} {p:Pb} (h:p∈X.take n):∃i,i<n∧i<X.length∧kP X i=p.1:=by
 obtain ⟨i,hi,he⟩:=List.mem_iff_getElem.1 h
 simp at hi
 refine ⟨i,by omega,by omega, ?_⟩
 rw [Il (List.getElem?_eq_getElem (show i<X.length by omega))]
 rw [List.getElem_take] at he;rw [he]
theorem Bo {X:List Pb} {n:Nat} {p:Pb} (h:p∈X.drop n):∃i,n≤i∧i<X.length∧kP X i=p.1:=by
 obtain ⟨i,hi,he⟩:=List.mem_iff_getElem.1 h
 simp at hi
 refine ⟨n+i,by omega,by omega, ?_⟩
 rw [Il (List.getElem?_eq_getElem (show n+i<X.length by omega))]
 rw [List.getElem_drop] at he;rw [he]
theorem lM.app {X Y:List Pb} (h1:lM X) (h2:lM Y) (h:∀p∈X,∀q∈Y,p.1≤q.1):lM (X++Y):=List.pairwise_append.2 ⟨h1,h2,h⟩
theorem lM.take {X:List Pb} (h:lM X) (n:Nat):lM (X.take n):=h.sublist (List.take_sublist n X)
theorem lM.drop {X:List Pb} (h:lM X) (n:Nat):lM (X.drop n):=h.sublist (List.drop_sublist n X)
theorem yO.perm {D E:List Pb} (h:yO D) (hp:E.Perm D):yO E:=fun p hm=>h p ((hp.mem_iff).1 hm)
theorem aa9 {x:Pb} {A Y B:List Pb} {a m b:Nat} (hA:A.length=a) (hm:a+1=m) (hb:m+Y.length=b) (hY:lM Y) {r:Nat} (hr:r=bsr (fun h=>decide (kP (A++x::(Y++B)) h<kP (A++x::(Y++B)) a)) Y.length m b):
  m≤r∧r≤b∧lM (Y.take (r - m)++x::Y.drop (r - m)):=by
 have ka:kP (A++x::(Y++B)) a=x.1:=by
  have:=LY (A:=A) (X:=[x]) (T:=Y++B) (i:=0) hA (by simp)
  simpa [kP] using this
 have kc:∀i,i<Y.length→kP (A++x::(Y++B)) (m+i)=kP Y i:=by
  intro i hi
  have:=LY (A:=A++[x]) (X:=Y) (T:=B) (a:=m) (by simp;omega) hi
  simpa using this
 have kc':∀c,m≤c→c<b→kP (A++x::(Y++B)) c=kP Y (c - m):=by
  intro c h1 h2
  have:=kc (c - m) (by omega)
  rwa [show m+(c - m)=c by omega] at this
 obtain ⟨⟨q1,q2⟩,q3,q4⟩:=Gm (fun h=>decide (kP (A++x::(Y++B)) h<kP (A++x::(Y++B)) a)) m b (fun c d h1 h2 h3 h4=>by
  simp only [decide_eq_true_eq,ka] at h4 ⊢
  rw [kc' c h1 (by omega)]
  rw [kc' d (by omega) h3] at h4
  have:=GL hY (show c - m≤d - m by omega) (by omega)
  omega) Y.length m b (by omega) (by omega) (Nat.le_refl _) (Nat.le_refl _) (fun c h1 h2=>by omega) (fun c h1 h2=>by omega)
 rw [←hr] at q1 q2 q3 q4
 simp only [decide_eq_true_eq,decide_eq_false_iff_not,ka] at q3 q4
 refine ⟨q1,q2,(hY.take _).app (List.pairwise_cons.2 ⟨fun q hq=>?_,hY.drop _⟩) fun p hp q hq=>?_⟩
 ·obtain ⟨i,i1,i2,i3⟩:=Bo hq
  have:=q4 (m+i) (by omega) (by omega)
  rw [kc i i2,i3] at this;omega
 ·obtain ⟨i,i1,i2,i3⟩:=O6 hp
  have h1:=q3 (m+i) (by omega) (by omega)
  rw [kc i i2,i3] at h1
  rcases List.mem_cons.1 hq with rfl|hq
  ·omega
  ·obtain ⟨j,j1,j2,j3⟩:=Bo hq
   have:=q4 (m+j) (by omega) (by omega)
   rw [kc j j2,j3] at this;omega
theorem adl {y:Pb} {A X B:List Pb} {a m:Nat} (hA:A.length=a) (hm:a+X.length=m) (hX:lM X) {r:Nat} (hr:r=bsr (fun h=>!decide (kP (A++(X++y::B)) m<kP (A++(X++y::B)) h)) X.length a m):
  a≤r∧r≤m∧lM (X.take (r - a)++y::X.drop (r - a)):=by
 have km:kP (A++(X++y::B)) m=y.1:=by
  have:=LY (A:=A++X) (X:=[y]) (T:=B) (a:=m) (i:=0) (by simp;omega) (by simp)
  simpa [kP] using this
 have kc:∀i,i<X.length→kP (A++(X++y::B)) (a+i)=kP X i:=fun i hi=>LY hA hi
 have kc':∀c,a≤c→c<m→kP (A++(X++y::B)) c=kP X (c - a):=by
  intro c h1 h2
  have:=kc (c - a) (by omega)
  rwa [show a+(c - a)=c by omega] at this
 obtain ⟨⟨q1,q2⟩,q3,q4⟩:=Gm (fun h=>!decide (kP (A++(X++y::B)) m<kP (A++(X++y::B)) h)) a m (fun c d h1 h2 h3 h4=>by
  simp only [Bool.not_eq_true',decide_eq_false_iff_not,km] at h4 ⊢
  rw [kc' c h1 (by omega)]
  rw [kc' d (by omega) h3] at h4
  have:=GL hX (show c - a≤d - a by omega) (by omega)
  omega) X.length a m (by omega) (by omega) (Nat.le_refl _) (Nat.le_refl _) (fun c h1 h2=>by omega) (fun c h1 h2=>by omega)
 rw [←hr] at q1 q2 q3 q4
 simp only [Bool.not_eq_true',Bool.not_eq_false',decide_eq_true_eq,decide_eq_false_iff_not,km] at q3 q4
 refine ⟨q1,q2,(hX.take _).app (List.pairwise_cons.2 ⟨fun q hq=>?_,hX.drop _⟩) fun p hp q hq=>?_⟩
 ·obtain ⟨i,i1,i2,i3⟩:=Bo hq
  have:=q4 (a+i) (by omega) (by omega)
  rw [kc i i2,i3] at this;omega
 ·obtain ⟨i,i1,i2,i3⟩:=O6 hp
  have h1:=q3 (a+i) (by omega) (by omega)
  rw [kc i i2,i3] at h1
  rcases List.mem_cons.1 hq with rfl|hq
  ·omega
  ·obtain ⟨j,j1,j2,j3⟩:=Bo hq
   have:=q4 (a+j) (by omega) (by omega)
   rw [kc j j2,j3] at this;omega
structure Cut (X Y:List Pb) (a m b mid r e:Nat):Prop where
 sum:r+e=mid+m
 r1:a≤r
 r2:r≤m
 e1:m≤e
 e2:e≤b
 low:∀p∈X.take (r - a)++Y.take (e - m),∀q∈X.drop (r - a)++Y.drop (e - m),p.1≤q.1
theorem agu {A X Y B:List Pb} {a m b mid n p r s0 r0 e:Nat} (hA:A.length=a) (hm:a+X.length=m) (hb:m+Y.length=b) (hX:lM X) (hY:lM Y) (h2:1≤X.length) (h3:1≤Y.length)
  (hmid:mid=(a+b) / 2) (hn:n=mid+m) (hp:p+1=n) (hs:(mid<m∧s0+b=n∧r0=mid)∨(m≤mid∧s0=a∧r0=m))
  (hr:r=bsr (fun h=>!decide (kP (A++(X++(Y++B))) (p - h)<kP (A++(X++(Y++B))) h)) (r0 - s0) s0 r0) (he:e+r=n):
  Cut X Y a m b mid r e∧a≤s0∧s0≤r0∧r0≤m∧∀c,s0≤c→c<r0→c≤p∧p - c<b:=by
 have bnd:a≤s0∧s0≤r0∧r0≤m∧∀c,s0≤c→c<r0→c≤p∧m≤p - c∧p - c<b:=by
  rcases hs with ⟨g1,g2,rfl⟩|⟨g1,rfl,rfl⟩<;>refine ⟨by omega,by omega,by omega,fun c c1 c2=>⟨by omega,by omega,by omega⟩⟩
 obtain ⟨b1,b2,b3,b4⟩:=bnd
 have kx:∀c,a≤c→c<m→kP (A++(X++(Y++B))) c=kP X (c - a):=by
  intro c h1 h2
  have:=LY (A:=A) (X:=X) (T:=Y++B) (i:=c - a) hA (by omega)
  rwa [show a+(c - a)=c by omega] at this
 have ky:∀c,m≤c→c<b→kP (A++(X++(Y++B))) c=kP Y (c - m):=by
  intro c h1 h2
  have:=LY (A:=A++X) (X:=Y) (T:=B) (a:=m) (i:=c - m) (by simp;omega) (by omega)
  rw [show m+(c - m)=c by omega,List.append_assoc] at this
  exact this
 have mx:∀c d,a≤c→c≤d→d<m→kP (A++(X++(Y++B))) c≤kP (A++(X++(Y++B))) d:=by
  intro c d h1 h2 h3
  rw [kx c h1 (by omega),kx d (by omega) h3]
  exact GL hX (by omega) (by omega)
 have my:∀c d,m≤c→c≤d→d<b→kP (A++(X++(Y++B))) c≤kP (A++(X++(Y++B))) d:=by
  intro c d h1 h2 h3
  rw [ky c h1 (by omega),ky d (by omega) h3]
  exact GL hY (by omega) (by omega)
 obtain ⟨⟨q1,q2⟩,q3,q4⟩:=Gm (fun h=>!decide (kP (A++(X++(Y++B))) (p - h)<kP (A++(X++(Y++B))) h)) s0 r0 (fun c d h1 h2 h3 h4=>by
  simp only [Bool.not_eq_true',decide_eq_false_iff_not] at h4 ⊢
  have w1:=b4 c h1 (by omega)
  have w2:=b4 d (by omega) h3
  have v1:=mx c d (by omega) h2 (by omega)
  have v2:=my (p - d) (p - c) (by omega) (by omega) (by omega)
  omega) (r0 - s0) s0 r0 (by omega) b2 (Nat.le_refl _) (Nat.le_refl _) (fun c h1 h2=>by omega) (fun c h1 h2=>by omega)
 rw [←hr] at q1 q2 q3 q4
 simp only [Bool.not_eq_true',Bool.not_eq_false',decide_eq_true_eq,decide_eq_false_iff_not] at q3 q4
 have hre:r+e=mid+m:=by omega
 have he1:m≤e:=by rcases hs with ⟨g1,g2,rfl⟩|⟨g1,rfl,rfl⟩<;>omega
 have he2:e≤b:=by rcases hs with ⟨g1,g2,rfl⟩|⟨g1,rfl,rfl⟩<;>omega
 refine ⟨⟨hre,by omega,by omega,he1,he2,fun u hu v hv=>?_⟩,b1,b2,b3,fun c c1 c2=>⟨(b4 c c1 c2).1,(b4 c c1 c2).2.2⟩⟩
 rcases List.mem_append.1 hu with hu|hu
 ·obtain ⟨i,i1,i2,i3⟩:=O6 hu
  have ki:=kx (a+i) (by omega) (by omega)
  rw [show a+i - a=i by omega,i3] at ki
  rcases List.mem_append.1 hv with hv|hv
  ·obtain ⟨j,j1,j2,j3⟩:=Bo hv
   rw [←i3,←j3];exact GL hX (by omega) j2
  ·obtain ⟨j,j1,j2,j3⟩:=Bo hv
   have kj:=ky (m+j) (by omega) (by omega)
   rw [show m+j - m=j by omega,j3] at kj
   have hsr:s0<r:=by rcases hs with ⟨g1,g2,rfl⟩|⟨g1,rfl,rfl⟩<;>omega
   have w:=q3 (r - 1) (by omega) (by omega)
   rw [show p - (r - 1)=e by omega] at w
   have v1:=mx (a+i) (r - 1) (by omega) (by omega) (by omega)
   have v2:=my e (m+j) (by omega) (by omega) (by omega)
   omega
 ·obtain ⟨i,i1,i2,i3⟩:=O6 hu
  have ki:=ky (m+i) (by omega) (by omega)
  rw [show m+i - m=i by omega,i3] at ki
  rcases List.mem_append.1 hv with hv|hv
  ·obtain ⟨j,j1,j2,j3⟩:=Bo hv
   have kj:=kx (a+j) (by omega) (by omega)
   rw [show a+j - a=j by omega,j3] at kj
   have hsr:r<r0:=by rcases hs with ⟨g1,g2,rfl⟩|⟨g1,rfl,rfl⟩<;>omega
   have w:=q4 r (by omega) hsr
   rw [show p - r=e - 1 by omega] at w
   have v1:=my (m+i) (e - 1) (by omega) (by omega) (by omega)
   have v2:=mx r (a+j) (by omega) (by omega) (by omega)
   omega
  ·obtain ⟨j,j1,j2,j3⟩:=Bo hv
   rw [←i3,←j3];exact GL hY (by omega) j2
end Go.Ai.Z
namespace Go.Ai.Z
def KX (s:St) (l t ver N:Nat) (D E:List Pb) (a m b:Nat):Prop:=∀cx:Ctx,cx.lim≤l→
 ah P0 (.fn (.func aI) [] []) [.sk l ver 2 0 N,.i .i64 a,.i .i64 m,.i .i64 b,(.fn (.func ai) [] [])] (s.set l (obP t ver D)) cx=.ret (.tu []) (s.set l (obP t ver E))
section
variable {s:St} {l t ver:Nat} (hl:l<s.length)
include hl
theorem aa3 (N:Nat) (hN:N≤1000000) {x:Pb} {A Y B:List Pb} {a m b:Nat} (hA:A.length=a) (hm:a+1=m) (hb:m+Y.length=b) (hD:(A++x::(Y++B)).length=N) (hR:yO (A++x::(Y++B))) (hY:lM Y):
  ∃Z,Z.Perm (x::Y)∧lM Z∧KX s l t ver N (A++x::(Y++B)) (A++(Z++B)) a m b:=by
 have hlen:=hD
 simp only [List.length_append,List.length_cons] at hlen
 obtain ⟨r,hr⟩:∃r,r=bsr (fun h=>decide (kP (A++x::(Y++B)) h<kP (A++x::(Y++B)) a)) Y.length m b:=⟨_,rfl⟩
 obtain ⟨q1,q2,q3⟩:=aa9 hA hm hb hY hr
 refine ⟨Y.take (r - m)++x::Y.drop (r - m), ?_,q3,fun cx hcx=>?_⟩
 ·exact List.perm_middle.trans (by rw [List.take_append_drop])
 have e1:=YZ (s:=s) (t:=t) (ver:=ver) hl (cx:=⟨cx.lim,s.length⟩) hcx (A++x::(Y++B)) hR N hD hN a (by omega) Y.length m b (by omega) (by omega) (by omega)
 rw [←hr] at e1
 have hD2:(A++x::(Y.take (r - m)++(Y.drop (r - m)++B)))=A++x::(Y++B):=by rw [←List.append_assoc (Y.take _),List.take_append_drop]
 obtain ⟨j,e2⟩:=afl (s:=s) (t:=t) (ver:=ver) hl (cx:=⟨cx.lim,s.length⟩) hcx x r N hN (Y.take (r - m)) A (Y.drop (r - m)++B) a hA (by rw [List.length_take];omega) (by rw [hD2];exact hD)
 rw [hD2] at e2
 have hD3:A++(Y.take (r - m)++x::Y.drop (r - m)++B)=A++(Y.take (r - m)++x::(Y.drop (r - m)++B)):=by simp
 rw [hD3]
 have w1:IntKind.i64.wrap ((m:Int) - a)=1:=by rw [w64 (by omega) (by omega)];omega
 refine jF (by simp) ?_
 generalize obP t ver (A++x::(Y++B))=O0 at *
 generalize obP t ver (A++(Y.take (r - m)++x::(Y.drop (r - m)++B)))=O1 at *
 clear hD2 hD3 q3 hr hR hY
 simp [af,bP,w1,e1,e2]
theorem YO (N:Nat) (hN:N≤1000000) {y:Pb} {A X B:List Pb} {a m b:Nat} (hA:A.length=a) (hm:a+X.length=m) (hb:m+1=b) (h2:2≤X.length) (hD:(A++(X++y::B)).length=N) (hR:yO (A++(X++y::B))) (hX:lM X):
  ∃Z,Z.Perm (X++[y])∧lM Z∧KX s l t ver N (A++(X++y::B)) (A++(Z++B)) a m b:=by
 have hlen:=hD
 simp only [List.length_append,List.length_cons] at hlen
 obtain ⟨r,hr⟩:∃r,r=bsr (fun h=>!decide (kP (A++(X++y::B)) m<kP (A++(X++y::B)) h)) X.length a m:=⟨_,rfl⟩
 obtain ⟨q1,q2,q3⟩:=adl hA hm hX hr
 refine ⟨X.take (r - a)++y::X.drop (r - a), ?_,q3,fun cx hcx=>?_⟩
 ·refine List.perm_middle.trans ?_
  rw [List.take_append_drop]
  exact (List.perm_append_comm (l₁:=[y]) (l₂:=X))
 have e1:=YX (s:=s) (t:=t) (ver:=ver) hl (cx:=⟨cx.lim,s.length⟩) hcx (A++(X++y::B)) hR N hD hN m (by omega) X.length a m (by omega) (by omega) (by omega)
 rw [←hr] at e1
 have hD2:(A++X.take (r - a))++(X.drop (r - a)++y::B)=A++(X++y::B):=by rw [List.append_assoc,←List.append_assoc (X.take _),List.take_append_drop]
 obtain ⟨j,e2⟩:=afm (s:=s) (t:=t) (ver:=ver) hl (cx:=⟨cx.lim,s.length⟩) hcx y r N hN (m - r) (X.drop (r - a)) (A++X.take (r - a)) B m (by rw [List.length_drop];omega) (by rw [List.length_append,List.length_take];omega) (by omega) (by rw [hD2];exact hD)
 rw [hD2] at e2
 have hD3:A++(X.take (r - a)++y::X.drop (r - a)++B)=A++X.take (r - a)++y::(X.drop (r - a)++B):=by simp
 rw [hD3]
 have w1:IntKind.i64.wrap ((m:Int) - a)=(m:Int) - a:=by rw [w64 (by omega) (by omega)]
 have n1:¬(m:Int) - a=1:=by omega
 have w2:IntKind.i64.wrap ((b:Int) - m)=1:=by rw [w64 (by omega) (by omega)];omega
 refine jF (by simp) ?_
 generalize obP t ver (A++(X++y::B))=O0 at *
 generalize obP t ver (A++X.take (r - a)++y::(X.drop (r - a)++B))=O1 at *
 clear hD2 hD3 q3 hr hR hX
 simp [af,bP,w1,n1,w2,e1,e2]
set_option maxHeartbeats 4000000 in
theorem YN (N:Nat) {a m b mid n p s0 r0 r e:Nat} (hN:N≤1000000) (hb:b≤N) (ham:a+2≤m) (hmb:m+2≤b) (hmid:mid=(a+b) / 2) (hn:n=mid+m) (hp:p+1=n) (hs:(mid<m∧s0+b=n∧r0=mid)∨(m≤mid∧s0=a∧r0=m)) (he:e+r=n) (h1:r≤m) {O0 O1 O2 O3:dZ} {cx:Ctx}
  (eL:eX (aC P0.glob (ah P0) ⟨cx.lim,s.length⟩ false bC) [0,1,2,3,4,18,19,20,21,22]
   [(0,.v (.sk l ver 2 0 N)),(1,.v (.i .i64 a)),(2,.v (.i .i64 m)),(3,.v (.i .i64 b)),(4,.v (.fn (.func ai) [] [])),(18,.v (.i .i64 mid)),(19,.v (.i .i64 n)),(20,.v (.i .i64 s0)),(21,.v (.i .i64 r0)),(22,.v (.i .i64 p))] (s.set l O0)=
   .exit 8 [(0,.v (.sk l ver 2 0 N)),(1,.v (.i .i64 a)),(2,.v (.i .i64 m)),(3,.v (.i .i64 b)),(4,.v (.fn (.func ai) [] [])),(18,.v (.i .i64 mid)),(19,.v (.i .i64 n)),(20,.v (.i .i64 r)),(21,.v (.i .i64 r)),(22,.v (.i .i64 p)),(151,.v (.b false))] (s.set l O0))
  (hA:(r<m∧m<e∧∀cx:Ctx,cx.lim≤l→ah P0 (.fn (.func dH) [] []) [.sk l ver 2 0 N,.i .i64 r,.i .i64 m,.i .i64 e,(.fn (.func ai) [] [])] (s.set l O0) cx=.ret (.tu []) (s.set l O1))∨(¬(r<m∧m<e)∧O1=O0))
  (hB:(a<r∧r<mid∧∀cx:Ctx,cx.lim≤l→ah P0 (.fn (.func aI) [] []) [.sk l ver 2 0 N,.i .i64 a,.i .i64 r,.i .i64 mid,(.fn (.func ai) [] [])] (s.set l O1) cx=.ret (.tu []) (s.set l O2))∨(¬(a<r∧r<mid)∧O2=O1))
  (hC:(mid<e∧e<b∧∀cx:Ctx,cx.lim≤l→ah P0 (.fn (.func aI) [] []) [.sk l ver 2 0 N,.i .i64 mid,.i .i64 e,.i .i64 b,(.fn (.func ai) [] [])] (s.set l O2) cx=.ret (.tu []) (s.set l O3))∨(¬(mid<e∧e<b)∧O3=O2)) (hcx:cx.lim≤l):
  ah P0 (.fn (.func aI) [] []) [.sk l ver 2 0 N,.i .i64 a,.i .i64 m,.i .i64 b,(.fn (.func ai) [] [])] (s.set l O0) cx=.ret (.tu []) (s.set l O3):=by
 have w1:IntKind.i64.wrap ((m:Int) - a)=(m:Int) - a:=by rw [w64 (by omega) (by omega)]
 have n1:¬(m:Int) - a=1:=by omega
 have w2:IntKind.i64.wrap ((b:Int) - m)=(b:Int) - m:=by rw [w64 (by omega) (by omega)]
 have n2:¬(b:Int) - m=1:=by omega
 have w3:IntKind.i64.wrap ((a:Int)+b)=(a:Int)+b:=w64 (by omega) (by omega)
 have w4:IntKind.u64.wrap ((a:Int)+b)=(a:Int)+b:=IntWalk.u64_in _ ⟨by omega,by omega⟩
 have hf:=half (i:=a) (j:=b)
 rw [←hmid] at hf
 have w5:IntKind.i64.wrap (mid:Int)=(mid:Int):=w64 (by omega) (by omega)
 have w5':IntKind.u64.wrap (mid:Int)=(mid:Int):=IntWalk.u64_in _ ⟨by omega,by omega⟩
 have w6:IntKind.i64.wrap ((mid:Int)+m)=(n:Int):=by rw [w64 (by omega) (by omega)];omega
 have w7:IntKind.i64.wrap ((n:Int) - 1)=(p:Int):=by rw [w64 (by omega) (by omega)];omega
 have w8:IntKind.i64.wrap ((n:Int) - r)=(e:Int):=by rw [w64 (by omega) (by omega)];omega
 refine jF (by simp) ?_
 have tri:∀{P Q R S:Prop} [Decidable P],(P∧Q∧R)∨(¬(P∧Q)∧S)→(P∧Q∧R∧True)∨(¬P∧True∧True∧S)∨(P∧¬Q∧True∧S):=by
  intro P Q R S _ h
  rcases h with ⟨h1,h2,h3⟩|⟨h1,h2⟩
  ·exact .inl ⟨h1,h2,h3,trivial⟩
  ·by_cases hp:P
   ·exact .inr (.inr ⟨hp,fun hq=>h1 ⟨hp,hq⟩,trivial,h2⟩)
   ·exact .inr (.inl ⟨hp,trivial,trivial,h2⟩)
 have hA:=tri hA
 have hB:=tri hB
 have hC:=tri hC
 obtain ⟨w9,g1'⟩:(mid<m→IntKind.i64.wrap ((n:Int) - b)=(s0:Int)∧r0=mid)∧(¬mid<m→s0=a∧r0=m):=⟨fun h=>⟨by rw [w64 (by omega) (by omega)];omega,by omega⟩,fun h=>by omega⟩
 clear hs
 by_cases g1:mid<m
 case pos=>
  obtain ⟨w9,rfl⟩:=w9 g1
  rcases hA with ⟨a1,a2,e1,-⟩|⟨a1,a2,e1,rfl⟩|⟨a1,a2,e1,rfl⟩<;>rcases hB with ⟨b1,b2,e2,-⟩|⟨b1,b2,e2,rfl⟩|⟨b1,b2,e2,rfl⟩<;>rcases hC with ⟨c1,c2,e3,-⟩|⟨c1,c2,e3,rfl⟩|⟨c1,c2,e3,rfl⟩
  all_goals
   first
   | (exfalso;omega)
   | simp [af,bP,w1,n1,w2,n2,w3,w4,hf,w5,w5',w6,w7,w8,w9,g1,eL,hcx,a1,a2,e1,b1,b2,e2,c1,c2,e3]
 case neg=>
  obtain ⟨rfl,rfl⟩:=g1' g1
  rcases hA with ⟨a1,a2,e1,-⟩|⟨a1,a2,e1,rfl⟩|⟨a1,a2,e1,rfl⟩<;>rcases hB with ⟨b1,b2,e2,-⟩|⟨b1,b2,e2,rfl⟩|⟨b1,b2,e2,rfl⟩<;>rcases hC with ⟨c1,c2,e3,-⟩|⟨c1,c2,e3,rfl⟩|⟨c1,c2,e3,rfl⟩
  all_goals
   first
   | (exfalso;omega)
   | simp [af,bP,w1,n1,w2,n2,w3,w4,hf,w5,w5',w6,w7,w8,g1,eL,hcx,a1,a2,e1,b1,b2,e2,c1,c2,e3]
end
end Go.Ai.Z
namespace Go.Ai.Z
theorem Zy (f:Nat→Bool):∀k i j,i≤j→bsr f k i j≤j
 | 0,i,j,h=>h
 | k+1,i,j,h=>by
  unfold bsr
  split
  ·split
   ·exact Zy f k _ _ (by omega)
   ·exact Nat.le_trans (Zy f k _ _ (by omega)) (by omega)
  ·exact h
theorem Nr {X Y:List Pb} (hX:lM X) (hY:lM Y) (h:X.length=0∨Y.length=0):lM (X++Y):=by
 rcases h with h|h
 ·rw [List.eq_nil_of_length_eq_zero h];exact hY
 ·rw [List.eq_nil_of_length_eq_zero h,List.append_nil];exact hX
section
variable {s:St} {l t ver:Nat} (hl:l<s.length)
include hl
set_option maxHeartbeats 4000000 in
theorem Ei (N:Nat) (hN:N≤1000000):∀(k:Nat) (X Y A B:List Pb) (a m b:Nat),X.length+Y.length≤k→1≤X.length→1≤Y.length→A.length=a→a+X.length=m→m+Y.length=b→(A++(X++(Y++B))).length=N→yO (A++(X++(Y++B)))→lM X→lM Y→
  ∃Z,Z.Perm (X++Y)∧lM Z∧KX s l t ver N (A++(X++(Y++B))) (A++(Z++B)) a m b
 | 0,X,Y,A,B,a,m,b,hk,h1,h2,hA,hm,hb,hD,hR,hX,hY=>by omega
 | k+1,X,Y,A,B,a,m,b,hk,h1,h2,hA,hm,hb,hD,hR,hX,hY=>by
  by_cases hX1:X.length=1
  ·obtain ⟨x,rfl⟩:=List.length_eq_one_iff.1 hX1
   exact aa3 hl N hN hA hm hb hD hR hY
  by_cases hY1:Y.length=1
  ·obtain ⟨y,rfl⟩:=List.length_eq_one_iff.1 hY1
   exact YO hl N hN hA hm hb (by omega) hD hR hX
  have hlen:=hD
  simp only [List.length_append] at hlen
  obtain ⟨mid,hmid⟩:∃q,q=(a+b) / 2:=⟨_,rfl⟩
  obtain ⟨n,hn⟩:∃q,q=mid+m:=⟨_,rfl⟩
  obtain ⟨p,hp⟩:∃q,q+1=n:=⟨n - 1,by omega⟩
  obtain ⟨s0,r0,hs⟩:∃s0 r0,(mid<m∧s0+b=n∧r0=mid)∨(m≤mid∧s0=a∧r0=m):=by
   by_cases h:mid<m
   ·exact ⟨n - b,mid,.inl ⟨h,by omega,rfl⟩⟩
   ·exact ⟨a,m,.inr ⟨by omega,rfl,rfl⟩⟩
  obtain ⟨r,hr⟩:∃r,r=bsr (fun h=>!decide (kP (A++(X++(Y++B))) (p - h)<kP (A++(X++(Y++B))) h)) (r0 - s0) s0 r0:=⟨_,rfl⟩
  have hsr:s0≤r0∧r0≤m:=by omega
  have hrr:r≤r0:=by rw [hr];exact Zy _ _ _ _ hsr.1
  obtain ⟨e,he⟩:∃e,e+r=n:=⟨n - r,by omega⟩
  obtain ⟨hc,c1,c2,c3,c4⟩:=agu hA hm hb hX hY h1 h2 hmid hn hp hs hr he
  obtain ⟨u1,u2,u3,u4,u5,u6⟩:=hc
  have eL:=fun (cx:Ctx) (hcx:cx.lim≤l)=>YW (s:=s) (t:=t) (ver:=ver) hl (cx:=⟨cx.lim,s.length⟩) hcx (A++(X++(Y++B))) hR N hD hN a m b mid n p (by omega) (r0 - s0) s0 r0 (by omega) hsr.1 (by omega) (fun c k1 k2=>by have:=c4 c k1 k2;omega)
  rw [←hr] at eL
  obtain ⟨X1,hX1e⟩:∃q,q=X.take (r - a):=⟨_,rfl⟩
  obtain ⟨X2,hX2e⟩:∃q,q=X.drop (r - a):=⟨_,rfl⟩
  obtain ⟨Y1,hY1e⟩:∃q,q=Y.take (e - m):=⟨_,rfl⟩
  obtain ⟨Y2,hY2e⟩:∃q,q=Y.drop (e - m):=⟨_,rfl⟩
  have hXX:X=X1++X2:=by rw [hX1e,hX2e,List.take_append_drop]
  have hYY:Y=Y1++Y2:=by rw [hY1e,hY2e,List.take_append_drop]
  have lX1:X1.length=r - a:=by rw [hX1e,List.length_take];omega
  have lX2:X2.length=m - r:=by rw [hX2e,List.length_drop];omega
  have lY1:Y1.length=e - m:=by rw [hY1e,List.length_take];omega
  have lY2:Y2.length=b - e:=by rw [hY2e,List.length_drop];omega
  have sX1:lM X1:=by rw [hX1e];exact hX.take _
  have sX2:lM X2:=by rw [hX2e];exact hX.drop _
  have sY1:lM Y1:=by rw [hY1e];exact hY.take _
  have sY2:lM Y2:=by rw [hY2e];exact hY.drop _
  rw [←hX1e,←hX2e,←hY1e,←hY2e] at u6
  clear hX1e hX2e hY1e hY2e hr hX hY
  have e0:A++(X++(Y++B))=(A++X1)++(X2++(Y1++(Y2++B))):=by rw [hXX,hYY];simp
  have e1:(A++X1)++(Y1++(X2++(Y2++B)))=A++(X1++(Y1++(X2++(Y2++B)))):=by simp
  have hlX:X.length=X1.length+X2.length:=by rw [hXX];simp
  have hlY:Y.length=Y1.length+Y2.length:=by rw [hYY];simp
  rw [e0] at eL hR hD ⊢
  have hR1:yO (A++(X1++(Y1++(X2++(Y2++B))))):=fun q hq=>hR q (by
   simp only [List.mem_append] at hq ⊢
   rcases hq with h|h|h|h|h|h<;>simp [h])
  have hrot:(r<m∧m<e∧∀cx:Ctx,cx.lim≤l→ah P0 (.fn (.func dH) [] []) [.sk l ver 2 0 N,.i .i64 r,.i .i64 m,.i .i64 e,.fn (.func ai) [] []] (s.set l (obP t ver ((A++X1)++(X2++(Y1++(Y2++B)))))) cx=.ret (.tu []) (s.set l (obP t ver ((A++X1)++(Y1++(X2++(Y2++B)))))))∨
    (¬(r<m∧m<e)∧obP t ver ((A++X1)++(Y1++(X2++(Y2++B))))=obP t ver ((A++X1)++(X2++(Y1++(Y2++B))))):=by
   by_cases h:r<m∧m<e
   ·exact .inl ⟨h.1,h.2,fun cx hcx=>adV hl hcx r m e N hN (A++X1) X2 Y1 (Y2++B) (by simp;omega) (by omega) (by omega) (by omega) (by omega) hD⟩
   ·refine .inr ⟨h, ?_⟩
    have:X2.length=0∨Y1.length=0:=by omega
    rcases this with h|h<;>rw [List.eq_nil_of_length_eq_zero h]<;>simp
  obtain ⟨Z1,z1,z2,z3⟩:∃Z1,Z1.Perm (X1++Y1)∧lM Z1∧((a<r∧r<mid∧KX s l t ver N (A++(X1++(Y1++(X2++(Y2++B))))) (A++(Z1++(X2++(Y2++B)))) a r mid)∨
    (¬(a<r∧r<mid)∧Z1=X1++Y1)):=by
   by_cases h:a<r∧r<mid
   ·obtain ⟨Z,q1,q2,q3⟩:=Ei N hN k X1 Y1 A (X2++(Y2++B)) a r mid (by omega) (by omega) (by omega) hA (by omega) (by omega) (by simp;omega) hR1 sX1 sY1
    exact ⟨Z,q1,q2,.inl ⟨h.1,h.2,q3⟩⟩
   ·exact ⟨X1++Y1,.refl _,Nr sX1 sY1 (by omega),.inr ⟨h,rfl⟩⟩
  have lZ1:Z1.length=mid - a:=by have:=z1.length_eq;simp at this;omega
  have hR2:yO ((A++Z1)++(X2++(Y2++B))):=fun q hq=>hR1 q (by
   simp only [List.mem_append] at hq ⊢
   rcases hq with (h|h)|h|h|h
   ·simp [h]
   ·have:=z1.mem_iff.1 h
    simp only [List.mem_append] at this
    rcases this with h|h<;>simp [h]
   all_goals simp [h])
  obtain ⟨Z2,y1,y2,y3⟩:∃Z2,Z2.Perm (X2++Y2)∧lM Z2∧((mid<e∧e<b∧KX s l t ver N ((A++Z1)++(X2++(Y2++B))) ((A++Z1)++(Z2++B)) mid e b)∨
    (¬(mid<e∧e<b)∧Z2=X2++Y2)):=by
   by_cases h:mid<e∧e<b
   ·obtain ⟨Z,q1,q2,q3⟩:=Ei N hN k X2 Y2 (A++Z1) B mid e b (by omega) (by omega) (by omega) (by simp;omega) (by omega) (by omega) (by simp;omega) hR2 sX2 sY2
    exact ⟨Z,q1,q2,.inl ⟨h.1,h.2,q3⟩⟩
   ·exact ⟨X2++Y2,.refl _,Nr sX2 sY2 (by omega),.inr ⟨h,rfl⟩⟩
  refine ⟨Z1++Z2, ?_,z2.app y2 fun u hu v hv=>u6 u (z1.mem_iff.1 hu) v (y1.mem_iff.1 hv),fun cx hcx=>?_⟩
  ·refine (z1.append y1).trans ?_
   rw [hXX,hYY]
   have h1:X1++Y1++(X2++Y2)=X1++((Y1++X2)++Y2):=by simp
   have h2:X1++X2++(Y1++Y2)=X1++((X2++Y1)++Y2):=by simp
   rw [h1,h2]
   exact List.Perm.append_left X1 (List.Perm.append_right Y2 List.perm_append_comm)
  have e3:A++(Z1++Z2++B)=(A++Z1)++(Z2++B):=by simp
  rw [e3]
  refine YN hl N hN (by omega) (by omega) (by omega) hmid hn hp hs he (by omega) (eL cx hcx) hrot (O2:=obP t ver ((A++Z1)++(X2++(Y2++B)))) ?_ ?_ hcx
  ·rcases z3 with ⟨q1,q2,q3⟩|⟨q1,q2⟩
   ·refine .inl ⟨q1,q2,fun cx hcx=>?_⟩
    have:=q3 cx hcx
    rw [e1,List.append_assoc A Z1]
    exact this
   ·exact .inr ⟨q1,by rw [q2];simp⟩
  ·rcases y3 with ⟨q1,q2,q3⟩|⟨q1,q2⟩
   ·exact .inl ⟨q1,q2,q3⟩
   ·exact .inr ⟨q1,by rw [q2];simp⟩
end
end Go.Ai.Z
namespace Go.Ai.Z
section
variable {s:St} {l t ver:Nat} (hl:l<s.length) {cx:Ctx} (hcx:cx.lim≤l)
include hl hcx
theorem ada (a b N:Nat) (hN:N≤1000000):∀(W X A B:List Pb) (i:Nat),A.length=a→a+X.length=i→i+W.length=b→(A++(X++(W++B))).length=N→yO (A++(X++(W++B)))→lM X→
  ∃(j:Int) (Z:List Pb),eX (aC P0.glob (ah P0) cx false aN) [0,1,2,3,8] [(0,.v (.sk l ver 2 0 N)),(1,.v (.i .i64 a)),(2,.v (.i .i64 b)),(3,.v (.fn (.func ai) [] [])),(8,.v (.i .i64 i))] (s.set l (obP t ver (A++(X++(W++B)))))=
    .exit 0 [(0,.v (.sk l ver 2 0 N)),(1,.v (.i .i64 a)),(2,.v (.i .i64 b)),(3,.v (.fn (.func ai) [] [])),(8,.v (.i .i64 j)),(14,.v (.b false))] (s.set l (obP t ver (A++(Z++B))))∧Z.Perm (X++W)∧lM Z
 | [],X,A,B,i,hA,hi,hb,hD,hR,hX=>by
  have hlt:¬(i:Int)<(b:Int):=by simp at hb;omega
  refine ⟨i,X,ak fun K hK=>?_,by simp,hX⟩
  simp [aN,hlt]
 | y::W,X,A,B,i,hA,hi,hb,hD,hR,hX=>by
  have hlen:=hD
  simp only [List.length_append,List.length_cons] at hlen hb
  have hlt:(i:Int)<(b:Int):=by omega
  have e0:A++(X++(y::W++B))=A++(X++y::(W++B)):=rfl
  rw [e0] at hD hR ⊢
  obtain ⟨j1,Z1,q1,q2,q3⟩:=ac9 (s:=s) (t:=t) (ver:=ver) hl (cx:=cx) hcx y a b i N hN X.length X A (W++B) i rfl hA hi hD hR
  have lZ:=q2.length_eq
  simp only [List.length_append,List.length_cons,List.length_nil] at lZ
  have hR1:yO (A++(Z1++(W++B))):=fun p hp=>hR p (by
   simp only [List.mem_append,List.mem_cons] at hp ⊢
   rcases hp with h|h|h|h
   ·simp [h]
   ·have:=q2.mem_iff.1 h
    simp at this
    rcases this with h|h<;>simp [h]
   all_goals simp [h])
  obtain ⟨j,Z,ih,r1,r2⟩:=ada a b N hN W Z1 A B (i+1) hA (by omega) (by omega) (by simp;omega) hR1 (q3 hX)
  have hw:=wI (i:=i) (by omega)
  refine ⟨j,Z,ak fun K hK=>?_,r1.trans ?_,r2⟩
  ·rw [←hK,show ((i+1:Nat):Int)=(i:Int)+1 from rfl] at ih
   clear hK hR hR1
   generalize A++(X++y::(W++B))=D0 at *
   generalize A++(Z1++(W++B))=D1 at *
   simp [aN,hlt,q1,hw]
   exact ih
  ·refine (q2.append_right W).trans ?_
   rw [List.append_assoc];exact .refl _
theorem Om (a b N:Nat) (hN:N≤1000000) (W A B:List Pb) (hA:A.length=a) (hb:a+W.length=b) (hD:(A++(W++B)).length=N) (hR:yO (A++(W++B))):
  ∃Z:List Pb,Z.Perm W∧lM Z∧ah P0 (.fn (.func bn) [] []) [.sk l ver 2 0 N,.i .i64 a,.i .i64 b,(.fn (.func ai) [] [])] (s.set l (obP t ver (A++(W++B)))) cx=.ret (.tu []) (s.set l (obP t ver (A++(Z++B)))):=by
 have hlen:=hD
 simp only [List.length_append] at hlen
 have hw:=wI (i:=a) (by omega)
 cases W with
 | nil=>
  refine ⟨[],.refl _,List.Pairwise.nil, ?_⟩
  have hlt:¬(a:Int)+1<(b:Int):=by simp at hb;omega
  have hL:eX (aC P0.glob (ah P0) ⟨cx.lim,s.length⟩ false aN) [0,1,2,3,8] [(0,.v (.sk l ver 2 0 N)),(1,.v (.i .i64 a)),(2,.v (.i .i64 b)),(3,.v (.fn (.func ai) [] [])),(8,.v (.i .i64 ((a:Int)+1)))] (s.set l (obP t ver (A++([]++B))))=
   .exit 0 [(0,.v (.sk l ver 2 0 N)),(1,.v (.i .i64 a)),(2,.v (.i .i64 b)),(3,.v (.fn (.func ai) [] [])),(8,.v (.i .i64 ((a:Int)+1))),(14,.v (.b false))] (s.set l (obP t ver (A++([]++B)))):=by
   refine ak fun K hK=>?_
   simp [aN,hlt]
  refine iL (by simp) ?_
  generalize A++([]++B)=D0 at *
  simp [af,bQ,hw,hL]
 | cons w W=>
  simp only [List.length_cons] at hb hlen
  have e0:A++(w::W++B)=A++([w]++(W++B)):=rfl
  rw [e0] at hD hR ⊢
  obtain ⟨j,Z,h1,h2,h3⟩:=ada (s:=s) (t:=t) (ver:=ver) hl (cx:=⟨cx.lim,s.length⟩) hcx a b N hN W [w] A B (a+1) hA rfl (by omega) hD hR (by simp [lM])
  refine ⟨Z,h2,h3, ?_⟩
  refine iL (by simp) ?_
  rw [show ((a+1:Nat):Int)=(a:Int)+1 from rfl] at h1
  generalize A++([w]++(W++B))=D0 at *
  simp [af,bQ,hw,h1]
end
@[simp] theorem agn {env:Env} {l ver sz o n:Nat}:AL env (some (.v (.sk l ver sz o n)))=none:=rfl
inductive Chs (bs:Nat):List Pb→Prop
 | nil:Chs bs []
 | cons (X R:List Pb):X.length=bs→lM X→Chs bs R→Chs bs (X++R)
theorem Chs.snoc {bs:Nat} {Q Z:List Pb} (h:Chs bs Q) (h1:Z.length=bs) (h2:lM Z):Chs bs (Q++Z):=by
 induction h with
 | nil=>have:=Chs.cons Z [] h1 h2 .nil;simpa using this
 | cons X R k1 k2 _ ih=>rw [List.append_assoc];exact .cons X _ k1 k2 ih
section
variable {s:St} {l t ver:Nat} (hl:l<s.length) {cx:Ctx} (hcx:cx.lim≤l)
include hl hcx
theorem agj (N:Nat) (hN:N≤1000000):∀(k:Nat) (P W:List Pb) (a b:Nat),W.length≤k→P.length=a→a+20=b→(P++W).length=N→yO (P++W)→Chs 20 P→
  ∃(j:Int) (P' W':List Pb),eX (aC P0.glob (ah P0) cx false bK) [0,1,2,6,7,8] [(0,.v (.sk l ver 2 0 N)),(1,.v (.i .i64 N)),(2,.v (.fn (.func ai) [] [])),(6,.v (.i .i64 20)),(7,.v (.i .i64 a)),(8,.v (.i .i64 b))] (s.set l (obP t ver (P++W)))=
    .exit 0 [(0,.v (.sk l ver 2 0 N)),(1,.v (.i .i64 N)),(2,.v (.fn (.func ai) [] [])),(6,.v (.i .i64 20)),(7,.v (.i .i64 P'.length)),(8,.v (.i .i64 j)),(13,.v (.b false))] (s.set l (obP t ver (P'++W')))∧Chs 20 P'∧W'.length<20∧(P'++W').Perm (P++W):=by
 intro k
 induction k with
 | zero=>
  intro P W a b h0 h1 h2 h3 h4 h5
  have hlen:=h3
  simp only [List.length_append] at hlen
  have hlt:¬(b:Int)≤(N:Int):=by omega
  refine ⟨b,P,W,ak fun K hK=>?_,h5,by omega,.refl _⟩
  subst h1
  simp [bK,hlt]
 | succ k ih=>
  intro P W a b h0 h1 h2 h3 h4 h5
  have hlen:=h3
  simp only [List.length_append] at hlen
  by_cases hb:b≤N
  ·have hlt:(b:Int)≤(N:Int):=by omega
   obtain ⟨X,W2,hW,hX⟩:∃X W2,W=X++W2∧X.length=20:=⟨W.take 20,W.drop 20,by simp,by rw [List.length_take];omega⟩
   have lW:W.length=X.length+W2.length:=by rw [hW];simp
   rw [hW] at h3 h4 ⊢
   obtain ⟨Z,z1,z2,z3⟩:=Om (s:=s) (t:=t) (ver:=ver) hl (cx:=cx) hcx a b N hN X P W2 h1 (by omega) h3 h4
   have lZ:=z1.length_eq
   have hR1:yO ((P++Z)++W2):=fun p hp=>h4 p (by
    simp only [List.mem_append] at hp ⊢
    rcases hp with (h|h)|h
    ·simp [h]
    ·have:=z1.mem_iff.1 h
     simp [this]
    ·simp [h])
   obtain ⟨j,P',W',i1,i2,i3,i4⟩:=ih (P++Z) W2 b (b+20) (by omega) (by simp;omega) rfl (by simp;omega) hR1 (h5.snoc (by omega) z2)
   have hw:IntKind.i64.wrap ((b:Int)+20)=(b:Int)+20:=w64 (by omega) (by omega)
   refine ⟨j,P',W',ak fun K hK=>?_,i2,i3,i4.trans ?_⟩
   ·rw [←hK,show ((b+20:Nat):Int)=(b:Int)+20 from rfl,List.append_assoc] at i1
    clear hK h4 hR1
    generalize P++(X++W2)=D0 at *
    generalize P++(Z++W2)=D1 at *
    generalize P'++W'=D2 at *
    generalize P'.length=lp at *
    simp [bK,hlt,z3,hw]
    exact i1
   ·rw [List.append_assoc]
    exact List.Perm.append_left P (z1.append_right W2)
  ·have hlt:¬(b:Int)≤(N:Int):=by omega
   refine ⟨b,P,W,ak fun K hK=>?_,h5,by omega,.refl _⟩
   subst h1
   simp [bK,hlt]
theorem agh (N bs:Nat) (hN:N≤1000000) (hbs:1≤bs) (hbN:bs<N) (W:List Pb) (hW:W.length<bs):∀(k:Nat) (R Q:List Pb) (a b:Nat),R.length≤k→Chs bs R→Chs (2 * bs) Q→Q.length=a→a+2 * bs=b→(Q++(R++W)).length=N→yO (Q++(R++W))→
  ∃(j:Int) (Q' R':List Pb),eX (aC P0.glob (ah P0) cx false eF) [0,1,2,6,7,8] [(0,.v (.sk l ver 2 0 N)),(1,.v (.i .i64 N)),(2,.v (.fn (.func ai) [] [])),(6,.v (.i .i64 bs)),(7,.v (.i .i64 a)),(8,.v (.i .i64 b))] (s.set l (obP t ver (Q++(R++W))))=
    .exit 4 [(0,.v (.sk l ver 2 0 N)),(1,.v (.i .i64 N)),(2,.v (.fn (.func ai) [] [])),(6,.v (.i .i64 bs)),(7,.v (.i .i64 Q'.length)),(8,.v (.i .i64 j)),(35,.v (.b false))] (s.set l (obP t ver (Q'++(R'++W))))∧Chs (2 * bs) Q'∧(R'=[]∨(R'.length=bs∧lM R'))∧(Q'++R').Perm (Q++R):=by
 intro k
 have stop:∀(R Q:List Pb) (a b:Nat),(R=[]∨(R.length=bs∧lM R))→Chs (2 * bs) Q→Q.length=a→¬b≤N→∃(j:Int) (Q' R':List Pb),eX (aC P0.glob (ah P0) cx false eF) [0,1,2,6,7,8] [(0,.v (.sk l ver 2 0 N)),(1,.v (.i .i64 N)),(2,.v (.fn (.func ai) [] [])),(6,.v (.i .i64 bs)),(7,.v (.i .i64 a)),(8,.v (.i .i64 b))] (s.set l (obP t ver (Q++(R++W))))=
   .exit 4 [(0,.v (.sk l ver 2 0 N)),(1,.v (.i .i64 N)),(2,.v (.fn (.func ai) [] [])),(6,.v (.i .i64 bs)),(7,.v (.i .i64 Q'.length)),(8,.v (.i .i64 j)),(35,.v (.b false))] (s.set l (obP t ver (Q'++(R'++W))))∧Chs (2 * bs) Q'∧(R'=[]∨(R'.length=bs∧lM R'))∧(Q'++R').Perm (Q++R):=by
  intro R Q a b h1 h2 h3 h4
  have hlt:¬(b:Int)≤(N:Int):=by omega
  refine ⟨b,Q,R,ak fun K hK=>?_,h2,h1,.refl _⟩
  subst h3
  simp [eF,hlt]
 induction k with
 | zero=>
  intro R Q a b h0 h1 h2 h3 h4 h5 h6
  have hlen:=h5
  simp only [List.length_append] at hlen
  exact stop R Q a b (.inl (List.eq_nil_of_length_eq_zero (by omega))) h2 h3 (by omega)
 | succ k ih=>
  intro R Q a b h0 h1 h2 h3 h4 h5 h6
  have hlen:=h5
  simp only [List.length_append] at hlen
  cases h1 with
  | nil=>exact stop [] Q a b (.inl rfl) h2 h3 (by simp at hlen;omega)
  | cons X R1 x1 x2 x3=>
   cases x3 with
   | nil=>exact stop _ Q a b (.inr ⟨by simpa using x1,by simpa using x2⟩) h2 h3 (by simp at hlen;omega)
   | cons Y R2 y1 y2 y3=>
    simp only [List.length_append] at hlen h0
    have hlt:(b:Int)≤(N:Int):=by omega
    have e0:Q++(X++(Y++R2)++W)=Q++(X++(Y++(R2++W))):=by simp
    rw [e0] at h5 h6 ⊢
    obtain ⟨Z,z1,z2,z3⟩:=Ei (s:=s) (t:=t) (ver:=ver) hl N hN _ X Y Q (R2++W) a (a+bs) b (Nat.le_refl _) (by omega) (by omega) h3 (by omega) (by omega) h5 h6 x2 y2
    have lZ:=z1.length_eq
    simp only [List.length_append] at lZ
    have z4:=z3 cx hcx
    have hR1:yO ((Q++Z)++(R2++W)):=fun p hp=>h6 p (by
     simp only [List.mem_append] at hp ⊢
     rcases hp with (h|h)|h|h
     ·simp [h]
     ·have:=z1.mem_iff.1 h
      simp only [List.mem_append] at this
      rcases this with h|h<;>simp [h]
     all_goals simp [h])
    obtain ⟨j,Q',R',i1,i2,i3,i4⟩:=ih R2 (Q++Z) b (b+2 * bs) (by omega) y3 (h2.snoc (by omega) z2) (by simp;omega) rfl (by simp;omega) hR1
    have w0:IntKind.i64.wrap ((a:Int)+bs)=((a+bs:Nat):Int):=by rw [w64 (by omega) (by omega)];omega
    have w1:IntKind.i64.wrap (2 * (bs:Int))=2 * (bs:Int):=w64 (by omega) (by omega)
    have w2:IntKind.i64.wrap ((b:Int)+2 * (bs:Int))=((b+2 * bs:Nat):Int):=by rw [w64 (by omega) (by omega)];omega
    refine ⟨j,Q',R',ak fun K hK=>?_,i2,i3,i4.trans ?_⟩
    ·rw [←hK,List.append_assoc Q Z] at i1
     clear hK h6 hR1 stop ih
     generalize Q++(X++(Y++(R2++W)))=D0 at *
     generalize Q++(Z++(R2++W))=D1 at *
     generalize Q'++(R'++W)=D2 at *
     generalize Q'.length=lp at *
     generalize a+bs=m at *
     generalize b+2 * bs=b2 at *
     simp [eF,hlt,w0,z4,w1,w2]
     exact i1
    ·rw [List.append_assoc]
     refine List.Perm.append_left Q ?_
     have:=z1.append_right R2
     rw [List.append_assoc] at this
     exact this
theorem agi (N:Nat) (hN:N≤1000000):∀(k bs:Nat) (P W:List Pb),N≤bs+k→1≤bs→bs≤2000000→Chs bs P→lM W→W.length<bs→(P++W).length=N→yO (P++W)→
  ∃(j:Int) (Z:List Pb),eX (aC P0.glob (ah P0) cx false aT) [0,1,2,6] [(0,.v (.sk l ver 2 0 N)),(1,.v (.i .i64 N)),(2,.v (.fn (.func ai) [] [])),(6,.v (.i .i64 bs))] (s.set l (obP t ver (P++W)))=
    .exit 2 [(0,.v (.sk l ver 2 0 N)),(1,.v (.i .i64 N)),(2,.v (.fn (.func ai) [] [])),(6,.v (.i .i64 j)),(30,.v (.b false))] (s.set l (obP t ver Z))∧lM Z∧Z.Perm (P++W):=by
 intro k
 have stop:∀(bs:Nat) (P W:List Pb),N≤bs→1≤bs→Chs bs P→lM W→(P++W).length=N→∃(j:Int) (Z:List Pb),eX (aC P0.glob (ah P0) cx false aT) [0,1,2,6] [(0,.v (.sk l ver 2 0 N)),(1,.v (.i .i64 N)),(2,.v (.fn (.func ai) [] [])),(6,.v (.i .i64 bs))] (s.set l (obP t ver (P++W)))=
   .exit 2 [(0,.v (.sk l ver 2 0 N)),(1,.v (.i .i64 N)),(2,.v (.fn (.func ai) [] [])),(6,.v (.i .i64 j)),(30,.v (.b false))] (s.set l (obP t ver Z))∧lM Z∧Z.Perm (P++W):=by
  intro bs P W h0 h1 h2 h3 h4
  have hlt:¬(bs:Int)<(N:Int):=by omega
  refine ⟨bs,P++W,ak fun K hK=>?_, ?_,.refl _⟩
  ·simp [aT,hlt]
  ·simp only [List.length_append] at h4
   cases h2 with
   | nil=>exact h3
   | cons X R x1 x2 x3=>
    simp only [List.length_append] at h4
    have hW:W=[]:=List.eq_nil_of_length_eq_zero (by omega)
    have hR:R=[]:=List.eq_nil_of_length_eq_zero (by omega)
    subst hW hR
    simpa using x2
 induction k with
 | zero=>
  intro bs P W h0 h1 h2 h3 h4 h5 h6 h7
  exact stop bs P W (by omega) h1 h3 h4 h6
 | succ k ih=>
  intro bs P W h0 h1 h2 h3 h4 h5 h6 h7
  by_cases hlt':N≤bs
  ·exact stop bs P W hlt' h1 h3 h4 h6
  have hlt:(bs:Int)<(N:Int):=by omega
  obtain ⟨j,Q',R',e1,q1,q2,q3⟩:=agh (s:=s) (t:=t) (ver:=ver) hl (cx:=cx) hcx N bs hN h1 (by omega) W h5 P.length P [] 0 (2 * bs) (Nat.le_refl _) h3 .nil rfl (by omega) (by simpa using h6) (by simpa using h7)
  simp only [List.nil_append] at e1 q3
  have lQ:=q3.length_eq
  simp only [List.length_append] at lQ h6
  have w1:IntKind.i64.wrap (2 * (bs:Int))=2 * (bs:Int):=w64 (by omega) (by omega)
  have w1':IntKind.i64.wrap ((bs:Int) * 2)=((2 * bs:Nat):Int):=by rw [w64 (by omega) (by omega)];omega
  have w0:IntKind.i64.wrap ((Q'.length:Int)+bs)=((Q'.length+bs:Nat):Int):=by rw [w64 (by omega) (by omega)];omega
  have hRq:yO (Q'++(R'++W)):=fun p hp=>h7 p (by
   simp only [List.mem_append] at hp ⊢
   rcases hp with h|h|h
   ·have:=q3.mem_iff.1 (List.mem_append_left R' h);simp [this]
   ·have:=q3.mem_iff.1 (List.mem_append_right Q' h);simp [this]
   ·simp [h])
  -- the last two blocks
  obtain ⟨W2,p1,p2,p3,p4⟩:∃W2:List Pb,W2.Perm (R'++W)∧lM W2∧W2.length<2 * bs∧((Q'.length+bs<N∧ah P0 (.fn (.func aI) [] []) [.sk l ver 2 0 N,.i .i64 Q'.length,.i .i64 ((Q'.length+bs:Nat):Int),.i .i64 N,(.fn (.func ai) [] [])] (s.set l (obP t ver (Q'++(R'++W)))) cx=.ret (.tu []) (s.set l (obP t ver (Q'++W2))))∨(¬Q'.length+bs<N∧W2=R'++W)):=by
   by_cases hm:Q'.length+bs<N
   ·rcases q2 with rfl|⟨g1,g2⟩
    ·simp at lQ;omega
    ·obtain ⟨Z,z1,z2,z3⟩:=Ei (s:=s) (t:=t) (ver:=ver) hl N hN _ R' W Q' [] Q'.length (Q'.length+bs) N (Nat.le_refl _) (by omega) (by omega) rfl (by omega) (by omega) (by simp;omega) (by simpa using hRq) g2 h4
     have z4:=z3 cx hcx
     simp only [List.append_nil] at z4
     have lz:=z1.length_eq
     simp only [List.length_append] at lz
     exact ⟨Z,z1,z2,by omega,.inl ⟨hm,z4⟩⟩
   ·refine ⟨R'++W,.refl _, ?_, ?_,.inr ⟨hm,rfl⟩⟩
    ·rcases q2 with rfl|⟨g1,g2⟩
     ·exact h4
     ·have:W=[]:=List.eq_nil_of_length_eq_zero (by omega)
      subst this;simpa using g2
    ·rcases q2 with rfl|⟨g1,g2⟩<;>simp<;>omega
  have lW2:=p1.length_eq
  simp only [List.length_append] at lW2
  have hR2:yO (Q'++W2):=fun p hp=>hRq p (by
   rcases List.mem_append.1 hp with h|h
   ·simp [h]
   ·have:=p1.mem_iff.1 h;simp only [List.mem_append] at this ⊢;exact .inr this)
  obtain ⟨j2,Z,i1,i2,i3⟩:=ih (2 * bs) Q' W2 (by omega) (by omega) (by omega) q1 p2 p3 (by simp;omega) hR2
  refine ⟨j2,Z,ak fun K hK=>?_,i2,i3.trans ?_⟩
  ·rw [←hK] at i1
   clear hK h7 hRq hR2 stop ih q3 p1 lQ lW2
   rcases p4 with ⟨c1,c2⟩|⟨c1,c2⟩
   ·have c1':((Q'.length+bs:Nat):Int)<(N:Int):=by omega
    generalize Q'++(R'++W)=D1 at *
    generalize Q'++W2=D2 at *
    generalize P++W=D0 at *
    generalize Q'.length+bs=m at *
    generalize Q'.length=lp at *
    rw [show ((2 * bs:Nat):Int)=2 * (bs:Int) by omega,show ((0:Nat):Int)=0 from rfl] at e1
    generalize 2 * bs=b2 at *
    simp [aT,hlt,w1,w1',w0,e1,c1',c2]
    exact i1
   ·have c1':¬((Q'.length+bs:Nat):Int)<(N:Int):=by omega
    rw [c2] at i1
    generalize Q'++(R'++W)=D1 at *
    generalize P++W=D0 at *
    generalize Q'.length+bs=m at *
    generalize Q'.length=lp at *
    rw [show ((2 * bs:Nat):Int)=2 * (bs:Int) by omega,show ((0:Nat):Int)=0 from rfl] at e1
    generalize 2 * bs=b2 at *
    simp [aT,hlt,w1,w1',w0,e1,c1']
    exact i1
  ·refine (List.Perm.append_left Q' p1).trans ?_
   rw [←List.append_assoc]
   exact q3.append_right W
theorem adT (N:Nat) (hN:N≤1000000) (D:List Pb) (hD:D.length=N) (hR:yO D):
  ∃Z:List Pb,Z.Perm D∧lM Z∧ah P0 (.fn (.func bf) [] []) [.sk l ver 2 0 N,(.fn (.func ai) [] [])] (s.set l (obP t ver D)) cx=.ret (.tu []) (s.set l (obP t ver Z)):=by
 obtain ⟨j0,P',W',e0,a1,a2,a3⟩:=agj (s:=s) (t:=t) (ver:=ver) hl (cx:=⟨cx.lim,s.length⟩) hcx N hN D.length [] D 0 20 (Nat.le_refl _) rfl rfl (by simpa using hD) (by simpa using hR) .nil
 simp only [List.nil_append] at e0 a3
 have hR1:yO (P'++W'):=hR.perm a3
 have l1:=a3.length_eq
 simp only [List.length_append] at l1
 obtain ⟨Z1,z1,z2,z3⟩:=Om (s:=s) (t:=t) (ver:=ver) hl (cx:=⟨cx.lim,s.length⟩) hcx P'.length N N hN W' P' [] rfl (by omega) (by simp;omega) (by simpa using hR1)
 simp only [List.append_nil] at z3
 have lz:=z1.length_eq
 have a4:(P'++Z1).Perm D:=(List.Perm.append_left P' z1).trans a3
 obtain ⟨j1,Z,e1,b1,b2⟩:=agi (s:=s) (t:=t) (ver:=ver) hl (cx:=⟨cx.lim,s.length⟩) hcx N hN N 20 P' Z1 (by omega) (by omega) (by omega) a1 z2 (by omega) (by simp;omega) (hR.perm a4)
 refine ⟨Z,b2.trans a4,b1, ?_⟩
 have e2:ah P0 (.fn (.func dU) [] []) [.sk l ver 2 0 N,.i .i64 N,(.fn (.func ai) [] [])] (s.set l (obP t ver D)) ⟨cx.lim,s.length⟩=.ret (.tu []) (s.set l (obP t ver Z)):=by
  refine oG (by simp) ?_
  generalize P'++W'=D1 at *
  generalize P'++Z1=D2 at *
  generalize P'.length=lp at *
  simp at e0 e1
  simp [af,fJ,e0,z3,e1]
 refine jI (by simp) ?_
 simp [af,bV,e2]
end
end Go.Ai.Z
