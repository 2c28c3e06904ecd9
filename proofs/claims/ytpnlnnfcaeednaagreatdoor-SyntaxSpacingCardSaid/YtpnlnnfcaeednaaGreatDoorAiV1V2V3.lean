/-
 A row of problems in the heap: changes of places.
-/
import Derived.Test.YtpnlnnfcaeednaaGreatDoorAiY4Y5
set_option maxRecDepth 100000
set_option linter.unusedSimpArgs false
set_option linter.unusedVariables false
set_option linter.unusedSectionVars false
namespace Go.Ai.Z
def VY (D:List Pb):List AV:=D.flatMap fun p=>[.i .i64 p.1,.i .i64 p.2]
def obP (t ver:Nat) (D:List Pb):dZ:=.buf t 2 ver (VY D)
theorem Dq (p:Pb) (D:List Pb):VY (p::D)=.i .i64 p.1::.i .i64 p.2::VY D:=rfl
@[simp] theorem ai4 (D:List Pb):(VY D).length=2 * D.length:=by
 induction D with
 | nil=>rfl
 | cons p D ih=>rw [Dq];simp only [List.length_cons,ih];omega
theorem pq:∀{D:List Pb} {i:Nat} {p:Pb},D[i]?=some p→((VY D).drop (i * 2)).take 2=[.i .i64 p.1,.i .i64 p.2]
 | [],i,p,h=>by simp at h
 | q::D,0,p,h=>by simp at h;subst h;rfl
 | q::D,i+1,p,h=>by
  rw [List.getElem?_cons_succ] at h
  have:=pq h
  rw [Dq,show (i+1) * 2=i * 2+2 by omega]
  simpa using this
theorem xW:∀{D:List Pb} {i:Nat} (p:Pb),i<D.length→(VY D).take (i * 2)++.i .i64 p.1::.i .i64 p.2::(VY D).drop (i * 2+2)=VY (D.set i p)
 | [],i,p,h=>by simp at h
 | q::D,0,p,h=>by simp [Dq]
 | q::D,i+1,p,h=>by
  have:=xW (D:=D) p (by simpa using h)
  rw [Dq,List.set_cons_succ,Dq,←this,show (i+1) * 2=i * 2+2 by omega]
  simp
def WI (D:List Pb) (i j:Nat):List Pb:=match D[i]?,D[j]? with
 | some p,some q=>(D.set i q).set j p
 | _,_=>D
theorem Gx {D:List Pb} {i j:Nat} {p q:Pb} (h1:D[i]?=some p) (h2:D[j]?=some q):WI D i j=(D.set i q).set j p:=by simp [WI,h1,h2]
@[simp] theorem aib (D:List Pb) (i j:Nat):(WI D i j).length=D.length:=by unfold WI;split<;>simp
theorem set_mid {α:Type} (P T:List α) (x y:α):(P++x::T).set P.length y=P++y::T:=by simp
theorem Jv (P M S:List Pb) (x y:Pb) {i j:Nat} (hi:i=P.length) (hj:j=P.length+1+M.length):WI (P++x::(M++y::S)) i j=P++y::(M++x::S):=by
 subst hi hj
 have h1:(P++x::(M++y::S))[P.length]?=some x:=by simp
 have e:P++x::(M++y::S)=(P++x::M)++y::S:=by simp
 have h2:(P++x::(M++y::S))[P.length+1+M.length]?=some y:=by
  rw [e,List.getElem?_append_right (by simp;omega)]
  simp [show P.length+1+M.length - (P.length+(M.length+1))=0 by omega]
 rw [Gx h1 h2,set_mid]
 have e2:P++y::(M++y::S)=(P++y::M)++y::S:=by simp
 rw [e2,show P.length+1+M.length=(P++y::M).length by simp;omega,set_mid]
 simp
def P6 (a b:Nat):Nat→Nat→List Pb→List Pb
 | 0,_,D=>D
 | k+1,i,D=>P6 a b k (i+1) (WI D (a+i) (b+i))
theorem TL:∀(X Y P M S:List Pb) (a b i:Nat),X.length=Y.length→P.length=a+i→b+i=P.length+X.length+M.length→P6 a b X.length i (P++(X++(M++(Y++S))))=P++(Y++(M++(X++S)))
 | [],[],P,M,S,a,b,i,_,h1,h2=>by simp [P6]
 | [],y::Y,P,M,S,a,b,i,h,h1,h2=>by simp at h
 | x::X,[],P,M,S,a,b,i,h,h1,h2=>by simp at h
 | x::X,y::Y,P,M,S,a,b,i,h,h1,h2=>by
  have ih:=TL X Y (P++[y]) (M++[x]) S a b (i+1) (by simpa using h) (by simp;omega) (by simp at h2 ⊢;omega)
  have e:WI (P++(x::X++(M++(y::Y++S)))) (a+i) (b+i)=P++y::(X++M++x::(Y++S)):=by
   have:=Jv P (X++M) (Y++S) x y (i:=a+i) (j:=b+i) h1.symm (by simp at h2 ⊢;omega)
   simpa using this
  rw [List.length_cons,P6,e]
  simpa using ih
theorem VT (p q:Pb) (hp:0≤p.1∧p.1≤100000) (hq:0≤q.1∧q.1≤100000) (s:St) (cx:Ctx):ah P0 (.fn (.func ai) [] []) [.ag [.i .i64 p.1,.i .i64 p.2],.ag [.i .i64 q.1,.i .i64 q.2]] s cx=.ret (.i .i64 (p.1 - q.1)) s:=by
 have hw:IntKind.i64.wrap (p.1 - q.1)=p.1 - q.1:=w64 (by omega) (by omega)
 refine FZ (by simp) ?_
 simp [af,qy,hw,splice]
section
variable {s:St} {l t ver:Nat} (hl:l<s.length) {cx:Ctx} (hcx:cx.lim≤l)
include hl hcx
theorem NM (a b n N:Nat) (hN:N≤1000000):∀(k i:Nat) (D:List Pb),i+k=n→D.length=N→a+n≤N→b+n≤N→
  ∃(j:Int),eX (aC P0.glob (ah P0) cx false fM) [0,1,2,3,10]
    [(0,.v (.sk l ver 2 0 N)),(1,.v (.i .i64 a)),(2,.v (.i .i64 b)),(3,.v (.i .i64 n)),(10,.v (.i .i64 i))] (s.set l (obP t ver D))=
    .exit 0 [(0,.v (.sk l ver 2 0 N)),(1,.v (.i .i64 a)),(2,.v (.i .i64 b)),(3,.v (.i .i64 n)),(10,.v (.i .i64 j)),(13,.v (.b false))] (s.set l (obP t ver (P6 a b k i D)))
 | 0,i,D,h1,h2,h3,h4=>by
  refine ⟨i,ak fun K hK=>?_⟩
  have h:¬(i:Int)<(n:Int):=by omega
  simp [fM,h,P6]
 | k+1,i,D,h1,h2,h3,h4=>by
  have hlt:(i:Int)<(n:Int):=by omega
  obtain ⟨p,hp⟩:∃p,p=a+i:=⟨_,rfl⟩
  obtain ⟨q,hq⟩:∃q,q=b+i:=⟨_,rfl⟩
  have w1:IntKind.i64.wrap ((a:Int)+(i:Int))=(p:Int):=by rw [w64 (by omega) (by omega)];omega
  have w2:IntKind.i64.wrap ((b:Int)+(i:Int))=(q:Int):=by rw [w64 (by omega) (by omega)];omega
  have hpn:p<N:=by omega
  have hqn:q<N:=by omega
  obtain ⟨x,hx⟩:∃x,D[p]?=some x:=⟨_,List.getElem?_eq_getElem (by omega)⟩
  obtain ⟨y,hy⟩:∃y,D[q]?=some y:=⟨_,List.getElem?_eq_getElem (by omega)⟩
  have gx:=pq hx
  have gy:=pq hy
  have c1:q * 2+2≤2 * D.length:=by omega
  have c2:p * 2+2≤2 * D.length:=by omega
  have s1:=xW (D:=D) (i:=p) y (by omega)
  have s2:=xW (D:=D.set p y) (i:=q) x (by simp;omega)
  have w3:=wI (i:=i) (by omega)
  obtain ⟨j,ih⟩:=NM a b n N hN k (i+1) (WI D (a+i) (b+i)) (by omega) (by simpa using h2) h3 h4
  rw [←hp,←hq,Gx hx hy] at ih
  refine ⟨j,ak fun K hK=>?_⟩
  rw [←hK] at ih
  rw [P6,←hp,←hq,Gx hx hy]
  clear hK
  simp [obP] at ih
  simp [fM,hlt,w1,w2,hpn,hqn,obP,hl,hcx,gx,gy,c1,c2,s1,s2,splice,w3]
  exact ih
theorem Gi (a b n N:Nat) (hN:N≤1000000) (P X M Y S:List Pb) (hX:X.length=n) (hY:Y.length=n) (hP:P.length=a) (hb:b=a+n+M.length) (hD:(P++(X++(M++(Y++S)))).length=N):
  ah P0 (.fn (.func bU) [] []) [.sk l ver 2 0 N,.i .i64 a,.i .i64 b,.i .i64 n,(.fn (.func ai) [] [])] (s.set l (obP t ver (P++(X++(M++(Y++S)))))) cx=.ret (.tu []) (s.set l (obP t ver (P++(Y++(M++(X++S)))))):=by
 have hlen:=hD
 simp only [List.length_append] at hlen
 obtain ⟨j,h⟩:=NM (s:=s) (t:=t) (ver:=ver) hl (cx:=⟨cx.lim,s.length⟩) hcx a b n N hN n 0 (P++(X++(M++(Y++S)))) (by omega) hD (by omega) (by omega)
 have e:=TL X Y P M S a b 0 (by omega) (by omega) (by omega)
 rw [hX] at e
 rw [e] at h
 refine uN (by simp) ?_
 generalize P++(X++(M++(Y++S)))=D0 at *
 generalize P++(Y++(M++(X++S)))=D1 at *
 simp at h
 simp [af,gG,h]
theorem ac8 (m N:Nat) (hN:N≤1000000):∀(k:Nat) (X Y A B:List Pb),X.length+Y.length≤k→0<X.length→0<Y.length→A.length+X.length=m→(A++(X++(Y++B))).length=N→
  ∃(i:Nat) (A' X' Y' B':List Pb),eX (aC P0.glob (ah P0) cx false eG) [0,2,4,10,11]
    [(0,.v (.sk l ver 2 0 N)),(2,.v (.i .i64 m)),(4,.v (.fn (.func ai) [] [])),(10,.v (.i .i64 X.length)),(11,.v (.i .i64 Y.length))] (s.set l (obP t ver (A++(X++(Y++B)))))=
    .exit 0 [(0,.v (.sk l ver 2 0 N)),(2,.v (.i .i64 m)),(4,.v (.fn (.func ai) [] [])),(10,.v (.i .i64 i)),(11,.v (.i .i64 i)),(20,.v (.b false))] (s.set l (obP t ver (A'++(X'++(Y'++B')))))∧
    X'.length=i∧Y'.length=i∧A'.length+i=m∧A'++(Y'++(X'++B'))=A++(Y++(X++B)):=by
 intro k
 induction k with
 | zero=>intro X Y A B h1 h2 h3;omega
 | succ k ih=>
  intro X Y A B h1 h2 h3 h4 h5
  have h6:=h5
  simp only [List.length_append] at h6
  by_cases he:X.length=Y.length
  ·refine ⟨X.length,A,X,Y,B,ak fun K hK=>?_,rfl,he.symm,h4,rfl⟩
   simp [eG,he]
  have hne:¬(X.length:Int)=(Y.length:Int):=by omega
  by_cases hgt:Y.length<X.length
  ·obtain ⟨X1,X2,hX,hx1⟩:∃X1 X2,X=X1++X2∧X1.length=Y.length:=⟨X.take Y.length,X.drop Y.length,by simp,by simp;omega⟩
   have hxl:X.length=X1.length+X2.length:=by rw [hX];simp
   have hD0:A++(X++(Y++B))=A++(X1++(X2++(Y++B))):=by rw [hX];simp
   rw [hD0] at h5 ⊢
   obtain ⟨i,A',X',Y',B',ih1,q1,q2,q3,q4⟩:=ih X2 X1 (A++Y) B (by omega) (by omega) (by omega) (by simp;omega) (by simp;omega)
   have e:=Gi (s:=s) (t:=t) (ver:=ver) hl (cx:=cx) hcx A.length m Y.length N hN A X1 X2 Y B hx1 rfl rfl (by omega) h5
   refine ⟨i,A',X',Y',B',ak fun K hK=>?_,q1,q2,q3,by rw [q4,hX];simp⟩
   rw [←hK] at ih1
   clear hK ih
   have g:(Y.length:Int)<(X.length:Int):=by omega
   have w1:IntKind.i64.wrap ((m:Int) - (X.length:Int))=(A.length:Int):=by rw [w64 (by omega) (by omega)];omega
   have w2:IntKind.i64.wrap ((X.length:Int) - (Y.length:Int))=(X2.length:Int):=by rw [w64 (by omega) (by omega)];omega
   rw [hx1] at ih1
   simp only [List.append_assoc] at ih1
   generalize obP t ver (A++(X1++(X2++(Y++B))))=O0 at *
   generalize obP t ver (A++(Y++(X2++(X1++B))))=O1 at *
   generalize obP t ver (A'++(X'++(Y'++B')))=O2 at *
   generalize X.length=xl at *
   generalize Y.length=yl at *
   generalize X2.length=xl2 at *
   generalize A.length=al at *
   simp [eG,g,hne,w1,w2,e]
   exact ih1
  ·obtain ⟨Y1,Y2,hY,hy2⟩:∃Y1 Y2,Y=Y1++Y2∧Y2.length=X.length:=⟨Y.take (Y.length - X.length),Y.drop (Y.length - X.length),by simp,by simp;omega⟩
   have hyl:Y.length=Y1.length+Y2.length:=by rw [hY];simp
   have hD0:A++(X++(Y++B))=A++(X++(Y1++(Y2++B))):=by rw [hY];simp
   rw [hD0] at h5 ⊢
   obtain ⟨i,A',X',Y',B',ih1,q1,q2,q3,q4⟩:=ih Y2 Y1 A (X++B) (by omega) (by omega) (by omega) (by omega) (by simp;omega)
   have e:=Gi (s:=s) (t:=t) (ver:=ver) hl (cx:=cx) hcx A.length (m+Y1.length) X.length N hN A X Y1 Y2 B rfl hy2 rfl (by omega) h5
   refine ⟨i,A',X',Y',B',ak fun K hK=>?_,q1,q2,q3,by rw [q4,hY];simp⟩
   rw [←hK] at ih1
   clear hK ih
   have g:¬(Y.length:Int)<(X.length:Int):=by omega
   have w1:IntKind.i64.wrap ((m:Int) - (X.length:Int))=(A.length:Int):=by rw [w64 (by omega) (by omega)];omega
   have w0:IntKind.i64.wrap ((m:Int)+(Y.length:Int))=(m:Int)+(Y.length:Int):=by rw [w64 (by omega) (by omega)]
   have w3:IntKind.i64.wrap ((m:Int)+(Y.length:Int) - (X.length:Int))=((m+Y1.length:Nat):Int):=by rw [w64 (by omega) (by omega)];omega
   have w2:IntKind.i64.wrap ((Y.length:Int) - (X.length:Int))=(Y1.length:Int):=by rw [w64 (by omega) (by omega)];omega
   rw [hy2] at ih1
   generalize m+Y1.length=m2 at *
   generalize obP t ver (A++(X++(Y1++(Y2++B))))=O0 at *
   generalize obP t ver (A++(Y2++(Y1++(X++B))))=O1 at *
   generalize obP t ver (A'++(X'++(Y'++B')))=O2 at *
   generalize X.length=xl at *
   generalize Y.length=yl at *
   generalize Y1.length=yl1 at *
   generalize A.length=al at *
   simp [eG,g,hne,w0,w1,w2,w3,e]
   exact ih1
theorem adV (a m b N:Nat) (hN:N≤1000000) (A X Y B:List Pb) (hA:A.length=a) (hX:a+X.length=m) (hY:m+Y.length=b) (h0:0<X.length) (h1:0<Y.length) (hD:(A++(X++(Y++B))).length=N):
  ah P0 (.fn (.func dH) [] []) [.sk l ver 2 0 N,.i .i64 a,.i .i64 m,.i .i64 b,(.fn (.func ai) [] [])] (s.set l (obP t ver (A++(X++(Y++B))))) cx=.ret (.tu []) (s.set l (obP t ver (A++(Y++(X++B))))):=by
 have hlen:=hD
 simp only [List.length_append] at hlen
 obtain ⟨i,A',X',Y',B',h,q1,q2,q3,q4⟩:=ac8 (s:=s) (t:=t) (ver:=ver) hl (cx:=⟨cx.lim,s.length⟩) hcx m N hN _ X Y A B (Nat.le_refl _) h0 h1 (by omega) hD
 have hlen2:=congrArg List.length q4
 simp only [List.length_append] at hlen2
 have e:=fun b=>Gi (s:=s) (t:=t) (ver:=ver) hl (cx:=⟨cx.lim,b⟩) hcx A'.length m i N hN A' X' [] Y' B' q1 q2 rfl (by simp;omega) (by simp;omega)
 simp only [List.nil_append] at e
 rw [q4] at e
 have w1:IntKind.i64.wrap ((m:Int) - (a:Int))=(X.length:Int):=by rw [w64 (by omega) (by omega)];omega
 have w2:IntKind.i64.wrap ((b:Int) - (m:Int))=(Y.length:Int):=by rw [w64 (by omega) (by omega)];omega
 have w3:IntKind.i64.wrap ((m:Int) - (i:Int))=(A'.length:Int):=by rw [w64 (by omega) (by omega)];omega
 refine wo (by simp) ?_
 generalize obP t ver (A++(X++(Y++B)))=O0 at *
 generalize obP t ver (A++(Y++(X++B)))=O1 at *
 generalize obP t ver (A'++(X'++(Y'++B')))=O2 at *
 simp [af,iF,w1,w2,w3,h,e]
end
end Go.Ai.Z
namespace Go.Ai.Z
def bsr (f:Nat→Bool):Nat→Nat→Nat→Nat
 | 0,i,_=>i
 | k+1,i,j=>if i<j then (if f ((i+j) / 2)=true then bsr f k ((i+j) / 2+1) j else bsr f k i ((i+j) / 2)) else i
theorem Gm (f:Nat→Bool) (lo hi:Nat) (hm:∀c d,lo≤c→c≤d→d<hi→f d=true→f c=true):∀k i j,j≤i+k→i≤j→lo≤i→j≤hi→(∀c,lo≤c→c<i→f c=true)→(∀c,j≤c→c<hi→f c=false)→
  (i≤bsr f k i j∧bsr f k i j≤j)∧(∀c,lo≤c→c<bsr f k i j→f c=true)∧(∀c,bsr f k i j≤c→c<hi→f c=false)
 | 0,i,j,h1,h2,h3,h4,h5,h6=>by
  have:i=j:=by omega
  subst this
  exact ⟨⟨Nat.le_refl _,Nat.le_refl _⟩,h5,h6⟩
 | k+1,i,j,h1,h2,h3,h4,h5,h6=>by
  unfold bsr
  by_cases hij:i<j
  ·rw [if_pos hij]
   have hm1:i≤(i+j) / 2:=by omega
   have hm2:(i+j) / 2<j:=by omega
   generalize (i+j) / 2=m at *
   by_cases hf:f m=true
   ·rw [if_pos hf]
    obtain ⟨q1,q2,q3⟩:=Gm f lo hi hm k (m+1) j (by omega) (by omega) (by omega) h4 (fun c hc1 hc2=>hm c m hc1 (by omega) (by omega) hf) h6
    exact ⟨⟨by omega,q1.2⟩,q2,q3⟩
   ·rw [if_neg hf]
    obtain ⟨q1,q2,q3⟩:=Gm f lo hi hm k i m (by omega) hm1 h3 (by omega) h5 (fun c hc1 hc2=>by
     cases hc:f c with
     | false=>rfl
     | true=>exact absurd (hm m c (by omega) hc1 hc2 hc) hf)
    exact ⟨⟨q1.1,by omega⟩,q2,q3⟩
  ·rw [if_neg hij]
   have:i=j:=by omega
   subst this
   exact ⟨⟨Nat.le_refl _,Nat.le_refl _⟩,h5,h6⟩
def kP (D:List Pb) (i:Nat):Int:=(D.getD i (0,0)).1
theorem Il {D:List Pb} {i:Nat} {p:Pb} (h:D[i]?=some p):kP D i=p.1:=by simp [kP,h]
def yO (D:List Pb):Prop:=∀p∈D,0≤p.1∧p.1≤100000
theorem yO.get {D:List Pb} (h:yO D) {i:Nat} (hi:i<D.length):∃p,D[i]?=some p∧0≤p.1∧p.1≤100000:=⟨D[i],List.getElem?_eq_getElem hi,h _ (List.getElem_mem hi)⟩
theorem half {i j:Nat}:((i:Int)+j).fdiv (2 ^ min 1 IntKind.u64.bits)=(((i+j) / 2:Nat):Int):=by
 rw [show (2:Int) ^ min 1 IntKind.u64.bits=2 from rfl,Int.fdiv_eq_ediv_of_nonneg _ (by omega)];omega
section
variable {s:St} {l t ver:Nat} (hl:l<s.length) {cx:Ctx} (hcx:cx.lim≤l)
include hl hcx
theorem YZ (D:List Pb) (hR:yO D) (N:Nat) (hDN:D.length=N) (hN:N≤1000000) (a:Nat) (ha:a<N):∀(k i j:Nat),j≤i+k→i≤j→j≤N→
  eX (aC P0.glob (ah P0) cx false cu) [0,1,4,10,11]
   [(0,.v (.sk l ver 2 0 N)),(1,.v (.i .i64 a)),(4,.v (.fn (.func ai) [] [])),(10,.v (.i .i64 i)),(11,.v (.i .i64 j))] (s.set l (obP t ver D))=
   .exit 0 [(0,.v (.sk l ver 2 0 N)),(1,.v (.i .i64 a)),(4,.v (.fn (.func ai) [] [])),(10,.v (.i .i64 (bsr (fun h=>decide (kP D h<kP D a)) k i j))),(11,.v (.i .i64 (bsr (fun h=>decide (kP D h<kP D a)) k i j))),(33,.v (.b false))] (s.set l (obP t ver D))
 | 0,i,j,h1,h2,h3=>by
  have:i=j:=by omega
  subst this
  refine ak fun K hK=>?_
  simp [cu,bsr]
 | k+1,i,j,h1,h2,h3=>by
  by_cases hij:i<j
  ·have hf:=half (i:=i) (j:=j)
   have hm1:i≤(i+j) / 2:=by omega
   have hm2:(i+j) / 2<j:=by omega
   have hw1:IntKind.i64.wrap ((i:Int)+j)=(i:Int)+j:=w64 (by omega) (by omega)
   have hw2:IntKind.u64.wrap ((i:Int)+j)=(i:Int)+j:=IntWalk.u64_in _ ⟨by omega,by omega⟩
   rw [bsr,if_pos hij]
   generalize (i+j) / 2=m at hf hm1 hm2 ⊢
   have hw3:IntKind.i64.wrap (m:Int)=(m:Int):=w64 (by omega) (by omega)
   have hw3':IntKind.u64.wrap (m:Int)=(m:Int):=IntWalk.u64_in _ ⟨by omega,by omega⟩
   have hw4:IntKind.i64.wrap ((m:Int)+1)=(m:Int)+1:=wI (by omega)
   obtain ⟨p,hp,rp⟩:=hR.get (i:=m) (by omega)
   obtain ⟨q,hq,rq⟩:=hR.get (i:=a) (by omega)
   have gp:=pq hp
   have gq:=pq hq
   have c1:m * 2+2≤2 * D.length:=by omega
   have c2:a * 2+2≤2 * D.length:=by omega
   have hmD:m<N:=by omega
   have e:=fun s cx=>VT p q rp rq s cx
   have i1:=YZ D hR N hDN hN a ha k (m+1) j (by omega) (by omega) h3
   have i2:=YZ D hR N hDN hN a ha k i m (by omega) hm1 (by omega)
   simp only [Il hp,Il hq] at i1 i2 ⊢
   refine ak fun K hK=>?_
   rw [←hK] at i1 i2
   clear hK
   by_cases hc:p.1<q.1
   ·have hc':p.1 - q.1<0:=by omega
    simp only [hc,decide_true,if_true]
    rw [show ((m+1:Nat):Int)=(m:Int)+1 from rfl] at i1
    simp [obP] at i1
    simp [cu,hij,hw1,hw2,hf,hw3,hw3',hmD,ha,obP,hl,gp,gq,c1,c2,e,hc',hw4]
    exact i1
   ·have hc':¬p.1 - q.1<0:=by omega
    simp only [hc,decide_false]
    simp [obP] at i2
    simp [cu,hij,hw1,hw2,hf,hw3,hw3',hmD,ha,obP,hl,gp,gq,c1,c2,e,hc']
    exact i2
  ·have:i=j:=by omega
   subst this
   rw [bsr,if_neg hij]
   refine ak fun K hK=>?_
   simp [cu]
theorem YX (D:List Pb) (hR:yO D) (N:Nat) (hDN:D.length=N) (hN:N≤1000000) (a:Nat) (ha:a<N):∀(k i j:Nat),j≤i+k→i≤j→j≤N→
  eX (aC P0.glob (ah P0) cx false bY) [0,2,4,14,15]
   [(0,.v (.sk l ver 2 0 N)),(2,.v (.i .i64 a)),(4,.v (.fn (.func ai) [] [])),(14,.v (.i .i64 i)),(15,.v (.i .i64 j))] (s.set l (obP t ver D))=
   .exit 4 [(0,.v (.sk l ver 2 0 N)),(2,.v (.i .i64 a)),(4,.v (.fn (.func ai) [] [])),(14,.v (.i .i64 (bsr (fun h=>!decide (kP D a<kP D h)) k i j))),(15,.v (.i .i64 (bsr (fun h=>!decide (kP D a<kP D h)) k i j))),(85,.v (.b false))] (s.set l (obP t ver D))
 | 0,i,j,h1,h2,h3=>by
  have:i=j:=by omega
  subst this
  refine ak fun K hK=>?_
  simp [bY,bsr]
 | k+1,i,j,h1,h2,h3=>by
  by_cases hij:i<j
  ·have hf:=half (i:=i) (j:=j)
   have hm1:i≤(i+j) / 2:=by omega
   have hm2:(i+j) / 2<j:=by omega
   have hw1:IntKind.i64.wrap ((i:Int)+j)=(i:Int)+j:=w64 (by omega) (by omega)
   have hw2:IntKind.u64.wrap ((i:Int)+j)=(i:Int)+j:=IntWalk.u64_in _ ⟨by omega,by omega⟩
   rw [bsr,if_pos hij]
   generalize (i+j) / 2=m at hf hm1 hm2 ⊢
   have hw3:IntKind.i64.wrap (m:Int)=(m:Int):=w64 (by omega) (by omega)
   have hw3':IntKind.u64.wrap (m:Int)=(m:Int):=IntWalk.u64_in _ ⟨by omega,by omega⟩
   have hw4:IntKind.i64.wrap ((m:Int)+1)=(m:Int)+1:=wI (by omega)
   obtain ⟨p,hp,rp⟩:=hR.get (i:=m) (by omega)
   obtain ⟨q,hq,rq⟩:=hR.get (i:=a) (by omega)
   have gp:=pq hp
   have gq:=pq hq
   have c1:m * 2+2≤2 * D.length:=by omega
   have c2:a * 2+2≤2 * D.length:=by omega
   have hmD:m<N:=by omega
   have e:=fun s cx=>VT q p rq rp s cx
   have i1:=YX D hR N hDN hN a ha k (m+1) j (by omega) (by omega) h3
   have i2:=YX D hR N hDN hN a ha k i m (by omega) hm1 (by omega)
   simp only [Il hp,Il hq] at i1 i2 ⊢
   refine ak fun K hK=>?_
   rw [←hK] at i1 i2
   clear hK
   by_cases hc:q.1<p.1
   ·have hc':q.1 - p.1<0:=by omega
    simp only [hc,decide_true,Bool.not_true]
    simp [obP] at i2
    simp [bY,hij,hw1,hw2,hf,hw3,hw3',hmD,ha,obP,hl,gp,gq,c1,c2,e,hc']
    exact i2
   ·have hc':¬q.1 - p.1<0:=by omega
    simp only [hc,decide_false,Bool.not_false,if_true]
    rw [show ((m+1:Nat):Int)=(m:Int)+1 from rfl] at i1
    simp [obP] at i1
    simp [bY,hij,hw1,hw2,hf,hw3,hw3',hmD,ha,obP,hl,gp,gq,c1,c2,e,hc',hw4]
    exact i1
  ·have:i=j:=by omega
   subst this
   rw [bsr,if_neg hij]
   refine ak fun K hK=>?_
   simp [bY]
theorem YW (D:List Pb) (hR:yO D) (N:Nat) (hDN:D.length=N) (hN:N≤1000000) (a m0 b mid n p0:Nat) (hp0:p0≤4000000):∀(k i j:Nat),j≤i+k→i≤j→j≤N→(∀c,i≤c→c<j→c≤p0∧p0 - c<N)→
  eX (aC P0.glob (ah P0) cx false bC) [0,1,2,3,4,18,19,20,21,22]
   [(0,.v (.sk l ver 2 0 N)),(1,.v (.i .i64 a)),(2,.v (.i .i64 m0)),(3,.v (.i .i64 b)),(4,.v (.fn (.func ai) [] [])),(18,.v (.i .i64 mid)),(19,.v (.i .i64 n)),(20,.v (.i .i64 (i))),(21,.v (.i .i64 (j))),(22,.v (.i .i64 p0))] (s.set l (obP t ver D))=
   .exit 8 [(0,.v (.sk l ver 2 0 N)),(1,.v (.i .i64 a)),(2,.v (.i .i64 m0)),(3,.v (.i .i64 b)),(4,.v (.fn (.func ai) [] [])),(18,.v (.i .i64 mid)),(19,.v (.i .i64 n)),(20,.v (.i .i64 (bsr (fun h=>!decide (kP D (p0 - h)<kP D h)) k i j))),(21,.v (.i .i64 (bsr (fun h=>!decide (kP D (p0 - h)<kP D h)) k i j))),(22,.v (.i .i64 p0)),(151,.v (.b false))] (s.set l (obP t ver D))
 | 0,i,j,h1,h2,h3,hcr=>by
  have:i=j:=by omega
  subst this
  refine ak fun K hK=>?_
  simp [bC,bsr]
 | k+1,i,j,h1,h2,h3,hcr=>by
  by_cases hij:i<j
  ·have hf:=half (i:=i) (j:=j)
   have hm1:i≤(i+j) / 2:=by omega
   have hm2:(i+j) / 2<j:=by omega
   have hw1:IntKind.i64.wrap ((i:Int)+j)=(i:Int)+j:=w64 (by omega) (by omega)
   have hw2:IntKind.u64.wrap ((i:Int)+j)=(i:Int)+j:=IntWalk.u64_in _ ⟨by omega,by omega⟩
   rw [bsr,if_pos hij]
   generalize (i+j) / 2=m at hf hm1 hm2 ⊢
   have hw3:IntKind.i64.wrap (m:Int)=(m:Int):=w64 (by omega) (by omega)
   have hw3':IntKind.u64.wrap (m:Int)=(m:Int):=IntWalk.u64_in _ ⟨by omega,by omega⟩
   have hw4:IntKind.i64.wrap ((m:Int)+1)=(m:Int)+1:=wI (by omega)
   obtain ⟨p,hp,rp⟩:=hR.get (i:=m) (by omega)
   obtain ⟨hcm,hcN⟩:=hcr m hm1 hm2
   obtain ⟨q,hq,rq⟩:=hR.get (i:=p0 - m) (by omega)
   have gp:=pq hp
   have gq:=pq hq
   have c1:m * 2+2≤2 * D.length:=by omega
   have c2:(p0 - m) * 2+2≤2 * D.length:=by omega
   have hw5:IntKind.i64.wrap ((p0:Int) - (m:Int))=((p0 - m:Nat):Int):=by rw [w64 (by omega) (by omega)];omega
   have hmD:m<N:=by omega
   have e:=fun s cx=>VT q p rq rp s cx
   have i1:=YW D hR N hDN hN a m0 b mid n p0 hp0 k (m+1) j (by omega) (by omega) h3 (fun c h1 h2=>hcr c (by omega) h2)
   have i2:=YW D hR N hDN hN a m0 b mid n p0 hp0 k i m (by omega) hm1 (by omega) (fun c h1 h2=>hcr c h1 (by omega))
   simp only [Il hp,Il hq] at i1 i2 ⊢
   refine ak fun K hK=>?_
   rw [←hK] at i1 i2
   clear hK
   generalize p0 - m=pm at *
   by_cases hc:q.1<p.1
   ·have hc':q.1 - p.1<0:=by omega
    simp only [hc,decide_true,Bool.not_true]
    simp [obP] at i2
    simp [bC,hij,hw1,hw2,hf,hw3,hw3',hmD,hcN,hw5,obP,hl,gp,gq,c1,c2,e,hc']
    exact i2
   ·have hc':¬q.1 - p.1<0:=by omega
    simp only [hc,decide_false,Bool.not_false,if_true]
    rw [show ((m+1:Nat):Int)=(m:Int)+1 from rfl] at i1
    simp [obP] at i1
    simp [bC,hij,hw1,hw2,hf,hw3,hw3',hmD,hcN,hw5,obP,hl,gp,gq,c1,c2,e,hc',hw4]
    exact i1
  ·have:i=j:=by omega
   subst this
   rw [bsr,if_neg hij]
   refine ak fun K hK=>?_
   simp [bC]
end
end Go.Ai.Z
namespace Go.Ai.Z
def lM (D:List Pb):Prop:=D.Pairwise fun p q=>p.1≤q.1
section
variable {s:St} {l t ver:Nat} (hl:l<s.length) {cx:Ctx} (hcx:cx.lim≤l)
include hl hcx
theorem afl (x:Pb) (i N:Nat) (hN:N≤1000000):∀(Y A T:List Pb) (k:Nat),A.length=k→k+Y.length+1=i→(A++x::(Y++T)).length=N→
  ∃j:Int,eX (aC P0.glob (ah P0) cx false fV) [0,10,13] [(0,.v (.sk l ver 2 0 N)),(10,.v (.i .i64 i)),(13,.v (.i .i64 k))] (s.set l (obP t ver (A++x::(Y++T))))=
   .exit 2 [(0,.v (.sk l ver 2 0 N)),(10,.v (.i .i64 i)),(13,.v (.i .i64 j)),(58,.v (.b false))] (s.set l (obP t ver (A++(Y++x::T))))
 | [],A,T,k,h1,h2,h3=>by
  have hlen:=h3
  simp only [List.length_append,List.length_cons] at hlen
  have w1:IntKind.i64.wrap ((i:Int) - 1)=(i:Int) - 1:=w64 (by omega) (by omega)
  have hlt:¬(k:Int)<(i:Int) - 1:=by simp at h2;omega
  refine ⟨k,ak fun K hK=>?_⟩
  simp [fV,w1,hlt]
 | y::Y,A,T,k,h1,h2,h3=>by
  have hlen:=h3
  simp only [List.length_append,List.length_cons] at hlen h2
  have w1:IntKind.i64.wrap ((i:Int) - 1)=(i:Int) - 1:=w64 (by omega) (by omega)
  have hlt:(k:Int)<(i:Int) - 1:=by omega
  have w2:IntKind.i64.wrap ((k:Int)+1)=((k+1:Nat):Int):=by rw [w64 (by omega) (by omega)];omega
  obtain ⟨j,ih⟩:=afl x i N hN Y (A++[y]) T (k+1) (by simp;omega) (by omega) (by simp;omega)
  have hx:(A++x::(y::Y++T))[k]?=some x:=by simp [←h1]
  have hy:(A++x::(y::Y++T))[k+1]?=some y:=by
   rw [List.getElem?_append_right (by omega)]
   simp [show k+1 - A.length=1 by omega]
  have hsw:=Jv A [] (Y++T) x y (i:=k) (j:=k+1) h1.symm (by simp;omega)
  rw [List.nil_append,List.nil_append,←List.cons_append,Gx hx hy] at hsw
  have gx:=pq hx
  have gy:=pq hy
  have s1:=xW (D:=A++x::(y::Y++T)) (i:=k) y (by rw [h3];omega)
  have s2:=xW (D:=(A++x::(y::Y++T)).set k y) (i:=k+1) x (by rw [List.length_set,h3];omega)
  rw [hsw] at s2
  have e:A++[y]++x::(Y++T)=A++y::x::(Y++T):=by simp
  have e2:A++[y]++(Y++x::T)=A++(y::Y++x::T):=by simp
  rw [e,e2] at ih
  have hkn:k<N:=by omega
  have hkn1:k+1<N:=by omega
  refine ⟨j,ak fun K hK=>?_⟩
  rw [←hK] at ih
  clear hK
  generalize A++x::(y::Y++T)=D at *
  generalize A++y::x::(Y++T)=D1 at *
  generalize A++(y::Y++x::T)=D2 at *
  have c1:k * 2+2≤2 * D.length:=by omega
  have c2:(k+1) * 2+2≤2 * D.length:=by omega
  generalize k+1=k1 at *
  simp [obP] at ih
  simp [fV,w1,hlt,w2,hkn,hkn1,obP,hl,hcx,gx,gy,c1,c2,s1,s2,splice]
  exact ih
theorem afm (y:Pb) (i N:Nat) (hN:N≤1000000):∀(n:Nat) (X A T:List Pb) (k:Nat),X.length=n→A.length=i→i+n=k→(A++(X++y::T)).length=N→
  ∃j:Int,eX (aC P0.glob (ah P0) cx false fU) [0,14,17] [(0,.v (.sk l ver 2 0 N)),(14,.v (.i .i64 i)),(17,.v (.i .i64 k))] (s.set l (obP t ver (A++(X++y::T))))=
   .exit 6 [(0,.v (.sk l ver 2 0 N)),(14,.v (.i .i64 i)),(17,.v (.i .i64 j)),(110,.v (.b false))] (s.set l (obP t ver (A++y::(X++T))))
 | 0,X,A,T,k,h0,h1,h2,h3=>by
  obtain rfl:=List.eq_nil_of_length_eq_zero h0
  have hlt:¬(i:Int)<(k:Int):=by omega
  refine ⟨k,ak fun K hK=>?_⟩
  simp [fU,hlt]
 | n+1,X,A,T,k,h0,h1,h2,h3=>by
  obtain ⟨X',x,rfl⟩:∃X' x,X=X'++[x]:=by
   rcases List.eq_nil_or_concat X with h|⟨X',x,h⟩
   ·subst h;simp at h0
   ·exact ⟨X',x,by simpa using h⟩
  have hlen:=h3
  simp only [List.length_append,List.length_cons,List.length_nil] at hlen h0
  have hlt:(i:Int)<(k:Int):=by omega
  obtain ⟨k1,hk1⟩:∃k1,k=k1+1:=⟨k - 1,by omega⟩
  have w2:IntKind.i64.wrap ((k:Int) - 1)=(k1:Int):=by rw [w64 (by omega) (by omega)];omega
  obtain ⟨j,ih⟩:=afm y i N hN n X' A (x::T) k1 (by omega) h1 (by omega) (by simp;omega)
  have eD:A++(X'++[x]++y::T)=(A++X')++x::y::T:=by simp
  have hlA:(A++X').length=k1:=by simp;omega
  rw [eD] at h3 ⊢
  have hx:((A++X')++x::y::T)[k1]?=some x:=by rw [←hlA];simp
  have hy:((A++X')++x::y::T)[k]?=some y:=by
   rw [List.getElem?_append_right (by omega)]
   simp only [show k - (A++X').length=1 by omega]
   rfl
  have hsw:(((A++X')++x::y::T).set k x).set k1 y=A++(X'++y::x::T):=by
   have:=Jv (A++X') [] T x y (i:=k1) (j:=k) hlA.symm (by simp;omega)
   rw [List.nil_append,List.nil_append,Gx hx hy,List.set_comm _ _ (by omega)] at this
   rw [this];simp
  have gx:=pq hx
  have gy:=pq hy
  have s1:=xW (D:=(A++X')++x::y::T) (i:=k) x (by rw [h3];omega)
  have s2:=xW (D:=((A++X')++x::y::T).set k x) (i:=k1) y (by rw [List.length_set,h3];omega)
  rw [hsw] at s2
  have e2:A++y::(X'++x::T)=A++y::(X'++[x]++T):=by simp
  rw [e2] at ih
  have hkn:k<N:=by omega
  have hkn1:k1<N:=by omega
  refine ⟨j,ak fun K hK=>?_⟩
  rw [←hK] at ih
  clear hK
  generalize (A++X')++x::y::T=D at *
  generalize A++(X'++y::x::T)=D1 at *
  generalize A++y::(X'++[x]++T)=D2 at *
  have c1:k * 2+2≤2 * D.length:=by omega
  have c2:k1 * 2+2≤2 * D.length:=by omega
  clear hk1
  simp [obP] at ih
  simp [fU,hlt,w2,hkn,hkn1,obP,hl,hcx,gx,gy,c1,c2,s1,s2,splice]
  exact ih
theorem ac9 (y:Pb) (a b i N:Nat) (hN:N≤1000000):∀(n:Nat) (X A T:List Pb) (k:Nat),X.length=n→A.length=a→a+n=k→(A++(X++y::T)).length=N→yO (A++(X++y::T))→
  ∃(j:Int) (Z:List Pb),eX (aC P0.glob (ah P0) cx false dD) [0,1,2,3,8,9] [(0,.v (.sk l ver 2 0 N)),(1,.v (.i .i64 a)),(2,.v (.i .i64 b)),(3,.v (.fn (.func ai) [] [])),(8,.v (.i .i64 i)),(9,.v (.i .i64 k))] (s.set l (obP t ver (A++(X++y::T))))=
    .exit 2 [(0,.v (.sk l ver 2 0 N)),(1,.v (.i .i64 a)),(2,.v (.i .i64 b)),(3,.v (.fn (.func ai) [] [])),(8,.v (.i .i64 i)),(9,.v (.i .i64 j)),(34,.v (.b false))] (s.set l (obP t ver (A++(Z++T))))∧
    Z.Perm (X++[y])∧(lM X→lM Z)
 | 0,X,A,T,k,h0,h1,h2,h3,hR=>by
  obtain rfl:=List.eq_nil_of_length_eq_zero h0
  have hlt:¬(a:Int)<(k:Int):=by omega
  refine ⟨k,[y],ak fun K hK=>?_,by simp,fun _=>by simp [lM]⟩
  simp [dD,hlt]
 | n+1,X,A,T,k,h0,h1,h2,h3,hR=>by
  obtain ⟨X',x,rfl⟩:∃X' x,X=X'++[x]:=by
   rcases List.eq_nil_or_concat X with h|⟨X',x,h⟩
   ·subst h;simp at h0
   ·exact ⟨X',x,by simpa using h⟩
  have hlen:=h3
  simp only [List.length_append,List.length_cons,List.length_nil] at hlen h0
  have hlt:(a:Int)<(k:Int):=by omega
  obtain ⟨k1,hk1⟩:∃k1,k=k1+1:=⟨k - 1,by omega⟩
  have w2:IntKind.i64.wrap ((k:Int) - 1)=(k1:Int):=by rw [w64 (by omega) (by omega)];omega
  have eD:A++(X'++[x]++y::T)=(A++X')++x::y::T:=by simp
  have hlA:(A++X').length=k1:=by simp;omega
  have rx:=hR x (by simp)
  have ry:=hR y (by simp)
  have ex:=fun s cx=>VT y x ry rx s cx
  have hkn:k<N:=by omega
  have hkn1:k1<N:=by omega
  have hx:((A++X')++x::y::T)[k1]?=some x:=by rw [←hlA];simp
  have hy:((A++X')++x::y::T)[k]?=some y:=by
   rw [List.getElem?_append_right (by omega)]
   simp only [show k - (A++X').length=1 by omega]
   rfl
  have gx:=pq hx
  have gy:=pq hy
  by_cases hc:y.1<x.1
  ·have hc':y.1 - x.1<0:=by omega
   obtain ⟨j,Z,ih,z1,z2⟩:=ac9 y a b i N hN n X' A (x::T) k1 (by omega) h1 (by omega) (by simp;omega) (fun p hp=>hR p (by simp at hp ⊢;rcases hp with h|h|h|h|h<;>simp [h]))
   rw [eD] at h3 ⊢
   have hsw:(((A++X')++x::y::T).set k x).set k1 y=A++(X'++y::x::T):=by
    have:=Jv (A++X') [] T x y (i:=k1) (j:=k) hlA.symm (by simp;omega)
    rw [List.nil_append,List.nil_append,Gx hx hy,List.set_comm _ _ (by omega)] at this
    rw [this];simp
   have s1:=xW (D:=(A++X')++x::y::T) (i:=k) x (by rw [h3];omega)
   have s2:=xW (D:=((A++X')++x::y::T).set k x) (i:=k1) y (by rw [List.length_set,h3];omega)
   rw [hsw] at s2
   have e2:A++(Z++x::T)=A++(Z++[x]++T):=by simp
   rw [e2] at ih
   refine ⟨j,Z++[x],ak fun K hK=>?_, ?_,fun hs=>?_⟩
   ·rw [←hK] at ih
    clear hK
    generalize (A++X')++x::y::T=D at *
    generalize A++(X'++y::x::T)=D1 at *
    generalize A++(Z++[x]++T)=D2 at *
    have c1:k * 2+2≤2 * D.length:=by omega
    have c2:k1 * 2+2≤2 * D.length:=by omega
    clear hk1
    simp [obP] at ih
    simp [dD,hlt,w2,hkn,hkn1,obP,hl,hcx,gx,gy,c1,c2,s1,s2,splice,ex,hc']
    exact ih
   ·refine (z1.append_right [x]).trans ?_
    rw [List.append_assoc,List.append_assoc]
    exact List.Perm.append_left X' (List.Perm.swap x y []).symm.symm
   ·unfold lM at hs ⊢
    rw [List.pairwise_append] at hs ⊢
    refine ⟨z2 hs.1,by simp,fun p hp q hq=>?_⟩
    simp at hq;subst hq
    have:=(z1.mem_iff).1 hp
    simp at this
    rcases this with h|h
    ·exact hs.2.2 p h _ (by simp)
    ·subst h;omega
  ·have hc':¬y.1 - x.1<0:=by omega
   rw [eD] at h3 ⊢
   refine ⟨k,X'++[x]++[y],ak fun K hK=>?_,.refl _,fun hs=>?_⟩
   ·clear hK
    rw [show A++(X'++[x]++[y]++T)=(A++X')++x::y::T by simp]
    generalize (A++X')++x::y::T=D at *
    have c1:k * 2+2≤2 * D.length:=by omega
    have c2:k1 * 2+2≤2 * D.length:=by omega
    clear hk1
    simp [dD,hlt,w2,hkn,hkn1,obP,hl,hcx,gx,gy,c1,c2,splice,ex,hc']
   ·unfold lM at hs ⊢
    rw [List.pairwise_append] at hs ⊢
    refine ⟨List.pairwise_append.2 hs,by simp,fun p hp q hq=>?_⟩
    simp at hq;subst hq
    simp at hp
    rcases hp with h|h
    ·have:=hs.2.2 p h x (by simp);omega
    ·subst h;omega
end
end Go.Ai.Z
