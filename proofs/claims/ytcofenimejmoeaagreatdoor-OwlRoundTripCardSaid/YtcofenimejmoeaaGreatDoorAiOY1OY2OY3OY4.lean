/-
 The reference's equality of axioms.
-/
import Derived.Test.YtcofenimejmoeaaGreatDoorAiK8K9K10K11K12
import Derived.Test.YtcofenimejmoeaaGreatDoorAiOX5OX6OX7OX8OX9OX10
import Derived.Test.YtcofenimejmoeaaGreatDoorAiOW1OW2OW3OW4OW5
set_option maxRecDepth 100000
set_option linter.unusedSimpArgs false
set_option linter.unusedVariables false
set_option linter.unusedSectionVars false
namespace Go.Ai.Z
open Go.Ai
inductive SmC:C→C→Prop where
 | mk (k:Int) (n:Rl) (l h:Int) (z w:Bool) (ps qs:List C) (hl:ps.length=qs.length) (hb:ps.length≤1000000)
   (hp:∀(i:Nat) (p q:C),ps[i]?=some p→qs[i]?=some q→SmC p q):SmC (.mk k n l h z ps) (.mk k n l h w qs)
theorem adR (k:Int) (n:Rl) (l h:Int) (z w:Bool) (ps qs:List C) (hl:ps.length=qs.length) (hb:ps.length≤1000000)
  (hp:∀(i:Nat) (p q:C),ps[i]?=some p→qs[i]?=some q→∀(s:St) (cx:Ctx),aj P0 (.fn (.func pF) [] []) [aJ p,aJ q] s cx=.ret (.b true) s) (s:St) (cx:Ctx):∀(rest:List C) (i:Nat),ps.drop i=rest→i≤ps.length→
  gQ (aB P0.glob (aj P0) cx false vz) [2,3,5] [(2,.bx [.i .i64 k,.s n,.i .i64 l,.i .i64 h,slf z (ps.map aJ)]),(3,.bx [.i .i64 k,.s n,.i .i64 l,.i .i64 h,slf w (qs.map aJ)]),(5,.v (.i .i64 i))] s=
   .exit 0 [(2,.bx [.i .i64 k,.s n,.i .i64 l,.i .i64 h,slf z (ps.map aJ)]),(3,.bx [.i .i64 k,.s n,.i .i64 l,.i .i64 h,slf w (qs.map aJ)]),(5,.v (.i .i64 ps.length)),(45,.v (.b false))] s
 | [],i,hd,hi=>by
  have h1:i=ps.length:=by have:=drop_nil hd;omega
  subst h1;refine ak fun K hK=>?_;simp -implicitDefEqProofs [vz]
 | c::rest,i,hd,hi=>by
  obtain ⟨h1,h2,h3,h4⟩:=drop_cons hd;have hq:i<qs.length:=by omega
  have h5:qs[i]?=some qs[i]:=List.getElem?_eq_getElem hq;have e1:=hp i c qs[i] h1 h5;generalize qs[i]=d at *;have hwi:=wI (i:=i) (by omega);have ih:=adR k n l h z w ps qs hl hb hp s cx rest (i+1) h2 (by omega);refine ak fun K hK=>?_;rw [←hK,show ((i+1:Nat):Int)=(i:Int)+1 from rfl] at ih;clear hK h4 hd hp;rw [←ih];clear ih;have g1:(ps.map aJ)[i]?=some (aJ c):=by rw [List.getElem?_map,h1];rfl
  have g2:(qs.map aJ)[i]?=some (aJ d):=by rw [List.getElem?_map,h5];rfl
  have z1:(ps.map aJ).length=ps.length:=List.length_map _;generalize ps.map aJ=P at *;generalize qs.map aJ=Q at *;have h3i:(i:Int)<(ps.length:Int):=by omega
  simp -implicitDefEqProofs [vz,z1,h3i,g1,g2,e1,hwi]
theorem aeP {a b:C} (h:SmC a b):∀(s:St) (cx:Ctx),aj P0 (.fn (.func pF) [] []) [aJ a,aJ b] s cx=.ret (.b true) s:=by
 induction h with
 | mk k n l h z w ps qs hl hb hp ih=>
  intro s cx;refine Tt (by simp) ?_;have e1:=adR k n l h z w ps qs hl hb ih s ⟨s.length,s.length⟩ ps 0 rfl (by omega);rw [show ((0:Nat):Int)=0 from rfl] at e1;rw [xX,xX (.mk k n l h w qs)];simp -implicitDefEqProofs [-UL,af,zf,e1,hl]
theorem aaw (ps:List Rl) (z w:Bool) (hb:ps.length≤1000000) (s:St) (cx:Ctx):∀(rest:List Rl) (i:Nat),ps.drop i=rest→i≤ps.length→
  gQ (aB P0.glob (aj P0) cx false oZ) [0,1,5] [(0,.v (slf z (ps.map .s))),(1,.v (slf w (ps.map .s))),(5,.v (.i .i64 i))] s=
   .exit 0 [(0,.v (slf z (ps.map .s))),(1,.v (slf w (ps.map .s))),(5,.v (.i .i64 ps.length)),(14,.v (.b false))] s
 | [],i,hd,hi=>by
  have h1:i=ps.length:=by have:=drop_nil hd;omega
  subst h1;refine ak fun K hK=>?_;simp -implicitDefEqProofs [oZ]
 | c::rest,i,hd,hi=>by
  obtain ⟨h1,h2,h3,h4⟩:=drop_cons hd;have hwi:=wI (i:=i) (by omega);have ih:=aaw ps z w hb s cx rest (i+1) h2 (by omega);refine ak fun K hK=>?_;rw [←hK,show ((i+1:Nat):Int)=(i:Int)+1 from rfl] at ih;clear hK h4 hd;rw [←ih];clear ih;have g1:(ps.map AV.s)[i]?=some (.s c):=by rw [List.getElem?_map,h1];rfl
  have z1:(ps.map AV.s).length=ps.length:=List.length_map _;generalize ps.map AV.s=P at *;have h3i:(i:Int)<(ps.length:Int):=by omega
  simp -implicitDefEqProofs [oZ,z1,h3i,g1,hwi]
theorem agv (ps:List Rl) (z w:Bool) (hb:ps.length≤1000000) (s:St) (cx:Ctx):aj P0 (.fn (.func qU) [] []) [slf z (ps.map .s),slf w (ps.map .s)] s cx=.ret (.b true) s:=by
 refine KX (by simp) ?_;have e1:=aaw ps z w hb s ⟨s.length,s.length⟩ ps 0 rfl (by omega);rw [show ((0:Nat):Int)=0 from rfl] at e1;simp -implicitDefEqProofs [af,uh,e1]
structure SmA (x y:Ax):Prop where
 kind:x.kind=y.kind
 op:x.op=y.op
 l:SmC x.left y.left
 r:SmC x.right y.right
 roles:x.roles=y.roles
 rb:x.roles.length≤1000000
 role:x.role=y.role
 a:x.a=y.a
 b:x.b=y.b
theorem agw {x y:Ax} (h:SmA x y) (s:St) (cx:Ctx):aj P0 (.fn (.func pz) [] []) [cu x,cu y] s cx=.ret (.b true) s:=by
 refine Jt (by simp) ?_;have e1:=aeP h.l;have e2:=aeP h.r;have e3:=agv x.roles x.z y.z h.rb
 have e4:∀b:Bool,(b == b)=true:=fun b=>by cases b<;>rfl
 rw [xX,xX y.left] at e1;rw [xX,xX y.right] at e2;obtain ⟨k1,o1,l1,r1,z1,R1,ro1,a1,b1⟩:=x;obtain ⟨k2,o2,l2,r2,z2,R2,ro2,a2,b2⟩:=y;obtain ⟨h1,h2,_,_,h5,_,h6,h7,h8⟩:=h;simp only at h1 h2 h5 h6 h7 h8 e1 e2 e3;subst h1 h2 h5 h6 h7 h8
 cases o1<;>simp -implicitDefEqProofs [-UL,af,rY,e1,e2,e3]
theorem aav (X Y:List Ax) (z w:Bool) (hl:X.length=Y.length) (hb:X.length≤1000000) (hp:∀(i:Nat) (p q:Ax),X[i]?=some p→Y[i]?=some q→SmA p q) (s:St) (cx:Ctx):∀(rest:List Ax) (i:Nat),X.drop i=rest→i≤X.length→
  gQ (aB P0.glob (aj P0) cx false nM) [0,1,5] [(0,.v (slf z (X.map cu))),(1,.v (slf w (Y.map cu))),(5,.v (.i .i64 i))] s=
   .exit 0 [(0,.v (slf z (X.map cu))),(1,.v (slf w (Y.map cu))),(5,.v (.i .i64 X.length)),(14,.v (.b false))] s
 | [],i,hd,hi=>by
  have h1:i=X.length:=by have:=drop_nil hd;omega
  subst h1;refine ak fun K hK=>?_;simp -implicitDefEqProofs [nM]
 | c::rest,i,hd,hi=>by
  obtain ⟨h1,h2,h3,h4⟩:=drop_cons hd;have hq:i<Y.length:=by omega
  have h5:Y[i]?=some Y[i]:=List.getElem?_eq_getElem hq;have e1:=agw (hp i c Y[i] h1 h5);generalize Y[i]=d at *;have hwi:=wI (i:=i) (by omega);have ih:=aav X Y z w hl hb hp s cx rest (i+1) h2 (by omega);refine ak fun K hK=>?_;rw [←hK,show ((i+1:Nat):Int)=(i:Int)+1 from rfl] at ih;clear hK h4 hd hp;rw [←ih];clear ih;have g1:(X.map cu)[i]?=some (cu c):=by rw [List.getElem?_map,h1];rfl
  have g2:(Y.map cu)[i]?=some (cu d):=by rw [List.getElem?_map,h5];rfl
  have z1:(X.map cu).length=X.length:=List.length_map _;generalize X.map cu=P at *;generalize Y.map cu=Q at *;have h3i:(i:Int)<(X.length:Int):=by omega
  simp -implicitDefEqProofs [nM,z1,h3i,g1,g2,e1,hwi]
theorem aeO (X Y:List Ax) (z w:Bool) (hl:X.length=Y.length) (hb:X.length≤1000000) (hp:∀(i:Nat) (p q:Ax),X[i]?=some p→Y[i]?=some q→SmA p q) (s:St) (cx:Ctx):
  aj P0 (.fn (.func oD) [] []) [slf z (X.map cu),slf w (Y.map cu)] s cx=.ret (.b true) s:=by
 refine H7 (by simp) ?_;have e1:=aav X Y z w hl hb hp s ⟨s.length,s.length⟩ X 0 rfl (by omega);rw [show ((0:Nat):Int)=0 from rfl] at e1;simp -implicitDefEqProofs [af,qy,e1,hl]
end Go.Ai.Z
namespace Go.Ai.Z
open Go.Ai
abbrev Tx:=Int×Rl
theorem acr {c:UInt8} (h:(c.toNat:Int)=35):DK c=true:=by unfold DK;rw [h];rfl
theorem J4:∀(n m:Nat) (v:Rl),v.length≤n→v.length≤m→skN n v=skN m v
 | 0,m,v,h1,h2=>by
  cases v with
  | nil=>cases m<;>rfl
  | cons c r=>simp at h1
 | n+1,m,[],h1,h2=>by cases m<;>rfl
 | n+1,0,c::r,h1,h2=>by simp at h2
 | n+1,m+1,c::r,h1,h2=>by
  simp at h1 h2;unfold skN;split
  ·rw [J4 n m r h1 h2]
  split
  ·rename_i hc;have hk:1≤lu DK (c::r):=by simp [lu,acr hc]
   have hd:((c::r).drop (lu DK (c::r))).length≤r.length:=by rw [List.length_drop];simp;omega
   rw [J4 n m _ (by omega) (by omega)]
  ·rfl
def skp (v:Rl):Rl:=v.drop (skN v.length v)
def Nx (v:Rl) (t:Tx) (w:Rl):Prop:=skp v=t.2++w∧t.2≠[]∧kS (t.2++w)=(t.1,t.2.length)
def Ly (P:Rl→Prop):Rl→List Tx→Prop
 | v,[]=>P v
 | v,t::L=>∃w,Nx v t w∧Ly P w L
def NxE (v:Rl):Prop:=skp v=[]
def My (P:Rl→Prop) (src:Rl) (r:Rd) (L:List Tx):Prop:=
 match r.ah with
 | []=>Ly P (src.drop r.at_) L
 | t::_=>∃M,L=(t.1,t.2.1)::M∧Ly P (src.drop r.at_) M
structure Fq (r q:Rd):Prop where
 pre:q.pre=r.pre
 iri:q.iri=r.iri
 op:q.op=r.op
 ax:q.ax=r.ax
theorem Fq.rfl' (r:Rd):Fq r r:=⟨rfl,rfl,rfl,rfl⟩
theorem Fq.tr {r q p:Rd} (h:Fq r q) (g:Fq q p):Fq r p:=⟨g.pre.trans h.pre,g.iri.trans h.iri,g.op.trans h.op,g.ax.trans h.ax⟩
theorem Fq.ps {r q:Rd} (h:Fq r q):Fq r (bY q):=⟨h.pre,h.iri,h.op,h.ax⟩
section
variable {P:Rl→Prop} {src:Rl}
theorem qw {r:Rd} {t:Tx} {L:List Tx} (h:My P src r (t::L)):∃a q,iH src r=.ok (t.1,t.2,a) q∧My P src q (t::L)∧My P src (bY q) L∧Fq r q:=by
 unfold My at h;unfold iH
 cases hh:r.ah with
 | cons u U=>
  rw [hh] at h;obtain ⟨M,h1,h2⟩:=h;rw [List.cons.injEq] at h1;obtain ⟨h1,rfl⟩:=h1;subst h1;refine ⟨u.2.2,r,rfl, ?_, ?_,Fq.rfl' r⟩
  ·unfold My;rw [hh];exact ⟨_,rfl,h2⟩
  ·exact h2
 | nil=>
  rw [hh] at h;obtain ⟨w,⟨h1,h2,h3⟩,h4⟩:=h
  have hs:src.drop (skO src r.at_)=t.2++w:=by
   unfold skO;rw [←List.drop_drop,J4 src.length (src.drop r.at_).length _ (by rw [List.length_drop];omega) (Nat.le_refl _)];exact h1
  have hlt:skO src r.at_<src.length:=by
   apply Classical.byContradiction;intro hc;rw [List.drop_eq_nil_of_le (by omega)] at hs
   cases ht:t.2 with
   | nil=>exact h2 ht
   | cons a b=>rw [ht] at hs;cases hs
  have hl:t.2.length≠0:=fun hc=>h2 (List.length_eq_zero_iff.1 hc);have htk:(t.2++w).take t.2.length=t.2:=by simp
  have hdr:src.drop (skO src r.at_+t.2.length)=w:=by rw [←List.drop_drop,hs];simp
  rw [if_pos hlt,hs,h3,if_neg hl,htk];refine ⟨skO src r.at_,_,rfl, ?_, ?_,⟨rfl,rfl,rfl,rfl⟩⟩
  ·exact ⟨L,rfl,by show Ly P (src.drop (skO src r.at_+t.2.length)) L;rw [hdr];exact h4⟩
  ·show Ly P (src.drop (skO src r.at_+t.2.length)) L;rw [hdr];exact h4
theorem ahW {r:Rd} (h:My NxE src r []):∃a q,iH src r=.ok (5,[],a) q∧Fq r q:=by
 unfold My at h;unfold iH
 cases hh:r.ah with
 | cons u U=>rw [hh] at h;obtain ⟨M,h1,_⟩:=h;cases h1
 | nil=>
  rw [hh] at h
  have hs:src.drop (skO src r.at_)=[]:=by
   unfold skO;rw [←List.drop_drop,J4 src.length (src.drop r.at_).length _ (by rw [List.length_drop];omega) (Nat.le_refl _)];exact h
  rw [if_neg (by have:=List.drop_eq_nil_iff.1 hs;omega)];exact ⟨_,_,rfl,⟨rfl,rfl,rfl,rfl⟩⟩
theorem zO {r:Rd} {t:Tx} {L:List Tx} (h:My P src r (t::L)) (w:Rl):∃q,isR src w r=.ok (decide (t.2=w)) q∧My P src q (t::L)∧My P src (bY q) L∧Fq r q:=by
 obtain ⟨a,q,h1,h2,h3,h4⟩:=qw h;exact ⟨q,by unfold isR;rw [h1];rfl,h2,h3,h4⟩
theorem lG {r:Rd} {t:Tx} {L:List Tx} (h:My P src r (t::L)) {w:Rl} (ht:t.2=w):∃q,lI src w r=.ok () q∧My P src q L∧Fq r q:=by
 obtain ⟨q,h1,h2,h3,h4⟩:=zO h w;refine ⟨bY q, ?_,h3,h4.ps⟩;unfold lI;rw [h1,decide_eq_true ht];rfl
theorem QC {r:Rd} {t:Tx} {L:List Tx} (h:My P src r (t::L)) {w p:Rl} (ht:t.2=w) (hp:p∈r.pre):∃q,Lj src w p r=.ok () q∧My P src q L∧Fq r q:=by
 obtain ⟨q,h1,h2,h3,h4⟩:=zO h w;refine ⟨bY q, ?_,h3,h4.ps⟩;unfold Lj;rw [h1,decide_eq_true ht];simp only [OR.bind_ok,h4.pre,hp,decide_true,Bool.and_self,pq]
structure NmP (pre:List Rl) (n:Rl):Prop where
 ne:n≠[]
 own:(58:UInt8) ∉ n→([58]:Rl)∈pre
 far:∀x y,lC 58 n=some (x,y)→x≠[]∧y≠[]∧(58:UInt8) ∉ y∧x++[58]∈pre∧x≠[111,119,108]∧x≠[120,115,100]
theorem adD {pre:List Rl} {n:Rl} (h:NmP pre n) (a:Nat):QB pre (4,owN n,a)=true∧WN (owN n)=n:=by
 unfold owN;by_cases q:(58:UInt8)∈n
 ·rw [if_pos q]
  obtain ⟨x,y,hc⟩:∃x y,lC 58 n=some (x,y):=by
   cases hc:lC 58 n with
   | none=>exact absurd q (yU.1 hc)
   | some p=>exact ⟨p.1,p.2,rfl⟩
  obtain ⟨h1,h2,h3,h4,h5,h6⟩:=h.far x y hc;have he:=wu hc;constructor
  ·unfold QB;simp only [hc]
   have hy:y.isEmpty=false:=by cases y<;>simp_all
   simp [hy,h3,h4,h5,h6]
  ·unfold WN trimB
   cases n with
   | nil=>rfl
   | cons c r=>
    have hcc:c≠58:=by
     intro hc2;subst hc2;simp [lC] at hc;exact h1 hc.1
    simp only;rw [if_neg hcc]
 ·rw [if_neg q]
  have hn:n.isEmpty=false:=by
   cases n with
   | nil=>exact absurd rfl h.ne
   | cons=>rfl
  constructor
  ·unfold QB;simp only [lC,if_true];simp [hn,q,h.own q]
  ·simp [WN,trimB]
theorem rU {r:Rd} {n:Rl} {L:List Tx} (h:My P src r ((4,owN n)::L)) (hn:NmP r.pre n):∃q,nY src r=.ok n q∧My P src q L∧Fq r q:=by
 obtain ⟨a,q,h1,h2,h3,h4⟩:=qw h;obtain ⟨k1,k2⟩:=adD hn a;refine ⟨bY q, ?_,h3,h4.ps⟩;unfold nY;rw [h1];simp only [OR.bind_ok,h4.pre,k1,pq,k2]
end
theorem aa9 {c:UInt8} (h:c=32∨c=10) (v:Rl):skp (c::v)=skp v:=by
 unfold skp
 have:skN (c::v).length (c::v)=1+skN v.length v:=by
  simp only [List.length_cons,skN]
  rw [if_pos (by rcases h with rfl|rfl<;>simp)]
 rw [this,Nat.add_comm];rfl
theorem Fe {c:UInt8} (h:¬((c.toNat:Int)=9∨(c.toNat:Int)=10∨(c.toNat:Int)=13∨(c.toNat:Int)=32)) (h2:¬(c.toNat:Int)=35) (v:Rl):skp (c::v)=c::v:=by
 unfold skp
 have:skN (c::v).length (c::v)=0:=by simp only [List.length_cons,skN];rw [if_neg h,if_neg h2]
 rw [this];rfl
theorem adB {c:UInt8} (h:c=32∨c=10) {v w:Rl} {t:Tx} (hx:Nx v t w):Nx (c::v) t w:=by
 unfold Nx;rw [aa9 h];exact hx
theorem adL {P:Rl→Prop} {c:UInt8} (h:c=32∨c=10) {v:Rl} {t:Tx} {L:List Tx} (hx:Ly P v (t::L)):Ly P (c::v) (t::L):=by
 obtain ⟨w,h1,h2⟩:=hx;exact ⟨w,adB h h1,h2⟩
theorem afY {c:UInt8} (h:c=40∨c=41∨c=61) (v:Rl):Nx (c::v) (1,[c]) v:=by
 unfold Nx;refine ⟨?_,by simp, ?_⟩
 ·rw [Fe]<;>rcases h with rfl|rfl|rfl<;>simp
 ·rcases h with rfl|rfl|rfl<;>simp [kS]
theorem adA (v:Rl):Nx (94::94::v) (1,[94,94]) v:=by
 unfold Nx;refine ⟨?_,by simp, ?_⟩
 ·rw [Fe]<;>simp
 ·simp [kS]
theorem aaU {c:UInt8} (h:zU c=true):¬((c.toNat:Int)=9∨(c.toNat:Int)=10∨(c.toNat:Int)=13∨(c.toNat:Int)=32)∧¬(c.toNat:Int)=35∧¬((c.toNat:Int)=40∨(c.toNat:Int)=41∨(c.toNat:Int)=61)∧¬(c.toNat:Int)=94∧¬(c.toNat:Int)=60∧¬(c.toNat:Int)=34:=by
 unfold zU wdI ltI at h;simp only [Bool.or_eq_true,Bool.and_eq_true,decide_eq_true_eq] at h;omega
theorem JZ {p:UInt8→Bool}:∀{w:Rl},w.all p=true→∀{v:Rl},(∀c∈v.head?,p c=false)→lu p (w++v)=w.length
 | [],_,v,hv=>by
  cases v with
  | nil=>rfl
  | cons c v=>have:=hv c (by simp);simp [lu,this]
 | c::w,h,v,hv=>by
  rw [List.all_cons,Bool.and_eq_true] at h;have ih:=JZ (p:=p) h.2 hv;unfold lu at ih ⊢;simp [h.1,ih]
theorem afX {w:Rl} (hw:w.all zU=true) (hn:w≠[]) {v:Rl} (hv:∀c∈v.head?,zU c=false):Nx (w++v) (4,w) v:=by
 unfold Nx
 cases w with
 | nil=>exact absurd rfl hn
 | cons c w=>
  have hc:zU c=true:=by rw [List.all_cons,Bool.and_eq_true] at hw;exact hw.1
  obtain ⟨h1,h2,h3,h4,h5,h6⟩:=aaU hc;refine ⟨by rw [List.cons_append,Fe h1 h2],hn, ?_⟩;have hs:=JZ hw hv;rw [List.cons_append] at hs ⊢;simp only [kS,if_neg h3,if_neg h4,if_neg h5,if_neg h6,hs]
theorem ahR {p:Rl} (hp:p.all MN=true) (v:Rl):Nx (60::(p++62::v)) (2,60::(p++[62])) v:=by
 unfold Nx;have hs:lu MN (p++62::v)=p.length:=JZ hp (by intro c hc;simp at hc;subst hc;decide)
 refine ⟨by rw [Fe]<;>simp,by simp, ?_⟩
 have he:Nk MN 62 (60::(p++62::v))=p.length+2:=by
  unfold Nk;rw [List.tail_cons,hs]
  have:(60::(p++62::v))[1+p.length]?=some 62:=by rw [Nat.add_comm];simp
  rw [if_pos this];omega
 simp [kS,he]
theorem ahP {p:Rl} (hp:p.all Vj=true) (v:Rl):Nx (34::(p++34::v)) (3,34::(p++[34])) v:=by
 unfold Nx;have hs:lu Vj (p++34::v)=p.length:=JZ hp (by intro c hc;simp at hc;subst hc;decide)
 refine ⟨by rw [Fe]<;>simp,by simp, ?_⟩
 have he:Nk Vj 34 (34::(p++34::v))=p.length+2:=by
  unfold Nk;rw [List.tail_cons,hs]
  have:(34::(p++34::v))[1+p.length]?=some 34:=by rw [Nat.add_comm];simp
  rw [if_pos this];omega
 simp [kS,he]
end Go.Ai.Z
namespace Go.Ai.Z
open Go.Ai
theorem af6 {b:UInt8} (h:Zj b=true):zU b=true∧b≠58:=by
 unfold Zj ah2 abx at h;simp only [Bool.or_eq_true,Bool.and_eq_true,decide_eq_true_eq] at h;constructor
 ·unfold zU wdI ltI;simp only [Bool.or_eq_true,Bool.and_eq_true,decide_eq_true_eq];omega
 ·rintro rfl;revert h;decide
theorem JY:∀{l:Rl},Ik l=true→l.all zU=true∧(58:UInt8) ∉ l
 | [],_=>⟨rfl,by simp⟩
 | b::r,h=>by
  rw [IV,Bool.and_eq_true] at h;obtain ⟨h1,h2⟩:=JY h.2;obtain ⟨h3,h4⟩:=af6 h.1;exact ⟨by rw [List.all_cons,h3,h1];rfl,by simp [h2,Ne.symm h4]⟩
theorem uD {l:Rl} (h:AB l=true):l≠[]∧l.all zU=true∧(58:UInt8) ∉ l∧(∃c r,l=c::r∧ltI c.toNat=true):=by
 unfold AB at h;rw [Bool.and_eq_true,Bool.and_eq_true] at h;obtain ⟨h1,h2⟩:=JY h.1.2
 cases l with
 | nil=>simp at h
 | cons c r=>exact ⟨by simp,h1,h2,c,r,rfl,h.1.1⟩
def NmV (n:Rl):Prop:=oJ n=true∨L6 n=true
theorem RG {n:Rl} (h:(58:UInt8) ∉ n):lC 58 n=none:=yU.2 h
theorem Ux {n:Rl} (h:NmV n):((58:UInt8) ∉ n∧n≠[]∧n.all zU=true)∨(∃x y,lC 58 n=some (x,y)∧AB x=true∧AB y=true):=by
 rcases h with h|h
 ·unfold oJ at h;rw [Bool.and_eq_true] at h
  cases hc:lC 58 n with
  | none=>
   rw [hc] at h;obtain ⟨h1,h2,h3,_⟩:=uD h.2;exact .inl ⟨h3,h1,h2⟩
  | some p=>
   rw [hc] at h;simp only [Bool.and_eq_true] at h;exact .inr ⟨p.1,p.2,rfl,h.2.1,h.2.2⟩
 ·unfold L6 at h;simp only [Bool.and_eq_true,decide_eq_true_eq] at h;obtain ⟨h1,h2⟩:=JY h.2;exact .inl ⟨h2,by rintro rfl;simp at h,h1⟩
theorem aag {n:Rl} (h:NmV n):(owN n).all zU=true∧owN n≠[]:=by
 unfold owN;rcases Ux h with ⟨h1,h2,h3⟩|⟨x,y,h1,h2,h3⟩
 ·rw [if_neg h1];exact ⟨by rw [List.all_cons,h3];rfl,by simp⟩
 ·have he:=wu h1;rw [if_pos (by rw [he];simp)];obtain ⟨_,k2,_,_⟩:=uD h2;obtain ⟨_,k6,_,_⟩:=uD h3;subst he;refine ⟨?_,by simp⟩;rw [List.all_append,List.all_cons,k2,k6];rfl
structure NmD (pre:List Rl) (n:Rl):Prop where
 own:([58]:Rl)∈pre
 far:∀x y,lC 58 n=some (x,y)→x++[58]∈pre∧x≠[111,119,108]∧x≠[120,115,100]
theorem ahU {pre:List Rl} {n:Rl} (h:NmV n) (hd:NmD pre n):NmP pre n:=by
 rcases Ux h with ⟨h1,h2,h3⟩|⟨x,y,h1,h2,h3⟩
 ·exact ⟨h2,fun _=>hd.own,fun x y hc=>by rw [RG h1] at hc;cases hc⟩
 ·refine ⟨by rintro rfl;simp [lC] at h1,fun _=>hd.own,fun u v hc=>?_⟩;rw [h1] at hc;cases hc;obtain ⟨k1,_⟩:=uD h2;obtain ⟨k5,_,k7,_⟩:=uD h3;obtain ⟨a1,a2,a3⟩:=hd.far _ _ h1;exact ⟨k1,k5,k7,a1,a2,a3⟩
theorem PD (n:Rl):(58:UInt8)∈owN n:=by
 unfold owN;split
 ·assumption
 ·simp
theorem Md {pre:List Rl} {n:Rl} (hn:NmP pre n) (w:Rl) (hw:(58:UInt8) ∉ w∨(∃y,lC 58 w=some ([111,119,108],y))∨(∃y,lC 58 w=some ([120,115,100],y))):owN n≠w:=by
 rintro rfl
 have hc:∃x y,lC 58 (owN n)=some (x,y)∧x≠[111,119,108]∧x≠[120,115,100]:=by
  unfold owN;by_cases q:(58:UInt8)∈n
  ·rw [if_pos q]
   cases hc:lC 58 n with
   | none=>exact absurd q (yU.1 hc)
   | some p=>obtain ⟨_,_,_,_,h5,h6⟩:=hn.far p.1 p.2 hc;exact ⟨p.1,p.2,rfl,h5,h6⟩
  ·rw [if_neg q];exact ⟨[],n,by simp [lC],by simp,by simp⟩
 obtain ⟨x,y,h1,h2,h3⟩:=hc;rcases hw with hw|⟨z,hz⟩|⟨z,hz⟩
 ·exact hw (PD n)
 ·rw [h1] at hz;cases hz;exact h2 rfl
 ·rw [h1] at hz;cases hz;exact h3 rfl
def Par {α:Type} (P:Rl→Prop) (src:Rl) (pre:List Rl) (f:Rd→OR α) (v:α) (T:List Tx):Prop:=
 T≠[]∧(∀t∈T.head?,t.2≠[41])∧∀(r:Rd) (L:List Tx),My P src r (T++L)→r.pre=pre→∃q,f r=.ok v q∧My P src q L∧Fq r q
theorem KE {α:Type} {P:Rl→Prop} {src:Rl} {pre:List Rl} {f:Rd→OR α}:∀(vs:List α) (T:α→List Tx),(∀v∈vs,Par P src pre f v (T v))→∀(g:α→α) (hg:∀v∈vs,g v=v) (n:Nat) (acc:List α) (r:Rd) (L:List Tx),vs.length<n→2≤acc.length+vs.length→r.pre=pre→
  My P src r (vs.flatMap T++(1,[41])::L)→∃q,nZ src f 2 n acc r=.ok (acc++vs) q∧My P src q ((1,[41])::L)∧Fq r q
 | [],T,_,g,hg,n,acc,r,L,hn,ha,hr,h=>by
  obtain ⟨n,rfl⟩:∃k,n=k+1:=⟨n - 1,by simp at hn;omega⟩;obtain ⟨q,h1,h2,h3,h4⟩:=zO (t:=(1,[41])) h [41];refine ⟨q, ?_,h2,h4⟩;unfold nZ;rw [if_neg (by simp at ha;omega),h1];simp
 | v::vs,T,hT,g,hg,n,acc,r,L,hn,ha,hr,h=>by
  obtain ⟨n,rfl⟩:∃k,n=k+1:=⟨n - 1,by simp at hn;omega⟩;obtain ⟨p1,p2,p3⟩:=hT v (by simp);rw [List.flatMap_cons,List.append_assoc] at h
  have key:∀r1,My P src r1 (T v++(vs.flatMap T++(1,[41])::L))→r1.pre=pre→∃q,((f r1).bind fun v r=>nZ src f 2 n (acc++[v]) r)=.ok (acc++v::vs) q∧My P src q ((1,[41])::L)∧Fq r1 q:=fun r1 h1 hr1=>by
   obtain ⟨q,e1,e2,e3⟩:=p3 r1 _ h1 hr1;obtain ⟨q2,e4,e5,e6⟩:=KE vs T (fun u hu=>hT u (by simp [hu])) g (fun u hu=>hg u (by simp [hu])) n (acc++[v]) q L (by simp at hn;omega) (by simp at ha ⊢;omega) (e3.pre.trans hr1) e2;exact ⟨q2,by rw [e1,OR.bind_ok,e4];simp,e5,e3.tr e6⟩
  unfold nZ;by_cases z:acc.length<2
  ·rw [if_pos z];simp only [OR.bind_ok,Bool.false_eq_true,if_false];exact key r h hr
  ·rw [if_neg z]
   cases hT':T v with
   | nil=>exact absurd hT' p1
   | cons t T'=>
    have hd:=p2 t (by rw [hT'];rfl);rw [hT',List.cons_append] at h;obtain ⟨q,h1,h2,h3,h4⟩:=zO h [41];rw [h1,decide_eq_false hd];simp only [OR.bind_ok,Bool.false_eq_true,if_false];obtain ⟨q2,k1,k2,k3⟩:=key q (by rw [hT',List.cons_append];exact h2) (h4.pre.trans hr);exact ⟨q2,k1,k2,h4.tr k3⟩
def Uu:List Tx:=[(4,wB9),(1,[40]),(4,[58,111,112,101,110]),(3,wD2),(1,[41])]
theorem Xo {P:Rl→Prop} {src:Rl} {r:Rd} {t:Tx} {L:List Tx} (n:Nat) (h:My P src r (t::L)) (ht:t.2≠wB9):∃q,qF src (n+1) r=.ok () q∧My P src q (t::L)∧Fq r q:=by
 obtain ⟨q,h1,h2,h3,h4⟩:=zO h wB9;refine ⟨q, ?_,h2,h4⟩;unfold qF;rw [h1,decide_eq_false ht];simp
theorem adG {P:Rl→Prop} {src:Rl} {r:Rd} {t:Tx} {L:List Tx} (n:Nat) (b:Bool) (h:My P src r ((if b=true then Uu else [])++t::L)) (ht:t.2≠wB9) (hp:([58]:Rl)∈r.pre) (ho:r.op=false):
  ∃q,qF src (n+2) r=.ok () q∧My P src q (t::L)∧q.pre=r.pre∧q.iri=r.iri∧q.op=b∧q.ax=r.ax:=by
 cases b with
 | false=>
  obtain ⟨q,h1,h2,h3⟩:=Xo (n+1) h ht;exact ⟨q,h1,h2,h3.pre,h3.iri,h3.op.trans ho,h3.ax⟩
 | true=>
  simp only [if_true,Uu,List.cons_append,List.nil_append] at h;obtain ⟨q,h1,h2,h3,h4⟩:=zO h wB9;obtain ⟨q1,a1,a2,a3⟩:=lG h3 (w:=[40]) rfl;obtain ⟨q2,b1,b2,b3⟩:=rU (n:=[111,112,101,110]) (r:=q1) (by exact a2) ⟨by simp,fun _=>by rw [a3.pre];show _∈q.pre;rw [h4.pre];exact hp,fun x y hc=>by simp [lC] at hc⟩;obtain ⟨a,q3,c1,c2,c3,c4⟩:=qw b2;obtain ⟨q4,d1,d2,d3⟩:=lG c3 (w:=[41]) rfl;obtain ⟨q5,f1,f2,f3⟩:=Xo (src:=src) (P:=P) (r:={ q4 with op:=true }) n (t:=t) (L:=L) d2 ht;refine ⟨q5, ?_,f2, ?_, ?_,f3.op, ?_⟩
  ·unfold qF;rw [h1];simp only [decide_true,OR.bind_ok,if_true,a1,b1,c1,pq,d1]
   have:q4.op || (decide True && decide True)=true:=by simp
   simpa using f1
  ·rw [f3.pre];show q4.pre=_;rw [d3.pre];show q3.pre=_;rw [c4.pre,b3.pre,a3.pre];exact h4.pre
  ·rw [f3.iri];show q4.iri=_;rw [d3.iri];show q3.iri=_;rw [c4.iri,b3.iri,a3.iri];exact h4.iri
  ·rw [f3.ax];show q4.ax=_;rw [d3.ax];show q3.ax=_;rw [c4.ax,b3.ax,a3.ax];exact h4.ax
theorem Xg (N a0:Nat):∀(xs l:List Ax) (r:Rd),(∀x∈xs,iR { x with op:=r.op }=0)→∃A,BH N a0 xs l r=.ok (l++xs.map fun x=>{ x with op:=r.op }) { r with ax:=A }
 | [],l,r,_=>⟨r.ax,by simp [BH]⟩
 | x::xs,l,r,h=>by
  obtain ⟨A,hA⟩:=Xg N a0 xs (l++[{ x with op:=r.op }]) { r with ax:=axV N (l++[{ x with op:=r.op }]) } (fun y hy=>h y (by simp [hy]));refine ⟨A, ?_⟩;unfold BH;rw [if_pos (h x (by simp)),hA];simp
theorem afZ {P:Rl→Prop} {src:Rl} {n N:Nat} {w:Rl} (hw:ad3 w=true) {body:List Tx} {xs:List Ax} {op:Bool} {pre:List Rl} (hb:∀(r1:Rd) (L:List Tx),My P src r1 (body++(1,[41])::L)→r1.op=false→r1.pre=pre→
   ∃q,ET src n w r1=.ok xs q∧My P src q ((1,[41])::L)∧q.pre=r1.pre∧q.iri=r1.iri∧q.op=op)
  (hc:∀x∈xs,iR { x with op:=op }=0) (l:List Ax) (hlen:l.length+xs.length≤1024) (r:Rd) (hp:r.pre=pre) (L:List Tx) (h:My P src r ((4,w)::(1,[40])::(body++(1,[41])::L))):
  ∃q,FW src n N l r=.ok (l++xs.map fun x=>{ x with op:=op }) q∧My P src q L∧q.pre=r.pre∧q.iri=r.iri:=by
 obtain ⟨a,q,h1,h2,h3,h4⟩:=qw h;obtain ⟨q1,a1,a2,a3⟩:=lG h3 (w:=[40]) rfl;obtain ⟨q2,b1,b2,b3,b4,b5⟩:=hb { q1 with op:=false } L a2 rfl (by show q1.pre=_;rw [a3.pre];show q.pre=_;rw [h4.pre,hp]);obtain ⟨q3,c1,c2,c3⟩:=lG b2 (w:=[41]) rfl;have hop:q3.op=op:=c3.op.trans b5;obtain ⟨A,hA⟩:=Xg N a xs l q3 (by rw [hop];exact hc);rw [hop] at hA;refine ⟨{ q3 with ax:=A }, ?_,c2, ?_, ?_⟩
 ·unfold FW;rw [h1];simp only [OR.bind_ok,hw,pq,a1,b1,c1,hA];rw [if_neg (by simp;omega),←hop]
 ·show q3.pre=_;rw [c3.pre,b3];show q1.pre=_;rw [a3.pre];exact h4.pre
 ·show q3.iri=_;rw [c3.iri,b4];show q1.iri=_;rw [a3.iri];exact h4.iri
def yB (w u:Rl):List Tx:=[(4,wC0),(1,[40]),(4,w),(1,[61]),(2,u),(1,[41])]
theorem aap {P:Rl→Prop} {src:Rl} {r:Rd} {w u:Rl} {L:List Tx} (h:My P src r (yB w u++L)) (hw:∀a,OW r.pre (4,w,a)=true) (hu:∀a,Ad w (2,u,a)=true):
  ∃q,NV src r=.ok () q∧My P src q L∧q.pre=qO r.pre w∧q.iri=if w=[58] then zB u else r.iri:=by
 simp only [yB,List.cons_append,List.nil_append] at h;obtain ⟨q1,a1,a2,a3⟩:=lG h (w:=wC0) rfl;obtain ⟨q2,b1,b2,b3⟩:=lG a2 (w:=[40]) rfl;obtain ⟨a,q3,c1,c2,c3,c4⟩:=qw b2;obtain ⟨q4,d1,d2,d3⟩:=lG c3 (w:=[61]) rfl;obtain ⟨a',q5,e1,e2,e3,e4⟩:=qw d2;obtain ⟨q6,f1,f2,f3⟩:=lG e3 (w:=[41]) rfl;have hpre:q3.pre=r.pre:=by rw [c4.pre,b3.pre,a3.pre]
 have hpre6:q6.pre=r.pre:=by rw [f3.pre];show q5.pre=_;rw [e4.pre,d3.pre];exact hpre
 have hiri6:q6.iri=r.iri:=by rw [f3.iri];show q5.iri=_;rw [e4.iri,d3.iri];show q3.iri=_;rw [c4.iri,b3.iri,a3.iri]
 refine ⟨{ q6 with pre:=qO r.pre w,iri:=if w=[58] then zB u else r.iri }, ?_,f2,rfl,rfl⟩;unfold NV;rw [a1];simp only [OR.bind_ok,b1,c1,hpre,hw a,pq,d1,e1,hu a',f1,hpre6,hiri6]
theorem Xp {P:Rl→Prop} {src:Rl} {n N:Nat} {pre:List Rl}:∀(I:List (List Tx×List Ax)),(∀p∈I,(∃t T,p.1=t::T∧t.2≠[41])∧∀(l:List Ax) (r:Rd) (L:List Tx),l.length+p.2.length≤1024→r.pre=pre→My P src r (p.1++L)→∃q,FW src n N l r=.ok (l++p.2) q∧My P src q L∧q.pre=r.pre∧q.iri=r.iri)→
  ∀(k:Nat) (l:List Ax) (r:Rd) (L:List Tx),I.length<k→l.length+(I.flatMap (·.2)).length≤1024→r.pre=pre→My P src r (I.flatMap (·.1)++(1,[41])::L)→
  ∃q,Iy src n N k l r=.ok (l++I.flatMap (·.2)) q∧My P src (bY q) L∧q.iri=r.iri∧q.pre=r.pre
 | [],_,k,l,r,L,hk,hl,hr,h=>by
  obtain ⟨k,rfl⟩:∃j,k=j+1:=⟨k - 1,by simp at hk;omega⟩;obtain ⟨q,h1,h2,h3,h4⟩:=zO (t:=(1,[41])) h [41];exact ⟨q,by unfold Iy;rw [h1];simp,h3,h4.iri,h4.pre⟩
 | p::I,hI,k,l,r,L,hk,hl,hr,h=>by
  obtain ⟨k,rfl⟩:∃j,k=j+1:=⟨k - 1,by simp at hk;omega⟩;obtain ⟨⟨t,T,e1,e2⟩,e3⟩:=hI p (by simp);rw [List.flatMap_cons,List.append_assoc] at h;rw [List.flatMap_cons,List.length_append] at hl;have h':=h;rw [e1,List.cons_append] at h';obtain ⟨q,h1,h2,h3,h4⟩:=zO h' [41];rw [←List.cons_append,←e1] at h2;obtain ⟨q1,a1,a2,a3,a4⟩:=e3 l q _ (by omega) (h4.pre.trans hr) h2;obtain ⟨q2,b1,b2,b3,b4⟩:=Xp I (fun p hp=>hI p (by simp [hp])) k (l++p.2) q1 L (by simp at hk;omega) (by rw [List.length_append];omega) (a3.trans (h4.pre.trans hr)) a2;refine ⟨q2, ?_,b2,b3.trans (a4.trans h4.iri),b4.trans (a3.trans h4.pre)⟩;unfold Iy;rw [h1,decide_eq_false e2];simp only [OR.bind_ok,Bool.false_eq_true,if_false,a1,b1];simp [List.flatMap_cons]
end Go.Ai.Z
namespace Go.Ai.Z
open Go.Ai
open Go.Lib (itoa decDigits atoi decFrom decNat digitVal)
theorem aaH (d:Nat) (h:d<10):Ls (UInt8.ofNat (48+d))=true:=by
 have:(UInt8.ofNat (48+d)).toNat=48+d:=by simp;omega
 rw [PL,this];omega
theorem V9 (u:Nat):(decDigits u).all Ls=true:=by
 induction u using Nat.strongRecOn with
 | _ u ih=>
  rw [decDigits];split
  ·rename_i h;rw [List.all_cons,List.all_nil,aaH u h];rfl
  ·rename_i h;rw [List.all_append,ih (u / 10) (by omega),List.all_cons,List.all_nil,aaH (u % 10) (by omega)];rfl
theorem Rz (u:Nat):∃c r,decDigits u=c::r∧(u≠0→c≠48)∧(u=0→r=[]∧c=48)∧c≠45:=by
 induction u using Nat.strongRecOn with
 | _ u ih=>
  rw [decDigits];split
  ·rename_i h;refine ⟨UInt8.ofNat (48+u),[],rfl,fun hu hc=>?_,fun hu=>⟨rfl,by subst hu;rfl⟩,fun hc=>?_⟩
   ·have:=congrArg UInt8.toNat hc
    rw [show (UInt8.ofNat (48+u)).toNat=48+u by simp;omega] at this;simp at this;omega
   ·have:=congrArg UInt8.toNat hc
    rw [show (UInt8.ofNat (48+u)).toNat=48+u by simp;omega] at this;simp at this;omega
  ·rename_i h;obtain ⟨c,r,h1,h2,h3,h4⟩:=ih (u / 10) (by omega);exact ⟨c,r++[UInt8.ofNat (48+u % 10)],by rw [h1];rfl,fun _=>h2 (by omega),fun hu=>absurd hu (by omega),h4⟩
theorem Ry (d:Nat) (h:d<10):digitVal (UInt8.ofNat (48+d))=some d:=by
 unfold digitVal
 have:(UInt8.ofNat (48+d)).toNat=48+d:=by simp;omega
 rw [this,if_pos ⟨by omega,by omega⟩]
 congr 1;omega
theorem Wh:∀(u:Nat) (r:Rl),decFrom 0 (decDigits u++r)=decFrom u r:=by
 intro u
 induction u using Nat.strongRecOn with
 | _ u ih=>
  intro r;rw [decDigits];split
  ·rename_i h;simp only [List.cons_append,List.nil_append,decFrom,Ry u h];simp
  ·rename_i h;rw [List.append_assoc,ih (u / 10) (by omega)];simp only [List.cons_append,List.nil_append,decFrom,Ry (u % 10) (by omega)]
   congr 1;omega
theorem Oy (u:Nat):decNat (decDigits u)=some u:=by
 have h:=Wh u [];rw [List.append_nil] at h;obtain ⟨c,r,hc,_⟩:=Rz u;unfold decNat;rw [hc] at h ⊢
 simpa [decFrom] using h
theorem aaG (u:Nat) (h:u≤1099511627776):(decDigits u).length≤18:=by
 have key:∀(k u:Nat),u<10 ^ (k+1)→(decDigits u).length≤k+1:=by
  intro k
  induction k with
  | zero=>intro u hu;rw [decDigits,dif_pos (by simpa using hu)];simp
  | succ k ih=>
   intro u hu;rw [decDigits];split
   ·simp
   ·have:=ih (u / 10) (by rw [Nat.pow_succ] at hu;omega)
    simp;omega
 exact Nat.le_trans (key 17 u (by omega)) (by omega)
theorem ad7 (c d:UInt8) (p:Rl):zB (c::(p++[d]))=p:=by
 unfold zB;simp
theorem abJ (n:Int) (h1:-1099511627776≤n) (h2:n≤1099511627776) (a:Nat):EU (3,34::(itoa n++[34]),a)=some n:=by
 unfold EU;simp only [if_true];rw [ad7];unfold itoa;by_cases hn:n<0
 ·rw [if_pos hn];obtain ⟨c,r,k1,k2,_,_⟩:=Rz n.natAbs;have hc:=k2 (by omega);have hl:=aaG n.natAbs (by omega);have ha:=V9 n.natAbs;have hd:=Oy n.natAbs;have ht:trimB 45 (45::decDigits n.natAbs)=decDigits n.natAbs:=by simp [trimB]
  rw [ht,if_neg (by rw [k1];rw [k1] at hl;simp at hl ⊢;omega),if_neg (by rw [k1];simp [hc]),if_pos ha];simp only [atoi,beq_self_eq_true,if_true,hd,Option.map_some,Option.some.injEq];omega
 ·rw [if_neg hn];obtain ⟨c,r,k1,k2,k3,k4⟩:=Rz n.toNat;have hl:=aaG n.toNat (by omega);have ha:=V9 n.toNat;have hd:=Oy n.toNat;have ht:trimB 45 (decDigits n.toNat)=decDigits n.toNat:=by rw [k1];simp [trimB,k4]
  have hz:¬((decDigits n.toNat).head?=some 48∧decDigits n.toNat≠[48]):=by
   rintro ⟨z1,z2⟩;rw [k1] at z1 z2;simp at z1;by_cases z:n.toNat=0
   ·obtain ⟨k5,k6⟩:=k3 z;subst k5 k6;exact z2 rfl
   ·exact k2 z z1
  rw [ht,if_neg (by rw [k1];rw [k1] at hl;simp at hl ⊢;omega),if_neg hz,if_pos ha];have hcd:Ls c=true:=by rw [k1,List.all_cons,Bool.and_eq_true] at ha;exact ha.1
  have b1:(c == 45)=false:=by simpa using k4
  have b2:(c == 43)=false:=by
   cases hq:(c == 43) with
   | false=>rfl
   | true=>rw [beq_iff_eq] at hq;subst hq;exact absurd hcd (by decide)
  rw [k1] at hd ⊢;simp only [atoi,b1,b2,hd,Option.map_some,Bool.false_eq_true,if_false,Option.some.injEq];omega
def Rw (w:Rl) (n:Int):List Tx:=[(4,w),(3,34::(itoa n++[34])),(1,[94,94]),(4,wA0)]
mutual
def jQ:C→List Tx
 | .mk k n lo hi _ ps=>
  if k=1 then [(4,wB4)]
  else if k=2 then [(4,wB1)]
  else if k=4 then [(4,wB6),(1,[40]),(4,owN n),(1,[41])]
  else if k=5 then (4,wA5)::(1,[40])::(Uc ps++[(1,[41])])
  else if k=6 then (4,wA6)::(1,[40])::(4,owN n)::(Uc ps++[(1,[41])])
  else if k=7 then (4,wA8)::(1,[40])::(4,owN n)::(4,wA7)::(1,[40])::(4,wA0)::(Rw wA1 lo++Rw wA4 hi++[(1,[41]),(1,[41])])
  else [(4,owN n)]
def Uc:List C→List Tx
 | []=>[]
 | c::r=>jQ c++Uc r
end
theorem WO:∀l:List C,Uc l=l.flatMap jQ
 | []=>by simp [Uc]
 | c::r=>by simp [Uc,WO r]
mutual
def zc:C→C
 | .mk k n l h _ ps=>.mk k n l h ps.isEmpty (zcs ps)
def zcs:List C→List C
 | []=>[]
 | c::r=>zc c::zcs r
end
theorem acJ:∀l:List C,zcs l=l.map zc
 | []=>by simp [zcs]
 | c::r=>by simp [zcs,acJ r]
theorem zl (c:C):zc c=.mk c.kind c.name c.lo c.hi c.parts.isEmpty (c.parts.map zc):=by cases c;simp [zc,acJ]
theorem GK (c:C):jQ c=if c.kind=1 then [(4,wB4)]
  else if c.kind=2 then [(4,wB1)]
  else if c.kind=4 then [(4,wB6),(1,[40]),(4,owN c.name),(1,[41])]
  else if c.kind=5 then (4,wA5)::(1,[40])::(c.parts.flatMap jQ++[(1,[41])])
  else if c.kind=6 then (4,wA6)::(1,[40])::(4,owN c.name)::(c.parts.flatMap jQ++[(1,[41])])
  else if c.kind=7 then (4,wA8)::(1,[40])::(4,owN c.name)::(4,wA7)::(1,[40])::(4,wA0)::(Rw wA1 c.lo++Rw wA4 c.hi++[(1,[41]),(1,[41])])
  else [(4,owN c.name)]:=by cases c;simp only [jQ,WO];rfl
theorem BA:∀c:C,jQ (zc c)=jQ c:=by
 refine C.ind' fun c ih=>?_
 have hp:(c.parts.map zc).flatMap jQ=c.parts.flatMap jQ:=by
  have:∀l:List C,(∀p∈l,jQ (zc p)=jQ p)→(l.map zc).flatMap jQ=l.flatMap jQ:=fun l=>by
   induction l with
   | nil=>intro _;rfl
   | cons a r ihr=>intro h;simp [h a (by simp),ihr (fun p hp=>h p (by simp [hp]))]
  exact this _ ih
 rw [GK (zc c),GK c,zl];simp only [C.Ed,C.GV,C.aat,C.aaC,C.Df,hp];rfl
theorem Ve (c:C):jQ c≠[]∧∀t∈(jQ c).head?,t.2≠[41]:=by
 have hw:∀n:Rl,owN n≠[41]:=fun n h=>by
  have:=PD n
  rw [h] at this;simp at this
 rw [GK];split
 ·simp
 split
 ·simp
 split
 ·simp
 split
 ·simp
 split
 ·simp
 split
 ·simp
 ·simpa using hw c.name
theorem CV (c:C):1≤(jQ c).length:=by
 have:=(Ve c).1
 cases h:jQ c with
 | nil=>exact absurd h this
 | cons a b=>simp
inductive VC (pre:List Rl):C→Prop where
 | mk (c:C) (hs:kQ c=true) (hn:c.kind=3∨c.kind=4∨c.kind=6∨c.kind=7→NmP pre c.name) (hp:∀p∈c.parts,VC pre p):VC pre c
theorem Am {c:C} (h:kQ c=true) (hk:c.kind=1∨c.kind=2∨c.kind=3∨c.kind=4):c.lo=0∧c.hi=0∧c.parts=[]∧(c.kind=1∨c.kind=2→c.name=[]):=by
 unfold kQ at h
 rcases hk with k|k|k|k<;>simp [k] at h<;>simp [h,k]
theorem LY {c:C} (h:kQ c=true) (hk:c.kind=5):c.lo=0∧c.hi=0∧c.name=[]∧2≤c.parts.length:=by
 unfold kQ at h;simp [hk] at h;refine ⟨h.1.1.1.1,h.1.1.1.2,h.1.1.2,by have:=h.1.2;omega⟩
theorem Qb {c:C} (h:kQ c=true) (hk:c.kind=6):c.lo=0∧c.hi=0∧∃p,c.parts=[p]:=by
 unfold kQ at h;simp [hk] at h;refine ⟨h.1.1,h.1.2, ?_⟩;exact List.length_eq_one_iff.1 (by omega)
theorem abb {c:C} (h:kQ c=true) (hk:c.kind=7):c.parts=[]∧-1099511627776≤c.lo∧c.lo≤c.hi∧c.hi≤1099511627776:=by
 unfold kQ at h;simp [hk] at h;exact ⟨h.1.1.1,h.1.1.2,h.1.2,h.2⟩
theorem Vo {c:C} (h:kQ c=true):c.kind=1∨c.kind=2∨c.kind=3∨c.kind=4∨c.kind=5∨c.kind=6∨c.kind=7:=by
 unfold kQ at h;apply Classical.byContradiction;intro hc;simp only [not_or] at hc;obtain ⟨h1,h2,h3,h4,h5,h6,h7⟩:=hc;simp [h1,h2,h3,h4,h5,h6,h7] at h
theorem adH {P:Rl→Prop} {src:Rl} {r:Rd} {w other:Rl} {n:Int} {L:List Tx} (h:My P src r (Rw w n++L)) (hw:Zr other w=true) (hx:[120,115,100,58]∈r.pre) (h1:-1099511627776≤n) (h2:n≤1099511627776) (lo hi:Int):
  ∃q,TA src other lo hi r=.ok (w,if w=wA1 then n else lo,if w=wA1 then hi else n) q∧My P src q L∧Fq r q:=by
 simp only [Rw,List.cons_append,List.nil_append] at h;obtain ⟨a,q1,a1,a2,_,a3⟩:=qw h;obtain ⟨q2,b1,b2,b3⟩:=QC (p:=[120,115,100,58]) a2 (w:=w) rfl (by rw [a3.pre];exact hx);obtain ⟨a',q3,c1,c2,c3,c4⟩:=qw b2;obtain ⟨q4,d1,d2,d3⟩:=lG c3 (w:=[94,94]) rfl;obtain ⟨q5,e1,e2,e3⟩:=QC (p:=[120,115,100,58]) d2 (w:=wA0) rfl (by rw [d3.pre];show _∈q3.pre;rw [c4.pre,b3.pre,a3.pre];exact hx);refine ⟨q5, ?_,e2,a3.tr (b3.tr (c4.ps.tr (d3.tr e3)))⟩;unfold TA;rw [a1];simp only [OR.bind_ok,hw,pq,b1,c1,abJ n h1 h2,Option.isSome_some,d1,e1,Option.getD_some]
theorem akd {c:C} (hl:∀p∈c.parts,SmC p (zc p)) (hb:c.parts.length≤1000000):SmC c (zc c):=by
 obtain ⟨k,n,l,h,z,ps⟩:=c;rw [zl];refine .mk k n l h z _ ps _ (by simp) hb fun i p q h1 h2=>?_;simp only [C.Df,List.getElem?_map,h1,Option.map_some,Option.some.injEq] at h2;subst h2;exact hl p (List.mem_of_getElem? h1)
section
variable {P:Rl→Prop} {src:Rl} {pre:List Rl}
theorem BI (ho:[111,119,108,58]∈pre) (hx:[120,115,100,58]∈pre):∀c:C,VC pre c→∀n,(jQ c).length≤n→Par P src pre (yw src n) (zc c) (jQ c):=by
 refine C.ind' fun c ih hv n hn=>?_;refine ⟨(Ve c).1,(Ve c).2,fun r L h hr=>?_⟩
 cases hv with
 | mk _ hs hnm hp=>
 have hpos:=CV c;obtain ⟨n,rfl⟩:∃k,n=k+1:=⟨n - 1,by omega⟩;unfold yw;rw [zl];rw [GK] at h hn;rcases Vo hs with k|k|k|k|k|k|k
 ·obtain ⟨s1,s2,s3,s4⟩:=Am hs (.inl k);simp only [k,if_true] at h;obtain ⟨a,q,h1,h2,h3,h4⟩:=qw h;obtain ⟨q1,b1,b2,b3⟩:=QC (p:=[111,119,108,58]) h2 (w:=wB4) rfl (by rw [h4.pre,hr];exact ho);refine ⟨q1, ?_,b2,h4.tr b3⟩;rw [h1];simp only [OR.bind_ok,if_true,Vb,b1,k,s1,s2,s3,s4 (.inl k)];rfl
 ·obtain ⟨s1,s2,s3,s4⟩:=Am hs (.inr (.inl k));simp only [k] at h;simp at h;obtain ⟨a,q,h1,h2,h3,h4⟩:=qw h;obtain ⟨q1,b1,b2,b3⟩:=QC (p:=[111,119,108,58]) h2 (w:=wB1) rfl (by rw [h4.pre,hr];exact ho);refine ⟨q1, ?_,b2,h4.tr b3⟩;rw [h1];simp only [OR.bind_ok];simp [Vb,b1,k,s1,s2,s3,s4 (.inr k)]
 ·obtain ⟨s1,s2,s3,s4⟩:=Am hs (.inr (.inr (.inl k)));simp only [k] at h;simp at h;have hm:=hnm (.inl k);obtain ⟨a,q,h1,h2,h3,h4⟩:=qw h;obtain ⟨q1,b1,b2,b3⟩:=rU (n:=c.name) h2 (by rw [h4.pre,hr];exact hm);have e1:=Md hm wB4 (.inr (.inl ⟨_,rfl⟩));have e2:=Md hm wB1 (.inr (.inl ⟨_,rfl⟩));have e3:=Md hm wA5 (.inl (by simp));have e4:=Md hm wA6 (.inl (by simp));have e5:=Md hm wB6 (.inl (by simp));have e6:=Md hm wA8 (.inl (by simp));refine ⟨q1, ?_,b2,h4.tr b3⟩;rw [h1];simp only [OR.bind_ok,if_neg e1,if_neg e2,if_neg e3,if_neg e4,if_neg e5,if_neg e6,b1,k,s1,s2,s3];rfl
 ·obtain ⟨s1,s2,s3,s4⟩:=Am hs (.inr (.inr (.inr k)));simp only [k] at h;simp at h;have hm:=hnm (.inr (.inl k));obtain ⟨a,q,h1,h2,h3,h4⟩:=qw h;obtain ⟨q1,b1,b2,b3⟩:=lG h3 (w:=[40]) rfl;have hpre:q1.pre=pre:=by rw [b3.pre];show q.pre=_;rw [h4.pre,hr]
  obtain ⟨q2,c1,c2,c3⟩:=rU (n:=c.name) b2 (by rw [hpre];exact hm);obtain ⟨q3,d1,d2,d3⟩:=lG c2 (w:=[41]) rfl;refine ⟨q3, ?_,d2,h4.ps.tr (b3.tr (c3.tr d3))⟩;rw [h1];simp only [OR.bind_ok];simp [Y4,b1,c1,d1,k,s1,s2,s3]
 ·obtain ⟨s1,s2,s3,s4⟩:=LY hs k;simp only [k] at h hn;simp at h hn;obtain ⟨a,q,h1,h2,h3,h4⟩:=qw h;obtain ⟨q1,b1,b2,b3⟩:=lG h3 (w:=[40]) rfl;have hpre:q1.pre=pre:=by rw [b3.pre];show q.pre=_;rw [h4.pre,hr]
  have hfl:c.parts.length≤(c.parts.flatMap jQ).length:=by
   rw [List.length_flatMap]
   have:∀l:List C,l.length≤(l.map fun a=>(jQ a).length).sum:=fun l=>by
    induction l with
    | nil=>simp
    | cons x l ihl=>have:=CV x;simp;omega
   exact this _
  have hfm:∀p∈c.parts,(jQ p).length≤(c.parts.flatMap jQ).length:=fun p hp=>by
   rw [List.length_flatMap]
   have:∀l:List C,p∈l→(jQ p).length≤(l.map fun a=>(jQ a).length).sum:=fun l=>by
    induction l with
    | nil=>intro hh;cases hh
    | cons x l ihl=>
     intro hh;rcases List.mem_cons.1 hh with rfl|hh
     ·simp
     ·have:=ihl hh;simp;omega
   exact this _ hp
  simp only [List.length_flatMap] at hfl hfm
  have hzt:(c.parts.map zc).flatMap jQ=c.parts.flatMap jQ:=by
   have:∀l:List C,(l.map zc).flatMap jQ=l.flatMap jQ:=fun l=>by
    induction l with
    | nil=>rfl
    | cons x l ihl=>simp [BA x,ihl]
   exact this _
  obtain ⟨q2,c1,c2,c3⟩:=KE (P:=P) (src:=src) (pre:=pre) (f:=yw src n) (c.parts.map zc) jQ (fun v hv=>by
    obtain ⟨p,hp1,rfl⟩:=List.mem_map.1 hv;rw [BA]
    exact ih p hp1 (hp p hp1) n (by have:=hfm p hp1;omega)) id (fun _ _=>rfl) n [] q1 L (by simp;omega) (by simp;omega) hpre (by rw [hzt];exact b2)
  obtain ⟨q3,d1,d2,d3⟩:=lG c2 (w:=[41]) rfl
  have hne:c.parts.isEmpty=false:=by
   cases hh:c.parts with
   | nil=>rw [hh] at s4;simp at s4
   | cons=>rfl
  refine ⟨q3, ?_,d2,h4.ps.tr (b3.tr (c3.tr d3))⟩;rw [h1];simp only [OR.bind_ok];simp [ZL,b1,c1,d1,k,s1,s2,s3,hne]
 ·obtain ⟨s1,s2,p,s3⟩:=Qb hs k;simp only [k,s3] at h hn;simp at h hn;have hm:=hnm (.inr (.inr (.inl k)));obtain ⟨a,q,h1,h2,h3,h4⟩:=qw h;obtain ⟨q1,b1,b2,b3⟩:=lG h3 (w:=[40]) rfl;have hpre:q1.pre=pre:=by rw [b3.pre];show q.pre=_;rw [h4.pre,hr]
  obtain ⟨q2,c1,c2,c3⟩:=rU (n:=c.name) b2 (by rw [hpre];exact hm);obtain ⟨_,_,hpar⟩:=ih p (by rw [s3];simp) (hp p (by rw [s3];simp)) n (by omega);obtain ⟨q3,d1,d2,d3⟩:=hpar q2 _ c2 (by rw [c3.pre];exact hpre);obtain ⟨q4,e1,e2,e3⟩:=lG d2 (w:=[41]) rfl;refine ⟨q4, ?_,e2,h4.ps.tr (b3.tr (c3.tr (d3.tr e3)))⟩;rw [h1];simp only [OR.bind_ok];simp [Qa,b1,c1,d1,e1,k,s1,s2,s3]
 ·obtain ⟨s1,s2,s3,s4⟩:=abb hs k;simp only [k] at h;simp only [show ¬(7:Int)=1 by decide,show ¬(7:Int)=2 by decide,show ¬(7:Int)=4 by decide,show ¬(7:Int)=5 by decide,show ¬(7:Int)=6 by decide,if_true,if_false,List.cons_append,List.append_assoc,List.nil_append] at h;have hm:=hnm (.inr (.inr (.inr k)));obtain ⟨a,q,h1,h2,h3,h4⟩:=qw h;obtain ⟨q1,b1,b2,b3⟩:=lG h3 (w:=[40]) rfl;have hpre:q1.pre=pre:=by rw [b3.pre];show q.pre=_;rw [h4.pre,hr]
  obtain ⟨q2,c1,c2,c3⟩:=rU (n:=c.name) b2 (by rw [hpre];exact hm);obtain ⟨q3,d1,d2,d3,d4⟩:=zO c2 wA7;obtain ⟨q4,e1,e2,e3⟩:=lG d3 (w:=[40]) rfl;have hpre4:q4.pre=pre:=by rw [e3.pre];show q3.pre=_;rw [d4.pre,c3.pre,hpre]
  obtain ⟨q5,f1,f2,f3⟩:=QC (p:=[120,115,100,58]) e2 (w:=wA0) rfl (by rw [hpre4];exact hx);obtain ⟨q6,g1,g2,g3⟩:=adH (other:=[]) f2 (by decide) (by rw [f3.pre,hpre4];exact hx) s2 (by omega) (-Xu) Xu;have g2':=g2;rw [show Rw wA4 c.hi++(1,[41])::(1,[41])::L=(4,wA4)::(3,34::(itoa c.hi++[34]))::(1,[94,94])::(4,wA0)::(1,[41])::(1,[41])::L from rfl] at g2';obtain ⟨q7,i1,i2,i3,i4⟩:=zO g2' [41];obtain ⟨q8,j1,j2,j3⟩:=adH (w:=wA4) (n:=c.hi) (other:=wA1) (L:=(1,[41])::(1,[41])::L) i2 (by decide) (by rw [i4.pre,g3.pre,f3.pre,hpre4];exact hx) (by omega) s4 c.lo Xu;obtain ⟨q9,k1,k2,k3⟩:=lG j2 (w:=[41]) rfl;obtain ⟨q10,l1,l2,l3⟩:=lG k2 (w:=[41]) rfl;refine ⟨q10, ?_,l2,h4.ps.tr (b3.tr (c3.tr (d4.ps.tr (e3.tr (f3.tr (g3.tr (i4.tr (j3.tr (k3.tr l3)))))))))⟩;rw [h1];simp only [OR.bind_ok];simp at g1 i1 j1;simp [RD,ade,b1,c1,d1,e1,f1,g1,i1,j1,k1,l1,k,s1]
end
end Go.Ai.Z
