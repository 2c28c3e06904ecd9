/-
 The reference's equality of axioms.
-/
import Derived.Test.YtcofenimejmoeaaGreatDoorAiK8K9K10K11K12
import Derived.Test.YtcofenimejmoeaaGreatDoorAiOX5OX6OX7OX8OX9OX10
import Derived.Test.YtcofenimejmoeaaGreatDoorAiOW1OW2OW3OW4OW5
set_option maxRecDepth 100000
set_option linter.unusedSimpArgs false
set_option linter.unusedVariables false
set_option linter.unusedSectionVars false
namespace Go.Ai.Z
open Go.Ai
inductive SmC:C→C→Prop where
 | mk (k:Int) (n:Rl) (l h:Int) (z w:Bool) (ps qs:List C) (hl:ps.length=qs.length) (hb:ps.length≤1000000)
   (hp:∀(i:Nat) (p q:C),ps[i]?=some p→qs[i]?=some q→SmC p q):SmC (.mk k n l h z ps) (.mk k n l h w qs)
theorem Zh (k:Int) (n:Rl) (l h:Int) (z w:Bool) (ps qs:List C) (hl:ps.length=qs.length) (hb:ps.length≤1000000)
  (hp:∀(i:Nat) (p q:C),ps[i]?=some p→qs[i]?=some q→∀(s:St) (cx:Ctx),aj P0 (.fn (.func mQ) [] []) [aK p,aK q] s cx=.ret (.b true) s) (s:St) (cx:Ctx):∀(rest:List C) (i:Nat),ps.drop i=rest→i≤ps.length→
  jw (aA P0.glob (aj P0) cx false rC) [2,3,5] [(2,.bx [.i .i64 k,.s n,.i .i64 l,.i .i64 h,slf z (ps.map aK)]),(3,.bx [.i .i64 k,.s n,.i .i64 l,.i .i64 h,slf w (qs.map aK)]),(5,.v (.i .i64 i))] s=
   .exit 0 [(2,.bx [.i .i64 k,.s n,.i .i64 l,.i .i64 h,slf z (ps.map aK)]),(3,.bx [.i .i64 k,.s n,.i .i64 l,.i .i64 h,slf w (qs.map aK)]),(5,.v (.i .i64 ps.length)),(45,.v (.b false))] s
 | [],i,hd,hi=>by
  have h1:i=ps.length:=by have:=drop_nil hd;omega
  subst h1;refine ay fun K hK=>?_;simp -implicitDefEqProofs [rC]
 | c::rest,i,hd,hi=>by
  obtain ⟨h1,h2,h3,h4⟩:=drop_cons hd;have hq:i<qs.length:=by omega
  have h5:qs[i]?=some qs[i]:=List.getElem?_eq_getElem hq;have e1:=hp i c qs[i] h1 h5;generalize qs[i]=d at *;have hwi:=wI (i:=i) (by omega);have ih:=Zh k n l h z w ps qs hl hb hp s cx rest (i+1) h2 (by omega);refine ay fun K hK=>?_;rw [←hK,show ((i+1:Nat):Int)=(i:Int)+1 from rfl] at ih;clear hK h4 hd hp;rw [←ih];clear ih;have g1:(ps.map aK)[i]?=some (aK c):=by rw [List.getElem?_map,h1];rfl
  have g2:(qs.map aK)[i]?=some (aK d):=by rw [List.getElem?_map,h5];rfl
  have z1:(ps.map aK).length=ps.length:=List.length_map _;generalize ps.map aK=P at *;generalize qs.map aK=Q at *;have h3i:(i:Int)<(ps.length:Int):=by omega
  simp -implicitDefEqProofs [rC,z1,h3i,g1,g2,e1,hwi]
theorem aac {a b:C} (h:SmC a b):∀(s:St) (cx:Ctx),aj P0 (.fn (.func mQ) [] []) [aK a,aK b] s cx=.ret (.b true) s:=by
 induction h with
 | mk k n l h z w ps qs hl hb hp ih=>
  intro s cx;refine OB (by simp) ?_;have e1:=Zh k n l h z w ps qs hl hb ih s ⟨s.length,s.length⟩ ps 0 rfl (by omega);rw [show ((0:Nat):Int)=0 from rfl] at e1;rw [uN,uN (.mk k n l h w qs)];simp -implicitDefEqProofs [-Jc,af,vZ,e1,hl]
theorem V6 (ps:List Rl) (z w:Bool) (hb:ps.length≤1000000) (s:St) (cx:Ctx):∀(rest:List Rl) (i:Nat),ps.drop i=rest→i≤ps.length→
  jw (aA P0.glob (aj P0) cx false mG) [0,1,5] [(0,.v (slf z (ps.map .s))),(1,.v (slf w (ps.map .s))),(5,.v (.i .i64 i))] s=
   .exit 0 [(0,.v (slf z (ps.map .s))),(1,.v (slf w (ps.map .s))),(5,.v (.i .i64 ps.length)),(14,.v (.b false))] s
 | [],i,hd,hi=>by
  have h1:i=ps.length:=by have:=drop_nil hd;omega
  subst h1;refine ay fun K hK=>?_;simp -implicitDefEqProofs [mG]
 | c::rest,i,hd,hi=>by
  obtain ⟨h1,h2,h3,h4⟩:=drop_cons hd;have hwi:=wI (i:=i) (by omega);have ih:=V6 ps z w hb s cx rest (i+1) h2 (by omega);refine ay fun K hK=>?_;rw [←hK,show ((i+1:Nat):Int)=(i:Int)+1 from rfl] at ih;clear hK h4 hd;rw [←ih];clear ih;have g1:(ps.map AV.s)[i]?=some (.s c):=by rw [List.getElem?_map,h1];rfl
  have z1:(ps.map AV.s).length=ps.length:=List.length_map _;generalize ps.map AV.s=P at *;have h3i:(i:Int)<(ps.length:Int):=by omega
  simp -implicitDefEqProofs [mG,z1,h3i,g1,hwi]
theorem abo (ps:List Rl) (z w:Bool) (hb:ps.length≤1000000) (s:St) (cx:Ctx):aj P0 (.fn (.func oD) [] []) [slf z (ps.map .s),slf w (ps.map .s)] s cx=.ret (.b true) s:=by
 refine He (by simp) ?_;have e1:=V6 ps z w hb s ⟨s.length,s.length⟩ ps 0 rfl (by omega);rw [show ((0:Nat):Int)=0 from rfl] at e1;simp -implicitDefEqProofs [af,qB,e1]
structure SmA (x y:Ax):Prop where
 kind:x.kind=y.kind
 op:x.op=y.op
 l:SmC x.left y.left
 r:SmC x.right y.right
 roles:x.roles=y.roles
 rb:x.roles.length≤1000000
 role:x.role=y.role
 a:x.a=y.a
 b:x.b=y.b
theorem abp {x y:Ax} (h:SmA x y) (s:St) (cx:Ctx):aj P0 (.fn (.func jF) [] []) [iH x,iH y] s cx=.ret (.b true) s:=by
 refine Fz (by simp) ?_;have e1:=aac h.l;have e2:=aac h.r;have e3:=abo x.roles x.z y.z h.rb
 have e4:∀b:Bool,(b == b)=true:=fun b=>by cases b<;>rfl
 rw [uN,uN y.left] at e1;rw [uN,uN y.right] at e2;obtain ⟨k1,o1,l1,r1,z1,R1,ro1,a1,b1⟩:=x;obtain ⟨k2,o2,l2,r2,z2,R2,ro2,a2,b2⟩:=y;obtain ⟨h1,h2,_,_,h5,_,h6,h7,h8⟩:=h;simp only at h1 h2 h5 h6 h7 h8 e1 e2 e3;subst h1 h2 h5 h6 h7 h8
 cases o1<;>simp -implicitDefEqProofs [-Jc,af,o6,e1,e2,e3]
end Go.Ai.Z
namespace Go.Ai.Z
open Go.Ai
abbrev Tx:=Int×Rl
theorem Yc {c:UInt8} (h:(c.toNat:Int)=35):zK c=true:=by unfold zK;rw [h];rfl
theorem F9:∀(n m:Nat) (v:Rl),v.length≤n→v.length≤m→skN n v=skN m v
 | 0,m,v,h1,h2=>by
  cases v with
  | nil=>cases m<;>rfl
  | cons c r=>simp at h1
 | n+1,m,[],h1,h2=>by cases m<;>rfl
 | n+1,0,c::r,h1,h2=>by simp at h2
 | n+1,m+1,c::r,h1,h2=>by
  simp at h1 h2;unfold skN;split
  ·rw [F9 n m r h1 h2]
  split
  ·rename_i hc;have hk:1≤jK zK (c::r):=by simp [jK,Yc hc]
   have hd:((c::r).drop (jK zK (c::r))).length≤r.length:=by rw [List.length_drop];simp;omega
   rw [F9 n m _ (by omega) (by omega)]
  ·rfl
def skp (v:Rl):Rl:=v.drop (skN v.length v)
def Nx (v:Rl) (t:Tx) (w:Rl):Prop:=skp v=t.2++w∧t.2≠[]∧jv (t.2++w)=(t.1,t.2.length)
def Ly (P:Rl→Prop):Rl→List Tx→Prop
 | v,[]=>P v
 | v,t::L=>∃w,Nx v t w∧Ly P w L
def NxE (v:Rl):Prop:=skp v=[]
def My (P:Rl→Prop) (src:Rl) (r:Rd) (L:List Tx):Prop:=
 match r.ah with
 | []=>Ly P (src.drop r.at_) L
 | t::_=>∃M,L=(t.1,t.2.1)::M∧Ly P (src.drop r.at_) M
structure Fq (r q:Rd):Prop where
 pre:q.pre=r.pre
 iri:q.iri=r.iri
 op:q.op=r.op
 ax:q.ax=r.ax
theorem Fq.rfl' (r:Rd):Fq r r:=⟨rfl,rfl,rfl,rfl⟩
theorem Fq.tr {r q p:Rd} (h:Fq r q) (g:Fq q p):Fq r p:=⟨g.pre.trans h.pre,g.iri.trans h.iri,g.op.trans h.op,g.ax.trans h.ax⟩
theorem Fq.ps {r q:Rd} (h:Fq r q):Fq r (bP q):=⟨h.pre,h.iri,h.op,h.ax⟩
section
variable {P:Rl→Prop} {src:Rl}
theorem wZ {r:Rd} {t:Tx} {L:List Tx} (h:My P src r (t::L)):∃a q,fP src r=.ok (t.1,t.2,a) q∧My P src q (t::L)∧My P src (bP q) L∧Fq r q:=by
 unfold My at h;unfold fP
 cases hh:r.ah with
 | cons u U=>
  rw [hh] at h;obtain ⟨M,h1,h2⟩:=h;rw [List.cons.injEq] at h1;obtain ⟨h1,rfl⟩:=h1;subst h1;refine ⟨u.2.2,r,rfl, ?_, ?_,Fq.rfl' r⟩
  ·unfold My;rw [hh];exact ⟨_,rfl,h2⟩
  ·exact h2
 | nil=>
  rw [hh] at h;obtain ⟨w,⟨h1,h2,h3⟩,h4⟩:=h
  have hs:src.drop (skO src r.at_)=t.2++w:=by
   unfold skO;rw [←List.drop_drop,F9 src.length (src.drop r.at_).length _ (by rw [List.length_drop];omega) (Nat.le_refl _)];exact h1
  have hlt:skO src r.at_<src.length:=by
   apply Classical.byContradiction;intro hc;rw [List.drop_eq_nil_of_le (by omega)] at hs
   cases ht:t.2 with
   | nil=>exact h2 ht
   | cons a b=>rw [ht] at hs;cases hs
  have hl:t.2.length≠0:=fun hc=>h2 (List.length_eq_zero_iff.1 hc);have htk:(t.2++w).take t.2.length=t.2:=by simp
  have hdr:src.drop (skO src r.at_+t.2.length)=w:=by rw [←List.drop_drop,hs];simp
  rw [if_pos hlt,hs,h3,if_neg hl,htk];refine ⟨skO src r.at_,_,rfl, ?_, ?_,⟨rfl,rfl,rfl,rfl⟩⟩
  ·exact ⟨L,rfl,by show Ly P (src.drop (skO src r.at_+t.2.length)) L;rw [hdr];exact h4⟩
  ·show Ly P (src.drop (skO src r.at_+t.2.length)) L;rw [hdr];exact h4
theorem acO {r:Rd} (h:My NxE src r []):∃a q,fP src r=.ok (5,[],a) q∧Fq r q:=by
 unfold My at h;unfold fP
 cases hh:r.ah with
 | cons u U=>rw [hh] at h;obtain ⟨M,h1,_⟩:=h;cases h1
 | nil=>
  rw [hh] at h
  have hs:src.drop (skO src r.at_)=[]:=by
   unfold skO;rw [←List.drop_drop,F9 src.length (src.drop r.at_).length _ (by rw [List.length_drop];omega) (Nat.le_refl _)];exact h
  rw [if_neg (by have:=List.drop_eq_nil_iff.1 hs;omega)];exact ⟨_,_,rfl,⟨rfl,rfl,rfl,rfl⟩⟩
theorem Ej {r:Rd} {t:Tx} {L:List Tx} (h:My P src r (t::L)) (w:Rl):∃q,isR src w r=.ok (decide (t.2=w)) q∧My P src q (t::L)∧My P src (bP q) L∧Fq r q:=by
 obtain ⟨a,q,h1,h2,h3,h4⟩:=wZ h;exact ⟨q,by unfold isR;rw [h1];rfl,h2,h3,h4⟩
theorem wY {r:Rd} {t:Tx} {L:List Tx} (h:My P src r (t::L)) {w:Rl} (ht:t.2=w):∃q,jP src w r=.ok () q∧My P src q L∧Fq r q:=by
 obtain ⟨q,h1,h2,h3,h4⟩:=Ej h w;refine ⟨bP q, ?_,h3,h4.ps⟩;unfold jP;rw [h1,decide_eq_true ht];rfl
structure NmP (pre:List Rl) (n:Rl):Prop where
 ne:n≠[]
 own:(58:UInt8) ∉ n→([58]:Rl)∈pre
 far:∀x y,lN 58 n=some (x,y)→x≠[]∧y≠[]∧(58:UInt8) ∉ y∧x++[58]∈pre∧x≠[111,119,108]∧x≠[120,115,100]
theorem Y5 {pre:List Rl} {n:Rl} (h:NmP pre n) (a:Nat):MJ pre (4,owN n,a)=true∧Rt (owN n)=n:=by
 unfold owN;by_cases q:(58:UInt8)∈n
 ·rw [if_pos q]
  obtain ⟨x,y,hc⟩:∃x y,lN 58 n=some (x,y):=by
   cases hc:lN 58 n with
   | none=>exact absurd q (vP.1 hc)
   | some p=>exact ⟨p.1,p.2,rfl⟩
  obtain ⟨h1,h2,h3,h4,h5,h6⟩:=h.far x y hc;have he:=uO hc;constructor
  ·unfold MJ;simp only [hc]
   have hy:y.isEmpty=false:=by cases y<;>simp_all
   simp [hy,h3,h4,h5,h6]
  ·unfold Rt trimB
   cases n with
   | nil=>rfl
   | cons c r=>
    have hcc:c≠58:=by
     intro hc2;subst hc2;simp [lN] at hc;exact h1 hc.1
    simp only;rw [if_neg hcc]
 ·rw [if_neg q]
  have hn:n.isEmpty=false:=by
   cases n with
   | nil=>exact absurd rfl h.ne
   | cons=>rfl
  constructor
  ·unfold MJ;simp only [lN,if_true];simp [hn,q,h.own q]
  ·simp [Rt,trimB]
theorem VW {r:Rd} {n:Rl} {L:List Tx} (h:My P src r ((4,owN n)::L)) (hn:NmP r.pre n):∃q,mr src r=.ok n q∧My P src q L∧Fq r q:=by
 obtain ⟨a,q,h1,h2,h3,h4⟩:=wZ h;obtain ⟨k1,k2⟩:=Y5 hn a;refine ⟨bP q, ?_,h3,h4.ps⟩;unfold mr;rw [h1];simp only [OR.bind_ok,h4.pre,k1,pR,k2]
end
theorem WX {c:UInt8} (h:c=32∨c=10) (v:Rl):skp (c::v)=skp v:=by
 unfold skp
 have:skN (c::v).length (c::v)=1+skN v.length v:=by
  simp only [List.length_cons,skN]
  rw [if_pos (by rcases h with rfl|rfl<;>simp)]
 rw [this,Nat.add_comm];rfl
theorem BJ {c:UInt8} (h:¬((c.toNat:Int)=9∨(c.toNat:Int)=10∨(c.toNat:Int)=13∨(c.toNat:Int)=32)) (h2:¬(c.toNat:Int)=35) (v:Rl):skp (c::v)=c::v:=by
 unfold skp
 have:skN (c::v).length (c::v)=0:=by simp only [List.length_cons,skN];rw [if_neg h,if_neg h2]
 rw [this];rfl
theorem Y4 {c:UInt8} (h:c=32∨c=10) {v w:Rl} {t:Tx} (hx:Nx v t w):Nx (c::v) t w:=by
 unfold Nx;rw [WX h];exact hx
theorem Zc {P:Rl→Prop} {c:UInt8} (h:c=32∨c=10) {v:Rl} {t:Tx} {L:List Tx} (hx:Ly P v (t::L)):Ly P (c::v) (t::L):=by
 obtain ⟨w,h1,h2⟩:=hx;exact ⟨w,Y4 h h1,h2⟩
theorem aaR {c:UInt8} (h:c=40∨c=41∨c=61) (v:Rl):Nx (c::v) (1,[c]) v:=by
 unfold Nx;refine ⟨?_,by simp, ?_⟩
 ·rw [BJ]<;>rcases h with rfl|rfl|rfl<;>simp
 ·rcases h with rfl|rfl|rfl<;>simp [jv]
theorem Y3 (v:Rl):Nx (94::94::v) (1,[94,94]) v:=by
 unfold Nx;refine ⟨?_,by simp, ?_⟩
 ·rw [BJ]<;>simp
 ·simp [jv]
theorem WQ {c:UInt8} (h:DL c=true):¬((c.toNat:Int)=9∨(c.toNat:Int)=10∨(c.toNat:Int)=13∨(c.toNat:Int)=32)∧¬(c.toNat:Int)=35∧¬((c.toNat:Int)=40∨(c.toNat:Int)=41∨(c.toNat:Int)=61)∧¬(c.toNat:Int)=94∧¬(c.toNat:Int)=60∧¬(c.toNat:Int)=34:=by
 unfold DL wdI ltI at h;simp only [Bool.or_eq_true,Bool.and_eq_true,decide_eq_true_eq] at h;omega
theorem F7 {p:UInt8→Bool}:∀{w:Rl},w.all p=true→∀{v:Rl},(∀c∈v.head?,p c=false)→jK p (w++v)=w.length
 | [],_,v,hv=>by
  cases v with
  | nil=>rfl
  | cons c v=>have:=hv c (by simp);simp [jK,this]
 | c::w,h,v,hv=>by
  rw [List.all_cons,Bool.and_eq_true] at h;have ih:=F7 (p:=p) h.2 hv;unfold jK at ih ⊢;simp [h.1,ih]
theorem aaQ {w:Rl} (hw:w.all DL=true) (hn:w≠[]) {v:Rl} (hv:∀c∈v.head?,DL c=false):Nx (w++v) (4,w) v:=by
 unfold Nx
 cases w with
 | nil=>exact absurd rfl hn
 | cons c w=>
  have hc:DL c=true:=by rw [List.all_cons,Bool.and_eq_true] at hw;exact hw.1
  obtain ⟨h1,h2,h3,h4,h5,h6⟩:=WQ hc;refine ⟨by rw [List.cons_append,BJ h1 h2],hn, ?_⟩;have hs:=F7 hw hv;rw [List.cons_append] at hs ⊢;simp only [jv,if_neg h3,if_neg h4,if_neg h5,if_neg h6,hs]
theorem acM {p:Rl} (hp:p.all Tn=true) (v:Rl):Nx (60::(p++62::v)) (2,60::(p++[62])) v:=by
 unfold Nx;have hs:jK Tn (p++62::v)=p.length:=F7 hp (by intro c hc;simp at hc;subst hc;decide)
 refine ⟨by rw [BJ]<;>simp,by simp, ?_⟩
 have he:Jd Tn 62 (60::(p++62::v))=p.length+2:=by
  unfold Jd;rw [List.tail_cons,hs]
  have:(60::(p++62::v))[1+p.length]?=some 62:=by rw [Nat.add_comm];simp
  rw [if_pos this];omega
 simp [jv,he]
theorem acK {p:Rl} (hp:p.all Rx=true) (v:Rl):Nx (34::(p++34::v)) (3,34::(p++[34])) v:=by
 unfold Nx;have hs:jK Rx (p++34::v)=p.length:=F7 hp (by intro c hc;simp at hc;subst hc;decide)
 refine ⟨by rw [BJ]<;>simp,by simp, ?_⟩
 have he:Jd Rx 34 (34::(p++34::v))=p.length+2:=by
  unfold Jd;rw [List.tail_cons,hs]
  have:(34::(p++34::v))[1+p.length]?=some 34:=by rw [Nat.add_comm];simp
  rw [if_pos this];omega
 simp [jv,he]
end Go.Ai.Z
namespace Go.Ai.Z
open Go.Ai
theorem aa1 {b:UInt8} (h:U6 b=true):DL b=true∧b≠58:=by
 unfold U6 acU Xo at h;simp only [Bool.or_eq_true,Bool.and_eq_true,decide_eq_true_eq] at h;constructor
 ·unfold DL wdI ltI;simp only [Bool.or_eq_true,Bool.and_eq_true,decide_eq_true_eq];omega
 ·rintro rfl;revert h;decide
theorem LD:∀{l:Rl},Ed l=true→l.all DL=true∧(58:UInt8) ∉ l
 | [],_=>⟨rfl,by simp⟩
 | b::r,h=>by
  rw [EG,Bool.and_eq_true] at h;obtain ⟨h1,h2⟩:=LD h.2;obtain ⟨h3,h4⟩:=aa1 h.1;exact ⟨by rw [List.all_cons,h3,h1];rfl,by simp [h2,Ne.symm h4]⟩
theorem Ls {l:Rl} (h:Ba l=true):l≠[]∧l.all DL=true∧(58:UInt8) ∉ l∧(∃c r,l=c::r∧ltI c.toNat=true):=by
 unfold Ba at h;rw [Bool.and_eq_true,Bool.and_eq_true] at h;obtain ⟨h1,h2⟩:=LD h.1.2
 cases l with
 | nil=>simp at h
 | cons c r=>exact ⟨by simp,h1,h2,c,r,rfl,h.1.1⟩
def NmV (n:Rl):Prop:=iZ n=true∨J7 n=true
theorem Vk {n:Rl} (h:(58:UInt8) ∉ n):lN 58 n=none:=vP.2 h
theorem Pj {n:Rl} (h:NmV n):((58:UInt8) ∉ n∧n≠[]∧n.all DL=true)∨(∃x y,lN 58 n=some (x,y)∧Ba x=true∧Ba y=true):=by
 rcases h with h|h
 ·unfold iZ at h;rw [Bool.and_eq_true] at h
  cases hc:lN 58 n with
  | none=>
   rw [hc] at h;obtain ⟨h1,h2,h3,_⟩:=Ls h.2;exact .inl ⟨h3,h1,h2⟩
  | some p=>
   rw [hc] at h;simp only [Bool.and_eq_true] at h;exact .inr ⟨p.1,p.2,rfl,h.2.1,h.2.2⟩
 ·unfold J7 at h;simp only [Bool.and_eq_true,decide_eq_true_eq] at h;obtain ⟨h1,h2⟩:=LD h.2;exact .inl ⟨h2,by rintro rfl;simp at h,h1⟩
theorem VP {n:Rl} (h:NmV n):(owN n).all DL=true∧owN n≠[]:=by
 unfold owN;rcases Pj h with ⟨h1,h2,h3⟩|⟨x,y,h1,h2,h3⟩
 ·rw [if_neg h1];exact ⟨by rw [List.all_cons,h3];rfl,by simp⟩
 ·have he:=uO h1;rw [if_pos (by rw [he];simp)];obtain ⟨_,k2,_,_⟩:=Ls h2;obtain ⟨_,k6,_,_⟩:=Ls h3;subst he;refine ⟨?_,by simp⟩;rw [List.all_append,List.all_cons,k2,k6];rfl
structure NmD (pre:List Rl) (n:Rl):Prop where
 own:([58]:Rl)∈pre
 far:∀x y,lN 58 n=some (x,y)→x++[58]∈pre∧x≠[111,119,108]∧x≠[120,115,100]
theorem VQ (n:Rl):(58:UInt8)∈owN n:=by
 unfold owN;split
 ·assumption
 ·simp
theorem Iw {pre:List Rl} {n:Rl} (hn:NmP pre n) (w:Rl) (hw:(58:UInt8) ∉ w∨(∃y,lN 58 w=some ([111,119,108],y))∨(∃y,lN 58 w=some ([120,115,100],y))):owN n≠w:=by
 rintro rfl
 have hc:∃x y,lN 58 (owN n)=some (x,y)∧x≠[111,119,108]∧x≠[120,115,100]:=by
  unfold owN;by_cases q:(58:UInt8)∈n
  ·rw [if_pos q]
   cases hc:lN 58 n with
   | none=>exact absurd q (vP.1 hc)
   | some p=>obtain ⟨_,_,_,_,h5,h6⟩:=hn.far p.1 p.2 hc;exact ⟨p.1,p.2,rfl,h5,h6⟩
  ·rw [if_neg q];exact ⟨[],n,by simp [lN],by simp,by simp⟩
 obtain ⟨x,y,h1,h2,h3⟩:=hc;rcases hw with hw|⟨z,hz⟩|⟨z,hz⟩
 ·exact hw (VQ n)
 ·rw [h1] at hz;cases hz;exact h2 rfl
 ·rw [h1] at hz;cases hz;exact h3 rfl
def Par {α:Type} (P:Rl→Prop) (src:Rl) (pre:List Rl) (f:Rd→OR α) (v:α) (T:List Tx):Prop:=
 T≠[]∧(∀t∈T.head?,t.2≠[41])∧∀(r:Rd) (L:List Tx),My P src r (T++L)→r.pre=pre→∃q,f r=.ok v q∧My P src q L∧Fq r q
theorem VX {α:Type} {P:Rl→Prop} {src:Rl} {pre:List Rl} {f:Rd→OR α}:∀(vs:List α) (T:α→List Tx),(∀v∈vs,Par P src pre f v (T v))→∀(g:α→α) (hg:∀v∈vs,g v=v) (n:Nat) (acc:List α) (r:Rd) (L:List Tx),vs.length<n→2≤acc.length+vs.length→r.pre=pre→
  My P src r (vs.flatMap T++(1,[41])::L)→∃q,lD src f 2 n acc r=.ok (acc++vs) q∧My P src q ((1,[41])::L)∧Fq r q
 | [],T,_,g,hg,n,acc,r,L,hn,ha,hr,h=>by
  obtain ⟨n,rfl⟩:∃k,n=k+1:=⟨n - 1,by simp at hn;omega⟩;obtain ⟨q,h1,h2,h3,h4⟩:=Ej (t:=(1,[41])) h [41];refine ⟨q, ?_,h2,h4⟩;unfold lD;rw [if_neg (by simp at ha;omega),h1];simp
 | v::vs,T,hT,g,hg,n,acc,r,L,hn,ha,hr,h=>by
  obtain ⟨n,rfl⟩:∃k,n=k+1:=⟨n - 1,by simp at hn;omega⟩;obtain ⟨p1,p2,p3⟩:=hT v (by simp);rw [List.flatMap_cons,List.append_assoc] at h
  have key:∀r1,My P src r1 (T v++(vs.flatMap T++(1,[41])::L))→r1.pre=pre→∃q,((f r1).bind fun v r=>lD src f 2 n (acc++[v]) r)=.ok (acc++v::vs) q∧My P src q ((1,[41])::L)∧Fq r1 q:=fun r1 h1 hr1=>by
   obtain ⟨q,e1,e2,e3⟩:=p3 r1 _ h1 hr1;obtain ⟨q2,e4,e5,e6⟩:=VX vs T (fun u hu=>hT u (by simp [hu])) g (fun u hu=>hg u (by simp [hu])) n (acc++[v]) q L (by simp at hn;omega) (by simp at ha ⊢;omega) (e3.pre.trans hr1) e2;exact ⟨q2,by rw [e1,OR.bind_ok,e4];simp,e5,e3.tr e6⟩
  unfold lD;by_cases z:acc.length<2
  ·rw [if_pos z];simp only [OR.bind_ok,Bool.false_eq_true,if_false];exact key r h hr
  ·rw [if_neg z]
   cases hT':T v with
   | nil=>exact absurd hT' p1
   | cons t T'=>
    have hd:=p2 t (by rw [hT'];rfl);rw [hT',List.cons_append] at h;obtain ⟨q,h1,h2,h3,h4⟩:=Ej h [41];rw [h1,decide_eq_false hd];simp only [OR.bind_ok,Bool.false_eq_true,if_false];obtain ⟨q2,k1,k2,k3⟩:=key q (by rw [hT',List.cons_append];exact h2) (h4.pre.trans hr);exact ⟨q2,k1,k2,h4.tr k3⟩
def VS:List Tx:=[(4,wA9),(1,[40]),(4,[58,111,112,101,110]),(3,wD2),(1,[41])]
theorem SI {P:Rl→Prop} {src:Rl} {r:Rd} {t:Tx} {L:List Tx} (n:Nat) (h:My P src r (t::L)) (ht:t.2≠wA9):∃q,nC src (n+1) r=.ok () q∧My P src q (t::L)∧Fq r q:=by
 obtain ⟨q,h1,h2,h3,h4⟩:=Ej h wA9;refine ⟨q, ?_,h2,h4⟩;unfold nC;rw [h1,decide_eq_false ht];simp
theorem Y6 {P:Rl→Prop} {src:Rl} {r:Rd} {t:Tx} {L:List Tx} (n:Nat) (b:Bool) (h:My P src r ((if b=true then VS else [])++t::L)) (ht:t.2≠wA9) (hp:([58]:Rl)∈r.pre) (ho:r.op=false):
  ∃q,nC src (n+2) r=.ok () q∧My P src q (t::L)∧q.pre=r.pre∧q.iri=r.iri∧q.op=b∧q.ax=r.ax:=by
 cases b with
 | false=>
  obtain ⟨q,h1,h2,h3⟩:=SI (n+1) h ht;exact ⟨q,h1,h2,h3.pre,h3.iri,h3.op.trans ho,h3.ax⟩
 | true=>
  simp only [if_true,VS,List.cons_append,List.nil_append] at h;obtain ⟨q,h1,h2,h3,h4⟩:=Ej h wA9;obtain ⟨q1,a1,a2,a3⟩:=wY h3 (w:=[40]) rfl;obtain ⟨q2,b1,b2,b3⟩:=VW (n:=[111,112,101,110]) (r:=q1) (by exact a2) ⟨by simp,fun _=>by rw [a3.pre];show _∈q.pre;rw [h4.pre];exact hp,fun x y hc=>by simp [lN] at hc⟩;obtain ⟨a,q3,c1,c2,c3,c4⟩:=wZ b2;obtain ⟨q4,d1,d2,d3⟩:=wY c3 (w:=[41]) rfl;obtain ⟨q5,f1,f2,f3⟩:=SI (src:=src) (P:=P) (r:={ q4 with op:=true }) n (t:=t) (L:=L) d2 ht;refine ⟨q5, ?_,f2, ?_, ?_,f3.op, ?_⟩
  ·unfold nC;rw [h1];simp only [decide_true,OR.bind_ok,if_true,a1,b1,c1,pR,d1]
   have:q4.op || (decide True && decide True)=true:=by simp
   simpa using f1
  ·rw [f3.pre];show q4.pre=_;rw [d3.pre];show q3.pre=_;rw [c4.pre,b3.pre,a3.pre];exact h4.pre
  ·rw [f3.iri];show q4.iri=_;rw [d3.iri];show q3.iri=_;rw [c4.iri,b3.iri,a3.iri];exact h4.iri
  ·rw [f3.ax];show q4.ax=_;rw [d3.ax];show q3.ax=_;rw [c4.ax,b3.ax,a3.ax];exact h4.ax
theorem Si (N a0:Nat):∀(xs l:List Ax) (r:Rd),(∀x∈xs,pq { x with op:=r.op }=0)→∃A,yC N a0 xs l r=.ok (l++xs.map fun x=>{ x with op:=r.op }) { r with ax:=A }
 | [],l,r,_=>⟨r.ax,by simp [yC]⟩
 | x::xs,l,r,h=>by
  obtain ⟨A,hA⟩:=Si N a0 xs (l++[{ x with op:=r.op }]) { r with ax:=axV N (l++[{ x with op:=r.op }]) } (fun y hy=>h y (by simp [hy]));refine ⟨A, ?_⟩;unfold yC;rw [if_pos (h x (by simp)),hA];simp
theorem VY {P:Rl→Prop} {src:Rl} {n N:Nat} {w:Rl} (hw:aaZ w=true) {body:List Tx} {xs:List Ax} {op:Bool} {pre:List Rl} (hb:∀(r1:Rd) (L:List Tx),My P src r1 (body++(1,[41])::L)→r1.op=false→r1.pre=pre→
   ∃q,Oy src n w r1=.ok xs q∧My P src q ((1,[41])::L)∧q.pre=r1.pre∧q.iri=r1.iri∧q.op=op)
  (hc:∀x∈xs,pq { x with op:=op }=0) (l:List Ax) (hlen:l.length+xs.length≤1024) (r:Rd) (hp:r.pre=pre) (L:List Tx) (h:My P src r ((4,w)::(1,[40])::(body++(1,[41])::L))):
  ∃q,En src n N l r=.ok (l++xs.map fun x=>{ x with op:=op }) q∧My P src q L∧q.pre=r.pre∧q.iri=r.iri:=by
 obtain ⟨a,q,h1,h2,h3,h4⟩:=wZ h;obtain ⟨q1,a1,a2,a3⟩:=wY h3 (w:=[40]) rfl;obtain ⟨q2,b1,b2,b3,b4,b5⟩:=hb { q1 with op:=false } L a2 rfl (by show q1.pre=_;rw [a3.pre];show q.pre=_;rw [h4.pre,hp]);obtain ⟨q3,c1,c2,c3⟩:=wY b2 (w:=[41]) rfl;have hop:q3.op=op:=c3.op.trans b5;obtain ⟨A,hA⟩:=Si N a xs l q3 (by rw [hop];exact hc);rw [hop] at hA;refine ⟨{ q3 with ax:=A }, ?_,c2, ?_, ?_⟩
 ·unfold En;rw [h1];simp only [OR.bind_ok,hw,pR,a1,b1,c1,hA];rw [if_neg (by simp;omega),←hop]
 ·show q3.pre=_;rw [c3.pre,b3];show q1.pre=_;rw [a3.pre];exact h4.pre
 ·show q3.iri=_;rw [c3.iri,b4];show q1.iri=_;rw [a3.iri];exact h4.iri
def Sj (w u:Rl):List Tx:=[(4,wC0),(1,[40]),(4,w),(1,[61]),(2,u),(1,[41])]
theorem aaS {P:Rl→Prop} {src:Rl} {r:Rd} {w u:Rl} {L:List Tx} (h:My P src r (Sj w u++L)) (hw:∀a,Mc r.pre (4,w,a)=true) (hu:∀a,zx w (2,u,a)=true):
  ∃q,Jw src r=.ok () q∧My P src q L∧q.pre=rX r.pre w∧q.iri=if w=[58] then xq u else r.iri:=by
 simp only [Sj,List.cons_append,List.nil_append] at h;obtain ⟨q1,a1,a2,a3⟩:=wY h (w:=wC0) rfl;obtain ⟨q2,b1,b2,b3⟩:=wY a2 (w:=[40]) rfl;obtain ⟨a,q3,c1,c2,c3,c4⟩:=wZ b2;obtain ⟨q4,d1,d2,d3⟩:=wY c3 (w:=[61]) rfl;obtain ⟨a',q5,e1,e2,e3,e4⟩:=wZ d2;obtain ⟨q6,f1,f2,f3⟩:=wY e3 (w:=[41]) rfl;have hpre:q3.pre=r.pre:=by rw [c4.pre,b3.pre,a3.pre]
 have hpre6:q6.pre=r.pre:=by rw [f3.pre];show q5.pre=_;rw [e4.pre,d3.pre];exact hpre
 have hiri6:q6.iri=r.iri:=by rw [f3.iri];show q5.iri=_;rw [e4.iri,d3.iri];show q3.iri=_;rw [c4.iri,b3.iri,a3.iri]
 refine ⟨{ q6 with pre:=rX r.pre w,iri:=if w=[58] then xq u else r.iri }, ?_,f2,rfl,rfl⟩;unfold Jw;rw [a1];simp only [OR.bind_ok,b1,c1,hpre,hw a,pR,d1,e1,hu a',f1,hpre6,hiri6]
end Go.Ai.Z
namespace Go.Ai.Z
open Go.Ai
open Go.Lib (itoa decDigits atoi decFrom decNat digitVal)
def afx (w:Rl) (n:Int):List Tx:=[(4,w),(3,34::(itoa n++[34])),(1,[94,94]),(4,wA3)]
mutual
def agX:C→List Tx
 | .mk k n lo hi _ ps=>
  if k=1 then [(4,wA8)]
  else if k=2 then [(4,wA7)]
  else if k=4 then [(4,wB8),(1,[40]),(4,owN n),(1,[41])]
  else if k=5 then (4,wA0)::(1,[40])::(YA ps++[(1,[41])])
  else if k=6 then (4,wA1)::(1,[40])::(4,owN n)::(YA ps++[(1,[41])])
  else if k=7 then (4,wA5)::(1,[40])::(4,owN n)::(4,wB1)::(1,[40])::(4,wA3)::(afx wA4 lo++afx wB9 hi++[(1,[41]),(1,[41])])
  else [(4,owN n)]
def YA:List C→List Tx
 | []=>[]
 | c::r=>agX c++YA r
end
mutual
def zc:C→C
 | .mk k n l h _ ps=>.mk k n l h ps.isEmpty (zcs ps)
def zcs:List C→List C
 | []=>[]
 | c::r=>zc c::zcs r
end
inductive VC (pre:List Rl):C→Prop where
 | mk (c:C) (hs:wJ c=true) (hn:c.kind=3∨c.kind=4∨c.kind=6∨c.kind=7→NmP pre c.name) (hp:∀p∈c.parts,VC pre p):VC pre c
section
variable {P:Rl→Prop} {src:Rl} {pre:List Rl}
end
end Go.Ai.Z
