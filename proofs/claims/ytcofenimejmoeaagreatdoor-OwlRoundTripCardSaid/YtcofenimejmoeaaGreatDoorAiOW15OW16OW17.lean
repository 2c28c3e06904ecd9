/-
 The reference's Write.
-/
import Derived.Test.YtcofenimejmoeaaGreatDoorAiOW10OW11OX0OW12OW13OW14
import Derived.Test.YtcofenimejmoeaaGreatDoorAiK8K9K10K11K12
set_option maxRecDepth 100000
set_option linter.unusedSimpArgs false
set_option linter.unusedVariables false
set_option linter.unusedSectionVars false
namespace Go.Ai.Z
def Hg (p w:Rl):Rl:=wC6++w++[58,61,60]++p++w++[47,62,41]
def Y1:Rl:=[79,110,116,111,108,111,103,121,40]
def O6 (p:Rl):Rl:=[80,114,101,102,105,120,40,58,61,60]++p++[62,41]
def Rf:Rl:=[80,114,101,102,105,120,40,111,119,108,58,61,60]++wC8++[62,41]
def Q9:Rl:=[80,114,101,102,105,120,40,120,115,100,58,61,60]++wC5++[62,41]
def X9 (p:Rl) (W:List Rl) (l:List Ax):List Rl:=[O6 p,Rf,Q9]++W.map (Hg p)++[Y1]++l.map owA++[[41]]
def vT (ls:List Rl):Rl:=ls.flatMap fun x=>x++[10]
theorem FT (a b:List Rl):vT (a++b)=vT a++vT b:=by simp [vT]
def E8 (p:Rl) (W:List Rl) (l:List Ax):Rl:=vT (X9 p W l)
theorem QW (k:Nat):∀ls:List Rl,(∀x∈ls,x.length≤k)→(vT ls).length≤(k+1) * ls.length
 | [],_=>by simp [vT]
 | a::r,h=>by
  have h1:=h a (by simp);have h2:=QW k r fun x hx=>h x (by simp [hx]);have h3:(vT (a::r)).length=a.length+1+(vT r).length:=by simp [vT];omega
  rw [h3,List.length_cons,Nat.mul_succ];omega
theorem ado (p w:Rl):(Hg p w).length=13+p.length+2 * w.length:=by simp [Hg];omega
theorem agl (p:Rl) (W:List Rl) (l:List Ax):E8 p W l=vT [O6 p,Rf,Q9]++vT (W.map (Hg p))++vT [Y1]++vT (l.map owA)++[41,10]:=by
 unfold E8 X9;rw [FT,FT,FT,FT];rfl
def Ce (l:List Ax) (p:Rl):Int:=
 if 200<p.length∨XH p=false then 50 else if yx l≠0 then yx l else if Kr∈jU l∨OM∈jU l then 50
 else if 65536<(E8 p (jU l) l).length then 2 else 0
def U9 (l:List Ax) (p:Rl):AV:=if Ce l p=0 then .sl (aC (E8 p (jU l) l)) else .ns
end Go.Ai.Z
namespace Go.Ai.Z
theorem XE (ls:List Rl):joinL [10] (ls++[[]])=vT ls:=by
 have key:∀(r:List Rl) (a:Rl),a++((r++[[]]).flatMap fun y=>([10]:Rl)++y)=vT (a::r):=by
  intro r
  induction r with
  | nil=>intro a;simp [vT]
  | cons b r ih=>
   intro a;have h:=ih b;rw [List.cons_append,List.flatMap_cons];have e:vT (a::b::r)=a++[10]++vT (b::r):=by simp [vT]
   rw [e,←h];simp
 cases ls with
 | nil=>rfl
 | cons a r=>exact key r a
theorem adU (L0:AV) (p:Rl) (hp:p.length≤1000) (s:St) (cx:Ctx):∀(rest:Rl) (i:Nat),p.drop i=rest→
  ∃j:Int,gQ (aB P0.glob (aj P0) cx false sU) [0,1,23,24,25]
   [(0,.v L0),(1,.v (.s p)),(23,.v (.sl (aC p))),(24,.v (.i .i64 p.length)),(25,.v (.i .i64 i))] s=
   if XH rest=true then .exit 0 [(0,.v L0),(1,.v (.s p)),(23,.v (.sl (aC p))),(24,.v (.i .i64 p.length)),(25,.v (.i .i64 j)),(26,.v (.b false))] s
   else .ret [(4,.v .ns),(5,.v (.i .i64 50))] s
 | [],i,h=>by
  have h1:¬i<p.length:=Nat.not_lt.2 (drop_nil h);refine ⟨i,ak fun K hK=>?_⟩;simp [sU,h1,XH]
 | b::r,i,h=>by
  obtain ⟨h1,h2,h3,h4⟩:=drop_cons h;have h5:=h4 h3;have hwi:=wI (i:=i) (by omega);have hb:i<(aC p).length:=by rw [lg];exact h3
  have hg:(aC p)[i]=.i .u8 b.toNat:=by simp [aC,h5]
  have e1:=OE b;obtain ⟨j,ih⟩:=adU L0 p hp s cx r (i+1) h2;have hc:XH (b::r)=(XI b.toNat && XH r):=rfl;rw [hc];by_cases q:XI b.toNat=true
  ·refine ⟨j,ak fun K hK=>?_⟩;rw [←hK,show ((i+1:Nat):Int)=(i:Int)+1 from rfl] at ih;clear hK h4;rw [q,Bool.true_and,←ih];clear ih;rw [q] at e1;simp -implicitDefEqProofs [sU,h3,hb,hg,hwi,e1]
  ·refine ⟨i,ak fun K hK=>?_⟩;clear hK h4 ih;rw [if_neg (by simp [q])];have q':XI b.toNat=false:=by simpa using q
   rw [q'] at e1;simp -implicitDefEqProofs [sU,h3,hb,hg,e1]
theorem adT (L0:AV) (p:Rl) (W:List Rl) (hW:W.length≤2200) (hp:p.length≤1000) (hw:∀w∈W,w.length≤24) (s:St) (cx:Ctx):∀(rest:List Rl) (i:Nat) (t:List Rl),W.drop i=rest→t.length+rest.length≤8000000→
  ∃j:Int,gQ (aB P0.glob (aj P0) cx false wP) [0,1,10,53,54,55]
   [(0,.v L0),(1,.v (.s p)),(10,.own false au 1 (t.map .s)),(53,.v (qC W)),(54,.v (.i .i64 W.length)),(55,.v (.i .i64 i))] s=
   .exit 2 [(0,.v L0),(1,.v (.s p)),(10,.own false au 1 ((t++rest.map (Hg p)).map .s)),(53,.v (qC W)),(54,.v (.i .i64 W.length)),(55,.v (.i .i64 j)),(56,.v (.b false))] s
 | [],i,t,h,ht=>by
  have h1:¬i<W.length:=Nat.not_lt.2 (drop_nil h);refine ⟨i,ak fun K hK=>?_⟩;simp [wP,h1]
 | w::r,i,t,h,ht=>by
  obtain ⟨h1,h2,h3,h4⟩:=drop_cons h;have h5:=h4 h3;have hwl:=hw w (by rw [←h5];exact List.getElem_mem h3);have hwi:=wI (i:=i) (by omega)
  have hrow:qC W=.sl (W.map .s):=by
   cases W with
   | nil=>simp at h3
   | cons a r=>rfl
  simp only [List.length_cons] at ht;obtain ⟨j,ih⟩:=adT L0 p W hW hp hw s cx r (i+1) (t++[Hg p w]) h2 (by simp;omega);refine ⟨j,ak fun K hK=>?_⟩;rw [←hK,show ((i+1:Nat):Int)=(i:Int)+1 from rfl] at ih;clear hK h4 hw;rw [hrow] at ih ⊢;have e:(t++(w::r).map (Hg p))=(t++[Hg p w])++r.map (Hg p):=by simp
  rw [e,←ih];clear ih e;have hm:t.length+1≤aQ:=by unfold aQ;omega
  simp -implicitDefEqProofs [wP,h3,h5,hwi,hm,Hg]
  repeat' (first | (split<;>(try simp only [fZ,gm,gy,kz,kC])<;>(try simp [*])) | (simp only [fZ,gm,gy,kz,kC]<;>(try simp [*]))|omega)
theorem adS (z:Bool) (l:List Ax) (hl:l.length≤40) (hx:∀x∈l,x.Few∧x.Good) (s:St) (cx:Ctx):∀(rest:List Ax) (i:Nat) (t:List Rl),l.drop i=rest→t.length+rest.length≤8000000→
  ∃j:Int,gQ (aB P0.glob (aj P0) cx false wO) [10,74,75,76]
   [(10,.own false au 1 (t.map .s)),(74,.v (slf z (l.map cu))),(75,.v (.i .i64 l.length)),(76,.v (.i .i64 i))] s=
   .exit 4 [(10,.own false au 1 ((t++rest.map owA).map .s)),(74,.v (slf z (l.map cu))),(75,.v (.i .i64 l.length)),(76,.v (.i .i64 j)),(77,.v (.b false))] s
 | [],i,t,h,ht=>by
  have h1:¬i<l.length:=Nat.not_lt.2 (drop_nil h);refine ⟨i,ak fun K hK=>?_⟩;simp [wO,h1]
 | x::r,i,t,h,ht=>by
  obtain ⟨h1,h2,h3,h4⟩:=drop_cons h;have h5:=h4 h3;obtain ⟨x1,x2⟩:=hx x (by rw [←h5];exact List.getElem_mem h3);have hwi:=wI (i:=i) (by omega);have e1:=Yq x x1 x2;simp only [List.length_cons] at ht;obtain ⟨j,ih⟩:=adS z l hl hx s cx r (i+1) (t++[owA x]) h2 (by simp;omega);refine ⟨j,ak fun K hK=>?_⟩;rw [←hK,show ((i+1:Nat):Int)=(i:Int)+1 from rfl] at ih;clear hK h4 hx;have e:(t++(x::r).map owA)=(t++[owA x])++r.map owA:=by simp
  rw [e,←ih];clear ih e;have hm:t.length+1≤aQ:=by unfold aQ;omega
  simp -implicitDefEqProofs [wO,h3,h5,hwi,e1,hm]
  repeat' (first | (split<;>(try simp only [fZ,gm,gy,kz,kC])<;>(try simp [*])) | (simp only [fZ,gm,gy,kz,kC]<;>(try simp [*]))|omega)
theorem OH (z:Bool) (l:List Ax) (hl:l.length≤15) (hf:∀x∈l,x.Few) (hx:yx l=0→∀x∈l,(owA x).length≤33000) (p:Rl) (hp:p.length≤1000) (s:St) (cx:Ctx):
  aj P0 (.fn (.func uV) [] []) [slf z (l.map cu),.s p] s cx=.ret (.tu [U9 l p,.i .i64 (Ce l p)]) s:=by
 obtain ⟨j0,e0⟩:=adU (slf z (l.map cu)) p hp s ⟨s.length,s.length⟩ p 0 rfl;have q0:¬(1024:Int)<(l.length:Int):=by omega
 have hbl:=lg p;refine VY (by simp) ?_;unfold U9;by_cases h1:200<p.length
 ·rw [show Ce l p=50 from by unfold Ce;rw [if_pos (.inl h1)]];have h1i:(200:Int)<(p.length:Int):=by omega
  simp -implicitDefEqProofs [af,l9,q0,h1i]
 have h1i:¬(200:Int)<(p.length:Int):=by omega
 cases h2:XH p
 ·rw [show Ce l p=50 from by unfold Ce;rw [if_pos (.inr h2)]];rw [if_neg (by rw [h2];exact Bool.false_ne_true)] at e0;simp at e0;simp -implicitDefEqProofs [af,l9,q0,h1i,hbl,e0]
 rw [if_pos h2] at e0;simp at e0;have h12:¬(200<p.length∨XH p=false):=by rw [h2];simp;omega
 by_cases h3:yx l≠0
 ·rw [show Ce l p=yx l from by unfold Ce;rw [if_neg h12,if_pos h3],if_neg h3];have ev:=Ih z l (by omega) hf h3;simp -implicitDefEqProofs [af,l9,q0,h1i,hbl,e0,ev,h3,dQ,splice]
 have h3:yx l=0:=Classical.not_not.1 h3;have ev:=Ii z l (by omega) hf h3;have er:∀X:List Rl,slf true (X.map AV.s)=qC X:=fun _=>rfl;simp only [afz,er] at ev;have hv:∀x∈l,x.Vd:=fun x hm=>vd (wz h3 x hm);have hw1:=afq hv;have hw2:=afp hv;have hnl:=Uy hv;have hn1:=ahT hv;have ef:=TP (vA l) (vR l) (vF l) (vI l) (by unfold EI at hnl;simp only [List.length_append] at hnl;omega) hn1;have hwd:OQ ((vA l++vR l++vF l++vI l).flatMap JL)=jU l:=rfl;rw [hwd] at ef
 have hrow:qC (jU l)=.sl ((jU l).map .s)∨(qC (jU l)=.ns∧jU l=[]):=by
  cases jU l with
  | nil=>exact .inr ⟨rfl,rfl⟩
  | cons a r=>exact .inl rfl
 have c1:=OI (jU l) Kr (by omega) (qC (jU l)) hrow;have c2:=OI (jU l) OM (by omega) (qC (jU l)) hrow;unfold Kr at c1;unfold OM at c2;by_cases h4:Kr∈jU l∨OM∈jU l
 ·rw [show Ce l p=50 from by unfold Ce;rw [if_neg h12,if_neg (by omega),if_pos h4]]
  have d1:decide (Kr∈jU l)=true∨decide (Kr∈jU l)=false∧decide (OM∈jU l)=true:=by
   by_cases q:Kr∈jU l
   ·exact .inl (decide_eq_true q)
   ·exact .inr ⟨decide_eq_false q,decide_eq_true (h4.resolve_left q)⟩
  unfold Kr OM at d1;clear hv hf hx hw2 hn1 hrow h4;rcases d1 with d1|⟨d1,d2⟩
  ·rw [d1] at c1;simp -implicitDefEqProofs [af,l9,q0,h1i,hbl,e0,ev,ef,c1,dQ,splice]
  ·rw [d1] at c1;rw [d2] at c2;simp -implicitDefEqProofs [af,l9,q0,h1i,hbl,e0,ev,ef,c1,c2,dQ,splice]
 have hE:Ce l p=if 65536<(E8 p (jU l) l).length then 2 else 0:=by unfold Ce;rw [if_neg h12,if_neg (by omega),if_neg h4]
 rw [hE];have d1:decide (Kr∈jU l)=false:=decide_eq_false fun q=>h4 (.inl q);have d2:decide (OM∈jU l)=false:=decide_eq_false fun q=>h4 (.inr q);unfold Kr at d1;unfold OM at d2;rw [d1] at c1;rw [d2] at c2;have hdl:=agl p (jU l) l
 have b1:(vT [O6 p,Rf,Q9]).length≤500:=by
  have h5:(vT [O6 p,Rf,Q9]).length=(O6 p).length+1+(vT [Rf,Q9]).length:=by simp [vT];omega
  have h6:(vT [Rf,Q9]).length=95:=by decide
  rw [h5];simp only [O6,List.length_append,List.length_cons,List.length_nil];omega
 have b2:=QW 261 ((jU l).map (Hg p)) (by
  intro x hm;obtain ⟨w,hw,rfl⟩:=List.mem_map.1 hm
  have:=hw2 w hw
  rw [ado];omega)
 have b3:=QW 33000 (l.map owA) (by
  intro x hm;obtain ⟨a,ha,rfl⟩:=List.mem_map.1 hm
  exact hx h3 a ha)
 rw [List.length_map] at b2 b3;have b4:(vT [Y1]).length=10:=by decide
 have bD:(E8 p (jU l) l).length≤1048576:=by
  rw [hdl];simp only [List.length_append,List.length_cons,List.length_nil];omega
 obtain ⟨j2,e2⟩:=adT (slf z (l.map cu)) p (jU l) (by omega) hp hw2 s ⟨s.length,s.length⟩ (jU l) 0 [O6 p,Rf,Q9] rfl (by simp;omega);obtain ⟨j3,e3⟩:=adS z l (by omega) (fun x hm=>⟨hf x hm,good (wz h3 x hm)⟩) s ⟨s.length,s.length⟩ l 0 ([O6 p,Rf,Q9]++(jU l).map (Hg p)++[Y1]) rfl (by simp;omega);have ej:=Gv (X9 p (jU l) l++[[]]) [10] (by rw [XE];exact bD) (by simp [X9];omega);rw [XE] at ej;have hdo:vT (X9 p (jU l) l)=E8 p (jU l) l:=rfl;rw [hdo] at ej;clear hv hf hx hw2 hn1 hrow hdl b2 b3;unfold X9 at ej;have hm1:(jU l).length+1+1+1+1≤aQ:=by unfold aQ;omega
 have hm2:(jU l).length+(l.length+1)+1+1+1+2≤aQ:=by unfold aQ;omega
 have hp1:p.length≤4611686018427387894:=by omega
 have hp2:p.length≤4611686018427387892:=by omega
 unfold O6 Rf Q9 at e2 e3 ej;unfold Y1 at e3 ej;simp at e2 e3 ej;generalize E8 p (jU l) l=D at *;by_cases h5:65536<D.length
 ·rw [if_pos h5];have h5':(65536:Int)<(D.length:Int):=by omega
  simp -implicitDefEqProofs [af,l9,q0,h1i,hbl,e0,ev,ef,c1,c2,dQ,splice,show List.range 2=[0,1] from rfl,show List.range 3=[0,1,2] from rfl,e2,e3,ej,hp1,hp2,hm1,hm2,h5']
  repeat' (first | (split<;>(try simp only [fZ,gm,gy,kz,kC])<;>(try simp [*])) | (simp only [fZ,gm,gy,kz,kC]<;>(try simp [*]))|omega)
 ·rw [if_neg h5];have h5':¬(65536:Int)<(D.length:Int):=by omega
  simp -implicitDefEqProofs [af,l9,q0,h1i,hbl,e0,ev,ef,c1,c2,dQ,splice,show List.range 2=[0,1] from rfl,show List.range 3=[0,1,2] from rfl,e2,e3,ej,hp1,hp2,hm1,hm2,h5']
  repeat' (first | (split<;>(try simp only [fZ,gm,gy,kz,kC])<;>(try simp [*])) | (simp only [fZ,gm,gy,kz,kC]<;>(try simp [*]))|omega)
end Go.Ai.Z
namespace Go.Ai.Z
theorem ai7:∀c:C,iG c=0→wC c=nV c:=by
 refine C.ind' fun c ih hv=>?_;obtain ⟨v1,v2,v3⟩:=JU hv
 have hL:∀(l:List C),(∀p∈l,wC p=nV p)→wL l=zN l:=by
  intro l
  induction l with
  | nil=>intro _;rfl
  | cons p r ihr=>intro h;rw [wL,zN,h p (by simp),ihr fun q hq=>h q (by simp [hq])]
 have hn:c.name.length / 40=0:=by
  have h24:c.name.length≤24:=by
   by_cases hk:c.kind=3∨c.kind=4∨c.kind=6∨c.kind=7
   ·exact (FO v2 hk).len
   ·have hk3:¬c.kind=3:=fun h=>hk (.inl h);have hk4:¬c.kind=4:=fun h=>hk (.inr (.inl h));have hk6:¬c.kind=6:=fun h=>hk (.inr (.inr (.inl h)));have hk7:¬c.kind=7:=fun h=>hk (.inr (.inr (.inr h)));unfold kQ at v1;simp only [hk3,hk4,hk6,hk7,if_false] at v1
    have:c.name=[]:=by
     revert v1
     repeat' split
     all_goals simp_all
    rw [this];simp
  omega
 rw [Bz,CX,hn,hL c.parts fun p hp=>ih p hp (v3 p hp)]
theorem adt:∀(c:C),iG c=0→(owC c).length+10≤250 * wC c:=by
 refine C.ind' fun c ih hv=>?_;obtain ⟨v1,v2,v3⟩:=JU hv;have hw:=Bz c;have hq:c.name.length≤40 * (c.name.length / 40)+39:=by omega
 have hn:=eP c.name;have hop:∀p∈c.parts,(owC p).length+10≤250 * wC p:=fun p hp=>ih p hp (v3 p hp)
 have hsum:((c.parts.map owC).map fun x=>x.length+([32]:Rl).length).sum≤250 * wL c.parts:=by
  clear ih v3 hw;generalize c.parts=l at hop
  induction l with
  | nil=>simp [wL]
  | cons a r ih=>
   have h1:=hop a (by simp);have h2:=ih (fun p hp=>hop p (by simp [hp]));simp [wL] at h2 ⊢;omega
 rw [zH];unfold lK A7 ttI;rcases IW v1 with k|k|k|k|⟨k,k1,k2,k3⟩|⟨k,k1⟩|⟨k,k1⟩
 ·simp [k];omega
 ·simp [k];omega
 ·simp [k];omega
 ·simp [k,joinL];omega
 ·have l1:=Go.Lib.itoa_length_le c.lo (by omega) (by omega);have l2:=Go.Lib.itoa_length_le c.hi (by omega) (by omega);simp [k,joinL];omega
 ·rcases hps:c.parts with _|⟨a,r⟩
  ·simp [hps] at k1
  ·have:=hop a (by simp [hps])
   rw [hps] at hw;simp only [wL] at hw;simp [k,joinL];omega
 ·have:=Dv (c.parts.map owC) [32]
  simp [k];simp at this hsum;omega
theorem afQ {x:Ax} (hg:x.Good) (hv:x.Vd):(owA x).length≤33000:=by
 have hside:∀c:C,(emptyS c=true∨iG c=0∧nV c≤64)→iG c=0→(owC c).length≤16000:=by
  intro c h h2;have h3:=adt c h2;have h4:=ai7 c h2;have h5:=Vm h;omega
 have o1:=eP x.role;have o2:=eP x.a;have o3:=eP x.b;have o4:=hv.role.len;have o5:=hv.a.len;have o6:=hv.b.len
 have hnt:((gY x).map fun y=>y.length+1).sum≤25:=by unfold gY;split<;>decide
 have hwd:(yJ x.kind).length≤30:=by
  unfold yJ
  repeat' split
  all_goals decide
 have hj:=Dv (gY x++yK x) [32];have hsum:((gY x++yK x).map fun y=>y.length+([32]:Rl).length).sum=((gY x).map fun y=>y.length+1).sum+((yK x).map fun y=>y.length+1).sum:=by simp
 rw [hsum] at hj;have hT:(owA x).length=(yJ x.kind).length+2+(joinL [32] (gY x++yK x)).length:=by unfold owA lK;simp;omega
 have hA:((yK x).map fun y=>y.length+1).sum≤32500:=by
  unfold yK;rcases hg.k with k|k|k|k|k|k|k|k|k
  ·have l1:=hside x.left hv.l (hg.l (by simp [k]));have l2:=hside x.right hv.r (hg.r (by simp [k]));simp [k];omega
  ·have l1:=hside x.left hv.l (hg.l (by simp [k]));have l2:=hside x.right hv.r (hg.r (by simp [k]));simp [k];omega
  ·have l1:=hside x.left hv.l (hg.l (by simp [k]));have l2:=hside x.right hv.r (hg.r (by simp [k]));simp [k];omega
  ·have l2:=hside x.right hv.r (hg.r (by simp [k]));simp [k];omega
  ·have l3:=eP (x.roles.headD [])
   have l4:(x.roles.headD []).length≤24:=by
    cases hh:x.roles with
    | nil=>simp
    | cons r rr=>exact (hv.rs r (by rw [hh];simp)).len
   rw [if_neg (by omega),if_neg (by omega),if_neg (by omega),if_neg (by omega),if_pos k];simp only [List.map_cons,List.map_nil,List.sum_cons,List.sum_nil];omega
  ·have hj2:=Dv (x.roles.map owN) [32]
   have hr:∀rs:List Rl,(∀r∈rs,Nd r)→((rs.map owN).map fun y=>y.length+([32]:Rl).length).sum≤26 * rs.length:=by
    intro rs
    induction rs with
    | nil=>intro _;simp
    | cons r rs ih=>
     intro h;have h1:=ih fun q hq=>h q (by simp [hq]);have h2:=(h r (by simp)).len;have h3:=eP r;simp only [List.map_cons,List.sum_cons,List.length_cons,List.length_nil] at h1 ⊢;omega
   have h1:=hr x.roles hv.rs;have h2:=hv.n;rw [if_neg (by omega),if_neg (by omega),if_neg (by omega),if_neg (by omega),if_neg (by omega),if_pos k];unfold lK;simp only [List.map_cons,List.map_nil,List.sum_cons,List.sum_nil,List.length_append,List.length_cons,List.length_nil];omega
  ·simp [k];omega
  ·have l2:=hside x.right hv.r (hg.r (by simp [k]));simp [k];omega
  ·simp [k];omega
 omega
theorem aeV:∀l:Rl,(aC l).mapM byteOf=some l
 | []=>rfl
 | b::r=>by
  have ih:=aeV r;unfold aC at ih ⊢;rw [List.map_cons,List.mapM_cons,ih];simp [byteOf]
end Go.Ai.Z
