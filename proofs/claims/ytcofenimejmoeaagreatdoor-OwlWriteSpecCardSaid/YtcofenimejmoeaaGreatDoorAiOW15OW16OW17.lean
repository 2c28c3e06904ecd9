/-
 The reference's Write.
-/
import Derived.Test.YtcofenimejmoeaaGreatDoorAiOW12OW13OW14
import Derived.Test.YtcofenimejmoeaaGreatDoorAiK8K9K10K11K12
set_option maxRecDepth 100000
set_option linter.unusedSimpArgs false
set_option linter.unusedVariables false
set_option linter.unusedSectionVars false
namespace Go.Ai.Z
theorem TL (l:List UInt8):(eu l).length=l.length:=by simp [eu]
def Bd (p w:Rl):Rl:=[80,114,101,102,105,120,40]++w++[58,61,60]++p++w++[47,62,41]
def Vm:Rl:=[79,110,116,111,108,111,103,121,40]
def EQ (p:Rl):Rl:=[80,114,101,102,105,120,40,58,61,60]++p++[62,41]
def EP:Rl:=[80,114,101,102,105,120,40,111,119,108,58,61,60]++[104,116,116,112,58,47,47,119,119,119,46,119,51,46,111,114,103,47,50,48,48,50,47,48,55,47,111,119,108,35]++[62,41]
def EO:Rl:=[80,114,101,102,105,120,40,120,115,100,58,61,60]++[104,116,116,112,58,47,47,119,119,119,46,119,51,46,111,114,103,47,50,48,48,49,47,88,77,76,83,99,104,101,109,97,35]++[62,41]
def Zp (p:Rl) (W:List Rl) (l:List Ax):List Rl:=[EQ p,EP,EO]++W.map (Bd p)++[Vm]++l.map owA++[[41]]
def jS (ls:List Rl):Rl:=ls.flatMap fun x=>x++[10]
theorem Jk (a b:List Rl):jS (a++b)=jS a++jS b:=by simp [jS]
def Rk (p:Rl) (W:List Rl) (l:List Ax):Rl:=jS (Zp p W l)
theorem BN (k:Nat):∀ls:List Rl,(∀x∈ls,x.length≤k)→(jS ls).length≤(k+1) * ls.length
 | [],_=>by simp [jS]
 | a::r,h=>by
  have h1:=h a (by simp)
  have h2:=BN k r fun x hx=>h x (by simp [hx])
  have h3:(jS (a::r)).length=a.length+1+(jS r).length:=by simp [jS];omega
  rw [h3,List.length_cons,Nat.mul_succ];omega
theorem OE (p w:Rl):(Bd p w).length=13+p.length+2 * w.length:=by simp [Bd];omega
theorem Ya (L0:AV) (p:Rl) (W:List Rl) (hW:W.length≤2000) (hp:p.length≤1000) (hw:∀w∈W,w.length≤24) (s:St) (cx:Ctx):∀(rest:List Rl) (i:Nat) (t:Rl),W.drop i=rest→t.length+2000 * rest.length≤8000000→
  ∃j:Int,eX (au P0.glob (ai P0) cx false qx) [0,1,8,13,14]
   [(0,.v L0),(1,.v (.s p)),(8,.v (.sl (W.map .s))),(13,.v (.s t)),(14,.v (.i .i64 i))] s=
   .exit 4 [(0,.v L0),(1,.v (.s p)),(8,.v (.sl (W.map .s))),(13,.v (.s (t++jS (rest.map (Bd p))))),(14,.v (.i .i64 j)),(89,.v (.b false))] s
 | [],i,t,h,ht=>by
  have h1:¬i<W.length:=Nat.not_lt.2 (drop_nil h)
  refine ⟨i,aj fun K hK=>?_⟩
  simp [qx,h1,jS]
 | w::r,i,t,h,ht=>by
  obtain ⟨h1,h2,h3,h4⟩:=drop_cons h
  have h5:=h4 h3
  have hwl:=hw w (by rw [←h5];exact List.getElem_mem h3)
  have hwi:=wI (i:=i) (by omega)
  have hl:=OE p w
  simp only [List.length_cons] at ht
  obtain ⟨j,ih⟩:=Ya L0 p W hW hp hw s cx r (i+1) (t++(Bd p w++[10])) h2 (by simp only [List.length_append,hl,List.length_cons,List.length_nil];omega)
  refine ⟨j,aj fun K hK=>?_⟩
  rw [←hK,show ((i+1:Nat):Int)=(i:Int)+1 from rfl] at ih
  clear hK h4 hw hl
  have e:t++jS ((w::r).map (Bd p))=t++(Bd p w++[10])++jS (r.map (Bd p)):=by simp [jS]
  rw [e,←ih]
  clear ih e
  have g1:t.length+7≤4611686018427387904:=by omega
  have g2:t.length+7+w.length≤4611686018427387904:=by omega
  simp -implicitDefEqProofs [qx,h3,h5,hwi,Bd]
  repeat' (first | (split<;>(try simp only [ay,aA,aB,aI,aJ])<;>(try simp [*])) | (simp only [ay,aA,aB,aI,aJ]<;>(try simp [*]))|omega)
theorem X9 (z:Bool) (l:List Ax) (hl:l.length≤40) (hx:∀x∈l,x.Few∧x.Good∧x.Nm∧(owA x).length≤100000) (s:St) (cx:Ctx):∀(rest:List Ax) (i:Nat) (t:Rl),l.drop i=rest→t.length+200000 * rest.length≤100000000→
  ∃j:Int,eX (au P0.glob (ai P0) cx false qw) [0,13,15]
   [(0,.v (slf z (l.map dD))),(13,.v (.s t)),(15,.v (.i .i64 i))] s=
   .exit 6 [(0,.v (slf z (l.map dD))),(13,.v (.s (t++jS (rest.map owA)))),(15,.v (.i .i64 j)),(113,.v (.b false))] s
 | [],i,t,h,ht=>by
  have h1:¬i<l.length:=Nat.not_lt.2 (drop_nil h)
  refine ⟨i,aj fun K hK=>?_⟩
  simp [qw,h1,jS]
 | x::r,i,t,h,ht=>by
  obtain ⟨h1,h2,h3,h4⟩:=drop_cons h
  have h5:=h4 h3
  obtain ⟨x1,x2,x3,x4⟩:=hx x (by rw [←h5];exact List.getElem_mem h3)
  have hwi:=wI (i:=i) (by omega)
  have e1:=Ry x x1 x2 x3
  simp only [List.length_cons] at ht
  obtain ⟨j,ih⟩:=X9 z l hl hx s cx r (i+1) (t++(owA x++[10])) h2 (by simp;omega)
  refine ⟨j,aj fun K hK=>?_⟩
  rw [←hK,show ((i+1:Nat):Int)=(i:Int)+1 from rfl] at ih
  clear hK h4 hx
  have e:t++jS ((x::r).map owA)=t++(owA x++[10])++jS (r.map owA):=by simp [jS]
  rw [e,←ih]
  clear ih e
  have g1:t.length+(owA x).length≤4611686018427387904:=by omega
  have g2:t.length+(owA x).length+1≤4611686018427387904:=by omega
  simp -implicitDefEqProofs [qw,h3,h5,hwi,e1,g1,g2]
  repeat' (first | (split<;>(try simp only [ay,aA,aB,aI,aJ])<;>(try simp [*])) | (simp only [ay,aA,aB,aI,aJ]<;>(try simp [*]))|omega)
theorem Yh (p:Rl) (W:List Rl) (l:List Ax):Rk p W l=jS [EQ p,EP,EO]++jS (W.map (Bd p))++jS [Vm]++jS (l.map owA)++[41,10]:=by
 unfold Rk Zp
 rw [Jk,Jk,Jk,Jk]
 rfl
def yK (l:List Ax) (p:Rl):Int:=
 if 200<p.length∨Ip p=false then 50 else if rP l≠0 then rP l else if yO∈iU l∨Ac∈iU l then 50
 else if 65536<(Rk p (iU l) l).length then 2 else 0
def UY (l:List Ax) (p:Rl):AV:=if yK l p=0 then .sl (eu (Rk p (iU l) l)) else .ns
theorem Rx (z:Bool) (l:List Ax) (hl:l.length≤12) (hf:∀x∈l,x.Few) (hx:rP l=0→∀x∈l,(owA x).length≤100000) (p:Rl) (hp:p.length≤1000) (s:St) (cx:Ctx):
  ai P0 (.fn (.func sV) [] []) [slf z (l.map dD),.s p] s cx=.ret (.tu [UY l p,.i .i64 (yK l p)]) s:=by
 have ep:=JS p (by omega)
 have ev:=IE z l (by omega) hf
 have q0:¬(1024:Int)<(l.length:Int):=by omega
 refine PL (by simp) ?_
 unfold UY
 by_cases h1:200<p.length
 ·rw [show yK l p=50 from by unfold yK;rw [if_pos (.inl h1)]]
  have h1i:(200:Int)<(p.length:Int):=by omega
  simp -implicitDefEqProofs [af,iZ,q0,h1i]
 have h1i:¬(200:Int)<(p.length:Int):=by omega
 cases h2:Ip p
 ·rw [show yK l p=50 from by unfold yK;rw [if_pos (.inr h2)]]
  rw [h2] at ep
  simp -implicitDefEqProofs [af,iZ,q0,h1i,ep]
 rw [h2] at ep
 have h12:¬(200<p.length∨Ip p=false):=by rw [h2];simp;omega
 by_cases h3:rP l≠0
 ·rw [show yK l p=rP l from by unfold yK;rw [if_neg h12,if_pos h3],if_neg h3]
  rw [if_neg h3] at ev
  simp -implicitDefEqProofs [af,iZ,q0,h1i,ep,ev,h3,jY,splice]
 have h3:rP l=0:=Classical.not_not.1 h3
 rw [if_pos h3,h3] at ev
 have hv:∀x∈l,x.Vd:=fun x hm=>vd (vU h3 x hm)
 have hw1:=XQ hv
 have hw2:=XP hv
 have hs:=Yt hv
 have hsb:=SE hf SB.nil
 have hb1:(iV l V4.nil).c.length≤12000:=by have:=hsb.c.len;omega
 have hb2:(iV l V4.nil).r.length≤12000:=by have:=hsb.r.len;omega
 have hb3:(iV l V4.nil).f.length≤12000:=by have:=hsb.f.len;omega
 have hb4:(iV l V4.nil).i.length≤12000:=by have:=hsb.i.len;omega
 have hnn:∀T∈[(iV l V4.nil).c,(iV l V4.nil).r,(iV l V4.nil).f,(iV l V4.nil).i],∀x∈T,x.length≤1000000:=by
  intro T hT x hxT
  by_cases hx0:x=[]
  ·rw [hx0];simp
  have:x∈GK l:=by
   unfold GK V4.all
   simp only [List.mem_cons,List.not_mem_nil,or_false] at hT
   simp only [List.mem_append]
   rcases hT with rfl|rfl|rfl|rfl
   ·exact .inl (.inl (.inl hxT))
   ·exact .inl (.inl (.inr hxT))
   ·exact .inl (.inr hxT)
   ·exact .inr hxT
  exact aaq hv x ((KC hv hx0).2 this)
 have e0:=Yc (slf z (l.map dD)) p [(iV l V4.nil).c,(iV l V4.nil).r,(iV l V4.nil).f,(iV l V4.nil).i] (by simp) (fun T hT=>by
  simp only [List.mem_cons,List.not_mem_nil,or_false] at hT
  rcases hT with rfl|rfl|rfl|rfl<;>omega) hnn s ⟨s.length,s.length⟩ [(iV l V4.nil).c,(iV l V4.nil).r,(iV l V4.nil).f,(iV l V4.nil).i] 0 [] rfl (by simp) (by simp [Srt]) (by simp [yL];omega)
 have hfl:[(iV l V4.nil).c,(iV l V4.nil).r,(iV l V4.nil).f,(iV l V4.nil).i].flatten=GK l:=by simp [GK,V4.all]
 rw [hfl,hs] at e0
 by_cases h4:yO∈iU l∨Ac∈iU l
 ·rw [show yK l p=50 from by unfold yK;rw [if_neg h12,if_neg (by omega),if_pos h4]]
  rw [if_pos h4] at e0
  clear hsb hnn hs hw2
  simp at e0
  unfold Ei at ev
  simp -implicitDefEqProofs [af,iZ,q0,h1i,ep,ev,jY,splice,show List.range 4=[0,1,2,3] from rfl,e0]
 rw [if_neg h4] at e0
 have hdl:=Yh p (iU l) l
 have hE:yK l p=if 65536<(Rk p (iU l) l).length then 2 else 0:=by unfold yK;rw [if_neg h12,if_neg (by omega),if_neg h4]
 rw [hE]
 have hx3:∀x∈l,x.Few∧x.Good∧x.Nm∧(owA x).length≤100000:=fun x hm=>⟨hf x hm,good (vU h3 x hm),afM (vU h3 x hm),hx h3 x hm⟩
 have b1:(jS [EQ p,EP,EO]).length≤1500:=by
  have:=BN 400 [EP,EO] (by intro x hm;simp at hm;rcases hm with rfl|rfl<;>decide)
  have h5:(jS [EQ p,EP,EO]).length=(EQ p).length+1+(jS [EP,EO]).length:=by simp [jS];omega
  rw [h5]
  simp only [EQ,List.length_append,List.length_cons,List.length_nil] at this ⊢
  omega
 have b2:=BN 1061 ((iU l).map (Bd p)) (by
  intro x hm
  obtain ⟨w,hw,rfl⟩:=List.mem_map.1 hm
  have:=hw2 w hw
  rw [OE];omega)
 have b3:=BN 100000 (l.map owA) (by
  intro x hm
  obtain ⟨a,ha,rfl⟩:=List.mem_map.1 hm
  exact hx h3 a ha)
 rw [List.length_map] at b2 b3
 obtain ⟨j2,e2⟩:=Ya (slf z (l.map dD)) p (iU l) (by omega) hp hw2 s ⟨s.length,s.length⟩ (iU l) 0 (jS [EQ p,EP,EO]) rfl (by omega)
 obtain ⟨j3,e3⟩:=X9 z l (by omega) hx3 s ⟨s.length,s.length⟩ l 0 (jS [EQ p,EP,EO]++jS ((iU l).map (Bd p))++jS [Vm]) rfl (by
  simp only [List.length_append]
  have:(jS [Vm]).length=10:=by decide
  omega)
 have hont:jS [Vm]=[79,110,116,111,108,111,103,121,40,10]:=by decide
 have hh:jS [EQ p,EP,EO]=[80,114,101,102,105,120,40,58,61,60]++p++[62,41,10,80,114,101,102,105,120,40,111,119,108,58,61,60]++[104,116,116,112,58,47,47,119,119,119,46,119,51,46,111,114,103,47,50,48,48,50,47,48,55,47,111,119,108,35]++[62,41,10,80,114,101,102,105,120,40,120,115,100,58,61,60]++[104,116,116,112,58,47,47,119,119,119,46,119,51,46,111,114,103,47,50,48,48,49,47,88,77,76,83,99,104,101,109,97,35]++[62,41,10]:=by
  simp [jS,EQ,EP,EO]
 rw [hont] at e3 hdl
 generalize hX:jS ((iU l).map (Bd p))=X at *
 generalize hY:jS (l.map owA)=Y at *
 generalize hD:Rk p (iU l) l=D at *
 have b4:X.length≤4000000:=by omega
 have b5:Y.length≤4000000:=by omega
 clear hsb hnn hs hw2 hx3 hX hY hD hv hf hx b2 b3
 rw [hh] at e2 e3 hdl
 simp at e0 e2 e3
 unfold Ei at ev
 by_cases h5:65536<D.length
 ·rw [if_pos h5]
  have h5':(65536:Int)<(D.length:Int):=by omega
  rw [hdl] at h5'
  simp at h5'
  simp -implicitDefEqProofs [af,iZ,q0,h1i,ep,ev,jY,splice,show List.range 4=[0,1,2,3] from rfl,e0,e2,e3,h5']
  repeat' (first | (split<;>(try simp only [ay,aA,aB,aI,aJ])<;>(try simp [*])) | (simp only [ay,aA,aB,aI,aJ]<;>(try simp [*]))|omega)
 ·rw [if_neg h5]
  have h5':¬(65536:Int)<(D.length:Int):=by omega
  rw [hdl] at h5'
  simp only [List.length_append,List.length_cons,List.length_nil] at h5'
  simp -implicitDefEqProofs [af,iZ,q0,h1i,ep,ev,jY,splice,show List.range 4=[0,1,2,3] from rfl,e0,e2,e3,h5',hdl]
  repeat' (first | (split<;>(try simp only [ay,aA,aB,aI,aJ])<;>(try simp [*])) | (simp only [ay,aA,aB,aI,aJ]<;>(try simp [*]))|omega)
end Go.Ai.Z
namespace Go.Ai.Z
theorem VH (ls:List Rl):joinL [10] (ls++[[]])=jS ls:=by
 have key:∀(r:List Rl) (a:Rl),a++((r++[[]]).flatMap fun y=>([10]:Rl)++y)=jS (a::r):=by
  intro r
  induction r with
  | nil=>intro a;simp [jS]
  | cons b r ih=>
   intro a
   have h:=ih b
   rw [List.cons_append,List.flatMap_cons]
   have e:jS (a::b::r)=a++[10]++jS (b::r):=by simp [jS]
   rw [e,←h];simp
 cases ls with
 | nil=>rfl
 | cons a r=>exact key r a
theorem aay (L0:AV) (p:Rl) (hp:p.length≤1000) (s:St) (cx:Ctx):∀(rest:Rl) (i:Nat),p.drop i=rest→
  ∃j:Int,eX (au P0.glob (ai P0) cx false pG) [0,1,23,24,25]
   [(0,.v L0),(1,.v (.s p)),(23,.v (.sl (eu p))),(24,.v (.i .i64 p.length)),(25,.v (.i .i64 i))] s=
   if Ip rest=true then .exit 0 [(0,.v L0),(1,.v (.s p)),(23,.v (.sl (eu p))),(24,.v (.i .i64 p.length)),(25,.v (.i .i64 j)),(26,.v (.b false))] s
   else .ret [(4,.v .ns),(5,.v (.i .i64 50))] s
 | [],i,h=>by
  have h1:¬i<p.length:=Nat.not_lt.2 (drop_nil h)
  refine ⟨i,aj fun K hK=>?_⟩
  simp [pG,h1,Ip]
 | b::r,i,h=>by
  obtain ⟨h1,h2,h3,h4⟩:=drop_cons h
  have h5:=h4 h3
  have hwi:=wI (i:=i) (by omega)
  have hb:i<(eu p).length:=by rw [TL];exact h3
  have hg:(eu p)[i]=.i .u8 b.toNat:=by simp [eu,h5]
  have e1:=Wi b
  obtain ⟨j,ih⟩:=aay L0 p hp s cx r (i+1) h2
  have hc:Ip (b::r)=(QY b.toNat && Ip r):=rfl
  rw [hc]
  by_cases q:QY b.toNat=true
  ·refine ⟨j,aj fun K hK=>?_⟩
   rw [←hK,show ((i+1:Nat):Int)=(i:Int)+1 from rfl] at ih
   clear hK h4
   rw [q,Bool.true_and,←ih]
   clear ih
   rw [q] at e1
   simp -implicitDefEqProofs [pG,h3,hb,hg,hwi,e1]
  ·refine ⟨i,aj fun K hK=>?_⟩
   clear hK h4 ih
   rw [if_neg (by simp [q])]
   have q':QY b.toNat=false:=by simpa using q
   rw [q'] at e1
   simp -implicitDefEqProofs [pG,h3,hb,hg,e1]
theorem aax (L0:AV) (p:Rl) (W:List Rl) (hW:W.length≤2000) (hp:p.length≤1000) (hw:∀w∈W,w.length≤24) (s:St) (cx:Ctx):∀(rest:List Rl) (i:Nat) (t:List Rl),W.drop i=rest→t.length+rest.length≤8000000→
  ∃j:Int,eX (au P0.glob (ai P0) cx false tY) [0,1,10,53,54,55]
   [(0,.v L0),(1,.v (.s p)),(10,.own false ak 1 (t.map .s)),(53,.v (iG W)),(54,.v (.i .i64 W.length)),(55,.v (.i .i64 i))] s=
   .exit 2 [(0,.v L0),(1,.v (.s p)),(10,.own false ak 1 ((t++rest.map (Bd p)).map .s)),(53,.v (iG W)),(54,.v (.i .i64 W.length)),(55,.v (.i .i64 j)),(56,.v (.b false))] s
 | [],i,t,h,ht=>by
  have h1:¬i<W.length:=Nat.not_lt.2 (drop_nil h)
  refine ⟨i,aj fun K hK=>?_⟩
  simp [tY,h1]
 | w::r,i,t,h,ht=>by
  obtain ⟨h1,h2,h3,h4⟩:=drop_cons h
  have h5:=h4 h3
  have hwl:=hw w (by rw [←h5];exact List.getElem_mem h3)
  have hwi:=wI (i:=i) (by omega)
  have hrow:iG W=.sl (W.map .s):=by
   cases W with
   | nil=>simp at h3
   | cons a r=>rfl
  simp only [List.length_cons] at ht
  obtain ⟨j,ih⟩:=aax L0 p W hW hp hw s cx r (i+1) (t++[Bd p w]) h2 (by simp;omega)
  refine ⟨j,aj fun K hK=>?_⟩
  rw [←hK,show ((i+1:Nat):Int)=(i:Int)+1 from rfl] at ih
  clear hK h4 hw
  rw [hrow] at ih ⊢
  have e:(t++(w::r).map (Bd p))=(t++[Bd p w])++r.map (Bd p):=by simp
  rw [e,←ih]
  clear ih e
  have hm:t.length+1≤aP:=by unfold aP;omega
  simp -implicitDefEqProofs [tY,h3,h5,hwi,hm,Bd]
  repeat' (first | (split<;>(try simp only [ay,aA,aB,aI,aJ])<;>(try simp [*])) | (simp only [ay,aA,aB,aI,aJ]<;>(try simp [*]))|omega)
theorem aaw (z:Bool) (l:List Ax) (hl:l.length≤40) (hx:∀x∈l,x.Few∧x.Good) (s:St) (cx:Ctx):∀(rest:List Ax) (i:Nat) (t:List Rl),l.drop i=rest→t.length+rest.length≤8000000→
  ∃j:Int,eX (au P0.glob (ai P0) cx false tX) [10,74,75,76]
   [(10,.own false ak 1 (t.map .s)),(74,.v (slf z (l.map dD))),(75,.v (.i .i64 l.length)),(76,.v (.i .i64 i))] s=
   .exit 4 [(10,.own false ak 1 ((t++rest.map owA).map .s)),(74,.v (slf z (l.map dD))),(75,.v (.i .i64 l.length)),(76,.v (.i .i64 j)),(77,.v (.b false))] s
 | [],i,t,h,ht=>by
  have h1:¬i<l.length:=Nat.not_lt.2 (drop_nil h)
  refine ⟨i,aj fun K hK=>?_⟩
  simp [tX,h1]
 | x::r,i,t,h,ht=>by
  obtain ⟨h1,h2,h3,h4⟩:=drop_cons h
  have h5:=h4 h3
  obtain ⟨x1,x2⟩:=hx x (by rw [←h5];exact List.getElem_mem h3)
  have hwi:=wI (i:=i) (by omega)
  have e1:=Wj x x1 x2
  simp only [List.length_cons] at ht
  obtain ⟨j,ih⟩:=aaw z l hl hx s cx r (i+1) (t++[owA x]) h2 (by simp;omega)
  refine ⟨j,aj fun K hK=>?_⟩
  rw [←hK,show ((i+1:Nat):Int)=(i:Int)+1 from rfl] at ih
  clear hK h4 hx
  have e:(t++(x::r).map owA)=(t++[owA x])++r.map owA:=by simp
  rw [e,←ih]
  clear ih e
  have hm:t.length+1≤aP:=by unfold aP;omega
  simp -implicitDefEqProofs [tX,h3,h5,hwi,e1,hm]
  repeat' (first | (split<;>(try simp only [ay,aA,aB,aI,aJ])<;>(try simp [*])) | (simp only [ay,aA,aB,aI,aJ]<;>(try simp [*]))|omega)
theorem Wl (z:Bool) (l:List Ax) (hl:l.length≤12) (hf:∀x∈l,x.Few) (hx:rP l=0→∀x∈l,(owA x).length≤40000) (p:Rl) (hp:p.length≤1000) (s:St) (cx:Ctx):
  ai P0 (.fn (.func uU) [] []) [slf z (l.map dD),.s p] s cx=.ret (.tu [UY l p,.i .i64 (yK l p)]) s:=by
 obtain ⟨j0,e0⟩:=aay (slf z (l.map dD)) p hp s ⟨s.length,s.length⟩ p 0 rfl
 have q0:¬(1024:Int)<(l.length:Int):=by omega
 have hbl:=TL p
 refine UA (by simp) ?_
 unfold UY
 by_cases h1:200<p.length
 ·rw [show yK l p=50 from by unfold yK;rw [if_pos (.inl h1)]]
  have h1i:(200:Int)<(p.length:Int):=by omega
  simp -implicitDefEqProofs [af,jD,q0,h1i]
 have h1i:¬(200:Int)<(p.length:Int):=by omega
 cases h2:Ip p
 ·rw [show yK l p=50 from by unfold yK;rw [if_pos (.inr h2)]]
  rw [if_neg (by rw [h2];exact Bool.false_ne_true)] at e0
  simp at e0
  simp -implicitDefEqProofs [af,jD,q0,h1i,hbl,e0]
 rw [if_pos h2] at e0
 simp at e0
 have h12:¬(200<p.length∨Ip p=false):=by rw [h2];simp;omega
 by_cases h3:rP l≠0
 ·rw [show yK l p=rP l from by unfold yK;rw [if_neg h12,if_pos h3],if_neg h3]
  have ev:=Gv z l (by omega) hf h3
  simp -implicitDefEqProofs [af,jD,q0,h1i,hbl,e0,ev,h3,jY,splice]
 have h3:rP l=0:=Classical.not_not.1 h3
 have ev:=Gw z l (by omega) hf h3
 have er:∀X:List Rl,slf true (X.map AV.s)=iG X:=fun _=>rfl
 simp only [abB,er] at ev
 have hv:∀x∈l,x.Vd:=fun x hm=>vd (vU h3 x hm)
 have hw1:=XQ hv
 have hw2:=XP hv
 have hnl:=SL hv
 have hn1:=aaq hv
 have ef:=RF (vA l) (vR l) (vF l) (vI l) (by unfold ED at hnl;simp only [List.length_append] at hnl;omega) hn1
 have hwd:Na ((vA l++vR l++vF l++vI l).flatMap IC)=iU l:=rfl
 rw [hwd] at ef
 have hrow:iG (iU l)=.sl ((iU l).map .s)∨(iG (iU l)=.ns∧iU l=[]):=by
  cases iU l with
  | nil=>exact .inr ⟨rfl,rfl⟩
  | cons a r=>exact .inl rfl
 have c1:=MS (iU l) yO (by omega) (iG (iU l)) hrow
 have c2:=MS (iU l) Ac (by omega) (iG (iU l)) hrow
 unfold yO at c1
 unfold Ac at c2
 by_cases h4:yO∈iU l∨Ac∈iU l
 ·rw [show yK l p=50 from by unfold yK;rw [if_neg h12,if_neg (by omega),if_pos h4]]
  have d1:decide (yO∈iU l)=true∨decide (yO∈iU l)=false∧decide (Ac∈iU l)=true:=by
   by_cases q:yO∈iU l
   ·exact .inl (decide_eq_true q)
   ·exact .inr ⟨decide_eq_false q,decide_eq_true (h4.resolve_left q)⟩
  unfold yO Ac at d1
  clear hv hf hx hw2 hn1 hrow h4
  rcases d1 with d1|⟨d1,d2⟩
  ·rw [d1] at c1
   simp -implicitDefEqProofs [af,jD,q0,h1i,hbl,e0,ev,ef,c1,jY,splice]
  ·rw [d1] at c1
   rw [d2] at c2
   simp -implicitDefEqProofs [af,jD,q0,h1i,hbl,e0,ev,ef,c1,c2,jY,splice]
 have hE:yK l p=if 65536<(Rk p (iU l) l).length then 2 else 0:=by unfold yK;rw [if_neg h12,if_neg (by omega),if_neg h4]
 rw [hE]
 have d1:decide (yO∈iU l)=false:=decide_eq_false fun q=>h4 (.inl q)
 have d2:decide (Ac∈iU l)=false:=decide_eq_false fun q=>h4 (.inr q)
 unfold yO at d1
 unfold Ac at d2
 rw [d1] at c1
 rw [d2] at c2
 have hdl:=Yh p (iU l) l
 have b1:(jS [EQ p,EP,EO]).length≤500:=by
  have h5:(jS [EQ p,EP,EO]).length=(EQ p).length+1+(jS [EP,EO]).length:=by simp [jS];omega
  have h6:(jS [EP,EO]).length=95:=by decide
  rw [h5]
  simp only [EQ,List.length_append,List.length_cons,List.length_nil]
  omega
 have b2:=BN 261 ((iU l).map (Bd p)) (by
  intro x hm
  obtain ⟨w,hw,rfl⟩:=List.mem_map.1 hm
  have:=hw2 w hw
  rw [OE];omega)
 have b3:=BN 40000 (l.map owA) (by
  intro x hm
  obtain ⟨a,ha,rfl⟩:=List.mem_map.1 hm
  exact hx h3 a ha)
 rw [List.length_map] at b2 b3
 have b4:(jS [Vm]).length=10:=by decide
 have bD:(Rk p (iU l) l).length≤1048576:=by
  rw [hdl]
  simp only [List.length_append,List.length_cons,List.length_nil]
  omega
 obtain ⟨j2,e2⟩:=aax (slf z (l.map dD)) p (iU l) (by omega) hp hw2 s ⟨s.length,s.length⟩ (iU l) 0 [EQ p,EP,EO] rfl (by simp;omega)
 obtain ⟨j3,e3⟩:=aaw z l (by omega) (fun x hm=>⟨hf x hm,good (vU h3 x hm)⟩) s ⟨s.length,s.length⟩ l 0 ([EQ p,EP,EO]++(iU l).map (Bd p)++[Vm]) rfl (by simp;omega)
 have ej:=Fh (Zp p (iU l) l++[[]]) [10] (by rw [VH];exact bD) (by simp [Zp];omega)
 rw [VH] at ej
 have hdo:jS (Zp p (iU l) l)=Rk p (iU l) l:=rfl
 rw [hdo] at ej
 clear hv hf hx hw2 hn1 hrow hdl b2 b3
 unfold Zp at ej
 have hm1:(iU l).length+1+1+1+1≤aP:=by unfold aP;omega
 have hm2:(iU l).length+(l.length+1)+1+1+1+2≤aP:=by unfold aP;omega
 have hp1:p.length≤4611686018427387894:=by omega
 have hp2:p.length≤4611686018427387892:=by omega
 unfold EQ EP EO at e2 e3 ej
 unfold Vm at e3 ej
 simp at e2 e3 ej
 generalize Rk p (iU l) l=D at *
 by_cases h5:65536<D.length
 ·rw [if_pos h5]
  have h5':(65536:Int)<(D.length:Int):=by omega
  simp -implicitDefEqProofs [af,jD,q0,h1i,hbl,e0,ev,ef,c1,c2,jY,splice,show List.range 2=[0,1] from rfl,show List.range 3=[0,1,2] from rfl,e2,e3,ej,hp1,hp2,hm1,hm2,h5']
  repeat' (first | (split<;>(try simp only [ay,aA,aB,aI,aJ])<;>(try simp [*])) | (simp only [ay,aA,aB,aI,aJ]<;>(try simp [*]))|omega)
 ·rw [if_neg h5]
  have h5':¬(65536:Int)<(D.length:Int):=by omega
  simp -implicitDefEqProofs [af,jD,q0,h1i,hbl,e0,ev,ef,c1,c2,jY,splice,show List.range 2=[0,1] from rfl,show List.range 3=[0,1,2] from rfl,e2,e3,ej,hp1,hp2,hm1,hm2,h5']
  repeat' (first | (split<;>(try simp only [ay,aA,aB,aI,aJ])<;>(try simp [*])) | (simp only [ay,aA,aB,aI,aJ]<;>(try simp [*]))|omega)
end Go.Ai.Z
namespace Go.Ai.Z
theorem aeC:∀c:C,ji c=0→wC c=jG c:=by
 refine C.ind' fun c ih hv=>?_
 obtain ⟨v1,v2,v3⟩:=FH hv
 have hL:∀(l:List C),(∀p∈l,wC p=jG p)→wL l=qK l:=by
  intro l
  induction l with
  | nil=>intro _;rfl
  | cons p r ihr=>intro h;rw [wL,qK,h p (by simp),ihr fun q hq=>h q (by simp [hq])]
 have hn:c.name.length / 40=0:=by
  have h24:c.name.length≤24:=by
   by_cases hk:c.kind=3∨c.kind=4∨c.kind=6∨c.kind=7
   ·exact (EF v2 hk).len
   ·have hk3:¬c.kind=3:=fun h=>hk (.inl h)
    have hk4:¬c.kind=4:=fun h=>hk (.inr (.inl h))
    have hk6:¬c.kind=6:=fun h=>hk (.inr (.inr (.inl h)))
    have hk7:¬c.kind=7:=fun h=>hk (.inr (.inr (.inr h)))
    unfold qf at v1
    simp only [hk3,hk4,hk6,hk7,if_false] at v1
    have:c.name=[]:=by
     revert v1
     repeat' split
     all_goals simp_all
    rw [this];simp
  omega
 rw [nY,xM,hn,hL c.parts fun p hp=>ih p hp (v3 p hp)]
theorem abX {x:Ax} (hg:x.Good) (hv:x.Vd):(owA x).length≤40000:=by
 have hside:∀c:C,(emptyS c=true∨ji c=0∧jG c≤64)→ji c=0→(owC c).length≤19200:=by
  intro c h h2
  have h3:=I8 c h2
  have h4:=aeC c h2
  have h5:=TV h
  omega
 have o1:=aK x.role
 have o2:=aK x.a
 have o3:=aK x.b
 have o4:=hv.role.len
 have o5:=hv.a.len
 have o6:=hv.b.len
 have hnt:((aX x).map fun y=>y.length+1).sum≤25:=by unfold aX;split<;>decide
 have hwd:(Ae x.kind).length≤30:=by
  unfold Ae
  repeat' split
  all_goals decide
 have hj:=EK (aX x++yA x) [32]
 have hsum:((aX x++yA x).map fun y=>y.length+([32]:List UInt8).length).sum=((aX x).map fun y=>y.length+1).sum+((yA x).map fun y=>y.length+1).sum:=by simp
 rw [hsum] at hj
 have hT:(owA x).length=(Ae x.kind).length+2+(joinL [32] (aX x++yA x)).length:=by unfold owA dL;simp;omega
 have hA:((yA x).map fun y=>y.length+1).sum≤39000:=by
  unfold yA
  rcases hg.k with k|k|k|k|k|k|k|k|k
  ·have l1:=hside x.left hv.l (hg.l (by simp [k]))
   have l2:=hside x.right hv.r (hg.r (by simp [k]))
   simp [k];omega
  ·have l1:=hside x.left hv.l (hg.l (by simp [k]))
   have l2:=hside x.right hv.r (hg.r (by simp [k]))
   simp [k];omega
  ·have l1:=hside x.left hv.l (hg.l (by simp [k]))
   have l2:=hside x.right hv.r (hg.r (by simp [k]))
   simp [k];omega
  ·have l2:=hside x.right hv.r (hg.r (by simp [k]))
   simp [k];omega
  ·have l3:=aK (x.roles.headD [])
   have l4:(x.roles.headD []).length≤24:=by
    cases hh:x.roles with
    | nil=>simp
    | cons r rr=>exact (hv.rs r (by rw [hh];simp)).len
   rw [if_neg (by omega),if_neg (by omega),if_neg (by omega),if_neg (by omega),if_pos k]
   simp only [List.map_cons,List.map_nil,List.sum_cons,List.sum_nil]
   omega
  ·have hj2:=EK (x.roles.map owN) [32]
   have hr:∀rs:List Rl,(∀r∈rs,Nd r)→((rs.map owN).map fun y=>y.length+([32]:List UInt8).length).sum≤26 * rs.length:=by
    intro rs
    induction rs with
    | nil=>intro _;simp
    | cons r rs ih=>
     intro h
     have h1:=ih fun q hq=>h q (by simp [hq])
     have h2:=(h r (by simp)).len
     have h3:=aK r
     simp only [List.map_cons,List.sum_cons,List.length_cons,List.length_nil] at h1 ⊢
     omega
   have h1:=hr x.roles hv.rs
   have h2:=hv.n
   rw [if_neg (by omega),if_neg (by omega),if_neg (by omega),if_neg (by omega),if_neg (by omega),if_pos k]
   unfold dL
   simp only [List.map_cons,List.map_nil,List.sum_cons,List.sum_nil,List.length_append,List.length_cons,List.length_nil]
   omega
  ·simp [k];omega
  ·have l2:=hside x.right hv.r (hg.r (by simp [k]))
   simp [k];omega
  ·simp [k];omega
 omega
theorem WI (l:List Ax) (p:Rl):UY l p=.ns∨∃D:Rl,UY l p=.sl (eu D):=by
 unfold UY;split
 ·exact .inr ⟨_,rfl⟩
 ·exact .inl rfl
theorem aa4:∀l:List UInt8,(eu l).mapM byteOf=some l
 | []=>rfl
 | b::r=>by
  have ih:=aa4 r
  unfold eu at ih ⊢
  rw [List.map_cons,List.mapM_cons,ih]
  simp [byteOf]
theorem Wn (z:Bool) (l:List Ax) (hl:l.length≤1125899906842624) (hx:∀x∈l,x.Ok) (p:Rl) (hp:p.length≤1152921504606846976) (hs:ai P0 (.fn (.func wH) [] []) [] [] ⟨0,0⟩=.ret (.b true) []) (cx:Ctx):
  ai P0 (.fn (.func mr) [] []) [slf z (l.map dD),.s p] [] cx=.ret (.b true) []:=by
 obtain ⟨b,e1,hb⟩:=IG 12 (by omega) z l hl hx
 rw [show ((12:Nat):Int)=12 from rfl] at e1
 refine Eh (by simp) ?_
 cases b with
 | false=>simp -implicitDefEqProofs [af,gm,hs,e1]
 | true=>
  obtain ⟨h12,hf⟩:=hb rfl
  by_cases h4:400<p.length
  ·have h4i:(400:Int)<(p.length:Int):=by omega
   simp -implicitDefEqProofs [af,gm,hs,e1,h4i]
  ·have h4i:¬(400:Int)<(p.length:Int):=by omega
   have hlen:rP l=0→∀x∈l,(owA x).length≤40000:=fun h0 x hm=>abX (good (vU h0 x hm)) (vd (vU h0 x hm))
   have ew:=Wl z l h12 hf hlen p (by omega)
   have er:=Rx z l h12 hf (fun h0 x hm=>by have:=hlen h0 x hm;omega) p (by omega)
   have hB:=WI l p
   generalize UY l p=B at *
   generalize yK l p=E at *
   clear hf hx hb hlen
   rcases hB with rfl|⟨D,rfl⟩
   ·simp -implicitDefEqProofs [af,gm,hs,e1,h4i,ew,er]
   ·simp -implicitDefEqProofs [af,gm,hs,e1,h4i,ew,er,aa4]
end Go.Ai.Z
