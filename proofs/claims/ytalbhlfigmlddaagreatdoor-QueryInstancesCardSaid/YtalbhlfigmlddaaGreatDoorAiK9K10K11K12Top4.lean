/-
 Axioms: the checks.
-/
import Derived.Test.YtalbhlfigmlddaaGreatDoorAiK8
import Derived.Test.YtalbhlfigmlddaaGreatDoorAiB2
set_option maxRecDepth 100000
set_option linter.unusedSimpArgs false
set_option linter.unusedVariables false
set_option linter.unusedSectionVars false
namespace Go.Ai.Z
def allPlain:List (List UInt8)→Bool
 | []=>true
 | r::l=>lY r && allPlain l
def Dh (l:List UInt8):Bool:=lY l || FY l
def QJ (x:Ax) (u:Use):Bool:=(!u.role || lY x.role) && (!u.a || Dh x.a) && (!u.b || Dh x.b) && allPlain x.roles
theorem Au (s:St) (cx:Ctx) (z:Bool) (l:List (List UInt8)) (hl:l.length≤1152921504606846976):∀(rest:List (List UInt8)) (i:Nat),l.drop i=rest→
  ∃j:Int,dZ (ak P0.glob (aj P0) cx false mD) [36,37,38] [(36,.v (slf z (l.map .s))),(37,.v (.i .i64 l.length)),(38,.v (.i .i64 i))] s=
   if allPlain rest=true then .exit 0 [(36,.v (slf z (l.map .s))),(37,.v (.i .i64 l.length)),(38,.v (.i .i64 j)),(39,.v (.b false))] s else .ret [(4,.v (.b false))] s
 | [],i,h=>by
  have h1:¬i<l.length:=Nat.not_lt.2 (drop_nil h)
  refine ⟨i,ai fun K hK=>?_⟩
  simp [mD,h1,allPlain]
 | b::r,i,h=>by
  obtain ⟨h1,h2,h3,h4⟩:=drop_cons h
  have h5:=h4 h3
  have hw:=wI (i:=i) (by omega)
  obtain ⟨j,ih⟩:=Au s cx z l hl r (i+1) h2
  refine ⟨j,ai fun K hK=>?_⟩
  rw [←hK,show ((i+1:Nat):Int)=(i:Int)+1 from rfl] at ih
  clear hK h4
  rcases Bool.eq_false_or_eq_true (lY b) with hin|hin <;>
   simp [mD,h3,h5,hw,ih,allPlain,hin]
set_option maxHeartbeats 1000000 in
theorem KU (x:Ax) (u:Use) (hl:x.roles.length≤1152921504606846976) (ha:x.a.length≤1152921504606846976) (hb:x.b.length≤1152921504606846976) (s:St) (cx:Ctx):
  aj P0 (.fn (.func oV) [] []) [pG x,U0 u] s cx=.ret (.b (QJ x u)) s:=by
 refine I4 (by simp) ?_
 obtain ⟨j,h⟩:=Au s ⟨s.length,s.length⟩ x.z x.roles hl x.roles 0 rfl
 have e1:∀(s:St) (cx:Ctx),aj P0 (.fn (.func eH) [] []) [.s x.a] s cx=.ret (.i .i64 (if Dh x.a=true then 0 else 20)) s:=pK x.a ha
 have e2:∀(s:St) (cx:Ctx),aj P0 (.fn (.func eH) [] []) [.s x.b] s cx=.ret (.i .i64 (if Dh x.b=true then 0 else 20)) s:=pK x.b hb
 simp at h
 unfold QJ
 generalize Dh x.a=pa at e1 ⊢
 generalize Dh x.b=pb at e2 ⊢
 cases pa<;>cases pb<;>simp only [if_true,Bool.false_eq_true,if_false] at e1 e2
 all_goals
  rcases Bool.eq_false_or_eq_true (allPlain x.roles) with hp|hp
  ·rw [hp,if_pos rfl] at h
   rw [hp]
   clear hp
   simp [ah,mW,e1,e2]
   repeat' (first | (split<;>(try simp only [dW,dX,dY,iK,iL])<;>(try simp [*])) | (simp only [dW,dX,dY,iK,iL]<;>(try simp [*]))|omega)
  ·rw [hp,if_neg (by simp)] at h
   rw [hp]
   clear hp
   simp [ah,mW,e1,e2]
   repeat' (first | (split<;>(try simp only [dW,dX,dY,iK,iL])<;>(try simp [*])) | (simp only [dW,dX,dY,iK,iL]<;>(try simp [*]))|omega)
mutual
def CW:C→Bool
 | .mk k _ _ _ _ ps=>if k=4 then true else if k=5 then yh ps else false
def yh:List C→Bool
 | []=>false
 | p::r=>CW p || yh r
end
theorem ZK (c:C):CW c=if c.kind=4 then true else if c.kind=5 then yh c.parts else false:=by cases c;simp only [CW,C.aar,C.YD];rfl
theorem JR (s:St) (cx:Ctx) (z:Bool) (ps:List C) (hps:ps.length≤1152921504606846976)
  (ih:∀p∈ps,∀(s:St) (cx:Ctx),aj P0 (.fn (.func dN) [] []) [iM p] s cx=.ret (.b (CW p)) s):∀(rest:List C) (i:Nat),ps.drop i=rest→
  ∃j:Int,0≤j∧dZ (ak P0.glob (aj P0) cx false aS) [0,1,7,8] [(0,.v (slf z (ps.map iM))),(1,.v (.fn (.func dN) [] [])),(7,.v (.i .i64 ps.length)),(8,.v (.i .i64 i))] s=
   if yh rest=true then .ret [(4,.v (.i .i64 j))] s else .exit 0 [(0,.v (slf z (ps.map iM))),(1,.v (.fn (.func dN) [] [])),(7,.v (.i .i64 ps.length)),(8,.v (.i .i64 j)),(9,.v (.b false))] s
 | [],i,h=>by
  have h1:¬i<ps.length:=Nat.not_lt.2 (drop_nil h)
  refine ⟨i,by omega,ai fun K hK=>?_⟩
  simp [aS,h1,yh]
 | p::r,i,h=>by
  obtain ⟨h1,h2,h3,h4⟩:=drop_cons h
  have h5:=h4 h3
  have hp:p∈ps:=by rw [←h5];exact List.getElem_mem h3
  have hw:=wI (i:=i) (by omega)
  have e1:=ih p hp
  rcases Bool.eq_false_or_eq_true (CW p) with hb|hb
  ·refine ⟨i,by omega,ai fun K hK=>?_⟩
   clear hK h4 ih
   simp [aS,h3,h5,hw,e1,yh,hb]
  ·obtain ⟨j,hj,ih2⟩:=JR s cx z ps hps ih r (i+1) h2
   refine ⟨j,hj,ai fun K hK=>?_⟩
   rw [←hK,show ((i+1:Nat):Int)=(i:Int)+1 from rfl] at ih2
   clear hK h4 ih
   simp [aS,h3,h5,hw,e1,yh,hb,ih2]
theorem AB:∀(c:C),C.Lng c→∀(s:St) (cx:Ctx),aj P0 (.fn (.func dN) [] []) [iM c] s cx=.ret (.b (CW c)) s:=by
 refine C.ind' fun c ih hw s cx=>?_
 have hw':=hw
 have ihp:∀p∈c.parts,∀(s:St) (cx:Ctx),aj P0 (.fn (.func dN) [] []) [iM p] s cx=.ret (.b (CW p)) s:=fun p hp=>ih p hp (hw.sub p hp)
 have hI:∀(s:St) (cx:Ctx),∃j:Int,aj P0 (.fn (.func bf) [] []) [slf c.z (c.parts.map iM),.fn (.func dN) [] []] s cx=.ret (.i .i64 (if yh c.parts=true then j else -1)) s∧0≤j:=by
  intro s cx
  obtain ⟨j,hj,h⟩:=JR s ⟨cx.lim,s.length⟩ c.z c.parts (by have:=hw.ps;omega) ihp c.parts 0 rfl
  refine ⟨j,nP (by simp) ?_,hj⟩
  simp at h
  rcases Bool.eq_false_or_eq_true (yh c.parts) with hb|hb<;>simp [ah,cu,h,hb]
 have hC:∀(s:St) (cx:Ctx),aj P0 (.fn (.func aW) [] []) [slf c.z (c.parts.map iM),.fn (.func dN) [] []] s cx=.ret (.b (yh c.parts)) s:=by
  intro s cx
  obtain ⟨j,e1,hj⟩:=hI s ⟨cx.lim,s.length⟩
  refine l7 (by simp) ?_
  rcases Bool.eq_false_or_eq_true (yh c.parts) with hb|hb<;>simp [hb] at e1<;>simp [ah,bH,e1,hb,hj]
 refine KO (by simp) ?_
 rw [ZK]
 by_cases k4:c.kind=4
 ·rw [if_pos k4];simp [ah,kW,kd k4]
 ·by_cases k5:c.kind=5
  ·rw [if_neg k4,if_pos k5];simp [ah,kW,k4,kd k5,hC]
  ·rw [if_neg k4,if_neg k5];simp [ah,kW,k4,k5]
end Go.Ai.Z
namespace Go.Ai.Z
def Yg (k cl cr:Int) (bl br:Bool):Int:=
 if (uo k).l=true∧cl≠0 then cl else if (uo k).r=true∧cr≠0 then cr
 else if (k=2∧(bl=true∨br=true))∨((k=1∨k=4∨k=8)∧br=true) then 22 else 0
def wY (x:Ax):Int:=
 if wP x=false then 22 else if QJ x (uo x.kind)=false then 20 else Yg x.kind (CG x.left) (CG x.right) (CW x.left) (CW x.right)
structure Ax.Few (x:Ax):Prop where
 l:wC x.left≤150
 r:wC x.right≤150
 roles:x.roles.length≤600
 rs:∀r∈x.roles,r.length≤600
 role:x.role.length≤600
 a:x.a.length≤600
 b:x.b.length≤600
structure Ax.Mid (x:Ax):Prop where
 l:wC x.left≤100000
 r:wC x.right≤100000
 roles:x.roles.length≤600
 a:x.a.length≤600
 b:x.b.length≤600
structure Ax.Lng (x:Ax):Prop where
 l:C.Lng x.left
 r:C.Lng x.right
 roles:x.roles.length≤1152921504606846976
 a:x.a.length≤1152921504606846976
 b:x.b.length≤1152921504606846976
theorem Ax.Mid.lng {x:Ax} (h:x.Mid):x.Lng:=⟨abj _ h.l,abj _ h.r,by have:=h.roles;omega,by have:=h.a;omega,by have:=h.b;omega⟩
theorem dk {x j:Int} (i:Int) (k:x=j):decide (x=i)=decide (j=i):=by subst k;rfl
set_option maxHeartbeats 2000000 in
theorem wM (x:Ax) (hx:x.Lng) (s:St) (cx:Ctx):aj P0 (.fn (.func jw) [] []) [pG x] s cx=.ret (.i .i64 (wY x)) s:=by
 refine DV (by simp) ?_
 unfold wY
 rcases Bool.eq_false_or_eq_true (wP x) with hs|hs
 ·have hk:1≤x.kind∧x.kind≤9:=by simp [wP,ER] at hs;omega
  have b1:0≤x.kind:=by omega
  have b2:x.kind.toNat<10:=by omega
  have b3:7≤70 - x.kind.toNat * 7:=by omega
  have hu:=Vm (k:=x.kind) (by omega) (by omega)
  have e1:=KU x (uo x.kind) (by have:=hx.roles;omega) (by have:=hx.a;omega) (by have:=hx.b;omega)
  have e2:=uj x.left hx.l
  have e3:=uj x.right hx.r
  have e4:=AB x.left hx.l
  have e5:=AB x.right hx.r
  have hk9:x.kind=1∨x.kind=2∨x.kind=3∨x.kind=4∨x.kind=5∨x.kind=6∨x.kind=7∨x.kind=8∨x.kind=9:=by omega
  rw [hs,if_neg (by simp)]
  rcases Bool.eq_false_or_eq_true (QJ x (uo x.kind)) with hn|hn
  ·rw [hn] at e1
   rw [hn,if_neg (by simp)]
   clear hn
   generalize hL:CG x.left=cl at e2 ⊢
   generalize hR:CG x.right=cr at e3 ⊢
   generalize CW x.left=bl at e4 ⊢
   generalize CW x.right=br at e5 ⊢
   clear hL hR hx hk
   rcases hk9 with k|k|k|k|k|k|k|k|k
   all_goals
    have d1:=dk 1 k
    have d2:=dk 2 k
    have d4:=dk 4 k
    have d8:=dk 8 k
    have kt:=congrArg (fun i=>Yg i cl cr bl br) k
    rw [kt]
    have ku:=congrArg uo k
    rw [ku] at hu e1
    clear ku k kt
    simp [uo] at hu
    simp [uo,U0] at e1
    simp [Yg,uo]
    simp [ah,iY,hs,b1,b2,b3,Je,LK,hu,e1,e2,e3,e4,e5,d1,d2,d4,d8]
    repeat' (first | (split<;>(try simp only [dW,dX,dY,iK,iL])<;>(try simp [*])) | (simp only [dW,dX,dY,iK,iL]<;>(try simp [*]))|omega)
  ·rw [hn] at e1
   rw [hn,if_pos rfl]
   generalize uo x.kind=u at hu e1
   simp [ah,iY,hs,b1,b2,b3,Je,LK,hu,e1]
 ·rw [hs,if_pos rfl]
  simp [ah,iY,hs]
end Go.Ai.Z
namespace Go.Ai.Z
attribute [local simp] List.length_pos_iff
end Go.Ai.Z
namespace Go.Ai.Z
structure Ax.Ok (x:Ax):Prop where
 l:x.left.Ok
 r:x.right.Ok
 roles:x.roles.length≤1125899906842624
 rs:∀r∈x.roles,r.length≤1125899906842624
 role:x.role.length≤1125899906842624
 a:x.a.length≤1125899906842624
 b:x.b.length≤1125899906842624
end Go.Ai.Z
namespace Go.Ai
open Go.Ai.Z Go.ChangeShapes Go.WideShapes Go.WideElems
section
variable {H:Type} {enc:TypeId×Value→H} {P:Program} {W:World}
structure ATy (P:Program) (A L T S I Z B R:TypeId):Prop extends CTy P T S I Z where
 uA:∃f0 f1 f2 f3 f4 f5 f6 f7:Field,P.underlying A=some (.struct #[f0,f1,f2,f3,f4,f5,f6,f7])∧(f0.type=I∧f0.offset=0)∧(f1.type=B∧f1.offset=1)∧(f2.type=T∧f2.offset=2)∧(f3.type=T∧f3.offset=7)∧(f4.type=R∧f4.offset=12)∧
  (f5.type=Z∧f5.offset=13)∧(f6.type=Z∧f6.offset=14)∧(f7.type=Z∧f7.offset=15)
 uL:P.underlying L=some (.slice A)
 uB:P.underlying B=some .bool
 uR:P.underlying R=some (.slice Z)
 cA:P.cellsOf A=16
 cB:P.cellsOf B=1
 cR:P.cellsOf R=1
 bA:0<P.bytesOf A
 bZ:0<P.bytesOf Z
theorem ZA {A L T S I Z B R:TypeId} (ty:ATy P A L T S I Z B R) (fuel:Nat) (cs:List Value) (x:DataW H×List MemPlace) (h:DataW.trod enc P W 0 (fun _=>true) true fuel A cs=some x) (hl:Light P A x.1):
  ∃c:Ax,c.Ok∧nN W cs (pG c).cells:=by
 obtain ⟨f0,f1,f2,f3,f4,f5,f6,f7,hu,⟨t0,o0⟩,⟨t1,o1⟩,⟨t2,o2⟩,⟨t3,o3⟩,⟨t4,o4⟩,⟨t5,o5⟩,⟨t6,o6⟩,⟨t7,o7⟩⟩:=ty.uA
 obtain ⟨xs,n,rfl,rfl,hlen,hxl,hfs⟩:=DataW.trod_struct hu h
 rw [ty.cA] at hlen
 obtain ⟨v0,v1,v2,v3,v4,v5,v6,v7,v8,v9,v10,v11,v12,v13,v14,v15,rfl⟩:∃v0 v1 v2 v3 v4 v5 v6 v7 v8 v9 v10 v11 v12 v13 v14 v15,cs=[v0,v1,v2,v3,v4,v5,v6,v7,v8,v9,v10,v11,v12,v13,v14,v15]:=by
  match cs,hlen with
  | [v0,v1,v2,v3,v4,v5,v6,v7,v8,v9,v10,v11,v12,v13,v14,v15],_=>exact ⟨v0,v1,v2,v3,v4,v5,v6,v7,v8,v9,v10,v11,v12,v13,v14,v15,rfl⟩
 obtain ⟨x0,x1,x2,x3,x4,x5,x6,x7,rfl⟩:∃x0 x1 x2 x3 x4 x5 x6 x7,xs=[x0,x1,x2,x3,x4,x5,x6,x7]:=by
  match xs,hxl with
  | [v0,v1,v2,v3,v4,v5,v6,v7],_=>exact ⟨v0,v1,v2,v3,v4,v5,v6,v7,rfl⟩
 have h0:=hfs 0 f0 rfl
 have h1:=hfs 1 f1 rfl
 have h2:=hfs 2 f2 rfl
 have h3:=hfs 3 f3 rfl
 have h4:=hfs 4 f4 rfl
 have h5:=hfs 5 f5 rfl
 have h6:=hfs 6 f6 rfl
 have h7:=hfs 7 f7 rfl
 simp [t0,o0,ty.cI] at h0
 simp [t1,o1,ty.cB] at h1
 simp [t2,o2,ty.cT] at h2
 simp [t3,o3,ty.cT] at h3
 simp [t4,o4,ty.cR] at h4
 simp [t5,o5,ty.cZ] at h5
 simp [t6,o6,ty.cZ] at h6
 simp [t7,o7,ty.cZ] at h7
 have hw:∀y,(y∈x2.1.weights P T∨y∈x3.1.weights P T∨y∈x4.1.weights P R∨y∈x5.1.weights P Z∨y∈x6.1.weights P Z∨y∈x7.1.weights P Z)→y≤reachBytes:=by
  intro y hy
  apply hl y
  simp only [DataW.weights,hu,List.map_cons,List.map_nil,DataW.weightsEach,t0,t1,t2,t3,t4,t5,t6,t7,List.mem_append]
  rcases hy with hy|hy|hy|hy|hy|hy<;>simp [DataW.weightsEach,t2,t3,t4,t5,t6,t7,hy]
 obtain ⟨k,k1,k2,⟨r0,a0⟩⟩:=Cm ty.uI h0
 obtain ⟨op,⟨r1,a1⟩⟩:=aaM ty.uB h1
 obtain ⟨cl,okl,⟨r2,a2⟩⟩:=N8 ty.toCTy _ _ _ h2 (fun y hy=>hw y (.inl hy))
 obtain ⟨cr,okr,⟨r3,a3⟩⟩:=N8 ty.toCTy _ _ _ h3 (fun y hy=>hw y (.inr (.inl hy)))
 obtain ⟨es,q1,q2,⟨r4,a4⟩⟩:=xW ty.uR ty.cZ (by omega) ty.bZ (fun a=>∃l:List UInt8,a=.s l∧l.length≤reachBytes) h4 (fun y hy=>hw y (.inr (.inr (.inl hy)))) (fun m hm cs y hy hly=>by
  obtain ⟨l,hl1,hr⟩:=yO ty.uZ hy hly
  exact ⟨.s l,⟨l,rfl,hl1⟩,rfl,hr⟩)
 obtain ⟨ro,ro1,⟨r5,a5⟩⟩:=yO ty.uZ h5 (fun y hy=>hw y (.inr (.inr (.inr (.inl hy)))))
 obtain ⟨aa,aa1,⟨r6,a6⟩⟩:=yO ty.uZ h6 (fun y hy=>hw y (.inr (.inr (.inr (.inr (.inl hy))))))
 obtain ⟨bb,bb1,⟨r7,a7⟩⟩:=yO ty.uZ h7 (fun y hy=>hw y (.inr (.inr (.inr (.inr (.inr hy))))))
 obtain ⟨rs,rfl,hrs⟩:=vz q1
 have hb:reachBytes≤1125899906842624:=by decide
 simp only [List.length_map] at q2
 refine ⟨⟨k,op,cl,cr,false,rs,ro,aa,bb⟩,⟨okl,okr,by simp;omega,fun r hr=>by have:=hrs r (by simpa using hr);omega,by simp;omega,by simp;omega,by simp;omega⟩, ?_,fun v hv=>?_⟩
 ·have e:(pG ⟨k,op,cl,cr,false,rs,ro,aa,bb⟩).cells=[.i .i64 k]++([.b op]++((iM cl).cells++((iM cr).cells++([.sl (rs.map .s)]++([.s ro]++([.s aa]++[.s bb])))))):=by simp
  rw [e]
  exact r0.append (r1.append (r2.append (r3.append (r4.append (r5.append (r6.append r7))))))
 ·simp only [List.mem_cons,List.not_mem_nil,or_false] at hv
  rcases hv with rfl|rfl|rfl|rfl|rfl|rfl|rfl|rfl|rfl|rfl|rfl|rfl|rfl|rfl|rfl|rfl
  ·exact a0 _ (by simp)
  ·exact a1 _ (by simp)
  ·exact a2 _ (by simp)
  ·exact a2 _ (by simp)
  ·exact a2 _ (by simp)
  ·exact a2 _ (by simp)
  ·exact a2 _ (by simp)
  ·exact a3 _ (by simp)
  ·exact a3 _ (by simp)
  ·exact a3 _ (by simp)
  ·exact a3 _ (by simp)
  ·exact a3 _ (by simp)
  ·exact a4 _ (by simp)
  ·exact a5 _ (by simp)
  ·exact a6 _ (by simp)
  ·exact a7 _ (by simp)
theorem Uy {A L T S I Z B R:TypeId} (ty:ATy P A L T S I Z B R) {r:Go.Reach} {b0:Nat} {v:Value} {d:DataW H} {p:List MemPlace} (hok:Value.okWide P W r b0 L v) (h:DataW.Trod enc P W 0 (fun _=>true) true L v d p) (hl:Light P L d):
  ∃l:List Ax,l.length≤1125899906842624∧(∀x∈l,x.Ok)∧Rep (g0 W) 0 v (slf false (l.map pG)):=by
 obtain ⟨a,len,cap,rfl⟩:=okWide_slice ty.uL hok
 obtain ⟨fuel,hf⟩:=h
 simp only [Value.cells] at hf
 obtain ⟨es,q1,q2,⟨r4,a4⟩⟩:=xW ty.uL ty.cA (by omega) ty.bA (fun a=>∃c,a=pG c∧c.Ok) hf hl (fun m hm cs y hy hly=>by
  obtain ⟨c,hc,hr⟩:=ZA ty m cs y hy hly
  exact ⟨pG c,⟨c,rfl,hc⟩,by simp,hr⟩)
 obtain ⟨l,rfl,hx⟩:=vz q1
 have hb:reachBytes≤1125899906842624:=by decide
 simp only [List.length_map] at q2
 exact ⟨l,by omega,hx,by rw [yV];exact r4.head⟩
end
end Go.Ai
