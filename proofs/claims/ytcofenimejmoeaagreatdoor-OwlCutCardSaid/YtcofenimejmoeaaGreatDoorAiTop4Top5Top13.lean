/-
 The reading of axioms, and of a row of them.
-/
import Derived.Test.YtcofenimejmoeaaGreatDoorAiDf
import Derived.Test.YtcofenimejmoeaaGreatDoorAiK1K2K3K4K5K6K7
set_option maxRecDepth 100000
set_option linter.unusedSimpArgs false
set_option linter.unusedVariables false
set_option linter.unusedSectionVars false
namespace Go.Ai
open Go.Ai.Z Go.ChangeShapes Go.WideShapes Go.WideElems
section
variable {H:Type} {enc:TypeId×Value→H} {P:Program} {W:World}
structure ATy (P:Program) (A L T S I Z B R:TypeId):Prop extends CTy P T S I Z where
 uA:∃f0 f1 f2 f3 f4 f5 f6 f7:Field,P.underlying A=some (.struct #[f0,f1,f2,f3,f4,f5,f6,f7])∧(f0.type=I∧f0.offset=0)∧(f1.type=B∧f1.offset=1)∧(f2.type=T∧f2.offset=2)∧(f3.type=T∧f3.offset=7)∧(f4.type=R∧f4.offset=12)∧
  (f5.type=Z∧f5.offset=13)∧(f6.type=Z∧f6.offset=14)∧(f7.type=Z∧f7.offset=15)
 uL:P.underlying L=some (.slice A)
 uB:P.underlying B=some .bool
 uR:P.underlying R=some (.slice Z)
 cA:P.cellsOf A=16
 cB:P.cellsOf B=1
 cR:P.cellsOf R=1
 bA:0<P.bytesOf A
 bZ:0<P.bytesOf Z
theorem afT {A L T S I Z B R:TypeId} (ty:ATy P A L T S I Z B R) (b4:Nat) (cs:List Value) (x:DataW H×List MemPlace) (h:DataW.trod enc P W 0 (fun _=>true) true b4 A cs=some x) (hl:Light P A x.1):
  ∃c:Ax,c.Ok∧yL W cs (cu c).cells:=by
 obtain ⟨f0,f1,f2,f3,f4,f5,f6,f7,hu,⟨t0,o0⟩,⟨t1,o1⟩,⟨t2,o2⟩,⟨t3,o3⟩,⟨t4,o4⟩,⟨t5,o5⟩,⟨t6,o6⟩,⟨t7,o7⟩⟩:=ty.uA;obtain ⟨xs,n,rfl,rfl,a9,b0,p⟩:=DataW.trod_struct hu h;rw [ty.cA] at a9
 obtain ⟨v0,v1,v2,v3,v4,v5,v6,v7,v8,v9,O,K,Y,a8,Q,J,rfl⟩:∃v0 v1 v2 v3 v4 v5 v6 v7 v8 v9 O K Y a8 Q J,cs=[v0,v1,v2,v3,v4,v5,v6,v7,v8,v9,O,K,Y,a8,Q,J]:=by
  match cs,a9 with
  | [v0,v1,v2,v3,v4,v5,v6,v7,v8,v9,O,K,Y,a8,Q,J],_=>exact ⟨v0,v1,v2,v3,v4,v5,v6,v7,v8,v9,O,K,Y,a8,Q,J,rfl⟩
 obtain ⟨x0,x1,x2,x3,x4,x5,x6,x7,rfl⟩:∃x0 x1 x2 x3 x4 x5 x6 x7,xs=[x0,x1,x2,x3,x4,x5,x6,x7]:=by
  match xs,b0 with
  | [v0,v1,v2,v3,v4,v5,v6,v7],_=>exact ⟨v0,v1,v2,v3,v4,v5,v6,v7,rfl⟩
 have h0:=p 0 f0 rfl;have h1:=p 1 f1 rfl;have h2:=p 2 f2 rfl;have h3:=p 3 f3 rfl;have h4:=p 4 f4 rfl;have h5:=p 5 f5 rfl;have h6:=p 6 f6 rfl;have h7:=p 7 f7 rfl;simp [t0,o0,ty.cI] at h0;simp [t1,o1,ty.cB] at h1;simp [t2,o2,ty.cT] at h2;simp [t3,o3,ty.cT] at h3;simp [t4,o4,ty.cR] at h4;simp [t5,o5,ty.cZ] at h5;simp [t6,o6,ty.cZ] at h6;simp [t7,o7,ty.cZ] at h7
 have hw:∀y,(y∈x2.1.weights P T∨y∈x3.1.weights P T∨y∈x4.1.weights P R∨y∈x5.1.weights P Z∨y∈x6.1.weights P Z∨y∈x7.1.weights P Z)→y≤reachBytes:=by
  intro y hy;apply hl y;simp only [DataW.weights,hu,List.map_cons,List.map_nil,DataW.weightsEach,t0,t1,t2,t3,t4,t5,t6,t7,List.mem_append]
  rcases hy with hy|hy|hy|hy|hy|hy<;>simp [DataW.weightsEach,t2,t3,t4,t5,t6,t7,hy]
 obtain ⟨k,k1,k2,⟨r0,a0⟩⟩:=TM ty.uI h0;obtain ⟨op,⟨r1,a1⟩⟩:=ahE ty.uB h1;obtain ⟨cl,okl,⟨r2,a2⟩⟩:=TN ty.toCTy _ _ _ h2 (fun y hy=>hw y (.inl hy));obtain ⟨cr,okr,⟨r3,a3⟩⟩:=TN ty.toCTy _ _ _ h3 (fun y hy=>hw y (.inr (.inl hy)))
 obtain ⟨es,q1,q2,⟨r4,a4⟩⟩:=TL ty.uR ty.cZ (by omega) ty.bZ (fun a=>∃l:Rl,a=.s l∧l.length≤reachBytes) h4 (fun y hy=>hw y (.inr (.inr (.inl hy)))) (fun m hm cs y hy b3=>by
  obtain ⟨l,b2,hr⟩:=Ol ty.uZ hy b3
  exact ⟨.s l,⟨l,rfl,b2⟩,rfl,hr⟩)
 obtain ⟨ro,ro1,⟨r5,a5⟩⟩:=Ol ty.uZ h5 (fun y hy=>hw y (.inr (.inr (.inr (.inl hy)))));obtain ⟨aa,aa1,⟨r6,a6⟩⟩:=Ol ty.uZ h6 (fun y hy=>hw y (.inr (.inr (.inr (.inr (.inl hy))))));obtain ⟨bb,bb1,⟨r7,a7⟩⟩:=Ol ty.uZ h7 (fun y hy=>hw y (.inr (.inr (.inr (.inr (.inr hy))))));obtain ⟨rs,rfl,b1⟩:=LM q1;have hb:reachBytes≤1125899906842624:=by decide
 simp only [List.length_map] at q2;refine ⟨⟨k,op,cl,cr,false,rs,ro,aa,bb⟩,⟨okl,okr,by simp;omega,fun r hr=>by have:=b1 r (by simpa using hr);omega,by simp;omega,by simp;omega,by simp;omega⟩, ?_,fun v hv=>?_⟩
 ·have e:(cu ⟨k,op,cl,cr,false,rs,ro,aa,bb⟩).cells=[.i .i64 k]++([.b op]++((aJ cl).cells++((aJ cr).cells++([.sl (rs.map .s)]++([.s ro]++([.s aa]++[.s bb])))))):=by simp
  rw [e];exact r0.append (r1.append (r2.append (r3.append (r4.append (r5.append (r6.append r7))))))
 ·simp only [List.mem_cons,List.not_mem_nil,or_false] at hv;rcases hv with rfl|rfl|rfl|rfl|rfl|rfl|rfl|rfl|rfl|rfl|rfl|rfl|rfl|rfl|rfl|rfl
  ·exact a0 _ (by simp)
  ·exact a1 _ (by simp)
  ·exact a2 _ (by simp)
  ·exact a2 _ (by simp)
  ·exact a2 _ (by simp)
  ·exact a2 _ (by simp)
  ·exact a2 _ (by simp)
  ·exact a3 _ (by simp)
  ·exact a3 _ (by simp)
  ·exact a3 _ (by simp)
  ·exact a3 _ (by simp)
  ·exact a3 _ (by simp)
  ·exact a4 _ (by simp)
  ·exact a5 _ (by simp)
  ·exact a6 _ (by simp)
  ·exact a7 _ (by simp)
theorem ZV {A L T S I Z B R:TypeId} (ty:ATy P A L T S I Z B R) {r:Go.Reach} {b0:Nat} {v:Value} {d:DataW H} {p:List MemPlace} (O:Value.okWide P W r b0 L v) (h:DataW.Trod enc P W 0 (fun _=>true) true L v d p) (hl:Light P L d):
  ∃l:List Ax,l.length≤1125899906842624∧(∀x∈l,x.Ok)∧Rep (g0 W) 0 v (slf false (l.map cu)):=by
 obtain ⟨a,len,cap,rfl⟩:=okWide_slice ty.uL O;obtain ⟨K,hf⟩:=h;simp only [Value.cells] at hf
 obtain ⟨es,q1,q2,⟨r4,a4⟩⟩:=TL ty.uL ty.cA (by omega) ty.bA (fun a=>∃c,a=cu c∧c.Ok) hf hl (fun m hm cs y hy J=>by
  obtain ⟨c,hc,hr⟩:=afT ty m cs y hy J
  exact ⟨cu c,⟨c,rfl,hc⟩,by simp,hr⟩)
 obtain ⟨l,rfl,hx⟩:=LM q1;have hb:reachBytes≤1125899906842624:=by decide
 simp only [List.length_map] at q2;exact ⟨l,by omega,hx,by rw [aci];exact r4.head⟩
end
end Go.Ai
namespace Go.Ai
open Go.Ai.Z Go.ChangeShapes Go.WideShapes Go.WideElems
section
variable {H:Type} {enc:TypeId×Value→H} {P:Program} {W:World}
theorem aek {Z:TypeId} (uZ:P.underlying Z=some .string) {r:Go.Reach} {b0:Nat} {v:Value} {d:DataW H} {p:List MemPlace} (x:Value.okWide P W r b0 Z v) (h:DataW.Trod enc P W 0 (fun _=>true) true Z v d p) (hl:Light P Z d):
  ∃l:Rl,l.length≤1125899906842624∧Rep (g0 W) 0 v (.s l):=by
 unfold Value.okWide at x;rw [uZ] at x;simp only [Cell.okWide,uZ,Cell.ok] at x
 obtain ⟨s,rfl⟩:∃s,v=.string s:=by cases v<;>simp_all
 obtain ⟨A,hf⟩:=h;simp only [Value.cells] at hf;obtain ⟨l,I,hr⟩:=Ol uZ hf hl;have hb:reachBytes≤1125899906842624:=by decide
 exact ⟨l,by omega,hr.1.head⟩
end
end Go.Ai
namespace Go.Ai
open Go.ChangeShapes Go.WideShapes Go.WideElems
section
variable {H:Type} {enc:TypeId×Value→H} {P:Program} {W:World}
theorem ael {Z:TypeId} {k:IntKind} (uZ:P.underlying Z=some (.int k)) {r:Go.Reach} {b0:Nat} {v:Value} {d:DataW H} {p:List MemPlace} (x:Value.okWide P W r b0 Z v) (h:DataW.Trod enc P W 0 (fun _=>true) true Z v d p):
  ∃n:Int,(k.min≤n∧n≤k.max)∧Rep (g0 W) 0 v (.i k n):=by
 unfold Value.okWide at x;rw [uZ] at x;simp only [Cell.okWide,uZ,Cell.ok] at x
 obtain ⟨k',s,rfl⟩:∃k' s,v=.int k' s:=by cases v<;>simp_all
 obtain ⟨A,hf⟩:=h;simp only [Value.cells] at hf;obtain ⟨n,h1,h2,hr⟩:=TM uZ hf;exact ⟨n,⟨h1,h2⟩,hr.1.head⟩
end
end Go.Ai
