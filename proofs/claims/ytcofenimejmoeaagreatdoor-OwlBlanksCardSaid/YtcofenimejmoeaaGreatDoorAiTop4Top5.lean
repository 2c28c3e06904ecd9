/-
 The reading of axioms, and of a row of them.
-/
import Derived.Test.YtcofenimejmoeaaGreatDoorAiDf
import Derived.Test.YtcofenimejmoeaaGreatDoorAiK1K2K3K4K5K6K7
set_option maxRecDepth 100000
set_option linter.unusedSimpArgs false
set_option linter.unusedVariables false
set_option linter.unusedSectionVars false
namespace Go.Ai
open Go.Ai.Z Go.ChangeShapes Go.WideShapes Go.WideElems
section
variable {H:Type} {enc:TypeId×Value→H} {P:Program} {W:World}
structure ATy (P:Program) (A L T S I Z B R:TypeId):Prop extends CTy P T S I Z where
 uA:∃f0 f1 f2 f3 f4 f5 f6 f7:Field,P.underlying A=some (.struct #[f0,f1,f2,f3,f4,f5,f6,f7])∧(f0.type=I∧f0.offset=0)∧(f1.type=B∧f1.offset=1)∧(f2.type=T∧f2.offset=2)∧(f3.type=T∧f3.offset=7)∧(f4.type=R∧f4.offset=12)∧
  (f5.type=Z∧f5.offset=13)∧(f6.type=Z∧f6.offset=14)∧(f7.type=Z∧f7.offset=15)
 uL:P.underlying L=some (.slice A)
 uB:P.underlying B=some .bool
 uR:P.underlying R=some (.slice Z)
 cA:P.cellsOf A=16
 cB:P.cellsOf B=1
 cR:P.cellsOf R=1
 bA:0<P.bytesOf A
 bZ:0<P.bytesOf Z
theorem ae4 {A L T S I Z B R:TypeId} (ty:ATy P A L T S I Z B R) (fuel:Nat) (cs:List Value) (x:DataW H×List MemPlace) (h:DataW.trod enc P W 0 (fun _=>true) true fuel A cs=some x) (hl:Light P A x.1):
  ∃c:Ax,c.Ok∧yA W cs (cu c).cells:=by
 obtain ⟨f0,f1,f2,f3,f4,f5,f6,f7,hu,⟨t0,o0⟩,⟨t1,o1⟩,⟨t2,o2⟩,⟨t3,o3⟩,⟨t4,o4⟩,⟨t5,o5⟩,⟨t6,o6⟩,⟨t7,o7⟩⟩:=ty.uA;obtain ⟨xs,n,rfl,rfl,hlen,hxl,hfs⟩:=DataW.trod_struct hu h;rw [ty.cA] at hlen
 obtain ⟨v0,v1,v2,v3,v4,v5,v6,v7,v8,v9,v10,v11,v12,v13,v14,v15,rfl⟩:∃v0 v1 v2 v3 v4 v5 v6 v7 v8 v9 v10 v11 v12 v13 v14 v15,cs=[v0,v1,v2,v3,v4,v5,v6,v7,v8,v9,v10,v11,v12,v13,v14,v15]:=by
  match cs,hlen with
  | [v0,v1,v2,v3,v4,v5,v6,v7,v8,v9,v10,v11,v12,v13,v14,v15],_=>exact ⟨v0,v1,v2,v3,v4,v5,v6,v7,v8,v9,v10,v11,v12,v13,v14,v15,rfl⟩
 obtain ⟨x0,x1,x2,x3,x4,x5,x6,x7,rfl⟩:∃x0 x1 x2 x3 x4 x5 x6 x7,xs=[x0,x1,x2,x3,x4,x5,x6,x7]:=by
  match xs,hxl with
  | [v0,v1,v2,v3,v4,v5,v6,v7],_=>exact ⟨v0,v1,v2,v3,v4,v5,v6,v7,rfl⟩
 have h0:=hfs 0 f0 rfl;have h1:=hfs 1 f1 rfl;have h2:=hfs 2 f2 rfl;have h3:=hfs 3 f3 rfl;have h4:=hfs 4 f4 rfl;have h5:=hfs 5 f5 rfl;have h6:=hfs 6 f6 rfl;have h7:=hfs 7 f7 rfl;simp [t0,o0,ty.cI] at h0;simp [t1,o1,ty.cB] at h1;simp [t2,o2,ty.cT] at h2;simp [t3,o3,ty.cT] at h3;simp [t4,o4,ty.cR] at h4;simp [t5,o5,ty.cZ] at h5;simp [t6,o6,ty.cZ] at h6;simp [t7,o7,ty.cZ] at h7
 have hw:∀y,(y∈x2.1.weights P T∨y∈x3.1.weights P T∨y∈x4.1.weights P R∨y∈x5.1.weights P Z∨y∈x6.1.weights P Z∨y∈x7.1.weights P Z)→y≤reachBytes:=by
  intro y hy;apply hl y;simp only [DataW.weights,hu,List.map_cons,List.map_nil,DataW.weightsEach,t0,t1,t2,t3,t4,t5,t6,t7,List.mem_append]
  rcases hy with hy|hy|hy|hy|hy|hy<;>simp [DataW.weightsEach,t2,t3,t4,t5,t6,t7,hy]
 obtain ⟨k,k1,k2,⟨r0,a0⟩⟩:=RZ ty.uI h0;obtain ⟨op,⟨r1,a1⟩⟩:=agM ty.uB h1;obtain ⟨cl,okl,⟨r2,a2⟩⟩:=Si ty.toCTy _ _ _ h2 (fun y hy=>hw y (.inl hy));obtain ⟨cr,okr,⟨r3,a3⟩⟩:=Si ty.toCTy _ _ _ h3 (fun y hy=>hw y (.inr (.inl hy)))
 obtain ⟨es,q1,q2,⟨r4,a4⟩⟩:=RY ty.uR ty.cZ (by omega) ty.bZ (fun a=>∃l:Rl,a=.s l∧l.length≤reachBytes) h4 (fun y hy=>hw y (.inr (.inr (.inl hy)))) (fun m hm cs y hy hly=>by
  obtain ⟨l,hl1,hr⟩:=Nz ty.uZ hy hly
  exact ⟨.s l,⟨l,rfl,hl1⟩,rfl,hr⟩)
 obtain ⟨ro,ro1,⟨r5,a5⟩⟩:=Nz ty.uZ h5 (fun y hy=>hw y (.inr (.inr (.inr (.inl hy)))));obtain ⟨aa,aa1,⟨r6,a6⟩⟩:=Nz ty.uZ h6 (fun y hy=>hw y (.inr (.inr (.inr (.inr (.inl hy))))));obtain ⟨bb,bb1,⟨r7,a7⟩⟩:=Nz ty.uZ h7 (fun y hy=>hw y (.inr (.inr (.inr (.inr (.inr hy))))));obtain ⟨rs,rfl,hrs⟩:=KQ q1;have hb:reachBytes≤1125899906842624:=by decide
 simp only [List.length_map] at q2;refine ⟨⟨k,op,cl,cr,false,rs,ro,aa,bb⟩,⟨okl,okr,by simp;omega,fun r hr=>by have:=hrs r (by simpa using hr);omega,by simp;omega,by simp;omega,by simp;omega⟩, ?_,fun v hv=>?_⟩
 ·have e:(cu ⟨k,op,cl,cr,false,rs,ro,aa,bb⟩).cells=[.i .i64 k]++([.b op]++((aJ cl).cells++((aJ cr).cells++([.sl (rs.map .s)]++([.s ro]++([.s aa]++[.s bb])))))):=by simp
  rw [e];exact r0.append (r1.append (r2.append (r3.append (r4.append (r5.append (r6.append r7))))))
 ·simp only [List.mem_cons,List.not_mem_nil,or_false] at hv;rcases hv with rfl|rfl|rfl|rfl|rfl|rfl|rfl|rfl|rfl|rfl|rfl|rfl|rfl|rfl|rfl|rfl
  ·exact a0 _ (by simp)
  ·exact a1 _ (by simp)
  ·exact a2 _ (by simp)
  ·exact a2 _ (by simp)
  ·exact a2 _ (by simp)
  ·exact a2 _ (by simp)
  ·exact a2 _ (by simp)
  ·exact a3 _ (by simp)
  ·exact a3 _ (by simp)
  ·exact a3 _ (by simp)
  ·exact a3 _ (by simp)
  ·exact a3 _ (by simp)
  ·exact a4 _ (by simp)
  ·exact a5 _ (by simp)
  ·exact a6 _ (by simp)
  ·exact a7 _ (by simp)
theorem Y6 {A L T S I Z B R:TypeId} (ty:ATy P A L T S I Z B R) {r:Go.Reach} {b0:Nat} {v:Value} {d:DataW H} {p:List MemPlace} (hok:Value.okWide P W r b0 L v) (h:DataW.Trod enc P W 0 (fun _=>true) true L v d p) (hl:Light P L d):
  ∃l:List Ax,l.length≤1125899906842624∧(∀x∈l,x.Ok)∧Rep (g0 W) 0 v (slf false (l.map cu)):=by
 obtain ⟨a,len,cap,rfl⟩:=okWide_slice ty.uL hok;obtain ⟨fuel,hf⟩:=h;simp only [Value.cells] at hf
 obtain ⟨es,q1,q2,⟨r4,a4⟩⟩:=RY ty.uL ty.cA (by omega) ty.bA (fun a=>∃c,a=cu c∧c.Ok) hf hl (fun m hm cs y hy hly=>by
  obtain ⟨c,hc,hr⟩:=ae4 ty m cs y hy hly
  exact ⟨cu c,⟨c,rfl,hc⟩,by simp,hr⟩)
 obtain ⟨l,rfl,hx⟩:=KQ q1;have hb:reachBytes≤1125899906842624:=by decide
 simp only [List.length_map] at q2;exact ⟨l,by omega,hx,by rw [abj];exact r4.head⟩
end
end Go.Ai
namespace Go.Ai
open Go.Ai.Z Go.ChangeShapes Go.WideShapes Go.WideElems
section
variable {H:Type} {enc:TypeId×Value→H} {P:Program} {W:World}
theorem adx {Z:TypeId} (uZ:P.underlying Z=some .string) {r:Go.Reach} {b0:Nat} {v:Value} {d:DataW H} {p:List MemPlace} (hok:Value.okWide P W r b0 Z v) (h:DataW.Trod enc P W 0 (fun _=>true) true Z v d p) (hl:Light P Z d):
  ∃l:Rl,l.length≤1125899906842624∧Rep (g0 W) 0 v (.s l):=by
 unfold Value.okWide at hok;rw [uZ] at hok;simp only [Cell.okWide,uZ,Cell.ok] at hok
 obtain ⟨s,rfl⟩:∃s,v=.string s:=by cases v<;>simp_all
 obtain ⟨fuel,hf⟩:=h;simp only [Value.cells] at hf;obtain ⟨l,hl1,hr⟩:=Nz uZ hf hl;have hb:reachBytes≤1125899906842624:=by decide
 exact ⟨l,by omega,hr.1.head⟩
theorem ady {Z:TypeId} {k:IntKind} (uZ:P.underlying Z=some (.int k)) {r:Go.Reach} {b0:Nat} {v:Value} {d:DataW H} {p:List MemPlace} (hok:Value.okWide P W r b0 Z v) (h:DataW.Trod enc P W 0 (fun _=>true) true Z v d p):
  ∃n:Int,n=n∧Rep (g0 W) 0 v (.i k n):=by
 unfold Value.okWide at hok;rw [uZ] at hok;simp only [Cell.okWide,uZ,Cell.ok] at hok
 obtain ⟨k',s,rfl⟩:∃k' s,v=.int k' s:=by cases v<;>simp_all
 obtain ⟨fuel,hf⟩:=h;simp only [Value.cells] at hf;obtain ⟨n,_,_,hr⟩:=RZ uZ hf;exact ⟨n,rfl,hr.1.head⟩
end
end Go.Ai
