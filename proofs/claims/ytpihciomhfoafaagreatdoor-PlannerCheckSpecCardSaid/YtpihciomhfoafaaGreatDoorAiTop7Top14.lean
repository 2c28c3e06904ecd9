/-
 The reading of atoms of queries, and of parts.
-/
import Derived.Test.YtpihciomhfoafaaGreatDoorAiB2
import Derived.Test.YtpihciomhfoafaaGreatDoorAiQRPL1PL2PL3
set_option maxRecDepth 100000
set_option linter.unusedSimpArgs false
set_option linter.unusedVariables false
set_option linter.unusedSectionVars false
namespace Go.Ai
open Go.Ai.Z Go.ChangeShapes Go.WideShapes Go.WideElems
structure Z.At.Ok (a:At):Prop where
 n:a.name.length≤1125899906842624
 x:a.x.length≤1125899906842624
 y:a.y.length≤1125899906842624
@[simp] theorem Z.plain_encAt (a:At):(JR a).plain=JR a:=rfl
@[simp] theorem Z.cells_encAt (a:At):(JR a).cells=[.i .i64 a.kind,.s a.name,.s a.x,.s a.y,.i .i64 a.lo,.i .i64 a.hi]:=rfl
section
variable {H:Type} {enc:TypeId×Value→H} {P:Program} {W:World}
structure QTy (P:Program) (A L Q I Z:TypeId):Prop where
 uA:∃f0 f1 f2 f3 f4 f5:Field,P.underlying A=some (.struct #[f0,f1,f2,f3,f4,f5])∧(f0.type=I∧f0.offset=0)∧(f1.type=Z∧f1.offset=1)∧(f2.type=Z∧f2.offset=2)∧(f3.type=Z∧f3.offset=3)∧(f4.type=I∧f4.offset=4)∧(f5.type=I∧f5.offset=5)
 uL:P.underlying L=some (.slice A)
 uQ:∃f0:Field,P.underlying Q=some (.struct #[f0])∧(f0.type=L∧f0.offset=0)
 uI:P.underlying I=some (.int .i64)
 uZ:P.underlying Z=some .string
 cA:P.cellsOf A=6
 cL:P.cellsOf L=1
 cQ:P.cellsOf Q=1
 cI:P.cellsOf I=1
 cZ:P.cellsOf Z=1
 bA:0<P.bytesOf A
theorem Yf {A L Q I Z:TypeId} (ty:QTy P A L Q I Z) (fuel:Nat) (cs:List Value) (x:DataW H×List MemPlace) (h:DataW.trod enc P W 0 (fun _=>true) true fuel A cs=some x) (hl:Light P A x.1):
  ∃c:At,c.Ok∧tK W cs (JR c).cells:=by
 obtain ⟨f0,f1,f2,f3,f4,f5,hu,⟨t0,o0⟩,⟨t1,o1⟩,⟨t2,o2⟩,⟨t3,o3⟩,⟨t4,o4⟩,⟨t5,o5⟩⟩:=ty.uA
 obtain ⟨xs,n,rfl,rfl,hlen,hxl,hfs⟩:=DataW.trod_struct hu h
 rw [ty.cA] at hlen
 obtain ⟨v0,v1,v2,v3,v4,v5,rfl⟩:∃v0 v1 v2 v3 v4 v5,cs=[v0,v1,v2,v3,v4,v5]:=by
  match cs,hlen with
  | [v0,v1,v2,v3,v4,v5],_=>exact ⟨v0,v1,v2,v3,v4,v5,rfl⟩
 obtain ⟨x0,x1,x2,x3,x4,x5,rfl⟩:∃x0 x1 x2 x3 x4 x5,xs=[x0,x1,x2,x3,x4,x5]:=by
  match xs,hxl with
  | [v0,v1,v2,v3,v4,v5],_=>exact ⟨v0,v1,v2,v3,v4,v5,rfl⟩
 have h0:=hfs 0 f0 rfl
 have h1:=hfs 1 f1 rfl
 have h2:=hfs 2 f2 rfl
 have h3:=hfs 3 f3 rfl
 have h4:=hfs 4 f4 rfl
 have h5:=hfs 5 f5 rfl
 simp [t0,o0,ty.cI] at h0
 simp [t1,o1,ty.cZ] at h1
 simp [t2,o2,ty.cZ] at h2
 simp [t3,o3,ty.cZ] at h3
 simp [t4,o4,ty.cI] at h4
 simp [t5,o5,ty.cI] at h5
 have hw:∀y,(y∈x1.1.weights P Z∨y∈x2.1.weights P Z∨y∈x3.1.weights P Z)→y≤reachBytes:=by
  intro y hy
  apply hl y
  simp only [DataW.weights,hu,List.map_cons,List.map_nil,DataW.weightsEach,t0,t1,t2,t3,t4,t5,List.mem_append]
  rcases hy with hy|hy|hy<;>simp [DataW.weightsEach,t1,t2,t3,hy]
 obtain ⟨k,k1,k2,⟨r0,a0⟩⟩:=RD ty.uI h0
 obtain ⟨nm,nm1,⟨r1,a1⟩⟩:=UC ty.uZ h1 (fun y hy=>hw y (.inl hy))
 obtain ⟨xx,xx1,⟨r2,a2⟩⟩:=UC ty.uZ h2 (fun y hy=>hw y (.inr (.inl hy)))
 obtain ⟨yy,yy1,⟨r3,a3⟩⟩:=UC ty.uZ h3 (fun y hy=>hw y (.inr (.inr hy)))
 obtain ⟨lo,lo1,lo2,⟨r4,a4⟩⟩:=RD ty.uI h4
 obtain ⟨hi,hi1,hi2,⟨r5,a5⟩⟩:=RD ty.uI h5
 have hb:reachBytes≤1125899906842624:=by decide
 refine ⟨⟨k,nm,xx,yy,lo,hi⟩,⟨by simp;omega,by simp;omega,by simp;omega⟩, ?_,fun v hv=>?_⟩
 ·have e:(JR ⟨k,nm,xx,yy,lo,hi⟩).cells=[.i .i64 k]++([.s nm]++([.s xx]++([.s yy]++([.i .i64 lo]++[.i .i64 hi])))):=rfl
  rw [e]
  exact r0.append (r1.append (r2.append (r3.append (r4.append r5))))
 ·simp only [List.mem_cons,List.not_mem_nil,or_false] at hv
  rcases hv with rfl|rfl|rfl|rfl|rfl|rfl
  ·exact a0 _ (by simp)
  ·exact a1 _ (by simp)
  ·exact a2 _ (by simp)
  ·exact a3 _ (by simp)
  ·exact a4 _ (by simp)
  ·exact a5 _ (by simp)
theorem Ye {A L Q I Z:TypeId} (ty:QTy P A L Q I Z) (fuel:Nat) (cs:List Value) (x:DataW H×List MemPlace) (h:DataW.trod enc P W 0 (fun _=>true) true fuel Q cs=some x) (hl:Light P Q x.1):
  ∃(z:Bool) (l:List At),l.length≤1125899906842624∧(∀a∈l,a.Ok)∧tK W cs [rowA z l]:=by
 obtain ⟨f0,hu,⟨t0,o0⟩⟩:=ty.uQ
 obtain ⟨xs,n,rfl,rfl,hlen,hxl,hfs⟩:=DataW.trod_struct hu h
 rw [ty.cQ] at hlen
 obtain ⟨v0,rfl⟩:∃v0,cs=[v0]:=by
  match cs,hlen with
  | [v0],_=>exact ⟨v0,rfl⟩
 obtain ⟨x0,rfl⟩:∃x0,xs=[x0]:=by
  match xs,hxl with
  | [v0],_=>exact ⟨v0,rfl⟩
 have h0:=hfs 0 f0 rfl
 simp [t0,o0,ty.cL] at h0
 have hw:∀y,y∈x0.1.weights P L→y≤reachBytes:=by
  intro y hy
  apply hl y
  simp only [DataW.weights,hu,List.map_cons,List.map_nil,DataW.weightsEach,t0,List.mem_append]
  simp [DataW.weightsEach,t0,hy]
 obtain ⟨es,q1,q2,⟨r4,a4⟩⟩:=Tv ty.uL ty.cA (by omega) ty.bA (fun a=>∃c,a=JR c∧c.Ok) h0 hw (fun m hm cs y hy hly=>by
  obtain ⟨c,hc,hr⟩:=Yf ty m cs y hy hly
  exact ⟨JR c,⟨c,rfl,hc⟩,by simp,hr⟩)
 obtain ⟨l,rfl,hx⟩:=OW q1
 have hb:reachBytes≤1125899906842624:=by decide
 simp only [List.length_map] at q2
 cases l with
 | cons a r=>exact ⟨true,a::r,by simp at q2 ⊢;omega,hx,⟨r4,a4⟩⟩
 | nil=>
  have h1:=r4.head
  simp only [List.map_nil] at h1
  have key:∃z,Rep (g0 W) 0 v0 (rowA z []):=by
   generalize he:([]:List AV)=e at h1
   cases h1 with
   | slNil=>exact ⟨true,.ns⟩
   | slE a=>exact ⟨false,.sz a 0⟩
   | sl bk off cap sz _ c hc hsz hm hr=>subst he;exact ⟨false,.sz _ cap⟩
  obtain ⟨z,hz⟩:=key
  exact ⟨z,[],by simp,by simp,⟨.cons hz (.nil _ _),a4⟩⟩
theorem WH {A L Q I Z:TypeId} (ty:QTy P A L Q I Z) {r:Go.Reach} {b0:Nat} {v:Value} {d:DataW H} {p:List MemPlace} (hok:Value.okWide P W r b0 Q v) (h:DataW.Trod enc P W 0 (fun _=>true) true Q v d p) (hl:Light P Q d):
  ∃(z:Bool) (l:List At),l.length≤1125899906842624∧(∀a∈l,a.Ok)∧Rep (g0 W) 0 v (DI z l):=by
 obtain ⟨f0,hu,_⟩:=ty.uQ
 unfold Value.okWide at hok
 rw [hu] at hok
 obtain ⟨cs,rfl,_⟩:=hok
 obtain ⟨fuel,hf⟩:=h
 obtain ⟨z,l,h1,h2,hr,h3⟩:=Ye ty fuel _ _ hf hl
 refine ⟨z,l,h1,h2, ?_⟩
 unfold DI
 simp only [Value.cells] at hr h3
 refine .ag cs _ (by simpa using hr.1) (fun i hi=>h3 _ (by simp)) (fun i hi hi'=>?_)
 have:=hr.2 i (by simpa using hi) (by simpa using hi')
 simpa using this
end
end Go.Ai
namespace Go.Ai
open Go.Ai.Z Go.ChangeShapes Go.WideShapes Go.WideElems
section
variable {H:Type} {enc:TypeId×Value→H} {P:Program} {W:World}
structure Zq (P:Program) (I R D:TypeId):Prop where
 uI:P.underlying I=some (.int .i64)
 uR:P.underlying R=some (.slice I)
 uD:∃f0:Field,P.underlying D=some (.struct #[f0])∧(f0.type=R∧f0.offset=0)
 cI:P.cellsOf I=1
 cR:P.cellsOf R=1
 cD:P.cellsOf D=1
 bI:0<P.bytesOf I
theorem Yd {I R D:TypeId} (ty:Zq P I R D) (fuel:Nat) (cs:List Value) (x:DataW H×List MemPlace) (h:DataW.trod enc P W 0 (fun _=>true) true fuel D cs=some x) (hl:Light P D x.1):
  ∃l:List Int,l.length≤1125899906842624∧tK W cs [.sl (l.map iA)]:=by
 obtain ⟨f0,hu,⟨t0,o0⟩⟩:=ty.uD
 obtain ⟨xs,n,rfl,rfl,hlen,hxl,hfs⟩:=DataW.trod_struct hu h
 rw [ty.cD] at hlen
 obtain ⟨v0,rfl⟩:∃v0,cs=[v0]:=by
  match cs,hlen with
  | [v0],_=>exact ⟨v0,rfl⟩
 obtain ⟨x0,rfl⟩:∃x0,xs=[x0]:=by
  match xs,hxl with
  | [v0],_=>exact ⟨v0,rfl⟩
 have h0:=hfs 0 f0 rfl
 simp [t0,o0,ty.cR] at h0
 have hw:∀y,y∈x0.1.weights P R→y≤reachBytes:=by
  intro y hy
  apply hl y
  simp only [DataW.weights,hu,List.map_cons,List.map_nil,DataW.weightsEach,t0,List.mem_append]
  simp [DataW.weightsEach,t0,hy]
 obtain ⟨es,q1,q2,⟨r4,a4⟩⟩:=Tv ty.uR ty.cI (by omega) ty.bI (fun a=>∃n:Int,a=iA n∧True) h0 hw (fun m hm cs y hy hly=>by
  obtain ⟨k,_,_,hr⟩:=RD ty.uI hy
  exact ⟨iA k,⟨k,rfl,trivial⟩,rfl,hr⟩)
 obtain ⟨U,rfl,hU⟩:=OW q1
 have hb:reachBytes≤1125899906842624:=by decide
 simp only [List.length_map] at q2
 exact ⟨U,by omega,r4,a4⟩
theorem WG {I R D:TypeId} (ty:Zq P I R D) {r:Go.Reach} {b0:Nat} {v:Value} {d:DataW H} {p:List MemPlace} (hok:Value.okWide P W r b0 D v) (h:DataW.Trod enc P W 0 (fun _=>true) true D v d p) (hl:Light P D d):
  ∃l:List Int,l.length≤1125899906842624∧Rep (g0 W) 0 v (sJ false l):=by
 obtain ⟨f0,hu,_⟩:=ty.uD
 unfold Value.okWide at hok
 rw [hu] at hok
 obtain ⟨cs,rfl,_⟩:=hok
 obtain ⟨fuel,hf⟩:=h
 obtain ⟨l,h1,hr,h3⟩:=Yd ty fuel _ _ hf hl
 refine ⟨l,h1, ?_⟩
 unfold sJ
 simp only [Value.cells] at hr h3
 rw [U7]
 refine .ag cs _ (by simpa using hr.1) (fun i hi=>h3 _ (by simp)) (fun i hi hi'=>?_)
 have:=hr.2 i (by simpa using hi) (by simpa using hi')
 simpa using this
end
end Go.Ai
