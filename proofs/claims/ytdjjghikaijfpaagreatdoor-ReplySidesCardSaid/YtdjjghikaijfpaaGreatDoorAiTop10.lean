/-
 The reading of lists of answers.
-/
import Derived.Test.YtdjjghikaijfpaaGreatDoorAiB2
import Derived.Test.YtdjjghikaijfpaaGreatDoorAiRP1
set_option maxRecDepth 100000
set_option linter.unusedSimpArgs false
set_option linter.unusedVariables false
set_option linter.unusedSectionVars false
namespace Go.Ai
open Go.Ai.Z Go.ChangeShapes Go.WideShapes Go.WideElems
section
variable {H:Type} {enc:TypeId×Value→H} {P:Program} {W:World}
structure abv (P:Program) (I Z R D:TypeId):Prop where
 uI:P.underlying I=some (.int .i64)
 uZ:P.underlying Z=some .string
 uR:P.underlying R=some (.slice Z)
 uD:∃f0 f1:Field,P.underlying D=some (.struct #[f0,f1])∧(f0.type=I∧f0.offset=0)∧(f1.type=R∧f1.offset=1)
 cI:P.cellsOf I=1
 cZ:P.cellsOf Z=1
 cR:P.cellsOf R=1
 cD:P.cellsOf D=2
 bZ:0<P.bytesOf Z
theorem abh {I Z R D:TypeId} (ty:abv P I Z R D) (fuel:Nat) (cs:List Value) (x:DataW H×List MemPlace) (h:DataW.trod enc P W 0 (fun _=>true) true fuel D cs=some x) (hl:Light P D x.1):
  ∃(k:Int) (U:List (List UInt8)),U.length≤1125899906842624∧(∀u∈U,u.length≤1125899906842624)∧BO W cs [.i .i64 k,.sl (U.map .s)]:=by
 obtain ⟨f0,f1,hu,⟨t0,o0⟩,⟨t1,o1⟩⟩:=ty.uD
 obtain ⟨xs,n,rfl,rfl,hlen,hxl,hfs⟩:=DataW.trod_struct hu h
 rw [ty.cD] at hlen
 obtain ⟨v0,v1,rfl⟩:∃v0 v1,cs=[v0,v1]:=by
  match cs,hlen with
  | [v0,v1],_=>exact ⟨v0,v1,rfl⟩
 obtain ⟨x0,x1,rfl⟩:∃x0 x1,xs=[x0,x1]:=by
  match xs,hxl with
  | [v0,v1],_=>exact ⟨v0,v1,rfl⟩
 have h0:=hfs 0 f0 rfl
 have h1:=hfs 1 f1 rfl
 simp [t0,o0,ty.cI] at h0
 simp [t1,o1,ty.cR] at h1
 have hw:∀y,y∈x1.1.weights P R→y≤reachBytes:=by
  intro y hy
  apply hl y
  simp only [DataW.weights,hu,List.map_cons,List.map_nil,DataW.weightsEach,t0,t1,List.mem_append]
  simp [DataW.weightsEach,t1,hy]
 obtain ⟨k,k1,k2,⟨r0,a0⟩⟩:=abk ty.uI h0
 obtain ⟨es,q1,q2,⟨r4,a4⟩⟩:=VO ty.uR ty.cZ (by omega) ty.bZ (fun a=>∃l:List UInt8,a=.s l∧l.length≤reachBytes) h1 hw (fun m hm cs y hy hly=>by
  obtain ⟨l,hl1,hr⟩:=abj ty.uZ hy hly
  exact ⟨.s l,⟨l,rfl,hl1⟩,rfl,hr⟩)
 obtain ⟨U,rfl,hU⟩:=Ry q1
 have hb:reachBytes≤1125899906842624:=by decide
 simp only [List.length_map] at q2
 refine ⟨k,U,by omega,fun u hu=>by have:=hU u hu;omega, ?_,fun v hv=>?_⟩
 ·exact r0.append r4
 ·simp only [List.mem_cons,List.not_mem_nil,or_false] at hv
  rcases hv with rfl|rfl
  ·exact a0 _ (by simp)
  ·exact a4 _ (by simp)
theorem Xk {I Z R D LD:TypeId} (ty:abv P I Z R D) (uL:P.underlying LD=some (.slice D)) (bD:0<P.bytesOf D) {r:Go.Reach} {b0:Nat} {v:Value} {d:DataW H} {p:List MemPlace} (hok:Value.okWide P W r b0 LD v) (h:DataW.Trod enc P W 0 (fun _=>true) true LD v d p) (hl:Light P LD d):
  ∃l:List Td,l.length≤1125899906842624∧(∀x∈l,SmT x)∧Rep (g0 W) 0 v (.sl (l.map eTd)):=by
 obtain ⟨a,len,cap,rfl⟩:=okWide_slice uL hok
 obtain ⟨fuel,hf⟩:=h
 simp only [Value.cells] at hf
 obtain ⟨es,q1,q2,⟨r4,a4⟩⟩:=VO uL ty.cD (by omega) bD (fun a=>∃c:Td,a=eTd c∧SmT c) hf hl (fun m hm cs y hy hly=>by
  obtain ⟨k,U,h1,h2,hr⟩:=abh ty m cs y hy hly
  exact ⟨eTd (k,U),⟨(k,U),rfl,h1⟩,rfl,hr⟩)
 obtain ⟨l,rfl,hx⟩:=Ry q1
 have hb:reachBytes≤1125899906842624:=by decide
 simp only [List.length_map] at q2
 exact ⟨l,by omega,hx,r4.head⟩
end
end Go.Ai
