/-
 The reading of axioms, and of a row of them.
-/
import Derived.Test.YtcofenimejmoeaaGreatDoorAiDf
import Derived.Test.YtcofenimejmoeaaGreatDoorAiK1K2K3K4K5K6K7
set_option maxRecDepth 100000
set_option linter.unusedSimpArgs false
set_option linter.unusedVariables false
set_option linter.unusedSectionVars false
namespace Go.Ai
open Go.Ai.Z Go.ChangeShapes Go.WideShapes Go.WideElems
section
variable {H:Type} {enc:TypeId×Value→H} {P:Program} {W:World}
structure ATy (P:Program) (A L T S I Z B R:TypeId):Prop extends CTy P T S I Z where
 uA:∃f0 f1 f2 f3 f4 f5 f6 f7:Field,P.underlying A=some (.struct #[f0,f1,f2,f3,f4,f5,f6,f7])∧(f0.type=I∧f0.offset=0)∧(f1.type=B∧f1.offset=1)∧(f2.type=T∧f2.offset=2)∧(f3.type=T∧f3.offset=7)∧(f4.type=R∧f4.offset=12)∧
  (f5.type=Z∧f5.offset=13)∧(f6.type=Z∧f6.offset=14)∧(f7.type=Z∧f7.offset=15)
 uL:P.underlying L=some (.slice A)
 uB:P.underlying B=some .bool
 uR:P.underlying R=some (.slice Z)
 cA:P.cellsOf A=16
 cB:P.cellsOf B=1
 cR:P.cellsOf R=1
 bA:0<P.bytesOf A
 bZ:0<P.bytesOf Z
end
end Go.Ai
namespace Go.Ai
open Go.Ai.Z Go.ChangeShapes Go.WideShapes Go.WideElems
section
variable {H:Type} {enc:TypeId×Value→H} {P:Program} {W:World}
end
end Go.Ai
namespace Go.Ai
open Go.ChangeShapes Go.WideShapes Go.WideElems
section
variable {H:Type} {enc:TypeId×Value→H} {P:Program} {W:World}
theorem Yv {R Z:TypeId} (uR:P.underlying R=some (.slice Z)) (uZ:P.underlying Z=some (.int .u8)) (cZ:P.cellsOf Z=1) (bZ:0<P.bytesOf Z)
  {r:Go.Reach} {b0:Nat} {v:Value} {d:DataW H} {p:List MemPlace} (hok:Value.okWide P W r b0 R v) (h:DataW.Trod enc P W 0 (fun _=>true) true R v d p) (hl:Light P R d):
  ∃l:Rl,l.length≤1125899906842624∧Rep (g0 W) 0 v (.sl (aF l)):=by
 obtain ⟨a,len,cap,rfl⟩:=okWide_slice uR hok;obtain ⟨fuel,hf⟩:=h;simp only [Value.cells] at hf
 obtain ⟨es,q1,q2,⟨r4,a4⟩⟩:=ael uR cZ (by omega) bZ (fun a=>∃b:UInt8,a=.i .u8 b.toNat∧True) hf hl (fun m hm cs y hy hly=>by
  obtain ⟨n,h1,h2,hr⟩:=ahK uZ hy;have e1:(0:Int)≤n:=h1;have e2:n≤255:=h2;refine ⟨.i .u8 n,⟨UInt8.ofNat n.toNat, ?_,trivial⟩,rfl,hr⟩
  congr 1
  simp
  omega)
 obtain ⟨l,rfl,_⟩:=WW q1;have hb:reachBytes≤1125899906842624:=by decide
 simp only [List.length_map] at q2;exact ⟨l,by omega,r4.head⟩
end
end Go.Ai
