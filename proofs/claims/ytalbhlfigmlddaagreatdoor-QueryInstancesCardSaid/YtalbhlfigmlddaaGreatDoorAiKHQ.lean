/-
 The order of trees, in the program that comparisons run in: written by program out of KH.
-/
import Derived.Test.YtalbhlfigmlddaaGreatDoorAiKGKH
set_option maxRecDepth 100000
set_option linter.unusedSimpArgs false
set_option linter.unusedVariables false
set_option linter.unusedSectionVars false
namespace Go.Ai.Z
open Go.Lib (compareBytes)
@[simp] theorem XV (a:Int) (s:St) (cx:Ctx):aj Pq (.fn (.func je) [] []) [.i .i64 a] s cx=.ret (.b false) s:=by
 refine Gw (by simp) ?_
 simp [ah,kL]
@[simp] theorem Vu (a b:Int) (s:St) (cx:Ctx):aj Pq (.fn (.func fO) [] []) [.i .i64 a,.i .i64 b] s cx=.ret (.i .i64 (tJ a b)) s:=by
 refine DT (by simp) ?_
 unfold tJ
 by_cases h1:a<b
 ·simp [ah,dR,h1]
 ·by_cases h2:b<a
  ·simp [ah,dR,h1,h2]
  ·simp [ah,dR,h1,h2]
theorem PV (l:List Int) (hl:l.length≤100000) (s:St) (cx:Ctx):∀(rest:List Int) (i:Nat),l.drop i=rest→
  ∃j:Int,dZ (ak Pq.glob (aj Pq) cx false gI) [3,6,7,8] [(3,.v (.i .i64 0)),(6,.v (.sl (l.map (AV.i .i64)))),(7,.v (.i .i64 l.length)),(8,.v (.i .i64 i))] s=
   if orI rest=0 then .exit 0 [(3,.v (.i .i64 0)),(6,.v (.sl (l.map (AV.i .i64)))),(7,.v (.i .i64 l.length)),(8,.v (.i .i64 j)),(9,.v (.b false))] s
   else .ret [(2,.v (.i .i64 (orI rest)))] s
 | [],i,h=>by
  have h1:¬i<l.length:=Nat.not_lt.2 (drop_nil h)
  refine ⟨i,ai fun K hK=>?_⟩
  simp [gI,h1,orI]
 | p::r,i,h=>by
  obtain ⟨h1,h2,h3,h4⟩:=drop_cons h
  have h5:=h4 h3
  have hwi:=wI (i:=i) (by omega)
  obtain ⟨j,ih⟩:=PV l hl s cx r (i+1) h2
  refine ⟨j,ai fun K hK=>?_⟩
  rw [←hK] at ih
  clear hK h4
  simp at ih
  by_cases hp:p=0
  ·simp [gI,h3,h5,hwi,ih,orI,hp]
  ·simp [gI,h3,h5,hwi,orI,hp]
theorem QD (l:List Int) (hl:l.length≤100000) (s:St) (cx:Ctx):aj Pq (.fn (.func oM) [] []) [.sl (l.map (AV.i .i64))] s cx=.ret (.i .i64 (orI l)) s:=by
 refine NI (by simp) ?_
 obtain ⟨j,h⟩:=PV l hl s ⟨s.length,s.length⟩ l 0 rfl
 simp at h
 by_cases h0:orI l=0
 ·simp [h0] at h
  simp [ah,kG,h,h0]
 ·simp [h0] at h
  simp [ah,kG,h]
end Go.Ai.Z
