/-
 roles.Above and the reference's Above: what is reached.
-/
import Derived.Test.YtcofenimejmoeaaGreatDoorAiRchR1R2
set_option maxRecDepth 100000
set_option linter.unusedSimpArgs false
set_option linter.unusedVariables false
set_option linter.unusedSectionVars false
namespace Go.Ai.Z
theorem vU:∀{l:List Ax},rP l=0→∀x∈l,jP x=0
 | [],_,x,hx=>by cases hx
 | y::l,h,x,hx=>by
  unfold rP at h
  split at h
  ·rcases List.mem_cons.1 hx with rfl|hx
   ·assumption
   ·exact vU h x hx
  ·contradiction
abbrev SM:=List (List UInt8×List (List UInt8))
def afJ (G:SM):St:=G.map fun p=>.row ak 1 p.2.length
@[simp] theorem afI (G:SM):(afJ G).length=G.length:=by simp [afJ]
@[simp] theorem ahX {s r:St} {a:gG}:(s++a::r)[s.length]?=some a:=by simp
@[simp] theorem agR {s r:St} {a b:gG}:(s++a::r).set s.length b=s++b::r:=by simp
end Go.Ai.Z
namespace Go.Ai.Z
theorem RZ:∀V:List (List UInt8),(uf V).mapM (fun p=>strOf p.1)=some V
 | []=>rfl
 | x::V=>by
  have ih:=RZ V
  simp only [uf,List.map_cons,List.mapM_cons] at ih ⊢
  rw [ih];rfl
theorem LC (n:Nat):∀l:List (List UInt8),eF n (l.map .s)=true
 | []=>by simp [eF]
 | x::l=>by simp [eF,LC n l]
end Go.Ai.Z
namespace Go.Ai.Z
end Go.Ai.Z
