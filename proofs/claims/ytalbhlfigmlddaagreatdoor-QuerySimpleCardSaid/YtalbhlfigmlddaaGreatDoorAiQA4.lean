/-
 query.Tidy.
-/
import Derived.Test.YtalbhlfigmlddaaGreatDoorAiQA3
set_option maxRecDepth 100000
set_option linter.unusedSimpArgs false
set_option linter.unusedVariables false
set_option linter.unusedSectionVars false
namespace Go.Ai.Z
def rowA (z:Bool):List At→AV
 | []=>if z then .ns else .sz
 | a::r=>.sl ((a::r).map dM)
def YT (z:Bool) (L:List At):AV:=.ag [rowA z L]
theorem YM {S:St} {n m:Nat} {a:AV} (h:a.under n=true):rG S n m a=some a:=by
 cases m<;>simp [rG,h]
theorem QB {F:AV→Option AV}:∀{l:List AV},(∀a∈l,F a=some a)→l.mapM F=some l
 | [],_=>by simp
 | a::l,h=>by
  simp only [List.mapM_cons,Option.bind_eq_bind,Option.pure_def,h a (by simp),QB (l:=l) (fun b hb=>h b (by simp [hb]))]
  rfl
end Go.Ai.Z
