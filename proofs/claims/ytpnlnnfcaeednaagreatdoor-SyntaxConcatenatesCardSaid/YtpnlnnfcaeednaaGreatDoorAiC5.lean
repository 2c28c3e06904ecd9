/-
 The program's own facts: every function is a faithful copy, the library's functions answer as listed; what the row lists gives the variables.
-/
import Derived.Test.YtpnlnnfcaeednaaGreatDoorAiC3
import Derived.Test.YtpnlnnfcaeednaaGreatDoorAiC4
import Derived.Test.YtpnlnnfcaeednaaGreatDoorRows
set_option maxRecDepth 100000
set_option linter.unusedSimpArgs false
set_option linter.unusedVariables false
set_option linter.unusedSectionVars false
namespace Go.Ai.Z
open Go.Proofs Go.Proofs.YtpnlnnfcaeednaaGreatDoor
set_option maxRecDepth 100000
theorem yH {α:Type}:∀{l:List (Nat×α)} {k:Nat} {v:α},l.lookup k=some v→(k,v)∈l
 | [],_,_,h=>by simp at h
 | (a,b)::r,k,v,h=>by
  simp only [List.lookup] at h
  split at h
  ·rename_i he;cases h;simp at he;subst he;simp
  ·exact List.mem_cons_of_mem _ (yH h)
theorem af5:Gl False Tryz.prog P0 where
 mixed:=mixed
 fns f fn h:=agN (f,fn) (yH h)
 intr f h hh:=by
  have:=yH (l:=FP) hh
  simp only [FP,List.mem_cons,List.not_mem_nil,or_false,Prod.mk.injEq] at this
  rcases this with ⟨rfl,rfl⟩|⟨rfl,rfl⟩|⟨rfl,rfl⟩
  ·exact (acU).lift
  ·exact (QK).lift
  ·exact (aep).lift
 hi f k hh:=by
  have:=yH (l:=Rq) hh
  simp only [Rq,List.mem_cons,List.not_mem_nil,or_false,Prod.mk.injEq] at this
  rcases this with ⟨rfl,rfl⟩|⟨rfl,rfl⟩
  ·exact ⟨rfl,aeo⟩
  ·exact ⟨rfl,agf⟩
 intrQ f h hh:=by
  have:=yH (l:=CV) hh
  simp only [CV,List.mem_cons,List.not_mem_nil,or_false,Prod.mk.injEq] at this
  obtain ⟨rfl,rfl⟩:=this
  exact (QK).lift
theorem Yv:Tryz.prog.globalNamed "veilstone/terms.uses"=some 0:=by kernel_rfl
theorem Xt:Tryz.prog.globalNamed "veilstone/terms.needs"=some 1:=by kernel_rfl
theorem aeC {W:World} {laid:List (String×DataW Unit)} {ps:List MemPlace} (h:DataW.LaidVars Tryz.prog W laid ps)
  (h1:("veilstone/terms.needs",Rows.laid_veilstone_terms_needs)∈laid) (h2:("veilstone/terms.uses",Rows.laid_veilstone_terms_uses)∈laid):sQ P0.glob (g0 W):=by
 intro k cs hk
 have:=yH (l:=RG) hk
 simp only [RG,List.mem_cons,List.not_mem_nil,or_false,Prod.mk.injEq] at this
 rcases this with ⟨rfl,rfl⟩|⟨rfl,rfl⟩
 ·obtain ⟨ty,fr,hw⟩:=Q9 (n:=60) (t:=(Tryz.prog.globals[1]?.map (·.type)).getD 0) (vs:=(Oc Tryz.prog 60 ((Tryz.prog.globals[1]?.map (·.type)).getD 0) Rows.laid_veilstone_terms_needs).getD []) h h1 Xt (by kernel_rfl) (by kernel_rfl)
  exact Xi hw (by kernel_rfl) (by kernel_rfl)
 ·obtain ⟨ty,fr,hw⟩:=Q9 (n:=60) (t:=(Tryz.prog.globals[0]?.map (·.type)).getD 0) (vs:=(Oc Tryz.prog 60 ((Tryz.prog.globals[0]?.map (·.type)).getD 0) Rows.laid_veilstone_terms_uses).getD []) h h2 Yv (by kernel_rfl) (by kernel_rfl)
  exact Xi hw (by kernel_rfl) (by kernel_rfl)
end Go.Ai.Z
