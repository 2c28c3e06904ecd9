/-
 The program's own facts: every function is a faithful copy, the library's functions answer as listed; what the row lists gives the variables.
-/
import Derived.Test.YtpnlnnfcaeednaaGreatDoorAiC3
import Derived.Test.YtpnlnnfcaeednaaGreatDoorAiC4
import Derived.Test.YtpnlnnfcaeednaaGreatDoorRows
set_option maxRecDepth 100000
set_option linter.unusedSimpArgs false
set_option linter.unusedVariables false
set_option linter.unusedSectionVars false
namespace Go.Ai.Z
open Go.Proofs Go.Proofs.YtpnlnnfcaeednaaGreatDoor
set_option maxRecDepth 100000
theorem yI {α:Type}:∀{l:List (Nat×α)} {k:Nat} {v:α},l.lookup k=some v→(k,v)∈l
 | [],_,_,h=>by simp at h
 | (a,b)::r,k,v,h=>by
  simp only [List.lookup] at h
  split at h
  ·rename_i he;cases h;simp at he;subst he;simp
  ·exact List.mem_cons_of_mem _ (yI h)
theorem af0:Gq False Tryz.prog P0 where
 mixed:=mixed
 fns f fn h:=agK (f,fn) (yI h)
 intr f h hh:=by
  have:=yI (l:=FV) hh
  simp only [FV,List.mem_cons,List.not_mem_nil,or_false,Prod.mk.injEq] at this
  rcases this with ⟨rfl,rfl⟩|⟨rfl,rfl⟩|⟨rfl,rfl⟩
  ·exact (acW).lift
  ·exact (QC).lift
  ·exact (aer).lift
 hi f k hh:=by
  have:=yI (l:=Q8) hh
  simp only [Q8,List.mem_cons,List.not_mem_nil,or_false,Prod.mk.injEq] at this
  rcases this with ⟨rfl,rfl⟩|⟨rfl,rfl⟩
  ·exact ⟨rfl,aep⟩
  ·exact ⟨rfl,agb⟩
 intrQ f h hh:=by
  have:=yI (l:=CX) hh
  simp only [CX,List.mem_cons,List.not_mem_nil,or_false,Prod.mk.injEq] at this
  obtain ⟨rfl,rfl⟩:=this
  exact (QC).lift
theorem Yr:Tryz.prog.globalNamed "veilstone/terms.uses"=some 0:=by kernel_rfl
theorem Xn:Tryz.prog.globalNamed "veilstone/terms.needs"=some 1:=by kernel_rfl
theorem aeD {W:World} {laid:List (String×DataW Unit)} {ps:List MemPlace} (h:DataW.LaidVars Tryz.prog W laid ps)
  (h1:("veilstone/terms.needs",Rows.laid_veilstone_terms_needs)∈laid) (h2:("veilstone/terms.uses",Rows.laid_veilstone_terms_uses)∈laid):sQ P0.glob (g0 W):=by
 intro k cs hk
 have:=yI (l:=Ro) hk
 simp only [Ro,List.mem_cons,List.not_mem_nil,or_false,Prod.mk.injEq] at this
 rcases this with ⟨rfl,rfl⟩|⟨rfl,rfl⟩
 ·obtain ⟨ty,fr,hw⟩:=QU (n:=60) (t:=(Tryz.prog.globals[1]?.map (·.type)).getD 0) (vs:=(N8 Tryz.prog 60 ((Tryz.prog.globals[1]?.map (·.type)).getD 0) Rows.laid_veilstone_terms_needs).getD []) h h1 Xn (by kernel_rfl) (by kernel_rfl)
  exact Xd hw (by kernel_rfl) (by kernel_rfl)
 ·obtain ⟨ty,fr,hw⟩:=QU (n:=60) (t:=(Tryz.prog.globals[0]?.map (·.type)).getD 0) (vs:=(N8 Tryz.prog 60 ((Tryz.prog.globals[0]?.map (·.type)).getD 0) Rows.laid_veilstone_terms_uses).getD []) h h2 Yr (by kernel_rfl) (by kernel_rfl)
  exact Xd hw (by kernel_rfl) (by kernel_rfl)
end Go.Ai.Z
