/-
 The program's own facts: every function is a faithful copy, the library's functions answer as listed; what the row lists gives the variables.
-/
import Derived.Test.YtpihciomhfoafaaGreatDoorAiC3
import Derived.Test.YtpihciomhfoafaaGreatDoorAiC4
import Derived.Test.YtpihciomhfoafaaGreatDoorRows
set_option maxRecDepth 100000
set_option linter.unusedSimpArgs false
set_option linter.unusedVariables false
set_option linter.unusedSectionVars false
namespace Go.Ai.Z
open Go.Proofs Go.Proofs.YtpihciomhfoafaaGreatDoor
set_option maxRecDepth 100000
theorem yB {α:Type}:∀{l:List (Nat×α)} {k:Nat} {v:α},l.lookup k=some v→(k,v)∈l
 | [],_,_,h=>by simp at h
 | (a,b)::r,k,v,h=>by
  simp only [List.lookup] at h
  split at h
  ·rename_i he;cases h;simp at he;subst he;simp
  ·exact List.mem_cons_of_mem _ (yB h)
theorem YZ:FU False Tryz.prog P0 where
 mixed:=mixed
 fns f fn h:=Zn (f,fn) (yB h)
 intr f h hh:=by
  have:=yB (l:=FC) hh
  simp only [FC,List.mem_cons,List.not_mem_nil,or_false,Prod.mk.injEq] at this
  rcases this with ⟨rfl,rfl⟩|⟨rfl,rfl⟩|⟨rfl,rfl⟩|⟨rfl,rfl⟩|⟨rfl,rfl⟩
  ·exact (WV).lift
  ·exact (Uh).lift
  ·exact WU
  ·exact WT
  ·exact Uf
 hi f k hh:=by
  have:=yB (l:=O3) hh
  simp only [O3,List.mem_cons,List.not_mem_nil,or_false,Prod.mk.injEq] at this
  obtain ⟨rfl,rfl⟩:=this
  exact ⟨rfl,Ug⟩
 intrQ f h hh:=by
  have h0:P0.intrQ f=none:=rfl
  rw [h0] at hh;cases hh
 dfr f d hh:=by
  have h0:P0.dfr f=none:=rfl
  rw [h0] at hh;cases hh
theorem Jj:Tryz.prog.globalNamed "veilstone/terms.needs"=some 2:=by kernel_rfl
theorem KO:Tryz.prog.globalNamed "veilstone/terms.uses"=some 0:=by kernel_rfl
theorem Jk:Tryz.prog.globalNamed "veilstone/normal.uses"=some 3:=by kernel_rfl
theorem X6 {W:World} {laid:List (String×DataW Unit)} {ps:List MemPlace} (h:DataW.LaidVars Tryz.prog W laid ps)
  (h1:("veilstone/terms.needs",Rows.laid_veilstone_terms_needs)∈laid) (h2:("veilstone/terms.uses",Rows.laid_veilstone_terms_uses)∈laid) (h3:("veilstone/normal.uses",Rows.laid_veilstone_normal_uses)∈laid):mF P0.glob (g0 W):=by
 intro k cs hk
 have:=yB (l:=O8) hk
 simp only [O8,List.mem_cons,List.not_mem_nil,or_false,Prod.mk.injEq] at this
 rcases this with ⟨rfl,rfl⟩|⟨rfl,rfl⟩|⟨rfl,rfl⟩
 ·obtain ⟨ty,fr,hw⟩:=Ik (n:=80) (t:=(Tryz.prog.globals[2]?.map (·.type)).getD 0) (vs:=(JK Tryz.prog 80 ((Tryz.prog.globals[2]?.map (·.type)).getD 0) Rows.laid_veilstone_terms_needs).getD []) h h1 Jj (by kernel_rfl) (by kernel_rfl)
  exact Oc hw (by kernel_rfl) (by kernel_rfl)
 ·obtain ⟨ty,fr,hw⟩:=Ik (n:=80) (t:=(Tryz.prog.globals[0]?.map (·.type)).getD 0) (vs:=(JK Tryz.prog 80 ((Tryz.prog.globals[0]?.map (·.type)).getD 0) Rows.laid_veilstone_terms_uses).getD []) h h2 KO (by kernel_rfl) (by kernel_rfl)
  exact Oc hw (by kernel_rfl) (by kernel_rfl)
 ·obtain ⟨ty,fr,hw⟩:=Ik (n:=80) (t:=(Tryz.prog.globals[3]?.map (·.type)).getD 0) (vs:=(JK Tryz.prog 80 ((Tryz.prog.globals[3]?.map (·.type)).getD 0) Rows.laid_veilstone_normal_uses).getD []) h h3 Jk (by kernel_rfl) (by kernel_rfl)
  exact Oc hw (by kernel_rfl) (by kernel_rfl)
end Go.Ai.Z
