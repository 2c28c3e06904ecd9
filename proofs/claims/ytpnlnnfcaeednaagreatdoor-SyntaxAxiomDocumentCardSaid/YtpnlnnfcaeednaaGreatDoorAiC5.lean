/-
 The program's own facts: every function is a faithful copy, the library's functions answer as listed; what the row lists gives the variables.
-/
import Derived.Test.YtpnlnnfcaeednaaGreatDoorAiC3
import Derived.Test.YtpnlnnfcaeednaaGreatDoorAiC4
import Derived.Test.YtpnlnnfcaeednaaGreatDoorRows
set_option maxRecDepth 100000
set_option linter.unusedSimpArgs false
set_option linter.unusedVariables false
set_option linter.unusedSectionVars false
namespace Go.Ai.Z
open Go.Proofs Go.Proofs.YtpnlnnfcaeednaaGreatDoor
set_option maxRecDepth 100000
theorem yA {α:Type}:∀{l:List (Nat×α)} {k:Nat} {v:α},l.lookup k=some v→(k,v)∈l
 | [],_,_,h=>by simp at h
 | (a,b)::r,k,v,h=>by
  simp only [List.lookup] at h
  split at h
  ·rename_i he;cases h;simp at he;subst he;simp
  ·exact List.mem_cons_of_mem _ (yA h)
theorem ae1:Gm False Tryz.prog P0 where
 mixed:=mixed
 fns f fn h:=afD (f,fn) (yA h)
 intr f h hh:=by
  have:=yA (l:=FO) hh
  simp only [FO,List.mem_cons,List.not_mem_nil,or_false,Prod.mk.injEq] at this
  rcases this with ⟨rfl,rfl⟩|⟨rfl,rfl⟩|⟨rfl,rfl⟩
  ·exact (abQ).lift
  ·exact (Qc).lift
  ·exact (adr).lift
 hi f k hh:=by
  have:=yA (l:=QB) hh
  simp only [QB,List.mem_cons,List.not_mem_nil,or_false,Prod.mk.injEq] at this
  rcases this with ⟨rfl,rfl⟩|⟨rfl,rfl⟩
  ·exact ⟨rfl,adq⟩
  ·exact ⟨rfl,afa⟩
 intrQ f h hh:=by
  have:=yA (l:=Cm) hh
  simp only [Cm,List.mem_cons,List.not_mem_nil,or_false,Prod.mk.injEq] at this
  obtain ⟨rfl,rfl⟩:=this
  exact (Qc).lift
theorem XP:Tryz.prog.globalNamed "veilstone/terms.uses"=some 0:=by kernel_rfl
theorem WL:Tryz.prog.globalNamed "veilstone/terms.needs"=some 1:=by kernel_rfl
theorem adD {W:World} {laid:List (String×DataW Unit)} {ps:List MemPlace} (h:DataW.LaidVars Tryz.prog W laid ps)
  (h1:("veilstone/terms.needs",Rows.laid_veilstone_terms_needs)∈laid) (h2:("veilstone/terms.uses",Rows.laid_veilstone_terms_uses)∈laid):rZ P0.glob (g0 W):=by
 intro k cs hk
 have:=yA (l:=QK) hk
 simp only [QK,List.mem_cons,List.not_mem_nil,or_false,Prod.mk.injEq] at this
 rcases this with ⟨rfl,rfl⟩|⟨rfl,rfl⟩
 ·obtain ⟨ty,fr,hw⟩:=Qr (n:=60) (t:=(Tryz.prog.globals[1]?.map (·.type)).getD 0) (vs:=(NK Tryz.prog 60 ((Tryz.prog.globals[1]?.map (·.type)).getD 0) Rows.laid_veilstone_terms_needs).getD []) h h1 WL (by kernel_rfl) (by kernel_rfl)
  exact Wy hw (by kernel_rfl) (by kernel_rfl)
 ·obtain ⟨ty,fr,hw⟩:=Qr (n:=60) (t:=(Tryz.prog.globals[0]?.map (·.type)).getD 0) (vs:=(NK Tryz.prog 60 ((Tryz.prog.globals[0]?.map (·.type)).getD 0) Rows.laid_veilstone_terms_uses).getD []) h h2 XP (by kernel_rfl) (by kernel_rfl)
  exact Wy hw (by kernel_rfl) (by kernel_rfl)
end Go.Ai.Z
