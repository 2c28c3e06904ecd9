/-
 The program's own facts: every function is a faithful copy, the library's functions answer as listed; what the row lists gives the variables.
-/
import Derived.Test.YtalbhlfigmlddaaGreatDoorAiC3
import Derived.Test.YtalbhlfigmlddaaGreatDoorAiC4
import Derived.Test.YtalbhlfigmlddaaGreatDoorRows
set_option maxRecDepth 100000
set_option linter.unusedSimpArgs false
set_option linter.unusedVariables false
set_option linter.unusedSectionVars false
namespace Go.Ai.Z
open Go.Proofs Go.Proofs.YtalbhlfigmlddaaGreatDoor
set_option maxRecDepth 100000
theorem zo {α:Type}:∀{l:List (Nat×α)} {k:Nat} {v:α},l.lookup k=some v→(k,v)∈l
 | [],_,_,h=>by simp at h
 | (a,b)::r,k,v,h=>by
  simp only [List.lookup] at h
  split at h
  ·rename_i he;cases h;simp at he;subst he;simp
  ·exact List.mem_cons_of_mem _ (zo h)
theorem Ye:P0.glob 3=some (Lib.pow10Tab.map fun z=>.i .u64 z):=by
 show Ju.lookup 3=_
 rfl
theorem afB:EY False Tryz.prog P0 where
 mixed:=mixed
 fns f fn h:=agi (f,fn) (zo h)
 intr f h hh:=by
  have:=zo (l:=Eo) hh
  simp only [Eo,List.mem_cons,List.not_mem_nil,or_false,Prod.mk.injEq] at this
  rcases this with ⟨rfl,rfl⟩|⟨rfl,rfl⟩|⟨rfl,rfl⟩|⟨rfl,rfl⟩
  ·exact (adQ).lift
  ·exact (adR Ye).lift
  ·exact (ace).lift
  ·exact (adS).lift
 hi f k hh:=by
  have:=zo (l:=Ql) hh
  simp only [Ql,List.mem_cons,List.not_mem_nil,or_false,Prod.mk.injEq] at this
  rcases this with ⟨rfl,rfl⟩|⟨rfl,rfl⟩|⟨rfl,rfl⟩
  ·exact ⟨rfl,adO⟩
  ·exact ⟨rfl,XY⟩
  ·exact ⟨rfl,adP⟩
 intrQ f h hh:=by
  have h0:P0.intrQ f=none:=rfl
  rw [h0] at hh;cases hh
theorem Xz:Tryz.prog.globalNamed "veilstone/terms.uses"=some 0:=by kernel_rfl
theorem VO:Tryz.prog.globalNamed "veilstone/terms.needs"=some 1:=by kernel_rfl
theorem VJ:Tryz.prog.globalNamed "internal/strconv.uint64pow10"=some 3:=by kernel_rfl
theorem ad7 {W:World} {laid:List (String×DataW Unit)} {ps:List MemPlace} (h:DataW.LaidVars Tryz.prog W laid ps)
  (h1:("veilstone/terms.needs",Rows.laid_veilstone_terms_needs)∈laid) (h2:("veilstone/terms.uses",Rows.laid_veilstone_terms_uses)∈laid) (h3:("internal/strconv.uint64pow10",Rows.laid_internal_strconv_uint64pow10)∈laid):qA P0.glob (g0 W):=by
 intro k cs hk
 have:=zo (l:=Ju) hk
 simp only [Ju,List.mem_cons,List.not_mem_nil,or_false,Prod.mk.injEq] at this
 rcases this with ⟨rfl,rfl⟩|⟨rfl,rfl⟩|⟨rfl,rfl⟩
 ·obtain ⟨ty,fr,hw⟩:=H6 (n:=60) (t:=(Tryz.prog.globals[1]?.map (·.type)).getD 0) (vs:=(Jv Tryz.prog 60 ((Tryz.prog.globals[1]?.map (·.type)).getD 0) Rows.laid_veilstone_terms_needs).getD []) h h1 VO (by kernel_rfl) (by kernel_rfl)
  exact O7 hw (by kernel_rfl) (by kernel_rfl)
 ·obtain ⟨ty,fr,hw⟩:=H6 (n:=60) (t:=(Tryz.prog.globals[0]?.map (·.type)).getD 0) (vs:=(Jv Tryz.prog 60 ((Tryz.prog.globals[0]?.map (·.type)).getD 0) Rows.laid_veilstone_terms_uses).getD []) h h2 Xz (by kernel_rfl) (by kernel_rfl)
  exact O7 hw (by kernel_rfl) (by kernel_rfl)
 ·obtain ⟨ty,fr,hw⟩:=H6 (n:=60) (t:=(Tryz.prog.globals[3]?.map (·.type)).getD 0) (vs:=(Jv Tryz.prog 60 ((Tryz.prog.globals[3]?.map (·.type)).getD 0) Rows.laid_internal_strconv_uint64pow10).getD []) h h3 VJ (by kernel_rfl) (by kernel_rfl)
  exact O7 hw (by kernel_rfl) (by kernel_rfl)
end Go.Ai.Z
