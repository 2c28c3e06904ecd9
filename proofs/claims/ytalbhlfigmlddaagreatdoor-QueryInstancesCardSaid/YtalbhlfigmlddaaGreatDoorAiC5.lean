/-
 The program's own facts: every function is a faithful copy, the library's functions answer as listed; what the row lists gives the variables.
-/
import Derived.Test.YtalbhlfigmlddaaGreatDoorAiC3
import Derived.Test.YtalbhlfigmlddaaGreatDoorAiC4
import Derived.Test.YtalbhlfigmlddaaGreatDoorRows
set_option maxRecDepth 100000
set_option linter.unusedSimpArgs false
set_option linter.unusedVariables false
set_option linter.unusedSectionVars false
namespace Go.Ai.Z
open Go.Proofs Go.Proofs.YtalbhlfigmlddaaGreatDoor
set_option maxRecDepth 100000
theorem xP {α:Type}:∀{l:List (Nat×α)} {k:Nat} {v:α},l.lookup k=some v→(k,v)∈l
 | [],_,_,h=>by simp at h
 | (a,b)::r,k,v,h=>by
  simp only [List.lookup] at h
  split at h
  ·rename_i he;cases h;simp at he;subst he;simp
  ·exact List.mem_cons_of_mem _ (xP h)
theorem UU:P0.glob 3=some (Lib.pow10Tab.map fun z=>.i .u64 z):=by
 show GH.lookup 3=_
 rfl
theorem abV:CY False Tryz.prog P0 where
 mixed:=mixed
 fns f fn h:=acB (f,fn) (xP h)
 intr f h hh:=by
  have:=xP (l:=BU) hh
  simp only [BU,List.mem_cons,List.not_mem_nil,or_false,Prod.mk.injEq] at this
  rcases this with ⟨rfl,rfl⟩|⟨rfl,rfl⟩|⟨rfl,rfl⟩|⟨rfl,rfl⟩
  ·exact (aak).lift
  ·exact (aal UU).lift
  ·exact (YM).lift
  ·exact (aam).lift
 hi f k hh:=by
  have:=xP (l:=NG) hh
  simp only [NG,List.mem_cons,List.not_mem_nil,or_false,Prod.mk.injEq] at this
  rcases this with ⟨rfl,rfl⟩|⟨rfl,rfl⟩|⟨rfl,rfl⟩
  ·exact ⟨rfl,aai⟩
  ·exact ⟨rfl,UD⟩
  ·exact ⟨rfl,aaj⟩
 intrQ f h hh:=by
  have h0:P0.intrQ f=none:=rfl
  rw [h0] at hh;cases hh
theorem Ug:Tryz.prog.globalNamed "veilstone/terms.uses"=some 0:=by kernel_rfl
theorem Sm:Tryz.prog.globalNamed "veilstone/terms.needs"=some 1:=by kernel_rfl
theorem Si:Tryz.prog.globalNamed "internal/strconv.uint64pow10"=some 3:=by kernel_rfl
theorem aay {W:World} {laid:List (String×DataW Unit)} {ps:List MemPlace} (h:DataW.LaidVars Tryz.prog W laid ps)
  (h1:("veilstone/terms.needs",Rows.laid_veilstone_terms_needs)∈laid) (h2:("veilstone/terms.uses",Rows.laid_veilstone_terms_uses)∈laid) (h3:("internal/strconv.uint64pow10",Rows.laid_internal_strconv_uint64pow10)∈laid):oK P0.glob (g0 W):=by
 intro k cs hk
 have:=xP (l:=GH) hk
 simp only [GH,List.mem_cons,List.not_mem_nil,or_false,Prod.mk.injEq] at this
 rcases this with ⟨rfl,rfl⟩|⟨rfl,rfl⟩|⟨rfl,rfl⟩
 ·obtain ⟨ty,fr,hw⟩:=EP (n:=60) (t:=(Tryz.prog.globals[1]?.map (·.type)).getD 0) (vs:=(GK Tryz.prog 60 ((Tryz.prog.globals[1]?.map (·.type)).getD 0) Rows.laid_veilstone_terms_needs).getD []) h h1 Sm (by kernel_rfl) (by kernel_rfl)
  exact MB hw (by kernel_rfl) (by kernel_rfl)
 ·obtain ⟨ty,fr,hw⟩:=EP (n:=60) (t:=(Tryz.prog.globals[0]?.map (·.type)).getD 0) (vs:=(GK Tryz.prog 60 ((Tryz.prog.globals[0]?.map (·.type)).getD 0) Rows.laid_veilstone_terms_uses).getD []) h h2 Ug (by kernel_rfl) (by kernel_rfl)
  exact MB hw (by kernel_rfl) (by kernel_rfl)
 ·obtain ⟨ty,fr,hw⟩:=EP (n:=60) (t:=(Tryz.prog.globals[3]?.map (·.type)).getD 0) (vs:=(GK Tryz.prog 60 ((Tryz.prog.globals[3]?.map (·.type)).getD 0) Rows.laid_internal_strconv_uint64pow10).getD []) h h3 Si (by kernel_rfl) (by kernel_rfl)
  exact MB hw (by kernel_rfl) (by kernel_rfl)
end Go.Ai.Z
