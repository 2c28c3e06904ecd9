/-
 The program's own facts: every function is a faithful copy, the library's functions answer as listed; what the row lists gives the variables.
-/
import Derived.Test.YtcofenimejmoeaaGreatDoorAiC3
import Derived.Test.YtcofenimejmoeaaGreatDoorAiC4
import Derived.Test.YtcofenimejmoeaaGreatDoorAiPZDefO
import Derived.Test.YtcofenimejmoeaaGreatDoorRows
set_option maxRecDepth 100000
set_option linter.unusedSimpArgs false
set_option linter.unusedVariables false
set_option linter.unusedSectionVars false
namespace Go.Ai.Z
open Go.Proofs Go.Proofs.YtcofenimejmoeaaGreatDoor
set_option maxRecDepth 100000
theorem wZ {α:Type}:∀{l:List (Nat×α)} {k:Nat} {v:α},l.lookup k=some v→(k,v)∈l
 | [],_,_,h=>by simp at h
 | (a,b)::r,k,v,h=>by
  simp only [List.lookup] at h
  split at h
  ·rename_i he;cases h;simp at he;subst he;simp
  ·exact List.mem_cons_of_mem _ (wZ h)
theorem Xr:P0.glob 3=some (Lib.pow10Tab.map fun z=>.i .u64 z):=by
 show JD.lookup 3=_
 rfl
theorem adw:Fz False Tryz.prog P0 where
 mixed:=mixed
 fns f fn h:=adT (f,fn) (wZ h)
 intr f h hh:=by
  have:=wZ (l:=EN) hh
  simp only [EN,List.mem_cons,List.not_mem_nil,or_false,Prod.mk.injEq] at this
  rcases this with ⟨rfl,rfl⟩|⟨rfl,rfl⟩|⟨rfl,rfl⟩|⟨rfl,rfl⟩|⟨rfl,rfl⟩|⟨rfl,rfl⟩
  ·exact (abZ).lift
  ·exact (ab1 Xr).lift
  ·exact (aap).lift
  ·exact (ab3).lift
  ·exact aao
  ·exact Xa
 hi f k hh:=by
  have:=wZ (l:=PD) hh
  simp only [PD,List.mem_cons,List.not_mem_nil,or_false,Prod.mk.injEq] at this
  obtain ⟨rfl,rfl⟩:=this
  exact ⟨rfl,Xb⟩
 intrQ f h hh:=by
  have h0:P0.intrQ f=none:=rfl
  rw [h0] at hh;cases hh
 dfr f d hh:=by
  have:=wZ (l:=JK) hh
  simp only [JK,List.mem_cons,List.not_mem_nil,or_false,Prod.mk.injEq] at this
  obtain ⟨rfl,rfl⟩:=this
  exact ⟨rfl,ab4⟩
theorem WL:Tryz.prog.globalNamed "veilstone/terms.uses"=some 0:=by kernel_rfl
theorem Vs:Tryz.prog.globalNamed "veilstone/terms.needs"=some 1:=by kernel_rfl
theorem Vk:Tryz.prog.globalNamed "internal/strconv.uint64pow10"=some 3:=by kernel_rfl
theorem acf {W:World} {laid:List (String×DataW Unit)} {ps:List MemPlace} (h:DataW.LaidVars Tryz.prog W laid ps)
  (h1:("veilstone/terms.needs",Rows.laid_veilstone_terms_needs)∈laid) (h2:("veilstone/terms.uses",Rows.laid_veilstone_terms_uses)∈laid) (h3:("internal/strconv.uint64pow10",Rows.laid_internal_strconv_uint64pow10)∈laid):qF P0.glob (g0 W):=by
 intro k cs hk
 have:=wZ (l:=JD) hk
 simp only [JD,List.mem_cons,List.not_mem_nil,or_false,Prod.mk.injEq] at this
 rcases this with ⟨rfl,rfl⟩|⟨rfl,rfl⟩|⟨rfl,rfl⟩
 ·obtain ⟨ty,fr,hw⟩:=Io (n:=60) (t:=(Tryz.prog.globals[1]?.map (·.type)).getD 0) (vs:=(JE Tryz.prog 60 ((Tryz.prog.globals[1]?.map (·.type)).getD 0) Rows.laid_veilstone_terms_needs).getD []) h h1 Vs (by kernel_rfl) (by kernel_rfl)
  exact Oy hw (by kernel_rfl) (by kernel_rfl)
 ·obtain ⟨ty,fr,hw⟩:=Io (n:=60) (t:=(Tryz.prog.globals[0]?.map (·.type)).getD 0) (vs:=(JE Tryz.prog 60 ((Tryz.prog.globals[0]?.map (·.type)).getD 0) Rows.laid_veilstone_terms_uses).getD []) h h2 WL (by kernel_rfl) (by kernel_rfl)
  exact Oy hw (by kernel_rfl) (by kernel_rfl)
 ·obtain ⟨ty,fr,hw⟩:=Io (n:=60) (t:=(Tryz.prog.globals[3]?.map (·.type)).getD 0) (vs:=(JE Tryz.prog 60 ((Tryz.prog.globals[3]?.map (·.type)).getD 0) Rows.laid_internal_strconv_uint64pow10).getD []) h h3 Vk (by kernel_rfl) (by kernel_rfl)
  exact Oy hw (by kernel_rfl) (by kernel_rfl)
end Go.Ai.Z
