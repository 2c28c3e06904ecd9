/-
 The program's own facts: every function is a faithful copy, the library's functions answer as listed; what the row lists gives the variables.
-/
import Derived.Test.YtdjjghikaijfpaaGreatDoorAiC3
import Derived.Test.YtdjjghikaijfpaaGreatDoorAiC4
import Derived.Test.YtdjjghikaijfpaaGreatDoorAiPZDef
import Derived.Test.YtdjjghikaijfpaaGreatDoorRows
set_option maxRecDepth 100000
set_option linter.unusedSimpArgs false
set_option linter.unusedVariables false
set_option linter.unusedSectionVars false
namespace Go.Ai.Z
open Go.Proofs Go.Proofs.YtdjjghikaijfpaaGreatDoor
set_option maxRecDepth 100000
theorem yj {α:Type}:∀{l:List (Nat×α)} {k:Nat} {v:α},l.lookup k=some v→(k,v)∈l
 | [],_,_,h=>by simp at h
 | (a,b)::r,k,v,h=>by
  simp only [List.lookup] at h
  split at h
  ·rename_i he;cases h;simp at he;subst he;simp
  ·exact List.mem_cons_of_mem _ (yj h)
theorem WZ:P0.glob 3=some (Lib.pow10Tab.map fun z=>.i .u64 z):=by
 show Nz.lookup 3=_
 rfl
theorem abg:Jl False Tryz.prog P0 where
 mixed:=mixed
 fns f fn h:=abC (f,fn) (yj h)
 intr f h hh:=by
  have:=yj (l:=I9) hh
  simp only [I9,List.mem_cons,List.not_mem_nil,or_false,Prod.mk.injEq] at this
  rcases this with ⟨rfl,rfl⟩|⟨rfl,rfl⟩|⟨rfl,rfl⟩|⟨rfl,rfl⟩|⟨rfl,rfl⟩|⟨rfl,rfl⟩
  ·exact (aai).lift
  ·exact (aaj WZ).lift
  ·exact (Zd).lift
  ·exact (aal).lift
  ·exact (UX).lift
  ·exact (Ze).lift
 hi f k hh:=by
  have:=yj (l:=RU) hh
  simp only [RU,List.mem_cons,List.not_mem_nil,or_false,Prod.mk.injEq] at this
  rcases this with ⟨rfl,rfl⟩|⟨rfl,rfl⟩
  ·exact ⟨rfl,WL⟩
  ·exact ⟨rfl,aah⟩
 intrQ f h hh:=by
  have h0:P0.intrQ f=none:=rfl
  rw [h0] at hh;cases hh
 dfr f d hh:=by
  have:=yj (l:=NJ) hh
  simp only [NJ,List.mem_cons,List.not_mem_nil,or_false,Prod.mk.injEq] at this
  obtain ⟨rfl,rfl⟩:=this
  exact ⟨rfl,XZ⟩
theorem Wu:Tryz.prog.globalNamed "veilstone/terms.uses"=some 2:=by kernel_rfl
theorem VF:Tryz.prog.globalNamed "veilstone/terms.needs"=some 4:=by kernel_rfl
theorem Vh:Tryz.prog.globalNamed "veilstone/reply.words"=some 0:=by kernel_rfl
theorem VA:Tryz.prog.globalNamed "internal/strconv.uint64pow10"=some 3:=by kernel_rfl
theorem aaq {W:World} {laid:List (String×DataW Unit)} {ps:List MemPlace} (h:DataW.LaidVars Tryz.prog W laid ps)
  (h1:("veilstone/terms.needs",Rows.laid_veilstone_terms_needs)∈laid) (h2:("veilstone/terms.uses",Rows.laid_veilstone_terms_uses)∈laid) (h3:("internal/strconv.uint64pow10",Rows.laid_internal_strconv_uint64pow10)∈laid) (h4:("veilstone/reply.words",Rows.laid_veilstone_reply_words)∈laid):pR P0.glob (g0 W):=by
 intro k cs hk
 have:=yj (l:=Nz) hk
 simp only [Nz,List.mem_cons,List.not_mem_nil,or_false,Prod.mk.injEq] at this
 rcases this with ⟨rfl,rfl⟩|⟨rfl,rfl⟩|⟨rfl,rfl⟩|⟨rfl,rfl⟩
 ·obtain ⟨ty,fr,hw⟩:=FI (n:=60) (t:=(Tryz.prog.globals[4]?.map (·.type)).getD 0) (vs:=(KC Tryz.prog 60 ((Tryz.prog.globals[4]?.map (·.type)).getD 0) Rows.laid_veilstone_terms_needs).getD []) h h1 VF (by kernel_rfl) (by kernel_rfl)
  exact ML hw (by kernel_rfl) (by kernel_rfl)
 ·obtain ⟨ty,fr,hw⟩:=FI (n:=60) (t:=(Tryz.prog.globals[2]?.map (·.type)).getD 0) (vs:=(KC Tryz.prog 60 ((Tryz.prog.globals[2]?.map (·.type)).getD 0) Rows.laid_veilstone_terms_uses).getD []) h h2 Wu (by kernel_rfl) (by kernel_rfl)
  exact ML hw (by kernel_rfl) (by kernel_rfl)
 ·obtain ⟨ty,fr,hw⟩:=FI (n:=60) (t:=(Tryz.prog.globals[3]?.map (·.type)).getD 0) (vs:=(KC Tryz.prog 60 ((Tryz.prog.globals[3]?.map (·.type)).getD 0) Rows.laid_internal_strconv_uint64pow10).getD []) h h3 VA (by kernel_rfl) (by kernel_rfl)
  exact ML hw (by kernel_rfl) (by kernel_rfl)
 ·obtain ⟨ty,fr,hw⟩:=FI (n:=60) (t:=(Tryz.prog.globals[0]?.map (·.type)).getD 0) (vs:=(KC Tryz.prog 60 ((Tryz.prog.globals[0]?.map (·.type)).getD 0) Rows.laid_veilstone_reply_words).getD []) h h4 Vh (by kernel_rfl) (by kernel_rfl)
  exact ML hw (by kernel_rfl) (by kernel_rfl)
end Go.Ai.Z
