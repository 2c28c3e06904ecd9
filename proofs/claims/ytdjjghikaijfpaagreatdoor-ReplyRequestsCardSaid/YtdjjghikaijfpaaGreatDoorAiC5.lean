/-
 The program's own facts: every function is a faithful copy, the library's functions answer as listed; what the row lists gives the variables.
-/
import Derived.Test.YtdjjghikaijfpaaGreatDoorAiC3
import Derived.Test.YtdjjghikaijfpaaGreatDoorAiC4
import Derived.Test.YtdjjghikaijfpaaGreatDoorAiPZDef
import Derived.Test.YtdjjghikaijfpaaGreatDoorRows
set_option maxRecDepth 100000
set_option linter.unusedSimpArgs false
set_option linter.unusedVariables false
set_option linter.unusedSectionVars false
namespace Go.Ai.Z
open Go.Proofs Go.Proofs.YtdjjghikaijfpaaGreatDoor
set_option maxRecDepth 100000
theorem yO {α:Type}:∀{l:List (Nat×α)} {k:Nat} {v:α},l.lookup k=some v→(k,v)∈l
 | [],_,_,h=>by simp at h
 | (a,b)::r,k,v,h=>by
  simp only [List.lookup] at h
  split at h
  ·rename_i he;cases h;simp at he;subst he;simp
  ·exact List.mem_cons_of_mem _ (yO h)
theorem aaI:P0.glob 3=some (Lib.pow10Tab.map fun z=>.i .u64 z):=by
 show MX.lookup 3=_
 rfl
theorem ah1:I7 False Tryz.prog P0 where
 mixed:=mixed
 fns f fn h:=aiJ (f,fn) (yO h)
 intr f h hh:=by
  have:=yO (l:=Ia) hh
  simp only [Ia,List.mem_cons,List.not_mem_nil,or_false,Prod.mk.injEq] at this
  rcases this with ⟨rfl,rfl⟩|⟨rfl,rfl⟩|⟨rfl,rfl⟩|⟨rfl,rfl⟩|⟨rfl,rfl⟩|⟨rfl,rfl⟩
  ·exact (agc).lift
  ·exact (agd aaI).lift
  ·exact (aeG).lift
  ·exact (agh).lift
  ·exact (Xv).lift
  ·exact (aeH).lift
 hi f k hh:=by
  have:=yO (l:=Uk) hh
  simp only [Uk,List.mem_cons,List.not_mem_nil,or_false,Prod.mk.injEq] at this
  rcases this with ⟨rfl,rfl⟩|⟨rfl,rfl⟩
  ·exact ⟨rfl,aax⟩
  ·exact ⟨rfl,agb⟩
 intrQ f h hh:=by
  have h0:P0.intrQ f=none:=rfl
  rw [h0] at hh;cases hh
 dfr f d hh:=by
  have:=yO (l:=Nq) hh
  simp only [Nq,List.mem_cons,List.not_mem_nil,or_false,Prod.mk.injEq] at this
  obtain ⟨rfl,rfl⟩:=this
  exact ⟨rfl,acA⟩
theorem Z9:Tryz.prog.globalNamed "veilstone/terms.uses"=some 2:=by kernel_rfl
theorem YJ:Tryz.prog.globalNamed "veilstone/terms.needs"=some 4:=by kernel_rfl
theorem Yg:Tryz.prog.globalNamed "veilstone/reply.words"=some 0:=by kernel_rfl
theorem YG:Tryz.prog.globalNamed "internal/strconv.uint64pow10"=some 3:=by kernel_rfl
theorem agw {W:World} {laid:List (String×DataW Unit)} {ps:List MemPlace} (h:DataW.LaidVars Tryz.prog W laid ps)
  (h1:("veilstone/terms.needs",Rows.laid_veilstone_terms_needs)∈laid) (h2:("veilstone/terms.uses",Rows.laid_veilstone_terms_uses)∈laid) (h3:("internal/strconv.uint64pow10",Rows.laid_internal_strconv_uint64pow10)∈laid) (h4:("veilstone/reply.words",Rows.laid_veilstone_reply_words)∈laid):sZ P0.glob (g0 W):=by
 intro k cs hk
 have:=yO (l:=MX) hk
 simp only [MX,List.mem_cons,List.not_mem_nil,or_false,Prod.mk.injEq] at this
 rcases this with ⟨rfl,rfl⟩|⟨rfl,rfl⟩|⟨rfl,rfl⟩|⟨rfl,rfl⟩
 ·obtain ⟨ty,fr,hw⟩:=E5 (n:=60) (t:=(Tryz.prog.globals[4]?.map (·.type)).getD 0) (vs:=(J9 Tryz.prog 60 ((Tryz.prog.globals[4]?.map (·.type)).getD 0) Rows.laid_veilstone_terms_needs).getD []) h h1 YJ (by kernel_rfl) (by kernel_rfl)
  exact L6 hw (by kernel_rfl) (by kernel_rfl)
 ·obtain ⟨ty,fr,hw⟩:=E5 (n:=60) (t:=(Tryz.prog.globals[2]?.map (·.type)).getD 0) (vs:=(J9 Tryz.prog 60 ((Tryz.prog.globals[2]?.map (·.type)).getD 0) Rows.laid_veilstone_terms_uses).getD []) h h2 Z9 (by kernel_rfl) (by kernel_rfl)
  exact L6 hw (by kernel_rfl) (by kernel_rfl)
 ·obtain ⟨ty,fr,hw⟩:=E5 (n:=60) (t:=(Tryz.prog.globals[3]?.map (·.type)).getD 0) (vs:=(J9 Tryz.prog 60 ((Tryz.prog.globals[3]?.map (·.type)).getD 0) Rows.laid_internal_strconv_uint64pow10).getD []) h h3 YG (by kernel_rfl) (by kernel_rfl)
  exact L6 hw (by kernel_rfl) (by kernel_rfl)
 ·obtain ⟨ty,fr,hw⟩:=E5 (n:=60) (t:=(Tryz.prog.globals[0]?.map (·.type)).getD 0) (vs:=(J9 Tryz.prog 60 ((Tryz.prog.globals[0]?.map (·.type)).getD 0) Rows.laid_veilstone_reply_words).getD []) h h4 Yg (by kernel_rfl) (by kernel_rfl)
  exact L6 hw (by kernel_rfl) (by kernel_rfl)
end Go.Ai.Z
