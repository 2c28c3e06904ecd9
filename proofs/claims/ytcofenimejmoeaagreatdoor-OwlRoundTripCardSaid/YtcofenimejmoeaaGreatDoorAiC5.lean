/-
 The program's own facts: every function is a faithful copy, the library's functions answer as listed; what the row lists gives the variables.
-/
import Derived.Test.YtcofenimejmoeaaGreatDoorAiC3
import Derived.Test.YtcofenimejmoeaaGreatDoorAiC4
import Derived.Test.YtcofenimejmoeaaGreatDoorAiPZDefO
import Derived.Test.YtcofenimejmoeaaGreatDoorRows
set_option maxRecDepth 100000
set_option linter.unusedSimpArgs false
set_option linter.unusedVariables false
set_option linter.unusedSectionVars false
namespace Go.Ai.Z
open Go.Proofs Go.Proofs.YtcofenimejmoeaaGreatDoor
set_option maxRecDepth 100000
theorem yN {α:Type}:∀{l:List (Nat×α)} {k:Nat} {v:α},l.lookup k=some v→(k,v)∈l
 | [],_,_,h=>by simp at h
 | (a,b)::r,k,v,h=>by
  simp only [List.lookup] at h
  split at h
  ·rename_i he;cases h;simp at he;subst he;simp
  ·exact List.mem_cons_of_mem _ (yN h)
theorem Zn:P0.glob 3=some (Lib.pow10Tab.map fun z=>.i .u64 z):=by
 show Ld.lookup 3=_;rfl
theorem ahF:Gy False Tryz.prog P0 where
 mixed:=mixed
 fns f fn h:=ais (f,fn) (yN h)
 intr f h hh:=by
  have:=yN (l:=FZ) hh
  simp only [FZ,List.mem_cons,List.not_mem_nil,or_false,Prod.mk.injEq] at this;rcases this with ⟨rfl,rfl⟩|⟨rfl,rfl⟩|⟨rfl,rfl⟩|⟨rfl,rfl⟩|⟨rfl,rfl⟩|⟨rfl,rfl⟩
  ·exact (afS).lift
  ·exact (afT Zn).lift
  ·exact (adz).lift
  ·exact (afV).lift
  ·exact ady
  ·exact Y2
 hi f k hh:=by
  have:=yN (l:=Q7) hh
  simp only [Q7,List.mem_cons,List.not_mem_nil,or_false,Prod.mk.injEq] at this;obtain ⟨rfl,rfl⟩:=this;exact ⟨rfl,Y3⟩
 intrQ f h hh:=by
  have h0:P0.intrQ f=none:=rfl;rw [h0] at hh;cases hh
 dfr f d hh:=by
  have:=yN (l:=Lu) hh
  simp only [Lu,List.mem_cons,List.not_mem_nil,or_false,Prod.mk.injEq] at this;obtain ⟨rfl,rfl⟩:=this;exact ⟨rfl,afW⟩
theorem YH:Tryz.prog.globalNamed "veilstone/terms.uses"=some 0:=by kernel_rfl
theorem Xn:Tryz.prog.globalNamed "veilstone/terms.needs"=some 1:=by kernel_rfl
theorem Xh:Tryz.prog.globalNamed "internal/strconv.uint64pow10"=some 3:=by kernel_rfl
theorem aga {W:World} {laid:List (String×DataW Unit)} {ps:List MemPlace} (h:DataW.LaidVars Tryz.prog W laid ps)
  (h1:("veilstone/terms.needs",Rows.laid_veilstone_terms_needs)∈laid) (h2:("veilstone/terms.uses",Rows.laid_veilstone_terms_uses)∈laid) (h3:("internal/strconv.uint64pow10",Rows.laid_internal_strconv_uint64pow10)∈laid):uw P0.glob (g0 W):=by
 intro k cs hk
 have:=yN (l:=Ld) hk
 simp only [Ld,List.mem_cons,List.not_mem_nil,or_false,Prod.mk.injEq] at this;rcases this with ⟨rfl,rfl⟩|⟨rfl,rfl⟩|⟨rfl,rfl⟩
 ·obtain ⟨ty,fr,hw⟩:=Jq (n:=60) (t:=(Tryz.prog.globals[1]?.map (·.type)).getD 0) (vs:=(Le Tryz.prog 60 ((Tryz.prog.globals[1]?.map (·.type)).getD 0) Rows.laid_veilstone_terms_needs).getD []) h h1 Xn (by kernel_rfl) (by kernel_rfl);exact Qn hw (by kernel_rfl) (by kernel_rfl)
 ·obtain ⟨ty,fr,hw⟩:=Jq (n:=60) (t:=(Tryz.prog.globals[0]?.map (·.type)).getD 0) (vs:=(Le Tryz.prog 60 ((Tryz.prog.globals[0]?.map (·.type)).getD 0) Rows.laid_veilstone_terms_uses).getD []) h h2 YH (by kernel_rfl) (by kernel_rfl);exact Qn hw (by kernel_rfl) (by kernel_rfl)
 ·obtain ⟨ty,fr,hw⟩:=Jq (n:=60) (t:=(Tryz.prog.globals[3]?.map (·.type)).getD 0) (vs:=(Le Tryz.prog 60 ((Tryz.prog.globals[3]?.map (·.type)).getD 0) Rows.laid_internal_strconv_uint64pow10).getD []) h h3 Xh (by kernel_rfl) (by kernel_rfl);exact Qn hw (by kernel_rfl) (by kernel_rfl)
end Go.Ai.Z
