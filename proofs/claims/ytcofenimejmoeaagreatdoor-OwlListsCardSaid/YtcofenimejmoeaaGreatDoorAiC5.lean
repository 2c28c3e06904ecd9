/-
 The program's own facts: every function is a faithful copy, the library's functions answer as listed; what the row lists gives the variables.
-/
import Derived.Test.YtcofenimejmoeaaGreatDoorAiC3
import Derived.Test.YtcofenimejmoeaaGreatDoorAiC4
import Derived.Test.YtcofenimejmoeaaGreatDoorAiPZDefO
import Derived.Test.YtcofenimejmoeaaGreatDoorRows
set_option maxRecDepth 100000
set_option linter.unusedSimpArgs false
set_option linter.unusedVariables false
set_option linter.unusedSectionVars false
namespace Go.Ai.Z
open Go.Proofs Go.Proofs.YtcofenimejmoeaaGreatDoor
set_option maxRecDepth 100000
theorem vI {α:Type}:∀{l:List (Nat×α)} {k:Nat} {v:α},l.lookup k=some v→(k,v)∈l
 | [],_,_,h=>by simp at h
 | (a,b)::r,k,v,h=>by
  simp only [List.lookup] at h
  split at h
  ·rename_i he;cases h;simp at he;subst he;simp
  ·exact List.mem_cons_of_mem _ (vI h)
theorem Va:P0.glob 3=some (Lib.pow10Tab.map fun z=>.i .u64 z):=by
 show Hq.lookup 3=_;rfl
theorem acA:Dl False Tryz.prog P0 where
 mixed:=mixed
 fns f fn h:=adl (f,fn) (vI h)
 intr f h hh:=by
  have:=vI (l:=CG) hh
  simp only [CG,List.mem_cons,List.not_mem_nil,or_false,Prod.mk.injEq] at this;rcases this with ⟨rfl,rfl⟩|⟨rfl,rfl⟩|⟨rfl,rfl⟩|⟨rfl,rfl⟩|⟨rfl,rfl⟩|⟨rfl,rfl⟩
  ·exact (aaL).lift
  ·exact (aaM Va).lift
  ·exact (Y2).lift
  ·exact (aaO).lift
  ·exact Y1
  ·exact UQ
 hi f k hh:=by
  have:=vI (l:=Nl) hh
  simp only [Nl,List.mem_cons,List.not_mem_nil,or_false,Prod.mk.injEq] at this;obtain ⟨rfl,rfl⟩:=this;exact ⟨rfl,UR⟩
 intrQ f h hh:=by
  have h0:P0.intrQ f=none:=rfl;rw [h0] at hh;cases hh
 dfr f d hh:=by
  have:=vI (l:=H6) hh
  simp only [H6,List.mem_cons,List.not_mem_nil,or_false,Prod.mk.injEq] at this;obtain ⟨rfl,rfl⟩:=this;exact ⟨rfl,aaP⟩
theorem Uz:Tryz.prog.globalNamed "veilstone/terms.uses"=some 0:=by kernel_rfl
theorem SH:Tryz.prog.globalNamed "veilstone/terms.needs"=some 1:=by kernel_rfl
theorem Sm:Tryz.prog.globalNamed "internal/strconv.uint64pow10"=some 3:=by kernel_rfl
theorem aa5 {W:World} {laid:List (String×DataW Unit)} {ps:List MemPlace} (h:DataW.LaidVars Tryz.prog W laid ps)
  (h1:("veilstone/terms.needs",Rows.laid_veilstone_terms_needs)∈laid) (h2:("veilstone/terms.uses",Rows.laid_veilstone_terms_uses)∈laid) (h3:("internal/strconv.uint64pow10",Rows.laid_internal_strconv_uint64pow10)∈laid):qF P0.glob (g0 W):=by
 intro k cs hk
 have:=vI (l:=Hq) hk
 simp only [Hq,List.mem_cons,List.not_mem_nil,or_false,Prod.mk.injEq] at this;rcases this with ⟨rfl,rfl⟩|⟨rfl,rfl⟩|⟨rfl,rfl⟩
 ·obtain ⟨ty,fr,hw⟩:=Fg (n:=60) (t:=(Tryz.prog.globals[1]?.map (·.type)).getD 0) (vs:=(Hr Tryz.prog 60 ((Tryz.prog.globals[1]?.map (·.type)).getD 0) Rows.laid_veilstone_terms_needs).getD []) h h1 SH (by kernel_rfl) (by kernel_rfl);exact LZ hw (by kernel_rfl) (by kernel_rfl)
 ·obtain ⟨ty,fr,hw⟩:=Fg (n:=60) (t:=(Tryz.prog.globals[0]?.map (·.type)).getD 0) (vs:=(Hr Tryz.prog 60 ((Tryz.prog.globals[0]?.map (·.type)).getD 0) Rows.laid_veilstone_terms_uses).getD []) h h2 Uz (by kernel_rfl) (by kernel_rfl);exact LZ hw (by kernel_rfl) (by kernel_rfl)
 ·obtain ⟨ty,fr,hw⟩:=Fg (n:=60) (t:=(Tryz.prog.globals[3]?.map (·.type)).getD 0) (vs:=(Hr Tryz.prog 60 ((Tryz.prog.globals[3]?.map (·.type)).getD 0) Rows.laid_internal_strconv_uint64pow10).getD []) h h3 Sm (by kernel_rfl) (by kernel_rfl);exact LZ hw (by kernel_rfl) (by kernel_rfl)
end Go.Ai.Z
