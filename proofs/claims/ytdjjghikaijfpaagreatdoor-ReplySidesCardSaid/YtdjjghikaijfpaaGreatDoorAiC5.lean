/-
 The program's own facts: every function is a faithful copy, the library's functions answer as listed; what the row lists gives the variables.
-/
import Derived.Test.YtdjjghikaijfpaaGreatDoorAiC3
import Derived.Test.YtdjjghikaijfpaaGreatDoorAiC4
import Derived.Test.YtdjjghikaijfpaaGreatDoorAiPZDef
import Derived.Test.YtdjjghikaijfpaaGreatDoorRows
set_option maxRecDepth 100000
set_option linter.unusedSimpArgs false
set_option linter.unusedVariables false
set_option linter.unusedSectionVars false
namespace Go.Ai.Z
open Go.Proofs Go.Proofs.YtdjjghikaijfpaaGreatDoor
set_option maxRecDepth 100000
theorem x9 {α:Type}:∀{l:List (Nat×α)} {k:Nat} {v:α},l.lookup k=some v→(k,v)∈l
 | [],_,_,h=>by simp at h
 | (a,b)::r,k,v,h=>by
  simp only [List.lookup] at h
  split at h
  ·rename_i he;cases h;simp at he;subst he;simp
  ·exact List.mem_cons_of_mem _ (x9 h)
theorem WS:P0.glob 3=some (Lib.pow10Tab.map fun z=>.i .u64 z):=by
 show Nu.lookup 3=_
 rfl
theorem aa4:Jf False Tryz.prog P0 where
 mixed:=mixed
 fns f fn h:=abr (f,fn) (x9 h)
 intr f h hh:=by
  have:=x9 (l:=IY) hh
  simp only [IY,List.mem_cons,List.not_mem_nil,or_false,Prod.mk.injEq] at this
  rcases this with ⟨rfl,rfl⟩|⟨rfl,rfl⟩|⟨rfl,rfl⟩|⟨rfl,rfl⟩|⟨rfl,rfl⟩|⟨rfl,rfl⟩
  ·exact (Z4).lift
  ·exact (Z5 WS).lift
  ·exact (Y5).lift
  ·exact (Z8).lift
  ·exact (UL).lift
  ·exact (Y6).lift
 hi f k hh:=by
  have:=x9 (l:=RH) hh
  simp only [RH,List.mem_cons,List.not_mem_nil,or_false,Prod.mk.injEq] at this
  rcases this with ⟨rfl,rfl⟩|⟨rfl,rfl⟩
  ·exact ⟨rfl,WA⟩
  ·exact ⟨rfl,ZY⟩
 intrQ f h hh:=by
  have h0:P0.intrQ f=none:=rfl
  rw [h0] at hh;cases hh
 dfr f d hh:=by
  have:=x9 (l:=NE) hh
  simp only [NE,List.mem_cons,List.not_mem_nil,or_false,Prod.mk.injEq] at this
  obtain ⟨rfl,rfl⟩:=this
  exact ⟨rfl,XP⟩
theorem Wh:Tryz.prog.globalNamed "veilstone/terms.uses"=some 2:=by kernel_rfl
theorem Vx:Tryz.prog.globalNamed "veilstone/terms.needs"=some 4:=by kernel_rfl
theorem U9:Tryz.prog.globalNamed "veilstone/reply.words"=some 0:=by kernel_rfl
theorem Vs:Tryz.prog.globalNamed "internal/strconv.uint64pow10"=some 3:=by kernel_rfl
theorem aaf {W:World} {laid:List (String×DataW Unit)} {ps:List MemPlace} (h:DataW.LaidVars Tryz.prog W laid ps)
  (h1:("veilstone/terms.needs",Rows.laid_veilstone_terms_needs)∈laid) (h2:("veilstone/terms.uses",Rows.laid_veilstone_terms_uses)∈laid) (h3:("internal/strconv.uint64pow10",Rows.laid_internal_strconv_uint64pow10)∈laid) (h4:("veilstone/reply.words",Rows.laid_veilstone_reply_words)∈laid):pR P0.glob (g0 W):=by
 intro k cs hk
 have:=x9 (l:=Nu) hk
 simp only [Nu,List.mem_cons,List.not_mem_nil,or_false,Prod.mk.injEq] at this
 rcases this with ⟨rfl,rfl⟩|⟨rfl,rfl⟩|⟨rfl,rfl⟩|⟨rfl,rfl⟩
 ·obtain ⟨ty,fr,hw⟩:=Fv (n:=60) (t:=(Tryz.prog.globals[4]?.map (·.type)).getD 0) (vs:=(Kw Tryz.prog 60 ((Tryz.prog.globals[4]?.map (·.type)).getD 0) Rows.laid_veilstone_terms_needs).getD []) h h1 Vx (by kernel_rfl) (by kernel_rfl)
  exact MH hw (by kernel_rfl) (by kernel_rfl)
 ·obtain ⟨ty,fr,hw⟩:=Fv (n:=60) (t:=(Tryz.prog.globals[2]?.map (·.type)).getD 0) (vs:=(Kw Tryz.prog 60 ((Tryz.prog.globals[2]?.map (·.type)).getD 0) Rows.laid_veilstone_terms_uses).getD []) h h2 Wh (by kernel_rfl) (by kernel_rfl)
  exact MH hw (by kernel_rfl) (by kernel_rfl)
 ·obtain ⟨ty,fr,hw⟩:=Fv (n:=60) (t:=(Tryz.prog.globals[3]?.map (·.type)).getD 0) (vs:=(Kw Tryz.prog 60 ((Tryz.prog.globals[3]?.map (·.type)).getD 0) Rows.laid_internal_strconv_uint64pow10).getD []) h h3 Vs (by kernel_rfl) (by kernel_rfl)
  exact MH hw (by kernel_rfl) (by kernel_rfl)
 ·obtain ⟨ty,fr,hw⟩:=Fv (n:=60) (t:=(Tryz.prog.globals[0]?.map (·.type)).getD 0) (vs:=(Kw Tryz.prog 60 ((Tryz.prog.globals[0]?.map (·.type)).getD 0) Rows.laid_veilstone_reply_words).getD []) h h4 U9 (by kernel_rfl) (by kernel_rfl)
  exact MH hw (by kernel_rfl) (by kernel_rfl)
end Go.Ai.Z
