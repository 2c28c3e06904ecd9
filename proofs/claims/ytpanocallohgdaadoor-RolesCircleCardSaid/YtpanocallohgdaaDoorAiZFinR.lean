/-
 veilstonelaw06.RolesCircle returns true for all arguments, and the arguments read behind the call as before it: for all arguments that can be read as data.
-/
import Derived.Test.YtpanocallohgdaaDoorAiC5
import Derived.Test.YtpanocallohgdaaDoorAiB2
import Derived.Test.YtpanocallohgdaaDoorAiTop4Top5
import Derived.Test.YtpanocallohgdaaDoorAiR4R5R6
import Derived.Test.YtpanocallohgdaaDoorAiR68R69
import Derived.Test.YtpanocallohgdaaDoorCards
import Derived.Test.YtpanocallohgdaaDoorTie
import Derived.WalkKit
import Derived.ProofKit
import Derived.OpenShut
import Derived.Deep.DeepHandedRow
import Derived.Lib.LaidTab
set_option maxRecDepth 100000
set_option linter.unusedSimpArgs false
set_option linter.unusedVariables false
namespace Go.Proofs.YtpanocallohgdaaDoor
open Go.ChangeShapes Go.WideShapes Go.ChangeAt Go.RowKit Go.Ai Go.Ai.Z
theorem aty : ATy Tryd.prog 43 22 41 39 3 9 4 25 where
 uT := ⟨_, _, _, _, _, Tryd.underlying41, ⟨rfl, rfl⟩, ⟨rfl, rfl⟩, ⟨rfl, rfl⟩, ⟨rfl, rfl⟩, ⟨rfl, rfl⟩⟩
 uS := Tryd.underlying39
 uI := Tryd.underlying3
 uZ := Tryd.underlying9
 cT := by kernel_rfl
 cS := by kernel_rfl
 cI := by kernel_rfl
 cZ := by kernel_rfl
 bT := of_decide_eq_true (by kernel_rfl)
 uA := ⟨_, _, _, _, _, _, _, _, Tryd.underlying43, ⟨rfl, rfl⟩, ⟨rfl, rfl⟩, ⟨rfl, rfl⟩, ⟨rfl, rfl⟩, ⟨rfl, rfl⟩, ⟨rfl, rfl⟩, ⟨rfl, rfl⟩, ⟨rfl, rfl⟩⟩
 uL := Tryd.underlying22
 uB := Tryd.underlying4
 uR := Tryd.underlying25
 cA := by kernel_rfl
 cB := by kernel_rfl
 cR := by kernel_rfl
 bA := of_decide_eq_true (by kernel_rfl)
 bZ := of_decide_eq_true (by kernel_rfl)
theorem own : ownKnob Tryd.prog.godebug = none := by kernel_rfl
theorem laidOut : laidOutB Tryd.prog = true := by kernel_rfl
theorem globs {W : World} (h : laidMetH Tryd.prog Rows.rolesCircleRow.laid W) : GlobRel P0.glob (g0 W) := by
 have h' : laidMet Tryd.prog Rows.rolesCircleRow.laid W := h
 obtain ⟨ps, hl, _⟩ := h'
 exact globRel hl (by simp [Rows.rolesCircleRow]) (by simp [Rows.rolesCircleRow])
theorem contract (H : Type) (enc : TypeId × Value → H) (W : World) (base : Nat) (args : Array Value) (ds gs : List (DataW H)) (before : List MemPlace)
  (hval : ∀ (j : Nat) t v, Tryd.f3.params[j]? = some t → args[j]? = some v → Value.okWide Tryd.prog W .any base t v)
  (hW : DataW.Whole enc Tryd.prog Tryd.f3.params.toList Rows.rolesCircleSpec.vars false W args.toList ds gs before)
  (hwt : (DataW.weightsEach Tryd.prog (Tryd.f3.params.toList ++ Rows.rolesCircleSpec.plain.varTypes Tryd.prog) (ds ++ gs)).all (· ≤ reachBytes) = true)
  (hL : laidMetH Tryd.prog Rows.rolesCircleRow.laid W) :
  Calls Tryd.prog 3 args W fun e W' => ∃ v, e = .returned v ∧ Rows.rolesCircleSpec.post enc Tryd.prog Tryd.f3 false true false false W args v W' := by
 have hW' := hW
 obtain ⟨p, q, hA0, hV, rfl, hfz, hnd⟩ := hW
 have hA : DataW.TrodAll enc Tryd.prog W 0 (fun _ => true) true Tryd.f3.params.toList args.toList ds p := hA0
 rw [Tryd.params3] at hA hval hwt
 obtain ⟨v0, vs0, d0, ds0, p0, q0, hargs, rfl, rfl, t0, r0⟩ := trodAll_cons hA
 obtain ⟨rfl, rfl, rfl⟩ := trodAll_nil r0
 obtain rfl : args = #[v0] := by cases args; simp_all
 obtain ⟨hl0, hw0⟩ := light_head hwt
 obtain ⟨x0, n0, h0, e0⟩ := rep_axioms aty (hval 0 22 v0 rfl rfl) t0 hl0
 have hlaw := c_circle_law false x0 n0 h0 (acall_le P0 400 _ _ _ _ _ sane_n (by simp)) ⟨0, 0⟩
 refine (top progOK rfl rfl hlaw (.cons e0 (.nil _ _)) (globs hL)).mono fun e W' he => ?_
 obtain ⟨rfl, hk, hold⟩ := he
 obtain ⟨rfl, rfl⟩ := trodVars_none hV
 refine ⟨_, rfl, post_true (B := 4) laidOut (by rw [Tryd.params3]; intro t ht; simp at ht; subst ht; exact ⟨by kernel_rfl, of_decide_eq_true (by kernel_rfl)⟩) hW' rfl rfl (by kernel_rfl) Tryd.underlying4 hk hold⟩
noncomputable def lay1 (k : Nat) (cs : Array Value) (h : Array Obj) : Array Obj := h.modify k fun
 | .cells _ u frozen => .cells cs u frozen
 | o => o
def cells0 : Array Value := #[.bool false, .bool false, .bool false, .bool false, .bool false, .int .i64 0, .int .i64 0, .bool true, .bool true, .bool false, .bool false, .bool false, .int .i64 0, .int .i64 0, .bool true, .bool true, .bool false, .bool false, .bool false, .int .i64 0, .int .i64 0, .bool true, .bool true, .bool false, .bool false, .bool false, .int .i64 0, .int .i64 0, .bool false, .bool true, .bool true, .bool false, .bool false, .int .i64 0, .int .i64 0, .bool false, .bool false, .bool true, .bool false, .bool false, .int .i64 1, .int .i64 1, .bool false, .bool false, .bool true, .bool false, .bool false, .int .i64 2, .int .i64 4, .bool false, .bool false, .bool true, .bool false, .bool false, .int .i64 0, .int .i64 0, .bool false, .bool true, .bool false, .bool true, .bool false, .int .i64 0, .int .i64 0, .bool false, .bool false, .bool true, .bool true, .bool true, .int .i64 0, .int .i64 0]
def cells1 : Array Value := #[.int .i64 0, .int .i64 0, .int .i64 0, .bool false, .int .i64 0, .int .i64 0, .int .i64 0, .bool false, .int .i64 0, .int .i64 0, .int .i64 0, .bool false, .int .i64 1, .int .i64 0, .int .i64 0, .bool false, .int .i64 2, .int .i64 0, .int .i64 0, .bool false, .int .i64 0, .int .i64 2, .int .i64 8, .bool false, .int .i64 1, .int .i64 1, .int .i64 1, .bool false, .int .i64 1, .int .i64 0, .int .i64 0, .bool true]
noncomputable def laidWorld (os : Os) : World :=
 { World.holding Tryd.prog os ⟨#[], #[], []⟩ with heap := (lay1 1 cells1 (lay1 0 cells0 (World.holding Tryd.prog os ⟨#[], #[], []⟩).heap)) }
def arg0 : Value := .slice none 0 0
set_option maxRecDepth 100000 in
theorem laid_met (os : Os) : laidMet Tryd.prog Rows.rolesCircleRow.laid ((laidWorld os).forCall (fun _ _ => 0) ⟨#[], #[arg0], []⟩).memory :=
 laidMet_of_run' 8 (by kernel_rfl) (by kernel_rfl)
set_option maxRecDepth 100000 in
theorem reads (os : Os) {H : Type} (enc : TypeId × Value → H) : ∃ places, DataW.whole enc Tryd.prog ((laidWorld os).forCall (fun _ _ => 0) ⟨#[], #[arg0], []⟩).memory Tryd.f3.params.toList Rows.rolesCircleSpec.vars false #[arg0].toList 8 =
  some ([.nil], [], places) :=
 ⟨[], by kernel_rfl⟩
set_option maxRecDepth 100000 in
theorem lifted (os : Os) (started : os.Started) (H : Type) (enc : TypeId × Value → H) (F : Stop.Interp) :
  ReturnsInHanded {} Tryd.checked os 3 .any ((OpenSpec.ofChange Rows.rolesCircleSpec).preRow enc Tryd.prog Tryd.f3 Rows.rolesCircleRow.domain false Rows.rolesCircleRow.laid) (((OpenSpec.ofChange Rows.rolesCircleSpec).at F).post enc Tryd.prog Tryd.f3 false true false false) := by
 obtain ⟨places, hx⟩ := reads os enc
 refine returnsInHanded_of_row (C := Tryd.checked) (s := OpenSpec.ofChange Rows.rolesCircleSpec) own started (by kernel_rfl) Tryd.func3
  (witness_row_at (enc := enc) (C := Tryd.checked) false (laidWorld os) #[arg0] rfl (by kernel_rfl) (by kernel_rfl) (by kernel_rfl)
   (OpenSpec.preRow_of_cond 8 hx (by kernel_rfl) (fun k hk => by cases hk) (by kernel_rfl) (laid_met os))) ?_
 intro W base args ds gs before hval hW _ _ hwt hL _ _
 exact contract H enc W base args ds gs before hval hW hwt hL
set_option maxRecDepth 100000 in
theorem said : Rows.RolesCircleSaid :=
 OpenClaim.holds_of_cond 3 Tryd.f3 rfl rfl rfl rfl rfl rfl rfl ⟨rfl, rfl, rfl, rfl, rfl⟩ rfl rfl rfl rfl rfl (by kernel_rfl) Tryd.func3 (by kernel_rfl)
  (of_decide_eq_true (by kernel_rfl)) (by unfold Func.isWrapper; first | (rw [if_pos (by decide +kernel)]; kernel_rfl) | (rw [if_neg (by decide +kernel)]; exact ⟨rfl, rfl⟩))
  (fun os started H enc _ F => by rw [OpenClaim.pre_eq_preRow]; exact lifted os started H enc F)
theorem plain (f : FuncId) (fn : Func) (hf : Tryd.pinned.checked.prog.funcNamed "veilstone/veilstonelaw06.RolesCircle" = some f) (hfn : Tryd.pinned.checked.prog.funcs[f]? = some fn) :
  false = Tryd.pinned.checked.prog.looks [] ∧ ∀ (j : Nat) t, fn.params[j]? = some t → Tryd.pinned.checked.prog.wantsStandIn t = false := by
 obtain rfl : f = 3 := Option.some.inj ((show Tryd.prog.funcNamed "veilstone/veilstonelaw06.RolesCircle" = some 3 by kernel_rfl).symm.trans hf) |>.symm
 obtain rfl : fn = Tryd.f3 := (Option.some.inj (Tryd.func3.symm.trans hfn)).symm
 refine ⟨by kernel_rfl, fun j t ht => ?_⟩
 rw [Tryd.params3] at ht
 obtain rfl : t = 22 := by simpa using Array.mem_of_getElem? ht
 exact (show Tryd.prog.wantsStandIn 22 = false by kernel_rfl)
theorem rolesCircle_card : Rows.RolesCircleCardSaid :=
 Claim7.holds_tied_plain_at .later [] _ _ _ _ said (fun _ h => by cases h) (by kernel_rfl) (fun _ h => by cases h) rolesCircle_row_tie rfl ⟨rfl, rfl⟩ (by kernel_rfl) rfl plain (by kernel_rfl)
#print axioms rolesCircle_card
end Go.Proofs.YtpanocallohgdaaDoor
