/-
  veilstonelaw06.RolesChecks returns true for all arguments, and the arguments read behind the call as before it: for all arguments that can be read as data.
-/
import Derived.Test.YtomjajnlomdhpaaGreatDoorAiC5
import Derived.Test.YtomjajnlomdhpaaGreatDoorAiB2
import Derived.Test.YtomjajnlomdhpaaGreatDoorAiTop4Top5
import Derived.Test.YtomjajnlomdhpaaGreatDoorAiR4R5R6
import Derived.Test.YtomjajnlomdhpaaGreatDoorAiR55R56R57
import Derived.Test.YtomjajnlomdhpaaGreatDoorCards
import Derived.Test.YtomjajnlomdhpaaGreatDoorTie
import Derived.WalkKit
import Derived.ProofKit
import Derived.OpenShut
import Derived.Deep.DeepHandedRow
import Derived.Lib.LaidTab
set_option maxRecDepth 100000
set_option linter.unusedSimpArgs false
set_option linter.unusedVariables false
namespace Go.Proofs.YtomjajnlomdhpaaGreatDoor
open Go.ChangeShapes Go.WideShapes Go.ChangeAt Go.RowKit Go.Ai Go.Ai.Z
theorem aty : ATy Tryz.prog 27 35 24 22 3 9 4 25 where
  uT := ⟨_, _, _, _, _, Tryz.underlying24, ⟨rfl, rfl⟩, ⟨rfl, rfl⟩, ⟨rfl, rfl⟩, ⟨rfl, rfl⟩, ⟨rfl, rfl⟩⟩
  uS := Tryz.underlying22
  uI := Tryz.underlying3
  uZ := Tryz.underlying9
  cT := by kernel_rfl
  cS := by kernel_rfl
  cI := by kernel_rfl
  cZ := by kernel_rfl
  bT := of_decide_eq_true (by kernel_rfl)
  uA := ⟨_, _, _, _, _, _, _, _, Tryz.underlying27, ⟨rfl, rfl⟩, ⟨rfl, rfl⟩, ⟨rfl, rfl⟩, ⟨rfl, rfl⟩, ⟨rfl, rfl⟩, ⟨rfl, rfl⟩, ⟨rfl, rfl⟩, ⟨rfl, rfl⟩⟩
  uL := Tryz.underlying35
  uB := Tryz.underlying4
  uR := Tryz.underlying25
  cA := by kernel_rfl
  cB := by kernel_rfl
  cR := by kernel_rfl
  bA := of_decide_eq_true (by kernel_rfl)
  bZ := of_decide_eq_true (by kernel_rfl)
theorem own : ownKnob Tryz.prog.godebug = none := by kernel_rfl
theorem laidOut : laidOutB Tryz.prog = true := by kernel_rfl
theorem globs {W : World} (h : laidMetH Tryz.prog Rows.rolesChecksRow.laid W) : GlobRel P0.glob (g0 W) := by
  have h' : laidMet Tryz.prog Rows.rolesChecksRow.laid W := h
  obtain ⟨ps, hl, _⟩ := h'
  exact globRel hl (by simp [Rows.rolesChecksRow]) (by simp [Rows.rolesChecksRow])
theorem contract (H : Type) (enc : TypeId × Value → H) (W : World) (base : Nat) (args : Array Value) (ds gs : List (DataW H)) (before : List MemPlace)
    (hval : ∀ (j : Nat) t v, Tryz.f4.params[j]? = some t → args[j]? = some v → Value.okWide Tryz.prog W .any base t v)
    (hW : DataW.Whole enc Tryz.prog Tryz.f4.params.toList Rows.rolesChecksSpec.vars false W args.toList ds gs before)
    (hwt : (DataW.weightsEach Tryz.prog (Tryz.f4.params.toList ++ Rows.rolesChecksSpec.plain.varTypes Tryz.prog) (ds ++ gs)).all (· ≤ reachBytes) = true)
    (hL : laidMetH Tryz.prog Rows.rolesChecksRow.laid W) :
    Calls Tryz.prog 4 args W fun e W' => ∃ v, e = .returned v ∧ Rows.rolesChecksSpec.post enc Tryz.prog Tryz.f4 false true false false W args v W' := by
  have hW' := hW
  obtain ⟨p, q, hA0, hV, rfl, hfz, hnd⟩ := hW
  have hA : DataW.TrodAll enc Tryz.prog W 0 (fun _ => true) true Tryz.f4.params.toList args.toList ds p := hA0
  rw [Tryz.params4] at hA hval hwt
  obtain ⟨v0, vs0, d0, ds0, p0, q0, hargs, rfl, rfl, t0, r0⟩ := trodAll_cons hA
  obtain ⟨rfl, rfl, rfl⟩ := trodAll_nil r0
  obtain rfl : args = #[v0] := by cases args; simp_all
  obtain ⟨hl0, hw0⟩ := light_head hwt
  obtain ⟨x0, n0, h0, e0⟩ := rep_axioms aty (hval 0 35 v0 rfl rfl) t0 hl0
  have hlaw := c_checks_law false x0 n0 h0 (acall_le P0 400 _ _ _ _ _ sane_n (by simp)) ⟨0, 0⟩
  refine (top progOK rfl rfl hlaw (.cons e0 (.nil _ _)) (globs hL)).mono fun e W' he => ?_
  obtain ⟨rfl, hk, hold⟩ := he
  obtain ⟨rfl, rfl⟩ := trodVars_none hV
  refine ⟨_, rfl, post_true (B := 4) laidOut (by rw [Tryz.params4]; intro t ht; simp at ht; subst ht; exact ⟨by kernel_rfl, of_decide_eq_true (by kernel_rfl)⟩) hW' rfl rfl (by kernel_rfl) Tryz.underlying4 hk hold⟩
noncomputable def lay1 (k : Nat) (cs : Array Value) (h : Array Obj) : Array Obj := h.modify k fun
  | .cells _ u frozen => .cells cs u frozen
  | o => o
def cells0 : Array Value := #[.bool false, .bool false, .bool false, .bool false, .bool false, .int .i64 0, .int .i64 0, .bool true, .bool true, .bool false, .bool false, .bool false, .int .i64 0, .int .i64 0, .bool true, .bool true, .bool false, .bool false, .bool false, .int .i64 0, .int .i64 0, .bool true, .bool true, .bool false, .bool false, .bool false, .int .i64 0, .int .i64 0, .bool false, .bool true, .bool true, .bool false, .bool false, .int .i64 0, .int .i64 0, .bool false, .bool false, .bool true, .bool false, .bool false, .int .i64 1, .int .i64 1, .bool false, .bool false, .bool true, .bool false, .bool false, .int .i64 2, .int .i64 4, .bool false, .bool false, .bool true, .bool false, .bool false, .int .i64 0, .int .i64 0, .bool false, .bool true, .bool false, .bool true, .bool false, .int .i64 0, .int .i64 0, .bool false, .bool false, .bool true, .bool true, .bool true, .int .i64 0, .int .i64 0]
def cells2 : Array Value := #[.int .i64 0, .int .i64 0, .int .i64 0, .bool false, .int .i64 0, .int .i64 0, .int .i64 0, .bool false, .int .i64 0, .int .i64 0, .int .i64 0, .bool false, .int .i64 1, .int .i64 0, .int .i64 0, .bool false, .int .i64 2, .int .i64 0, .int .i64 0, .bool false, .int .i64 0, .int .i64 2, .int .i64 8, .bool false, .int .i64 1, .int .i64 1, .int .i64 1, .bool false, .int .i64 1, .int .i64 0, .int .i64 0, .bool true]
noncomputable def laidWorld (os : Os) : World :=
  { World.holding Tryz.prog os ⟨#[], #[], []⟩ with heap := (lay1 2 cells2 (lay1 0 cells0 (World.holding Tryz.prog os ⟨#[], #[], []⟩).heap)) }
def arg0 : Value := .slice none 0 0
set_option maxRecDepth 100000 in
theorem laid_met (os : Os) : laidMet Tryz.prog Rows.rolesChecksRow.laid ((laidWorld os).forCall (fun _ _ => 0) ⟨#[], #[arg0], []⟩).memory :=
  laidMet_of_run' 8 (by kernel_rfl) (by kernel_rfl)
set_option maxRecDepth 100000 in
theorem reads (os : Os) {H : Type} (enc : TypeId × Value → H) : ∃ places, DataW.whole enc Tryz.prog ((laidWorld os).forCall (fun _ _ => 0) ⟨#[], #[arg0], []⟩).memory Tryz.f4.params.toList Rows.rolesChecksSpec.vars false #[arg0].toList 8 =
    some ([.nil], [], places) :=
  ⟨[], by kernel_rfl⟩
set_option maxRecDepth 100000 in
theorem lifted (os : Os) (started : os.Started) (H : Type) (enc : TypeId × Value → H) (F : Stop.Interp) :
    ReturnsInHanded {} Tryz.checked os 4 .any ((OpenSpec.ofChange Rows.rolesChecksSpec).preRow enc Tryz.prog Tryz.f4 Rows.rolesChecksRow.domain false Rows.rolesChecksRow.laid) (((OpenSpec.ofChange Rows.rolesChecksSpec).at F).post enc Tryz.prog Tryz.f4 false true false false) := by
  obtain ⟨places, hx⟩ := reads os enc
  refine returnsInHanded_of_row (C := Tryz.checked) (s := OpenSpec.ofChange Rows.rolesChecksSpec) own started (by kernel_rfl) Tryz.func4
    (witness_row_at (enc := enc) (C := Tryz.checked) false (laidWorld os) #[arg0] rfl (by kernel_rfl) (by kernel_rfl) (by kernel_rfl)
      (OpenSpec.preRow_of_cond 8 hx (by kernel_rfl) (fun k hk => by cases hk) (by kernel_rfl) (laid_met os))) ?_
  intro W base args ds gs before hval hW _ _ hwt hL _ _
  exact contract H enc W base args ds gs before hval hW hwt hL
set_option maxRecDepth 100000 in
theorem said : Rows.RolesChecksSaid :=
  OpenClaim.holds_of_cond 4 Tryz.f4 rfl rfl rfl rfl rfl rfl rfl ⟨rfl, rfl, rfl, rfl, rfl⟩ rfl rfl rfl rfl rfl (by kernel_rfl) Tryz.func4 (by kernel_rfl)
    (of_decide_eq_true (by kernel_rfl)) (by unfold Func.isWrapper; first | (rw [if_pos (by decide +kernel)]; kernel_rfl) | (rw [if_neg (by decide +kernel)]; exact ⟨rfl, rfl⟩))
    (fun os started H enc _ F => by rw [OpenClaim.pre_eq_preRow]; exact lifted os started H enc F)
theorem plain (f : FuncId) (fn : Func) (hf : Tryz.pinned.checked.prog.funcNamed "veilstone/veilstonelaw06.RolesChecks" = some f) (hfn : Tryz.pinned.checked.prog.funcs[f]? = some fn) :
    false = Tryz.pinned.checked.prog.looks [] ∧ ∀ (j : Nat) t, fn.params[j]? = some t → Tryz.pinned.checked.prog.wantsStandIn t = false := by
  obtain rfl : f = 4 := Option.some.inj ((show Tryz.prog.funcNamed "veilstone/veilstonelaw06.RolesChecks" = some 4 by kernel_rfl).symm.trans hf) |>.symm
  obtain rfl : fn = Tryz.f4 := (Option.some.inj (Tryz.func4.symm.trans hfn)).symm
  refine ⟨by kernel_rfl, fun j t ht => ?_⟩
  rw [Tryz.params4] at ht
  obtain rfl : t = 35 := by simpa using Array.mem_of_getElem? ht
  exact (show Tryz.prog.wantsStandIn 35 = false by kernel_rfl)
theorem rolesChecks_card : Rows.RolesChecksCardSaid :=
  Claim7.holds_tied_plain_at .later [] _ _ _ _ said (fun _ h => by cases h) (by kernel_rfl) (fun _ h => by cases h) rolesChecks_row_tie rfl ⟨rfl, rfl⟩ (by kernel_rfl) rfl plain (by kernel_rfl)
#print axioms rolesChecks_card
end Go.Proofs.YtomjajnlomdhpaaGreatDoor
