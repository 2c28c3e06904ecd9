/-
 veilstonelaw06.RolesClosed returns true for all arguments, and the arguments read behind the call as before it: for all arguments that can be read as data.
-/
import Derived.Test.YtomjajnlomdhpaaDoorAiC5
import Derived.Test.YtomjajnlomdhpaaDoorAiB2
import Derived.Test.YtomjajnlomdhpaaDoorAiTop4Top5
import Derived.Test.YtomjajnlomdhpaaDoorAiR4R5R6
import Derived.Test.YtomjajnlomdhpaaDoorAiRHR65
import Derived.Test.YtomjajnlomdhpaaDoorCards
import Derived.Test.YtomjajnlomdhpaaDoorTie
import Derived.WalkKit
import Derived.ProofKit
import Derived.OpenShut
import Derived.Deep.DeepHandedRow
import Derived.Lib.LaidTab
set_option maxRecDepth 100000
set_option linter.unusedSimpArgs false
set_option linter.unusedVariables false
namespace Go.Proofs.YtomjajnlomdhpaaDoor
open Go.ChangeShapes Go.WideShapes Go.ChangeAt Go.RowKit Go.Ai Go.Ai.Z
theorem aty : ATy Tryd.prog 43 37 24 22 3 9 4 39 where
 uT := ⟨_, _, _, _, _, Tryd.underlying24, ⟨rfl, rfl⟩, ⟨rfl, rfl⟩, ⟨rfl, rfl⟩, ⟨rfl, rfl⟩, ⟨rfl, rfl⟩⟩
 uS := Tryd.underlying22
 uI := Tryd.underlying3
 uZ := Tryd.underlying9
 cT := by kernel_rfl
 cS := by kernel_rfl
 cI := by kernel_rfl
 cZ := by kernel_rfl
 bT := of_decide_eq_true (by kernel_rfl)
 uA := ⟨_, _, _, _, _, _, _, _, Tryd.underlying43, ⟨rfl, rfl⟩, ⟨rfl, rfl⟩, ⟨rfl, rfl⟩, ⟨rfl, rfl⟩, ⟨rfl, rfl⟩, ⟨rfl, rfl⟩, ⟨rfl, rfl⟩, ⟨rfl, rfl⟩⟩
 uL := Tryd.underlying37
 uB := Tryd.underlying4
 uR := Tryd.underlying39
 cA := by kernel_rfl
 cB := by kernel_rfl
 cR := by kernel_rfl
 bA := of_decide_eq_true (by kernel_rfl)
 bZ := of_decide_eq_true (by kernel_rfl)
theorem own : ownKnob Tryd.prog.godebug = none := by kernel_rfl
theorem laidOut : laidOutB Tryd.prog = true := by kernel_rfl
theorem globs {W : World} (h : laidMetH Tryd.prog Rows.rolesClosedRow.laid W) : GlobRel P0.glob (g0 W) := by
 have h' : laidMet Tryd.prog Rows.rolesClosedRow.laid W := h
 obtain ⟨ps, hl, _⟩ := h'
 exact globRel hl (by simp [Rows.rolesClosedRow]) (by simp [Rows.rolesClosedRow])
theorem contract (H : Type) (enc : TypeId × Value → H) (W : World) (base : Nat) (args : Array Value) (ds gs : List (DataW H)) (before : List MemPlace)
  (hval : ∀ (j : Nat) t v, Tryd.f8.params[j]? = some t → args[j]? = some v → Value.okWide Tryd.prog W .any base t v)
  (hW : DataW.Whole enc Tryd.prog Tryd.f8.params.toList Rows.rolesClosedSpec.vars false W args.toList ds gs before)
  (hwt : (DataW.weightsEach Tryd.prog (Tryd.f8.params.toList ++ Rows.rolesClosedSpec.plain.varTypes Tryd.prog) (ds ++ gs)).all (· ≤ reachBytes) = true)
  (hL : laidMetH Tryd.prog Rows.rolesClosedRow.laid W) :
  Calls Tryd.prog 8 args W fun e W' => ∃ v, e = .returned v ∧ Rows.rolesClosedSpec.post enc Tryd.prog Tryd.f8 false true false false W args v W' := by
 have hW' := hW
 obtain ⟨p, q, hA0, hV, rfl, hfz, hnd⟩ := hW
 have hA : DataW.TrodAll enc Tryd.prog W 0 (fun _ => true) true Tryd.f8.params.toList args.toList ds p := hA0
 rw [Tryd.params8] at hA hval hwt
 obtain ⟨v0, vs0, d0, ds0, p0, q0, hargs, rfl, rfl, t0, r0⟩ := trodAll_cons hA
 obtain ⟨v1, vs1, d1, ds1, p1, q1, rfl, rfl, rfl, t1, r1⟩ := trodAll_cons r0
 obtain ⟨v2, vs2, d2, ds2, p2, q2, rfl, rfl, rfl, t2, r2⟩ := trodAll_cons r1
 obtain ⟨v3, vs3, d3, ds3, p3, q3, rfl, rfl, rfl, t3, r3⟩ := trodAll_cons r2
 obtain ⟨v4, vs4, d4, ds4, p4, q4, rfl, rfl, rfl, t4, r4⟩ := trodAll_cons r3
 obtain ⟨rfl, rfl, rfl⟩ := trodAll_nil r4
 obtain rfl : args = #[v0, v1, v2, v3, v4] := by cases args; simp_all
 obtain ⟨hl0, hw0⟩ := light_head hwt
 obtain ⟨hl1, hw1⟩ := light_head hw0
 obtain ⟨hl2, hw2⟩ := light_head hw1
 obtain ⟨hl3, hw3⟩ := light_head hw2
 obtain ⟨hl4, hw4⟩ := light_head hw3
 obtain ⟨x0, n0, h0, e0⟩ := rep_axioms aty (hval 0 37 v0 rfl rfl) t0 hl0
 obtain ⟨x1, n1, h1, e1⟩ := rep_strsT aty (hval 1 39 v1 rfl rfl) t1 hl1
 obtain ⟨x2, h2, e2⟩ := rep_strT Tryd.underlying9 (hval 2 9 v2 rfl rfl) t2 hl2
 obtain ⟨x3, h3, e3⟩ := rep_intT Tryd.underlying3 (hval 3 3 v3 rfl rfl) t3
 obtain ⟨x4, h4, e4⟩ := rep_intT Tryd.underlying3 (hval 4 3 v4 rfl rfl) t4
 have hlaw := c_closed_law false x0 n0 h0 false x1 x2 x3 x4 (acall_le P0 400 _ _ _ _ _ sane_n (by simp)) ⟨0, 0⟩
 refine (top progOK rfl rfl hlaw (.cons e0 (.cons e1 (.cons e2 (.cons e3 (.cons e4 (.nil _ _)))))) (globs hL)).mono fun e W' he => ?_
 obtain ⟨rfl, hk, hold⟩ := he
 obtain ⟨rfl, rfl⟩ := trodVars_none hV
 refine ⟨_, rfl, post_true (B := 4) laidOut (by rw [Tryd.params8]; intro t ht; simp at ht; rcases ht with rfl | rfl | rfl | rfl <;> exact ⟨by kernel_rfl, of_decide_eq_true (by kernel_rfl)⟩) hW' rfl rfl (by kernel_rfl) Tryd.underlying4 hk hold⟩
noncomputable def lay1 (k : Nat) (cs : Array Value) (h : Array Obj) : Array Obj := h.modify k fun
 | .cells _ u frozen => .cells cs u frozen
 | o => o
def cells0 : Array Value := #[.bool false, .bool false, .bool false, .bool false, .bool false, .int .i64 0, .int .i64 0, .bool true, .bool true, .bool false, .bool false, .bool false, .int .i64 0, .int .i64 0, .bool true, .bool true, .bool false, .bool false, .bool false, .int .i64 0, .int .i64 0, .bool true, .bool true, .bool false, .bool false, .bool false, .int .i64 0, .int .i64 0, .bool false, .bool true, .bool true, .bool false, .bool false, .int .i64 0, .int .i64 0, .bool false, .bool false, .bool true, .bool false, .bool false, .int .i64 1, .int .i64 1, .bool false, .bool false, .bool true, .bool false, .bool false, .int .i64 2, .int .i64 4, .bool false, .bool false, .bool true, .bool false, .bool false, .int .i64 0, .int .i64 0, .bool false, .bool true, .bool false, .bool true, .bool false, .int .i64 0, .int .i64 0, .bool false, .bool false, .bool true, .bool true, .bool true, .int .i64 0, .int .i64 0]
def cells1 : Array Value := #[.int .i64 0, .int .i64 0, .int .i64 0, .bool false, .int .i64 0, .int .i64 0, .int .i64 0, .bool false, .int .i64 0, .int .i64 0, .int .i64 0, .bool false, .int .i64 1, .int .i64 0, .int .i64 0, .bool false, .int .i64 2, .int .i64 0, .int .i64 0, .bool false, .int .i64 0, .int .i64 2, .int .i64 8, .bool false, .int .i64 1, .int .i64 1, .int .i64 1, .bool false, .int .i64 1, .int .i64 0, .int .i64 0, .bool true]
noncomputable def laidWorld (os : Os) : World :=
 { World.holding Tryd.prog os ⟨#[], #[], []⟩ with heap := (lay1 1 cells1 (lay1 0 cells0 (World.holding Tryd.prog os ⟨#[], #[], []⟩).heap)) }
def arg0 : Value := .slice none 0 0
def arg1 : Value := .slice none 0 0
def arg2 : Value := .string ⟨#[]⟩
def arg3 : Value := .int .i64 0
def arg4 : Value := .int .i64 0
set_option maxRecDepth 100000 in
theorem laid_met (os : Os) : laidMet Tryd.prog Rows.rolesClosedRow.laid ((laidWorld os).forCall (fun _ _ => 0) ⟨#[], #[arg0, arg1, arg2, arg3, arg4], []⟩).memory :=
 laidMet_of_run' 8 (by kernel_rfl) (by kernel_rfl)
set_option maxRecDepth 100000 in
theorem reads (os : Os) {H : Type} (enc : TypeId × Value → H) : ∃ places, DataW.whole enc Tryd.prog ((laidWorld os).forCall (fun _ _ => 0) ⟨#[], #[arg0, arg1, arg2, arg3, arg4], []⟩).memory Tryd.f8.params.toList Rows.rolesClosedSpec.vars false #[arg0, arg1, arg2, arg3, arg4].toList 8 =
  some ([.nil, .nil, .lit (.string []), .lit (.int .i64 0), .lit (.int .i64 0)], [], places) :=
 ⟨[], by kernel_rfl⟩
set_option maxRecDepth 100000 in
theorem lifted (os : Os) (started : os.Started) (H : Type) (enc : TypeId × Value → H) (F : Stop.Interp) :
  ReturnsInHanded {} Tryd.checked os 8 .any ((OpenSpec.ofChange Rows.rolesClosedSpec).preRow enc Tryd.prog Tryd.f8 Rows.rolesClosedRow.domain false Rows.rolesClosedRow.laid) (((OpenSpec.ofChange Rows.rolesClosedSpec).at F).post enc Tryd.prog Tryd.f8 false true false false) := by
 obtain ⟨places, hx⟩ := reads os enc
 refine returnsInHanded_of_row (C := Tryd.checked) (s := OpenSpec.ofChange Rows.rolesClosedSpec) own started (by kernel_rfl) Tryd.func8
  (witness_row_at (enc := enc) (C := Tryd.checked) false (laidWorld os) #[arg0, arg1, arg2, arg3, arg4] rfl (by kernel_rfl) (by kernel_rfl) (by kernel_rfl)
   (OpenSpec.preRow_of_cond 8 hx (by kernel_rfl) (fun k hk => by cases hk) (by kernel_rfl) (laid_met os))) ?_
 intro W base args ds gs before hval hW _ _ hwt hL _ _
 exact contract H enc W base args ds gs before hval hW hwt hL
set_option maxRecDepth 100000 in
theorem said : Rows.RolesClosedSaid :=
 OpenClaim.holds_of_cond 8 Tryd.f8 rfl rfl rfl rfl rfl rfl rfl ⟨rfl, rfl, rfl, rfl, rfl⟩ rfl rfl rfl rfl rfl (by kernel_rfl) Tryd.func8 (by kernel_rfl)
  (of_decide_eq_true (by kernel_rfl)) (by unfold Func.isWrapper; first | (rw [if_pos (by decide +kernel)]; kernel_rfl) | (rw [if_neg (by decide +kernel)]; exact ⟨rfl, rfl⟩))
  (fun os started H enc _ F => by rw [OpenClaim.pre_eq_preRow]; exact lifted os started H enc F)
theorem plain (f : FuncId) (fn : Func) (hf : Tryd.pinned.checked.prog.funcNamed "veilstone/veilstonelaw06.RolesClosed" = some f) (hfn : Tryd.pinned.checked.prog.funcs[f]? = some fn) :
  false = Tryd.pinned.checked.prog.looks [] ∧ ∀ (j : Nat) t, fn.params[j]? = some t → Tryd.pinned.checked.prog.wantsStandIn t = false := by
 obtain rfl : f = 8 := Option.some.inj ((show Tryd.prog.funcNamed "veilstone/veilstonelaw06.RolesClosed" = some 8 by kernel_rfl).symm.trans hf) |>.symm
 obtain rfl : fn = Tryd.f8 := (Option.some.inj (Tryd.func8.symm.trans hfn)).symm
 refine ⟨by kernel_rfl, fun j t ht => ?_⟩
 rw [Tryd.params8] at ht
 have hm : t = 37 ∨ t = 39 ∨ t = 9 ∨ t = 3 ∨ t = 3 := by simpa using Array.mem_of_getElem? ht
 rcases hm with rfl | rfl | rfl | rfl | rfl
 ·exact (show Tryd.prog.wantsStandIn 37 = false by kernel_rfl)
 ·exact (show Tryd.prog.wantsStandIn 39 = false by kernel_rfl)
 ·exact (show Tryd.prog.wantsStandIn 9 = false by kernel_rfl)
 ·exact (show Tryd.prog.wantsStandIn 3 = false by kernel_rfl)
 ·exact (show Tryd.prog.wantsStandIn 3 = false by kernel_rfl)
theorem rolesClosed_card : Rows.RolesClosedCardSaid :=
 Claim7.holds_tied_plain_at .later [] _ _ _ _ said (fun _ h => by cases h) (by kernel_rfl) (fun _ h => by cases h) rolesClosed_row_tie rfl ⟨rfl, rfl⟩ (by kernel_rfl) rfl plain (by kernel_rfl)
#print axioms rolesClosed_card
end Go.Proofs.YtomjajnlomdhpaaDoor
