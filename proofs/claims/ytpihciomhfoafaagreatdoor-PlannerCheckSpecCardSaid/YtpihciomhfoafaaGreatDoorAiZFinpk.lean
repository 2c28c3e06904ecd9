/-
 veilstonelaw24.PlannerCheckSpec returns true for all arguments, and the arguments read behind the call as before it: for all arguments that can be read as data.
-/
import Derived.Test.YtpihciomhfoafaaGreatDoorAiC5
import Derived.Test.YtpihciomhfoafaaGreatDoorAiB2
import Derived.Test.YtpihciomhfoafaaGreatDoorAiTop7Top14
import Derived.Test.YtpihciomhfoafaaGreatDoorAiPBPSN
import Derived.Test.YtpihciomhfoafaaGreatDoorAiQRPL1PL2PL3
import Derived.Test.YtpihciomhfoafaaGreatDoorCards
import Derived.Test.YtpihciomhfoafaaGreatDoorTie
import Derived.WalkKit
import Derived.ProofKit
import Derived.OpenShut
import Derived.Deep.DeepHandedRow
import Derived.Lib.LaidTab
set_option maxRecDepth 100000
set_option linter.unusedSimpArgs false
set_option linter.unusedVariables false
set_option linter.unusedSectionVars false
namespace Go.Proofs.YtpihciomhfoafaaGreatDoor
open Go.ChangeShapes Go.WideShapes Go.ChangeAt Go.RowKit Go.Ai Go.Ai.Z
theorem qty:QTy Tryz.prog 57 22 24 3 9 where
 uA:=⟨_,_,_,_,_,_,Tryz.underlying57,⟨rfl,rfl⟩,⟨rfl,rfl⟩,⟨rfl,rfl⟩,⟨rfl,rfl⟩,⟨rfl,rfl⟩,⟨rfl,rfl⟩⟩
 uL:=Tryz.underlying22
 uQ:=⟨_,Tryz.underlying24,⟨rfl,rfl⟩⟩
 uI:=Tryz.underlying3
 uZ:=Tryz.underlying9
 cA:=by kernel_rfl
 cL:=by kernel_rfl
 cQ:=by kernel_rfl
 cI:=by kernel_rfl
 cZ:=by kernel_rfl
 bA:=of_decide_eq_true (by kernel_rfl)
theorem ac4:Zq Tryz.prog 3 25 27 where
 uI:=Tryz.underlying3
 uR:=Tryz.underlying25
 uD:=⟨_,Tryz.underlying27,⟨rfl,rfl⟩⟩
 cI:=by kernel_rfl
 cR:=by kernel_rfl
 cD:=by kernel_rfl
 bI:=of_decide_eq_true (by kernel_rfl)
theorem own:ownKnob Tryz.prog.godebug=none:=by kernel_rfl
theorem laidOut:laidOutB Tryz.prog=true:=by kernel_rfl
theorem abz {W:World} (h:laidMetH Tryz.prog Rows.plannerCheckSpecRow.laid W):mF P0.glob (g0 W):=by
 have h':laidMet Tryz.prog Rows.plannerCheckSpecRow.laid W:=h
 obtain ⟨ps,hl,_⟩:=h'
 exact X6 hl (by simp [Rows.plannerCheckSpecRow]) (by simp [Rows.plannerCheckSpecRow]) (by simp [Rows.plannerCheckSpecRow])
theorem contract (H:Type) (enc:TypeId×Value→H) (W:World) (base:Nat) (args:Array Value) (ds gs:List (DataW H)) (before:List MemPlace)
  (hval:∀(j:Nat) t v,Tryz.f3.params[j]?=some t→args[j]?=some v→Value.okWide Tryz.prog W .any base t v)
  (hW:DataW.Whole enc Tryz.prog Tryz.f3.params.toList Rows.plannerCheckSpecSpec.vars false W args.toList ds gs before)
  (hwt:(DataW.weightsEach Tryz.prog (Tryz.f3.params.toList++Rows.plannerCheckSpecSpec.plain.varTypes Tryz.prog) (ds++gs)).all (·≤reachBytes)=true)
  (hL:laidMetH Tryz.prog Rows.plannerCheckSpecRow.laid W):
  Calls Tryz.prog 3 args W fun e W'=>∃v,e=.returned v∧Rows.plannerCheckSpecSpec.post enc Tryz.prog Tryz.f3 false true false false W args v W':=by
 have hW':=hW
 obtain ⟨p,q,hA0,hV,rfl,hfz,hnd⟩:=hW
 have hA:DataW.TrodAll enc Tryz.prog W 0 (fun _=>true) true Tryz.f3.params.toList args.toList ds p:=hA0
 rw [Tryz.params3] at hA hval hwt
 obtain ⟨v0,vs0,d0,ds0,p0,q0,hargs,rfl,rfl,t0,r0⟩:=trodAll_cons hA
 obtain ⟨v1,vs1,d1,ds1,p1,q1,rfl,rfl,rfl,t1,r1⟩:=trodAll_cons r0
 obtain ⟨rfl,rfl,rfl⟩:=trodAll_nil r1
 obtain rfl:args=#[v0,v1]:=by cases args;simp_all
 obtain ⟨hl0,hw0⟩:=OY hwt
 obtain ⟨hl1,hw1⟩:=OY hw0
 obtain ⟨z0,x0,n0,h0,e0⟩:=WH qty (hval 0 24 v0 rfl rfl) t0 hl0
 obtain ⟨x1,h1,e1⟩:=WG ac4 (hval 1 27 v1 rfl rfl) t1 hl1
 have hlaw:=Np z0 x0 false x1 h1 n0 Wv ⟨0,0⟩
 refine (top YZ rfl rfl hlaw (.cons e0 (.cons e1 (.nil _ _))) (abz hL)).mono fun e W' he=>?_
 obtain ⟨rfl,hk,hold⟩:=he
 obtain ⟨rfl,rfl⟩:=trodVars_none hV
 refine ⟨_,rfl,Vh (B:=4) laidOut (by rw [Tryz.params3];intro t ht;simp at ht;rcases ht with rfl|rfl<;>exact ⟨by kernel_rfl,of_decide_eq_true (by kernel_rfl)⟩) hW' rfl rfl (by kernel_rfl) Tryz.underlying4 hk hold⟩
noncomputable def SS (k:Nat) (cs:Array Value) (h:Array Obj):Array Obj:=h.modify k fun
 | .cells _ u frozen=>.cells cs u frozen
 | o=>o
def cells4:Array Value:=(Go.Pinned.utf8FirstZ.map fun n=>Value.int .u8 (Int.ofNat n)).toArray
def cells3:Array Value:=#[.bool false,.bool false,.bool false,.bool false,.bool false,.bool false,.bool false,.bool true,.bool false,.bool true,.bool false,.bool false,.bool false,.bool false,.bool true,.bool true,.bool true,.bool false,.bool false,.bool false,.bool false,.bool true,.bool false,.bool true,.bool true,.bool false,.bool false,.bool false,.bool true,.bool false,.bool true,.bool true,.bool false,.bool false,.bool false,.bool false,.bool false,.bool false,.bool true,.bool false,.bool true,.bool false,.bool false,.bool false,.bool false,.bool true,.bool true,.bool true,.bool false,.bool false,.bool false,.bool false,.bool true,.bool false,.bool false,.bool false,.bool true,.bool false,.bool false,.bool true,.bool false,.bool false,.bool true,.bool false,.bool false,.bool true,.bool true,.bool false,.bool false,.bool true]
def FM:Array Value:=#[.bool false,.bool false,.bool false,.bool false,.bool false,.int .i64 0,.int .i64 0,.bool true,.bool true,.bool false,.bool false,.bool false,.int .i64 0,.int .i64 0,.bool true,.bool true,.bool false,.bool false,.bool false,.int .i64 0,.int .i64 0,.bool true,.bool true,.bool false,.bool false,.bool false,.int .i64 0,.int .i64 0,.bool false,.bool true,.bool true,.bool false,.bool false,.int .i64 0,.int .i64 0,.bool false,.bool false,.bool true,.bool false,.bool false,.int .i64 1,.int .i64 1,.bool false,.bool false,.bool true,.bool false,.bool false,.int .i64 2,.int .i64 4,.bool false,.bool false,.bool true,.bool false,.bool false,.int .i64 0,.int .i64 0,.bool false,.bool true,.bool false,.bool true,.bool false,.int .i64 0,.int .i64 0,.bool false,.bool false,.bool true,.bool true,.bool true,.int .i64 0,.int .i64 0]
def cells2:Array Value:=#[.int .i64 0,.int .i64 0,.int .i64 0,.bool false,.int .i64 0,.int .i64 0,.int .i64 0,.bool false,.int .i64 0,.int .i64 0,.int .i64 0,.bool false,.int .i64 1,.int .i64 0,.int .i64 0,.bool false,.int .i64 2,.int .i64 0,.int .i64 0,.bool false,.int .i64 0,.int .i64 2,.int .i64 8,.bool false,.int .i64 1,.int .i64 1,.int .i64 1,.bool false,.int .i64 1,.int .i64 0,.int .i64 0,.bool true]
def cells5:Array Value:=#[.int .u8 128,.int .u8 191,.int .u8 160,.int .u8 191,.int .u8 128,.int .u8 159,.int .u8 144,.int .u8 191,.int .u8 128,.int .u8 143,.int .u8 0,.int .u8 0,.int .u8 0,.int .u8 0,.int .u8 0,.int .u8 0,.int .u8 0,.int .u8 0,.int .u8 0,.int .u8 0,.int .u8 0,.int .u8 0,.int .u8 0,.int .u8 0,.int .u8 0,.int .u8 0,.int .u8 0,.int .u8 0,.int .u8 0,.int .u8 0,.int .u8 0,.int .u8 0]
def Zl:Array Value:=#[.int .u64 1,.int .u64 10,.int .u64 100,.int .u64 1000,.int .u64 10000,.int .u64 100000,.int .u64 1000000,.int .u64 10000000,.int .u64 100000000,.int .u64 1000000000,.int .u64 10000000000,.int .u64 100000000000,.int .u64 1000000000000,.int .u64 10000000000000,.int .u64 100000000000000,.int .u64 1000000000000000,.int .u64 10000000000000000,.int .u64 100000000000000000,.int .u64 1000000000000000000,.int .u64 10000000000000000000]
def Zj:Array Value:=#[.int .u8 0,.int .u8 1,.int .u8 56,.int .u8 2,.int .u8 57,.int .u8 49,.int .u8 28,.int .u8 3,.int .u8 61,.int .u8 58,.int .u8 42,.int .u8 50,.int .u8 38,.int .u8 29,.int .u8 17,.int .u8 4,.int .u8 62,.int .u8 47,.int .u8 59,.int .u8 36,.int .u8 45,.int .u8 43,.int .u8 51,.int .u8 22,.int .u8 53,.int .u8 39,.int .u8 33,.int .u8 30,.int .u8 24,.int .u8 18,.int .u8 12,.int .u8 5,.int .u8 63,.int .u8 55,.int .u8 48,.int .u8 27,.int .u8 60,.int .u8 41,.int .u8 37,.int .u8 16,.int .u8 46,.int .u8 35,.int .u8 44,.int .u8 21,.int .u8 52,.int .u8 32,.int .u8 23,.int .u8 11,.int .u8 54,.int .u8 26,.int .u8 40,.int .u8 15,.int .u8 34,.int .u8 20,.int .u8 31,.int .u8 10,.int .u8 25,.int .u8 14,.int .u8 19,.int .u8 9,.int .u8 13,.int .u8 8,.int .u8 7,.int .u8 6]
def Zk:Array Value:=#[.int .u8 0,.int .u8 1,.int .u8 28,.int .u8 2,.int .u8 29,.int .u8 14,.int .u8 24,.int .u8 3,.int .u8 30,.int .u8 22,.int .u8 20,.int .u8 15,.int .u8 25,.int .u8 17,.int .u8 4,.int .u8 8,.int .u8 31,.int .u8 27,.int .u8 13,.int .u8 23,.int .u8 21,.int .u8 19,.int .u8 16,.int .u8 7,.int .u8 26,.int .u8 12,.int .u8 18,.int .u8 6,.int .u8 11,.int .u8 5,.int .u8 10,.int .u8 9]
noncomputable def laidWorld (os:Os):World:=
 { World.holding Tryz.prog os ⟨#[],#[],[]⟩ with heap:=(SS 7 Zk (SS 8 Zj (SS 6 Zl (SS 5 cells5 (SS 2 cells2 (SS 0 FM (SS 3 cells3 (SS 4 cells4 (World.holding Tryz.prog os ⟨#[],#[],[]⟩).heap)))))))) }
def arg0:Value:=.agg #[.slice none 0 0]
def arg1:Value:=.agg #[.slice none 0 0]
set_option maxRecDepth 100000 in
theorem laid_met (os:Os):laidMet Tryz.prog Rows.plannerCheckSpecRow.laid ((laidWorld os).forCall (fun _ _=>0) ⟨#[],#[arg0,arg1],[]⟩).memory:=
 laidMet_of_run' 8 (by kernel_rfl) (by kernel_rfl)
set_option maxRecDepth 100000 in
theorem reads (os:Os) {H:Type} (enc:TypeId×Value→H):∃places,DataW.whole enc Tryz.prog ((laidWorld os).forCall (fun _ _=>0) ⟨#[],#[arg0,arg1],[]⟩).memory Tryz.f3.params.toList Rows.plannerCheckSpecSpec.vars false #[arg0,arg1].toList 8=
  some ([.agg [.nil],.agg [.nil]],[],places):=
 ⟨[],by kernel_rfl⟩
set_option maxRecDepth 100000 in
theorem lifted (os:Os) (started:os.Started) (H:Type) (enc:TypeId×Value→H) (F:Stop.Interp):
  ReturnsInHanded {} Tryz.checked os 3 .any ((OpenSpec.ofChange Rows.plannerCheckSpecSpec).preRow enc Tryz.prog Tryz.f3 Rows.plannerCheckSpecRow.domain false Rows.plannerCheckSpecRow.laid) (((OpenSpec.ofChange Rows.plannerCheckSpecSpec).at F).post enc Tryz.prog Tryz.f3 false true false false):=by
 obtain ⟨places,hx⟩:=reads os enc
 refine returnsInHanded_of_row (C:=Tryz.checked) (s:=OpenSpec.ofChange Rows.plannerCheckSpecSpec) own started (by kernel_rfl) Tryz.func3
  (witness_row_at (enc:=enc) (C:=Tryz.checked) false (laidWorld os) #[arg0,arg1] rfl (by kernel_rfl) (by kernel_rfl) (by kernel_rfl)
   (OpenSpec.preRow_of_cond 8 hx (by kernel_rfl) (fun k hk=>by cases hk) (by kernel_rfl) (laid_met os))) ?_
 intro W base args ds gs before hval hW _ _ hwt hL _ _
 exact contract H enc W base args ds gs before hval hW hwt hL
theorem j1:(Rows.plannerCheckSpecRow.inPlace == Tryz.prog.inPlace 3)=true:=by kernel_rfl
theorem j2:(Rows.plannerCheckSpecRow.unfollowed == Tryz.prog.unfollowed 3)=true:=by kernel_rfl
theorem j3:(Rows.plannerCheckSpecRow.recurses == Tryz.prog.recurses 3)=true:=by kernel_rfl
theorem j4:(Rows.plannerCheckSpecRow.named == Tryz.prog.varsNamed 3)=true:=by kernel_rfl
theorem j6:mapsRowed Tryz.prog=true:=by kernel_rfl
theorem j7:Rows.plannerCheckSpecRow.wf (OpenSpec.ofChange (OpenSpec.ofChange Rows.plannerCheckSpecSpec).bare)=true:=by kernel_rfl
set_option maxRecDepth 100000 in
theorem closed:joinedFacts Tryz.prog 3 Tryz.f3 (OpenSpec.ofChange Rows.plannerCheckSpecSpec).bare Rows.plannerCheckSpecRow=true:=by
 unfold joinedFacts
 rw [j1,j2,j3,j4,j6,j7]
 kernel_rfl
theorem wbt:Rows.plannerCheckSpecRow.wfByText (OpenSpec.ofChange Rows.plannerCheckSpecSpec)=true:=by kernel_rfl
theorem goes:false=Rows.plannerCheckSpecRow.goesBy Tryz.prog:=by kernel_rfl
theorem looks:false=Tryz.prog.looks []:=by kernel_rfl
set_option maxRecDepth 100000 in
theorem said:Rows.PlannerCheckSpecSaid:=
 OpenClaim.holds_of_cond 3 Tryz.f3 rfl rfl rfl rfl rfl rfl rfl ⟨rfl,rfl,rfl,rfl,rfl⟩ rfl rfl rfl rfl rfl (by kernel_rfl) Tryz.func3 closed
  (of_decide_eq_true (by kernel_rfl)) (by unfold Func.isWrapper;first | (rw [if_pos (by decide +kernel)];kernel_rfl) | (rw [if_neg (by decide +kernel)];exact ⟨rfl,rfl⟩))
  (fun os started H enc _ F=>by rw [OpenClaim.pre_eq_preRow];exact lifted os started H enc F)
theorem plain (f:FuncId) (fn:Func) (hf:Tryz.pinned.checked.prog.funcNamed "veilstone/veilstonelaw24.PlannerCheckSpec"=some f) (hfn:Tryz.pinned.checked.prog.funcs[f]?=some fn):
  false=Tryz.pinned.checked.prog.looks []∧∀(j:Nat) t,fn.params[j]?=some t→Tryz.pinned.checked.prog.wantsStandIn t=false:=by
 obtain rfl:f=3:=Option.some.inj ((show Tryz.prog.funcNamed "veilstone/veilstonelaw24.PlannerCheckSpec"=some 3 by kernel_rfl).symm.trans hf) |>.symm
 obtain rfl:fn=Tryz.f3:=(Option.some.inj (Tryz.func3.symm.trans hfn)).symm
 refine ⟨looks,fun j t ht=>?_⟩
 rw [Tryz.params3] at ht
 have hm:t=24∨t=27:=by simpa using Array.mem_of_getElem? ht
 rcases hm with rfl|rfl
 ·exact (show Tryz.prog.wantsStandIn 24=false by kernel_rfl)
 ·exact (show Tryz.prog.wantsStandIn 27=false by kernel_rfl)
theorem plannerCheckSpec_card:Rows.PlannerCheckSpecCardSaid:=
 Claim7.holds_tied_plain_at .later [] _ _ _ _ said (fun _ h=>by cases h) wbt (fun _ h=>by cases h) plannerCheckSpec_row_tie rfl ⟨rfl,rfl⟩ (by kernel_rfl) rfl plain goes
#print axioms plannerCheckSpec_card
end Go.Proofs.YtpihciomhfoafaaGreatDoor
