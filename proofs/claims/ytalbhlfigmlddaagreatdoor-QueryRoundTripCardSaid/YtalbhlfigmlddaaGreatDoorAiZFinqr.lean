/-
 veilstonelaw21.QueryRoundTrip returns true for all arguments, and the arguments read behind the call as before it: for all arguments that can be read as data.
-/
import Derived.Test.YtalbhlfigmlddaaGreatDoorAiC5
import Derived.Test.YtalbhlfigmlddaaGreatDoorAiB2
import Derived.Test.YtalbhlfigmlddaaGreatDoorAiQE10QE11Top6
import Derived.Test.YtalbhlfigmlddaaGreatDoorAiQB7QB8QB9Top8
import Derived.Test.YtalbhlfigmlddaaGreatDoorCards
import Derived.Test.YtalbhlfigmlddaaGreatDoorTie
import Derived.WalkKit
import Derived.ProofKit
import Derived.OpenShut
import Derived.Deep.DeepHandedRow
import Derived.Lib.LaidTab
set_option maxRecDepth 100000
set_option linter.unusedSimpArgs false
set_option linter.unusedVariables false
set_option linter.unusedSectionVars false
namespace Go.Proofs.YtalbhlfigmlddaaGreatDoor
open Go.ChangeShapes Go.WideShapes Go.ChangeAt Go.RowKit Go.Ai Go.Ai.Z
theorem ajR:agl Tryz.prog 43 38 40 3 9 22 23 25 where
 uA:=⟨_,_,_,_,_,_,Tryz.underlying43,⟨rfl,rfl⟩,⟨rfl,rfl⟩,⟨rfl,rfl⟩,⟨rfl,rfl⟩,⟨rfl,rfl⟩,⟨rfl,rfl⟩⟩
 uL:=Tryz.underlying38
 uQ:=⟨_,Tryz.underlying40,⟨rfl,rfl⟩⟩
 uI:=Tryz.underlying3
 uZ:=Tryz.underlying9
 cA:=by kernel_rfl
 cL:=by kernel_rfl
 cQ:=by kernel_rfl
 cI:=by kernel_rfl
 cZ:=by kernel_rfl
 bA:=of_decide_eq_true (by kernel_rfl)
 uR:=Tryz.underlying22
 uS:=Tryz.underlying23
 uQQ:=⟨_,_,Tryz.underlying25,⟨rfl,rfl⟩,⟨rfl,rfl⟩⟩
 cR:=by kernel_rfl
 cS:=by kernel_rfl
 cQQ:=by kernel_rfl
 bZ:=of_decide_eq_true (by kernel_rfl)
 bQ:=of_decide_eq_true (by kernel_rfl)
theorem own:ownKnob Tryz.prog.godebug=none:=by kernel_rfl
theorem laidOut:laidOutB Tryz.prog=true:=by kernel_rfl
theorem aip {W:World} (h:laidMetH Tryz.prog Rows.queryRoundTripRow.laid W):qA P0.glob (g0 W):=by
 have h':laidMet Tryz.prog Rows.queryRoundTripRow.laid W:=h
 obtain ⟨ps,hl,_⟩:=h'
 exact ad7 hl (by simp [Rows.queryRoundTripRow]) (by simp [Rows.queryRoundTripRow]) (by simp [Rows.queryRoundTripRow])
theorem contract (H:Type) (enc:TypeId×Value→H) (W:World) (base:Nat) (args:Array Value) (ds gs:List (DataW H)) (before:List MemPlace)
  (hval:∀(j:Nat) t v,Tryz.f3.params[j]?=some t→args[j]?=some v→Value.okWide Tryz.prog W .any base t v)
  (hW:DataW.Whole enc Tryz.prog Tryz.f3.params.toList Rows.queryRoundTripSpec.vars false W args.toList ds gs before)
  (hwt:(DataW.weightsEach Tryz.prog (Tryz.f3.params.toList++Rows.queryRoundTripSpec.plain.varTypes Tryz.prog) (ds++gs)).all (·≤reachBytes)=true)
  (hL:laidMetH Tryz.prog Rows.queryRoundTripRow.laid W):
  Calls Tryz.prog 3 args W fun e W'=>∃v,e=.returned v∧Rows.queryRoundTripSpec.post enc Tryz.prog Tryz.f3 false true false false W args v W':=by
 have hW':=hW
 obtain ⟨p,q,hA0,hV,rfl,hfz,hnd⟩:=hW
 have hA:DataW.TrodAll enc Tryz.prog W 0 (fun _=>true) true Tryz.f3.params.toList args.toList ds p:=hA0
 rw [Tryz.params3] at hA hval hwt
 obtain ⟨v0,vs0,d0,ds0,p0,q0,hargs,rfl,rfl,t0,r0⟩:=trodAll_cons hA
 obtain ⟨v1,vs1,d1,ds1,p1,q1,rfl,rfl,rfl,t1,r1⟩:=trodAll_cons r0
 obtain ⟨rfl,rfl,rfl⟩:=trodAll_nil r1
 obtain rfl:args=#[v0,v1]:=by cases args;simp_all
 obtain ⟨hl0,hw0⟩:=Qg hwt
 obtain ⟨hl1,hw1⟩:=Qg hw0
 obtain ⟨x0,y0,h0,e0⟩:=ZN ajR (hval 0 25 v0 rfl rfl) t0 hl0
 obtain ⟨x1,h1,e1⟩:=XP Tryz.underlying26 Tryz.underlying5 (by kernel_rfl) (of_decide_eq_true (by kernel_rfl)) (hval 1 26 v1 rfl rfl) t1 hl1
 have hlaw:=Xb false x0 false y0 h0 x1 ⟨0,0⟩
 refine (top afB rfl rfl hlaw (.cons e0 (.cons e1 (.nil _ _))) (aip hL)).mono fun e W' he=>?_
 obtain ⟨rfl,hk,hold⟩:=he
 obtain ⟨rfl,rfl⟩:=trodVars_none hV
 refine ⟨_,rfl,ZQ (B:=4) laidOut (by rw [Tryz.params3];intro t ht;simp at ht;rcases ht with rfl|rfl<;>exact ⟨by kernel_rfl,of_decide_eq_true (by kernel_rfl)⟩) hW' rfl rfl (by kernel_rfl) Tryz.underlying4 hk hold⟩
noncomputable def X5 (k:Nat) (cs:Array Value) (h:Array Obj):Array Obj:=h.modify k fun
 | .cells _ u frozen=>.cells cs u frozen
 | o=>o
def EN:Array Value:=#[.bool false,.bool false,.bool false,.bool false,.bool false,.int .i64 0,.int .i64 0,.bool true,.bool true,.bool false,.bool false,.bool false,.int .i64 0,.int .i64 0,.bool true,.bool true,.bool false,.bool false,.bool false,.int .i64 0,.int .i64 0,.bool true,.bool true,.bool false,.bool false,.bool false,.int .i64 0,.int .i64 0,.bool false,.bool true,.bool true,.bool false,.bool false,.int .i64 0,.int .i64 0,.bool false,.bool false,.bool true,.bool false,.bool false,.int .i64 1,.int .i64 1,.bool false,.bool false,.bool true,.bool false,.bool false,.int .i64 2,.int .i64 4,.bool false,.bool false,.bool true,.bool false,.bool false,.int .i64 0,.int .i64 0,.bool false,.bool true,.bool false,.bool true,.bool false,.int .i64 0,.int .i64 0,.bool false,.bool false,.bool true,.bool true,.bool true,.int .i64 0,.int .i64 0]
def af9:Array Value:=#[.int .i64 0,.int .i64 0,.int .i64 0,.bool false,.int .i64 0,.int .i64 0,.int .i64 0,.bool false,.int .i64 0,.int .i64 0,.int .i64 0,.bool false,.int .i64 1,.int .i64 0,.int .i64 0,.bool false,.int .i64 2,.int .i64 0,.int .i64 0,.bool false,.int .i64 0,.int .i64 2,.int .i64 8,.bool false,.int .i64 1,.int .i64 1,.int .i64 1,.bool false,.int .i64 1,.int .i64 0,.int .i64 0,.bool true]
def af8:Array Value:=#[.iface 231 (.pointer (some ⟨13,0,none⟩))]
def af7:Array Value:=#[.iface 231 (.pointer (some ⟨14,0,none⟩))]
def cells3:Array Value:=#[.int .u64 1,.int .u64 10,.int .u64 100,.int .u64 1000,.int .u64 10000,.int .u64 100000,.int .u64 1000000,.int .u64 10000000,.int .u64 100000000,.int .u64 1000000000,.int .u64 10000000000,.int .u64 100000000000,.int .u64 1000000000000,.int .u64 10000000000000,.int .u64 100000000000000,.int .u64 1000000000000000,.int .u64 10000000000000000,.int .u64 100000000000000000,.int .u64 1000000000000000000,.int .u64 10000000000000000000]
def cells5:Array Value:=#[.int .u8 0,.int .u8 1,.int .u8 56,.int .u8 2,.int .u8 57,.int .u8 49,.int .u8 28,.int .u8 3,.int .u8 61,.int .u8 58,.int .u8 42,.int .u8 50,.int .u8 38,.int .u8 29,.int .u8 17,.int .u8 4,.int .u8 62,.int .u8 47,.int .u8 59,.int .u8 36,.int .u8 45,.int .u8 43,.int .u8 51,.int .u8 22,.int .u8 53,.int .u8 39,.int .u8 33,.int .u8 30,.int .u8 24,.int .u8 18,.int .u8 12,.int .u8 5,.int .u8 63,.int .u8 55,.int .u8 48,.int .u8 27,.int .u8 60,.int .u8 41,.int .u8 37,.int .u8 16,.int .u8 46,.int .u8 35,.int .u8 44,.int .u8 21,.int .u8 52,.int .u8 32,.int .u8 23,.int .u8 11,.int .u8 54,.int .u8 26,.int .u8 40,.int .u8 15,.int .u8 34,.int .u8 20,.int .u8 31,.int .u8 10,.int .u8 25,.int .u8 14,.int .u8 19,.int .u8 9,.int .u8 13,.int .u8 8,.int .u8 7,.int .u8 6]
def cells4:Array Value:=#[.int .u8 0,.int .u8 1,.int .u8 28,.int .u8 2,.int .u8 29,.int .u8 14,.int .u8 24,.int .u8 3,.int .u8 30,.int .u8 22,.int .u8 20,.int .u8 15,.int .u8 25,.int .u8 17,.int .u8 4,.int .u8 8,.int .u8 31,.int .u8 27,.int .u8 13,.int .u8 23,.int .u8 21,.int .u8 19,.int .u8 16,.int .u8 7,.int .u8 26,.int .u8 12,.int .u8 18,.int .u8 6,.int .u8 11,.int .u8 5,.int .u8 10,.int .u8 9]
noncomputable def laidWorld (os:Os):World:=
 { World.holding Tryz.prog os ⟨#[.cells #[.string ⟨#[105,110,118,97,108,105,100,32,115,121,110,116,97,120]⟩] 233 (0,0),.cells #[.string ⟨#[118,97,108,117,101,32,111,117,116,32,111,102,32,114,97,110,103,101]⟩] 233 (0,0)],#[],[]⟩ with heap:=(X5 4 cells4 (X5 5 cells5 (X5 3 cells3 (X5 7 af7 (X5 6 af8 (X5 1 af9 (X5 0 EN (World.holding Tryz.prog os ⟨#[.cells #[.string ⟨#[105,110,118,97,108,105,100,32,115,121,110,116,97,120]⟩] 233 (0,0),.cells #[.string ⟨#[118,97,108,117,101,32,111,117,116,32,111,102,32,114,97,110,103,101]⟩] 233 (0,0)],#[],[]⟩).heap))))))) }
def arg0:Value:=.agg #[.slice none 0 0,.slice none 0 0]
def arg1:Value:=.slice none 0 0
set_option maxRecDepth 100000 in
theorem laid_met (os:Os):laidMet Tryz.prog Rows.queryRoundTripRow.laid ((laidWorld os).forCall (fun _ _=>0) ⟨#[],#[arg0,arg1],[]⟩).memory:=
 laidMet_of_run' 8 (by kernel_rfl) (by kernel_rfl)
set_option maxRecDepth 100000 in
theorem reads (os:Os) {H:Type} (enc:TypeId×Value→H):∃places,DataW.whole enc Tryz.prog ((laidWorld os).forCall (fun _ _=>0) ⟨#[],#[arg0,arg1],[]⟩).memory Tryz.f3.params.toList Rows.queryRoundTripSpec.vars false #[arg0,arg1].toList 8=
  some ([.agg [.nil,.nil],.nil],[],places):=
 ⟨[],by kernel_rfl⟩
set_option maxRecDepth 100000 in
theorem lifted (os:Os) (started:os.Started) (H:Type) (enc:TypeId×Value→H) (F:Stop.Interp):
  ReturnsInHanded {} Tryz.checked os 3 .any ((OpenSpec.ofChange Rows.queryRoundTripSpec).preRow enc Tryz.prog Tryz.f3 Rows.queryRoundTripRow.domain false Rows.queryRoundTripRow.laid) (((OpenSpec.ofChange Rows.queryRoundTripSpec).at F).post enc Tryz.prog Tryz.f3 false true false false):=by
 obtain ⟨places,hx⟩:=reads os enc
 refine returnsInHanded_of_row (C:=Tryz.checked) (s:=OpenSpec.ofChange Rows.queryRoundTripSpec) own started (by kernel_rfl) Tryz.func3
  (witness_row_at (enc:=enc) (C:=Tryz.checked) false (laidWorld os) #[arg0,arg1] rfl (by kernel_rfl) (by kernel_rfl) (by kernel_rfl)
   (OpenSpec.preRow_of_cond 8 hx (by kernel_rfl) (fun k hk=>by cases hk) (by kernel_rfl) (laid_met os))) ?_
 intro W base args ds gs before hval hW _ _ hwt hL _ _
 exact contract H enc W base args ds gs before hval hW hwt hL
set_option maxRecDepth 100000 in
theorem said:Rows.QueryRoundTripSaid:=
 OpenClaim.holds_of_cond 3 Tryz.f3 rfl rfl rfl rfl rfl rfl rfl ⟨rfl,rfl,rfl,rfl,rfl⟩ rfl rfl rfl rfl rfl (by kernel_rfl) Tryz.func3 (by kernel_rfl)
  (of_decide_eq_true (by kernel_rfl)) (by unfold Func.isWrapper;first | (rw [if_pos (by decide +kernel)];kernel_rfl) | (rw [if_neg (by decide +kernel)];exact ⟨rfl,rfl⟩))
  (fun os started H enc _ F=>by rw [OpenClaim.pre_eq_preRow];exact lifted os started H enc F)
theorem plain (f:FuncId) (fn:Func) (hf:Tryz.pinned.checked.prog.funcNamed "veilstone/veilstonelaw21.QueryRoundTrip"=some f) (hfn:Tryz.pinned.checked.prog.funcs[f]?=some fn):
  true=Tryz.pinned.checked.prog.looks []∧∀(j:Nat) t,fn.params[j]?=some t→Tryz.pinned.checked.prog.wantsStandIn t=false:=by
 obtain rfl:f=3:=Option.some.inj ((show Tryz.prog.funcNamed "veilstone/veilstonelaw21.QueryRoundTrip"=some 3 by kernel_rfl).symm.trans hf) |>.symm
 obtain rfl:fn=Tryz.f3:=(Option.some.inj (Tryz.func3.symm.trans hfn)).symm
 refine ⟨by kernel_rfl,fun j t ht=>?_⟩
 rw [Tryz.params3] at ht
 have hm:t=25∨t=26:=by simpa using Array.mem_of_getElem? ht
 rcases hm with rfl|rfl
 ·exact (show Tryz.prog.wantsStandIn 25=false by kernel_rfl)
 ·exact (show Tryz.prog.wantsStandIn 26=false by kernel_rfl)
theorem queryRoundTrip_card:Rows.QueryRoundTripCardSaid:=
 Claim7.holds_tied_plain_at .later [] _ _ _ _ said (fun _ h=>by cases h) (by kernel_rfl) (fun _ h=>by cases h) queryRoundTrip_row_tie rfl ⟨rfl,rfl⟩ (by kernel_rfl) rfl plain (by kernel_rfl)
#print axioms queryRoundTrip_card
end Go.Proofs.YtalbhlfigmlddaaGreatDoor
