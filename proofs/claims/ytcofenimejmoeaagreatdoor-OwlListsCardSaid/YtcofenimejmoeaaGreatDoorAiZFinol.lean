/-
 veilstonelaw05.OwlLists returns true for all arguments, and the arguments read behind the call as before it: for all arguments that can be read as data.
-/
import Derived.Test.YtcofenimejmoeaaGreatDoorAiC5
import Derived.Test.YtcofenimejmoeaaGreatDoorAiB2
import Derived.Test.YtcofenimejmoeaaGreatDoorAiTop4Top12
import Derived.Test.YtcofenimejmoeaaGreatDoorAiPOS
import Derived.Test.YtcofenimejmoeaaGreatDoorAiOY5OY6OY7OY12OY13OY14OY15
import Derived.Test.YtcofenimejmoeaaGreatDoorCards
import Derived.Test.YtcofenimejmoeaaGreatDoorTie
import Derived.WalkKit
import Derived.ProofKit
import Derived.OpenShut
import Derived.Deep.DeepHandedRow
import Derived.Lib.LaidTab
set_option maxRecDepth 100000
set_option linter.unusedSimpArgs false
set_option linter.unusedVariables false
set_option linter.unusedSectionVars false
namespace Go.Proofs.YtcofenimejmoeaaGreatDoor
open Go.ChangeShapes Go.WideShapes Go.ChangeAt Go.RowKit Go.Ai Go.Ai.Z
theorem cty:CTy Tryz.prog 36 34 3 9 where
 uT:=⟨_,_,_,_,_,Tryz.underlying36,⟨rfl,rfl⟩,⟨rfl,rfl⟩,⟨rfl,rfl⟩,⟨rfl,rfl⟩,⟨rfl,rfl⟩⟩
 uS:=Tryz.underlying34
 uI:=Tryz.underlying3
 uZ:=Tryz.underlying9
 cT:=by kernel_rfl
 cS:=by kernel_rfl
 cI:=by kernel_rfl
 cZ:=by kernel_rfl
 bT:=of_decide_eq_true (by kernel_rfl)
theorem own:ownKnob Tryz.prog.godebug=none:=by kernel_rfl
theorem laidOut:laidOutB Tryz.prog=true:=by kernel_rfl
theorem aft {W:World} (h:laidMetH Tryz.prog Rows.owlListsRow.laid W):qF P0.glob (g0 W):=by
 have h':laidMet Tryz.prog Rows.owlListsRow.laid W:=h;obtain ⟨ps,hl,_⟩:=h';exact aa5 hl (by simp [Rows.owlListsRow]) (by simp [Rows.owlListsRow]) (by simp [Rows.owlListsRow])
theorem contract (H:Type) (enc:TypeId×Value→H) (W:World) (base:Nat) (args:Array Value) (ds gs:List (DataW H)) (before:List MemPlace)
  (hval:∀(j:Nat) t v,Tryz.f8.params[j]?=some t→args[j]?=some v→Value.okWide Tryz.prog W .any base t v)
  (hW:DataW.Whole enc Tryz.prog Tryz.f8.params.toList Rows.owlListsSpec.vars false W args.toList ds gs before)
  (hwt:(DataW.weightsEach Tryz.prog (Tryz.f8.params.toList++Rows.owlListsSpec.plain.varTypes Tryz.prog) (ds++gs)).all (·≤reachBytes)=true)
  (hL:laidMetH Tryz.prog Rows.owlListsRow.laid W):
  Calls Tryz.prog 8 args W fun e W'=>∃v,e=.returned v∧Rows.owlListsSpec.post enc Tryz.prog Tryz.f8 false true false false W args v W':=by
 have hW':=hW;obtain ⟨p,q,hA0,hV,rfl,hfz,hnd⟩:=hW;have hA:DataW.TrodAll enc Tryz.prog W 0 (fun _=>true) true Tryz.f8.params.toList args.toList ds p:=hA0;rw [Tryz.params8] at hA hval hwt;obtain ⟨v0,vs0,d0,ds0,p0,q0,hargs,rfl,rfl,t0,r0⟩:=trodAll_cons hA;obtain ⟨rfl,rfl,rfl⟩:=trodAll_nil r0;obtain rfl:args=#[v0]:=by cases args;simp_all
 obtain ⟨hl0,hw0⟩:=U0 hwt;obtain ⟨x0,n0,h0,e0⟩:=Qn cty (hval 0 34 v0 rfl rfl) t0 hl0;have hlaw:=Ui false x0 n0 h0 (aat P0 300 _ _ _ _ _ acs (by simp)) ⟨0,0⟩;refine (top acA rfl rfl hlaw (.cons e0 (.nil _ _)) (aft hL)).mono fun e W' he=>?_;obtain ⟨rfl,hk,hold⟩:=he;obtain ⟨rfl,rfl⟩:=trodVars_none hV;refine ⟨_,rfl,Xf (B:=4) laidOut (by rw [Tryz.params8];intro t ht;simp at ht;subst ht;exact ⟨by kernel_rfl,of_decide_eq_true (by kernel_rfl)⟩) hW' rfl rfl (by kernel_rfl) Tryz.underlying4 hk hold⟩
noncomputable def U1 (k:Nat) (cs:Array Value) (h:Array Obj):Array Obj:=h.modify k fun
 | .cells _ u frozen=>.cells cs u frozen
 | o=>o
def Dc:Array Value:=#[.bool false,.bool false,.bool false,.bool false,.bool false,.int .i64 0,.int .i64 0,.bool true,.bool true,.bool false,.bool false,.bool false,.int .i64 0,.int .i64 0,.bool true,.bool true,.bool false,.bool false,.bool false,.int .i64 0,.int .i64 0,.bool true,.bool true,.bool false,.bool false,.bool false,.int .i64 0,.int .i64 0,.bool false,.bool true,.bool true,.bool false,.bool false,.int .i64 0,.int .i64 0,.bool false,.bool false,.bool true,.bool false,.bool false,.int .i64 1,.int .i64 1,.bool false,.bool false,.bool true,.bool false,.bool false,.int .i64 2,.int .i64 4,.bool false,.bool false,.bool true,.bool false,.bool false,.int .i64 0,.int .i64 0,.bool false,.bool true,.bool false,.bool true,.bool false,.int .i64 0,.int .i64 0,.bool false,.bool false,.bool true,.bool true,.bool true,.int .i64 0,.int .i64 0]
def ac9:Array Value:=#[.int .i64 0,.int .i64 0,.int .i64 0,.bool false,.int .i64 0,.int .i64 0,.int .i64 0,.bool false,.int .i64 0,.int .i64 0,.int .i64 0,.bool false,.int .i64 1,.int .i64 0,.int .i64 0,.bool false,.int .i64 2,.int .i64 0,.int .i64 0,.bool false,.int .i64 0,.int .i64 2,.int .i64 8,.bool false,.int .i64 1,.int .i64 1,.int .i64 1,.bool false,.int .i64 1,.int .i64 0,.int .i64 0,.bool true]
def cells4:Array Value:=#[.iface 195 (.pointer (some ⟨13,0,none⟩))]
def cells5:Array Value:=#[.iface 195 (.pointer (some ⟨14,0,none⟩))]
def cells3:Array Value:=#[.int .u64 1,.int .u64 10,.int .u64 100,.int .u64 1000,.int .u64 10000,.int .u64 100000,.int .u64 1000000,.int .u64 10000000,.int .u64 100000000,.int .u64 1000000000,.int .u64 10000000000,.int .u64 100000000000,.int .u64 1000000000000,.int .u64 10000000000000,.int .u64 100000000000000,.int .u64 1000000000000000,.int .u64 10000000000000000,.int .u64 100000000000000000,.int .u64 1000000000000000000,.int .u64 10000000000000000000]
def ac7:Array Value:=#[.int .u8 0,.int .u8 1,.int .u8 56,.int .u8 2,.int .u8 57,.int .u8 49,.int .u8 28,.int .u8 3,.int .u8 61,.int .u8 58,.int .u8 42,.int .u8 50,.int .u8 38,.int .u8 29,.int .u8 17,.int .u8 4,.int .u8 62,.int .u8 47,.int .u8 59,.int .u8 36,.int .u8 45,.int .u8 43,.int .u8 51,.int .u8 22,.int .u8 53,.int .u8 39,.int .u8 33,.int .u8 30,.int .u8 24,.int .u8 18,.int .u8 12,.int .u8 5,.int .u8 63,.int .u8 55,.int .u8 48,.int .u8 27,.int .u8 60,.int .u8 41,.int .u8 37,.int .u8 16,.int .u8 46,.int .u8 35,.int .u8 44,.int .u8 21,.int .u8 52,.int .u8 32,.int .u8 23,.int .u8 11,.int .u8 54,.int .u8 26,.int .u8 40,.int .u8 15,.int .u8 34,.int .u8 20,.int .u8 31,.int .u8 10,.int .u8 25,.int .u8 14,.int .u8 19,.int .u8 9,.int .u8 13,.int .u8 8,.int .u8 7,.int .u8 6]
def ac8:Array Value:=#[.int .u8 0,.int .u8 1,.int .u8 28,.int .u8 2,.int .u8 29,.int .u8 14,.int .u8 24,.int .u8 3,.int .u8 30,.int .u8 22,.int .u8 20,.int .u8 15,.int .u8 25,.int .u8 17,.int .u8 4,.int .u8 8,.int .u8 31,.int .u8 27,.int .u8 13,.int .u8 23,.int .u8 21,.int .u8 19,.int .u8 16,.int .u8 7,.int .u8 26,.int .u8 12,.int .u8 18,.int .u8 6,.int .u8 11,.int .u8 5,.int .u8 10,.int .u8 9]
noncomputable def laidWorld (os:Os):World:=
 { World.holding Tryz.prog os ⟨#[.cells #[.string ⟨#[105,110,118,97,108,105,100,32,115,121,110,116,97,120]⟩] 197 (0,0),.cells #[.string ⟨#[118,97,108,117,101,32,111,117,116,32,111,102,32,114,97,110,103,101]⟩] 197 (0,0)],#[],[]⟩ with heap:=(U1 6 ac8 (U1 7 ac7 (U1 3 cells3 (U1 5 cells5 (U1 4 cells4 (U1 1 ac9 (U1 0 Dc (World.holding Tryz.prog os ⟨#[.cells #[.string ⟨#[105,110,118,97,108,105,100,32,115,121,110,116,97,120]⟩] 197 (0,0),.cells #[.string ⟨#[118,97,108,117,101,32,111,117,116,32,111,102,32,114,97,110,103,101]⟩] 197 (0,0)],#[],[]⟩).heap))))))) }
def arg0:Value:=.slice none 0 0
set_option maxRecDepth 100000 in
theorem laid_met (os:Os):laidMet Tryz.prog Rows.owlListsRow.laid ((laidWorld os).forCall (fun _ _=>0) ⟨#[],#[arg0],[]⟩).memory:=
 laidMet_of_run' 8 (by kernel_rfl) (by kernel_rfl)
set_option maxRecDepth 100000 in
theorem reads (os:Os) {H:Type} (enc:TypeId×Value→H):∃places,DataW.whole enc Tryz.prog ((laidWorld os).forCall (fun _ _=>0) ⟨#[],#[arg0],[]⟩).memory Tryz.f8.params.toList Rows.owlListsSpec.vars false #[arg0].toList 8=
  some ([.nil],[],places):=
 ⟨[],by kernel_rfl⟩
set_option maxRecDepth 100000 in
theorem lifted (os:Os) (started:os.Started) (H:Type) (enc:TypeId×Value→H) (F:Stop.Interp):
  ReturnsInHanded {} Tryz.checked os 8 .any ((OpenSpec.ofChange Rows.owlListsSpec).preRow enc Tryz.prog Tryz.f8 Rows.owlListsRow.domain false Rows.owlListsRow.laid) (((OpenSpec.ofChange Rows.owlListsSpec).at F).post enc Tryz.prog Tryz.f8 false true false false):=by
 obtain ⟨places,hx⟩:=reads os enc
 refine returnsInHanded_of_row (C:=Tryz.checked) (s:=OpenSpec.ofChange Rows.owlListsSpec) own started (by kernel_rfl) Tryz.func8
  (witness_row_at (enc:=enc) (C:=Tryz.checked) false (laidWorld os) #[arg0] rfl (by kernel_rfl) (by kernel_rfl) (by kernel_rfl)
   (OpenSpec.preRow_of_cond 8 hx (by kernel_rfl) (fun k hk=>by cases hk) (by kernel_rfl) (laid_met os))) ?_
 intro W base args ds gs before hval hW _ _ hwt hL _ _;exact contract H enc W base args ds gs before hval hW hwt hL
theorem j1:(Rows.owlListsRow.inPlace == Tryz.prog.inPlace 8)=true:=by kernel_rfl
theorem j2:(Rows.owlListsRow.unfollowed == Tryz.prog.unfollowed 8)=true:=by kernel_rfl
theorem j3:(Rows.owlListsRow.recurses == Tryz.prog.recurses 8)=true:=by kernel_rfl
theorem j4:(Rows.owlListsRow.named == Tryz.prog.varsNamed 8)=true:=by kernel_rfl
theorem j6:mapsRowed Tryz.prog=true:=by kernel_rfl
theorem j7:Rows.owlListsRow.wf (OpenSpec.ofChange (OpenSpec.ofChange Rows.owlListsSpec).bare)=true:=by kernel_rfl
set_option maxRecDepth 100000 in
theorem closed:joinedFacts Tryz.prog 8 Tryz.f8 (OpenSpec.ofChange Rows.owlListsSpec).bare Rows.owlListsRow=true:=by
 unfold joinedFacts;rw [j1,j2,j3,j4,j6,j7]
 kernel_rfl
theorem wbt:Rows.owlListsRow.wfByText (OpenSpec.ofChange Rows.owlListsSpec)=true:=by kernel_rfl
theorem goes:false=Rows.owlListsRow.goesBy Tryz.prog:=by kernel_rfl
theorem looks:true=Tryz.prog.looks []:=by kernel_rfl
set_option maxRecDepth 100000 in
theorem said:Rows.OwlListsSaid:=
 OpenClaim.holds_of_cond 8 Tryz.f8 rfl rfl rfl rfl rfl rfl rfl ⟨rfl,rfl,rfl,rfl,rfl⟩ rfl rfl rfl rfl rfl (by kernel_rfl) Tryz.func8 closed
  (of_decide_eq_true (by kernel_rfl)) (by unfold Func.isWrapper;first | (rw [if_pos (by decide +kernel)];kernel_rfl) | (rw [if_neg (by decide +kernel)];exact ⟨rfl,rfl⟩))
  (fun os started H enc _ F=>by rw [OpenClaim.pre_eq_preRow];exact lifted os started H enc F)
theorem plain (f:FuncId) (fn:Func) (hf:Tryz.pinned.checked.prog.funcNamed "veilstone/veilstonelaw05.OwlLists"=some f) (hfn:Tryz.pinned.checked.prog.funcs[f]?=some fn):
  true=Tryz.pinned.checked.prog.looks []∧∀(j:Nat) t,fn.params[j]?=some t→Tryz.pinned.checked.prog.wantsStandIn t=false:=by
 obtain rfl:f=8:=Option.some.inj ((show Tryz.prog.funcNamed "veilstone/veilstonelaw05.OwlLists"=some 8 by kernel_rfl).symm.trans hf) |>.symm
 obtain rfl:fn=Tryz.f8:=(Option.some.inj (Tryz.func8.symm.trans hfn)).symm;refine ⟨looks,fun j t ht=>?_⟩;rw [Tryz.params8] at ht;obtain rfl:t=34:=by simpa using Array.mem_of_getElem? ht
 exact (show Tryz.prog.wantsStandIn 34=false by kernel_rfl)
theorem owlLists_card:Rows.OwlListsCardSaid:=
 Claim7.holds_tied_plain_at .later [] _ _ _ _ said (fun _ h=>by cases h) wbt (fun _ h=>by cases h) owlLists_row_tie rfl ⟨rfl,rfl⟩ (by kernel_rfl) rfl plain goes
#print axioms owlLists_card
end Go.Proofs.YtcofenimejmoeaaGreatDoor
