/-
 veilstonelaw05.OwlReadsValid returns true for all arguments, and the arguments read behind the call as before it: for all arguments that can be read as data.
-/
import Derived.Test.YtcofenimejmoeaaGreatDoorAiC4
import Derived.Test.YtcofenimejmoeaaGreatDoorAiDf
import Derived.Test.YtcofenimejmoeaaGreatDoorAiTop4Top5Top6
import Derived.Test.YtcofenimejmoeaaGreatDoorAiPOS
import Derived.Test.YtcofenimejmoeaaGreatDoorAiOX18OX19OX20OX21
import Derived.Test.YtcofenimejmoeaaGreatDoorCards
import Derived.Test.YtcofenimejmoeaaGreatDoorTie
import Derived.WalkKit
import Derived.ProofKit
import Derived.OpenShut
import Derived.Deep.DeepHandedRow
import Derived.Lib.LaidTab
set_option maxRecDepth 100000
set_option linter.unusedSimpArgs false
set_option linter.unusedVariables false
set_option linter.unusedSectionVars false
namespace Go.Proofs.YtcofenimejmoeaaGreatDoor
open Go.ChangeShapes Go.WideShapes Go.ChangeAt Go.RowKit Go.Ai Go.Ai.Z
theorem own:ownKnob Tryz.prog.godebug=none:=by kernel_rfl
theorem laidOut:laidOutB Tryz.prog=true:=by kernel_rfl
theorem akb {W:World} (h:laidMetH Tryz.prog Rows.owlReadsValidRow.laid W):tZ P0.glob (g0 W):=by
 have h':laidMet Tryz.prog Rows.owlReadsValidRow.laid W:=h;obtain ⟨ps,hl,_⟩:=h';exact afM hl (by simp [Rows.owlReadsValidRow]) (by simp [Rows.owlReadsValidRow]) (by simp [Rows.owlReadsValidRow])
theorem contract (H:Type) (enc:TypeId×Value→H) (W:World) (base:Nat) (args:Array Value) (ds gs:List (DataW H)) (before:List MemPlace)
  (hval:∀(j:Nat) t v,Tryz.f5.params[j]?=some t→args[j]?=some v→Value.okWide Tryz.prog W .any base t v)
  (hW:DataW.Whole enc Tryz.prog Tryz.f5.params.toList Rows.owlReadsValidSpec.vars false W args.toList ds gs before)
  (hwt:(DataW.weightsEach Tryz.prog (Tryz.f5.params.toList++Rows.owlReadsValidSpec.plain.varTypes Tryz.prog) (ds++gs)).all (·≤reachBytes)=true)
  (hL:laidMetH Tryz.prog Rows.owlReadsValidRow.laid W):
  Calls Tryz.prog 5 args W fun e W'=>∃v,e=.returned v∧Rows.owlReadsValidSpec.post enc Tryz.prog Tryz.f5 false true false false W args v W':=by
 have hW':=hW;obtain ⟨p,q,hA0,hV,rfl,hfz,hnd⟩:=hW;have hA:DataW.TrodAll enc Tryz.prog W 0 (fun _=>true) true Tryz.f5.params.toList args.toList ds p:=hA0;rw [Tryz.params5] at hA hval hwt;obtain ⟨v0,vs0,d0,ds0,p0,q0,hargs,rfl,rfl,t0,r0⟩:=trodAll_cons hA;obtain ⟨rfl,rfl,rfl⟩:=trodAll_nil r0;obtain rfl:args=#[v0]:=by cases args;simp_all
 obtain ⟨hl0,hw0⟩:=YM hwt;obtain ⟨x0,h0,e0⟩:=Yv Tryz.underlying25 Tryz.underlying5 (by kernel_rfl) (of_decide_eq_true (by kernel_rfl)) (hval 0 25 v0 rfl rfl) t0 hl0;have hlaw:=X3 x0 (aeO P0 300 _ _ _ _ _ ahc (by simp)) ⟨0,0⟩;refine (top ahi rfl rfl hlaw (.cons e0 (.nil _ _)) (akb hL)).mono fun e W' he=>?_;obtain ⟨rfl,hk,hold⟩:=he;obtain ⟨rfl,rfl⟩:=trodVars_none hV;refine ⟨_,rfl,aaV (B:=4) laidOut (by rw [Tryz.params5];intro t ht;simp at ht;subst ht;exact ⟨by kernel_rfl,of_decide_eq_true (by kernel_rfl)⟩) hW' rfl rfl (by kernel_rfl) Tryz.underlying4 hk hold⟩
noncomputable def YN (k:Nat) (cs:Array Value) (h:Array Obj):Array Obj:=h.modify k fun
 | .cells _ u frozen=>.cells cs u frozen
 | o=>o
def F5:Array Value:=#[.bool false,.bool false,.bool false,.bool false,.bool false,.int .i64 0,.int .i64 0,.bool true,.bool true,.bool false,.bool false,.bool false,.int .i64 0,.int .i64 0,.bool true,.bool true,.bool false,.bool false,.bool false,.int .i64 0,.int .i64 0,.bool true,.bool true,.bool false,.bool false,.bool false,.int .i64 0,.int .i64 0,.bool false,.bool true,.bool true,.bool false,.bool false,.int .i64 0,.int .i64 0,.bool false,.bool false,.bool true,.bool false,.bool false,.int .i64 1,.int .i64 1,.bool false,.bool false,.bool true,.bool false,.bool false,.int .i64 2,.int .i64 4,.bool false,.bool false,.bool true,.bool false,.bool false,.int .i64 0,.int .i64 0,.bool false,.bool true,.bool false,.bool true,.bool false,.int .i64 0,.int .i64 0,.bool false,.bool false,.bool true,.bool true,.bool true,.int .i64 0,.int .i64 0]
def ahR:Array Value:=#[.int .i64 0,.int .i64 0,.int .i64 0,.bool false,.int .i64 0,.int .i64 0,.int .i64 0,.bool false,.int .i64 0,.int .i64 0,.int .i64 0,.bool false,.int .i64 1,.int .i64 0,.int .i64 0,.bool false,.int .i64 2,.int .i64 0,.int .i64 0,.bool false,.int .i64 0,.int .i64 2,.int .i64 8,.bool false,.int .i64 1,.int .i64 1,.int .i64 1,.bool false,.int .i64 1,.int .i64 0,.int .i64 0,.bool true]
def cells4:Array Value:=#[.iface 195 (.pointer (some ⟨13,0,none⟩))]
def cells5:Array Value:=#[.iface 195 (.pointer (some ⟨14,0,none⟩))]
def cells3:Array Value:=#[.int .u64 1,.int .u64 10,.int .u64 100,.int .u64 1000,.int .u64 10000,.int .u64 100000,.int .u64 1000000,.int .u64 10000000,.int .u64 100000000,.int .u64 1000000000,.int .u64 10000000000,.int .u64 100000000000,.int .u64 1000000000000,.int .u64 10000000000000,.int .u64 100000000000000,.int .u64 1000000000000000,.int .u64 10000000000000000,.int .u64 100000000000000000,.int .u64 1000000000000000000,.int .u64 10000000000000000000]
def ahP:Array Value:=#[.int .u8 0,.int .u8 1,.int .u8 56,.int .u8 2,.int .u8 57,.int .u8 49,.int .u8 28,.int .u8 3,.int .u8 61,.int .u8 58,.int .u8 42,.int .u8 50,.int .u8 38,.int .u8 29,.int .u8 17,.int .u8 4,.int .u8 62,.int .u8 47,.int .u8 59,.int .u8 36,.int .u8 45,.int .u8 43,.int .u8 51,.int .u8 22,.int .u8 53,.int .u8 39,.int .u8 33,.int .u8 30,.int .u8 24,.int .u8 18,.int .u8 12,.int .u8 5,.int .u8 63,.int .u8 55,.int .u8 48,.int .u8 27,.int .u8 60,.int .u8 41,.int .u8 37,.int .u8 16,.int .u8 46,.int .u8 35,.int .u8 44,.int .u8 21,.int .u8 52,.int .u8 32,.int .u8 23,.int .u8 11,.int .u8 54,.int .u8 26,.int .u8 40,.int .u8 15,.int .u8 34,.int .u8 20,.int .u8 31,.int .u8 10,.int .u8 25,.int .u8 14,.int .u8 19,.int .u8 9,.int .u8 13,.int .u8 8,.int .u8 7,.int .u8 6]
def ahQ:Array Value:=#[.int .u8 0,.int .u8 1,.int .u8 28,.int .u8 2,.int .u8 29,.int .u8 14,.int .u8 24,.int .u8 3,.int .u8 30,.int .u8 22,.int .u8 20,.int .u8 15,.int .u8 25,.int .u8 17,.int .u8 4,.int .u8 8,.int .u8 31,.int .u8 27,.int .u8 13,.int .u8 23,.int .u8 21,.int .u8 19,.int .u8 16,.int .u8 7,.int .u8 26,.int .u8 12,.int .u8 18,.int .u8 6,.int .u8 11,.int .u8 5,.int .u8 10,.int .u8 9]
noncomputable def laidWorld (os:Os):World:=
 { World.holding Tryz.prog os ⟨#[.cells #[.string ⟨#[105,110,118,97,108,105,100,32,115,121,110,116,97,120]⟩] 197 (0,0),.cells #[.string ⟨#[118,97,108,117,101,32,111,117,116,32,111,102,32,114,97,110,103,101]⟩] 197 (0,0)],#[],[]⟩ with heap:=(YN 6 ahQ (YN 7 ahP (YN 3 cells3 (YN 5 cells5 (YN 4 cells4 (YN 1 ahR (YN 0 F5 (World.holding Tryz.prog os ⟨#[.cells #[.string ⟨#[105,110,118,97,108,105,100,32,115,121,110,116,97,120]⟩] 197 (0,0),.cells #[.string ⟨#[118,97,108,117,101,32,111,117,116,32,111,102,32,114,97,110,103,101]⟩] 197 (0,0)],#[],[]⟩).heap))))))) }
def arg0:Value:=.slice none 0 0
set_option maxRecDepth 100000 in
theorem laid_met (os:Os):laidMet Tryz.prog Rows.owlReadsValidRow.laid ((laidWorld os).forCall (fun _ _=>0) ⟨#[],#[arg0],[]⟩).memory:=
 laidMet_of_run' 8 (by kernel_rfl) (by kernel_rfl)
set_option maxRecDepth 100000 in
theorem reads (os:Os) {H:Type} (enc:TypeId×Value→H):∃places,DataW.whole enc Tryz.prog ((laidWorld os).forCall (fun _ _=>0) ⟨#[],#[arg0],[]⟩).memory Tryz.f5.params.toList Rows.owlReadsValidSpec.vars false #[arg0].toList 8=
  some ([.nil],[],places):=
 ⟨[],by kernel_rfl⟩
set_option maxRecDepth 100000 in
theorem lifted (os:Os) (started:os.Started) (H:Type) (enc:TypeId×Value→H) (F:Stop.Interp):
  ReturnsInHanded {} Tryz.checked os 5 .any ((OpenSpec.ofChange Rows.owlReadsValidSpec).preRow enc Tryz.prog Tryz.f5 Rows.owlReadsValidRow.domain false Rows.owlReadsValidRow.laid) (((OpenSpec.ofChange Rows.owlReadsValidSpec).at F).post enc Tryz.prog Tryz.f5 false true false false):=by
 obtain ⟨places,hx⟩:=reads os enc
 refine returnsInHanded_of_row (C:=Tryz.checked) (s:=OpenSpec.ofChange Rows.owlReadsValidSpec) own started (by kernel_rfl) Tryz.func5
  (witness_row_at (enc:=enc) (C:=Tryz.checked) false (laidWorld os) #[arg0] rfl (by kernel_rfl) (by kernel_rfl) (by kernel_rfl)
   (OpenSpec.preRow_of_cond 8 hx (by kernel_rfl) (fun k hk=>by cases hk) (by kernel_rfl) (laid_met os))) ?_
 intro W base args ds gs before hval hW _ _ hwt hL _ _;exact contract H enc W base args ds gs before hval hW hwt hL
theorem j1:(Rows.owlReadsValidRow.inPlace == Tryz.prog.inPlace 5)=true:=by kernel_rfl
theorem j2:(Rows.owlReadsValidRow.unfollowed == Tryz.prog.unfollowed 5)=true:=by kernel_rfl
theorem j3:(Rows.owlReadsValidRow.recurses == Tryz.prog.recurses 5)=true:=by kernel_rfl
theorem j4:(Rows.owlReadsValidRow.named == Tryz.prog.varsNamed 5)=true:=by kernel_rfl
theorem j6:mapsRowed Tryz.prog=true:=by kernel_rfl
theorem j7:Rows.owlReadsValidRow.wf (OpenSpec.ofChange (OpenSpec.ofChange Rows.owlReadsValidSpec).bare)=true:=by kernel_rfl
set_option maxRecDepth 100000 in
theorem closed:joinedFacts Tryz.prog 5 Tryz.f5 (OpenSpec.ofChange Rows.owlReadsValidSpec).bare Rows.owlReadsValidRow=true:=by
 unfold joinedFacts;rw [j1,j2,j3,j4,j6,j7]
 kernel_rfl
theorem wbt:Rows.owlReadsValidRow.wfByText (OpenSpec.ofChange Rows.owlReadsValidSpec)=true:=by kernel_rfl
theorem goes:false=Rows.owlReadsValidRow.goesBy Tryz.prog:=by kernel_rfl
theorem looks:true=Tryz.prog.looks []:=by kernel_rfl
set_option maxRecDepth 100000 in
theorem said:Rows.OwlReadsValidSaid:=
 OpenClaim.holds_of_cond 5 Tryz.f5 rfl rfl rfl rfl rfl rfl rfl ⟨rfl,rfl,rfl,rfl,rfl⟩ rfl rfl rfl rfl rfl (by kernel_rfl) Tryz.func5 closed
  (of_decide_eq_true (by kernel_rfl)) (by unfold Func.isWrapper;first | (rw [if_pos (by decide +kernel)];kernel_rfl) | (rw [if_neg (by decide +kernel)];exact ⟨rfl,rfl⟩))
  (fun os started H enc _ F=>by rw [OpenClaim.pre_eq_preRow];exact lifted os started H enc F)
theorem plain (f:FuncId) (fn:Func) (hf:Tryz.pinned.checked.prog.funcNamed "veilstone/veilstonelaw05.OwlReadsValid"=some f) (hfn:Tryz.pinned.checked.prog.funcs[f]?=some fn):
  true=Tryz.pinned.checked.prog.looks []∧∀(j:Nat) t,fn.params[j]?=some t→Tryz.pinned.checked.prog.wantsStandIn t=false:=by
 obtain rfl:f=5:=Option.some.inj ((show Tryz.prog.funcNamed "veilstone/veilstonelaw05.OwlReadsValid"=some 5 by kernel_rfl).symm.trans hf) |>.symm
 obtain rfl:fn=Tryz.f5:=(Option.some.inj (Tryz.func5.symm.trans hfn)).symm;refine ⟨looks,fun j t ht=>?_⟩;rw [Tryz.params5] at ht;obtain rfl:t=25:=by simpa using Array.mem_of_getElem? ht
 exact (show Tryz.prog.wantsStandIn 25=false by kernel_rfl)
theorem owlReadsValid_card:Rows.OwlReadsValidCardSaid:=
 Claim7.holds_tied_plain_at .later [] _ _ _ _ said (fun _ h=>by cases h) wbt (fun _ h=>by cases h) owlReadsValid_row_tie rfl ⟨rfl,rfl⟩ (by kernel_rfl) rfl plain goes
#print axioms owlReadsValid_card
end Go.Proofs.YtcofenimejmoeaaGreatDoor
