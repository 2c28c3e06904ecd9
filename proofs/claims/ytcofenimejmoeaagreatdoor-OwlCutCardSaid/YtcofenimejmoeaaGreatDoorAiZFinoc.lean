/-
 veilstonelaw05.OwlCut returns true for all arguments, and the arguments read behind the call as before it: for all arguments that can be read as data.
-/
import Derived.Test.YtcofenimejmoeaaGreatDoorAiC4
import Derived.Test.YtcofenimejmoeaaGreatDoorAiDf
import Derived.Test.YtcofenimejmoeaaGreatDoorAiTop4Top5Top13
import Derived.Test.YtcofenimejmoeaaGreatDoorAiPOS
import Derived.Test.YtcofenimejmoeaaGreatDoorAiOY5OY6OY7OY8OY9OY16OY18OY19
import Derived.Test.YtcofenimejmoeaaGreatDoorCards
import Derived.Test.YtcofenimejmoeaaGreatDoorTie
import Derived.WalkKit
import Derived.ProofKit
import Derived.OpenShut
import Derived.Deep.DeepHandedRow
import Derived.Lib.LaidTab
set_option maxRecDepth 100000
set_option linter.unusedSimpArgs false
set_option linter.unusedVariables false
set_option linter.unusedSectionVars false
namespace Go.Proofs.YtcofenimejmoeaaGreatDoor
open Go.ChangeShapes Go.WideShapes Go.ChangeAt Go.RowKit Go.Ai Go.Ai.Z
theorem aty:ATy Tryz.prog 39 22 36 34 3 9 4 37 where
 uT:=⟨_,_,_,_,_,Tryz.underlying36,⟨rfl,rfl⟩,⟨rfl,rfl⟩,⟨rfl,rfl⟩,⟨rfl,rfl⟩,⟨rfl,rfl⟩⟩
 uS:=Tryz.underlying34
 uI:=Tryz.underlying3
 uZ:=Tryz.underlying9
 cT:=by kernel_rfl
 cS:=by kernel_rfl
 cI:=by kernel_rfl
 cZ:=by kernel_rfl
 bT:=of_decide_eq_true (by kernel_rfl)
 uA:=⟨_,_,_,_,_,_,_,_,Tryz.underlying39,⟨rfl,rfl⟩,⟨rfl,rfl⟩,⟨rfl,rfl⟩,⟨rfl,rfl⟩,⟨rfl,rfl⟩,⟨rfl,rfl⟩,⟨rfl,rfl⟩,⟨rfl,rfl⟩⟩
 uL:=Tryz.underlying22
 uB:=Tryz.underlying4
 uR:=Tryz.underlying37
 cA:=by kernel_rfl
 cB:=by kernel_rfl
 cR:=by kernel_rfl
 bA:=of_decide_eq_true (by kernel_rfl)
 bZ:=of_decide_eq_true (by kernel_rfl)
theorem own:ownKnob Tryz.prog.godebug=none:=by kernel_rfl
theorem laidOut:laidOutB Tryz.prog=true:=by kernel_rfl
theorem alP {W:World} (h:laidMetH Tryz.prog Rows.owlCutRow.laid W):uM P0.glob (g0 W):=by
 have h':laidMet Tryz.prog Rows.owlCutRow.laid W:=h;obtain ⟨ps,hl,_⟩:=h';exact ahp hl (by simp [Rows.owlCutRow]) (by simp [Rows.owlCutRow]) (by simp [Rows.owlCutRow])
theorem contract (H:Type) (enc:TypeId×Value→H) (W:World) (b0:Nat) (args:Array Value) (ds gs:List (DataW H)) (a9:List MemPlace)
  (x:∀(j:Nat) t v,Tryz.f6.params[j]?=some t→args[j]?=some v→Value.okWide Tryz.prog W .any b0 t v)
  (hW:DataW.Whole enc Tryz.prog Tryz.f6.params.toList Rows.owlCutSpec.vars false W args.toList ds gs a9)
  (Y:(DataW.weightsEach Tryz.prog (Tryz.f6.params.toList++Rows.owlCutSpec.plain.varTypes Tryz.prog) (ds++gs)).all (·≤reachBytes)=true)
  (hL:laidMetH Tryz.prog Rows.owlCutRow.laid W):
  Calls Tryz.prog 6 args W fun e W'=>∃v,e=.returned v∧Rows.owlCutSpec.post enc Tryz.prog Tryz.f6 false true false false W args v W':=by
 have P:=hW;obtain ⟨p,q,J,hV,rfl,a4,a8⟩:=hW;have hA:DataW.TrodAll enc Tryz.prog W 0 (fun _=>true) true Tryz.f6.params.toList args.toList ds p:=J;rw [Tryz.params6] at hA x Y;obtain ⟨v0,a1,d0,a5,p0,q0,R,rfl,rfl,t0,r0⟩:=trodAll_cons hA;obtain ⟨v1,a7,d1,a3,p1,q1,rfl,rfl,rfl,t1,r1⟩:=trodAll_cons r0;obtain ⟨v2,Z,d2,a0,p2,q2,rfl,rfl,rfl,t2,r2⟩:=trodAll_cons r1;obtain ⟨rfl,rfl,rfl⟩:=trodAll_nil r2;obtain rfl:args=#[v0,v1,v2]:=by cases args;simp_all
 obtain ⟨Q,O⟩:=JS Y;obtain ⟨S,K⟩:=JS O;obtain ⟨a2,a6⟩:=JS K;obtain ⟨x0,n0,h0,e0⟩:=ZV aty (x 0 22 v0 rfl rfl) t0 Q;obtain ⟨x1,h1,e1⟩:=aek Tryz.underlying9 (x 1 9 v1 rfl rfl) t1 S;obtain ⟨x2,h2,e2⟩:=ael Tryz.underlying41 (x 2 41 v2 rfl rfl) t2;have I:=adI false x0 n0 h0 x1 (by omega) x2 h2 (agq P0 300 _ _ _ _ _ aiP (by simp)) ⟨0,0⟩;refine (top aiV rfl rfl I (.cons e0 (.cons e1 (.cons e2 (.nil _ _)))) (alP hL)).mono fun e W' he=>?_;obtain ⟨rfl,hk,A⟩:=he;obtain ⟨rfl,rfl⟩:=trodVars_none hV
 refine ⟨_,rfl,acB (B:=4) laidOut (by rw [Tryz.params6];intro t ht;simp at ht;rcases ht with rfl|rfl|rfl<;>exact ⟨by kernel_rfl,of_decide_eq_true (by kernel_rfl)⟩) P rfl rfl (by kernel_rfl) Tryz.underlying4 hk A⟩
noncomputable def aal (k:Nat) (cs:Array Value) (h:Array Obj):Array Obj:=h.modify k fun
 | .cells _ u frozen=>.cells cs u frozen
 | o=>o
def Hl:Array Value:=#[.bool false,.bool false,.bool false,.bool false,.bool false,.int .i64 0,.int .i64 0,.bool true,.bool true,.bool false,.bool false,.bool false,.int .i64 0,.int .i64 0,.bool true,.bool true,.bool false,.bool false,.bool false,.int .i64 0,.int .i64 0,.bool true,.bool true,.bool false,.bool false,.bool false,.int .i64 0,.int .i64 0,.bool false,.bool true,.bool true,.bool false,.bool false,.int .i64 0,.int .i64 0,.bool false,.bool false,.bool true,.bool false,.bool false,.int .i64 1,.int .i64 1,.bool false,.bool false,.bool true,.bool false,.bool false,.int .i64 2,.int .i64 4,.bool false,.bool false,.bool true,.bool false,.bool false,.int .i64 0,.int .i64 0,.bool false,.bool true,.bool false,.bool true,.bool false,.int .i64 0,.int .i64 0,.bool false,.bool false,.bool true,.bool true,.bool true,.int .i64 0,.int .i64 0]
def aju:Array Value:=#[.int .i64 0,.int .i64 0,.int .i64 0,.bool false,.int .i64 0,.int .i64 0,.int .i64 0,.bool false,.int .i64 0,.int .i64 0,.int .i64 0,.bool false,.int .i64 1,.int .i64 0,.int .i64 0,.bool false,.int .i64 2,.int .i64 0,.int .i64 0,.bool false,.int .i64 0,.int .i64 2,.int .i64 8,.bool false,.int .i64 1,.int .i64 1,.int .i64 1,.bool false,.int .i64 1,.int .i64 0,.int .i64 0,.bool true]
def cells4:Array Value:=#[.iface 195 (.pointer (some ⟨13,0,none⟩))]
def cells5:Array Value:=#[.iface 195 (.pointer (some ⟨14,0,none⟩))]
def cells3:Array Value:=#[.int .u64 1,.int .u64 10,.int .u64 100,.int .u64 1000,.int .u64 10000,.int .u64 100000,.int .u64 1000000,.int .u64 10000000,.int .u64 100000000,.int .u64 1000000000,.int .u64 10000000000,.int .u64 100000000000,.int .u64 1000000000000,.int .u64 10000000000000,.int .u64 100000000000000,.int .u64 1000000000000000,.int .u64 10000000000000000,.int .u64 100000000000000000,.int .u64 1000000000000000000,.int .u64 10000000000000000000]
def ajs:Array Value:=#[.int .u8 0,.int .u8 1,.int .u8 56,.int .u8 2,.int .u8 57,.int .u8 49,.int .u8 28,.int .u8 3,.int .u8 61,.int .u8 58,.int .u8 42,.int .u8 50,.int .u8 38,.int .u8 29,.int .u8 17,.int .u8 4,.int .u8 62,.int .u8 47,.int .u8 59,.int .u8 36,.int .u8 45,.int .u8 43,.int .u8 51,.int .u8 22,.int .u8 53,.int .u8 39,.int .u8 33,.int .u8 30,.int .u8 24,.int .u8 18,.int .u8 12,.int .u8 5,.int .u8 63,.int .u8 55,.int .u8 48,.int .u8 27,.int .u8 60,.int .u8 41,.int .u8 37,.int .u8 16,.int .u8 46,.int .u8 35,.int .u8 44,.int .u8 21,.int .u8 52,.int .u8 32,.int .u8 23,.int .u8 11,.int .u8 54,.int .u8 26,.int .u8 40,.int .u8 15,.int .u8 34,.int .u8 20,.int .u8 31,.int .u8 10,.int .u8 25,.int .u8 14,.int .u8 19,.int .u8 9,.int .u8 13,.int .u8 8,.int .u8 7,.int .u8 6]
def ajt:Array Value:=#[.int .u8 0,.int .u8 1,.int .u8 28,.int .u8 2,.int .u8 29,.int .u8 14,.int .u8 24,.int .u8 3,.int .u8 30,.int .u8 22,.int .u8 20,.int .u8 15,.int .u8 25,.int .u8 17,.int .u8 4,.int .u8 8,.int .u8 31,.int .u8 27,.int .u8 13,.int .u8 23,.int .u8 21,.int .u8 19,.int .u8 16,.int .u8 7,.int .u8 26,.int .u8 12,.int .u8 18,.int .u8 6,.int .u8 11,.int .u8 5,.int .u8 10,.int .u8 9]
noncomputable def laidWorld (os:Os):World:=
 { World.holding Tryz.prog os ⟨#[.cells #[.string ⟨#[105,110,118,97,108,105,100,32,115,121,110,116,97,120]⟩] 197 (0,0),.cells #[.string ⟨#[118,97,108,117,101,32,111,117,116,32,111,102,32,114,97,110,103,101]⟩] 197 (0,0)],#[],[]⟩ with heap:=(aal 6 ajt (aal 7 ajs (aal 3 cells3 (aal 5 cells5 (aal 4 cells4 (aal 1 aju (aal 0 Hl (World.holding Tryz.prog os ⟨#[.cells #[.string ⟨#[105,110,118,97,108,105,100,32,115,121,110,116,97,120]⟩] 197 (0,0),.cells #[.string ⟨#[118,97,108,117,101,32,111,117,116,32,111,102,32,114,97,110,103,101]⟩] 197 (0,0)],#[],[]⟩).heap))))))) }
def arg0:Value:=.slice none 0 0
def arg1:Value:=.string ⟨#[]⟩
def ahS:Value:=.int .u64 0
set_option maxRecDepth 100000 in
theorem laid_met (os:Os):laidMet Tryz.prog Rows.owlCutRow.laid ((laidWorld os).forCall (fun _ _=>0) ⟨#[],#[arg0,arg1,ahS],[]⟩).memory:=
 laidMet_of_run' 8 (by kernel_rfl) (by kernel_rfl)
set_option maxRecDepth 100000 in
theorem reads (os:Os) {H:Type} (enc:TypeId×Value→H):∃places,DataW.whole enc Tryz.prog ((laidWorld os).forCall (fun _ _=>0) ⟨#[],#[arg0,arg1,ahS],[]⟩).memory Tryz.f6.params.toList Rows.owlCutSpec.vars false #[arg0,arg1,ahS].toList 8=
  some ([.nil,.lit (.string []),.lit (.int .u64 0)],[],places):=
 ⟨[],by kernel_rfl⟩
set_option maxRecDepth 100000 in
theorem lifted (os:Os) (A:os.Started) (H:Type) (enc:TypeId×Value→H) (F:Stop.Interp):
  ReturnsInHanded {} Tryz.checked os 6 .any ((OpenSpec.ofChange Rows.owlCutSpec).preRow enc Tryz.prog Tryz.f6 Rows.owlCutRow.domain false Rows.owlCutRow.laid) (((OpenSpec.ofChange Rows.owlCutSpec).at F).post enc Tryz.prog Tryz.f6 false true false false):=by
 obtain ⟨J,hx⟩:=reads os enc
 refine returnsInHanded_of_row (C:=Tryz.checked) (s:=OpenSpec.ofChange Rows.owlCutSpec) own A (by kernel_rfl) Tryz.func6
  (witness_row_at (enc:=enc) (C:=Tryz.checked) false (laidWorld os) #[arg0,arg1,ahS] rfl (by kernel_rfl) (by kernel_rfl) (by kernel_rfl)
   (OpenSpec.preRow_of_cond 8 hx (by kernel_rfl) (fun k hk=>by cases hk) (by kernel_rfl) (laid_met os))) ?_
 intro W I args ds gs p x hW _ _ K hL _ _;exact contract H enc W I args ds gs p x hW K hL
theorem j1:(Rows.owlCutRow.inPlace == Tryz.prog.inPlace 6)=true:=by kernel_rfl
theorem j2:(Rows.owlCutRow.unfollowed == Tryz.prog.unfollowed 6)=true:=by kernel_rfl
theorem j3:(Rows.owlCutRow.recurses == Tryz.prog.recurses 6)=true:=by kernel_rfl
theorem j4:(Rows.owlCutRow.named == Tryz.prog.varsNamed 6)=true:=by kernel_rfl
theorem j6:mapsRowed Tryz.prog=true:=by kernel_rfl
theorem j7:Rows.owlCutRow.wf (OpenSpec.ofChange (OpenSpec.ofChange Rows.owlCutSpec).bare)=true:=by kernel_rfl
set_option maxRecDepth 100000 in
theorem closed:joinedFacts Tryz.prog 6 Tryz.f6 (OpenSpec.ofChange Rows.owlCutSpec).bare Rows.owlCutRow=true:=by
 unfold joinedFacts;rw [j1,j2,j3,j4,j6,j7]
 kernel_rfl
theorem wbt:Rows.owlCutRow.wfByText (OpenSpec.ofChange Rows.owlCutSpec)=true:=by kernel_rfl
theorem goes:false=Rows.owlCutRow.goesBy Tryz.prog:=by kernel_rfl
theorem looks:true=Tryz.prog.looks []:=by kernel_rfl
set_option maxRecDepth 100000 in
theorem said:Rows.OwlCutSaid:=
 OpenClaim.holds_of_cond 6 Tryz.f6 rfl rfl rfl rfl rfl rfl rfl ⟨rfl,rfl,rfl,rfl,rfl⟩ rfl rfl rfl rfl rfl (by kernel_rfl) Tryz.func6 closed
  (of_decide_eq_true (by kernel_rfl)) (by unfold Func.isWrapper;first | (rw [if_pos (by decide +kernel)];kernel_rfl) | (rw [if_neg (by decide +kernel)];exact ⟨rfl,rfl⟩))
  (fun os p H enc _ F=>by rw [OpenClaim.pre_eq_preRow];exact lifted os p H enc F)
theorem plain (f:FuncId) (fn:Func) (hf:Tryz.pinned.checked.prog.funcNamed "veilstone/veilstonelaw05.OwlCut"=some f) (p:Tryz.pinned.checked.prog.funcs[f]?=some fn):
  true=Tryz.pinned.checked.prog.looks []∧∀(j:Nat) t,fn.params[j]?=some t→Tryz.pinned.checked.prog.wantsStandIn t=false:=by
 obtain rfl:f=6:=Option.some.inj ((show Tryz.prog.funcNamed "veilstone/veilstonelaw05.OwlCut"=some 6 by kernel_rfl).symm.trans hf) |>.symm
 obtain rfl:fn=Tryz.f6:=(Option.some.inj (Tryz.func6.symm.trans p)).symm;refine ⟨looks,fun j t ht=>?_⟩;rw [Tryz.params6] at ht;have hm:t=22∨t=9∨t=41:=by simpa using Array.mem_of_getElem? ht
 rcases hm with rfl|rfl|rfl
 ·exact (show Tryz.prog.wantsStandIn 22=false by kernel_rfl)
 ·exact (show Tryz.prog.wantsStandIn 9=false by kernel_rfl)
 ·exact (show Tryz.prog.wantsStandIn 41=false by kernel_rfl)
theorem owlCut_card:Rows.OwlCutCardSaid:=
 Claim7.holds_tied_plain_at .later [] _ _ _ _ said (fun _ h=>by cases h) wbt (fun _ h=>by cases h) owlCut_row_tie rfl ⟨rfl,rfl⟩ (by kernel_rfl) rfl plain goes
#print axioms owlCut_card
end Go.Proofs.YtcofenimejmoeaaGreatDoor
