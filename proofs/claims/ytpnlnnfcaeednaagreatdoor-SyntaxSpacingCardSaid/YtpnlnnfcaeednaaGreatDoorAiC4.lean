/-
 The library's functions, off the shelf.
-/
import Derived.Test.YtpnlnnfcaeednaaGreatDoorAiB2
import Derived.Test.YtpnlnnfcaeednaaGreatDoorAiC1
import Derived.Test.YtpnlnnfcaeednaaGreatDoorAiPZTry
import Derived.Test.YtpnlnnfcaeednaaGreatDoorAiPSortOK
import Derived.Test.YtpnlnnfcaeednaaGreatDoorShelf
import Derived.Test.YtpnlnnfcaeednaaGreatDoorIterC
import Derived.Lib.AtoiTie
set_option maxRecDepth 100000
set_option linter.unusedSimpArgs false
set_option linter.unusedVariables false
set_option linter.unusedSectionVars false
namespace Go.Ai.Z
open Go.Proofs Go.RowKit
variable {P:Program} {glob:Nat→Option (List AV)}
theorem L8 {qt:Prop} (w:World):Grew qt w w:=⟨Nat.le_refl _,fun _ _=>rfl,rfl,rfl,fun _=>⟨rfl,Nat.le_refl _⟩⟩
theorem QZ {qt:Prop} {f:FuncId} {h:List AV→Option AV} (hf:∃rf,P.funcs[f]?=some rf∧(rf.name == "runtime.NumGoroutine")=false∧rf.body.isNone=false)
  (H:∀args r,h args=some r→∀g n w vs,Imm g w→sQ glob g→dF g n vs.toList args→Calls P f vs w fun e w'=>∃v,e=.returned v∧Grew qt w w'∧Rep g n v r):G8 qt P glob f h:=by
 refine ⟨hf,fun args r hr g n w vs hi hg hv m=>callsIn_wide.2 ((H args r hr g n w vs hi hg hv).mono fun e w' he=>?_)⟩
 obtain ⟨v,rfl,hgr,hrep⟩:=he
 exact ⟨v,g,rfl,hgr,.refl _ _,rfl,rfl,fun _ _=>⟨rfl,rfl⟩,hi.grew hgr,hrep⟩
theorem acK {g:aj} {n:Nat} {vs:Array Value} {a:AV} (h:dF g n vs.toList [a]):∃v,vs=#[v]∧Rep g n v a:=by
 obtain ⟨l⟩:=vs
 match l,h.1 with
 | [v],_=>exact ⟨v,rfl,h.head⟩
theorem Xe {g:aj} {n:Nat} {vs:Array Value} {a b:AV} (h:dF g n vs.toList [a,b]):∃u v,vs=#[u,v]∧Rep g n u a∧Rep g n v b:=by
 obtain ⟨l⟩:=vs
 match l,h.1 with
 | [u,v],_=>exact ⟨u,v,rfl,h.head,h.tail.head⟩
theorem acW:G8 False Tryz.prog glob 161 Vz:=by
 refine QZ ⟨Tryz.f161,Tryz.func161,by kernel_rfl,by kernel_rfl⟩ fun args r hr g n w vs hi hg hv=>?_
 unfold Vz at hr
 split at hr
 ·rename_i l b
  cases hr
  obtain ⟨u,v,rfl,r1,r2⟩:=Xe hv
  cases r1
  cases r2
  refine (Tryz.stringslite_Index_one ⟨l.toArray⟩ b w).mono fun e w' he=>?_
  obtain ⟨rfl,rfl⟩:=he
  exact ⟨_,rfl,L8 _,by simpa using Rep.i .i64 (Lib.indexByte l b)⟩
 ·cases hr
theorem QC {qt:Prop}:G8 qt Tryz.prog glob 64 y8:=by
 refine QZ ⟨Tryz.f64,Tryz.func64,by kernel_rfl,by kernel_rfl⟩ fun args r hr g n w vs hi hg hv=>?_
 unfold y8 at hr
 split at hr
 ·rename_i l b
  cases hr
  obtain ⟨u,v,rfl,r1,r2⟩:=Xe hv
  cases r1
  cases r2
  refine (Tryz.strings_Compare ⟨l.toArray⟩ ⟨b.toArray⟩ w).mono fun e w' he=>?_
  obtain ⟨rfl,rfl⟩:=he
  exact ⟨_,rfl,L8 _,by simpa using Rep.i .i64 (Lib.compareBytes l b)⟩
 ·cases hr
theorem aeZ {l:List UInt8} {n:Int} (h:l.length≤18∨(l.length=19∧l.head?=some 45)) (ha:Lib.atoi l=some n):Lib.atoiAll l=.ok n:=by
 rcases h with h|⟨h1,h2⟩
 ·rw [Lib.atoiAll_short l h,ha];rfl
 ·cases l with
  | nil=>simp at h1
  | cons c r=>
   simp at h1 h2
   subst h2
   rw [Lib.atoiAll_minus,Lib.signed_short (by omega)]
   simp only [Lib.atoi] at ha
   rw [if_pos (by decide)] at ha
   rw [ha];rfl
theorem aer:G8 False Tryz.prog glob 156 XC:=by
 refine QZ ⟨Tryz.f156,Tryz.func156,by kernel_rfl,by kernel_rfl⟩ fun args r hr g n w vs hi hg hv=>?_
 unfold XC at hr
 split at hr
 ·rename_i l
  split at hr
  ·rename_i hz
   obtain ⟨z,hz2,rfl⟩:=Option.map_eq_some_iff.1 hr
   obtain ⟨u,rfl,r1⟩:=acK hv
   cases r1
   refine (Any.strconv_Atoi_ok Tryz.laysC172 ⟨l.toArray⟩ (by simp [ByteArray.size];omega) z (by simpa using aeZ hz hz2) w).mono fun e w' he=>?_
   obtain ⟨rfl,hw⟩:=he
   have hrep:Rep g n (.tuple #[.int .i64 z,.nilIface]) (.tu [.i .i64 z,.ni]):=.tu _ _ rfl fun i hi hi'=>(by
    match i,hi with
    | 0,_=>exact .i _ _
    | 1,_=>exact .ni)
   rcases hw with rfl|⟨t,rfl⟩
   ·exact ⟨_,rfl,L8 _,hrep⟩
   ·exact ⟨_,rfl,⟨by rw [Lib.bytesWorld_size];omega,fun b hb=>Lib.bytesWorld_at_old w _ t b hb,rfl,rfl,fun hF=>hF.elim⟩,hrep⟩
  ·cases hr
 ·cases hr
theorem aep:ae8 Tryz.prog glob 132 (.sortK 7):=
 acV Tryz.sort132 7 (fun w=>by kernel_rfl) (fun w=>by kernel_rfl) ⟨Tryz.f132,Tryz.func132,by kernel_rfl,by kernel_rfl⟩
end Go.Ai.Z
