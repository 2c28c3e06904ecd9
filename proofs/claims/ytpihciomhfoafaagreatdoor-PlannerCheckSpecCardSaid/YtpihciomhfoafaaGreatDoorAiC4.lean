/-
 The library's functions, off the shelf.
-/
import Derived.Test.YtpihciomhfoafaaGreatDoorAiB2
import Derived.Test.YtpihciomhfoafaaGreatDoorAiC1
import Derived.Test.YtpihciomhfoafaaGreatDoorAiPIntrH
import Derived.Test.YtpihciomhfoafaaGreatDoorAiPSortS
import Derived.Test.YtpihciomhfoafaaGreatDoorShelf
import Derived.Test.YtpihciomhfoafaaGreatDoorIter
import Derived.Lib.LaidTab
import Derived.Lib.AppendIntMem
import Derived.Lib.Join
set_option maxRecDepth 100000
set_option linter.unusedSimpArgs false
set_option linter.unusedVariables false
set_option linter.unusedSectionVars false
namespace Go.Ai.Z
open Go.Proofs Go.RowKit Go.Maps Go.Sort Go.Shelf
variable {P:Program} {glob:Nat→Option (List AV)}
theorem Dz {w w':World} (h:Below w.heap.size w w'):Grew False w w':=⟨h.size,h.block,h.os,h.output,fun hF=>hF.elim⟩
theorem QF {qt:Prop} (w:World):Grew qt w w:=⟨Nat.le_refl _,fun _ _=>rfl,rfl,rfl,fun _=>⟨rfl,Nat.le_refl _⟩⟩
theorem S9 {qt:Prop} {f:FuncId} {h:List AV→Option AV} (hf:∃rf,P.funcs[f]?=some rf∧(rf.name == "runtime.NumGoroutine")=false∧rf.body.isNone=false)
  (H:∀args r,h args=some r→∀g n w vs,Imm g w→mF glob g→aB g n vs.toList args→Calls P f vs w fun e w'=>∃v,e=.returned v∧Grew qt w w'∧Rep g n v r):J6 qt P glob f h:=by
 refine ⟨hf,fun args r hr g n w vs hi hg hv m=>callsIn_wide.2 ((H args r hr g n w vs hi hg hv).mono fun e w' he=>?_)⟩
 obtain ⟨v,rfl,hgr,hrep⟩:=he
 exact ⟨v,g,rfl,hgr,.refl _ _,rfl,rfl,fun _ _=>⟨rfl,rfl⟩,hi.grew hgr,hrep⟩
theorem SE {g:af} {n:Nat} {vs:Array Value} {a:AV} (h:aB g n vs.toList [a]):∃v,vs=#[v]∧Rep g n v a:=by
 obtain ⟨l⟩:=vs
 match l,h.1 with
 | [v],_=>exact ⟨v,rfl,h.head⟩
theorem SC {g:af} {n:Nat} {vs:Array Value} {a b:AV} (h:aB g n vs.toList [a,b]):∃u v,vs=#[u,v]∧Rep g n u a∧Rep g n v b:=by
 obtain ⟨l⟩:=vs
 match l,h.1 with
 | [u,v],_=>exact ⟨u,v,rfl,h.head,h.tail.head⟩
theorem WV:J6 False Tryz.prog glob 320 Ur:=by
 refine S9 ⟨Tryz.f320,Tryz.func320,by kernel_rfl,by kernel_rfl⟩ fun args r hr g n w vs hi hg hv=>?_
 unfold Ur at hr
 split at hr
 ·rename_i l b
  cases hr
  obtain ⟨u,v,rfl,r1,r2⟩:=SC hv
  cases r1
  cases r2
  refine (Tryz.stringslite_Index_one ⟨l.toArray⟩ b w).mono fun e w' he=>?_
  obtain ⟨rfl,rfl⟩:=he
  exact ⟨_,rfl,QF _,by simpa using Rep.i .i64 (Lib.indexByte l b)⟩
 ·cases hr
theorem Ug:Zr Tryz.prog glob 70 .sortS:=
 WS (fun blk off cap ss w h1 h2 h3=>Tryz.slices_Sort_string blk off cap ss w h1 h2 h3) (fun p cap w=>Tryz.slices_Sort_string_none p cap w) ⟨Tryz.f70,Tryz.func70,by kernel_rfl,by kernel_rfl⟩
theorem Uh {qt:Prop}:J6 qt Tryz.prog glob 84 O1:=by
 refine S9 ⟨Tryz.f84,Tryz.func84,by kernel_rfl,by kernel_rfl⟩ fun args r hr g n w vs hi hg hv=>?_
 unfold O1 at hr
 split at hr
 ·rename_i l b
  cases hr
  obtain ⟨u,v,rfl,r1,r2⟩:=SC hv
  cases r1
  cases r2
  refine (Tryz.strings_Compare ⟨l.toArray⟩ ⟨b.toArray⟩ w).mono fun e w' he=>?_
  obtain ⟨rfl,rfl⟩:=he
  exact ⟨_,rfl,QF _,by simpa using Rep.i .i64 (Lib.compareBytes l b)⟩
 ·cases hr
theorem Vs {g:af} {n:Nat} {v:Value} {m:AV} (h:Rep g n v m) (hm:Um m=true):∃mb,v=.map mb:=by
 cases m<;>simp [Um] at hm<;>cases h<;>exact ⟨_,rfl⟩
theorem UW {f it mt:Nat} (hf:∃rf,P.funcs[f]?=some rf∧(rf.name == "runtime.NumGoroutine")=false∧rf.body.isNone=false)
  (H:∀(mb:Option Nat) (W:World) (m:Nat),CallsIn Fence.wide m P f #[.map mb] W fun e w'=>e=.returned (.func (.func it) #[] #[.pointer (some ⟨W.heap.size,0,none⟩)])∧w'=W.alloc (.cells #[.map mb] mt)):FV False P glob f (QE it):=by
 refine ⟨hf,fun args s r hr g w vs hb hv m=>?_⟩
 unfold QE at hr
 split at hr
 ·rename_i a s
  split at hr
  ·rename_i hm
   cases hr
   obtain ⟨v,rfl,r1⟩:=SE hv
   obtain ⟨mb,rfl⟩:=Vs r1 hm
   refine (H mb w m).mono fun e w' he=>?_
   obtain ⟨rfl,rfl⟩:=he
   obtain ⟨g',q1,q2,q3,q4,q5,q6⟩:=Xc (ty:=mt) hb r1
   refine ⟨_,g',rfl,Grew.alloc w _,q1,q2,q3,q4,q5,.fn _ _ _ _ _ rfl rfl (fun i hi=>by simp at hi) (fun i hi hi'=>?_)⟩
   match i,hi with
   | 0,_=>exact q6
  ·cases hr
 ·cases hr
theorem Vp {f kt:Nat} {ks:List Nat} (hk:P.underlying kt=some .string) (hf:∃rf,P.funcs[f]?=some rf∧(rf.name == "runtime.NumGoroutine")=false∧rf.body.isNone=false)
  (H:∀it∈ks,∀(Bm b:Nat) (D0:DataW Unit) (R:Value→Option (DataW Unit×List MemPlace)) (nn:Nat) (w:World) (m:Nat),Bm<w.heap.size→w.cell? ⟨Bm,0,none⟩=some (.map (some b))→w.ownsMap P kt R b nn D0→Maps.size D0≤maxLen→Maps.size D0 * 16≤140737488355328→
   CallsIn Fence.wide m P f #[.func (.func it) #[] #[.pointer (some ⟨Bm,0,none⟩)]] w fun e w'=>∃(v:Value) (ss:List (List UInt8)),e=.returned v∧ss.Perm (strKeys D0)∧
    w'.ownsRow w.heap.size kt 1 v ss.length ((ss.mergeSort (fun x y=>decide (x≤y))).map encStr)∧(v=.slice none 0 0 ↔ ss=[])∧Below w.heap.size w w')
  (H0:∀it∈ks,∀(Bm:Nat) (w:World) (m:Nat),Bm<w.heap.size→w.cell? ⟨Bm,0,none⟩=some (.map none)→
   CallsIn Fence.wide m P f #[.func (.func it) #[] #[.pointer (some ⟨Bm,0,none⟩)]] w fun e w'=>∃(v:Value) (ss:List (List UInt8)),e=.returned v∧ss=[]∧
    w'.ownsRow w.heap.size kt 1 v ss.length ((ss.mergeSort (fun x y=>decide (x≤y))).map encStr)∧(v=.slice none 0 0 ↔ ss=[])∧Below w.heap.size w w'):FV False P glob f (NG ks):=by
 refine ⟨hf,fun args s r hr g w vs hb hv m=>?_⟩
 unfold NG at hr
 split at hr
 case h_2=>cases hr
 rename_i _ it mv
 split at hr
 case isFalse=>cases hr
 rename_i hit
 have hit':it∈ks:=by simpa using hit
 simp only [Option.bind_eq_some_iff] at hr
 obtain ⟨l,hl,hr⟩:=hr
 split at hr
 case isFalse=>cases hr
 rename_i hc
 cases hr
 obtain ⟨v,rfl,r1⟩:=SE hv
 cases r1 with
 | fn _ us ws _ _ hl1 hl2 ra rc=>
  have has:us=#[]:=Array.eq_empty_of_size_eq_zero (by simpa using hl1)
  subst has
  obtain ⟨p,rfl⟩:∃p,ws=#[p]:=by
   obtain ⟨ws⟩:=ws
   match ws,hl2 with
   | [p],_=>exact ⟨p,rfl⟩
  have rp:=rc 0 (by simp) (by simp)
  simp at rp
  cases rp with
  | kb bk c _ hm rm=>
   have hcell:=hb.imm.m bk 0 c hm
   have hbk:bk<w.heap.size:=World.block_lt_of_cell? w ⟨bk,0,none⟩ hcell
   have hnd:l.Nodup:=(C9 l).nodup_iff.1 (GK _ hc.1 |>.imp fun {a b} hab he=>by subst he;exact List.lt_irrefl a hab)
   have common:∀(e:Ending) (w':World),(∃(v:Value) (ss:List (List UInt8)),e=.returned v∧ss.Perm l∧w'.ownsRow w.heap.size kt 1 v ss.length ((ss.mergeSort (fun x y=>decide (x≤y))).map encStr)∧(v=.slice none 0 0 ↔ ss=[])∧Below w.heap.size w w')→
     ∃v g',e=.returned v∧Grew False w w'∧g.le s.length g' s.length∧g'.L=g.L∧g'.hist=g.hist∧(∀b,b<w.heap.size→g'.m b=g.m b∧g'.mm b=g.mm b)∧Imm g' w'∧Rep g' s.length v (slS (zD l)):=by
    rintro e w' ⟨v,ss,rfl,hp,hrow,hnil,hbl⟩
    have hms:ss.mergeSort (fun x y=>decide (x≤y))=zD l:=by
     have h1:=mergeSort_of_perm hp
     have h2:=mergeSort_of_perm (C9 l)
     have h3:(zD l).mergeSort leB=zD l:=by
      apply List.mergeSort_of_pairwise
      exact (Jr l).imp fun {a b} hab=>by simpa [leB] using hab
     exact (h1.trans h2.symm).trans h3
    rw [hms] at hrow
    by_cases h0:ss=[]
    ·have hv0:=hnil.2 h0
     subst hv0
     have hl0:l=[]:=by subst h0;exact List.Perm.nil_eq hp |>.symm
     subst hl0
     exact ⟨_,g,rfl,Dz hbl,.refl _ _,rfl,rfl,fun _ _=>⟨rfl,rfl⟩,hb.imm.grew (Dz hbl),.ns⟩
    ·have hlen:ss.length=(zD l).length:=by rw [hp.length_eq,(C9 l).length_eq]
     rw [hlen] at hrow
     have hne:zD l≠[]:=fun h=>h0 (List.eq_nil_of_length_eq_zero (by rw [hlen,h];rfl))
     obtain ⟨g',q1,q2,q3,q4,q5,q6⟩:=Vt hb (Dz hbl) hrow hne
     have hsl:slS (zD l)=.sl ((zD l).map .s):=by
      cases hi:zD l with
      | nil=>exact absurd hi hne
      | cons a r=>rfl
     exact ⟨v,g',rfl,Dz hbl,q1,q2,q3,q4,q5,by rw [hsl];exact q6⟩
   rcases SV hb rm hl with ⟨rfl,rfl⟩|⟨b,ents,clock,ks',rfl,q1,q2,q3,q4⟩
   ·refine (H0 it hit' bk w m hbk hcell).mono fun e w' he=>common e w' ?_
    obtain ⟨v,ss,h1,rfl,h3⟩:=he
    exact ⟨v,[],h1,.refl _,h3⟩
   ·have hnd':ks'.Nodup:=q4.nodup_iff.2 hnd
    obtain ⟨D0,d1,d2,d3⟩:=Vm hk q1 q2 q3 hnd' (by rw [q4.length_eq];exact hc.2.1) (fun x hx=>hc.2.2 x (q4.mem_iff.1 hx))
    have hlen:=q4.length_eq
    have hl2:=hc.2.1
    refine (H it hit' bk b D0 _ _ w m hbk hcell d1 (by rw [d3];simp only [maxLen];omega) (by rw [d3];omega)).mono fun e w' he=>common e w' ?_
    obtain ⟨v,ss,h1,h2,h3⟩:=he
    exact ⟨v,ss,h1,(h2.trans d2).trans q4,h3⟩
theorem Q5 (m:Nat):AnyZ.SortsIn Tryz.prog Tryz.sorted163_ren Fence.wide m:=
 ⟨fun blk off cap ss W hH hblk hsz=>callsIn_wide.2 (AnyM.slices_Sort_string Tryz.sort70 blk off cap ss W hH hblk hsz),
  fun p cap W=>callsIn_wide.2 (AnyM.slices_Sort_string_none Tryz.sort70 p cap W)⟩
theorem WU:FV False Tryz.prog glob 165 (QE 256):=
 UW ⟨Tryz.f165,Tryz.func165,by kernel_rfl,by kernel_rfl⟩ (fun mb W m=>AnyZ.keys_in Tryz.keys165 Fence.wide m trivial rfl mb W)
theorem WT:FV False Tryz.prog glob 164 (QE 255):=
 UW ⟨Tryz.f164,Tryz.func164,by kernel_rfl,by kernel_rfl⟩ (fun mb W m=>AnyZ.keys_in Tryz.keys164 Fence.wide m trivial rfl mb W)
theorem Uf:FV False Tryz.prog glob 163 (NG [256,255]):=by
 refine Vp (kt:=9) (by kernel_rfl) ⟨Tryz.f163,Tryz.func163,by kernel_rfl,by kernel_rfl⟩ ?_ ?_
 ·intro it hit Bm b D0 R nn w m hBm hcell hown hmax hbytes
  simp at hit
  rcases hit with rfl|rfl
  ·have hseq:=AnyZ.keys_gives (ρ:=Tryz.keys165_ren) { Tryz.keys165 with } Fence.wide 2 trivial rfl (by omega) Bm b nn D0 w hBm hcell hown
   exact callsIn_wide.2 ((callsIn_wide (n:=5)).1 (AnyZ.sorted_in Tryz.sorted163 Fence.wide 5 trivial trivial trivial trivial rfl (by omega) (Q5 _) (enters_of Tryz.func70 (by kernel_rfl) rfl) 256 #[.pointer (some ⟨Bm,0,none⟩)] trivial (enters_of Tryz.func256 (by kernel_rfl) rfl) _ _ hmax hbytes w hseq))
  ·have hseq:=AnyZ.keys_gives (ρ:=Tryz.keys164_ren) { Tryz.keys164 with } Fence.wide 2 trivial rfl (by omega) Bm b nn D0 w hBm hcell hown
   exact callsIn_wide.2 ((callsIn_wide (n:=5)).1 (AnyZ.sorted_in Tryz.sorted163 Fence.wide 5 trivial trivial trivial trivial rfl (by omega) (Q5 _) (enters_of Tryz.func70 (by kernel_rfl) rfl) 255 #[.pointer (some ⟨Bm,0,none⟩)] trivial (enters_of Tryz.func255 (by kernel_rfl) rfl) _ _ hmax hbytes w hseq))
 ·intro it hit Bm w m hBm hcell
  simp at hit
  rcases hit with rfl|rfl
  ·have hseq:=AnyZ.keys_gives_nil (ρ:=Tryz.keys165_ren) { Tryz.keys165 with } Fence.wide 2 trivial rfl Bm w hBm hcell
   exact callsIn_wide.2 ((callsIn_wide (n:=5)).1 (AnyZ.sorted_in Tryz.sorted163 Fence.wide 5 trivial trivial trivial trivial rfl (by omega) (Q5 _) (enters_of Tryz.func70 (by kernel_rfl) rfl) 256 #[.pointer (some ⟨Bm,0,none⟩)] trivial (enters_of Tryz.func256 (by kernel_rfl) rfl) _ 0 (Nat.zero_le _) (by omega) w hseq))
  ·have hseq:=AnyZ.keys_gives_nil (ρ:=Tryz.keys164_ren) { Tryz.keys164 with } Fence.wide 2 trivial rfl Bm w hBm hcell
   exact callsIn_wide.2 ((callsIn_wide (n:=5)).1 (AnyZ.sorted_in Tryz.sorted163 Fence.wide 5 trivial trivial trivial trivial rfl (by omega) (Q5 _) (enters_of Tryz.func70 (by kernel_rfl) rfl) 255 #[.pointer (some ⟨Bm,0,none⟩)] trivial (enters_of Tryz.func255 (by kernel_rfl) rfl) _ 0 (Nat.zero_le _) (by omega) w hseq))
end Go.Ai.Z
