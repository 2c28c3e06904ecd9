/-
 The library's functions, off the shelf.
-/
import Derived.Test.YtcofenimejmoeaaGreatDoorAiDf
import Derived.Test.YtcofenimejmoeaaGreatDoorAiC1
import Derived.Test.YtcofenimejmoeaaGreatDoorAiPIntrH
import Derived.Test.YtcofenimejmoeaaGreatDoorAiPSortOK
import Derived.Test.YtcofenimejmoeaaGreatDoorShelf
import Derived.Test.YtcofenimejmoeaaGreatDoorIterC
import Derived.Lib.AtoiTie
import Derived.Lib.LaidTab
import Derived.Lib.AppendIntMem
import Derived.Lib.Join
import Derived.Test.YtcofenimejmoeaaGreatDoorAiC3
import Derived.Test.YtcofenimejmoeaaGreatDoorAiPZDefO
import Derived.Test.YtcofenimejmoeaaGreatDoorRows
set_option maxRecDepth 100000
set_option linter.unusedSimpArgs false
set_option linter.unusedVariables false
set_option linter.unusedSectionVars false
namespace Go.Ai.Z
open Go.Proofs Go.RowKit Go.Maps Go.Sort Go.Shelf
variable {P:Program} {glob:Nat→Option (List AV)}
theorem y7 {w w':World} (h:Below w.heap.size w w'):Grew False w w':=⟨h.size,h.block,h.os,h.output,fun hF=>hF.elim⟩
theorem NY {qt:Prop} (w:World):Grew qt w w:=⟨Nat.le_refl _,fun _ _=>rfl,rfl,rfl,fun _=>⟨rfl,Nat.le_refl _⟩⟩
theorem LY {qt:Prop} {f:FuncId} {h:List AV→Option AV} (hf:∃rf,P.funcs[f]?=some rf∧(rf.name == "runtime.NumGoroutine")=false∧rf.body.isNone=false)
  (H:∀args r,h args=some r→∀g n w vs,Imm g w→uM glob g→aX g n vs.toList args→Calls P f vs w fun e w'=>∃v,e=.returned v∧Grew qt w w'∧Rep g n v r):Fp qt P glob f h:=by
 refine ⟨hf,fun args r hr g n w vs hi hg hv m=>callsIn_wide.2 ((H args r hr g n w vs hi hg hv).mono fun e w' he=>?_)⟩;obtain ⟨v,rfl,p,x⟩:=he;exact ⟨v,g,rfl,p,.refl _ _,rfl,rfl,fun _ _=>⟨rfl,rfl⟩,hi.grew p,x⟩
theorem KW {g:ai} {n:Nat} {vs:Array Value} {a:AV} (h:aX g n vs.toList [a]):∃v,vs=#[v]∧Rep g n v a:=by
 obtain ⟨l⟩:=vs
 match l,h.1 with
 | [v],_=>exact ⟨v,rfl,h.head⟩
theorem X9 {g:ai} {n:Nat} {vs:Array Value} {a b:AV} (h:aX g n vs.toList [a,b]):∃u v,vs=#[u,v]∧Rep g n u a∧Rep g n v b:=by
 obtain ⟨l⟩:=vs
 match l,h.1 with
 | [u,v],_=>exact ⟨u,v,rfl,h.head,h.tail.head⟩
theorem aeF:Fp False Tryz.prog glob 122 Xc:=by
 refine LY ⟨Tryz.f122,Tryz.func122,by kernel_rfl,by kernel_rfl⟩ fun args r hr g n w vs hi hg hv=>?_;unfold Xc at hr
 split at hr
 ·rename_i l b;cases hr;obtain ⟨u,v,rfl,r1,r2⟩:=X9 hv;cases r1;cases r2;refine (Tryz.stringslite_Index_one ⟨l.toArray⟩ b w).mono fun e w' he=>?_;obtain ⟨rfl,rfl⟩:=he;exact ⟨_,rfl,NY _,by simpa using Rep.i .i64 (Lib.indexByte l b)⟩
 ·cases hr
theorem ahc (I:glob 3=some (Lib.pow10Tab.map fun z=>.i .u64 z)):Fp False Tryz.prog glob 134 YH:=by
 refine LY ⟨Tryz.f134,Tryz.func134,by kernel_rfl,by kernel_rfl⟩ fun args r hr g n w vs hi hg hv=>?_;unfold YH at hr
 split at hr
 ·rename_i z
  split at hr
  ·rename_i hz;cases hr;obtain ⟨u,rfl,r1⟩:=KW hv;cases r1
   have x:Lib.TabIs Tryz.prog w "internal/strconv.uint64pow10" .u64 Lib.pow10Tab:=by
    obtain ⟨p,J,ha,hs⟩:=hg 3 _ I;obtain ⟨t,f,hw⟩:=hi.mm _ _ ha
    have hk:Tryz.prog.globalNamed "internal/strconv.uint64pow10"=some 3:=by kernel_rfl
    unfold Lib.TabIs World.var?;simp only [hk,Option.bind_some,hw,Option.some.injEq];generalize hpv:Value.pointer (some ⟨3,0,none⟩)=pv at p
    cases p with
    | ip _ _ _ c hm hr=>
     cases hpv;apply Array.ext
     ·simpa using hs
     ·intro i h1 h2;have A:i<(Lib.pow10Tab.map fun z=>AV.i .u64 z).length:=by simpa using h2
      have q1:=hi.m _ _ _ (hm i A).1;have q2:=hr i A;simp only [List.getElem_map] at q2;simp only [World.cell?,hw,Nat.zero_add,Array.getElem?_eq_getElem h1,Option.some.injEq] at q1;simp at q1;rw [q1];generalize c i=v at q2;cases q2;simp
   refine (Tryz.strconv_Itoa z hz.1 hz.2 w x).mono fun e w' he=>?_;obtain ⟨rfl,k,os,rfl⟩:=he;exact ⟨_,rfl,y7 (Lib.below_grow _ w (Nat.le_refl _) k os),.s _⟩
  ·cases hr
 ·cases hr
theorem ahR {l:Rl} {n:Int} (h:l.length≤18∨(l.length=19∧l.head?=some 45)) (ha:Lib.atoi l=some n):Lib.atoiAll l=.ok n:=by
 rcases h with h|⟨h1,h2⟩
 ·rw [Lib.atoiAll_short l h,ha];rfl
 ·cases l with
  | nil=>simp at h1
  | cons c r=>
   simp at h1 h2;subst h2;rw [Lib.atoiAll_minus,Lib.signed_short (by omega)];simp only [Lib.atoi] at ha;rw [if_pos (by decide)] at ha;rw [ha];rfl
theorem ahe:Fp False Tryz.prog glob 168 YI:=by
 refine LY ⟨Tryz.f168,Tryz.func168,by kernel_rfl,by kernel_rfl⟩ fun args r hr g n w vs hi hg hv=>?_;unfold YI at hr
 split at hr
 ·rename_i l
  split at hr
  ·rename_i hz;obtain ⟨z,x,rfl⟩:=Option.map_eq_some_iff.1 hr;obtain ⟨u,rfl,r1⟩:=KW hv;cases r1;refine (Any.strconv_Atoi_ok Tryz.laysC172 ⟨l.toArray⟩ (by simp [ByteArray.size];omega) z (by simpa using ahR hz x) w).mono fun e w' he=>?_;obtain ⟨rfl,hw⟩:=he
   have p:Rep g n (.tuple #[.int .i64 z,.nilIface]) (.tu [.i .i64 z,.ni]):=.tu _ _ rfl fun i hi A=>(by
    match i,hi with
    | 0,_=>exact .i _ _
    | 1,_=>exact .ni)
   rcases hw with rfl|⟨t,rfl⟩
   ·exact ⟨_,rfl,NY _,p⟩
   ·exact ⟨_,rfl,⟨by rw [Lib.bytesWorld_size];omega,fun b hb=>Lib.bytesWorld_at_old w _ t b hb,rfl,rfl,fun hF=>hF.elim⟩,p⟩
  ·cases hr
 ·cases hr
theorem aac:ajH Tryz.prog glob 47 .sortS:=
 aeD (fun x off cap ss w h1 h2 h3=>Tryz.slices_Sort_string x off cap ss w h1 h2 h3) (fun p cap w=>Tryz.slices_Sort_string_none p cap w) ⟨Tryz.f47,Tryz.func47,by kernel_rfl,by kernel_rfl⟩
theorem abI (l:List Rl) (p:Rl):Lib.join l p=joinL p l:=by
 cases l with
 | nil=>rfl
 | cons x r=>rw [Lib.join_cons];simp [joinL,Lib.joinTail,List.flatMap_def]
theorem ad4 {a:AV} {l:Rl} (h:strOf a=some l):a=.s l:=by
 cases a<;>simp [strOf] at h;rw [h]
theorem aa8:∀{es:List AV} {l:List Rl},es.mapM strOf=some l→es=l.map .s
 | [],l,h=>by simp at h;subst h;rfl
 | a::r,l,h=>by
  simp only [List.mapM_cons,Option.bind_eq_bind,Option.bind_eq_some_iff,Option.pure_def,Option.some.injEq] at h;obtain ⟨x,hx,y,hy,rfl⟩:=h;rw [ad4 hx,aa8 hy];rfl
theorem ahb:Fp False Tryz.prog glob 25 YG:=by
 refine LY ⟨Tryz.f25,Tryz.func25,by kernel_rfl,by kernel_rfl⟩ fun args r hr g n w vs hi hg hv=>?_;unfold YG at hr
 split at hr
 ·rename_i es A;simp only [Option.bind_eq_some_iff] at hr;obtain ⟨l,hl,hr⟩:=hr
  split at hr
  ·rename_i J;cases hr;obtain rfl:=aa8 hl;obtain ⟨u,v,rfl,r1,r2⟩:=X9 hv;cases r2
   have p:∀ad c,l=[]→Calls Tryz.prog 25 #[.slice ad 0 c,.string ⟨A.toArray⟩] w fun e w'=>∃v,e=.returned v∧Grew False w w'∧Rep g n v (.s (joinL A l)):=by
    intro ad c Q;subst Q;refine (Tryz.strings_Join_none ad c ⟨A.toArray⟩ w).mono fun e w' he=>?_;obtain ⟨rfl,rfl⟩:=he;exact ⟨_,rfl,NY _,.s []⟩
   generalize hes:l.map AV.s=es at r1
   cases r1 with
   | slNil=>exact p _ _ (by simpa using hes)
   | slE a=>exact p _ _ (by simpa using hes)
   | sl bk off cap sz _ c hcap hsz hm hrr=>
    subst hes;by_cases h0:l=[]
    ·subst h0;exact p _ _ rfl
    ·have K:0<l.length:=List.length_pos_iff.2 h0;have O:sz=1:=by have:=hsz 0 (by simpa using K);simpa using this.symm
     subst O
     have I:∀(j:Nat) (hj:j<l.length),w.cell? ⟨bk,off+j,none⟩=some (.string ⟨(l[j]).toArray⟩):=by
      intro j hj;have q1:=hi.m _ _ _ (hm j 0 (by simpa using hj) (by omega)).1;have q2:=hrr j (by simpa using hj) 0 (by simp);simp at q1 q2;generalize c j 0=v at q1 q2;cases q2;exact q1
     have P:bk<w.heap.size:=World.block_lt_of_cell? w ⟨bk,off+0,none⟩ (I 0 K);have R:(Lib.join l A).length≤1073741824:=by rw [abI];exact J.1
     have S:=J.2
     have key:=Tryz.strings_Join bk off cap (l.map fun x=>⟨x.toArray⟩) ⟨A.toArray⟩ w (fun j x hx=>by
       simp only [List.getElem?_map,Option.map_eq_some_iff] at hx;obtain ⟨y,hy,rfl⟩:=hx;obtain ⟨hj,rfl⟩:=List.getElem?_eq_some_iff.1 hy
       exact I j hj) P (by simp;omega) (by simpa using hcap) (by simp [Function.comp_def];omega)
     simp only [List.length_map] at key ⊢;refine key.mono fun e w' he=>?_;obtain ⟨rfl,hb⟩:=he;refine ⟨_,rfl,y7 hb, ?_⟩
     have:=Rep.s (g:=g) (n:=n) (joinL A l)
     simpa [Function.comp_def,abI] using this
  ·cases hr
 ·cases hr
theorem acU {g:ai} {n:Nat} {v:Value} {m:AV} (h:Rep g n v m) (hm:aap m=true):∃mb,v=.map mb:=by
 cases m<;>simp [aap] at hm<;>cases h<;>exact ⟨_,rfl⟩
theorem aha {f it mt:Nat} (hf:∃rf,P.funcs[f]?=some rf∧(rf.name == "runtime.NumGoroutine")=false∧rf.body.isNone=false)
  (H:∀(mb:Option Nat) (W:World) (m:Nat),CallsIn Fence.wide m P f #[.map mb] W fun e w'=>e=.returned (.func (.func it) #[] #[.pointer (some ⟨W.heap.size,0,none⟩)])∧w'=W.alloc (.cells #[.map mb] mt)):KI False P glob f (YF it):=by
 refine ⟨hf,fun args s r hr g w vs hb hv m=>?_⟩;unfold YF at hr
 split at hr
 ·rename_i a s
  split at hr
  ·rename_i hm;cases hr;obtain ⟨v,rfl,r1⟩:=KW hv;obtain ⟨mb,rfl⟩:=acU r1 hm;refine (H mb w m).mono fun e w' he=>?_;obtain ⟨rfl,rfl⟩:=he;obtain ⟨g',q1,q2,q3,q4,q5,q6⟩:=afc (ty:=mt) hb r1;refine ⟨_,g',rfl,Grew.alloc w _,q1,q2,q3,q4,q5,.fn _ _ _ _ _ rfl rfl (fun i hi=>by simp at hi) (fun i hi p=>?_)⟩
   match i,hi with
   | 0,_=>exact q6
  ·cases hr
 ·cases hr
theorem acJ {f kt:Nat} {ks:List Nat} (hk:P.underlying kt=some .string) (hf:∃rf,P.funcs[f]?=some rf∧(rf.name == "runtime.NumGoroutine")=false∧rf.body.isNone=false)
  (H:∀it∈ks,∀(Bm b:Nat) (D0:DataW Unit) (R:Value→Option (DataW Unit×List MemPlace)) (nn:Nat) (w:World) (m:Nat),Bm<w.heap.size→w.cell? ⟨Bm,0,none⟩=some (.map (some b))→w.ownsMap P kt R b nn D0→Maps.size D0≤maxLen→Maps.size D0 * 16≤140737488355328→
   CallsIn Fence.wide m P f #[.func (.func it) #[] #[.pointer (some ⟨Bm,0,none⟩)]] w fun e w'=>∃(v:Value) (ss:List Rl),e=.returned v∧ss.Perm (strKeys D0)∧
    w'.ownsRow w.heap.size kt 1 v ss.length ((ss.mergeSort (fun x y=>decide (x≤y))).map encStr)∧(v=.slice none 0 0 ↔ ss=[])∧Below w.heap.size w w')
  (H0:∀it∈ks,∀(Bm:Nat) (w:World) (m:Nat),Bm<w.heap.size→w.cell? ⟨Bm,0,none⟩=some (.map none)→
   CallsIn Fence.wide m P f #[.func (.func it) #[] #[.pointer (some ⟨Bm,0,none⟩)]] w fun e w'=>∃(v:Value) (ss:List Rl),e=.returned v∧ss=[]∧
    w'.ownsRow w.heap.size kt 1 v ss.length ((ss.mergeSort (fun x y=>decide (x≤y))).map encStr)∧(v=.slice none 0 0 ↔ ss=[])∧Below w.heap.size w w'):KI False P glob f (Ic ks):=by
 refine ⟨hf,fun args s r hr g w vs hb hv m=>?_⟩;unfold Ic at hr
 split at hr
 case h_2=>cases hr
 rename_i _ it mv
 split at hr
 case isFalse=>cases hr
 rename_i a1;have Q:it∈ks:=by simpa using a1
 simp only [Option.bind_eq_some_iff] at hr;obtain ⟨l,hl,hr⟩:=hr
 split at hr
 case isFalse=>cases hr
 rename_i hc;cases hr;obtain ⟨v,rfl,r1⟩:=KW hv
 cases r1 with
 | fn _ us ws _ _ hl1 Y ra rc=>
  have a8:us=#[]:=Array.eq_empty_of_size_eq_zero (by simpa using hl1);subst a8
  obtain ⟨p,rfl⟩:∃p,ws=#[p]:=by
   obtain ⟨ws⟩:=ws
   match ws,Y with
   | [p],_=>exact ⟨p,rfl⟩
  have rp:=rc 0 (by simp) (by simp);simp at rp
  cases rp with
  | kb bk c _ hm rm=>
   have A:=hb.imm.m bk 0 c hm;have Z:bk<w.heap.size:=World.block_lt_of_cell? w ⟨bk,0,none⟩ A;have a2:l.Nodup:=(uV l).nodup_iff.1 (I7 _ hc.1 |>.imp fun {a b} hab he=>by subst he;exact List.lt_irrefl a hab)
   have I:∀(e:Ending) (w':World),(∃(v:Value) (ss:List Rl),e=.returned v∧ss.Perm l∧w'.ownsRow w.heap.size kt 1 v ss.length ((ss.mergeSort (fun x y=>decide (x≤y))).map encStr)∧(v=.slice none 0 0 ↔ ss=[])∧Below w.heap.size w w')→
     ∃v g',e=.returned v∧Grew False w w'∧g.le s.length g' s.length∧g'.L=g.L∧g'.hist=g.hist∧(∀b,b<w.heap.size→g'.m b=g.m b∧g'.mm b=g.mm b)∧Imm g' w'∧Rep g' s.length v (slS (wH l)):=by
    rintro e w' ⟨v,ss,rfl,hp,J,a0,O⟩
    have a6:ss.mergeSort (fun x y=>decide (x≤y))=wH l:=by
     have h1:=mergeSort_of_perm hp;have h2:=mergeSort_of_perm (uV l)
     have h3:(wH l).mergeSort leB=wH l:=by
      apply List.mergeSort_of_pairwise;exact (ER l).imp fun {a b} hab=>by simpa [leB] using hab
     exact (h1.trans h2.symm).trans h3
    rw [a6] at J;by_cases h0:ss=[]
    ·have a7:=a0.2 h0;subst a7;have a3:l=[]:=by subst h0;exact List.Perm.nil_eq hp |>.symm
     subst a3;exact ⟨_,g,rfl,y7 O,.refl _ _,rfl,rfl,fun _ _=>⟨rfl,rfl⟩,hb.imm.grew (y7 O),.ns⟩
    ·have K:ss.length=(wH l).length:=by rw [hp.length_eq,(uV l).length_eq]
     rw [K] at J;have S:wH l≠[]:=fun h=>h0 (List.eq_nil_of_length_eq_zero (by rw [K,h];rfl));obtain ⟨g',q1,q2,q3,q4,q5,q6⟩:=acV hb (y7 O) J S
     have a9:slS (wH l)=.sl ((wH l).map .s):=by
      cases hi:wH l with
      | nil=>exact absurd hi S
      | cons a r=>rfl
     exact ⟨v,g',rfl,y7 O,q1,q2,q3,q4,q5,by rw [a9];exact q6⟩
   rcases Yx hb rm hl with ⟨rfl,rfl⟩|⟨b,b0,a4,a5,rfl,q1,q2,q3,q4⟩
   ·refine (H0 it Q bk w m Z A).mono fun e w' he=>I e w' ?_;obtain ⟨v,ss,h1,rfl,h3⟩:=he;exact ⟨v,[],h1,.refl _,h3⟩
   ·have W:a5.Nodup:=q4.nodup_iff.2 a2;obtain ⟨D0,d1,d2,d3⟩:=acG hk q1 q2 q3 W (by rw [q4.length_eq];exact hc.2.1) (fun x hx=>hc.2.2 x (q4.mem_iff.1 hx));have K:=q4.length_eq;have Y:=hc.2.1;refine (H it Q bk b D0 _ _ w m Z A d1 (by rw [d3];simp only [maxLen];omega) (by rw [d3];omega)).mono fun e w' he=>I e w' ?_;obtain ⟨v,ss,h1,h2,h3⟩:=he;exact ⟨v,ss,h1,(h2.trans d2).trans q4,h3⟩
theorem ad9 (m:Nat):AnyZ.SortsIn Tryz.prog Tryz.sorted43_ren Fence.wide m:=
 ⟨fun A off cap ss W hH x I=>callsIn_wide.2 (AnyM.slices_Sort_string Tryz.sort47 A off cap ss W hH x I),
  fun p cap W=>callsIn_wide.2 (AnyM.slices_Sort_string_none Tryz.sort47 p cap W)⟩
theorem aeE:KI False Tryz.prog glob 44 (YF 91):=
 aha ⟨Tryz.f44,Tryz.func44,by kernel_rfl,by kernel_rfl⟩ (fun mb W m=>AnyZ.keys_in Tryz.keys44 Fence.wide m trivial rfl mb W)
theorem Z9:KI False Tryz.prog glob 43 (Ic [91]):=by
 refine acJ (kt:=9) (by kernel_rfl) ⟨Tryz.f43,Tryz.func43,by kernel_rfl,by kernel_rfl⟩ ?_ ?_
 ·intro it x Bm b D0 R nn w m J p O K I;simp at x;subst x;have A:=AnyZ.keys_gives (ρ:=Tryz.keys44_ren) { Tryz.keys44 with } Fence.wide 2 trivial rfl (by omega) Bm b nn D0 w J p O;exact callsIn_wide.2 ((callsIn_wide (n:=5)).1 (AnyZ.sorted_in Tryz.sorted43 Fence.wide 5 trivial trivial trivial trivial rfl (by omega) (ad9 _) (enters_of Tryz.func47 (by kernel_rfl) rfl) 91 #[.pointer (some ⟨Bm,0,none⟩)] trivial (enters_of Tryz.func91 (by kernel_rfl) rfl) _ _ K I w A))
 ·intro it x Bm w m J p;simp at x;subst x;have A:=AnyZ.keys_gives_nil (ρ:=Tryz.keys44_ren) { Tryz.keys44 with } Fence.wide 2 trivial rfl Bm w J p;exact callsIn_wide.2 ((callsIn_wide (n:=5)).1 (AnyZ.sorted_in Tryz.sorted43 Fence.wide 5 trivial trivial trivial trivial rfl (by omega) (ad9 _) (enters_of Tryz.func47 (by kernel_rfl) rfl) 91 #[.pointer (some ⟨Bm,0,none⟩)] trivial (enters_of Tryz.func91 (by kernel_rfl) rfl) _ 0 (Nat.zero_le _) (by omega) w A))
end Go.Ai.Z
namespace Go.Ai.Z
open Go.Proofs Go.Proofs.YtcofenimejmoeaaGreatDoor
set_option maxRecDepth 100000
theorem yZ {α:Type}:∀{l:List (Nat×α)} {k:Nat} {v:α},l.lookup k=some v→(k,v)∈l
 | [],_,_,h=>by simp at h
 | (a,b)::r,k,v,h=>by
  simp only [List.lookup] at h
  split at h
  ·rename_i he;cases h;simp at he;subst he;simp
  ·exact List.mem_cons_of_mem _ (yZ h)
theorem aax:P0.glob 3=some (Lib.pow10Tab.map fun z=>.i .u64 z):=by
 show MC.lookup 3=_;rfl
theorem aiV:Hw False Tryz.prog P0 where
 mixed:=mixed
 fns f fn h:=ajE (f,fn) (yZ h)
 intr f h hh:=by
  have:=yZ (l:=GL) hh
  simp only [GL,List.mem_cons,List.not_mem_nil,or_false,Prod.mk.injEq] at this;rcases this with ⟨rfl,rfl⟩|⟨rfl,rfl⟩|⟨rfl,rfl⟩|⟨rfl,rfl⟩|⟨rfl,rfl⟩|⟨rfl,rfl⟩
  ·exact (ahb).lift
  ·exact (ahc aax).lift
  ·exact (aeF).lift
  ·exact (ahe).lift
  ·exact aeE
  ·exact Z9
 hi f k hh:=by
  have:=yZ (l:=SX) hh
  simp only [SX,List.mem_cons,List.not_mem_nil,or_false,Prod.mk.injEq] at this;obtain ⟨rfl,rfl⟩:=this;exact ⟨rfl,aac⟩
 intrQ f h hh:=by
  have h0:P0.intrQ f=none:=rfl;rw [h0] at hh;cases hh
 dfr f d hh:=by
  have:=yZ (l:=MO) hh
  simp only [MO,List.mem_cons,List.not_mem_nil,or_false,Prod.mk.injEq] at this;obtain ⟨rfl,rfl⟩:=this;exact ⟨rfl,ahf⟩
theorem ZF:Tryz.prog.globalNamed "veilstone/terms.uses"=some 0:=by kernel_rfl
theorem Yj:Tryz.prog.globalNamed "veilstone/terms.needs"=some 1:=by kernel_rfl
theorem Yc:Tryz.prog.globalNamed "internal/strconv.uint64pow10"=some 3:=by kernel_rfl
theorem ahp {W:World} {p:List (String×DataW Unit)} {ps:List MemPlace} (h:DataW.LaidVars Tryz.prog W p ps)
  (h1:("veilstone/terms.needs",Rows.laid_veilstone_terms_needs)∈p) (h2:("veilstone/terms.uses",Rows.laid_veilstone_terms_uses)∈p) (h3:("internal/strconv.uint64pow10",Rows.laid_internal_strconv_uint64pow10)∈p):uM P0.glob (g0 W):=by
 intro k cs hk
 have:=yZ (l:=MC) hk
 simp only [MC,List.mem_cons,List.not_mem_nil,or_false,Prod.mk.injEq] at this;rcases this with ⟨rfl,rfl⟩|⟨rfl,rfl⟩|⟨rfl,rfl⟩
 ·obtain ⟨ty,fr,hw⟩:=JU (n:=60) (t:=(Tryz.prog.globals[1]?.map (·.type)).getD 0) (vs:=(MF Tryz.prog 60 ((Tryz.prog.globals[1]?.map (·.type)).getD 0) Rows.laid_veilstone_terms_needs).getD []) h h1 Yj (by kernel_rfl) (by kernel_rfl);exact Rq hw (by kernel_rfl) (by kernel_rfl)
 ·obtain ⟨ty,fr,hw⟩:=JU (n:=60) (t:=(Tryz.prog.globals[0]?.map (·.type)).getD 0) (vs:=(MF Tryz.prog 60 ((Tryz.prog.globals[0]?.map (·.type)).getD 0) Rows.laid_veilstone_terms_uses).getD []) h h2 ZF (by kernel_rfl) (by kernel_rfl);exact Rq hw (by kernel_rfl) (by kernel_rfl)
 ·obtain ⟨ty,fr,hw⟩:=JU (n:=60) (t:=(Tryz.prog.globals[3]?.map (·.type)).getD 0) (vs:=(MF Tryz.prog 60 ((Tryz.prog.globals[3]?.map (·.type)).getD 0) Rows.laid_internal_strconv_uint64pow10).getD []) h h3 Yc (by kernel_rfl) (by kernel_rfl);exact Rq hw (by kernel_rfl) (by kernel_rfl)
end Go.Ai.Z
