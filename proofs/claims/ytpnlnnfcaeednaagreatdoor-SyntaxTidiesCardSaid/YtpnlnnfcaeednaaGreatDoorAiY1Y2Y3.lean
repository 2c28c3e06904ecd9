/-
 The plain parser: what each function passes, or the fault with which it stops.
-/
import Derived.Test.YtpnlnnfcaeednaaGreatDoorAiQ3Q4Q5
set_option maxRecDepth 100000
set_option linter.unusedSimpArgs false
set_option linter.unusedVariables false
set_option linter.unusedSectionVars false
namespace Go.Ai.Z
inductive PR (α:Type) where
 | ok (v:α) (r:List Tok)
 | er (a e:Int) (r:List Tok)
def PR.bind {α β:Type} (x:PR α) (f:α→List Tok→PR β):PR β:=
 match x with
 | .ok v r=>f v r
 | .er a e r=>.er a e r
@[simp] theorem PR.bind_ok {α β:Type} (v:α) (r:List Tok) (f:α→List Tok→PR β):(PR.ok v r).bind f=f v r:=rfl
@[simp] theorem PR.bind_er {α β:Type} (a e:Int) (r:List Tok) (f:α→List Tok→PR β):(PR.er a e r).bind f=.er a e r:=rfl
structure X7 (t:Tok):Prop where
 k:t.1=1∨t.1=2∨t.1=3
 ne:t.2.1≠[]
 len:t.2.1.length≤65536
 int:t.1=2→∃n,Go.Lib.atoi t.2.1=some n∧(t.2.1.length≤18∨(t.2.1.length=19∧t.2.1.head?=some 45))
inductive WT:List Tok→Prop
 | fin (a:Nat):WT [(4,[],a)]
 | cons (t:Tok) (r:List Tok):X7 t→WT r→WT (t::r)
def hT (l:List Tok):Tok:=l.headD (4,[],0)
def txt (l:List Tok):List UInt8:=(hT l).2.1
@[simp] theorem D5 (t:Tok) (r:List Tok):hT (t::r)=t:=rfl
@[simp] theorem dL (t:Tok) (r:List Tok):txt (t::r)=t.2.1:=rfl
theorem WT.ne {l:List Tok} (h:WT l):l≠[]:=by cases h<;>simp
theorem WT.tl {l:List Tok} (h:WT l) (ht:txt l≠[]∨(hT l).1≠4):∃t r,l=t::r∧X7 t∧WT r:=by
 cases h with
 | fin a=>simp [txt,hT] at ht
 | cons t r h1 h2=>exact ⟨t,r,rfl,h1,h2⟩
theorem WT.kind {l:List Tok} (h:WT l):(hT l).1=1∨(hT l).1=2∨(hT l).1=3∨(hT l).1=4:=by
 cases h with
 | fin a=>exact .inr (.inr (.inr rfl))
 | cons t r h1 h2=>rcases h1.k with h|h|h<;>simp [h]
def evW:List UInt8:=[101,118,101,114,121,116,104,105,110,103]
def Yz:List UInt8:=[110,111,116,104,105,110,103]
def PW:List UInt8:=[115,111,109,101]
def toW:List UInt8:=[116,111]
def ig (l:List Tok):PR (List UInt8):=
 if (hT l).1=1∧kwS (txt l)=false then (if lq (txt l)=true then .ok (txt l) l.tail else .er (hT l).2.2 20 l) else .er (hT l).2.2 30 l
def kJ (w:List UInt8) (l:List Tok):PR Unit:=if txt l=w then .ok () l.tail else .er (hT l).2.2 30 l
def x9 (least:Int) (l:List Tok):PR Int:=
 if (hT l).1=2 then (match Go.Lib.atoi (txt l) with
  | some n=>if 1099511627776<n∨n<least then .er (hT l).2.2 21 l else .ok n l.tail
  | none=>.er (hT l).2.2 21 l)
 else .er (hT l).2.2 30 l
def XZ (cs:List C):C:=match cs with
 | [c]=>c
 | _=>.mk 5 [] 0 0 false cs
mutual
def gZ:Nat→List Tok→PR C
 | 0,l=>.er (hT l).2.2 0 l
 | n+1,l=>
  if txt l=evW then .ok (.mk 1 [] 0 0 true []) l.tail
  else if txt l=Yz then .ok (.mk 2 [] 0 0 true []) l.tail
  else if txt l=[123] then (ig l.tail).bind fun nm l1=>(kJ [125] l1).bind fun _ l2=>.ok (.mk 4 nm 0 0 true []) l2
  else if txt l=PW then (ig l.tail).bind fun nm l1=>(gZ n l1).bind fun c l2=>.ok (.mk 6 nm 0 0 false [c]) l2
  else if txt l=[40] then (uP n l.tail).bind fun c l1=>(kJ [41] l1).bind fun _ l2=>.ok c l2
  else (ig l).bind fun nm l1=>
   if txt l1=inB then (x9 (-1099511627776) l1.tail).bind fun lo l2=>(kJ toW l2).bind fun _ l3=>(x9 lo l3).bind fun hi l4=>.ok (.mk 7 nm lo hi true []) l4
   else .ok (.mk 3 nm 0 0 true []) l1
def uP:Nat→List Tok→PR C
 | 0,l=>.er (hT l).2.2 0 l
 | n+1,l=>(gZ n l).bind fun c l1=>jL n l1 [c]
def jL:Nat→List Tok→List C→PR C
 | 0,l,_=>.er (hT l).2.2 0 l
 | n+1,l,cs=>if txt l=Jw then (gZ n l.tail).bind fun c l1=>jL n l1 (cs++[c]) else .ok (XZ cs) l
end
def Good' {α:Type} (l:List Tok) (x:PR α):Prop:=
 match x with
 | .ok _ r=>WT r∧∃p,p≠[]∧l=p++r
 | .er _ _ r=>WT r∧∃p,l=p++r
def AX {α:Type} (l:List Tok) (x:PR α):Prop:=
 match x with
 | .ok _ r=>WT r∧∃p,l=p++r
 | .er _ _ r=>WT r∧∃p,l=p++r
theorem Good'.zero {α:Type} {l:List Tok} {x:PR α} (h:Good' l x):AX l x:=by
 cases x with
 | ok v r=>obtain ⟨h1,p,_,h2⟩:=h;exact ⟨h1,p,h2⟩
 | er a e r=>exact h
theorem Good'.bind {α β:Type} {l:List Tok} {x:PR α} {f:α→List Tok→PR β} (h:Good' l x) (hf:∀v r,x=.ok v r→WT r→AX r (f v r)):Good' l (x.bind f):=by
 cases x with
 | er a e r=>exact h
 | ok v r=>
  obtain ⟨h1,p,h2,h3⟩:=h
  have:=hf v r rfl h1
  simp only [PR.bind_ok]
  cases hx:f v r with
  | ok u r2=>rw [hx] at this;obtain ⟨q1,q,q2⟩:=this;exact ⟨q1,p++q,by simp [h2],by rw [h3,q2];simp⟩
  | er a e r2=>rw [hx] at this;obtain ⟨q1,q,q2⟩:=this;exact ⟨q1,p++q,by rw [h3,q2];simp⟩
theorem AX.bind {α β:Type} {l:List Tok} {x:PR α} {f:α→List Tok→PR β} (h:AX l x) (hf:∀v r,x=.ok v r→WT r→AX r (f v r)):AX l (x.bind f):=by
 cases x with
 | er a e r=>exact h
 | ok v r=>
  obtain ⟨h1,p,h3⟩:=h
  have:=hf v r rfl h1
  simp only [PR.bind_ok]
  cases hx:f v r with
  | ok u r2=>rw [hx] at this;obtain ⟨q1,q,q2⟩:=this;exact ⟨q1,p++q,by rw [h3,q2];simp⟩
  | er a e r2=>rw [hx] at this;obtain ⟨q1,q,q2⟩:=this;exact ⟨q1,p++q,by rw [h3,q2];simp⟩
theorem Good'.tok {β:Type} {l:List Tok} (h:WT l) (ht:txt l≠[]∨(hT l).1≠4) {x:PR β} (hx:∀r,WT r→r=l.tail→AX r x):Good' l x:=by
 obtain ⟨t,r,rfl,h1,h2⟩:=h.tl ht
 have:=hx r h2 rfl
 cases x with
 | ok v r2=>obtain ⟨q1,q,q2⟩:=this;exact ⟨q1,t::q,by simp,by rw [q2];rfl⟩
 | er a e r2=>obtain ⟨q1,q,q2⟩:=this;exact ⟨q1,t::q,by rw [q2];rfl⟩
theorem bD {l:List Tok} (h:WT l):Good' l (ig l):=by
 unfold ig
 split
 ·rename_i h1
  split
  ·obtain ⟨t,r,rfl,_,h2⟩:=h.tl (.inr (by rw [h1.1];decide))
   exact ⟨h2,[t],by simp,rfl⟩
  ·exact ⟨h,[],rfl⟩
 ·exact ⟨h,[],rfl⟩
theorem oG {w:List UInt8} (hw:w≠[]) {l:List Tok} (h:WT l):Good' l (kJ w l):=by
 unfold kJ
 split
 ·rename_i h1
  obtain ⟨t,r,rfl,_,h2⟩:=h.tl (.inl (by rw [h1];exact hw))
  exact ⟨h2,[t],by simp,rfl⟩
 ·exact ⟨h,[],rfl⟩
theorem C9 {least:Int} {l:List Tok} (h:WT l):Good' l (x9 least l):=by
 unfold x9
 split
 ·rename_i h1
  split
  ·split
   ·exact ⟨h,[],rfl⟩
   ·obtain ⟨t,r,rfl,_,h2⟩:=h.tl (.inr (by rw [h1];decide))
    exact ⟨h2,[t],by simp,rfl⟩
  ·exact ⟨h,[],rfl⟩
 ·exact ⟨h,[],rfl⟩
theorem nK {α:Type} (v:α) {l:List Tok} (h:WT l):AX l (PR.ok v l):=⟨h,[],rfl⟩
theorem O8 {α:Type} (a e:Int) {l:List Tok} (h:WT l):Good' l (PR.er a e l:PR α):=⟨h,[],rfl⟩
theorem iM:∀n:Nat,(∀l,WT l→Good' l (gZ n l))∧(∀l,WT l→Good' l (uP n l))∧∀l cs,WT l→AX l (jL n l cs)
 | 0=>⟨fun l h=>by unfold gZ;exact O8 _ _ h,fun l h=>by unfold uP;exact O8 _ _ h,fun l cs h=>by unfold jL;exact (O8 _ _ h).zero⟩
 | n+1=>by
  obtain ⟨i1,i2,i3⟩:=iM n
  refine ⟨fun l h=>?_,fun l h=>?_,fun l cs h=>?_⟩
  ·unfold gZ
   split
   ·rename_i h1;exact .tok h (.inl (by rw [h1];decide)) fun r hr e=>by rw [←e];exact nK _ hr
   split
   ·rename_i h1;exact .tok h (.inl (by rw [h1];decide)) fun r hr e=>by rw [←e];exact nK _ hr
   split
   ·rename_i h1
    exact .tok h (.inl (by rw [h1];decide)) fun r hr e=>by
     rw [←e]
     exact ((bD hr).bind fun nm l1 _ h1=>((oG (by decide) h1).bind fun _ l2 _ h2=>nK _ h2).zero).zero
   split
   ·rename_i h1
    exact .tok h (.inl (by rw [h1];decide)) fun r hr e=>by
     rw [←e]
     exact ((bD hr).bind fun nm l1 _ h1=>((i1 l1 h1).bind fun _ l2 _ h2=>nK _ h2).zero).zero
   split
   ·rename_i h1
    exact .tok h (.inl (by rw [h1];decide)) fun r hr e=>by
     rw [←e]
     exact ((i2 r hr).bind fun nm l1 _ h1=>((oG (by decide) h1).bind fun _ l2 _ h2=>nK _ h2).zero).zero
   ·refine (bD h).bind fun nm l1 _ h1=>?_
    split
    ·rename_i h2
     exact (Good'.tok h1 (.inl (by rw [h2];decide)) fun r hr e=>by
      rw [←e]
      exact ((C9 hr).bind fun lo l2 _ h2=>((oG (by decide) h2).bind fun _ l3 _ h3=>((C9 h3).bind fun hi l4 _ h4=>nK _ h4).zero).zero).zero).zero
    ·exact nK _ h1
  ·unfold uP
   exact (i1 l h).bind fun c l1 _ h1=>i3 l1 _ h1
  ·unfold jL
   split
   ·rename_i h1
    exact (Good'.tok h (.inl (by rw [h1];decide)) fun r hr e=>by
     rw [←e]
     exact ((i1 r hr).bind fun c l1 _ h1=>i3 l1 _ h1).zero).zero
   ·exact nK _ h
theorem Q7:∀(n m:Nat) ,(∀l,WT l→2 * l.length≤n→2 * l.length≤m→gZ n l=gZ m l)∧(∀l,WT l→2 * l.length+1≤n→2 * l.length+1≤m→uP n l=uP m l)∧
  ∀l cs,WT l→2 * l.length+1≤n→2 * l.length+1≤m→jL n l cs=jL m l cs
 | 0,m=>⟨fun l h h1 _=>by have:=h.ne;cases l<;>simp at h1 this,fun l h h1 _=>by omega,fun l cs h h1 _=>by omega⟩
 | n+1,0=>⟨fun l h _ h1=>by have:=h.ne;cases l<;>simp at h1 this,fun l h _ h1=>by omega,fun l cs h _ h1=>by omega⟩
 | n+1,m+1=>by
  obtain ⟨i1,i2,i3⟩:=Q7 n m
  have shorter:∀{α:Type} {l r:List Tok} {x:PR α} {v:α},Good' l x→x=.ok v r→WT r∧r.length<l.length:=by
   intro α l r x v hg e
   rw [e] at hg
   obtain ⟨h1,p,h2,h3⟩:=hg
   refine ⟨h1, ?_⟩
   rw [h3]
   cases p with
   | nil=>exact absurd rfl h2
   | cons a p=>simp;omega
  have bnd:∀{α β:Type} (x:PR α) (f g:α→List Tok→PR β),(∀v r,x=.ok v r→f v r=g v r)→x.bind f=x.bind g:=by
   intro α β x f g h
   cases x with
   | ok v r=>exact h v r rfl
   | er a e r=>rfl
  have tl:∀{l:List Tok} {w:List UInt8},WT l→txt l=w→w≠[]→WT l.tail∧l.tail.length+1=l.length:=by
   intro l w h h1 h2
   obtain ⟨t,r,rfl,_,h3⟩:=h.tl (.inl (by rw [h1];exact h2))
   exact ⟨h3,rfl⟩
  refine ⟨fun l h h1 h2=>?_,fun l h h1 h2=>?_,fun l cs h h1 h2=>?_⟩
  ·unfold gZ
   split
   ·rfl
   split
   ·rfl
   split
   ·rfl
   split
   ·rename_i h3
    obtain ⟨t1,t2⟩:=tl h h3 (by decide)
    refine bnd _ _ _ fun nm l1 e=>?_
    obtain ⟨q1,q2⟩:=shorter (bD t1) e
    rw [i1 l1 q1 (by omega) (by omega)]
   split
   ·rename_i h3
    obtain ⟨t1,t2⟩:=tl h h3 (by decide)
    rw [i2 l.tail t1 (by omega) (by omega)]
   ·rfl
  ·unfold uP
   rw [i1 l h (by omega) (by omega)]
   refine bnd _ _ _ fun c l1 e=>?_
   obtain ⟨q1,q2⟩:=shorter ((iM m).1 l h) e
   exact i3 l1 _ q1 (by omega) (by omega)
  ·unfold jL
   split
   ·rename_i h3
    obtain ⟨t1,t2⟩:=tl h h3 (by decide)
    rw [i1 l.tail t1 (by omega) (by omega)]
    refine bnd _ _ _ fun c l1 e=>?_
    obtain ⟨q1,q2⟩:=shorter ((iM m).1 l.tail t1) e
    exact i3 l1 _ q1 (by omega) (by omega)
   ·rfl
end Go.Ai.Z
namespace Go.Ai.Z
open Go.Ai
def flt (a e:Int):AV:=.ifc ny (.ag [.i .i64 a,.i .i64 e])
@[simp] theorem ajw (S:St) (n:Nat) (a e:Int):frz S n (flt a e)=some (flt a e):=by simp [frz,flt,AV.under]
@[simp] theorem aiq (S:St) (n:Nat) (a e:Int):frz S n (.ifc ny (.ag [.i .i64 a,.i .i64 e]))=some (.ifc ny (.ag [.i .i64 a,.i .i64 e])):=by simp [frz,AV.under]
def idx (T r:List Tok):Nat:=T.length - r.length
structure Suf (T r:List Tok):Prop where
 p:∃p,T=p++r
 w:WT r
theorem Suf.app {T l r:List Tok} (h:Suf T l) {p:List Tok} (hp:l=p++r) (hr:WT r):Suf T r:=by
 obtain ⟨⟨q,hq⟩,_⟩:=h
 exact ⟨⟨q++p,by rw [hq,hp];simp⟩,hr⟩
theorem Suf.get {T r:List Tok} (h:Suf T r):T[idx T r]?=some (hT r):=by
 obtain ⟨⟨p,rfl⟩,hw⟩:=h
 unfold idx
 have:(p++r).length - r.length=p.length:=by simp
 rw [this,List.getElem?_append_right (Nat.le_refl _),Nat.sub_self]
 cases hw with
 | fin a=>rfl
 | cons t r h1 h2=>rfl
theorem Suf.tail {T r:List Tok} (h:Suf T r) (ht:txt r≠[]∨(hT r).1≠4):Suf T r.tail∧idx T r.tail=idx T r+1:=by
 obtain ⟨t,q,rfl,_,hq⟩:=h.w.tl ht
 refine ⟨h.app (p:=[t]) rfl hq, ?_⟩
 obtain ⟨⟨p,rfl⟩,_⟩:=h
 simp [idx];omega
theorem Suf.lt {T r:List Tok} (h:Suf T r):idx T r<T.length:=(List.getElem?_eq_some_iff.1 h.get).1
theorem Suf.ok {α:Type} {T l r:List Tok} (h:Suf T l) {x:PR α} {v:α} (hg:AX l x) (hx:x=.ok v r):Suf T r:=by
 rw [hx] at hg
 obtain ⟨h1,p,h2⟩:=hg
 exact h.app h2 h1
theorem Suf.er {α:Type} {T l r:List Tok} (h:Suf T l) {x:PR α} {a e:Int} (hg:AX l x) (hx:x=.er a e r):Suf T r:=by
 rw [hx] at hg
 obtain ⟨h1,p,h2⟩:=hg
 exact h.app h2 h1
def Ans {α:Type} (enc:α→AV) (T:List Tok) (S:Nat→St) (x:PR α):CO:=
 match x with
 | .ok v r=>.ret (enc v) (S (idx T r))
 | .er a e r=>.pan (flt a e) (S (idx T r))
@[simp] theorem eH {α:Type} (enc:α→AV) (T:List Tok) (S:Nat→St) (v:α) (r:List Tok):Ans enc T S (.ok v r)=.ret (enc v) (S (idx T r)):=rfl
@[simp] theorem jg {α:Type} (enc:α→AV) (T:List Tok) (S:Nat→St) (a e:Int) (r:List Tok):Ans enc T S (.er a e r:PR α)=.pan (flt a e) (S (idx T r)):=rfl
theorem zi {α:Type} (enc:α→AV) (T:List Tok) (S:Nat→St) (x:PR α):Ans enc T S x≠.fail:=by cases x<;>simp
section
variable {T:List Tok} {m:AV} {S:Nat→St} {l N:Nat} (hE:BN T m S l N)
include hE
theorem Gz {r:List Tok} (h:Suf T r) (cx:Ctx):ah P0 (.fn (.func aV) [] []) [.pt l 0] (S (idx T r)) cx=.ret (fK (hT r)) (S (idx T r)):=
 Ee T hE.len (idx T r) m (S (idx T r)) l (hE.cell _) (hT r).1 (hT r).2.1 (hT r).2.2 h.get cx
theorem lX {r:List Tok} (h:Suf T r) {w:List UInt8} (hw:txt r≠w) (cx:Ctx):ah P0 (.fn (.func aC) [] []) [.pt l 0,.s w] (S (idx T r)) cx=.ret (.b false) (S (idx T r)):=
 abu T hE.len (idx T r) m (S (idx T r)) l (hE.cell _) (hT r).1 (hT r).2.1 (hT r).2.2 h.get w hw cx
theorem kY {r:List Tok} (h:Suf T r) {w:List UInt8} (hw:txt r=w) (hn:w≠[]) (cx:Ctx) (hl:cx.lim≤l):ah P0 (.fn (.func aC) [] []) [.pt l 0,.s w] (S (idx T r)) cx=.ret (.b true) (S (idx T r.tail)):=by
 have:=Zf T hE.len (idx T r) m (S (idx T r)) l (hE.cell _) (hT r).1 (hT r).2.1 (hT r).2.2 h.get cx hl
 rw [hE.sets,←(h.tail (.inl (by rw [hw];exact hn))).2] at this
 rw [←hw];exact this
theorem V9 {r:List Tok} (h:Suf T r) (cx:Ctx):ah P0 (.fn (.func iT) [] []) [.pt l 0] (S (idx T r)) cx=.ret (.b (decide ((hT r).1=1) && !kwS (txt r))) (S (idx T r)):=
 XU T hE.len (idx T r) m (S (idx T r)) l (hE.cell _) (hT r).1 (hT r).2.1 (hT r).2.2 h.get cx
theorem Ld {r:List Tok} (h:Suf T r) (e:Int) (cx:Ctx):ah P0 (.fn (.func eG) [] []) [.pt l 0,.i .i64 e] (S (idx T r)) cx=.pan (flt (hT r).2.2 e) (S (idx T r)):=by
 have h1:=Gz hE h
 refine EZ (by simp) ?_
 simp [af,pG,h1,fK,dV,splice,flt]
theorem Lc {r:List Tok} (h:Suf T r) {w:List UInt8} (hn:w≠[]) (cx:Ctx) (hl:cx.lim≤l):ah P0 (.fn (.func fJ) [] []) [.pt l 0,.s w] (S (idx T r)) cx=Ans (fun _=>.tu []) T S (kJ w r):=by
 refine EW (zi _ _ _ _) ?_
 unfold kJ
 by_cases hw:txt r=w
 ·have h1:=kY hE h hw hn ⟨cx.lim,(S (idx T r)).length⟩ hl
  rw [if_pos hw]
  simp only [hE.n] at h1
  simp [af,lT,hE.n,h1]
 ·have h1:=lX hE h hw
  have h2:=Ld hE h 30
  rw [if_neg hw]
  simp [af,lT,hE.n,h1,h2]
theorem wF {r:List Tok} (h:Suf T r) (cx:Ctx) (hl:cx.lim≤l):ah P0 (.fn (.func aO) [] []) [.pt l 0] (S (idx T r)) cx=Ans .s T S (ig r):=by
 have h1:=V9 hE h
 have h2:=Gz hE h
 have hlt:=h.lt
 have hT:=hE.len
 have hwi:=wI (i:=idx T r) (by omega)
 unfold ig
 by_cases hk:(Z.hT r).1=1∧kwS (txt r)=false
 ·rw [if_pos hk]
  obtain ⟨t,q,rfl,ht,hq⟩:=h.w.tl (.inr (by rw [hk.1];decide))
  by_cases hp:lq (txt (t::q))=true
  ·rw [if_pos hp]
   have:=agq T hE.len (idx T (t::q)) m (S (idx T (t::q))) l (hE.cell _) t.1 t.2.1 t.2.2 h.get hk.1 hp cx hl
   rw [hE.sets,←(h.tail (.inr (by rw [hk.1];decide))).2] at this
   exact this
  ·rw [if_neg hp]
   have h3:=Ld hE h 20
   refine tX (by simp) ?_
   obtain ⟨b,u,hb⟩:∃b u,t.2.1=b::u:=by
    cases hc:t.2.1 with
    | nil=>exact absurd hc ht.ne
    | cons b u=>exact ⟨b,u,rfl⟩
   simp only [dL,D5,hb] at h1 h2 h3 hk hp ⊢
   by_cases h95:(b.toNat:Int)=95
   ·simp [af,jb,hE.n,h1,h2,h3,fK,hb,hk,h95]
   ·have hr:Qg (b::u)=false:=by
     unfold Qg
     simp [h95]
    have e4:∀(s:St) (cx:Ctx),ah P0 (.fn (.func gK) [] []) [.s (b::u)] s cx=.ret (.i .i64 20) s:=by
     intro s cx
     have e1:=wQ (b::u) (by have:=ht.len;rw [hb] at this;omega)
     refine wK (by simp) ?_
     simp [af,l9,hp,hr,e1]
    simp [af,jb,hE.n,h1,h2,h3,fK,hb,hk,h95,e4]
 ·rw [if_neg hk]
  have h3:=Ld hE h 30
  refine tX (by simp) ?_
  have hk':(decide ((Z.hT r).1=1) && !kwS (txt r))=false:=by
   cases hd:(decide ((Z.hT r).1=1) && !kwS (txt r)) with
   | false=>rfl
   | true=>
    simp only [Bool.and_eq_true,decide_eq_true_eq,Bool.not_eq_true'] at hd
    exact absurd hd hk
  rw [hk'] at h1
  simp [af,jb,hE.n,h1,h3]
theorem aeV {r:List Tok} (h:Suf T r) (least:Int) (cx:Ctx) (hl:cx.lim≤l):ah P0 (.fn (.func jI) [] []) [.pt l 0,.i .i64 least] (S (idx T r)) cx=Ans (.i .i64) T S (x9 least r):=by
 have h1:=Gz hE h
 have hlt:=h.lt
 have hT:=hE.len
 have hwi:=wI (i:=idx T r) (by omega)
 unfold x9
 by_cases hk:(Z.hT r).1=2
 ·rw [if_pos hk]
  obtain ⟨t,q,rfl,ht,hq⟩:=h.w.tl (.inr (by rw [hk];decide))
  obtain ⟨n,hn,hl18⟩:=ht.int hk
  have e2:∀(s:St) (cx:Ctx),ah P0 (.fn (.func AY) [] []) [.s t.2.1] s cx=.ret (.tu [.i .i64 n,.ni]) s:=fun s cx=>
   xO (h:=Il Xn) rfl (by simp only [Il,Xn,List.nil_append,List.append_nil];rw [if_pos hl18,hn];rfl)
  have hk':t.1=2:=hk
  have h3:=Ld hE h 21
  have htl:=(h.tail (.inr (by rw [hk];decide))).2
  simp only [dL,hn,List.tail_cons,D5] at htl h1 h3 ⊢
  refine xg (zi _ _ _ _) ?_
  by_cases hb1:1099511627776<n
  ·simp [af,iE,hE.n,h1,h3,e2,fK,hk',hb1,LQ]
  ·by_cases hb2:n<least
   ·simp [af,iE,hE.n,h1,h3,e2,fK,hk',hb1,hb2,LQ]
   ·have hc:=hE.cell (idx T (t::q))
    have hs:=hE.sets (idx T (t::q)) (idx T (t::q)+1)
    unfold psO at hc hs
    simp [af,iE,hE.n,h1,e2,fK,hk',hb1,hb2,LQ,hc,hwi,hl,splice,htl]
    simpa using hs
 ·rw [if_neg hk]
  have h3:=Ld hE h 30
  refine xg (by simp) ?_
  simp [af,iE,hE.n,h1,h3,fK,hk]
end
end Go.Ai.Z
namespace Go.Ai.Z
theorem Suf.tl {T r:List Tok} (h:Suf T r) {w:List UInt8} (hw:txt r=w) (hn:w≠[]):Suf T r.tail∧r.tail.length+1=r.length:=by
 refine ⟨(h.tail (.inl (by rw [hw];exact hn))).1, ?_⟩
 obtain ⟨t,q,rfl,_,_⟩:=h.w.tl (.inl (by rw [hw];exact hn))
 rfl
theorem Suf.shorter {α:Type} {T l r:List Tok} (h:Suf T l) {x:PR α} {v:α} (hg:Good' l x) (hx:x=.ok v r):Suf T r∧r.length+1≤l.length:=by
 refine ⟨h.ok hg.zero hx, ?_⟩
 rw [hx] at hg
 obtain ⟨_,p,h2,h3⟩:=hg
 rw [h3]
 cases p with
 | nil=>exact absurd rfl h2
 | cons a p=>simp
theorem abg (nm:List UInt8) (c:C):bF (.mk 6 nm 0 0 false [c])=.ag [.i .i64 6,.s nm,.i .i64 0,.i .i64 0,.sl [bF c]]:=by
 rw [vg];simp [C.kind,C.name,C.lo,C.hi,C.z,C.parts]
theorem adv (cs:List C):bF (.mk 5 [] 0 0 false cs)=.ag [.i .i64 5,.s [],.i .i64 0,.i .i64 0,.sl (cs.map bF)]:=by
 rw [vg];simp [C.kind,C.name,C.lo,C.hi,C.z,C.parts]
section
variable {T:List Tok} {m:AV} {S:Nat→St} {l N:Nat} (hE:BN T m S l N)
include hE
set_option maxHeartbeats 2000000 in
theorem abK {n:Nat} (i1:∀r,Suf T r→2 * r.length≤n→∀cx:Ctx,cx.lim≤l→ah P0 (.fn (.func dO) [] []) [.pt l 0] (S (idx T r)) cx=Ans bF T S (gZ n r))
  (i2:∀r,Suf T r→2 * r.length+1≤n→∀cx:Ctx,cx.lim≤l→ah P0 (.fn (.func bH) [] []) [.pt l 0] (S (idx T r)) cx=Ans bF T S (uP n r))
  {r:List Tok} (h:Suf T r) (hn:2 * r.length≤n+1) (cx:Ctx) (hl:cx.lim≤l):
  ah P0 (.fn (.func dO) [] []) [.pt l 0] (S (idx T r)) cx=Ans bF T S (gZ (n+1) r):=by
 have hN:=hE.n
 refine Df (zi _ _ _ _) ?_
 unfold gZ
 by_cases h1:txt r=evW
 ·have e:=kY hE h h1 (by decide) ⟨cx.lim,N⟩ hl
  rw [if_pos h1,eH,Gg]
  simp only [evW] at e
  simp [af,aJ,hN,e,dV,splice]
 rw [if_neg h1]
 have q1:=lX hE h h1
 simp only [evW] at q1
 by_cases h2:txt r=Yz
 ·have e:=kY hE h h2 (by decide) ⟨cx.lim,N⟩ hl
  rw [if_pos h2,eH,Gg]
  simp only [Yz] at e
  simp [af,aJ,hN,q1,e,dV,splice]
 rw [if_neg h2]
 have q2:=lX hE h h2
 simp only [Yz] at q2
 by_cases h3:txt r=[123]
 ·have e:=kY hE h h3 (by decide) ⟨cx.lim,N⟩ hl
  obtain ⟨s1,n1⟩:=h.tl h3 (by decide)
  have e4:=wF hE s1 ⟨cx.lim,N⟩ hl
  rw [if_pos h3]
  cases hp:ig r.tail with
  | er a c l1=>
   rw [hp] at e4
   simp only [jg] at e4
   simp [af,aJ,hN,q1,q2,e,e4]
  | ok nm l1=>
   rw [hp] at e4
   simp only [eH] at e4
   obtain ⟨s2,n2⟩:=s1.shorter (bD s1.w) hp
   have e5:=Lc hE s2 (w:=[125]) (by decide) ⟨cx.lim,N⟩ hl
   cases hw:kJ [125] l1 with
   | er a c l2=>
    rw [hw] at e5
    simp only [jg] at e5
    simp [af,aJ,hN,q1,q2,e,e4,e5,hw,dV,splice]
   | ok u l2=>
    rw [hw] at e5
    simp only [eH] at e5
    simp only [PR.bind_ok,hw,eH,Gg]
    simp [af,aJ,hN,q1,q2,e,e4,e5,dV,splice]
 rw [if_neg h3]
 have q3:=lX hE h h3
 by_cases h4:txt r=PW
 ·have e:=kY hE h h4 (by decide) ⟨cx.lim,N⟩ hl
  simp only [PW] at e
  obtain ⟨s1,n1⟩:=h.tl h4 (by decide)
  have e4:=wF hE s1 ⟨cx.lim,N⟩ hl
  rw [if_pos h4]
  cases hp:ig r.tail with
  | er a c l1=>
   rw [hp] at e4
   simp only [jg] at e4
   simp [af,aJ,hN,q1,q2,q3,e,e4]
  | ok nm l1=>
   rw [hp] at e4
   simp only [eH] at e4
   obtain ⟨s2,n2⟩:=s1.shorter (bD s1.w) hp
   have e5:=i1 l1 s2 (by omega) ⟨cx.lim,N⟩ hl
   cases hw:gZ n l1 with
   | er a c l2=>
    rw [hw] at e5
    simp only [jg] at e5
    simp [af,aJ,hN,q1,q2,q3,e,e4,e5,hw,dV,splice]
   | ok u l2=>
    rw [hw] at e5
    simp only [eH] at e5
    simp only [PR.bind_ok,hw,eH,abg]
    simp [af,aJ,hN,q1,q2,q3,e,e4,e5,dV,splice,List.range_succ]
 rw [if_neg h4]
 have q4:=lX hE h h4
 simp only [PW] at q4
 by_cases h5:txt r=[40]
 ·have e:=kY hE h h5 (by decide) ⟨cx.lim,N⟩ hl
  obtain ⟨s1,n1⟩:=h.tl h5 (by decide)
  have e4:=i2 r.tail s1 (by omega) ⟨cx.lim,N⟩ hl
  rw [if_pos h5]
  cases hp:uP n r.tail with
  | er a c l1=>
   rw [hp] at e4
   simp only [jg] at e4
   simp [af,aJ,hN,q1,q2,q3,q4,e,e4]
  | ok nm l1=>
   rw [hp] at e4
   simp only [eH] at e4
   obtain ⟨s2,n2⟩:=s1.shorter ((iM n).2.1 _ s1.w) hp
   have e5:=Lc hE s2 (w:=[41]) (by decide) ⟨cx.lim,N⟩ hl
   cases hw:kJ [41] l1 with
   | er a c l2=>
    rw [hw] at e5
    simp only [jg] at e5
    simp [af,aJ,hN,q1,q2,q3,q4,e,e4,e5,hw,dV,splice]
   | ok u l2=>
    rw [hw] at e5
    simp only [eH] at e5
    simp only [PR.bind_ok,hw,eH]
    simp [af,aJ,hN,q1,q2,q3,q4,e,e4,e5,dV,splice]
 rw [if_neg h5]
 have q5:=lX hE h h5
 have e4:=wF hE h ⟨cx.lim,N⟩ hl
 cases hp:ig r with
 | er a c l1=>
  rw [hp] at e4
  simp only [jg] at e4
  simp [af,aJ,hN,q1,q2,q3,q4,q5,e4]
 | ok nm l1=>
  rw [hp] at e4
  simp only [eH] at e4
  obtain ⟨s2,n2⟩:=h.shorter (bD h.w) hp
  simp only [PR.bind_ok]
  by_cases h6:txt l1=inB
  ·have e:=kY hE s2 h6 (by decide) ⟨cx.lim,N⟩ hl
   simp only [inB] at e
   obtain ⟨s3,n3⟩:=s2.tl h6 (by decide)
   have e5:=aeV hE s3 (-1099511627776) ⟨cx.lim,N⟩ hl
   rw [if_pos h6]
   cases hw:x9 (-1099511627776) l1.tail with
   | er a c l2=>
    rw [hw] at e5
    simp only [jg] at e5
    simp [af,aJ,hN,q1,q2,q3,q4,q5,e4,e,e5,dV,splice]
   | ok lo l2=>
    rw [hw] at e5
    simp only [eH] at e5
    obtain ⟨s4,n4⟩:=s3.shorter (C9 s3.w) hw
    have e6:=Lc hE s4 (w:=toW) (by decide) ⟨cx.lim,N⟩ hl
    simp only [PR.bind_ok]
    cases ht:kJ toW l2 with
    | er a c l3=>
     rw [ht] at e6
     simp only [jg,toW] at e6
     simp [af,aJ,hN,q1,q2,q3,q4,q5,e4,e,e5,e6,dV,splice]
    | ok u l3=>
     rw [ht] at e6
     simp only [eH,toW] at e6
     obtain ⟨s5,n5⟩:=s4.shorter (oG (by decide) s4.w) ht
     have e7:=aeV hE s5 lo ⟨cx.lim,N⟩ hl
     simp only [PR.bind_ok]
     cases hh:x9 lo l3 with
     | er a c l4=>
      rw [hh] at e7
      simp only [jg] at e7
      simp [af,aJ,hN,q1,q2,q3,q4,q5,e4,e,e5,e6,e7,dV,splice]
     | ok hi l4=>
      rw [hh] at e7
      simp only [eH] at e7
      simp only [PR.bind_ok,eH,Gg]
      simp [af,aJ,hN,q1,q2,q3,q4,q5,e4,e,e5,e6,e7,dV,splice]
  ·have e:=lX hE s2 h6
   simp only [inB] at e
   rw [if_neg h6,eH,Gg]
   simp [af,aJ,hN,q1,q2,q3,q4,q5,e4,e,dV,splice]
def V6 (n:Nat):Prop:=∀r cs,Suf T r→2 * r.length+1≤n→cs.length+r.length≤1000000→cs≠[]→∀lim:Nat,lim≤l→
 (∃cs' r',jL n r cs=.ok (XZ cs') r'∧cs'≠[]∧cs'.length≤1000000∧fC (aB P0.glob (ah P0) ⟨lim,N⟩ false fF) [0,2,3] [(0,.v (.pt l 0)),(2,.bx z5),(3,.own false fO 5 (cs.map bF))] (S (idx T r))=
  .exit 0 [(0,.v (.pt l 0)),(2,.bx z5),(3,.own false fO 5 (cs'.map bF)),(8,.v (.b false))] (S (idx T r')))∨
 ∃a e r',jL n r cs=.er a e r'∧fC (aB P0.glob (ah P0) ⟨lim,N⟩ false fF) [0,2,3] [(0,.v (.pt l 0)),(2,.bx z5),(3,.own false fO 5 (cs.map bF))] (S (idx T r))=
  .pan (flt a e) (S (idx T r'))
theorem afm {n:Nat} (i1:∀r,Suf T r→2 * r.length≤n→∀cx:Ctx,cx.lim≤l→ah P0 (.fn (.func dO) [] []) [.pt l 0] (S (idx T r)) cx=Ans bF T S (gZ n r))
  (i3:V6 (T:=T) (S:=S) (l:=l) (N:=N) n):V6 (T:=T) (S:=S) (l:=l) (N:=N) (n+1):=by
 intro r cs h hn hc hcs lim hl
 unfold jL
 by_cases h1:txt r=Jw
 ·have e:=kY hE h h1 (by decide) ⟨lim,N⟩ hl
  simp only [Jw] at e
  obtain ⟨s1,n1⟩:=h.tl h1 (by decide)
  have e4:=i1 r.tail s1 (by omega) ⟨lim,N⟩ hl
  rw [if_pos h1]
  cases hp:gZ n r.tail with
  | er a c l1=>
   rw [hp] at e4
   simp only [jg] at e4
   refine .inr ⟨a,c,l1,rfl,ak fun K hK=>?_⟩
   clear hK
   simp [fF,z5,e,e4]
  | ok c l1=>
   rw [hp] at e4
   simp only [eH] at e4
   obtain ⟨s2,n2⟩:=s1.shorter ((iM n).1 _ s1.w) hp
   have hm:cs.length+1≤fQ:=by unfold fQ;omega
   simp only [PR.bind_ok]
   rcases i3 l1 (cs++[c]) s2 (by omega) (by simp;omega) (by simp) lim hl with ⟨cs',r',g1,g2,g3,g4⟩|⟨a,f,r',g1,g2⟩
   ·refine .inl ⟨cs',r',g1,g2,g3,ak fun K hK=>?_⟩
    rw [←hK] at g4
    clear hK
    generalize hW:cs'.map bF=W at g4 ⊢
    simp [z5] at g4
    simp [fF,z5,e,e4,hm,List.range_succ]
    exact g4
   ·refine .inr ⟨a,f,r',g1,ak fun K hK=>?_⟩
    rw [←hK] at g2
    clear hK
    simp [z5] at g2
    simp [fF,z5,e,e4,hm,List.range_succ]
    exact g2
 ·have e:=lX hE h h1
  simp only [Jw] at e
  rw [if_neg h1]
  refine .inl ⟨cs,r,rfl,hcs,by omega,ak fun K hK=>?_⟩
  simp [fF,z5,e]
theorem aha {n:Nat} (i1:∀r,Suf T r→2 * r.length≤n→∀cx:Ctx,cx.lim≤l→ah P0 (.fn (.func dO) [] []) [.pt l 0] (S (idx T r)) cx=Ans bF T S (gZ n r))
  (i3:V6 (T:=T) (S:=S) (l:=l) (N:=N) n) {r:List Tok} (h:Suf T r) (hn:2 * r.length+1≤n+1) (cx:Ctx) (hl:cx.lim≤l):
  ah P0 (.fn (.func bH) [] []) [.pt l 0] (S (idx T r)) cx=Ans bF T S (uP (n+1) r):=by
 have hN:=hE.n
 have hTl:=hE.len
 have hrl:r.length≤T.length:=by obtain ⟨⟨p,rfl⟩,_⟩:=h;simp
 refine BK (zi _ _ _ _) ?_
 unfold uP
 have e4:=i1 r h (by omega) ⟨cx.lim,N⟩ hl
 cases hp:gZ n r with
 | er a c l1=>
  rw [hp] at e4
  simp only [jg] at e4
  simp [af,gV,hN,e4]
 | ok c l1=>
  rw [hp] at e4
  simp only [eH] at e4
  obtain ⟨s2,n2⟩:=h.shorter ((iM n).1 _ h.w) hp
  simp only [PR.bind_ok]
  rcases i3 l1 [c] s2 (by omega) (by simp;omega) (by simp) cx.lim hl with ⟨cs',r',g1,g2,g3,g4⟩|⟨a,f,r',g1,g2⟩
  ·rw [g1,eH]
   simp only [List.map_cons,List.map_nil,z5] at g4
   rcases cs' with _|⟨d,_|⟨f,q⟩⟩
   ·exact absurd rfl g2
   ·simp only [List.map_cons,List.map_nil,XZ] at g4 ⊢
    simp [af,gV,hN,e4,g4,List.range_succ,splice]
   ·simp only [XZ]
    rw [adv]
    generalize hX:bF f::q.map bF=X at *
    have hnl:¬(X.length:Int)+1=1:=by rw [←hX];simp;omega
    simp only [List.map_cons,hX] at g4 ⊢
    have hnl2:¬X=[]:=by rw [←hX];simp
    simp [af,gV,hN,e4,g4,hnl,hnl2,List.range_succ,dV,splice]
  ·rw [g1,jg]
   simp only [List.map_cons,List.map_nil,z5] at g2
   simp [af,gV,hN,e4,g2,List.range_succ]
theorem Zp:∀n:Nat,(∀r,Suf T r→2 * r.length≤n→∀cx:Ctx,cx.lim≤l→ah P0 (.fn (.func dO) [] []) [.pt l 0] (S (idx T r)) cx=Ans bF T S (gZ n r))∧
  (∀r,Suf T r→2 * r.length+1≤n→∀cx:Ctx,cx.lim≤l→ah P0 (.fn (.func bH) [] []) [.pt l 0] (S (idx T r)) cx=Ans bF T S (uP n r))∧V6 (T:=T) (S:=S) (l:=l) (N:=N) n
 | 0=>by
  have hpos:∀{r},Suf T r→1≤r.length:=fun {r} h=>by have:=h.w.ne;cases r with|nil=>exact absurd rfl this|cons a b=>simp
  exact ⟨fun r h h1=>by have:=hpos h;omega,fun r h h1=>by omega,fun r cs h h1=>by omega⟩
 | n+1=>by
  obtain ⟨i1,i2,i3⟩:=Zp n
  exact ⟨fun r h h1 cx hl=>abK hE i1 i2 h h1 cx hl,fun r h h1 cx hl=>aha hE i1 i3 h h1 cx hl,afm hE i1 i3⟩
end
def kK (l:List Tok):PR C:=uP (2 * l.length+1) l
theorem wY {l:List Tok} (h:WT l) {n:Nat} (hn:2 * l.length+1≤n):uP n l=kK l:=(Q7 n _).2.1 l h hn (Nat.le_refl _)
theorem mV {l:List Tok} (h:WT l):Good' l (kK l):=(iM _).2.1 l h
theorem zO {T:List Tok} {m:AV} {S:Nat→St} {l N:Nat} (hE:BN T m S l N) {r:List Tok} (h:Suf T r) (cx:Ctx) (hl:cx.lim≤l):
  ah P0 (.fn (.func bH) [] []) [.pt l 0] (S (idx T r)) cx=Ans bF T S (kK r):=(Zp hE _).2.1 r h (Nat.le_refl _) cx hl
end Go.Ai.Z
