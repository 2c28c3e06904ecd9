/-
 The plain parser: what each function passes, or the fault with which it stops.
-/
import Derived.Test.YtpnlnnfcaeednaaGreatDoorAiQ3Q4Q5
set_option maxRecDepth 100000
set_option linter.unusedSimpArgs false
set_option linter.unusedVariables false
set_option linter.unusedSectionVars false
namespace Go.Ai.Z
inductive PR (α:Type) where
 | ok (v:α) (r:List Tok)
 | er (a e:Int) (r:List Tok)
def PR.bind {α β:Type} (x:PR α) (f:α→List Tok→PR β):PR β:=
 match x with
 | .ok v r=>f v r
 | .er a e r=>.er a e r
@[simp] theorem PR.bind_ok {α β:Type} (v:α) (r:List Tok) (f:α→List Tok→PR β):(PR.ok v r).bind f=f v r:=rfl
@[simp] theorem PR.bind_er {α β:Type} (a e:Int) (r:List Tok) (f:α→List Tok→PR β):(PR.er a e r).bind f=.er a e r:=rfl
structure Yk (t:Tok):Prop where
 k:t.1=1∨t.1=2∨t.1=3
 ne:t.2.1≠[]
 len:t.2.1.length≤65536
 int:t.1=2→∃n,Go.Lib.atoi t.2.1=some n∧(t.2.1.length≤18∨(t.2.1.length=19∧t.2.1.head?=some 45))
inductive WT:List Tok→Prop
 | fin (a:Nat):WT [(4,[],a)]
 | cons (t:Tok) (r:List Tok):Yk t→WT r→WT (t::r)
def hT (l:List Tok):Tok:=l.headD (4,[],0)
def txt (l:List Tok):List UInt8:=(hT l).2.1
@[simp] theorem D7 (t:Tok) (r:List Tok):hT (t::r)=t:=rfl
@[simp] theorem dL (t:Tok) (r:List Tok):txt (t::r)=t.2.1:=rfl
theorem WT.ne {l:List Tok} (h:WT l):l≠[]:=by cases h<;>simp
theorem WT.tl {l:List Tok} (h:WT l) (ht:txt l≠[]∨(hT l).1≠4):∃t r,l=t::r∧Yk t∧WT r:=by
 cases h with
 | fin a=>simp [txt,hT] at ht
 | cons t r h1 h2=>exact ⟨t,r,rfl,h1,h2⟩
theorem WT.kind {l:List Tok} (h:WT l):(hT l).1=1∨(hT l).1=2∨(hT l).1=3∨(hT l).1=4:=by
 cases h with
 | fin a=>exact .inr (.inr (.inr rfl))
 | cons t r h1 h2=>rcases h1.k with h|h|h<;>simp [h]
def evW:List UInt8:=[101,118,101,114,121,116,104,105,110,103]
def YL:List UInt8:=[110,111,116,104,105,110,103]
def P9:List UInt8:=[115,111,109,101]
def toW:List UInt8:=[116,111]
def ig (l:List Tok):PR (List UInt8):=
 if (hT l).1=1∧kwS (txt l)=false then (if lm (txt l)=true then .ok (txt l) l.tail else .er (hT l).2.2 20 l) else .er (hT l).2.2 30 l
def kH (w:List UInt8) (l:List Tok):PR Unit:=if txt l=w then .ok () l.tail else .er (hT l).2.2 30 l
def yw (least:Int) (l:List Tok):PR Int:=
 if (hT l).1=2 then (match Go.Lib.atoi (txt l) with
  | some n=>if 1099511627776<n∨n<least then .er (hT l).2.2 21 l else .ok n l.tail
  | none=>.er (hT l).2.2 21 l)
 else .er (hT l).2.2 30 l
def Yf (cs:List C):C:=match cs with
 | [c]=>c
 | _=>.mk 5 [] 0 0 false cs
mutual
def gZ:Nat→List Tok→PR C
 | 0,l=>.er (hT l).2.2 0 l
 | n+1,l=>
  if txt l=evW then .ok (.mk 1 [] 0 0 true []) l.tail
  else if txt l=YL then .ok (.mk 2 [] 0 0 true []) l.tail
  else if txt l=[123] then (ig l.tail).bind fun nm l1=>(kH [125] l1).bind fun _ l2=>.ok (.mk 4 nm 0 0 true []) l2
  else if txt l=P9 then (ig l.tail).bind fun nm l1=>(gZ n l1).bind fun c l2=>.ok (.mk 6 nm 0 0 false [c]) l2
  else if txt l=[40] then (uV n l.tail).bind fun c l1=>(kH [41] l1).bind fun _ l2=>.ok c l2
  else (ig l).bind fun nm l1=>
   if txt l1=inB then (yw (-1099511627776) l1.tail).bind fun lo l2=>(kH toW l2).bind fun _ l3=>(yw lo l3).bind fun hi l4=>.ok (.mk 7 nm lo hi true []) l4
   else .ok (.mk 3 nm 0 0 true []) l1
def uV:Nat→List Tok→PR C
 | 0,l=>.er (hT l).2.2 0 l
 | n+1,l=>(gZ n l).bind fun c l1=>jK n l1 [c]
def jK:Nat→List Tok→List C→PR C
 | 0,l,_=>.er (hT l).2.2 0 l
 | n+1,l,cs=>if txt l=Jq then (gZ n l.tail).bind fun c l1=>jK n l1 (cs++[c]) else .ok (Yf cs) l
end
def Good' {α:Type} (l:List Tok) (x:PR α):Prop:=
 match x with
 | .ok _ r=>WT r∧∃p,p≠[]∧l=p++r
 | .er _ _ r=>WT r∧∃p,l=p++r
def AZ {α:Type} (l:List Tok) (x:PR α):Prop:=
 match x with
 | .ok _ r=>WT r∧∃p,l=p++r
 | .er _ _ r=>WT r∧∃p,l=p++r
theorem Good'.zero {α:Type} {l:List Tok} {x:PR α} (h:Good' l x):AZ l x:=by
 cases x with
 | ok v r=>obtain ⟨h1,p,_,h2⟩:=h;exact ⟨h1,p,h2⟩
 | er a e r=>exact h
theorem Good'.bind {α β:Type} {l:List Tok} {x:PR α} {f:α→List Tok→PR β} (h:Good' l x) (hf:∀v r,x=.ok v r→WT r→AZ r (f v r)):Good' l (x.bind f):=by
 cases x with
 | er a e r=>exact h
 | ok v r=>
  obtain ⟨h1,p,h2,h3⟩:=h
  have:=hf v r rfl h1
  simp only [PR.bind_ok]
  cases hx:f v r with
  | ok u r2=>rw [hx] at this;obtain ⟨q1,q,q2⟩:=this;exact ⟨q1,p++q,by simp [h2],by rw [h3,q2];simp⟩
  | er a e r2=>rw [hx] at this;obtain ⟨q1,q,q2⟩:=this;exact ⟨q1,p++q,by rw [h3,q2];simp⟩
theorem AZ.bind {α β:Type} {l:List Tok} {x:PR α} {f:α→List Tok→PR β} (h:AZ l x) (hf:∀v r,x=.ok v r→WT r→AZ r (f v r)):AZ l (x.bind f):=by
 cases x with
 | er a e r=>exact h
 | ok v r=>
  obtain ⟨h1,p,h3⟩:=h
  have:=hf v r rfl h1
  simp only [PR.bind_ok]
  cases hx:f v r with
  | ok u r2=>rw [hx] at this;obtain ⟨q1,q,q2⟩:=this;exact ⟨q1,p++q,by rw [h3,q2];simp⟩
  | er a e r2=>rw [hx] at this;obtain ⟨q1,q,q2⟩:=this;exact ⟨q1,p++q,by rw [h3,q2];simp⟩
theorem Good'.tok {β:Type} {l:List Tok} (h:WT l) (ht:txt l≠[]∨(hT l).1≠4) {x:PR β} (hx:∀r,WT r→r=l.tail→AZ r x):Good' l x:=by
 obtain ⟨t,r,rfl,h1,h2⟩:=h.tl ht
 have:=hx r h2 rfl
 cases x with
 | ok v r2=>obtain ⟨q1,q,q2⟩:=this;exact ⟨q1,t::q,by simp,by rw [q2];rfl⟩
 | er a e r2=>obtain ⟨q1,q,q2⟩:=this;exact ⟨q1,t::q,by rw [q2];rfl⟩
theorem bF {l:List Tok} (h:WT l):Good' l (ig l):=by
 unfold ig
 split
 ·rename_i h1
  split
  ·obtain ⟨t,r,rfl,_,h2⟩:=h.tl (.inr (by rw [h1.1];decide))
   exact ⟨h2,[t],by simp,rfl⟩
  ·exact ⟨h,[],rfl⟩
 ·exact ⟨h,[],rfl⟩
theorem oL {w:List UInt8} (hw:w≠[]) {l:List Tok} (h:WT l):Good' l (kH w l):=by
 unfold kH
 split
 ·rename_i h1
  obtain ⟨t,r,rfl,_,h2⟩:=h.tl (.inl (by rw [h1];exact hw))
  exact ⟨h2,[t],by simp,rfl⟩
 ·exact ⟨h,[],rfl⟩
theorem C9 {least:Int} {l:List Tok} (h:WT l):Good' l (yw least l):=by
 unfold yw
 split
 ·rename_i h1
  split
  ·split
   ·exact ⟨h,[],rfl⟩
   ·obtain ⟨t,r,rfl,_,h2⟩:=h.tl (.inr (by rw [h1];decide))
    exact ⟨h2,[t],by simp,rfl⟩
  ·exact ⟨h,[],rfl⟩
 ·exact ⟨h,[],rfl⟩
theorem nK {α:Type} (v:α) {l:List Tok} (h:WT l):AZ l (PR.ok v l):=⟨h,[],rfl⟩
theorem Pn {α:Type} (a e:Int) {l:List Tok} (h:WT l):Good' l (PR.er a e l:PR α):=⟨h,[],rfl⟩
theorem iK:∀n:Nat,(∀l,WT l→Good' l (gZ n l))∧(∀l,WT l→Good' l (uV n l))∧∀l cs,WT l→AZ l (jK n l cs)
 | 0=>⟨fun l h=>by unfold gZ;exact Pn _ _ h,fun l h=>by unfold uV;exact Pn _ _ h,fun l cs h=>by unfold jK;exact (Pn _ _ h).zero⟩
 | n+1=>by
  obtain ⟨i1,i2,i3⟩:=iK n
  refine ⟨fun l h=>?_,fun l h=>?_,fun l cs h=>?_⟩
  ·unfold gZ
   split
   ·rename_i h1;exact .tok h (.inl (by rw [h1];decide)) fun r hr e=>by rw [←e];exact nK _ hr
   split
   ·rename_i h1;exact .tok h (.inl (by rw [h1];decide)) fun r hr e=>by rw [←e];exact nK _ hr
   split
   ·rename_i h1
    exact .tok h (.inl (by rw [h1];decide)) fun r hr e=>by
     rw [←e]
     exact ((bF hr).bind fun nm l1 _ h1=>((oL (by decide) h1).bind fun _ l2 _ h2=>nK _ h2).zero).zero
   split
   ·rename_i h1
    exact .tok h (.inl (by rw [h1];decide)) fun r hr e=>by
     rw [←e]
     exact ((bF hr).bind fun nm l1 _ h1=>((i1 l1 h1).bind fun _ l2 _ h2=>nK _ h2).zero).zero
   split
   ·rename_i h1
    exact .tok h (.inl (by rw [h1];decide)) fun r hr e=>by
     rw [←e]
     exact ((i2 r hr).bind fun nm l1 _ h1=>((oL (by decide) h1).bind fun _ l2 _ h2=>nK _ h2).zero).zero
   ·refine (bF h).bind fun nm l1 _ h1=>?_
    split
    ·rename_i h2
     exact (Good'.tok h1 (.inl (by rw [h2];decide)) fun r hr e=>by
      rw [←e]
      exact ((C9 hr).bind fun lo l2 _ h2=>((oL (by decide) h2).bind fun _ l3 _ h3=>((C9 h3).bind fun hi l4 _ h4=>nK _ h4).zero).zero).zero).zero
    ·exact nK _ h1
  ·unfold uV
   exact (i1 l h).bind fun c l1 _ h1=>i3 l1 _ h1
  ·unfold jK
   split
   ·rename_i h1
    exact (Good'.tok h (.inl (by rw [h1];decide)) fun r hr e=>by
     rw [←e]
     exact ((i1 r hr).bind fun c l1 _ h1=>i3 l1 _ h1).zero).zero
   ·exact nK _ h
theorem Rq:∀(n m:Nat) ,(∀l,WT l→2 * l.length≤n→2 * l.length≤m→gZ n l=gZ m l)∧(∀l,WT l→2 * l.length+1≤n→2 * l.length+1≤m→uV n l=uV m l)∧
  ∀l cs,WT l→2 * l.length+1≤n→2 * l.length+1≤m→jK n l cs=jK m l cs
 | 0,m=>⟨fun l h h1 _=>by have:=h.ne;cases l<;>simp at h1 this,fun l h h1 _=>by omega,fun l cs h h1 _=>by omega⟩
 | n+1,0=>⟨fun l h _ h1=>by have:=h.ne;cases l<;>simp at h1 this,fun l h _ h1=>by omega,fun l cs h _ h1=>by omega⟩
 | n+1,m+1=>by
  obtain ⟨i1,i2,i3⟩:=Rq n m
  have shorter:∀{α:Type} {l r:List Tok} {x:PR α} {v:α},Good' l x→x=.ok v r→WT r∧r.length<l.length:=by
   intro α l r x v hg e
   rw [e] at hg
   obtain ⟨h1,p,h2,h3⟩:=hg
   refine ⟨h1, ?_⟩
   rw [h3]
   cases p with
   | nil=>exact absurd rfl h2
   | cons a p=>simp;omega
  have bnd:∀{α β:Type} (x:PR α) (f g:α→List Tok→PR β),(∀v r,x=.ok v r→f v r=g v r)→x.bind f=x.bind g:=by
   intro α β x f g h
   cases x with
   | ok v r=>exact h v r rfl
   | er a e r=>rfl
  have tl:∀{l:List Tok} {w:List UInt8},WT l→txt l=w→w≠[]→WT l.tail∧l.tail.length+1=l.length:=by
   intro l w h h1 h2
   obtain ⟨t,r,rfl,_,h3⟩:=h.tl (.inl (by rw [h1];exact h2))
   exact ⟨h3,rfl⟩
  refine ⟨fun l h h1 h2=>?_,fun l h h1 h2=>?_,fun l cs h h1 h2=>?_⟩
  ·unfold gZ
   split
   ·rfl
   split
   ·rfl
   split
   ·rfl
   split
   ·rename_i h3
    obtain ⟨t1,t2⟩:=tl h h3 (by decide)
    refine bnd _ _ _ fun nm l1 e=>?_
    obtain ⟨q1,q2⟩:=shorter (bF t1) e
    rw [i1 l1 q1 (by omega) (by omega)]
   split
   ·rename_i h3
    obtain ⟨t1,t2⟩:=tl h h3 (by decide)
    rw [i2 l.tail t1 (by omega) (by omega)]
   ·rfl
  ·unfold uV
   rw [i1 l h (by omega) (by omega)]
   refine bnd _ _ _ fun c l1 e=>?_
   obtain ⟨q1,q2⟩:=shorter ((iK m).1 l h) e
   exact i3 l1 _ q1 (by omega) (by omega)
  ·unfold jK
   split
   ·rename_i h3
    obtain ⟨t1,t2⟩:=tl h h3 (by decide)
    rw [i1 l.tail t1 (by omega) (by omega)]
    refine bnd _ _ _ fun c l1 e=>?_
    obtain ⟨q1,q2⟩:=shorter ((iK m).1 l.tail t1) e
    exact i3 l1 _ q1 (by omega) (by omega)
   ·rfl
end Go.Ai.Z
namespace Go.Ai.Z
open Go.Ai
def flt (a e:Int):AV:=.ifc ng (.ag [.i .i64 a,.i .i64 e])
@[simp] theorem ajM (S:St) (n:Nat) (a e:Int):frz S n (flt a e)=some (flt a e):=by simp [frz,flt,AV.under]
@[simp] theorem aiG (S:St) (n:Nat) (a e:Int):frz S n (.ifc ng (.ag [.i .i64 a,.i .i64 e]))=some (.ifc ng (.ag [.i .i64 a,.i .i64 e])):=by simp [frz,AV.under]
def idx (T r:List Tok):Nat:=T.length - r.length
structure Suf (T r:List Tok):Prop where
 p:∃p,T=p++r
 w:WT r
theorem Suf.app {T l r:List Tok} (h:Suf T l) {p:List Tok} (hp:l=p++r) (hr:WT r):Suf T r:=by
 obtain ⟨⟨q,hq⟩,_⟩:=h
 exact ⟨⟨q++p,by rw [hq,hp];simp⟩,hr⟩
theorem Suf.get {T r:List Tok} (h:Suf T r):T[idx T r]?=some (hT r):=by
 obtain ⟨⟨p,rfl⟩,hw⟩:=h
 unfold idx
 have:(p++r).length - r.length=p.length:=by simp
 rw [this,List.getElem?_append_right (Nat.le_refl _),Nat.sub_self]
 cases hw with
 | fin a=>rfl
 | cons t r h1 h2=>rfl
theorem Suf.tail {T r:List Tok} (h:Suf T r) (ht:txt r≠[]∨(hT r).1≠4):Suf T r.tail∧idx T r.tail=idx T r+1:=by
 obtain ⟨t,q,rfl,_,hq⟩:=h.w.tl ht
 refine ⟨h.app (p:=[t]) rfl hq, ?_⟩
 obtain ⟨⟨p,rfl⟩,_⟩:=h
 simp [idx];omega
theorem Suf.lt {T r:List Tok} (h:Suf T r):idx T r<T.length:=(List.getElem?_eq_some_iff.1 h.get).1
theorem Suf.ok {α:Type} {T l r:List Tok} (h:Suf T l) {x:PR α} {v:α} (hg:AZ l x) (hx:x=.ok v r):Suf T r:=by
 rw [hx] at hg
 obtain ⟨h1,p,h2⟩:=hg
 exact h.app h2 h1
theorem Suf.er {α:Type} {T l r:List Tok} (h:Suf T l) {x:PR α} {a e:Int} (hg:AZ l x) (hx:x=.er a e r):Suf T r:=by
 rw [hx] at hg
 obtain ⟨h1,p,h2⟩:=hg
 exact h.app h2 h1
def Ans {α:Type} (enc:α→AV) (T:List Tok) (S:Nat→St) (x:PR α):CO:=
 match x with
 | .ok v r=>.ret (enc v) (S (idx T r))
 | .er a e r=>.pan (flt a e) (S (idx T r))
@[simp] theorem eU {α:Type} (enc:α→AV) (T:List Tok) (S:Nat→St) (v:α) (r:List Tok):Ans enc T S (.ok v r)=.ret (enc v) (S (idx T r)):=rfl
@[simp] theorem jc {α:Type} (enc:α→AV) (T:List Tok) (S:Nat→St) (a e:Int) (r:List Tok):Ans enc T S (.er a e r:PR α)=.pan (flt a e) (S (idx T r)):=rfl
theorem zo {α:Type} (enc:α→AV) (T:List Tok) (S:Nat→St) (x:PR α):Ans enc T S x≠.fail:=by cases x<;>simp
section
variable {T:List Tok} {m:AV} {S:Nat→St} {l N:Nat} (hE:BN T m S l N)
include hE
theorem Gu {r:List Tok} (h:Suf T r) (cx:Ctx):ah P0 (.fn (.func aW) [] []) [.pt l 0] (S (idx T r)) cx=.ret (dN (hT r)) (S (idx T r)):=
 Eh T hE.len (idx T r) m (S (idx T r)) l (hE.cell _) (hT r).1 (hT r).2.1 (hT r).2.2 h.get cx
theorem lV {r:List Tok} (h:Suf T r) {w:List UInt8} (hw:txt r≠w) (cx:Ctx):ah P0 (.fn (.func aF) [] []) [.pt l 0,.s w] (S (idx T r)) cx=.ret (.b false) (S (idx T r)):=
 abS T hE.len (idx T r) m (S (idx T r)) l (hE.cell _) (hT r).1 (hT r).2.1 (hT r).2.2 h.get w hw cx
theorem kX {r:List Tok} (h:Suf T r) {w:List UInt8} (hw:txt r=w) (hn:w≠[]) (cx:Ctx) (hl:cx.lim≤l):ah P0 (.fn (.func aF) [] []) [.pt l 0,.s w] (S (idx T r)) cx=.ret (.b true) (S (idx T r.tail)):=by
 have:=Zw T hE.len (idx T r) m (S (idx T r)) l (hE.cell _) (hT r).1 (hT r).2.1 (hT r).2.2 h.get cx hl
 rw [hE.sets,←(h.tail (.inl (by rw [hw];exact hn))).2] at this
 rw [←hw];exact this
theorem Wx {r:List Tok} (h:Suf T r) (cx:Ctx):ah P0 (.fn (.func iQ) [] []) [.pt l 0] (S (idx T r)) cx=.ret (.b (decide ((hT r).1=1) && !kwS (txt r))) (S (idx T r)):=
 Yb T hE.len (idx T r) m (S (idx T r)) l (hE.cell _) (hT r).1 (hT r).2.1 (hT r).2.2 h.get cx
theorem La {r:List Tok} (h:Suf T r) (e:Int) (cx:Ctx):ah P0 (.fn (.func eH) [] []) [.pt l 0,.i .i64 e] (S (idx T r)) cx=.pan (flt (hT r).2.2 e) (S (idx T r)):=by
 have h1:=Gu hE h
 refine EY (by simp) ?_
 simp [af,pG,h1,dN,dX,splice,flt]
theorem KZ {r:List Tok} (h:Suf T r) {w:List UInt8} (hn:w≠[]) (cx:Ctx) (hl:cx.lim≤l):ah P0 (.fn (.func fK) [] []) [.pt l 0,.s w] (S (idx T r)) cx=Ans (fun _=>.tu []) T S (kH w r):=by
 refine EU (zo _ _ _ _) ?_
 unfold kH
 by_cases hw:txt r=w
 ·have h1:=kX hE h hw hn ⟨cx.lim,(S (idx T r)).length⟩ hl
  rw [if_pos hw]
  simp only [hE.n] at h1
  simp [af,lT,hE.n,h1]
 ·have h1:=lV hE h hw
  have h2:=La hE h 30
  rw [if_neg hw]
  simp [af,lT,hE.n,h1,h2]
theorem wK {r:List Tok} (h:Suf T r) (cx:Ctx) (hl:cx.lim≤l):ah P0 (.fn (.func aO) [] []) [.pt l 0] (S (idx T r)) cx=Ans .s T S (ig r):=by
 have h1:=Wx hE h
 have h2:=Gu hE h
 have hlt:=h.lt
 have hT:=hE.len
 have hwi:=wI (i:=idx T r) (by omega)
 unfold ig
 by_cases hk:(Z.hT r).1=1∧kwS (txt r)=false
 ·rw [if_pos hk]
  obtain ⟨t,q,rfl,ht,hq⟩:=h.w.tl (.inr (by rw [hk.1];decide))
  by_cases hp:lm (txt (t::q))=true
  ·rw [if_pos hp]
   have:=agG T hE.len (idx T (t::q)) m (S (idx T (t::q))) l (hE.cell _) t.1 t.2.1 t.2.2 h.get hk.1 hp cx hl
   rw [hE.sets,←(h.tail (.inr (by rw [hk.1];decide))).2] at this
   exact this
  ·rw [if_neg hp]
   have h3:=La hE h 20
   refine uf (by simp) ?_
   obtain ⟨b,u,hb⟩:∃b u,t.2.1=b::u:=by
    cases hc:t.2.1 with
    | nil=>exact absurd hc ht.ne
    | cons b u=>exact ⟨b,u,rfl⟩
   simp only [dL,D7,hb] at h1 h2 h3 hk hp ⊢
   by_cases h95:(b.toNat:Int)=95
   ·simp [af,iY,hE.n,h1,h2,h3,dN,hb,hk,h95]
   ·have hr:Qo (b::u)=false:=by
     unfold Qo
     simp [h95]
    have e4:∀(s:St) (cx:Ctx),ah P0 (.fn (.func gK) [] []) [.s (b::u)] s cx=.ret (.i .i64 20) s:=by
     intro s cx
     have e1:=wV (b::u) (by have:=ht.len;rw [hb] at this;omega)
     refine wR (by simp) ?_
     simp [af,lY,hp,hr,e1]
    simp [af,iY,hE.n,h1,h2,h3,dN,hb,hk,h95,e4]
 ·rw [if_neg hk]
  have h3:=La hE h 30
  refine uf (by simp) ?_
  have hk':(decide ((Z.hT r).1=1) && !kwS (txt r))=false:=by
   cases hd:(decide ((Z.hT r).1=1) && !kwS (txt r)) with
   | false=>rfl
   | true=>
    simp only [Bool.and_eq_true,decide_eq_true_eq,Bool.not_eq_true'] at hd
    exact absurd hd hk
  rw [hk'] at h1
  simp [af,iY,hE.n,h1,h3]
theorem afb {r:List Tok} (h:Suf T r) (least:Int) (cx:Ctx) (hl:cx.lim≤l):ah P0 (.fn (.func jG) [] []) [.pt l 0,.i .i64 least] (S (idx T r)) cx=Ans (.i .i64) T S (yw least r):=by
 have h1:=Gu hE h
 have hlt:=h.lt
 have hT:=hE.len
 have hwi:=wI (i:=idx T r) (by omega)
 unfold yw
 by_cases hk:(Z.hT r).1=2
 ·rw [if_pos hk]
  obtain ⟨t,q,rfl,ht,hq⟩:=h.w.tl (.inr (by rw [hk];decide))
  obtain ⟨n,hn,hl18⟩:=ht.int hk
  have e2:∀(s:St) (cx:Ctx),ah P0 (.fn (.func A7) [] []) [.s t.2.1] s cx=.ret (.tu [.i .i64 n,.ni]) s:=fun s cx=>
   xX (h:=Ig XC) rfl (by simp only [Ig,XC,List.nil_append,List.append_nil];rw [if_pos hl18,hn];rfl)
  have hk':t.1=2:=hk
  have h3:=La hE h 21
  have htl:=(h.tail (.inr (by rw [hk];decide))).2
  simp only [dL,hn,List.tail_cons,D7] at htl h1 h3 ⊢
  refine xA (zo _ _ _ _) ?_
  by_cases hb1:1099511627776<n
  ·simp [af,iD,hE.n,h1,h3,e2,dN,hk',hb1,LQ]
  ·by_cases hb2:n<least
   ·simp [af,iD,hE.n,h1,h3,e2,dN,hk',hb1,hb2,LQ]
   ·have hc:=hE.cell (idx T (t::q))
    have hs:=hE.sets (idx T (t::q)) (idx T (t::q)+1)
    unfold psO at hc hs
    simp [af,iD,hE.n,h1,e2,dN,hk',hb1,hb2,LQ,hc,hwi,hl,splice,htl]
    simpa using hs
 ·rw [if_neg hk]
  have h3:=La hE h 30
  refine xA (by simp) ?_
  simp [af,iD,hE.n,h1,h3,dN,hk]
end
end Go.Ai.Z
namespace Go.Ai.Z
theorem Suf.tl {T r:List Tok} (h:Suf T r) {w:List UInt8} (hw:txt r=w) (hn:w≠[]):Suf T r.tail∧r.tail.length+1=r.length:=by
 refine ⟨(h.tail (.inl (by rw [hw];exact hn))).1, ?_⟩
 obtain ⟨t,q,rfl,_,_⟩:=h.w.tl (.inl (by rw [hw];exact hn))
 rfl
theorem Suf.shorter {α:Type} {T l r:List Tok} (h:Suf T l) {x:PR α} {v:α} (hg:Good' l x) (hx:x=.ok v r):Suf T r∧r.length+1≤l.length:=by
 refine ⟨h.ok hg.zero hx, ?_⟩
 rw [hx] at hg
 obtain ⟨_,p,h2,h3⟩:=hg
 rw [h3]
 cases p with
 | nil=>exact absurd rfl h2
 | cons a p=>simp
theorem abG (nm:List UInt8) (c:C):bD (.mk 6 nm 0 0 false [c])=.ag [.i .i64 6,.s nm,.i .i64 0,.i .i64 0,.sl [bD c]]:=by
 rw [vF];simp [C.kind,C.name,C.lo,C.hi,C.z,C.parts]
theorem adO (cs:List C):bD (.mk 5 [] 0 0 false cs)=.ag [.i .i64 5,.s [],.i .i64 0,.i .i64 0,.sl (cs.map bD)]:=by
 rw [vF];simp [C.kind,C.name,C.lo,C.hi,C.z,C.parts]
section
variable {T:List Tok} {m:AV} {S:Nat→St} {l N:Nat} (hE:BN T m S l N)
include hE
set_option maxHeartbeats 2000000 in
theorem ab9 {n:Nat} (i1:∀r,Suf T r→2 * r.length≤n→∀cx:Ctx,cx.lim≤l→ah P0 (.fn (.func dP) [] []) [.pt l 0] (S (idx T r)) cx=Ans bD T S (gZ n r))
  (i2:∀r,Suf T r→2 * r.length+1≤n→∀cx:Ctx,cx.lim≤l→ah P0 (.fn (.func bI) [] []) [.pt l 0] (S (idx T r)) cx=Ans bD T S (uV n r))
  {r:List Tok} (h:Suf T r) (hn:2 * r.length≤n+1) (cx:Ctx) (hl:cx.lim≤l):
  ah P0 (.fn (.func dP) [] []) [.pt l 0] (S (idx T r)) cx=Ans bD T S (gZ (n+1) r):=by
 have hN:=hE.n
 refine Df (zo _ _ _ _) ?_
 unfold gZ
 by_cases h1:txt r=evW
 ·have e:=kX hE h h1 (by decide) ⟨cx.lim,N⟩ hl
  rw [if_pos h1,eU,F7]
  simp only [evW] at e
  simp [af,aJ,hN,e,dX,splice]
 rw [if_neg h1]
 have q1:=lV hE h h1
 simp only [evW] at q1
 by_cases h2:txt r=YL
 ·have e:=kX hE h h2 (by decide) ⟨cx.lim,N⟩ hl
  rw [if_pos h2,eU,F7]
  simp only [YL] at e
  simp [af,aJ,hN,q1,e,dX,splice]
 rw [if_neg h2]
 have q2:=lV hE h h2
 simp only [YL] at q2
 by_cases h3:txt r=[123]
 ·have e:=kX hE h h3 (by decide) ⟨cx.lim,N⟩ hl
  obtain ⟨s1,n1⟩:=h.tl h3 (by decide)
  have e4:=wK hE s1 ⟨cx.lim,N⟩ hl
  rw [if_pos h3]
  cases hp:ig r.tail with
  | er a c l1=>
   rw [hp] at e4
   simp only [jc] at e4
   simp [af,aJ,hN,q1,q2,e,e4]
  | ok nm l1=>
   rw [hp] at e4
   simp only [eU] at e4
   obtain ⟨s2,n2⟩:=s1.shorter (bF s1.w) hp
   have e5:=KZ hE s2 (w:=[125]) (by decide) ⟨cx.lim,N⟩ hl
   cases hw:kH [125] l1 with
   | er a c l2=>
    rw [hw] at e5
    simp only [jc] at e5
    simp [af,aJ,hN,q1,q2,e,e4,e5,hw,dX,splice]
   | ok u l2=>
    rw [hw] at e5
    simp only [eU] at e5
    simp only [PR.bind_ok,hw,eU,F7]
    simp [af,aJ,hN,q1,q2,e,e4,e5,dX,splice]
 rw [if_neg h3]
 have q3:=lV hE h h3
 by_cases h4:txt r=P9
 ·have e:=kX hE h h4 (by decide) ⟨cx.lim,N⟩ hl
  simp only [P9] at e
  obtain ⟨s1,n1⟩:=h.tl h4 (by decide)
  have e4:=wK hE s1 ⟨cx.lim,N⟩ hl
  rw [if_pos h4]
  cases hp:ig r.tail with
  | er a c l1=>
   rw [hp] at e4
   simp only [jc] at e4
   simp [af,aJ,hN,q1,q2,q3,e,e4]
  | ok nm l1=>
   rw [hp] at e4
   simp only [eU] at e4
   obtain ⟨s2,n2⟩:=s1.shorter (bF s1.w) hp
   have e5:=i1 l1 s2 (by omega) ⟨cx.lim,N⟩ hl
   cases hw:gZ n l1 with
   | er a c l2=>
    rw [hw] at e5
    simp only [jc] at e5
    simp [af,aJ,hN,q1,q2,q3,e,e4,e5,hw,dX,splice]
   | ok u l2=>
    rw [hw] at e5
    simp only [eU] at e5
    simp only [PR.bind_ok,hw,eU,abG]
    simp [af,aJ,hN,q1,q2,q3,e,e4,e5,dX,splice,List.range_succ]
 rw [if_neg h4]
 have q4:=lV hE h h4
 simp only [P9] at q4
 by_cases h5:txt r=[40]
 ·have e:=kX hE h h5 (by decide) ⟨cx.lim,N⟩ hl
  obtain ⟨s1,n1⟩:=h.tl h5 (by decide)
  have e4:=i2 r.tail s1 (by omega) ⟨cx.lim,N⟩ hl
  rw [if_pos h5]
  cases hp:uV n r.tail with
  | er a c l1=>
   rw [hp] at e4
   simp only [jc] at e4
   simp [af,aJ,hN,q1,q2,q3,q4,e,e4]
  | ok nm l1=>
   rw [hp] at e4
   simp only [eU] at e4
   obtain ⟨s2,n2⟩:=s1.shorter ((iK n).2.1 _ s1.w) hp
   have e5:=KZ hE s2 (w:=[41]) (by decide) ⟨cx.lim,N⟩ hl
   cases hw:kH [41] l1 with
   | er a c l2=>
    rw [hw] at e5
    simp only [jc] at e5
    simp [af,aJ,hN,q1,q2,q3,q4,e,e4,e5,hw,dX,splice]
   | ok u l2=>
    rw [hw] at e5
    simp only [eU] at e5
    simp only [PR.bind_ok,hw,eU]
    simp [af,aJ,hN,q1,q2,q3,q4,e,e4,e5,dX,splice]
 rw [if_neg h5]
 have q5:=lV hE h h5
 have e4:=wK hE h ⟨cx.lim,N⟩ hl
 cases hp:ig r with
 | er a c l1=>
  rw [hp] at e4
  simp only [jc] at e4
  simp [af,aJ,hN,q1,q2,q3,q4,q5,e4]
 | ok nm l1=>
  rw [hp] at e4
  simp only [eU] at e4
  obtain ⟨s2,n2⟩:=h.shorter (bF h.w) hp
  simp only [PR.bind_ok]
  by_cases h6:txt l1=inB
  ·have e:=kX hE s2 h6 (by decide) ⟨cx.lim,N⟩ hl
   simp only [inB] at e
   obtain ⟨s3,n3⟩:=s2.tl h6 (by decide)
   have e5:=afb hE s3 (-1099511627776) ⟨cx.lim,N⟩ hl
   rw [if_pos h6]
   cases hw:yw (-1099511627776) l1.tail with
   | er a c l2=>
    rw [hw] at e5
    simp only [jc] at e5
    simp [af,aJ,hN,q1,q2,q3,q4,q5,e4,e,e5,dX,splice]
   | ok lo l2=>
    rw [hw] at e5
    simp only [eU] at e5
    obtain ⟨s4,n4⟩:=s3.shorter (C9 s3.w) hw
    have e6:=KZ hE s4 (w:=toW) (by decide) ⟨cx.lim,N⟩ hl
    simp only [PR.bind_ok]
    cases ht:kH toW l2 with
    | er a c l3=>
     rw [ht] at e6
     simp only [jc,toW] at e6
     simp [af,aJ,hN,q1,q2,q3,q4,q5,e4,e,e5,e6,dX,splice]
    | ok u l3=>
     rw [ht] at e6
     simp only [eU,toW] at e6
     obtain ⟨s5,n5⟩:=s4.shorter (oL (by decide) s4.w) ht
     have e7:=afb hE s5 lo ⟨cx.lim,N⟩ hl
     simp only [PR.bind_ok]
     cases hh:yw lo l3 with
     | er a c l4=>
      rw [hh] at e7
      simp only [jc] at e7
      simp [af,aJ,hN,q1,q2,q3,q4,q5,e4,e,e5,e6,e7,dX,splice]
     | ok hi l4=>
      rw [hh] at e7
      simp only [eU] at e7
      simp only [PR.bind_ok,eU,F7]
      simp [af,aJ,hN,q1,q2,q3,q4,q5,e4,e,e5,e6,e7,dX,splice]
  ·have e:=lV hE s2 h6
   simp only [inB] at e
   rw [if_neg h6,eU,F7]
   simp [af,aJ,hN,q1,q2,q3,q4,q5,e4,e,dX,splice]
def Ws (n:Nat):Prop:=∀r cs,Suf T r→2 * r.length+1≤n→cs.length+r.length≤1000000→cs≠[]→∀lim:Nat,lim≤l→
 (∃cs' r',jK n r cs=.ok (Yf cs') r'∧cs'≠[]∧cs'.length≤1000000∧eX (aC P0.glob (ah P0) ⟨lim,N⟩ false fG) [0,2,3] [(0,.v (.pt l 0)),(2,.bx z5),(3,.own false gB 5 (cs.map bD))] (S (idx T r))=
  .exit 0 [(0,.v (.pt l 0)),(2,.bx z5),(3,.own false gB 5 (cs'.map bD)),(8,.v (.b false))] (S (idx T r')))∨
 ∃a e r',jK n r cs=.er a e r'∧eX (aC P0.glob (ah P0) ⟨lim,N⟩ false fG) [0,2,3] [(0,.v (.pt l 0)),(2,.bx z5),(3,.own false gB 5 (cs.map bD))] (S (idx T r))=
  .pan (flt a e) (S (idx T r'))
theorem afC {n:Nat} (i1:∀r,Suf T r→2 * r.length≤n→∀cx:Ctx,cx.lim≤l→ah P0 (.fn (.func dP) [] []) [.pt l 0] (S (idx T r)) cx=Ans bD T S (gZ n r))
  (i3:Ws (T:=T) (S:=S) (l:=l) (N:=N) n):Ws (T:=T) (S:=S) (l:=l) (N:=N) (n+1):=by
 intro r cs h hn hc hcs lim hl
 unfold jK
 by_cases h1:txt r=Jq
 ·have e:=kX hE h h1 (by decide) ⟨lim,N⟩ hl
  simp only [Jq] at e
  obtain ⟨s1,n1⟩:=h.tl h1 (by decide)
  have e4:=i1 r.tail s1 (by omega) ⟨lim,N⟩ hl
  rw [if_pos h1]
  cases hp:gZ n r.tail with
  | er a c l1=>
   rw [hp] at e4
   simp only [jc] at e4
   refine .inr ⟨a,c,l1,rfl,ak fun K hK=>?_⟩
   clear hK
   simp [fG,z5,e,e4]
  | ok c l1=>
   rw [hp] at e4
   simp only [eU] at e4
   obtain ⟨s2,n2⟩:=s1.shorter ((iK n).1 _ s1.w) hp
   have hm:cs.length+1≤eu:=by unfold eu;omega
   simp only [PR.bind_ok]
   rcases i3 l1 (cs++[c]) s2 (by omega) (by simp;omega) (by simp) lim hl with ⟨cs',r',g1,g2,g3,g4⟩|⟨a,f,r',g1,g2⟩
   ·refine .inl ⟨cs',r',g1,g2,g3,ak fun K hK=>?_⟩
    rw [←hK] at g4
    clear hK
    generalize hW:cs'.map bD=W at g4 ⊢
    simp [z5] at g4
    simp [fG,z5,e,e4,hm,List.range_succ]
    exact g4
   ·refine .inr ⟨a,f,r',g1,ak fun K hK=>?_⟩
    rw [←hK] at g2
    clear hK
    simp [z5] at g2
    simp [fG,z5,e,e4,hm,List.range_succ]
    exact g2
 ·have e:=lV hE h h1
  simp only [Jq] at e
  rw [if_neg h1]
  refine .inl ⟨cs,r,rfl,hcs,by omega,ak fun K hK=>?_⟩
  simp [fG,z5,e]
theorem ahq {n:Nat} (i1:∀r,Suf T r→2 * r.length≤n→∀cx:Ctx,cx.lim≤l→ah P0 (.fn (.func dP) [] []) [.pt l 0] (S (idx T r)) cx=Ans bD T S (gZ n r))
  (i3:Ws (T:=T) (S:=S) (l:=l) (N:=N) n) {r:List Tok} (h:Suf T r) (hn:2 * r.length+1≤n+1) (cx:Ctx) (hl:cx.lim≤l):
  ah P0 (.fn (.func bI) [] []) [.pt l 0] (S (idx T r)) cx=Ans bD T S (uV (n+1) r):=by
 have hN:=hE.n
 have hTl:=hE.len
 have hrl:r.length≤T.length:=by obtain ⟨⟨p,rfl⟩,_⟩:=h;simp
 refine BK (zo _ _ _ _) ?_
 unfold uV
 have e4:=i1 r h (by omega) ⟨cx.lim,N⟩ hl
 cases hp:gZ n r with
 | er a c l1=>
  rw [hp] at e4
  simp only [jc] at e4
  simp [af,gV,hN,e4]
 | ok c l1=>
  rw [hp] at e4
  simp only [eU] at e4
  obtain ⟨s2,n2⟩:=h.shorter ((iK n).1 _ h.w) hp
  simp only [PR.bind_ok]
  rcases i3 l1 [c] s2 (by omega) (by simp;omega) (by simp) cx.lim hl with ⟨cs',r',g1,g2,g3,g4⟩|⟨a,f,r',g1,g2⟩
  ·rw [g1,eU]
   simp only [List.map_cons,List.map_nil,z5] at g4
   rcases cs' with _|⟨d,_|⟨f,q⟩⟩
   ·exact absurd rfl g2
   ·simp only [List.map_cons,List.map_nil,Yf] at g4 ⊢
    simp [af,gV,hN,e4,g4,List.range_succ,splice]
   ·simp only [Yf]
    rw [adO]
    generalize hX:bD f::q.map bD=X at *
    have hnl:¬(X.length:Int)+1=1:=by rw [←hX];simp;omega
    simp only [List.map_cons,hX] at g4 ⊢
    have hnl2:¬X=[]:=by rw [←hX];simp
    simp [af,gV,hN,e4,g4,hnl,hnl2,List.range_succ,dX,splice]
  ·rw [g1,jc]
   simp only [List.map_cons,List.map_nil,z5] at g2
   simp [af,gV,hN,e4,g2,List.range_succ]
theorem ZG:∀n:Nat,(∀r,Suf T r→2 * r.length≤n→∀cx:Ctx,cx.lim≤l→ah P0 (.fn (.func dP) [] []) [.pt l 0] (S (idx T r)) cx=Ans bD T S (gZ n r))∧
  (∀r,Suf T r→2 * r.length+1≤n→∀cx:Ctx,cx.lim≤l→ah P0 (.fn (.func bI) [] []) [.pt l 0] (S (idx T r)) cx=Ans bD T S (uV n r))∧Ws (T:=T) (S:=S) (l:=l) (N:=N) n
 | 0=>by
  have hpos:∀{r},Suf T r→1≤r.length:=fun {r} h=>by have:=h.w.ne;cases r with|nil=>exact absurd rfl this|cons a b=>simp
  exact ⟨fun r h h1=>by have:=hpos h;omega,fun r h h1=>by omega,fun r cs h h1=>by omega⟩
 | n+1=>by
  obtain ⟨i1,i2,i3⟩:=ZG n
  exact ⟨fun r h h1 cx hl=>ab9 hE i1 i2 h h1 cx hl,fun r h h1 cx hl=>ahq hE i1 i3 h h1 cx hl,afC hE i1 i3⟩
end
def kJ (l:List Tok):PR C:=uV (2 * l.length+1) l
theorem xu {l:List Tok} (h:WT l) {n:Nat} (hn:2 * l.length+1≤n):uV n l=kJ l:=(Rq n _).2.1 l h hn (Nat.le_refl _)
theorem mP {l:List Tok} (h:WT l):Good' l (kJ l):=(iK _).2.1 l h
theorem zU {T:List Tok} {m:AV} {S:Nat→St} {l N:Nat} (hE:BN T m S l N) {r:List Tok} (h:Suf T r) (cx:Ctx) (hl:cx.lim≤l):
  ah P0 (.fn (.func bI) [] []) [.pt l 0] (S (idx T r)) cx=Ans bD T S (kJ r):=(ZG hE _).2.1 r h (Nat.le_refl _) cx hl
end Go.Ai.Z
