/-
 The plain parser of axioms.
-/
import Derived.Test.YtpnlnnfcaeednaaGreatDoorAiY9Y10Y11
import Derived.Test.YtpnlnnfcaeednaaGreatDoorAiU1U2U3U4
set_option maxRecDepth 100000
set_option linter.unusedSimpArgs false
set_option linter.unusedVariables false
set_option linter.unusedSectionVars false
namespace Go.Ai.Z
def GR (l:List Tok):PR Ax:=(ig l).bind fun r l1=>(kK l1).bind fun c l2=>.ok ⟨4,false,zC,c,true,[],r,[],[]⟩ l2
def GN (l:List Tok):PR Ax:=(ig l).bind fun a l1=>(kK l1).bind fun c l2=>.ok ⟨8,false,zC,c,true,[],[],a,[]⟩ l2
def TJ (l:List Tok):PR Ax:=(ig l).bind fun r l1=>.ok ⟨7,false,zC,zC,true,[],r,[],[]⟩ l1
def TL (l:List Tok):PR Ax:=(ig l).bind fun a l1=>(ig l1).bind fun r l2=>(ig l2).bind fun b l3=>.ok ⟨9,false,zC,zC,true,[],r,a,b⟩ l3
def TI (l:List Tok):PR Ax:=(ig l).bind fun q l1=>(kJ Ho l1).bind fun _ l2=>(ig l2).bind fun r l3=>.ok ⟨5,false,zC,zC,true,[q],r,[],[]⟩ l3
def tV:Nat→List (List UInt8)→List Tok→PR (List (List UInt8))
 | 0,acc,l=>.ok acc l
 | n+1,acc,l=>if (hT l).1=1∧kwS (txt l)=false then (ig l).bind fun r l1=>tV n (acc++[r]) l1 else .ok acc l
def Lu (l:List Tok):PR Ax:=(ig l).bind fun p l1=>(ig l1).bind fun q l2=>(tV 2 [p,q] l2).bind fun rs l3=>(kJ Ho l3).bind fun _ l4=>(ig l4).bind fun r l5=>.ok ⟨6,false,zC,zC,true,rs,r,[],[]⟩ l5
def ifw {α:Type} (w:List UInt8) (f g:List Tok→PR α) (l:List Tok):PR α:=if txt l=w then f l.tail else g l
def Io (k:Int) (c:C) (l:List Tok):PR Ax:=(kK l).bind fun d l2=>.ok ⟨k,false,c,d,true,[],[],[],[]⟩ l2
def ae3 {α:Type} (l:List Tok):PR α:=.er (hT l).2.2 30 l
def WW (l:List Tok):PR Ax:=(kK l).bind fun c l1=>ifw Ho (Io 1 c) (ifw Zy (Io 2 c) (ifw Z7 (Io 3 c) ae3)) l1
def wX:List Tok→PR Ax:=ifw Rn GR (ifw FD TI (ifw AP Lu (ifw FI TJ (ifw Fg GN (ifw FV TL WW)))))
def WB (o p:Bool) (x:Ax):Ax:={ x with op:=if x.kind=5∨x.kind=6∨x.kind=7 then !p else o }
def pSt (o p:Bool) (l:List Tok):PR Ax:=(wX l).bind fun x r=>.ok (WB o p x) r
def BG:List Tok→PR Ax:=ifw JQ (pSt true false) (ifw JK (pSt false true) (pSt false false))
theorem uD {α:Type} {w:List UInt8} (hn:w≠[]) {f g:List Tok→PR α} {l:List Tok} (h:WT l) (hf:∀r,WT r→Good' r (f r)) (hg:Good' l (g l)):Good' l (ifw w f g l):=by
 unfold ifw
 split
 ·rename_i h1
  exact .tok h (.inl (by rw [h1];exact hn)) fun r hr e=>by rw [←e];exact (hf r hr).zero
 ·exact hg
theorem NV {l:List Tok} (h:WT l):Good' l (GR l):=(bD h).bind fun _ _ _ h1=>((mV h1).bind fun _ _ _ h2=>nK _ h2).zero
theorem NT {l:List Tok} (h:WT l):Good' l (GN l):=(bD h).bind fun _ _ _ h1=>((mV h1).bind fun _ _ _ h2=>nK _ h2).zero
theorem Ue {l:List Tok} (h:WT l):Good' l (TJ l):=(bD h).bind fun _ _ _ h1=>nK _ h1
theorem Uf {l:List Tok} (h:WT l):Good' l (TL l):=(bD h).bind fun _ _ _ h1=>((bD h1).bind fun _ _ _ h2=>((bD h2).bind fun _ _ _ h3=>nK _ h3).zero).zero
theorem Ud {l:List Tok} (h:WT l):Good' l (TI l):=(bD h).bind fun _ _ _ h1=>((oG (by decide) h1).bind fun _ _ _ h2=>((bD h2).bind fun _ _ _ h3=>nK _ h3).zero).zero
theorem Jk:∀(n:Nat) (acc:List (List UInt8)) {l:List Tok},WT l→AX l (tV n acc l)
 | 0,acc,l,h=>nK _ h
 | n+1,acc,l,h=>by
  unfold tV
  split
  ·exact ((bD h).bind fun _ _ _ h1=>Jk n _ h1).zero
  ·exact nK _ h
theorem QY {l:List Tok} (h:WT l):Good' l (Lu l):=
 (bD h).bind fun _ _ _ h1=>((bD h1).bind fun _ _ _ h2=>(Jk 2 _ h2).bind fun _ _ _ h3=>((oG (by decide) h3).bind fun _ _ _ h4=>((bD h4).bind fun _ _ _ h5=>nK _ h5).zero).zero).zero
theorem zT (k:Int) (c:C) {l:List Tok} (h:WT l):Good' l (Io k c l):=(mV h).bind fun _ _ _ h1=>nK _ h1
theorem ada {l:List Tok} (h:WT l):Good' l (WW l):=(mV h).bind fun c _ _ h1=>
 (uD (by decide) h1 (fun _ h=>zT 1 c h) (uD (by decide) h1 (fun _ h=>zT 2 c h) (uD (by decide) h1 (fun _ h=>zT 3 c h) (O8 _ _ h1)))).zero
theorem aaQ {l:List Tok} (h:WT l):Good' l (wX l):=
 uD (by decide) h (fun _ h=>NV h) (uD (by decide) h (fun _ h=>Ud h) (uD (by decide) h (fun _ h=>QY h) (uD (by decide) h (fun _ h=>Ue h) (uD (by decide) h (fun _ h=>NT h) (uD (by decide) h (fun _ h=>Uf h) (ada h))))))
theorem Vo (o p:Bool) {l:List Tok} (h:WT l):Good' l (pSt o p l):=(aaQ h).bind fun _ _ _ h1=>nK _ h1
theorem D7 {l:List Tok} (h:WT l):Good' l (BG l):=
 uD (by decide) h (fun _ h=>Vo true false h) (uD (by decide) h (fun _ h=>Vo false true h) (Vo false false h))
def jC (t:Tok):Bool:=decide (t.1=4) || (decide (t.1=3) && decide (t.2.1=[46]))
def upto:List Tok→List Tk
 | []=>[]
 | t::r=>if jC t=true then [] else lY t::upto r
def Ez {α:Type} (l l':List Tok) (x x':PR α):Prop:=
 match x,x' with
 | .ok v r,.ok v' r'=>v=v'∧WT r∧WT r'∧upto r=upto r'∧l.length+r'.length=l'.length+r.length
 | .er a c r,.er a' c' r'=>c=c'∧WT r∧WT r'∧upto r=upto r'∧l.length+r'.length=l'.length+r.length∧a=(hT r).2.2∧a'=(hT r').2.2
 | _,_=>False
def zN {α:Type} (f:List Tok→PR α):Prop:=∀l l',WT l→WT l'→upto l=upto l'→Ez l l' (f l) (f l')
theorem Du {l l':List Tok} (h:WT l) (h':WT l') (e:upto l=upto l'):
  (jC (hT l)=true∧jC (hT l')=true)∨∃t t' q q',l=t::q∧l'=t'::q'∧t'.1=t.1∧t'.2.1=t.2.1∧WT q∧WT q'∧upto q=upto q'∧jC t=false∧jC t'=false:=by
 cases h with
 | fin a=>
  cases h' with
  | fin b=>exact .inl ⟨rfl,rfl⟩
  | cons t q h1 h2=>
   by_cases hs:jC t=true
   ·exact .inl ⟨rfl,hs⟩
   ·rw [upto,if_pos (show jC (4,[],a)=true from rfl),upto,if_neg hs] at e;cases e
 | cons t q h1 h2=>
  cases h' with
  | fin b=>
   by_cases hs:jC t=true
   ·exact .inl ⟨hs,rfl⟩
   ·rw [upto,if_neg hs] at e;simp [upto,jC] at e
  | cons t' q' h3 h4=>
   by_cases hs:jC t=true
   ·by_cases hs':jC t'=true
    ·exact .inl ⟨hs,hs'⟩
    ·rw [upto,upto,if_pos hs,if_neg hs'] at e;cases e
   ·by_cases hs':jC t'=true
    ·rw [upto,upto,if_neg hs,if_pos hs'] at e;cases e
    ·rw [upto,upto,if_neg hs,if_neg hs',List.cons.injEq] at e
     have e1:=e.1
     simp only [lY,Prod.mk.injEq] at e1
     exact .inr ⟨t,t',q,q',rfl,rfl,e1.1.symm,e1.2.symm,h2,h4,e.2,by simpa using hs,by simpa using hs'⟩
theorem Wv {l:List Tok} (h:WT l) (hs:jC (hT l)=true) {w:List UInt8} (h1:w≠[]) (h2:w≠[46]):txt l≠w:=by
 cases h with
 | fin a=>exact fun e=>h1 e.symm
 | cons t q h3 h4=>
  have hs':jC t=true:=hs
  have hs:t.1=4∨(t.1=3∧t.2.1=[46]):=by simpa [jC] using hs'
  rcases hs with hs|hs
  ·rcases h3.k with k|k|k<;>omega
  ·rw [dL,hs.2];exact fun e=>h2 e.symm
theorem zQ {l:List Tok} (hs:jC (hT l)=true):(hT l).1≠1∧(hT l).1≠2:=by
 have hs:(hT l).1=4∨((hT l).1=3∧(hT l).2.1=[46]):=by simpa [jC] using hs
 omega
theorem DN {α:Type} (c:Int):zN (fun l=>(PR.er (hT l).2.2 c l:PR α)):=fun l l' h h' e=>⟨rfl,h,h',e,by omega,rfl,rfl⟩
theorem nH {α:Type} (v:α):zN (fun l=>PR.ok v l):=fun l l' h h' e=>⟨rfl,h,h',e,by omega⟩
theorem zN.bind {α β:Type} {f:List Tok→PR α} {g:α→List Tok→PR β} (hf:zN f) (hg:∀v,zN (g v)):zN (fun l=>(f l).bind g):=by
 intro l l' h h' e
 have h1:=hf l l' h h' e
 show Ez l l' ((f l).bind g) ((f l').bind g)
 cases hx:f l with
 | ok v r=>
  cases hx':f l' with
  | er a c r'=>rw [hx,hx'] at h1;exact absurd h1 (by simp [Ez])
  | ok v' r'=>
   rw [hx,hx'] at h1
   obtain ⟨rfl,w1,w2,u1,u2⟩:=h1
   have h2:=hg v r r' w1 w2 u1
   simp only [PR.bind_ok]
   cases hy:g v r with
   | ok u q=>
    cases hy':g v r' with
    | er a c q'=>rw [hy,hy'] at h2;exact absurd h2 (by simp [Ez])
    | ok u' q'=>rw [hy,hy'] at h2;obtain ⟨k1,k2,k3,k4,k5⟩:=h2;exact ⟨k1,k2,k3,k4,by omega⟩
   | er a c q=>
    cases hy':g v r' with
    | ok u' q'=>rw [hy,hy'] at h2;exact absurd h2 (by simp [Ez])
    | er a' c' q'=>rw [hy,hy'] at h2;obtain ⟨k1,k2,k3,k4,k5,k6,k7⟩:=h2;exact ⟨k1,k2,k3,k4,by omega,k6,k7⟩
 | er a c r=>
  cases hx':f l' with
  | ok v' r'=>rw [hx,hx'] at h1;exact absurd h1 (by simp [Ez])
  | er a' c' r'=>rw [hx,hx'] at h1;exact h1
theorem lm {α:Type} {w:List UInt8} (h1:w≠[]) (h2:w≠[46]) {f g:List Tok→PR α} (hf:zN f) (hg:zN g):zN (ifw w f g):=by
 intro l l' h h' e
 unfold ifw
 rcases Du h h' e with ⟨s1,s2⟩|⟨t,t',q,q',rfl,rfl,k1,k2,w1,w2,u,s1,s2⟩
 ·rw [if_neg (Wv h s1 h1 h2),if_neg (Wv h' s2 h1 h2)]
  exact hg l l' h h' e
 ·by_cases hc:t.2.1=w
  ·rw [if_pos (show txt (t::q)=w from hc),if_pos (show txt (t'::q')=w from k2.trans hc)]
   have h3:=hf q q' w1 w2 u
   cases hy:f q with
   | ok u r=>
    cases hy':f q' with
    | er a c r'=>rw [hy,hy'] at h3;exact absurd h3 (by simp [Ez])
    | ok u' r'=>rw [hy,hy'] at h3;obtain ⟨k1,k2,k3,k4,k5⟩:=h3;show Ez _ _ (f q) (f q');rw [hy,hy'];exact ⟨k1,k2,k3,k4,by simp only [List.length_cons];omega⟩
   | er a c r=>
    cases hy':f q' with
    | ok u' r'=>rw [hy,hy'] at h3;exact absurd h3 (by simp [Ez])
    | er a' c' r'=>rw [hy,hy'] at h3;obtain ⟨k1,k2,k3,k4,k5,k6,k7⟩:=h3;show Ez _ _ (f q) (f q');rw [hy,hy'];exact ⟨k1,k2,k3,k4,by simp only [List.length_cons];omega,k6,k7⟩
  ·rw [if_neg (show ¬txt (t::q)=w from hc),if_neg (show ¬txt (t'::q')=w from fun hh=>hc (k2.symm.trans hh))]
   exact hg _ _ h h' e
theorem Ce {w:List UInt8} (h1:w≠[]) (h2:w≠[46]):zN (kJ w):=lm h1 h2 (nH ()) (DN 30)
theorem Qo (t:Tok) (q:List Tok):ig (t::q)=if t.1=1∧kwS t.2.1=false then (if lq t.2.1=true then .ok t.2.1 q else .er t.2.2 20 (t::q)) else .er t.2.2 30 (t::q):=rfl
theorem l7:zN ig:=by
 intro l l' h h' e
 rcases Du h h' e with ⟨s1,s2⟩|⟨t,t',q,q',rfl,rfl,k1,k2,w1,w2,u,s1,s2⟩
 ·unfold ig
  rw [if_neg (fun hh=>(zQ s1).1 hh.1),if_neg (fun hh=>(zQ s2).1 hh.1)]
  exact DN 30 l l' h h' e
 ·rw [Qo,Qo,k1,k2]
  by_cases c1:t.1=1∧kwS t.2.1=false
  ·rw [if_pos c1,if_pos c1]
   by_cases c2:lq t.2.1=true
   ·rw [if_pos c2,if_pos c2]
    exact ⟨rfl,w1,w2,u,by simp only [List.length_cons];omega⟩
   ·rw [if_neg c2,if_neg c2]
    exact ⟨rfl,h,h',e,by omega,rfl,rfl⟩
  ·rw [if_neg c1,if_neg c1]
   exact ⟨rfl,h,h',e,by omega,rfl,rfl⟩
theorem TK (least:Int) (t:Tok) (q:List Tok):x9 least (t::q)=if t.1=2 then (match Go.Lib.atoi t.2.1 with
  | some n=>if 1099511627776<n∨n<least then .er t.2.2 21 (t::q) else .ok n q
  | none=>.er t.2.2 21 (t::q))
 else .er t.2.2 30 (t::q):=rfl
theorem WO (least:Int):zN (x9 least):=by
 intro l l' h h' e
 rcases Du h h' e with ⟨s1,s2⟩|⟨t,t',q,q',rfl,rfl,k1,k2,w1,w2,u,s1,s2⟩
 ·unfold x9
  rw [if_neg (zQ s1).2,if_neg (zQ s2).2]
  exact DN 30 l l' h h' e
 ·rw [TK,TK,k1,k2]
  by_cases c1:t.1=2
  ·rw [if_pos c1,if_pos c1]
   cases Go.Lib.atoi t.2.1 with
   | none=>exact ⟨rfl,h,h',e,by omega,rfl,rfl⟩
   | some n=>
    simp only []
    by_cases c2:1099511627776<n∨n<least
    ·rw [if_pos c2,if_pos c2]
     exact ⟨rfl,h,h',e,by omega,rfl,rfl⟩
    ·rw [if_neg c2,if_neg c2]
     exact ⟨rfl,w1,w2,u,by simp only [List.length_cons];omega⟩
  ·rw [if_neg c1,if_neg c1]
   exact ⟨rfl,h,h',e,by omega,rfl,rfl⟩
theorem acw (n:Nat):gZ (n+1)=ifw evW (fun l=>.ok (.mk 1 [] 0 0 true []) l) (ifw Yz (fun l=>.ok (.mk 2 [] 0 0 true []) l) (ifw [123] (fun l=>(ig l).bind fun nm l1=>(kJ [125] l1).bind fun _ l2=>.ok (.mk 4 nm 0 0 true []) l2)
  (ifw PW (fun l=>(ig l).bind fun nm l1=>(gZ n l1).bind fun c l2=>.ok (.mk 6 nm 0 0 false [c]) l2) (ifw [40] (fun l=>(uP n l).bind fun c l1=>(kJ [41] l1).bind fun _ l2=>.ok c l2)
  (fun l=>(ig l).bind fun nm=>ifw inB (fun l=>(x9 (-1099511627776) l).bind fun lo l2=>(kJ toW l2).bind fun _ l3=>(x9 lo l3).bind fun hi l4=>.ok (.mk 7 nm lo hi true []) l4) (fun l=>.ok (.mk 3 nm 0 0 true []) l)))))):=by
 funext l;rw [gZ];rfl
theorem acy (n:Nat) (cs:List C):(fun l=>jL (n+1) l cs)=ifw Jw (fun l=>(gZ n l).bind fun c l1=>jL n l1 (cs++[c])) (fun l=>.ok (XZ cs) l):=by
 funext l;rw [jL];rfl
theorem Qc:∀n:Nat,zN (gZ n)∧zN (uP n)∧∀cs,zN (fun l=>jL n l cs)
 | 0=>⟨fun l l' h h' e=>by simp only [gZ];exact DN 0 l l' h h' e,fun l l' h h' e=>by simp only [uP];exact DN 0 l l' h h' e,fun cs l l' h h' e=>by simp only [jL];exact DN 0 l l' h h' e⟩
 | n+1=>by
  obtain ⟨i1,i2,i3⟩:=Qc n
  refine ⟨?_, ?_,fun cs=>?_⟩
  ·rw [acw]
   refine lm (by decide) (by decide) (nH _) (lm (by decide) (by decide) (nH _) (lm (by decide) (by decide) ?_ (lm (by decide) (by decide) ?_ (lm (by decide) (by decide) ?_ ?_))))
   ·exact l7.bind fun nm=>(Ce (by decide) (by decide)).bind fun _=>nH _
   ·exact l7.bind fun nm=>i1.bind fun _=>nH _
   ·exact i2.bind fun c=>(Ce (by decide) (by decide)).bind fun _=>nH _
   ·exact l7.bind fun nm=>lm (by decide) (by decide) ((WO _).bind fun lo=>(Ce (by decide) (by decide)).bind fun _=>(WO lo).bind fun hi=>nH _) (nH _)
  ·have:uP (n+1)=fun l=>(gZ n l).bind fun c l1=>jL n l1 [c]:=by funext l;rw [uP]
   rw [this]
   exact i1.bind fun c=>i3 [c]
  ·rw [acy]
   exact lm (by decide) (by decide) (i1.bind fun c=>i3 _) (nH _)
theorem zu:zN kK:=by
 intro l l' h h' e
 have h1:=(Qc (2 * l.length+1+(2 * l'.length+1))).2.1 l l' h h' e
 rwa [wY h (by omega),wY h' (by omega)] at h1
theorem Nz (n:Nat) (acc:List (List UInt8)) (t:Tok) (q:List Tok):tV (n+1) acc (t::q)=if t.1=1∧kwS t.2.1=false then (ig (t::q)).bind fun r l1=>tV n (acc++[r]) l1 else .ok acc (t::q):=rfl
theorem Qd:∀(n:Nat) (acc:List (List UInt8)),zN (tV n acc)
 | 0,acc=>nH acc
 | n+1,acc=>by
  intro l l' h h' e
  rcases Du h h' e with ⟨s1,s2⟩|⟨t,t',q,q',rfl,rfl,k1,k2,w1,w2,u,s1,s2⟩
  ·unfold tV
   rw [if_neg (fun hh=>(zQ s1).1 hh.1),if_neg (fun hh=>(zQ s2).1 hh.1)]
   exact nH acc l l' h h' e
  ·rw [Nz,Nz,k1,k2]
   by_cases c1:t.1=1∧kwS t.2.1=false
   ·rw [if_pos c1,if_pos c1]
    exact (l7.bind fun r=>Qd n (acc++[r])) _ _ h h' e
   ·rw [if_neg c1,if_neg c1]
    exact nH acc _ _ h h' e
theorem Lr (k:Int) (c:C):zN (Io k c):=zu.bind fun _=>nH _
theorem ack:zN WW:=zu.bind fun c=>lm (by decide) (by decide) (Lr 1 c) (lm (by decide) (by decide) (Lr 2 c) (lm (by decide) (by decide) (Lr 3 c) (DN 30)))
theorem aaA:zN wX:=by
 refine lm (by decide) (by decide) (l7.bind fun _=>zu.bind fun _=>nH _) (lm (by decide) (by decide) ?_ (lm (by decide) (by decide) ?_ (lm (by decide) (by decide) (l7.bind fun _=>nH _) (lm (by decide) (by decide) (l7.bind fun _=>zu.bind fun _=>nH _) (lm (by decide) (by decide) ?_ ack)))))
 ·exact l7.bind fun _=>(Ce (by decide) (by decide)).bind fun _=>l7.bind fun _=>nH _
 ·exact l7.bind fun _=>l7.bind fun _=>(Qd 2 _).bind fun _=>(Ce (by decide) (by decide)).bind fun _=>l7.bind fun _=>nH _
 ·exact l7.bind fun _=>l7.bind fun _=>l7.bind fun _=>nH _
theorem UZ (o p:Bool):zN (pSt o p):=aaA.bind fun _=>nH _
theorem Qe:zN BG:=lm (by decide) (by decide) (UZ true false) (lm (by decide) (by decide) (UZ false true) (UZ false false))
structure Ax.Parsed (x:Ax) (w:Nat):Prop where
 l:wC x.left≤w+1
 r:wC x.right≤w+1
 ul:(iG x.kind).l=false→x.left=zC
 ur:(iG x.kind).r=false→x.right=zC
 roles:x.roles.length≤4
 rs:∀r∈x.roles,r.length≤24
 role:x.role.length≤24
 a:x.a.length≤24
 b:x.b.length≤24
theorem uo {l r:List Tok} {v:List UInt8} (h:ig l=.ok v r):v.length≤24:=by
 unfold ig at h
 split at h
 ·split at h
  ·rename_i h2
   cases h
   unfold lq at h2
   rw [Bool.and_eq_true] at h2
   simpa using h2.1
  ·cases h
 ·cases h
theorem nO {α:Type} {w:List UInt8} {f g:List Tok→PR α} {l r:List Tok} {v:α} (h:ifw w f g l=.ok v r):(txt l=w∧f l.tail=.ok v r)∨g l=.ok v r:=by
 unfold ifw at h
 split at h
 ·rename_i h1;exact .inl ⟨h1,h⟩
 ·exact .inr h
theorem Xb:∀(n:Nat) (acc:List (List UInt8)) {l r:List Tok} {v:List (List UInt8)},WT l→tV n acc l=.ok v r→WT r∧v.length≤acc.length+n∧((∀a∈acc,a.length≤24)→∀a∈v,a.length≤24)
 | 0,acc,l,r,v,hw,h=>by cases h;exact ⟨hw,by omega,fun h=>h⟩
 | n+1,acc,l,r,v,hw,h=>by
  unfold tV at h
  split at h
  ·obtain ⟨nm,l1,e1,h⟩:=aA.1 h
   obtain ⟨q1,q2,q3⟩:=Xb n _ (pV (bD hw) e1).1 h
   refine ⟨q1,by simp at q2;omega,fun ha=>q3 fun a h=>?_⟩
   rcases List.mem_append.1 h with h|h
   ·exact ha a h
   ·simp at h;subst h;exact uo e1
  ·cases h;exact ⟨hw,by omega,fun h=>h⟩
theorem aeW:wC zC=1:=by unfold zC;rw [GH];rfl
theorem UI (l:List Tok):tw l.tail≤tw l:=by
 cases l with
 | nil=>exact Nat.le_refl _
 | cons t q=>simp [tw]
theorem Ax.Parsed.mono {x:Ax} {v w:Nat} (h:x.Parsed v) (hv:v≤w):x.Parsed w:=⟨by have:=h.l;omega,by have:=h.r;omega,h.ul,h.ur,h.roles,h.rs,h.role,h.a,h.b⟩
theorem JL {k:Int} {l l1 l2:List Tok} {nm:List UInt8} {c:C} (hw:WT l) (e1:ig l=.ok nm l1) (e2:kK l1=.ok c l2):nm.length≤24∧wC c≤tw l+1:=by
 have w1:=(pV (bD hw) e1).1
 have h1:=U8 hw e1
 have h2:=MJ w1 e2
 exact ⟨uo e1,by omega⟩
theorem WU {l r:List Tok} {x:Ax} (hw:WT l) (h:wX l=.ok x r):x.Parsed (tw l):=by
 have hz:=aeW
 have wt:∀{w:List UInt8},txt l=w→w≠[]→WT l.tail:=fun {w} e hn=>by obtain ⟨t,q,rfl,_,h⟩:=hw.tl (.inl (by rw [e];exact hn));exact h
 have ht:=UI l
 rcases nO h with ⟨k,h⟩|h
 ·obtain ⟨nm,l1,e1,h⟩:=aA.1 h
  obtain ⟨c,l2,e2,h⟩:=aA.1 h
  obtain ⟨b1,b2⟩:=JL (k:=4) (wt k (by decide)) e1 e2
  cases h
  exact ⟨by simp only [hz];omega,by simp only [];omega,fun _=>rfl,fun h=>by simp [iG] at h,by simp,by simp,b1,by simp,by simp⟩
 rcases nO h with ⟨k,h⟩|h
 ·obtain ⟨q,l1,e1,h⟩:=aA.1 h
  obtain ⟨u,l2,e2,h⟩:=aA.1 h
  obtain ⟨nm,l3,e3,h⟩:=aA.1 h
  cases h
  exact ⟨by simp only [hz];omega,by simp only [hz];omega,fun _=>rfl,fun _=>rfl,by simp,by simp;exact uo e1,uo e3,by simp,by simp⟩
 rcases nO h with ⟨k,h⟩|h
 ·obtain ⟨p,l1,e1,h⟩:=aA.1 h
  obtain ⟨q,l2,e2,h⟩:=aA.1 h
  obtain ⟨rs,l3,e3,h⟩:=aA.1 h
  obtain ⟨u,l4,e4,h⟩:=aA.1 h
  obtain ⟨nm,l5,e5,h⟩:=aA.1 h
  have w1:=(pV (bD (wt k (by decide))) e1).1
  have w2:=(pV (bD w1) e2).1
  obtain ⟨-,n1,n2⟩:=Xb 2 _ w2 e3
  have n3:=n2 (by intro a ha;simp at ha;rcases ha with rfl|rfl;exact uo e1;exact uo e2)
  cases h
  exact ⟨by simp only [hz];omega,by simp only [hz];omega,fun _=>rfl,fun _=>rfl,by simpa using n1,n3,uo e5,by simp,by simp⟩
 rcases nO h with ⟨k,h⟩|h
 ·obtain ⟨nm,l1,e1,h⟩:=aA.1 h
  cases h
  exact ⟨by simp only [hz];omega,by simp only [hz];omega,fun _=>rfl,fun _=>rfl,by simp,by simp,uo e1,by simp,by simp⟩
 rcases nO h with ⟨k,h⟩|h
 ·obtain ⟨nm,l1,e1,h⟩:=aA.1 h
  obtain ⟨c,l2,e2,h⟩:=aA.1 h
  obtain ⟨b1,b2⟩:=JL (k:=8) (wt k (by decide)) e1 e2
  cases h
  exact ⟨by simp only [hz];omega,by simp only [];omega,fun _=>rfl,fun h=>by simp [iG] at h,by simp,by simp,by simp,b1,by simp⟩
 rcases nO h with ⟨k,h⟩|h
 ·obtain ⟨a,l1,e1,h⟩:=aA.1 h
  obtain ⟨q,l2,e2,h⟩:=aA.1 h
  obtain ⟨b,l3,e3,h⟩:=aA.1 h
  cases h
  exact ⟨by simp only [hz];omega,by simp only [hz];omega,fun _=>rfl,fun _=>rfl,by simp,by simp,uo e2,uo e1,uo e3⟩
 ·obtain ⟨c,l1,e1,h⟩:=aA.1 h
  have w1:=(pV (mV hw) e1).1
  have h1:=MJ hw e1
  have side:∀{w:List UInt8} {k:Int} {r:List Tok} {x:Ax},w≠[]→txt l1=w→(k=1∨k=2∨k=3)→Io k c l1.tail=.ok x r→x.Parsed (tw l):=by
   intro w k r x hn e hk h
   have w2:WT l1.tail:=by obtain ⟨t,q,rfl,_,h⟩:=w1.tl (.inl (by rw [e];exact hn));exact h
   obtain ⟨d,l2,e2,h⟩:=aA.1 h
   have h2:=MJ w2 e2
   have h3:=UI l1
   cases h
   refine ⟨by simp only [];omega,by simp only [];omega,fun h=>?_,fun h=>?_,by simp,by simp,by simp,by simp,by simp⟩<;>rcases hk with rfl|rfl|rfl<;>simp [iG] at h
  rcases nO h with ⟨k,h⟩|h
  ·exact side (by decide) k (.inl rfl) h
  rcases nO h with ⟨k,h⟩|h
  ·exact side (by decide) k (.inr (.inl rfl)) h
  rcases nO h with ⟨k,h⟩|h
  ·exact side (by decide) k (.inr (.inr rfl)) h
  ·cases h
theorem JM {l r:List Tok} {x:Ax} (hw:WT l) (h:BG l=.ok x r):x.Parsed (tw l):=by
 have wt:∀{w:List UInt8},txt l=w→w≠[]→WT l.tail:=fun {w} e hn=>by obtain ⟨t,q,rfl,_,h⟩:=hw.tl (.inl (by rw [e];exact hn));exact h
 have st:∀{o p:Bool} {l:List Tok},WT l→pSt o p l=.ok x r→x.Parsed (tw l):=by
  intro o p l hw h
  obtain ⟨y,l1,e1,h⟩:=aA.1 h
  have:=WU hw e1
  cases h
  exact ⟨this.l,this.r,this.ul,this.ur,this.roles,this.rs,this.role,this.a,this.b⟩
 have ht:=UI l
 rcases nO h with ⟨k,h⟩|h
 ·exact (st (wt k (by decide)) h).mono ht
 rcases nO h with ⟨k,h⟩|h
 ·exact (st (wt k (by decide)) h).mono ht
 ·exact st hw h
theorem Ax.Parsed.mid {x:Ax} {w:Nat} (h:x.Parsed w) (hw:w≤99999):x.Mid:=⟨by have:=h.l;omega,by have:=h.r;omega,by have:=h.roles;omega,by have:=h.a;omega,by have:=h.b;omega⟩
end Go.Ai.Z
namespace Go.Ai.Z
theorem Qu:∀(n:Nat) (acc:List (List UInt8)) {l r:List Tok} {v:List (List UInt8)},tV n acc l=.ok v r→∃q,v=acc++q
 | 0,acc,l,r,v,h=>by cases h;exact ⟨[],by simp⟩
 | n+1,acc,l,r,v,h=>by
  unfold tV at h
  split at h
  ·obtain ⟨nm,l1,e1,h⟩:=aA.1 h
   obtain ⟨q,hq⟩:=Qu n _ h
   exact ⟨nm::q,by rw [hq];simp⟩
  ·cases h;exact ⟨[],by simp⟩
theorem aaH {a b:List UInt8} {n:Nat} {l r:List Tok} {v:List (List UInt8)} (h:tV n [a,b] l=.ok v r):∃q,v=a::b::q:=by
 obtain ⟨q,hq⟩:=Qu n _ h
 exact ⟨q,by rw [hq];rfl⟩
section
variable {T:List Tok} {m:AV} {S:Nat→St} {l N:Nat} (hE:BN T m S l N)
include hE
theorem abL {r:List Tok} (s0:Suf T r) (cx:Ctx) (hl:cx.lim≤l):ah P0 (.fn (.func iR) [.pt l 0] []) [] (S (idx T r)) cx=Ans iq T S (GR r):=by
 have hN:=hE.n
 refine Dh (zi _ _ _ _) ?_
 unfold GR
 have e0:=wF hE s0 ⟨cx.lim,N⟩ hl
 cases hp0:ig r with
 | er a c l0=>
  rw [hp0] at e0
  simp only [jg] at e0
  simp [af,jq,hN,e0,hp0,dV,splice,List.range_succ]
 | ok v0 l0=>
  rw [hp0] at e0
  simp only [eH] at e0
  obtain ⟨s1,n1⟩:=s0.shorter (bD s0.w) hp0
  simp only [PR.bind_ok]
  have e1:=zO hE s1 ⟨cx.lim,N⟩ hl
  cases hp1:kK l0 with
  | er a c l1=>
   rw [hp1] at e1
   simp only [jg] at e1
   simp [af,jq,hN,e0,e1,hp1,dV,splice,List.range_succ]
  | ok v1 l1=>
   rw [hp1] at e1
   simp only [eH] at e1
   obtain ⟨s2,n2⟩:=s1.shorter (mV s1.w) hp1
   simp only [PR.bind_ok]
   simp only [eH]
   simp [af,jq,hN,e0,e1,dV,splice,List.range_succ]
   try rfl
theorem abJ {r:List Tok} (s0:Suf T r) (cx:Ctx) (hl:cx.lim≤l):ah P0 (.fn (.func iQ) [.pt l 0] []) [] (S (idx T r)) cx=Ans iq T S (GN r):=by
 have hN:=hE.n
 refine Dc (zi _ _ _ _) ?_
 unfold GN
 have e0:=wF hE s0 ⟨cx.lim,N⟩ hl
 cases hp0:ig r with
 | er a c l0=>
  rw [hp0] at e0
  simp only [jg] at e0
  simp [af,jm,hN,e0,hp0,dV,splice,List.range_succ]
 | ok v0 l0=>
  rw [hp0] at e0
  simp only [eH] at e0
  obtain ⟨s1,n1⟩:=s0.shorter (bD s0.w) hp0
  simp only [PR.bind_ok]
  have e1:=zO hE s1 ⟨cx.lim,N⟩ hl
  cases hp1:kK l0 with
  | er a c l1=>
   rw [hp1] at e1
   simp only [jg] at e1
   simp [af,jm,hN,e0,e1,hp1,dV,splice,List.range_succ]
  | ok v1 l1=>
   rw [hp1] at e1
   simp only [eH] at e1
   obtain ⟨s2,n2⟩:=s1.shorter (mV s1.w) hp1
   simp only [PR.bind_ok]
   simp only [eH]
   simp [af,jm,hN,e0,e1,dV,splice,List.range_succ]
   try rfl
theorem afi {r:List Tok} (s0:Suf T r) (cx:Ctx) (hl:cx.lim≤l):ah P0 (.fn (.func gu) [.pt l 0] []) [] (S (idx T r)) cx=Ans iq T S (TJ r):=by
 have hN:=hE.n
 refine Ar (zi _ _ _ _) ?_
 unfold TJ
 have e0:=wF hE s0 ⟨cx.lim,N⟩ hl
 cases hp0:ig r with
 | er a c l0=>
  rw [hp0] at e0
  simp only [jg] at e0
  simp [af,jr,hN,e0,hp0,dV,splice,List.range_succ]
 | ok v0 l0=>
  rw [hp0] at e0
  simp only [eH] at e0
  obtain ⟨s1,n1⟩:=s0.shorter (bD s0.w) hp0
  simp only [PR.bind_ok]
  simp only [eH]
  simp [af,jr,hN,e0,dV,splice,List.range_succ]
  try rfl
theorem afj {r:List Tok} (s0:Suf T r) (cx:Ctx) (hl:cx.lim≤l):ah P0 (.fn (.func jy) [.pt l 0] []) [] (S (idx T r)) cx=Ans iq T S (TL r):=by
 have hN:=hE.n
 refine EY (zi _ _ _ _) ?_
 unfold TL
 have e0:=wF hE s0 ⟨cx.lim,N⟩ hl
 cases hp0:ig r with
 | er a c l0=>
  rw [hp0] at e0
  simp only [jg] at e0
  simp [af,jc,hN,e0,hp0,dV,splice,List.range_succ]
 | ok v0 l0=>
  rw [hp0] at e0
  simp only [eH] at e0
  obtain ⟨s1,n1⟩:=s0.shorter (bD s0.w) hp0
  simp only [PR.bind_ok]
  have e1:=wF hE s1 ⟨cx.lim,N⟩ hl
  cases hp1:ig l0 with
  | er a c l1=>
   rw [hp1] at e1
   simp only [jg] at e1
   simp [af,jc,hN,e0,e1,hp1,dV,splice,List.range_succ]
  | ok v1 l1=>
   rw [hp1] at e1
   simp only [eH] at e1
   obtain ⟨s2,n2⟩:=s1.shorter (bD s1.w) hp1
   simp only [PR.bind_ok]
   have e2:=wF hE s2 ⟨cx.lim,N⟩ hl
   cases hp2:ig l1 with
   | er a c l2=>
    rw [hp2] at e2
    simp only [jg] at e2
    simp [af,jc,hN,e0,e1,e2,hp2,dV,splice,List.range_succ]
   | ok v2 l2=>
    rw [hp2] at e2
    simp only [eH] at e2
    obtain ⟨s3,n3⟩:=s2.shorter (bD s2.w) hp2
    simp only [PR.bind_ok]
    simp only [eH]
    simp [af,jc,hN,e0,e1,e2,dV,splice,List.range_succ]
    try rfl
theorem afh {r:List Tok} (s0:Suf T r) (cx:Ctx) (hl:cx.lim≤l):ah P0 (.fn (.func jw) [.pt l 0] []) [] (S (idx T r)) cx=Ans iq T S (TI r):=by
 have hN:=hE.n
 refine EX (zi _ _ _ _) ?_
 unfold TI
 have e0:=wF hE s0 ⟨cx.lim,N⟩ hl
 cases hp0:ig r with
 | er a c l0=>
  rw [hp0] at e0
  simp only [jg] at e0
  simp [af,ja,hN,e0,hp0,dV,splice,List.range_succ]
 | ok v0 l0=>
  rw [hp0] at e0
  simp only [eH] at e0
  obtain ⟨s1,n1⟩:=s0.shorter (bD s0.w) hp0
  simp only [PR.bind_ok]
  have e1:=Lc hE s1 (w:=Ho) (by decide) ⟨cx.lim,N⟩ hl
  cases hp1:kJ Ho l0 with
  | er a c l1=>
   rw [hp1] at e1
   simp only [jg,Ho] at e1
   simp [af,ja,hN,e0,e1,hp1,dV,splice,List.range_succ]
  | ok v1 l1=>
   rw [hp1] at e1
   simp only [eH,Ho] at e1
   obtain ⟨s2,n2⟩:=s1.shorter (oG (w:=Ho) (by decide) s1.w) hp1
   simp only [PR.bind_ok]
   have e2:=wF hE s2 ⟨cx.lim,N⟩ hl
   cases hp2:ig l1 with
   | er a c l2=>
    rw [hp2] at e2
    simp only [jg] at e2
    simp [af,ja,hN,e0,e1,e2,hp2,dV,splice,List.range_succ]
   | ok v2 l2=>
    rw [hp2] at e2
    simp only [eH] at e2
    obtain ⟨s3,n3⟩:=s2.shorter (bD s2.w) hp2
    simp only [PR.bind_ok]
    simp only [eH]
    simp [af,ja,hN,e0,e1,e2,dV,splice,List.range_succ]
    try rfl
theorem Zq (lim:Nat) (hl:lim≤l):∀(n:Nat) (acc:List (List UInt8)) {r:List Tok},Suf T r→acc.length+n=4→
  (∃v r',tV n acc r=.ok v r'∧fC (aB P0.glob (ah P0) ⟨lim,N⟩ false fA) [0,2,3] [(0,.v (.pt l 0)),(2,.bx xZ),(3,.own false uH 1 (acc.map AV.s))] (S (idx T r))=
   .exit 0 [(0,.v (.pt l 0)),(2,.bx xZ),(3,.own false uH 1 (v.map AV.s)),(15,.v (.b false))] (S (idx T r')))∨
  ∃a e r',tV n acc r=.er a e r'∧fC (aB P0.glob (ah P0) ⟨lim,N⟩ false fA) [0,2,3] [(0,.v (.pt l 0)),(2,.bx xZ),(3,.own false uH 1 (acc.map AV.s))] (S (idx T r))=
   .pan (flt a e) (S (idx T r'))
 | 0,acc,r,h,hlen=>by
  refine .inl ⟨acc,r,rfl,ak fun K hK=>?_⟩
  have h4:¬(acc.length:Int)<4:=by omega
  simp [fA,xZ,h4]
 | n+1,acc,r,h,hlen=>by
  have e1:=V9 hE h
  have h4:(acc.length:Int)<4:=by omega
  unfold tV
  by_cases hk:(hT r).1=1∧kwS (txt r)=false
  ·rw [if_pos hk]
   have hk':(decide ((hT r).1=1) && !kwS (txt r))=true:=by simp [hk]
   rw [hk'] at e1
   have e2:=wF hE h ⟨lim,N⟩ hl
   cases hp:ig r with
   | er a c l1=>
    rw [hp] at e2
    simp only [jg] at e2
    refine .inr ⟨a,c,l1,rfl,ak fun K hK=>?_⟩
    clear hK
    simp [fA,xZ,e1,e2,h4]
   | ok v l1=>
    rw [hp] at e2
    simp only [eH] at e2
    obtain ⟨s2,n2⟩:=h.shorter (bD h.w) hp
    have hm:acc.length+1≤fQ:=by unfold fQ;omega
    simp only [PR.bind_ok]
    rcases Zq lim hl n (acc++[v]) s2 (by simp;omega) with ⟨u,r',g1,g2⟩|⟨a,e,r',g1,g2⟩
    ·refine .inl ⟨u,r',g1,ak fun K hK=>?_⟩
     rw [←hK] at g2
     clear hK
     generalize hW:u.map AV.s=W at g2 ⊢
     simp [xZ] at g2
     simp [fA,xZ,e1,e2,h4,hm,List.range_succ]
     exact g2
    ·refine .inr ⟨a,e,r',g1,ak fun K hK=>?_⟩
     rw [←hK] at g2
     clear hK
     simp [xZ] at g2
     simp [fA,xZ,e1,e2,h4,hm,List.range_succ]
     exact g2
  ·rw [if_neg hk]
   have hk':(decide ((hT r).1=1) && !kwS (txt r))=false:=by
    cases hd:(decide ((hT r).1=1) && !kwS (txt r)) with
    | false=>rfl
    | true=>
     simp only [Bool.and_eq_true,decide_eq_true_eq,Bool.not_eq_true'] at hd
     exact absurd hd hk
   rw [hk'] at e1
   refine .inl ⟨acc,r,rfl,ak fun K hK=>?_⟩
   simp [fA,xZ,e1,h4]
theorem adV {r:List Tok} (s0:Suf T r) (cx:Ctx) (hl:cx.lim≤l):ah P0 (.fn (.func je) [.pt l 0] []) [] (S (idx T r)) cx=Ans iq T S (Lu r):=by
 have hN:=hE.n
 refine D9 (zi _ _ _ _) ?_
 unfold Lu
 have e0:=wF hE s0 ⟨cx.lim,N⟩ hl
 cases hp0:ig r with
 | er a c l0=>
  rw [hp0] at e0
  simp only [jg] at e0
  simp [af,fG,hN,e0,dV,splice]
 | ok v0 l0=>
  rw [hp0] at e0
  simp only [eH] at e0
  obtain ⟨s1,n1⟩:=s0.shorter (bD s0.w) hp0
  simp only [PR.bind_ok]
  have e1:=wF hE s1 ⟨cx.lim,N⟩ hl
  cases hp1:ig l0 with
  | er a c l1=>
   rw [hp1] at e1
   simp only [jg] at e1
   simp [af,fG,hN,e0,e1,dV,splice]
  | ok v1 l1=>
   rw [hp1] at e1
   simp only [eH] at e1
   obtain ⟨s2,n2⟩:=s1.shorter (bD s1.w) hp1
   simp only [PR.bind_ok]
   rcases Zq hE cx.lim hl 2 [v0,v1] s2 rfl with ⟨rs,l2,g1,e2⟩|⟨a,c,l2,g1,e2⟩
   ·rw [g1]
    simp only [PR.bind_ok]
    have s3:Suf T l2:=s2.ok (Jk 2 [v0,v1] s2.w) g1
    obtain ⟨rq,hrs⟩:∃rq,rs=v0::v1::rq:=aaH g1
    have e3:=Lc hE s3 (w:=Ho) (by decide) ⟨cx.lim,N⟩ hl
    simp [xZ] at e2
    cases hp3:kJ Ho l2 with
    | er a c l3=>
     rw [hp3] at e3
     simp only [jg,Ho] at e3
     simp [af,fG,hN,e0,e1,e2,e3,dV,splice,List.range_succ]
    | ok v3 l3=>
     rw [hp3] at e3
     simp only [eH,Ho] at e3
     obtain ⟨s4,n4⟩:=s3.shorter (oG (w:=Ho) (by decide) s3.w) hp3
     simp only [PR.bind_ok]
     have e4:=wF hE s4 ⟨cx.lim,N⟩ hl
     cases hp4:ig l3 with
     | er a c l4=>
      rw [hp4] at e4
      simp only [jg] at e4
      simp [af,fG,hN,e0,e1,e2,e3,e4,dV,splice,List.range_succ]
     | ok v4 l4=>
      rw [hp4] at e4
      simp only [eH] at e4
      simp only [PR.bind_ok,eH]
      subst hrs
      simp at e2
      simp [af,fG,hN,e0,e1,e2,e3,e4,dV,splice,List.range_succ]
      try rfl
   ·rw [g1]
    simp [xZ] at e2
    simp [af,fG,hN,e0,e1,e2,dV,splice,List.range_succ]
set_option maxHeartbeats 1000000 in
theorem V8 {r:List Tok} (s0:Suf T r) (cx:Ctx) (hl:cx.lim≤l):ah P0 (.fn (.func gB) [] []) [.pt l 0] (S (idx T r)) cx=Ans iq T S (WW r):=by
 have hN:=hE.n
 refine Au (zi _ _ _ _) ?_
 unfold WW
 have e0:=zO hE s0 ⟨cx.lim,N⟩ hl
 cases hp0:kK r with
 | er a c l0=>
  rw [hp0] at e0
  simp only [jg] at e0
  simp [af,bI,hN,e0,dV,splice]
 | ok v0 l0=>
  rw [hp0] at e0
  simp only [eH] at e0
  obtain ⟨s1,n1⟩:=s0.shorter (mV s0.w) hp0
  simp only [PR.bind_ok]
  by_cases h0:txt l0=Ho
  ·have q:=kY hE s1 h0 (by decide) ⟨cx.lim,N⟩ hl
   simp only [Ho] at q
   obtain ⟨t1,m1⟩:=s1.tl h0 (by decide)
   rw [ifw,if_pos h0,Io]
   have e1:=zO hE t1 ⟨cx.lim,N⟩ hl
   cases hp1:kK l0.tail with
   | er a c l1=>
    rw [hp1] at e1
    simp only [jg] at e1
    simp [af,bI,hN,e0,q,e1,dV,splice]
   | ok v1 l1=>
    rw [hp1] at e1
    simp only [eH] at e1
    simp only [PR.bind_ok,eH]
    simp [af,bI,hN,e0,q,e1,dV,splice]
    try rfl
  rw [ifw,if_neg h0]
  have q0:=lX hE s1 h0
  simp only [Ho] at q0
  by_cases h1:txt l0=Zy
  ·have q:=kY hE s1 h1 (by decide) ⟨cx.lim,N⟩ hl
   simp only [Zy] at q
   obtain ⟨t1,m1⟩:=s1.tl h1 (by decide)
   rw [ifw,if_pos h1,Io]
   have e1:=zO hE t1 ⟨cx.lim,N⟩ hl
   cases hp1:kK l0.tail with
   | er a c l1=>
    rw [hp1] at e1
    simp only [jg] at e1
    simp [af,bI,hN,e0,q0,q,e1,dV,splice]
   | ok v1 l1=>
    rw [hp1] at e1
    simp only [eH] at e1
    simp only [PR.bind_ok,eH]
    simp [af,bI,hN,e0,q0,q,e1,dV,splice]
    try rfl
  rw [ifw,if_neg h1]
  have q1:=lX hE s1 h1
  simp only [Zy] at q1
  by_cases h2:txt l0=Z7
  ·have q:=kY hE s1 h2 (by decide) ⟨cx.lim,N⟩ hl
   simp only [Z7] at q
   obtain ⟨t1,m1⟩:=s1.tl h2 (by decide)
   rw [ifw,if_pos h2,Io]
   have e1:=zO hE t1 ⟨cx.lim,N⟩ hl
   cases hp1:kK l0.tail with
   | er a c l1=>
    rw [hp1] at e1
    simp only [jg] at e1
    simp [af,bI,hN,e0,q0,q1,q,e1,dV,splice]
   | ok v1 l1=>
    rw [hp1] at e1
    simp only [eH] at e1
    simp only [PR.bind_ok,eH]
    simp [af,bI,hN,e0,q0,q1,q,e1,dV,splice]
    try rfl
  rw [ifw,if_neg h2]
  have q2:=lX hE s1 h2
  simp only [Z7] at q2
  have e1:=Ld hE s1 30
  rw [ae3]
  simp [af,bI,hN,e0,q0,q1,q2,e1,dV,splice]
end
theorem aas {l r:List Tok} {x:Ax} (h:WW l=.ok x r):x.kind=1∨x.kind=2∨x.kind=3:=by
 obtain ⟨c,l1,e1,h⟩:=aA.1 h
 rcases nO h with ⟨k,h⟩|h
 ·obtain ⟨d,l2,e2,h⟩:=aA.1 h;cases h;exact .inl rfl
 rcases nO h with ⟨k,h⟩|h
 ·obtain ⟨d,l2,e2,h⟩:=aA.1 h;cases h;exact .inr (.inl rfl)
 rcases nO h with ⟨k,h⟩|h
 ·obtain ⟨d,l2,e2,h⟩:=aA.1 h;cases h;exact .inr (.inr rfl)
 ·cases h
section
variable {T:List Tok} {l:Nat} {S:Nat→St} {N:Nat}
variable (hE:BN T (CV l) S l N)
include hE
set_option maxHeartbeats 4000000 in
theorem Tc {i i2:Nat} {bo bp:Bool} (cx:Ctx) (hl:cx.lim≤l) {i1:Nat}
  (e1:ah P0 (.fn (.func aC) [] []) [.pt l 0,.s JQ] (S i) ⟨cx.lim,N⟩=.ret (.b bo) (S i1))
  (e2:bo=false→ah P0 (.fn (.func aC) [] []) [.pt l 0,.s JK] (S i1) ⟨cx.lim,N⟩=.ret (.b bp) (S i2)) (e2':bo=true→i2=i1∧bp=false)
  {w:List UInt8} {f:Nat} {kd:Int} (hw:akq w f kd) {a:Nat} {k0:Int} (ht:T[i2]?=some (k0,w,a)) {x:PR Ax} (hx:∀y r,x=.ok y r→y.kind=kd)
  (e3:ah P0 (.fn (.func f) [.pt l 0] []) [] (S (i2+1)) ⟨cx.lim,N⟩=Ans iq T S x):
  ah P0 (.fn (.func eX) [] []) [.pt l 0] (S i) cx=Ans iq T S (x.bind fun y r=>.ok (WB bo bp y) r):=by
 have e4:=Ee T hE.len i2 _ (S i2) l (hE.cell i2) k0 w a ht
 have h1:=hE.cell i2
 have hs:=hE.sets i2 (i2+1)
 have hN:=hE.n
 have hlt:i2<T.length:=(List.getElem?_eq_some_iff.1 ht).1
 have hlen:=hE.len
 have hwi:=wI (i:=i2) (by omega)
 simp only [JQ,JK] at e1 e2
 refine sD (zi _ _ _ _) ?_
 unfold psO CV at h1 hs
 rw [show ((i2+1:Nat):Int)=(i2:Int)+1 by omega] at hs
 cases x with
 | er a c r=>
  simp only [jg,PR.bind_er] at e3 ⊢
  cases bo with
  | true=>
   obtain ⟨rfl,rfl⟩:=e2' rfl
   clear e2 e2'
   rcases hw with ⟨rfl,rfl,k⟩|⟨rfl,rfl,k⟩|⟨rfl,rfl,k⟩|⟨rfl,rfl,k⟩|⟨rfl,rfl,k⟩|⟨rfl,rfl,k⟩
   all_goals
    simp only [Rn,FD,AP,FI,Fg,FV] at e4
    simp [af,dM,hN,e1,e3,e4,h1,hs,hwi,hl,fK,find,wH,yU,splice]
  | false=>
   have e2:=e2 rfl
   clear e2'
   cases bp
   all_goals
   rcases hw with ⟨rfl,rfl,k⟩|⟨rfl,rfl,k⟩|⟨rfl,rfl,k⟩|⟨rfl,rfl,k⟩|⟨rfl,rfl,k⟩|⟨rfl,rfl,k⟩
   all_goals
    simp only [Rn,FD,AP,FI,Fg,FV] at e4
    simp [af,dM,hN,e1,e2,e3,e4,h1,hs,hwi,hl,fK,find,wH,yU,splice]
 | ok y r=>
  have hk:=hx y r rfl
  simp only [eH,PR.bind_ok,WB] at e3 ⊢
  cases bo with
  | true=>
   obtain ⟨rfl,rfl⟩:=e2' rfl
   clear e2 e2'
   rcases hw with ⟨rfl,rfl,rfl⟩|⟨rfl,rfl,rfl⟩|⟨rfl,rfl,rfl⟩|⟨rfl,rfl,rfl⟩|⟨rfl,rfl,rfl⟩|⟨rfl,rfl,rfl⟩
   all_goals
    have d5:=dk 5 hk
    have d6:=dk 6 hk
    have d7:=dk 7 hk
    simp only [pk 5 hk,pk 6 hk,pk 7 hk]
    simp only [Rn,FD,AP,FI,Fg,FV] at e4
    simp [af,dM,hN,e1,e3,e4,h1,hs,hwi,hl,fK,find,wH,yU,d5,d6,d7,splice]
    try rfl
  | false=>
   have e2:=e2 rfl
   clear e2'
   cases bp
   all_goals
   rcases hw with ⟨rfl,rfl,rfl⟩|⟨rfl,rfl,rfl⟩|⟨rfl,rfl,rfl⟩|⟨rfl,rfl,rfl⟩|⟨rfl,rfl,rfl⟩|⟨rfl,rfl,rfl⟩
   all_goals
    have d5:=dk 5 hk
    have d6:=dk 6 hk
    have d7:=dk 7 hk
    simp only [pk 5 hk,pk 6 hk,pk 7 hk]
    simp only [Rn,FD,AP,FI,Fg,FV] at e4
    simp [af,dM,hN,e1,e2,e3,e4,h1,hs,hwi,hl,fK,find,wH,yU,d5,d6,d7,splice]
    try rfl
theorem afl {i i1 i2:Nat} {bo bp:Bool} (cx:Ctx) (hl:cx.lim≤l)
  (e1:ah P0 (.fn (.func aC) [] []) [.pt l 0,.s JQ] (S i) ⟨cx.lim,N⟩=.ret (.b bo) (S i1))
  (e2:bo=false→ah P0 (.fn (.func aC) [] []) [.pt l 0,.s JK] (S i1) ⟨cx.lim,N⟩=.ret (.b bp) (S i2)) (e2':bo=true→i2=i1∧bp=false)
  {k:Int} {t:List UInt8} {a:Nat} (ht:T[i2]?=some (k,t,a)) (hn:t ∉ adI) {x:PR Ax} (hx:∀y r,x=.ok y r→y.kind=1∨y.kind=2∨y.kind=3)
  (e3:ah P0 (.fn (.func gB) [] []) [.pt l 0] (S i2) ⟨cx.lim,N⟩=Ans iq T S x):
  ah P0 (.fn (.func eX) [] []) [.pt l 0] (S i) cx=Ans iq T S (x.bind fun y r=>.ok (WB bo bp y) r):=by
 cases x with
 | ok y r=>
  have hk:=hx y r rfl
  have h:=WV hE y hk cx hl e1 e2 e2' ht hn e3
  simp only [PR.bind_ok,eH,WB]
  rw [if_neg (by omega)]
  exact h
 | er a c r=>
  have e4:=Ee T hE.len i2 _ (S i2) l (hE.cell i2) k t _ ht
  have h1:=hE.cell i2
  have hN:=hE.n
  simp [adI,Rn,FD,AP,FI,Fg,FV] at hn
  obtain ⟨n1,n2,n3,n4,n5,n6⟩:=hn
  simp only [JQ,JK] at e1 e2
  simp only [jg,PR.bind_er] at e3 ⊢
  refine sD (by simp) ?_
  unfold psO CV at h1
  cases bo with
  | false=>
   have e2:=e2 rfl
   cases bp<;>simp [af,dM,hN,e1,e2,e3,e4,h1,fK,find,wH,yU,n1,n2,n3,n4,n5,n6,splice]
  | true=>
   obtain ⟨rfl,rfl⟩:=e2' rfl
   simp [af,dM,hN,e1,e3,e4,h1,fK,find,wH,yU,n1,n2,n3,n4,n5,n6,splice]
theorem Yb {i i1:Nat} {bo bp:Bool} (cx:Ctx) (hl:cx.lim≤l) {r:List Tok} (h:Suf T r)
  (e1:ah P0 (.fn (.func aC) [] []) [.pt l 0,.s JQ] (S i) ⟨cx.lim,N⟩=.ret (.b bo) (S i1))
  (e2:bo=false→ah P0 (.fn (.func aC) [] []) [.pt l 0,.s JK] (S i1) ⟨cx.lim,N⟩=.ret (.b bp) (S (idx T r))) (e2':bo=true→idx T r=i1∧bp=false):
  ah P0 (.fn (.func eX) [] []) [.pt l 0] (S i) cx=Ans iq T S (pSt bo bp r):=by
 have hg:=h.get
 obtain ⟨t,ht⟩:∃t,t=hT r:=⟨_,rfl⟩
 rw [←ht] at hg
 obtain ⟨k0,w0,a0⟩:=t
 have htx:txt r=w0:=by unfold txt;rw [←ht]
 unfold pSt
 by_cases h0:txt r=Rn
 ·have hx:wX r=GR r.tail:=by unfold wX;rw [ifw,if_pos h0]
  have htl:=h.tail (.inl (by rw [h0];decide))
  have e3:=abL hE htl.1 ⟨cx.lim,N⟩ hl
  rw [htl.2] at e3
  have hw:w0=Rn:=htx.symm.trans h0
  subst hw
  rw [hx]
  refine Tc hE cx hl e1 e2 e2' (.inl ⟨rfl,rfl,rfl⟩) hg (fun y q hy=>?_) e3
  ·unfold GR at hy
   obtain ⟨u0,q0,g0,hy⟩:=aA.1 hy
   obtain ⟨u1,q1,g1,hy⟩:=aA.1 hy
   cases hy;rfl
 by_cases h1:txt r=FD
 ·have hx:wX r=TI r.tail:=by unfold wX;rw [ifw,if_neg h0,ifw,if_pos h1]
  have htl:=h.tail (.inl (by rw [h1];decide))
  have e3:=afh hE htl.1 ⟨cx.lim,N⟩ hl
  rw [htl.2] at e3
  have hw:w0=FD:=htx.symm.trans h1
  subst hw
  rw [hx]
  refine Tc hE cx hl e1 e2 e2' (.inr (.inl ⟨rfl,rfl,rfl⟩)) hg (fun y q hy=>?_) e3
  ·unfold TI at hy
   obtain ⟨u0,q0,g0,hy⟩:=aA.1 hy
   obtain ⟨u1,q1,g1,hy⟩:=aA.1 hy
   obtain ⟨u2,q2,g2,hy⟩:=aA.1 hy
   cases hy;rfl
 by_cases h2:txt r=AP
 ·have hx:wX r=Lu r.tail:=by unfold wX;rw [ifw,if_neg h0,ifw,if_neg h1,ifw,if_pos h2]
  have htl:=h.tail (.inl (by rw [h2];decide))
  have e3:=adV hE htl.1 ⟨cx.lim,N⟩ hl
  rw [htl.2] at e3
  have hw:w0=AP:=htx.symm.trans h2
  subst hw
  rw [hx]
  refine Tc hE cx hl e1 e2 e2' (.inr (.inr (.inl ⟨rfl,rfl,rfl⟩))) hg (fun y q hy=>?_) e3
  ·unfold Lu at hy
   obtain ⟨u0,q0,g0,hy⟩:=aA.1 hy
   obtain ⟨u1,q1,g1,hy⟩:=aA.1 hy
   obtain ⟨u2,q2,g2,hy⟩:=aA.1 hy
   obtain ⟨u3,q3,g3,hy⟩:=aA.1 hy
   obtain ⟨u4,q4,g4,hy⟩:=aA.1 hy
   cases hy;rfl
 by_cases h3:txt r=FI
 ·have hx:wX r=TJ r.tail:=by unfold wX;rw [ifw,if_neg h0,ifw,if_neg h1,ifw,if_neg h2,ifw,if_pos h3]
  have htl:=h.tail (.inl (by rw [h3];decide))
  have e3:=afi hE htl.1 ⟨cx.lim,N⟩ hl
  rw [htl.2] at e3
  have hw:w0=FI:=htx.symm.trans h3
  subst hw
  rw [hx]
  refine Tc hE cx hl e1 e2 e2' (.inr (.inr (.inr (.inl ⟨rfl,rfl,rfl⟩)))) hg (fun y q hy=>?_) e3
  ·unfold TJ at hy
   obtain ⟨u0,q0,g0,hy⟩:=aA.1 hy
   cases hy;rfl
 by_cases h4:txt r=Fg
 ·have hx:wX r=GN r.tail:=by unfold wX;rw [ifw,if_neg h0,ifw,if_neg h1,ifw,if_neg h2,ifw,if_neg h3,ifw,if_pos h4]
  have htl:=h.tail (.inl (by rw [h4];decide))
  have e3:=abJ hE htl.1 ⟨cx.lim,N⟩ hl
  rw [htl.2] at e3
  have hw:w0=Fg:=htx.symm.trans h4
  subst hw
  rw [hx]
  refine Tc hE cx hl e1 e2 e2' (.inr (.inr (.inr (.inr (.inl ⟨rfl,rfl,rfl⟩))))) hg (fun y q hy=>?_) e3
  ·unfold GN at hy
   obtain ⟨u0,q0,g0,hy⟩:=aA.1 hy
   obtain ⟨u1,q1,g1,hy⟩:=aA.1 hy
   cases hy;rfl
 by_cases h5:txt r=FV
 ·have hx:wX r=TL r.tail:=by unfold wX;rw [ifw,if_neg h0,ifw,if_neg h1,ifw,if_neg h2,ifw,if_neg h3,ifw,if_neg h4,ifw,if_pos h5]
  have htl:=h.tail (.inl (by rw [h5];decide))
  have e3:=afj hE htl.1 ⟨cx.lim,N⟩ hl
  rw [htl.2] at e3
  have hw:w0=FV:=htx.symm.trans h5
  subst hw
  rw [hx]
  refine Tc hE cx hl e1 e2 e2' (.inr (.inr (.inr (.inr (.inr (⟨rfl,rfl,rfl⟩)))))) hg (fun y q hy=>?_) e3
  ·unfold TL at hy
   obtain ⟨u0,q0,g0,hy⟩:=aA.1 hy
   obtain ⟨u1,q1,g1,hy⟩:=aA.1 hy
   obtain ⟨u2,q2,g2,hy⟩:=aA.1 hy
   cases hy;rfl
 have hx:wX r=WW r:=by unfold wX;rw [ifw,if_neg h0,ifw,if_neg h1,ifw,if_neg h2,ifw,if_neg h3,ifw,if_neg h4,ifw,if_neg h5]
 rw [hx]
 refine afl hE cx hl e1 e2 e2' hg ?_ (fun y q hy=>aas hy) (V8 hE h ⟨cx.lim,N⟩ hl)
 rw [←htx]
 simp [adI,h0,h1,h2,h3,h4,h5]
theorem adW {r:List Tok} (h:Suf T r) (cx:Ctx) (hl:cx.lim≤l):ah P0 (.fn (.func eX) [] []) [.pt l 0] (S (idx T r)) cx=Ans iq T S (BG r):=by
 unfold BG ifw
 by_cases h1:txt r=JQ
 ·have htl:=h.tail (.inl (by rw [h1];decide))
  rw [if_pos h1]
  exact Yb hE cx hl htl.1 (kY hE h h1 (by decide) ⟨cx.lim,N⟩ hl) (fun hh=>by cases hh) (fun _=>⟨rfl,rfl⟩)
 rw [if_neg h1]
 by_cases h2:txt r=JK
 ·have htl:=h.tail (.inl (by rw [h2];decide))
  rw [if_pos h2]
  exact Yb hE cx hl htl.1 (lX hE h h1 ⟨cx.lim,N⟩) (fun _=>kY hE h h2 (by decide) ⟨cx.lim,N⟩ hl) (fun hh=>by cases hh)
 rw [if_neg h2]
 exact Yb hE cx hl h (lX hE h h1 ⟨cx.lim,N⟩) (fun _=>lX hE h h2 ⟨cx.lim,N⟩) (fun hh=>by cases hh)
end
end Go.Ai.Z
