/-
 The plain parser of axioms.
-/
import Derived.Test.YtpnlnnfcaeednaaGreatDoorAiY9Y10Y11
import Derived.Test.YtpnlnnfcaeednaaGreatDoorAiU1U2U3U4
set_option maxRecDepth 100000
set_option linter.unusedSimpArgs false
set_option linter.unusedVariables false
set_option linter.unusedSectionVars false
namespace Go.Ai.Z
def Gx (l:List Tok):PR Ax:=(iC l).bind fun r l1=>(kG l1).bind fun c l2=>.ok ⟨4,false,zC,c,true,[],r,[],[]⟩ l2
def Gw (l:List Tok):PR Ax:=(iC l).bind fun a l1=>(kG l1).bind fun c l2=>.ok ⟨8,false,zC,c,true,[],[],a,[]⟩ l2
def S9 (l:List Tok):PR Ax:=(iC l).bind fun r l1=>.ok ⟨7,false,zC,zC,true,[],r,[],[]⟩ l1
def Td (l:List Tok):PR Ax:=(iC l).bind fun a l1=>(iC l1).bind fun r l2=>(iC l2).bind fun b l3=>.ok ⟨9,false,zC,zC,true,[],r,a,b⟩ l3
def SY (l:List Tok):PR Ax:=(iC l).bind fun q l1=>(kT G5 l1).bind fun _ l2=>(iC l2).bind fun r l3=>.ok ⟨5,false,zC,zC,true,[q],r,[],[]⟩ l3
def tC:Nat→List (List UInt8)→List Tok→PR (List (List UInt8))
 | 0,acc,l=>.ok acc l
 | n+1,acc,l=>if (hT l).1=1∧kwS (txt l)=false then (iC l).bind fun r l1=>tC n (acc++[r]) l1 else .ok acc l
def La (l:List Tok):PR Ax:=(iC l).bind fun p l1=>(iC l1).bind fun q l2=>(tC 2 [p,q] l2).bind fun rs l3=>(kT G5 l3).bind fun _ l4=>(iC l4).bind fun r l5=>.ok ⟨6,false,zC,zC,true,rs,r,[],[]⟩ l5
def ifw {α:Type} (w:List UInt8) (f g:List Tok→PR α) (l:List Tok):PR α:=if txt l=w then f l.tail else g l
def Ib (k:Int) (c:C) (l:List Tok):PR Ax:=(kG l).bind fun d l2=>.ok ⟨k,false,c,d,true,[],[],[],[]⟩ l2
def aef {α:Type} (l:List Tok):PR α:=.er (hT l).2.2 30 l
def WG (l:List Tok):PR Ax:=(kG l).bind fun c l1=>ifw G5 (Ib 1 c) (ifw Y0 (Ib 2 c) (ifw Zq (Ib 3 c) aef)) l1
def wU:List Tok→PR Ax:=ifw QW Gx (ifw E8 SY (ifw AA La (ifw Fb S9 (ifw ET Gw (ifw FD Td WG)))))
def Wh (o p:Bool) (x:Ax):Ax:={ x with op:=if x.kind=5∨x.kind=6∨x.kind=7 then !p else o }
def pSt (o p:Bool) (l:List Tok):PR Ax:=(wU l).bind fun x r=>.ok (Wh o p x) r
def wz:List Tok→PR Ax:=ifw JC (pSt true false) (ifw Jy (pSt false true) (pSt false false))
theorem uq {α:Type} {w:List UInt8} (hn:w≠[]) {f g:List Tok→PR α} {l:List Tok} (h:WT l) (hf:∀r,WT r→Good' r (f r)) (hg:Good' l (g l)):Good' l (ifw w f g l):=by
 unfold ifw
 split
 ·rename_i h1
  exact .tok h (.inl (by rw [h1];exact hn)) fun r hr e=>by rw [←e];exact (hf r hr).zero
 ·exact hg
theorem NJ {l:List Tok} (h:WT l):Good' l (Gx l):=(bF h).bind fun _ _ _ h1=>((mM h1).bind fun _ _ _ h2=>nG _ h2).zero
theorem NH {l:List Tok} (h:WT l):Good' l (Gw l):=(bF h).bind fun _ _ _ h1=>((mM h1).bind fun _ _ _ h2=>nG _ h2).zero
theorem TI {l:List Tok} (h:WT l):Good' l (S9 l):=(bF h).bind fun _ _ _ h1=>nG _ h1
theorem TJ {l:List Tok} (h:WT l):Good' l (Td l):=(bF h).bind fun _ _ _ h1=>((bF h1).bind fun _ _ _ h2=>((bF h2).bind fun _ _ _ h3=>nG _ h3).zero).zero
theorem TG {l:List Tok} (h:WT l):Good' l (SY l):=(bF h).bind fun _ _ _ h1=>((oD (by decide) h1).bind fun _ _ _ h2=>((bF h2).bind fun _ _ _ h3=>nG _ h3).zero).zero
theorem I9:∀(n:Nat) (acc:List (List UInt8)) {l:List Tok},WT l→BD l (tC n acc l)
 | 0,acc,l,h=>nG _ h
 | n+1,acc,l,h=>by
  unfold tC
  split
  ·exact ((bF h).bind fun _ _ _ h1=>I9 n _ h1).zero
  ·exact nG _ h
theorem QG {l:List Tok} (h:WT l):Good' l (La l):=
 (bF h).bind fun _ _ _ h1=>((bF h1).bind fun _ _ _ h2=>(I9 2 _ h2).bind fun _ _ _ h3=>((oD (by decide) h3).bind fun _ _ _ h4=>((bF h4).bind fun _ _ _ h5=>nG _ h5).zero).zero).zero
theorem zO (k:Int) (c:C) {l:List Tok} (h:WT l):Good' l (Ib k c l):=(mM h).bind fun _ _ _ h1=>nG _ h1
theorem acp {l:List Tok} (h:WT l):Good' l (WG l):=(mM h).bind fun c _ _ h1=>
 (uq (by decide) h1 (fun _ h=>zO 1 c h) (uq (by decide) h1 (fun _ h=>zO 2 c h) (uq (by decide) h1 (fun _ h=>zO 3 c h) (OO _ _ h1)))).zero
theorem aah {l:List Tok} (h:WT l):Good' l (wU l):=
 uq (by decide) h (fun _ h=>NJ h) (uq (by decide) h (fun _ h=>TG h) (uq (by decide) h (fun _ h=>QG h) (uq (by decide) h (fun _ h=>TI h) (uq (by decide) h (fun _ h=>NH h) (uq (by decide) h (fun _ h=>TJ h) (acp h))))))
theorem U4 (o p:Bool) {l:List Tok} (h:WT l):Good' l (pSt o p l):=(aah h).bind fun _ _ _ h1=>nG _ h1
theorem yB {l:List Tok} (h:WT l):Good' l (wz l):=
 uq (by decide) h (fun _ h=>U4 true false h) (uq (by decide) h (fun _ h=>U4 false true h) (U4 false false h))
def xu (t:Tok):Bool:=decide (t.1=4) || (decide (t.1=3) && decide (t.2.1=[46]))
def upto:List Tok→List Tk
 | []=>[]
 | t::r=>if xu t=true then [] else Dk t::upto r
def Ej {α:Type} (l l':List Tok) (x x':PR α):Prop:=
 match x,x' with
 | .ok v r,.ok v' r'=>v=v'∧WT r∧WT r'∧upto r=upto r'∧l.length+r'.length=l'.length+r.length
 | .er a c r,.er a' c' r'=>c=c'∧WT r∧WT r'∧upto r=upto r'∧l.length+r'.length=l'.length+r.length∧a=(hT r).2.2∧a'=(hT r').2.2
 | _,_=>False
def AX {α:Type} (f:List Tok→PR α):Prop:=∀l l',WT l→WT l'→upto l=upto l'→Ej l l' (f l) (f l')
theorem Dh {l l':List Tok} (h:WT l) (h':WT l') (e:upto l=upto l'):
  (xu (hT l)=true∧xu (hT l')=true)∨∃t t' q q',l=t::q∧l'=t'::q'∧t'.1=t.1∧t'.2.1=t.2.1∧WT q∧WT q'∧upto q=upto q'∧xu t=false∧xu t'=false:=by
 cases h with
 | fin a=>
  cases h' with
  | fin b=>exact .inl ⟨rfl,rfl⟩
  | cons t q h1 h2=>
   by_cases hs:xu t=true
   ·exact .inl ⟨rfl,hs⟩
   ·rw [upto,if_pos (show xu (4,[],a)=true from rfl),upto,if_neg hs] at e;cases e
 | cons t q h1 h2=>
  cases h' with
  | fin b=>
   by_cases hs:xu t=true
   ·exact .inl ⟨hs,rfl⟩
   ·rw [upto,if_neg hs] at e;simp [upto,xu] at e
  | cons t' q' h3 h4=>
   by_cases hs:xu t=true
   ·by_cases hs':xu t'=true
    ·exact .inl ⟨hs,hs'⟩
    ·rw [upto,upto,if_pos hs,if_neg hs'] at e;cases e
   ·by_cases hs':xu t'=true
    ·rw [upto,upto,if_neg hs,if_pos hs'] at e;cases e
    ·rw [upto,upto,if_neg hs,if_neg hs',List.cons.injEq] at e
     have e1:=e.1
     simp only [Dk,Prod.mk.injEq] at e1
     exact .inr ⟨t,t',q,q',rfl,rfl,e1.1.symm,e1.2.symm,h2,h4,e.2,by simpa using hs,by simpa using hs'⟩
theorem V6 {l:List Tok} (h:WT l) (hs:xu (hT l)=true) {w:List UInt8} (h1:w≠[]) (h2:w≠[46]):txt l≠w:=by
 cases h with
 | fin a=>exact fun e=>h1 e.symm
 | cons t q h3 h4=>
  have hs':xu t=true:=hs
  have hs:t.1=4∨(t.1=3∧t.2.1=[46]):=by simpa [xu] using hs'
  rcases hs with hs|hs
  ·rcases h3.k with k|k|k<;>omega
  ·rw [dR,hs.2];exact fun e=>h2 e.symm
theorem zM {l:List Tok} (hs:xu (hT l)=true):(hT l).1≠1∧(hT l).1≠2:=by
 have hs:(hT l).1=4∨((hT l).1=3∧(hT l).2.1=[46]):=by simpa [xu] using hs
 omega
theorem Dx {α:Type} (c:Int):AX (fun l=>(PR.er (hT l).2.2 c l:PR α)):=fun l l' h h' e=>⟨rfl,h,h',e,by omega,rfl,rfl⟩
theorem ny {α:Type} (v:α):AX (fun l=>PR.ok v l):=fun l l' h h' e=>⟨rfl,h,h',e,by omega⟩
theorem AX.bind {α β:Type} {f:List Tok→PR α} {g:α→List Tok→PR β} (hf:AX f) (hg:∀v,AX (g v)):AX (fun l=>(f l).bind g):=by
 intro l l' h h' e
 have h1:=hf l l' h h' e
 show Ej l l' ((f l).bind g) ((f l').bind g)
 cases hx:f l with
 | ok v r=>
  cases hx':f l' with
  | er a c r'=>rw [hx,hx'] at h1;exact absurd h1 (by simp [Ej])
  | ok v' r'=>
   rw [hx,hx'] at h1
   obtain ⟨rfl,w1,w2,u1,u2⟩:=h1
   have h2:=hg v r r' w1 w2 u1
   simp only [PR.bind_ok]
   cases hy:g v r with
   | ok u q=>
    cases hy':g v r' with
    | er a c q'=>rw [hy,hy'] at h2;exact absurd h2 (by simp [Ej])
    | ok u' q'=>rw [hy,hy'] at h2;obtain ⟨k1,k2,k3,k4,k5⟩:=h2;exact ⟨k1,k2,k3,k4,by omega⟩
   | er a c q=>
    cases hy':g v r' with
    | ok u' q'=>rw [hy,hy'] at h2;exact absurd h2 (by simp [Ej])
    | er a' c' q'=>rw [hy,hy'] at h2;obtain ⟨k1,k2,k3,k4,k5,k6,k7⟩:=h2;exact ⟨k1,k2,k3,k4,by omega,k6,k7⟩
 | er a c r=>
  cases hx':f l' with
  | ok v' r'=>rw [hx,hx'] at h1;exact absurd h1 (by simp [Ej])
  | er a' c' r'=>rw [hx,hx'] at h1;exact h1
theorem lm {α:Type} {w:List UInt8} (h1:w≠[]) (h2:w≠[46]) {f g:List Tok→PR α} (hf:AX f) (hg:AX g):AX (ifw w f g):=by
 intro l l' h h' e
 unfold ifw
 rcases Dh h h' e with ⟨s1,s2⟩|⟨t,t',q,q',rfl,rfl,k1,k2,w1,w2,u,s1,s2⟩
 ·rw [if_neg (V6 h s1 h1 h2),if_neg (V6 h' s2 h1 h2)]
  exact hg l l' h h' e
 ·by_cases hc:t.2.1=w
  ·rw [if_pos (show txt (t::q)=w from hc),if_pos (show txt (t'::q')=w from k2.trans hc)]
   have h3:=hf q q' w1 w2 u
   cases hy:f q with
   | ok u r=>
    cases hy':f q' with
    | er a c r'=>rw [hy,hy'] at h3;exact absurd h3 (by simp [Ej])
    | ok u' r'=>rw [hy,hy'] at h3;obtain ⟨k1,k2,k3,k4,k5⟩:=h3;show Ej _ _ (f q) (f q');rw [hy,hy'];exact ⟨k1,k2,k3,k4,by simp only [List.length_cons];omega⟩
   | er a c r=>
    cases hy':f q' with
    | ok u' r'=>rw [hy,hy'] at h3;exact absurd h3 (by simp [Ej])
    | er a' c' r'=>rw [hy,hy'] at h3;obtain ⟨k1,k2,k3,k4,k5,k6,k7⟩:=h3;show Ej _ _ (f q) (f q');rw [hy,hy'];exact ⟨k1,k2,k3,k4,by simp only [List.length_cons];omega,k6,k7⟩
  ·rw [if_neg (show ¬txt (t::q)=w from hc),if_neg (show ¬txt (t'::q')=w from fun hh=>hc (k2.symm.trans hh))]
   exact hg _ _ h h' e
theorem BR {w:List UInt8} (h1:w≠[]) (h2:w≠[46]):AX (kT w):=lm h1 h2 (ny ()) (Dx 30)
theorem P8 (t:Tok) (q:List Tok):iC (t::q)=if t.1=1∧kwS t.2.1=false then (if lq t.2.1=true then .ok t.2.1 q else .er t.2.2 20 (t::q)) else .er t.2.2 30 (t::q):=rfl
theorem lU:AX iC:=by
 intro l l' h h' e
 rcases Dh h h' e with ⟨s1,s2⟩|⟨t,t',q,q',rfl,rfl,k1,k2,w1,w2,u,s1,s2⟩
 ·unfold iC
  rw [if_neg (fun hh=>(zM s1).1 hh.1),if_neg (fun hh=>(zM s2).1 hh.1)]
  exact Dx 30 l l' h h' e
 ·rw [P8,P8,k1,k2]
  by_cases c1:t.1=1∧kwS t.2.1=false
  ·rw [if_pos c1,if_pos c1]
   by_cases c2:lq t.2.1=true
   ·rw [if_pos c2,if_pos c2]
    exact ⟨rfl,w1,w2,u,by simp only [List.length_cons];omega⟩
   ·rw [if_neg c2,if_neg c2]
    exact ⟨rfl,h,h',e,by omega,rfl,rfl⟩
  ·rw [if_neg c1,if_neg c1]
   exact ⟨rfl,h,h',e,by omega,rfl,rfl⟩
theorem Tc (least:Int) (t:Tok) (q:List Tok):xW least (t::q)=if t.1=2 then (match Go.Lib.atoi t.2.1 with
  | some n=>if 1099511627776<n∨n<least then .er t.2.2 21 (t::q) else .ok n q
  | none=>.er t.2.2 21 (t::q))
 else .er t.2.2 30 (t::q):=rfl
theorem Wx (least:Int):AX (xW least):=by
 intro l l' h h' e
 rcases Dh h h' e with ⟨s1,s2⟩|⟨t,t',q,q',rfl,rfl,k1,k2,w1,w2,u,s1,s2⟩
 ·unfold xW
  rw [if_neg (zM s1).2,if_neg (zM s2).2]
  exact Dx 30 l l' h h' e
 ·rw [Tc,Tc,k1,k2]
  by_cases c1:t.1=2
  ·rw [if_pos c1,if_pos c1]
   cases Go.Lib.atoi t.2.1 with
   | none=>exact ⟨rfl,h,h',e,by omega,rfl,rfl⟩
   | some n=>
    simp only []
    by_cases c2:1099511627776<n∨n<least
    ·rw [if_pos c2,if_pos c2]
     exact ⟨rfl,h,h',e,by omega,rfl,rfl⟩
    ·rw [if_neg c2,if_neg c2]
     exact ⟨rfl,w1,w2,u,by simp only [List.length_cons];omega⟩
  ·rw [if_neg c1,if_neg c1]
   exact ⟨rfl,h,h',e,by omega,rfl,rfl⟩
theorem abL (n:Nat):iw (n+1)=ifw evW (fun l=>.ok (.mk 1 [] 0 0 true []) l) (ifw Yb (fun l=>.ok (.mk 2 [] 0 0 true []) l) (ifw [123] (fun l=>(iC l).bind fun nm l1=>(kT [125] l1).bind fun _ l2=>.ok (.mk 4 nm 0 0 true []) l2)
  (ifw Po (fun l=>(iC l).bind fun nm l1=>(iw n l1).bind fun c l2=>.ok (.mk 6 nm 0 0 false [c]) l2) (ifw [40] (fun l=>(uN n l).bind fun c l1=>(kT [41] l1).bind fun _ l2=>.ok c l2)
  (fun l=>(iC l).bind fun nm=>ifw inB (fun l=>(xW (-1099511627776) l).bind fun lo l2=>(kT toW l2).bind fun _ l3=>(xW lo l3).bind fun hi l4=>.ok (.mk 7 nm lo hi true []) l4) (fun l=>.ok (.mk 3 nm 0 0 true []) l)))))):=by
 funext l;rw [iw];rfl
theorem abM (n:Nat) (cs:List C):(fun l=>jI (n+1) l cs)=ifw Jl (fun l=>(iw n l).bind fun c l1=>jI n l1 (cs++[c])) (fun l=>.ok (XD cs) l):=by
 funext l;rw [jI];rfl
theorem PO:∀n:Nat,AX (iw n)∧AX (uN n)∧∀cs,AX (fun l=>jI n l cs)
 | 0=>⟨fun l l' h h' e=>by simp only [iw];exact Dx 0 l l' h h' e,fun l l' h h' e=>by simp only [uN];exact Dx 0 l l' h h' e,fun cs l l' h h' e=>by simp only [jI];exact Dx 0 l l' h h' e⟩
 | n+1=>by
  obtain ⟨i1,i2,i3⟩:=PO n
  refine ⟨?_, ?_,fun cs=>?_⟩
  ·rw [abL]
   refine lm (by decide) (by decide) (ny _) (lm (by decide) (by decide) (ny _) (lm (by decide) (by decide) ?_ (lm (by decide) (by decide) ?_ (lm (by decide) (by decide) ?_ ?_))))
   ·exact lU.bind fun nm=>(BR (by decide) (by decide)).bind fun _=>ny _
   ·exact lU.bind fun nm=>i1.bind fun _=>ny _
   ·exact i2.bind fun c=>(BR (by decide) (by decide)).bind fun _=>ny _
   ·exact lU.bind fun nm=>lm (by decide) (by decide) ((Wx _).bind fun lo=>(BR (by decide) (by decide)).bind fun _=>(Wx lo).bind fun hi=>ny _) (ny _)
  ·have:uN (n+1)=fun l=>(iw n l).bind fun c l1=>jI n l1 [c]:=by funext l;rw [uN]
   rw [this]
   exact i1.bind fun c=>i3 [c]
  ·rw [abM]
   exact lm (by decide) (by decide) (i1.bind fun c=>i3 _) (ny _)
theorem zu:AX kG:=by
 intro l l' h h' e
 have h1:=(PO (2 * l.length+1+(2 * l'.length+1))).2.1 l l' h h' e
 rwa [wV h (by omega),wV h' (by omega)] at h1
theorem Nl (n:Nat) (acc:List (List UInt8)) (t:Tok) (q:List Tok):tC (n+1) acc (t::q)=if t.1=1∧kwS t.2.1=false then (iC (t::q)).bind fun r l1=>tC n (acc++[r]) l1 else .ok acc (t::q):=rfl
theorem PS:∀(n:Nat) (acc:List (List UInt8)),AX (tC n acc)
 | 0,acc=>ny acc
 | n+1,acc=>by
  intro l l' h h' e
  rcases Dh h h' e with ⟨s1,s2⟩|⟨t,t',q,q',rfl,rfl,k1,k2,w1,w2,u,s1,s2⟩
  ·unfold tC
   rw [if_neg (fun hh=>(zM s1).1 hh.1),if_neg (fun hh=>(zM s2).1 hh.1)]
   exact ny acc l l' h h' e
  ·rw [Nl,Nl,k1,k2]
   by_cases c1:t.1=1∧kwS t.2.1=false
   ·rw [if_pos c1,if_pos c1]
    exact (lU.bind fun r=>PS n (acc++[r])) _ _ h h' e
   ·rw [if_neg c1,if_neg c1]
    exact ny acc _ _ h h' e
theorem KY (k:Int) (c:C):AX (Ib k c):=zu.bind fun _=>ny _
theorem abC:AX WG:=zu.bind fun c=>lm (by decide) (by decide) (KY 1 c) (lm (by decide) (by decide) (KY 2 c) (lm (by decide) (by decide) (KY 3 c) (Dx 30)))
theorem ZT:AX wU:=by
 refine lm (by decide) (by decide) (lU.bind fun _=>zu.bind fun _=>ny _) (lm (by decide) (by decide) ?_ (lm (by decide) (by decide) ?_ (lm (by decide) (by decide) (lU.bind fun _=>ny _) (lm (by decide) (by decide) (lU.bind fun _=>zu.bind fun _=>ny _) (lm (by decide) (by decide) ?_ abC)))))
 ·exact lU.bind fun _=>(BR (by decide) (by decide)).bind fun _=>lU.bind fun _=>ny _
 ·exact lU.bind fun _=>lU.bind fun _=>(PS 2 _).bind fun _=>(BR (by decide) (by decide)).bind fun _=>lU.bind fun _=>ny _
 ·exact lU.bind fun _=>lU.bind fun _=>lU.bind fun _=>ny _
theorem UD (o p:Bool):AX (pSt o p):=ZT.bind fun _=>ny _
theorem PU:AX wz:=lm (by decide) (by decide) (UD true false) (lm (by decide) (by decide) (UD false true) (UD false false))
structure Ax.Parsed (x:Ax) (w:Nat):Prop where
 l:wC x.left≤w+1
 r:wC x.right≤w+1
 ul:(kV x.kind).l=false→x.left=zC
 ur:(kV x.kind).r=false→x.right=zC
 roles:x.roles.length≤4
 rs:∀r∈x.roles,r.length≤24
 role:x.role.length≤24
 a:x.a.length≤24
 b:x.b.length≤24
theorem uh {l r:List Tok} {v:List UInt8} (h:iC l=.ok v r):v.length≤24:=by
 unfold iC at h
 split at h
 ·split at h
  ·rename_i h2
   cases h
   unfold lq at h2
   rw [Bool.and_eq_true] at h2
   simpa using h2.1
  ·cases h
 ·cases h
theorem nM {α:Type} {w:List UInt8} {f g:List Tok→PR α} {l r:List Tok} {v:α} (h:ifw w f g l=.ok v r):(txt l=w∧f l.tail=.ok v r)∨g l=.ok v r:=by
 unfold ifw at h
 split at h
 ·rename_i h1;exact .inl ⟨h1,h⟩
 ·exact .inr h
theorem WN:∀(n:Nat) (acc:List (List UInt8)) {l r:List Tok} {v:List (List UInt8)},WT l→tC n acc l=.ok v r→WT r∧v.length≤acc.length+n∧((∀a∈acc,a.length≤24)→∀a∈v,a.length≤24)
 | 0,acc,l,r,v,hw,h=>by cases h;exact ⟨hw,by omega,fun h=>h⟩
 | n+1,acc,l,r,v,hw,h=>by
  unfold tC at h
  split at h
  ·obtain ⟨nm,l1,e1,h⟩:=aC.1 h
   obtain ⟨q1,q2,q3⟩:=WN n _ (pK (bF hw) e1).1 h
   refine ⟨q1,by simp at q2;omega,fun ha=>q3 fun a h=>?_⟩
   rcases List.mem_append.1 h with h|h
   ·exact ha a h
   ·simp at h;subst h;exact uh e1
  ·cases h;exact ⟨hw,by omega,fun h=>h⟩
theorem ad8:wC zC=1:=by unfold zC;rw [Gq];rfl
theorem Ul (l:List Tok):tw l.tail≤tw l:=by
 cases l with
 | nil=>exact Nat.le_refl _
 | cons t q=>simp [tw]
theorem Ax.Parsed.mono {x:Ax} {v w:Nat} (h:x.Parsed v) (hv:v≤w):x.Parsed w:=⟨by have:=h.l;omega,by have:=h.r;omega,h.ul,h.ur,h.roles,h.rs,h.role,h.a,h.b⟩
theorem Jz {k:Int} {l l1 l2:List Tok} {nm:List UInt8} {c:C} (hw:WT l) (e1:iC l=.ok nm l1) (e2:kG l1=.ok c l2):nm.length≤24∧wC c≤tw l+1:=by
 have w1:=(pK (bF hw) e1).1
 have h1:=UN hw e1
 have h2:=L9 w1 e2
 exact ⟨uh e1,by omega⟩
theorem WC {l r:List Tok} {x:Ax} (hw:WT l) (h:wU l=.ok x r):x.Parsed (tw l):=by
 have hz:=ad8
 have wt:∀{w:List UInt8},txt l=w→w≠[]→WT l.tail:=fun {w} e hn=>by obtain ⟨t,q,rfl,_,h⟩:=hw.tl (.inl (by rw [e];exact hn));exact h
 have ht:=Ul l
 rcases nM h with ⟨k,h⟩|h
 ·obtain ⟨nm,l1,e1,h⟩:=aC.1 h
  obtain ⟨c,l2,e2,h⟩:=aC.1 h
  obtain ⟨b1,b2⟩:=Jz (k:=4) (wt k (by decide)) e1 e2
  cases h
  exact ⟨by simp only [hz];omega,by simp only [];omega,fun _=>rfl,fun h=>by simp [kV] at h,by simp,by simp,b1,by simp,by simp⟩
 rcases nM h with ⟨k,h⟩|h
 ·obtain ⟨q,l1,e1,h⟩:=aC.1 h
  obtain ⟨u,l2,e2,h⟩:=aC.1 h
  obtain ⟨nm,l3,e3,h⟩:=aC.1 h
  cases h
  exact ⟨by simp only [hz];omega,by simp only [hz];omega,fun _=>rfl,fun _=>rfl,by simp,by simp;exact uh e1,uh e3,by simp,by simp⟩
 rcases nM h with ⟨k,h⟩|h
 ·obtain ⟨p,l1,e1,h⟩:=aC.1 h
  obtain ⟨q,l2,e2,h⟩:=aC.1 h
  obtain ⟨rs,l3,e3,h⟩:=aC.1 h
  obtain ⟨u,l4,e4,h⟩:=aC.1 h
  obtain ⟨nm,l5,e5,h⟩:=aC.1 h
  have w1:=(pK (bF (wt k (by decide))) e1).1
  have w2:=(pK (bF w1) e2).1
  obtain ⟨-,n1,n2⟩:=WN 2 _ w2 e3
  have n3:=n2 (by intro a ha;simp at ha;rcases ha with rfl|rfl;exact uh e1;exact uh e2)
  cases h
  exact ⟨by simp only [hz];omega,by simp only [hz];omega,fun _=>rfl,fun _=>rfl,by simpa using n1,n3,uh e5,by simp,by simp⟩
 rcases nM h with ⟨k,h⟩|h
 ·obtain ⟨nm,l1,e1,h⟩:=aC.1 h
  cases h
  exact ⟨by simp only [hz];omega,by simp only [hz];omega,fun _=>rfl,fun _=>rfl,by simp,by simp,uh e1,by simp,by simp⟩
 rcases nM h with ⟨k,h⟩|h
 ·obtain ⟨nm,l1,e1,h⟩:=aC.1 h
  obtain ⟨c,l2,e2,h⟩:=aC.1 h
  obtain ⟨b1,b2⟩:=Jz (k:=8) (wt k (by decide)) e1 e2
  cases h
  exact ⟨by simp only [hz];omega,by simp only [];omega,fun _=>rfl,fun h=>by simp [kV] at h,by simp,by simp,by simp,b1,by simp⟩
 rcases nM h with ⟨k,h⟩|h
 ·obtain ⟨a,l1,e1,h⟩:=aC.1 h
  obtain ⟨q,l2,e2,h⟩:=aC.1 h
  obtain ⟨b,l3,e3,h⟩:=aC.1 h
  cases h
  exact ⟨by simp only [hz];omega,by simp only [hz];omega,fun _=>rfl,fun _=>rfl,by simp,by simp,uh e2,uh e1,uh e3⟩
 ·obtain ⟨c,l1,e1,h⟩:=aC.1 h
  have w1:=(pK (mM hw) e1).1
  have h1:=L9 hw e1
  have side:∀{w:List UInt8} {k:Int} {r:List Tok} {x:Ax},w≠[]→txt l1=w→(k=1∨k=2∨k=3)→Ib k c l1.tail=.ok x r→x.Parsed (tw l):=by
   intro w k r x hn e hk h
   have w2:WT l1.tail:=by obtain ⟨t,q,rfl,_,h⟩:=w1.tl (.inl (by rw [e];exact hn));exact h
   obtain ⟨d,l2,e2,h⟩:=aC.1 h
   have h2:=L9 w2 e2
   have h3:=Ul l1
   cases h
   refine ⟨by simp only [];omega,by simp only [];omega,fun h=>?_,fun h=>?_,by simp,by simp,by simp,by simp,by simp⟩<;>rcases hk with rfl|rfl|rfl<;>simp [kV] at h
  rcases nM h with ⟨k,h⟩|h
  ·exact side (by decide) k (.inl rfl) h
  rcases nM h with ⟨k,h⟩|h
  ·exact side (by decide) k (.inr (.inl rfl)) h
  rcases nM h with ⟨k,h⟩|h
  ·exact side (by decide) k (.inr (.inr rfl)) h
  ·cases h
theorem JA {l r:List Tok} {x:Ax} (hw:WT l) (h:wz l=.ok x r):x.Parsed (tw l):=by
 have wt:∀{w:List UInt8},txt l=w→w≠[]→WT l.tail:=fun {w} e hn=>by obtain ⟨t,q,rfl,_,h⟩:=hw.tl (.inl (by rw [e];exact hn));exact h
 have st:∀{o p:Bool} {l:List Tok},WT l→pSt o p l=.ok x r→x.Parsed (tw l):=by
  intro o p l hw h
  obtain ⟨y,l1,e1,h⟩:=aC.1 h
  have:=WC hw e1
  cases h
  exact ⟨this.l,this.r,this.ul,this.ur,this.roles,this.rs,this.role,this.a,this.b⟩
 have ht:=Ul l
 rcases nM h with ⟨k,h⟩|h
 ·exact (st (wt k (by decide)) h).mono ht
 rcases nM h with ⟨k,h⟩|h
 ·exact (st (wt k (by decide)) h).mono ht
 ·exact st hw h
theorem Ax.Parsed.mid {x:Ax} {w:Nat} (h:x.Parsed w) (hw:w≤99999):x.Mid:=⟨by have:=h.l;omega,by have:=h.r;omega,by have:=h.roles;omega,by have:=h.a;omega,by have:=h.b;omega⟩
end Go.Ai.Z
namespace Go.Ai.Z
theorem Qd:∀(n:Nat) (acc:List (List UInt8)) {l r:List Tok} {v:List (List UInt8)},tC n acc l=.ok v r→∃q,v=acc++q
 | 0,acc,l,r,v,h=>by cases h;exact ⟨[],by simp⟩
 | n+1,acc,l,r,v,h=>by
  unfold tC at h
  split at h
  ·obtain ⟨nm,l1,e1,h⟩:=aC.1 h
   obtain ⟨q,hq⟩:=Qd n _ h
   exact ⟨nm::q,by rw [hq];simp⟩
  ·cases h;exact ⟨[],by simp⟩
theorem Z5 {a b:List UInt8} {n:Nat} {l r:List Tok} {v:List (List UInt8)} (h:tC n [a,b] l=.ok v r):∃q,v=a::b::q:=by
 obtain ⟨q,hq⟩:=Qd n _ h
 exact ⟨q,by rw [hq];rfl⟩
section
variable {T:List Tok} {m:AV} {S:Nat→St} {l N:Nat} (hE:AP T m S l N)
include hE
theorem aa8 {r:List Tok} (s0:Suf T r) (cx:Ctx) (hl:cx.lim≤l):ah P0 (.fn (.func iR) [.pt l 0] []) [] (S (idx T r)) cx=Ans gG T S (Gx r):=by
 have hN:=hE.n
 refine CS (zh _ _ _ _) ?_
 unfold Gx
 have e0:=wu hE s0 ⟨cx.lim,N⟩ hl
 cases hp0:iC r with
 | er a c l0=>
  rw [hp0] at e0
  simp only [iY] at e0
  simp [af,jl,hN,e0,hp0,dZ,splice,List.range_succ]
 | ok v0 l0=>
  rw [hp0] at e0
  simp only [eF] at e0
  obtain ⟨s1,n1⟩:=s0.shorter (bF s0.w) hp0
  simp only [PR.bind_ok]
  have e1:=zL hE s1 ⟨cx.lim,N⟩ hl
  cases hp1:kG l0 with
  | er a c l1=>
   rw [hp1] at e1
   simp only [iY] at e1
   simp [af,jl,hN,e0,e1,hp1,dZ,splice,List.range_succ]
  | ok v1 l1=>
   rw [hp1] at e1
   simp only [eF] at e1
   obtain ⟨s2,n2⟩:=s1.shorter (mM s1.w) hp1
   simp only [PR.bind_ok]
   simp only [eF]
   simp [af,jl,hN,e0,e1,dZ,splice,List.range_succ]
   try rfl
theorem aa6 {r:List Tok} (s0:Suf T r) (cx:Ctx) (hl:cx.lim≤l):ah P0 (.fn (.func iQ) [.pt l 0] []) [] (S (idx T r)) cx=Ans gG T S (Gw r):=by
 have hN:=hE.n
 refine CP (zh _ _ _ _) ?_
 unfold Gw
 have e0:=wu hE s0 ⟨cx.lim,N⟩ hl
 cases hp0:iC r with
 | er a c l0=>
  rw [hp0] at e0
  simp only [iY] at e0
  simp [af,ji,hN,e0,hp0,dZ,splice,List.range_succ]
 | ok v0 l0=>
  rw [hp0] at e0
  simp only [eF] at e0
  obtain ⟨s1,n1⟩:=s0.shorter (bF s0.w) hp0
  simp only [PR.bind_ok]
  have e1:=zL hE s1 ⟨cx.lim,N⟩ hl
  cases hp1:kG l0 with
  | er a c l1=>
   rw [hp1] at e1
   simp only [iY] at e1
   simp [af,ji,hN,e0,e1,hp1,dZ,splice,List.range_succ]
  | ok v1 l1=>
   rw [hp1] at e1
   simp only [eF] at e1
   obtain ⟨s2,n2⟩:=s1.shorter (mM s1.w) hp1
   simp only [PR.bind_ok]
   simp only [eF]
   simp [af,ji,hN,e0,e1,dZ,splice,List.range_succ]
   try rfl
theorem aey {r:List Tok} (s0:Suf T r) (cx:Ctx) (hl:cx.lim≤l):ah P0 (.fn (.func gJ) [.pt l 0] []) [] (S (idx T r)) cx=Ans gG T S (S9 r):=by
 have hN:=hE.n
 refine Am (zh _ _ _ _) ?_
 unfold S9
 have e0:=wu hE s0 ⟨cx.lim,N⟩ hl
 cases hp0:iC r with
 | er a c l0=>
  rw [hp0] at e0
  simp only [iY] at e0
  simp [af,jm,hN,e0,hp0,dZ,splice,List.range_succ]
 | ok v0 l0=>
  rw [hp0] at e0
  simp only [eF] at e0
  obtain ⟨s1,n1⟩:=s0.shorter (bF s0.w) hp0
  simp only [PR.bind_ok]
  simp only [eF]
  simp [af,jm,hN,e0,dZ,splice,List.range_succ]
  try rfl
theorem aez {r:List Tok} (s0:Suf T r) (cx:Ctx) (hl:cx.lim≤l):ah P0 (.fn (.func jr) [.pt l 0] []) [] (S (idx T r)) cx=Ans gG T S (Td r):=by
 have hN:=hE.n
 refine EM (zh _ _ _ _) ?_
 unfold Td
 have e0:=wu hE s0 ⟨cx.lim,N⟩ hl
 cases hp0:iC r with
 | er a c l0=>
  rw [hp0] at e0
  simp only [iY] at e0
  simp [af,jc,hN,e0,hp0,dZ,splice,List.range_succ]
 | ok v0 l0=>
  rw [hp0] at e0
  simp only [eF] at e0
  obtain ⟨s1,n1⟩:=s0.shorter (bF s0.w) hp0
  simp only [PR.bind_ok]
  have e1:=wu hE s1 ⟨cx.lim,N⟩ hl
  cases hp1:iC l0 with
  | er a c l1=>
   rw [hp1] at e1
   simp only [iY] at e1
   simp [af,jc,hN,e0,e1,hp1,dZ,splice,List.range_succ]
  | ok v1 l1=>
   rw [hp1] at e1
   simp only [eF] at e1
   obtain ⟨s2,n2⟩:=s1.shorter (bF s1.w) hp1
   simp only [PR.bind_ok]
   have e2:=wu hE s2 ⟨cx.lim,N⟩ hl
   cases hp2:iC l1 with
   | er a c l2=>
    rw [hp2] at e2
    simp only [iY] at e2
    simp [af,jc,hN,e0,e1,e2,hp2,dZ,splice,List.range_succ]
   | ok v2 l2=>
    rw [hp2] at e2
    simp only [eF] at e2
    obtain ⟨s3,n3⟩:=s2.shorter (bF s2.w) hp2
    simp only [PR.bind_ok]
    simp only [eF]
    simp [af,jc,hN,e0,e1,e2,dZ,splice,List.range_succ]
    try rfl
theorem aex {r:List Tok} (s0:Suf T r) (cx:Ctx) (hl:cx.lim≤l):ah P0 (.fn (.func jq) [.pt l 0] []) [] (S (idx T r)) cx=Ans gG T S (SY r):=by
 have hN:=hE.n
 refine EL (zh _ _ _ _) ?_
 unfold SY
 have e0:=wu hE s0 ⟨cx.lim,N⟩ hl
 cases hp0:iC r with
 | er a c l0=>
  rw [hp0] at e0
  simp only [iY] at e0
  simp [af,ja,hN,e0,hp0,dZ,splice,List.range_succ]
 | ok v0 l0=>
  rw [hp0] at e0
  simp only [eF] at e0
  obtain ⟨s1,n1⟩:=s0.shorter (bF s0.w) hp0
  simp only [PR.bind_ok]
  have e1:=KO hE s1 (w:=G5) (by decide) ⟨cx.lim,N⟩ hl
  cases hp1:kT G5 l0 with
  | er a c l1=>
   rw [hp1] at e1
   simp only [iY,G5] at e1
   simp [af,ja,hN,e0,e1,hp1,dZ,splice,List.range_succ]
  | ok v1 l1=>
   rw [hp1] at e1
   simp only [eF,G5] at e1
   obtain ⟨s2,n2⟩:=s1.shorter (oD (w:=G5) (by decide) s1.w) hp1
   simp only [PR.bind_ok]
   have e2:=wu hE s2 ⟨cx.lim,N⟩ hl
   cases hp2:iC l1 with
   | er a c l2=>
    rw [hp2] at e2
    simp only [iY] at e2
    simp [af,ja,hN,e0,e1,e2,hp2,dZ,splice,List.range_succ]
   | ok v2 l2=>
    rw [hp2] at e2
    simp only [eF] at e2
    obtain ⟨s3,n3⟩:=s2.shorter (bF s2.w) hp2
    simp only [PR.bind_ok]
    simp only [eF]
    simp [af,ja,hN,e0,e1,e2,dZ,splice,List.range_succ]
    try rfl
theorem YT (lim:Nat) (hl:lim≤l):∀(n:Nat) (acc:List (List UInt8)) {r:List Tok},Suf T r→acc.length+n=4→
  (∃v r',tC n acc r=.ok v r'∧fH (aB P0.glob (ah P0) ⟨lim,N⟩ false fC) [0,2,3] [(0,.v (.pt l 0)),(2,.bx jR),(3,.own false uF 1 (acc.map AV.s))] (S (idx T r))=
   .exit 0 [(0,.v (.pt l 0)),(2,.bx jR),(3,.own false uF 1 (v.map AV.s)),(15,.v (.b false))] (S (idx T r')))∨
  ∃a e r',tC n acc r=.er a e r'∧fH (aB P0.glob (ah P0) ⟨lim,N⟩ false fC) [0,2,3] [(0,.v (.pt l 0)),(2,.bx jR),(3,.own false uF 1 (acc.map AV.s))] (S (idx T r))=
   .pan (flt a e) (S (idx T r'))
 | 0,acc,r,h,hlen=>by
  refine .inl ⟨acc,r,rfl,ak fun K hK=>?_⟩
  have h4:¬(acc.length:Int)<4:=by omega
  simp [fC,jR,h4]
 | n+1,acc,r,h,hlen=>by
  have e1:=VP hE h
  have h4:(acc.length:Int)<4:=by omega
  unfold tC
  by_cases hk:(hT r).1=1∧kwS (txt r)=false
  ·rw [if_pos hk]
   have hk':(decide ((hT r).1=1) && !kwS (txt r))=true:=by simp [hk]
   rw [hk'] at e1
   have e2:=wu hE h ⟨lim,N⟩ hl
   cases hp:iC r with
   | er a c l1=>
    rw [hp] at e2
    simp only [iY] at e2
    refine .inr ⟨a,c,l1,rfl,ak fun K hK=>?_⟩
    clear hK
    simp [fC,jR,e1,e2,h4]
   | ok v l1=>
    rw [hp] at e2
    simp only [eF] at e2
    obtain ⟨s2,n2⟩:=h.shorter (bF h.w) hp
    have hm:acc.length+1≤fE:=by unfold fE;omega
    simp only [PR.bind_ok]
    rcases YT lim hl n (acc++[v]) s2 (by simp;omega) with ⟨u,r',g1,g2⟩|⟨a,e,r',g1,g2⟩
    ·refine .inl ⟨u,r',g1,ak fun K hK=>?_⟩
     rw [←hK] at g2
     clear hK
     generalize hW:u.map AV.s=W at g2 ⊢
     simp [jR] at g2
     simp [fC,jR,e1,e2,h4,hm,List.range_succ]
     exact g2
    ·refine .inr ⟨a,e,r',g1,ak fun K hK=>?_⟩
     rw [←hK] at g2
     clear hK
     simp [jR] at g2
     simp [fC,jR,e1,e2,h4,hm,List.range_succ]
     exact g2
  ·rw [if_neg hk]
   have hk':(decide ((hT r).1=1) && !kwS (txt r))=false:=by
    cases hd:(decide ((hT r).1=1) && !kwS (txt r)) with
    | false=>rfl
    | true=>
     simp only [Bool.and_eq_true,decide_eq_true_eq,Bool.not_eq_true'] at hd
     exact absurd hd hk
   rw [hk'] at e1
   refine .inl ⟨acc,r,rfl,ak fun K hK=>?_⟩
   simp [fC,jR,e1,h4]
theorem ac9 {r:List Tok} (s0:Suf T r) (cx:Ctx) (hl:cx.lim≤l):ah P0 (.fn (.func je) [.pt l 0] []) [] (S (idx T r)) cx=Ans gG T S (La r):=by
 have hN:=hE.n
 refine DV (zh _ _ _ _) ?_
 unfold La
 have e0:=wu hE s0 ⟨cx.lim,N⟩ hl
 cases hp0:iC r with
 | er a c l0=>
  rw [hp0] at e0
  simp only [iY] at e0
  simp [af,fM,hN,e0,dZ,splice]
 | ok v0 l0=>
  rw [hp0] at e0
  simp only [eF] at e0
  obtain ⟨s1,n1⟩:=s0.shorter (bF s0.w) hp0
  simp only [PR.bind_ok]
  have e1:=wu hE s1 ⟨cx.lim,N⟩ hl
  cases hp1:iC l0 with
  | er a c l1=>
   rw [hp1] at e1
   simp only [iY] at e1
   simp [af,fM,hN,e0,e1,dZ,splice]
  | ok v1 l1=>
   rw [hp1] at e1
   simp only [eF] at e1
   obtain ⟨s2,n2⟩:=s1.shorter (bF s1.w) hp1
   simp only [PR.bind_ok]
   rcases YT hE cx.lim hl 2 [v0,v1] s2 rfl with ⟨rs,l2,g1,e2⟩|⟨a,c,l2,g1,e2⟩
   ·rw [g1]
    simp only [PR.bind_ok]
    have s3:Suf T l2:=s2.ok (I9 2 [v0,v1] s2.w) g1
    obtain ⟨rq,hrs⟩:∃rq,rs=v0::v1::rq:=Z5 g1
    have e3:=KO hE s3 (w:=G5) (by decide) ⟨cx.lim,N⟩ hl
    simp [jR] at e2
    cases hp3:kT G5 l2 with
    | er a c l3=>
     rw [hp3] at e3
     simp only [iY,G5] at e3
     simp [af,fM,hN,e0,e1,e2,e3,dZ,splice,List.range_succ]
    | ok v3 l3=>
     rw [hp3] at e3
     simp only [eF,G5] at e3
     obtain ⟨s4,n4⟩:=s3.shorter (oD (w:=G5) (by decide) s3.w) hp3
     simp only [PR.bind_ok]
     have e4:=wu hE s4 ⟨cx.lim,N⟩ hl
     cases hp4:iC l3 with
     | er a c l4=>
      rw [hp4] at e4
      simp only [iY] at e4
      simp [af,fM,hN,e0,e1,e2,e3,e4,dZ,splice,List.range_succ]
     | ok v4 l4=>
      rw [hp4] at e4
      simp only [eF] at e4
      simp only [PR.bind_ok,eF]
      subst hrs
      simp at e2
      simp [af,fM,hN,e0,e1,e2,e3,e4,dZ,splice,List.range_succ]
      try rfl
   ·rw [g1]
    simp [jR] at e2
    simp [af,fM,hN,e0,e1,e2,dZ,splice,List.range_succ]
set_option maxHeartbeats 1000000 in
theorem VO {r:List Tok} (s0:Suf T r) (cx:Ctx) (hl:cx.lim≤l):ah P0 (.fn (.func gK) [] []) [.pt l 0] (S (idx T r)) cx=Ans gG T S (WG r):=by
 have hN:=hE.n
 refine Ap (zh _ _ _ _) ?_
 unfold WG
 have e0:=zL hE s0 ⟨cx.lim,N⟩ hl
 cases hp0:kG r with
 | er a c l0=>
  rw [hp0] at e0
  simp only [iY] at e0
  simp [af,bJ,hN,e0,dZ,splice]
 | ok v0 l0=>
  rw [hp0] at e0
  simp only [eF] at e0
  obtain ⟨s1,n1⟩:=s0.shorter (mM s0.w) hp0
  simp only [PR.bind_ok]
  by_cases h0:txt l0=G5
  ·have q:=kY hE s1 h0 (by decide) ⟨cx.lim,N⟩ hl
   simp only [G5] at q
   obtain ⟨t1,m1⟩:=s1.tl h0 (by decide)
   rw [ifw,if_pos h0,Ib]
   have e1:=zL hE t1 ⟨cx.lim,N⟩ hl
   cases hp1:kG l0.tail with
   | er a c l1=>
    rw [hp1] at e1
    simp only [iY] at e1
    simp [af,bJ,hN,e0,q,e1,dZ,splice]
   | ok v1 l1=>
    rw [hp1] at e1
    simp only [eF] at e1
    simp only [PR.bind_ok,eF]
    simp [af,bJ,hN,e0,q,e1,dZ,splice]
    try rfl
  rw [ifw,if_neg h0]
  have q0:=lT hE s1 h0
  simp only [G5] at q0
  by_cases h1:txt l0=Y0
  ·have q:=kY hE s1 h1 (by decide) ⟨cx.lim,N⟩ hl
   simp only [Y0] at q
   obtain ⟨t1,m1⟩:=s1.tl h1 (by decide)
   rw [ifw,if_pos h1,Ib]
   have e1:=zL hE t1 ⟨cx.lim,N⟩ hl
   cases hp1:kG l0.tail with
   | er a c l1=>
    rw [hp1] at e1
    simp only [iY] at e1
    simp [af,bJ,hN,e0,q0,q,e1,dZ,splice]
   | ok v1 l1=>
    rw [hp1] at e1
    simp only [eF] at e1
    simp only [PR.bind_ok,eF]
    simp [af,bJ,hN,e0,q0,q,e1,dZ,splice]
    try rfl
  rw [ifw,if_neg h1]
  have q1:=lT hE s1 h1
  simp only [Y0] at q1
  by_cases h2:txt l0=Zq
  ·have q:=kY hE s1 h2 (by decide) ⟨cx.lim,N⟩ hl
   simp only [Zq] at q
   obtain ⟨t1,m1⟩:=s1.tl h2 (by decide)
   rw [ifw,if_pos h2,Ib]
   have e1:=zL hE t1 ⟨cx.lim,N⟩ hl
   cases hp1:kG l0.tail with
   | er a c l1=>
    rw [hp1] at e1
    simp only [iY] at e1
    simp [af,bJ,hN,e0,q0,q1,q,e1,dZ,splice]
   | ok v1 l1=>
    rw [hp1] at e1
    simp only [eF] at e1
    simp only [PR.bind_ok,eF]
    simp [af,bJ,hN,e0,q0,q1,q,e1,dZ,splice]
    try rfl
  rw [ifw,if_neg h2]
  have q2:=lT hE s1 h2
  simp only [Zq] at q2
  have e1:=Iz hE s1 30
  rw [aef]
  simp [af,bJ,hN,e0,q0,q1,q2,e1,dZ,splice]
end
theorem ZK {l r:List Tok} {x:Ax} (h:WG l=.ok x r):x.kind=1∨x.kind=2∨x.kind=3:=by
 obtain ⟨c,l1,e1,h⟩:=aC.1 h
 rcases nM h with ⟨k,h⟩|h
 ·obtain ⟨d,l2,e2,h⟩:=aC.1 h;cases h;exact .inl rfl
 rcases nM h with ⟨k,h⟩|h
 ·obtain ⟨d,l2,e2,h⟩:=aC.1 h;cases h;exact .inr (.inl rfl)
 rcases nM h with ⟨k,h⟩|h
 ·obtain ⟨d,l2,e2,h⟩:=aC.1 h;cases h;exact .inr (.inr rfl)
 ·cases h
section
variable {T:List Tok} {l:Nat} {S:Nat→St} {N:Nat}
variable (hE:AP T (wB l) S l N)
include hE
set_option maxHeartbeats 4000000 in
theorem Sv {i i2:Nat} {bo bp:Bool} (cx:Ctx) (hl:cx.lim≤l) {i1:Nat}
  (e1:ah P0 (.fn (.func aF) [] []) [.pt l 0,.s JC] (S i) ⟨cx.lim,N⟩=.ret (.b bo) (S i1))
  (e2:bo=false→ah P0 (.fn (.func aF) [] []) [.pt l 0,.s Jy] (S i1) ⟨cx.lim,N⟩=.ret (.b bp) (S i2)) (e2':bo=true→i2=i1∧bp=false)
  {w:List UInt8} {f:Nat} {kd:Int} (hw:ajA w f kd) {a:Nat} {k0:Int} (ht:T[i2]?=some (k0,w,a)) {x:PR Ax} (hx:∀y r,x=.ok y r→y.kind=kd)
  (e3:ah P0 (.fn (.func f) [.pt l 0] []) [] (S (i2+1)) ⟨cx.lim,N⟩=Ans gG T S x):
  ah P0 (.fn (.func fA) [] []) [.pt l 0] (S i) cx=Ans gG T S (x.bind fun y r=>.ok (Wh bo bp y) r):=by
 have e4:=D6 T hE.len i2 _ (S i2) l (hE.cell i2) k0 w a ht
 have h1:=hE.cell i2
 have hs:=hE.sets i2 (i2+1)
 have hN:=hE.n
 have hlt:i2<T.length:=(List.getElem?_eq_some_iff.1 ht).1
 have hlen:=hE.len
 have hwi:=wI (i:=i2) (by omega)
 simp only [JC,Jy] at e1 e2
 refine rO (zh _ _ _ _) ?_
 unfold psO wB at h1 hs
 rw [show ((i2+1:Nat):Int)=(i2:Int)+1 by omega] at hs
 cases x with
 | er a c r=>
  simp only [iY,PR.bind_er] at e3 ⊢
  cases bo with
  | true=>
   obtain ⟨rfl,rfl⟩:=e2' rfl
   clear e2 e2'
   rcases hw with ⟨rfl,rfl,k⟩|⟨rfl,rfl,k⟩|⟨rfl,rfl,k⟩|⟨rfl,rfl,k⟩|⟨rfl,rfl,k⟩|⟨rfl,rfl,k⟩
   all_goals
    simp only [QW,E8,AA,Fb,ET,FD] at e4
    simp [af,dM,hN,e1,e3,e4,h1,hs,hwi,hl,dL,find,wF,yP,splice]
  | false=>
   have e2:=e2 rfl
   clear e2'
   cases bp
   all_goals
   rcases hw with ⟨rfl,rfl,k⟩|⟨rfl,rfl,k⟩|⟨rfl,rfl,k⟩|⟨rfl,rfl,k⟩|⟨rfl,rfl,k⟩|⟨rfl,rfl,k⟩
   all_goals
    simp only [QW,E8,AA,Fb,ET,FD] at e4
    simp [af,dM,hN,e1,e2,e3,e4,h1,hs,hwi,hl,dL,find,wF,yP,splice]
 | ok y r=>
  have hk:=hx y r rfl
  simp only [eF,PR.bind_ok,Wh] at e3 ⊢
  cases bo with
  | true=>
   obtain ⟨rfl,rfl⟩:=e2' rfl
   clear e2 e2'
   rcases hw with ⟨rfl,rfl,rfl⟩|⟨rfl,rfl,rfl⟩|⟨rfl,rfl,rfl⟩|⟨rfl,rfl,rfl⟩|⟨rfl,rfl,rfl⟩|⟨rfl,rfl,rfl⟩
   all_goals
    have d5:=dk 5 hk
    have d6:=dk 6 hk
    have d7:=dk 7 hk
    simp only [pk 5 hk,pk 6 hk,pk 7 hk]
    simp only [QW,E8,AA,Fb,ET,FD] at e4
    simp [af,dM,hN,e1,e3,e4,h1,hs,hwi,hl,dL,find,wF,yP,d5,d6,d7,splice]
    try rfl
  | false=>
   have e2:=e2 rfl
   clear e2'
   cases bp
   all_goals
   rcases hw with ⟨rfl,rfl,rfl⟩|⟨rfl,rfl,rfl⟩|⟨rfl,rfl,rfl⟩|⟨rfl,rfl,rfl⟩|⟨rfl,rfl,rfl⟩|⟨rfl,rfl,rfl⟩
   all_goals
    have d5:=dk 5 hk
    have d6:=dk 6 hk
    have d7:=dk 7 hk
    simp only [pk 5 hk,pk 6 hk,pk 7 hk]
    simp only [QW,E8,AA,Fb,ET,FD] at e4
    simp [af,dM,hN,e1,e2,e3,e4,h1,hs,hwi,hl,dL,find,wF,yP,d5,d6,d7,splice]
    try rfl
theorem aeB {i i1 i2:Nat} {bo bp:Bool} (cx:Ctx) (hl:cx.lim≤l)
  (e1:ah P0 (.fn (.func aF) [] []) [.pt l 0,.s JC] (S i) ⟨cx.lim,N⟩=.ret (.b bo) (S i1))
  (e2:bo=false→ah P0 (.fn (.func aF) [] []) [.pt l 0,.s Jy] (S i1) ⟨cx.lim,N⟩=.ret (.b bp) (S i2)) (e2':bo=true→i2=i1∧bp=false)
  {k:Int} {t:List UInt8} {a:Nat} (ht:T[i2]?=some (k,t,a)) (hn:t ∉ acT) {x:PR Ax} (hx:∀y r,x=.ok y r→y.kind=1∨y.kind=2∨y.kind=3)
  (e3:ah P0 (.fn (.func gK) [] []) [.pt l 0] (S i2) ⟨cx.lim,N⟩=Ans gG T S x):
  ah P0 (.fn (.func fA) [] []) [.pt l 0] (S i) cx=Ans gG T S (x.bind fun y r=>.ok (Wh bo bp y) r):=by
 cases x with
 | ok y r=>
  have hk:=hx y r rfl
  have h:=WE hE y hk cx hl e1 e2 e2' ht hn e3
  simp only [PR.bind_ok,eF,Wh]
  rw [if_neg (by omega)]
  exact h
 | er a c r=>
  have e4:=D6 T hE.len i2 _ (S i2) l (hE.cell i2) k t _ ht
  have h1:=hE.cell i2
  have hN:=hE.n
  simp [acT,QW,E8,AA,Fb,ET,FD] at hn
  obtain ⟨n1,n2,n3,n4,n5,n6⟩:=hn
  simp only [JC,Jy] at e1 e2
  simp only [iY,PR.bind_er] at e3 ⊢
  refine rO (by simp) ?_
  unfold psO wB at h1
  cases bo with
  | false=>
   have e2:=e2 rfl
   cases bp<;>simp [af,dM,hN,e1,e2,e3,e4,h1,dL,find,wF,yP,n1,n2,n3,n4,n5,n6,splice]
  | true=>
   obtain ⟨rfl,rfl⟩:=e2' rfl
   simp [af,dM,hN,e1,e3,e4,h1,dL,find,wF,yP,n1,n2,n3,n4,n5,n6,splice]
theorem XK {i i1:Nat} {bo bp:Bool} (cx:Ctx) (hl:cx.lim≤l) {r:List Tok} (h:Suf T r)
  (e1:ah P0 (.fn (.func aF) [] []) [.pt l 0,.s JC] (S i) ⟨cx.lim,N⟩=.ret (.b bo) (S i1))
  (e2:bo=false→ah P0 (.fn (.func aF) [] []) [.pt l 0,.s Jy] (S i1) ⟨cx.lim,N⟩=.ret (.b bp) (S (idx T r))) (e2':bo=true→idx T r=i1∧bp=false):
  ah P0 (.fn (.func fA) [] []) [.pt l 0] (S i) cx=Ans gG T S (pSt bo bp r):=by
 have hg:=h.get
 obtain ⟨t,ht⟩:∃t,t=hT r:=⟨_,rfl⟩
 rw [←ht] at hg
 obtain ⟨k0,w0,a0⟩:=t
 have htx:txt r=w0:=by unfold txt;rw [←ht]
 unfold pSt
 by_cases h0:txt r=QW
 ·have hx:wU r=Gx r.tail:=by unfold wU;rw [ifw,if_pos h0]
  have htl:=h.tail (.inl (by rw [h0];decide))
  have e3:=aa8 hE htl.1 ⟨cx.lim,N⟩ hl
  rw [htl.2] at e3
  have hw:w0=QW:=htx.symm.trans h0
  subst hw
  rw [hx]
  refine Sv hE cx hl e1 e2 e2' (.inl ⟨rfl,rfl,rfl⟩) hg (fun y q hy=>?_) e3
  ·unfold Gx at hy
   obtain ⟨u0,q0,g0,hy⟩:=aC.1 hy
   obtain ⟨u1,q1,g1,hy⟩:=aC.1 hy
   cases hy;rfl
 by_cases h1:txt r=E8
 ·have hx:wU r=SY r.tail:=by unfold wU;rw [ifw,if_neg h0,ifw,if_pos h1]
  have htl:=h.tail (.inl (by rw [h1];decide))
  have e3:=aex hE htl.1 ⟨cx.lim,N⟩ hl
  rw [htl.2] at e3
  have hw:w0=E8:=htx.symm.trans h1
  subst hw
  rw [hx]
  refine Sv hE cx hl e1 e2 e2' (.inr (.inl ⟨rfl,rfl,rfl⟩)) hg (fun y q hy=>?_) e3
  ·unfold SY at hy
   obtain ⟨u0,q0,g0,hy⟩:=aC.1 hy
   obtain ⟨u1,q1,g1,hy⟩:=aC.1 hy
   obtain ⟨u2,q2,g2,hy⟩:=aC.1 hy
   cases hy;rfl
 by_cases h2:txt r=AA
 ·have hx:wU r=La r.tail:=by unfold wU;rw [ifw,if_neg h0,ifw,if_neg h1,ifw,if_pos h2]
  have htl:=h.tail (.inl (by rw [h2];decide))
  have e3:=ac9 hE htl.1 ⟨cx.lim,N⟩ hl
  rw [htl.2] at e3
  have hw:w0=AA:=htx.symm.trans h2
  subst hw
  rw [hx]
  refine Sv hE cx hl e1 e2 e2' (.inr (.inr (.inl ⟨rfl,rfl,rfl⟩))) hg (fun y q hy=>?_) e3
  ·unfold La at hy
   obtain ⟨u0,q0,g0,hy⟩:=aC.1 hy
   obtain ⟨u1,q1,g1,hy⟩:=aC.1 hy
   obtain ⟨u2,q2,g2,hy⟩:=aC.1 hy
   obtain ⟨u3,q3,g3,hy⟩:=aC.1 hy
   obtain ⟨u4,q4,g4,hy⟩:=aC.1 hy
   cases hy;rfl
 by_cases h3:txt r=Fb
 ·have hx:wU r=S9 r.tail:=by unfold wU;rw [ifw,if_neg h0,ifw,if_neg h1,ifw,if_neg h2,ifw,if_pos h3]
  have htl:=h.tail (.inl (by rw [h3];decide))
  have e3:=aey hE htl.1 ⟨cx.lim,N⟩ hl
  rw [htl.2] at e3
  have hw:w0=Fb:=htx.symm.trans h3
  subst hw
  rw [hx]
  refine Sv hE cx hl e1 e2 e2' (.inr (.inr (.inr (.inl ⟨rfl,rfl,rfl⟩)))) hg (fun y q hy=>?_) e3
  ·unfold S9 at hy
   obtain ⟨u0,q0,g0,hy⟩:=aC.1 hy
   cases hy;rfl
 by_cases h4:txt r=ET
 ·have hx:wU r=Gw r.tail:=by unfold wU;rw [ifw,if_neg h0,ifw,if_neg h1,ifw,if_neg h2,ifw,if_neg h3,ifw,if_pos h4]
  have htl:=h.tail (.inl (by rw [h4];decide))
  have e3:=aa6 hE htl.1 ⟨cx.lim,N⟩ hl
  rw [htl.2] at e3
  have hw:w0=ET:=htx.symm.trans h4
  subst hw
  rw [hx]
  refine Sv hE cx hl e1 e2 e2' (.inr (.inr (.inr (.inr (.inl ⟨rfl,rfl,rfl⟩))))) hg (fun y q hy=>?_) e3
  ·unfold Gw at hy
   obtain ⟨u0,q0,g0,hy⟩:=aC.1 hy
   obtain ⟨u1,q1,g1,hy⟩:=aC.1 hy
   cases hy;rfl
 by_cases h5:txt r=FD
 ·have hx:wU r=Td r.tail:=by unfold wU;rw [ifw,if_neg h0,ifw,if_neg h1,ifw,if_neg h2,ifw,if_neg h3,ifw,if_neg h4,ifw,if_pos h5]
  have htl:=h.tail (.inl (by rw [h5];decide))
  have e3:=aez hE htl.1 ⟨cx.lim,N⟩ hl
  rw [htl.2] at e3
  have hw:w0=FD:=htx.symm.trans h5
  subst hw
  rw [hx]
  refine Sv hE cx hl e1 e2 e2' (.inr (.inr (.inr (.inr (.inr (⟨rfl,rfl,rfl⟩)))))) hg (fun y q hy=>?_) e3
  ·unfold Td at hy
   obtain ⟨u0,q0,g0,hy⟩:=aC.1 hy
   obtain ⟨u1,q1,g1,hy⟩:=aC.1 hy
   obtain ⟨u2,q2,g2,hy⟩:=aC.1 hy
   cases hy;rfl
 have hx:wU r=WG r:=by unfold wU;rw [ifw,if_neg h0,ifw,if_neg h1,ifw,if_neg h2,ifw,if_neg h3,ifw,if_neg h4,ifw,if_neg h5]
 rw [hx]
 refine aeB hE cx hl e1 e2 e2' hg ?_ (fun y q hy=>ZK hy) (VO hE h ⟨cx.lim,N⟩ hl)
 rw [←htx]
 simp [acT,h0,h1,h2,h3,h4,h5]
theorem Uh {r:List Tok} (h:Suf T r) (cx:Ctx) (hl:cx.lim≤l):ah P0 (.fn (.func fA) [] []) [.pt l 0] (S (idx T r)) cx=Ans gG T S (wz r):=by
 unfold wz ifw
 by_cases h1:txt r=JC
 ·have htl:=h.tail (.inl (by rw [h1];decide))
  rw [if_pos h1]
  exact XK hE cx hl htl.1 (kY hE h h1 (by decide) ⟨cx.lim,N⟩ hl) (fun hh=>by cases hh) (fun _=>⟨rfl,rfl⟩)
 rw [if_neg h1]
 by_cases h2:txt r=Jy
 ·have htl:=h.tail (.inl (by rw [h2];decide))
  rw [if_pos h2]
  exact XK hE cx hl htl.1 (lT hE h h1 ⟨cx.lim,N⟩) (fun _=>kY hE h h2 (by decide) ⟨cx.lim,N⟩ hl) (fun hh=>by cases hh)
 rw [if_neg h2]
 exact XK hE cx hl h (lT hE h h1 ⟨cx.lim,N⟩) (fun _=>lT hE h h2 ⟨cx.lim,N⟩) (fun hh=>by cases hh)
end
end Go.Ai.Z
