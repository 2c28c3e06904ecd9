/-
 The plain parser of axioms.
-/
import Derived.Test.YtpnlnnfcaeednaaGreatDoorAiY9Y10Y11
import Derived.Test.YtpnlnnfcaeednaaGreatDoorAiU1U2U3U4
set_option maxRecDepth 100000
set_option linter.unusedSimpArgs false
set_option linter.unusedVariables false
set_option linter.unusedSectionVars false
namespace Go.Ai.Z
def GH (l:List Tok):PR Ax:=(ig l).bind fun r l1=>(kJ l1).bind fun c l2=>.ok ⟨4,false,zC,c,true,[],r,[],[]⟩ l2
def Gz (l:List Tok):PR Ax:=(ig l).bind fun a l1=>(kJ l1).bind fun c l2=>.ok ⟨8,false,zC,c,true,[],[],a,[]⟩ l2
def Ua (l:List Tok):PR Ax:=(ig l).bind fun r l1=>.ok ⟨7,false,zC,zC,true,[],r,[],[]⟩ l1
def Uc (l:List Tok):PR Ax:=(ig l).bind fun a l1=>(ig l1).bind fun r l2=>(ig l2).bind fun b l3=>.ok ⟨9,false,zC,zC,true,[],r,a,b⟩ l3
def TY (l:List Tok):PR Ax:=(ig l).bind fun q l1=>(kH G9 l1).bind fun _ l2=>(ig l2).bind fun r l3=>.ok ⟨5,false,zC,zC,true,[q],r,[],[]⟩ l3
def tZ:Nat→List (List UInt8)→List Tok→PR (List (List UInt8))
 | 0,acc,l=>.ok acc l
 | n+1,acc,l=>if (hT l).1=1∧kwS (txt l)=false then (ig l).bind fun r l1=>tZ n (acc++[r]) l1 else .ok acc l
def Lr (l:List Tok):PR Ax:=(ig l).bind fun p l1=>(ig l1).bind fun q l2=>(tZ 2 [p,q] l2).bind fun rs l3=>(kH G9 l3).bind fun _ l4=>(ig l4).bind fun r l5=>.ok ⟨6,false,zC,zC,true,rs,r,[],[]⟩ l5
def ifw {α:Type} (w:List UInt8) (f g:List Tok→PR α) (l:List Tok):PR α:=if txt l=w then f l.tail else g l
def Ih (k:Int) (c:C) (l:List Tok):PR Ax:=(kJ l).bind fun d l2=>.ok ⟨k,false,c,d,true,[],[],[],[]⟩ l2
def afj {α:Type} (l:List Tok):PR α:=.er (hT l).2.2 30 l
def Xi (l:List Tok):PR Ax:=(kJ l).bind fun c l1=>ifw G9 (Ih 1 c) (ifw ZR (Ih 2 c) (ifw aar (Ih 3 c) afj)) l1
def xq:List Tok→PR Ax:=ifw RG GH (ifw Fv TY (ifw AQ Lr (ifw FB Ua (ifw Fb Gz (ifw FP Uc Xi)))))
def WS (o p:Bool) (x:Ax):Ax:={ x with op:=if x.kind=5∨x.kind=6∨x.kind=7 then !p else o }
def pSt (o p:Bool) (l:List Tok):PR Ax:=(xq l).bind fun x r=>.ok (WS o p x) r
def BG:List Tok→PR Ax:=ifw JI (pSt true false) (ifw JF (pSt false true) (pSt false false))
theorem uM {α:Type} {w:List UInt8} (hn:w≠[]) {f g:List Tok→PR α} {l:List Tok} (h:WT l) (hf:∀r,WT r→Good' r (f r)) (hg:Good' l (g l)):Good' l (ifw w f g l):=by
 unfold ifw
 split
 ·rename_i h1
  exact .tok h (.inl (by rw [h1];exact hn)) fun r hr e=>by rw [←e];exact (hf r hr).zero
 ·exact hg
theorem N7 {l:List Tok} (h:WT l):Good' l (GH l):=(bF h).bind fun _ _ _ h1=>((mP h1).bind fun _ _ _ h2=>nK _ h2).zero
theorem NW {l:List Tok} (h:WT l):Good' l (Gz l):=(bF h).bind fun _ _ _ h1=>((mP h1).bind fun _ _ _ h2=>nK _ h2).zero
theorem Ur {l:List Tok} (h:WT l):Good' l (Ua l):=(bF h).bind fun _ _ _ h1=>nK _ h1
theorem Us {l:List Tok} (h:WT l):Good' l (Uc l):=(bF h).bind fun _ _ _ h1=>((bF h1).bind fun _ _ _ h2=>((bF h2).bind fun _ _ _ h3=>nK _ h3).zero).zero
theorem Uo {l:List Tok} (h:WT l):Good' l (TY l):=(bF h).bind fun _ _ _ h1=>((oL (by decide) h1).bind fun _ _ _ h2=>((bF h2).bind fun _ _ _ h3=>nK _ h3).zero).zero
theorem Jd:∀(n:Nat) (acc:List (List UInt8)) {l:List Tok},WT l→AZ l (tZ n acc l)
 | 0,acc,l,h=>nK _ h
 | n+1,acc,l,h=>by
  unfold tZ
  split
  ·exact ((bF h).bind fun _ _ _ h1=>Jd n _ h1).zero
  ·exact nK _ h
theorem Rj {l:List Tok} (h:WT l):Good' l (Lr l):=
 (bF h).bind fun _ _ _ h1=>((bF h1).bind fun _ _ _ h2=>(Jd 2 _ h2).bind fun _ _ _ h3=>((oL (by decide) h3).bind fun _ _ _ h4=>((bF h4).bind fun _ _ _ h5=>nK _ h5).zero).zero).zero
theorem zX (k:Int) (c:C) {l:List Tok} (h:WT l):Good' l (Ih k c l):=(mP h).bind fun _ _ _ h1=>nK _ h1
theorem adx {l:List Tok} (h:WT l):Good' l (Xi l):=(mP h).bind fun c _ _ h1=>
 (uM (by decide) h1 (fun _ h=>zX 1 c h) (uM (by decide) h1 (fun _ h=>zX 2 c h) (uM (by decide) h1 (fun _ h=>zX 3 c h) (Pn _ _ h1)))).zero
theorem abe {l:List Tok} (h:WT l):Good' l (xq l):=
 uM (by decide) h (fun _ h=>N7 h) (uM (by decide) h (fun _ h=>Uo h) (uM (by decide) h (fun _ h=>Rj h) (uM (by decide) h (fun _ h=>Ur h) (uM (by decide) h (fun _ h=>NW h) (uM (by decide) h (fun _ h=>Us h) (adx h))))))
theorem VA (o p:Bool) {l:List Tok} (h:WT l):Good' l (pSt o p l):=(abe h).bind fun _ _ _ h1=>nK _ h1
theorem D9 {l:List Tok} (h:WT l):Good' l (BG l):=
 uM (by decide) h (fun _ h=>VA true false h) (uM (by decide) h (fun _ h=>VA false true h) (VA false false h))
def jw (t:Tok):Bool:=decide (t.1=4) || (decide (t.1=3) && decide (t.2.1=[46]))
def upto:List Tok→List Tk
 | []=>[]
 | t::r=>if jw t=true then [] else jZ t::upto r
def ED {α:Type} (l l':List Tok) (x x':PR α):Prop:=
 match x,x' with
 | .ok v r,.ok v' r'=>v=v'∧WT r∧WT r'∧upto r=upto r'∧l.length+r'.length=l'.length+r.length
 | .er a c r,.er a' c' r'=>c=c'∧WT r∧WT r'∧upto r=upto r'∧l.length+r'.length=l'.length+r.length∧a=(hT r).2.2∧a'=(hT r').2.2
 | _,_=>False
def zT {α:Type} (f:List Tok→PR α):Prop:=∀l l',WT l→WT l'→upto l=upto l'→ED l l' (f l) (f l')
theorem Du {l l':List Tok} (h:WT l) (h':WT l') (e:upto l=upto l'):
  (jw (hT l)=true∧jw (hT l')=true)∨∃t t' q q',l=t::q∧l'=t'::q'∧t'.1=t.1∧t'.2.1=t.2.1∧WT q∧WT q'∧upto q=upto q'∧jw t=false∧jw t'=false:=by
 cases h with
 | fin a=>
  cases h' with
  | fin b=>exact .inl ⟨rfl,rfl⟩
  | cons t q h1 h2=>
   by_cases hs:jw t=true
   ·exact .inl ⟨rfl,hs⟩
   ·rw [upto,if_pos (show jw (4,[],a)=true from rfl),upto,if_neg hs] at e;cases e
 | cons t q h1 h2=>
  cases h' with
  | fin b=>
   by_cases hs:jw t=true
   ·exact .inl ⟨hs,rfl⟩
   ·rw [upto,if_neg hs] at e;simp [upto,jw] at e
  | cons t' q' h3 h4=>
   by_cases hs:jw t=true
   ·by_cases hs':jw t'=true
    ·exact .inl ⟨hs,hs'⟩
    ·rw [upto,upto,if_pos hs,if_neg hs'] at e;cases e
   ·by_cases hs':jw t'=true
    ·rw [upto,upto,if_neg hs,if_pos hs'] at e;cases e
    ·rw [upto,upto,if_neg hs,if_neg hs',List.cons.injEq] at e
     have e1:=e.1
     simp only [jZ,Prod.mk.injEq] at e1
     exact .inr ⟨t,t',q,q',rfl,rfl,e1.1.symm,e1.2.symm,h2,h4,e.2,by simpa using hs,by simpa using hs'⟩
theorem WL {l:List Tok} (h:WT l) (hs:jw (hT l)=true) {w:List UInt8} (h1:w≠[]) (h2:w≠[46]):txt l≠w:=by
 cases h with
 | fin a=>exact fun e=>h1 e.symm
 | cons t q h3 h4=>
  have hs':jw t=true:=hs
  have hs:t.1=4∨(t.1=3∧t.2.1=[46]):=by simpa [jw] using hs'
  rcases hs with hs|hs
  ·rcases h3.k with k|k|k<;>omega
  ·rw [dL,hs.2];exact fun e=>h2 e.symm
theorem zV {l:List Tok} (hs:jw (hT l)=true):(hT l).1≠1∧(hT l).1≠2:=by
 have hs:(hT l).1=4∨((hT l).1=3∧(hT l).2.1=[46]):=by simpa [jw] using hs
 omega
theorem DL {α:Type} (c:Int):zT (fun l=>(PR.er (hT l).2.2 c l:PR α)):=fun l l' h h' e=>⟨rfl,h,h',e,by omega,rfl,rfl⟩
theorem nH {α:Type} (v:α):zT (fun l=>PR.ok v l):=fun l l' h h' e=>⟨rfl,h,h',e,by omega⟩
theorem zT.bind {α β:Type} {f:List Tok→PR α} {g:α→List Tok→PR β} (hf:zT f) (hg:∀v,zT (g v)):zT (fun l=>(f l).bind g):=by
 intro l l' h h' e
 have h1:=hf l l' h h' e
 show ED l l' ((f l).bind g) ((f l').bind g)
 cases hx:f l with
 | ok v r=>
  cases hx':f l' with
  | er a c r'=>rw [hx,hx'] at h1;exact absurd h1 (by simp [ED])
  | ok v' r'=>
   rw [hx,hx'] at h1
   obtain ⟨rfl,w1,w2,u1,u2⟩:=h1
   have h2:=hg v r r' w1 w2 u1
   simp only [PR.bind_ok]
   cases hy:g v r with
   | ok u q=>
    cases hy':g v r' with
    | er a c q'=>rw [hy,hy'] at h2;exact absurd h2 (by simp [ED])
    | ok u' q'=>rw [hy,hy'] at h2;obtain ⟨k1,k2,k3,k4,k5⟩:=h2;exact ⟨k1,k2,k3,k4,by omega⟩
   | er a c q=>
    cases hy':g v r' with
    | ok u' q'=>rw [hy,hy'] at h2;exact absurd h2 (by simp [ED])
    | er a' c' q'=>rw [hy,hy'] at h2;obtain ⟨k1,k2,k3,k4,k5,k6,k7⟩:=h2;exact ⟨k1,k2,k3,k4,by omega,k6,k7⟩
 | er a c r=>
  cases hx':f l' with
  | ok v' r'=>rw [hx,hx'] at h1;exact absurd h1 (by simp [ED])
  | er a' c' r'=>rw [hx,hx'] at h1;exact h1
theorem lg {α:Type} {w:List UInt8} (h1:w≠[]) (h2:w≠[46]) {f g:List Tok→PR α} (hf:zT f) (hg:zT g):zT (ifw w f g):=by
 intro l l' h h' e
 unfold ifw
 rcases Du h h' e with ⟨s1,s2⟩|⟨t,t',q,q',rfl,rfl,k1,k2,w1,w2,u,s1,s2⟩
 ·rw [if_neg (WL h s1 h1 h2),if_neg (WL h' s2 h1 h2)]
  exact hg l l' h h' e
 ·by_cases hc:t.2.1=w
  ·rw [if_pos (show txt (t::q)=w from hc),if_pos (show txt (t'::q')=w from k2.trans hc)]
   have h3:=hf q q' w1 w2 u
   cases hy:f q with
   | ok u r=>
    cases hy':f q' with
    | er a c r'=>rw [hy,hy'] at h3;exact absurd h3 (by simp [ED])
    | ok u' r'=>rw [hy,hy'] at h3;obtain ⟨k1,k2,k3,k4,k5⟩:=h3;show ED _ _ (f q) (f q');rw [hy,hy'];exact ⟨k1,k2,k3,k4,by simp only [List.length_cons];omega⟩
   | er a c r=>
    cases hy':f q' with
    | ok u' r'=>rw [hy,hy'] at h3;exact absurd h3 (by simp [ED])
    | er a' c' r'=>rw [hy,hy'] at h3;obtain ⟨k1,k2,k3,k4,k5,k6,k7⟩:=h3;show ED _ _ (f q) (f q');rw [hy,hy'];exact ⟨k1,k2,k3,k4,by simp only [List.length_cons];omega,k6,k7⟩
  ·rw [if_neg (show ¬txt (t::q)=w from hc),if_neg (show ¬txt (t'::q')=w from fun hh=>hc (k2.symm.trans hh))]
   exact hg _ _ h h' e
theorem Ce {w:List UInt8} (h1:w≠[]) (h2:w≠[46]):zT (kH w):=lg h1 h2 (nH ()) (DL 30)
theorem Qx (t:Tok) (q:List Tok):ig (t::q)=if t.1=1∧kwS t.2.1=false then (if lm t.2.1=true then .ok t.2.1 q else .er t.2.2 20 (t::q)) else .er t.2.2 30 (t::q):=rfl
theorem lX:zT ig:=by
 intro l l' h h' e
 rcases Du h h' e with ⟨s1,s2⟩|⟨t,t',q,q',rfl,rfl,k1,k2,w1,w2,u,s1,s2⟩
 ·unfold ig
  rw [if_neg (fun hh=>(zV s1).1 hh.1),if_neg (fun hh=>(zV s2).1 hh.1)]
  exact DL 30 l l' h h' e
 ·rw [Qx,Qx,k1,k2]
  by_cases c1:t.1=1∧kwS t.2.1=false
  ·rw [if_pos c1,if_pos c1]
   by_cases c2:lm t.2.1=true
   ·rw [if_pos c2,if_pos c2]
    exact ⟨rfl,w1,w2,u,by simp only [List.length_cons];omega⟩
   ·rw [if_neg c2,if_neg c2]
    exact ⟨rfl,h,h',e,by omega,rfl,rfl⟩
  ·rw [if_neg c1,if_neg c1]
   exact ⟨rfl,h,h',e,by omega,rfl,rfl⟩
theorem Ub (least:Int) (t:Tok) (q:List Tok):yw least (t::q)=if t.1=2 then (match Go.Lib.atoi t.2.1 with
  | some n=>if 1099511627776<n∨n<least then .er t.2.2 21 (t::q) else .ok n q
  | none=>.er t.2.2 21 (t::q))
 else .er t.2.2 30 (t::q):=rfl
theorem Xc (least:Int):zT (yw least):=by
 intro l l' h h' e
 rcases Du h h' e with ⟨s1,s2⟩|⟨t,t',q,q',rfl,rfl,k1,k2,w1,w2,u,s1,s2⟩
 ·unfold yw
  rw [if_neg (zV s1).2,if_neg (zV s2).2]
  exact DL 30 l l' h h' e
 ·rw [Ub,Ub,k1,k2]
  by_cases c1:t.1=2
  ·rw [if_pos c1,if_pos c1]
   cases Go.Lib.atoi t.2.1 with
   | none=>exact ⟨rfl,h,h',e,by omega,rfl,rfl⟩
   | some n=>
    simp only []
    by_cases c2:1099511627776<n∨n<least
    ·rw [if_pos c2,if_pos c2]
     exact ⟨rfl,h,h',e,by omega,rfl,rfl⟩
    ·rw [if_neg c2,if_neg c2]
     exact ⟨rfl,w1,w2,u,by simp only [List.length_cons];omega⟩
  ·rw [if_neg c1,if_neg c1]
   exact ⟨rfl,h,h',e,by omega,rfl,rfl⟩
theorem acR (n:Nat):gZ (n+1)=ifw evW (fun l=>.ok (.mk 1 [] 0 0 true []) l) (ifw YL (fun l=>.ok (.mk 2 [] 0 0 true []) l) (ifw [123] (fun l=>(ig l).bind fun nm l1=>(kH [125] l1).bind fun _ l2=>.ok (.mk 4 nm 0 0 true []) l2)
  (ifw P9 (fun l=>(ig l).bind fun nm l1=>(gZ n l1).bind fun c l2=>.ok (.mk 6 nm 0 0 false [c]) l2) (ifw [40] (fun l=>(uV n l).bind fun c l1=>(kH [41] l1).bind fun _ l2=>.ok c l2)
  (fun l=>(ig l).bind fun nm=>ifw inB (fun l=>(yw (-1099511627776) l).bind fun lo l2=>(kH toW l2).bind fun _ l3=>(yw lo l3).bind fun hi l4=>.ok (.mk 7 nm lo hi true []) l4) (fun l=>.ok (.mk 3 nm 0 0 true []) l)))))):=by
 funext l;rw [gZ];rfl
theorem acS (n:Nat) (cs:List C):(fun l=>jK (n+1) l cs)=ifw Jq (fun l=>(gZ n l).bind fun c l1=>jK n l1 (cs++[c])) (fun l=>.ok (Yf cs) l):=by
 funext l;rw [jK];rfl
theorem Ql:∀n:Nat,zT (gZ n)∧zT (uV n)∧∀cs,zT (fun l=>jK n l cs)
 | 0=>⟨fun l l' h h' e=>by simp only [gZ];exact DL 0 l l' h h' e,fun l l' h h' e=>by simp only [uV];exact DL 0 l l' h h' e,fun cs l l' h h' e=>by simp only [jK];exact DL 0 l l' h h' e⟩
 | n+1=>by
  obtain ⟨i1,i2,i3⟩:=Ql n
  refine ⟨?_, ?_,fun cs=>?_⟩
  ·rw [acR]
   refine lg (by decide) (by decide) (nH _) (lg (by decide) (by decide) (nH _) (lg (by decide) (by decide) ?_ (lg (by decide) (by decide) ?_ (lg (by decide) (by decide) ?_ ?_))))
   ·exact lX.bind fun nm=>(Ce (by decide) (by decide)).bind fun _=>nH _
   ·exact lX.bind fun nm=>i1.bind fun _=>nH _
   ·exact i2.bind fun c=>(Ce (by decide) (by decide)).bind fun _=>nH _
   ·exact lX.bind fun nm=>lg (by decide) (by decide) ((Xc _).bind fun lo=>(Ce (by decide) (by decide)).bind fun _=>(Xc lo).bind fun hi=>nH _) (nH _)
  ·have:uV (n+1)=fun l=>(gZ n l).bind fun c l1=>jK n l1 [c]:=by funext l;rw [uV]
   rw [this]
   exact i1.bind fun c=>i3 [c]
  ·rw [acS]
   exact lg (by decide) (by decide) (i1.bind fun c=>i3 _) (nH _)
theorem zD:zT kJ:=by
 intro l l' h h' e
 have h1:=(Ql (2 * l.length+1+(2 * l'.length+1))).2.1 l l' h h' e
 rwa [xu h (by omega),xu h' (by omega)] at h1
theorem NG (n:Nat) (acc:List (List UInt8)) (t:Tok) (q:List Tok):tZ (n+1) acc (t::q)=if t.1=1∧kwS t.2.1=false then (ig (t::q)).bind fun r l1=>tZ n (acc++[r]) l1 else .ok acc (t::q):=rfl
theorem Qm:∀(n:Nat) (acc:List (List UInt8)),zT (tZ n acc)
 | 0,acc=>nH acc
 | n+1,acc=>by
  intro l l' h h' e
  rcases Du h h' e with ⟨s1,s2⟩|⟨t,t',q,q',rfl,rfl,k1,k2,w1,w2,u,s1,s2⟩
  ·unfold tZ
   rw [if_neg (fun hh=>(zV s1).1 hh.1),if_neg (fun hh=>(zV s2).1 hh.1)]
   exact nH acc l l' h h' e
  ·rw [NG,NG,k1,k2]
   by_cases c1:t.1=1∧kwS t.2.1=false
   ·rw [if_pos c1,if_pos c1]
    exact (lX.bind fun r=>Qm n (acc++[r])) _ _ h h' e
   ·rw [if_neg c1,if_neg c1]
    exact nH acc _ _ h h' e
theorem Ll (k:Int) (c:C):zT (Ih k c):=zD.bind fun _=>nH _
theorem acJ:zT Xi:=zD.bind fun c=>lg (by decide) (by decide) (Ll 1 c) (lg (by decide) (by decide) (Ll 2 c) (lg (by decide) (by decide) (Ll 3 c) (DL 30)))
theorem aaV:zT xq:=by
 refine lg (by decide) (by decide) (lX.bind fun _=>zD.bind fun _=>nH _) (lg (by decide) (by decide) ?_ (lg (by decide) (by decide) ?_ (lg (by decide) (by decide) (lX.bind fun _=>nH _) (lg (by decide) (by decide) (lX.bind fun _=>zD.bind fun _=>nH _) (lg (by decide) (by decide) ?_ acJ)))))
 ·exact lX.bind fun _=>(Ce (by decide) (by decide)).bind fun _=>lX.bind fun _=>nH _
 ·exact lX.bind fun _=>lX.bind fun _=>(Qm 2 _).bind fun _=>(Ce (by decide) (by decide)).bind fun _=>lX.bind fun _=>nH _
 ·exact lX.bind fun _=>lX.bind fun _=>lX.bind fun _=>nH _
theorem U9 (o p:Bool):zT (pSt o p):=aaV.bind fun _=>nH _
theorem Qn:zT BG:=lg (by decide) (by decide) (U9 true false) (lg (by decide) (by decide) (U9 false true) (U9 false false))
structure Ax.Parsed (x:Ax) (w:Nat):Prop where
 l:wC x.left≤w+1
 r:wC x.right≤w+1
 ul:(iE x.kind).l=false→x.left=zC
 ur:(iE x.kind).r=false→x.right=zC
 roles:x.roles.length≤4
 rs:∀r∈x.roles,r.length≤24
 role:x.role.length≤24
 a:x.a.length≤24
 b:x.b.length≤24
theorem uF {l r:List Tok} {v:List UInt8} (h:ig l=.ok v r):v.length≤24:=by
 unfold ig at h
 split at h
 ·split at h
  ·rename_i h2
   cases h
   unfold lm at h2
   rw [Bool.and_eq_true] at h2
   simpa using h2.1
  ·cases h
 ·cases h
theorem nP {α:Type} {w:List UInt8} {f g:List Tok→PR α} {l r:List Tok} {v:α} (h:ifw w f g l=.ok v r):(txt l=w∧f l.tail=.ok v r)∨g l=.ok v r:=by
 unfold ifw at h
 split at h
 ·rename_i h1;exact .inl ⟨h1,h⟩
 ·exact .inr h
theorem Xo:∀(n:Nat) (acc:List (List UInt8)) {l r:List Tok} {v:List (List UInt8)},WT l→tZ n acc l=.ok v r→WT r∧v.length≤acc.length+n∧((∀a∈acc,a.length≤24)→∀a∈v,a.length≤24)
 | 0,acc,l,r,v,hw,h=>by cases h;exact ⟨hw,by omega,fun h=>h⟩
 | n+1,acc,l,r,v,hw,h=>by
  unfold tZ at h
  split at h
  ·obtain ⟨nm,l1,e1,h⟩:=aB.1 h
   obtain ⟨q1,q2,q3⟩:=Xo n _ (pW (bF hw) e1).1 h
   refine ⟨q1,by simp at q2;omega,fun ha=>q3 fun a h=>?_⟩
   rcases List.mem_append.1 h with h|h
   ·exact ha a h
   ·simp at h;subst h;exact uF e1
  ·cases h;exact ⟨hw,by omega,fun h=>h⟩
theorem afc:wC zC=1:=by unfold zC;rw [Gv];rfl
theorem UX (l:List Tok):tw l.tail≤tw l:=by
 cases l with
 | nil=>exact Nat.le_refl _
 | cons t q=>simp [tw]
theorem Ax.Parsed.mono {x:Ax} {v w:Nat} (h:x.Parsed v) (hv:v≤w):x.Parsed w:=⟨by have:=h.l;omega,by have:=h.r;omega,h.ul,h.ur,h.roles,h.rs,h.role,h.a,h.b⟩
theorem JG {k:Int} {l l1 l2:List Tok} {nm:List UInt8} {c:C} (hw:WT l) (e1:ig l=.ok nm l1) (e2:kJ l1=.ok c l2):nm.length≤24∧wC c≤tw l+1:=by
 have w1:=(pW (bF hw) e1).1
 have h1:=Vk hw e1
 have h2:=MQ w1 e2
 exact ⟨uF e1,by omega⟩
theorem Xg {l r:List Tok} {x:Ax} (hw:WT l) (h:xq l=.ok x r):x.Parsed (tw l):=by
 have hz:=afc
 have wt:∀{w:List UInt8},txt l=w→w≠[]→WT l.tail:=fun {w} e hn=>by obtain ⟨t,q,rfl,_,h⟩:=hw.tl (.inl (by rw [e];exact hn));exact h
 have ht:=UX l
 rcases nP h with ⟨k,h⟩|h
 ·obtain ⟨nm,l1,e1,h⟩:=aB.1 h
  obtain ⟨c,l2,e2,h⟩:=aB.1 h
  obtain ⟨b1,b2⟩:=JG (k:=4) (wt k (by decide)) e1 e2
  cases h
  exact ⟨by simp only [hz];omega,by simp only [];omega,fun _=>rfl,fun h=>by simp [iE] at h,by simp,by simp,b1,by simp,by simp⟩
 rcases nP h with ⟨k,h⟩|h
 ·obtain ⟨q,l1,e1,h⟩:=aB.1 h
  obtain ⟨u,l2,e2,h⟩:=aB.1 h
  obtain ⟨nm,l3,e3,h⟩:=aB.1 h
  cases h
  exact ⟨by simp only [hz];omega,by simp only [hz];omega,fun _=>rfl,fun _=>rfl,by simp,by simp;exact uF e1,uF e3,by simp,by simp⟩
 rcases nP h with ⟨k,h⟩|h
 ·obtain ⟨p,l1,e1,h⟩:=aB.1 h
  obtain ⟨q,l2,e2,h⟩:=aB.1 h
  obtain ⟨rs,l3,e3,h⟩:=aB.1 h
  obtain ⟨u,l4,e4,h⟩:=aB.1 h
  obtain ⟨nm,l5,e5,h⟩:=aB.1 h
  have w1:=(pW (bF (wt k (by decide))) e1).1
  have w2:=(pW (bF w1) e2).1
  obtain ⟨-,n1,n2⟩:=Xo 2 _ w2 e3
  have n3:=n2 (by intro a ha;simp at ha;rcases ha with rfl|rfl;exact uF e1;exact uF e2)
  cases h
  exact ⟨by simp only [hz];omega,by simp only [hz];omega,fun _=>rfl,fun _=>rfl,by simpa using n1,n3,uF e5,by simp,by simp⟩
 rcases nP h with ⟨k,h⟩|h
 ·obtain ⟨nm,l1,e1,h⟩:=aB.1 h
  cases h
  exact ⟨by simp only [hz];omega,by simp only [hz];omega,fun _=>rfl,fun _=>rfl,by simp,by simp,uF e1,by simp,by simp⟩
 rcases nP h with ⟨k,h⟩|h
 ·obtain ⟨nm,l1,e1,h⟩:=aB.1 h
  obtain ⟨c,l2,e2,h⟩:=aB.1 h
  obtain ⟨b1,b2⟩:=JG (k:=8) (wt k (by decide)) e1 e2
  cases h
  exact ⟨by simp only [hz];omega,by simp only [];omega,fun _=>rfl,fun h=>by simp [iE] at h,by simp,by simp,by simp,b1,by simp⟩
 rcases nP h with ⟨k,h⟩|h
 ·obtain ⟨a,l1,e1,h⟩:=aB.1 h
  obtain ⟨q,l2,e2,h⟩:=aB.1 h
  obtain ⟨b,l3,e3,h⟩:=aB.1 h
  cases h
  exact ⟨by simp only [hz];omega,by simp only [hz];omega,fun _=>rfl,fun _=>rfl,by simp,by simp,uF e2,uF e1,uF e3⟩
 ·obtain ⟨c,l1,e1,h⟩:=aB.1 h
  have w1:=(pW (mP hw) e1).1
  have h1:=MQ hw e1
  have side:∀{w:List UInt8} {k:Int} {r:List Tok} {x:Ax},w≠[]→txt l1=w→(k=1∨k=2∨k=3)→Ih k c l1.tail=.ok x r→x.Parsed (tw l):=by
   intro w k r x hn e hk h
   have w2:WT l1.tail:=by obtain ⟨t,q,rfl,_,h⟩:=w1.tl (.inl (by rw [e];exact hn));exact h
   obtain ⟨d,l2,e2,h⟩:=aB.1 h
   have h2:=MQ w2 e2
   have h3:=UX l1
   cases h
   refine ⟨by simp only [];omega,by simp only [];omega,fun h=>?_,fun h=>?_,by simp,by simp,by simp,by simp,by simp⟩<;>rcases hk with rfl|rfl|rfl<;>simp [iE] at h
  rcases nP h with ⟨k,h⟩|h
  ·exact side (by decide) k (.inl rfl) h
  rcases nP h with ⟨k,h⟩|h
  ·exact side (by decide) k (.inr (.inl rfl)) h
  rcases nP h with ⟨k,h⟩|h
  ·exact side (by decide) k (.inr (.inr rfl)) h
  ·cases h
theorem JH {l r:List Tok} {x:Ax} (hw:WT l) (h:BG l=.ok x r):x.Parsed (tw l):=by
 have wt:∀{w:List UInt8},txt l=w→w≠[]→WT l.tail:=fun {w} e hn=>by obtain ⟨t,q,rfl,_,h⟩:=hw.tl (.inl (by rw [e];exact hn));exact h
 have st:∀{o p:Bool} {l:List Tok},WT l→pSt o p l=.ok x r→x.Parsed (tw l):=by
  intro o p l hw h
  obtain ⟨y,l1,e1,h⟩:=aB.1 h
  have:=Xg hw e1
  cases h
  exact ⟨this.l,this.r,this.ul,this.ur,this.roles,this.rs,this.role,this.a,this.b⟩
 have ht:=UX l
 rcases nP h with ⟨k,h⟩|h
 ·exact (st (wt k (by decide)) h).mono ht
 rcases nP h with ⟨k,h⟩|h
 ·exact (st (wt k (by decide)) h).mono ht
 ·exact st hw h
theorem Ax.Parsed.mid {x:Ax} {w:Nat} (h:x.Parsed w) (hw:w≤99999):x.Mid:=⟨by have:=h.l;omega,by have:=h.r;omega,by have:=h.roles;omega,by have:=h.a;omega,by have:=h.b;omega⟩
end Go.Ai.Z
namespace Go.Ai.Z
theorem QD:∀(n:Nat) (acc:List (List UInt8)) {l r:List Tok} {v:List (List UInt8)},tZ n acc l=.ok v r→∃q,v=acc++q
 | 0,acc,l,r,v,h=>by cases h;exact ⟨[],by simp⟩
 | n+1,acc,l,r,v,h=>by
  unfold tZ at h
  split at h
  ·obtain ⟨nm,l1,e1,h⟩:=aB.1 h
   obtain ⟨q,hq⟩:=QD n _ h
   exact ⟨nm::q,by rw [hq];simp⟩
  ·cases h;exact ⟨[],by simp⟩
theorem aa2 {a b:List UInt8} {n:Nat} {l r:List Tok} {v:List (List UInt8)} (h:tZ n [a,b] l=.ok v r):∃q,v=a::b::q:=by
 obtain ⟨q,hq⟩:=QD n _ h
 exact ⟨q,by rw [hq];rfl⟩
section
variable {T:List Tok} {m:AV} {S:Nat→St} {l N:Nat} (hE:BN T m S l N)
include hE
theorem acd {r:List Tok} (s0:Suf T r) (cx:Ctx) (hl:cx.lim≤l):ah P0 (.fn (.func iP) [.pt l 0] []) [] (S (idx T r)) cx=Ans fO T S (GH r):=by
 have hN:=hE.n
 refine Dh (zo _ _ _ _) ?_
 unfold GH
 have e0:=wK hE s0 ⟨cx.lim,N⟩ hl
 cases hp0:ig r with
 | er a c l0=>
  rw [hp0] at e0
  simp only [jc] at e0
  simp [af,jk,hN,e0,hp0,dX,splice,List.range_succ]
 | ok v0 l0=>
  rw [hp0] at e0
  simp only [eU] at e0
  obtain ⟨s1,n1⟩:=s0.shorter (bF s0.w) hp0
  simp only [PR.bind_ok]
  have e1:=zU hE s1 ⟨cx.lim,N⟩ hl
  cases hp1:kJ l0 with
  | er a c l1=>
   rw [hp1] at e1
   simp only [jc] at e1
   simp [af,jk,hN,e0,e1,hp1,dX,splice,List.range_succ]
  | ok v1 l1=>
   rw [hp1] at e1
   simp only [eU] at e1
   obtain ⟨s2,n2⟩:=s1.shorter (mP s1.w) hp1
   simp only [PR.bind_ok]
   simp only [eU]
   simp [af,jk,hN,e0,e1,dX,splice,List.range_succ]
   try rfl
theorem ab8 {r:List Tok} (s0:Suf T r) (cx:Ctx) (hl:cx.lim≤l):ah P0 (.fn (.func iO) [.pt l 0] []) [] (S (idx T r)) cx=Ans fO T S (Gz r):=by
 have hN:=hE.n
 refine Dc (zo _ _ _ _) ?_
 unfold Gz
 have e0:=wK hE s0 ⟨cx.lim,N⟩ hl
 cases hp0:ig r with
 | er a c l0=>
  rw [hp0] at e0
  simp only [jc] at e0
  simp [af,jh,hN,e0,hp0,dX,splice,List.range_succ]
 | ok v0 l0=>
  rw [hp0] at e0
  simp only [eU] at e0
  obtain ⟨s1,n1⟩:=s0.shorter (bF s0.w) hp0
  simp only [PR.bind_ok]
  have e1:=zU hE s1 ⟨cx.lim,N⟩ hl
  cases hp1:kJ l0 with
  | er a c l1=>
   rw [hp1] at e1
   simp only [jc] at e1
   simp [af,jh,hN,e0,e1,hp1,dX,splice,List.range_succ]
  | ok v1 l1=>
   rw [hp1] at e1
   simp only [eU] at e1
   obtain ⟨s2,n2⟩:=s1.shorter (mP s1.w) hp1
   simp only [PR.bind_ok]
   simp only [eU]
   simp [af,jh,hN,e0,e1,dX,splice,List.range_succ]
   try rfl
theorem afy {r:List Tok} (s0:Suf T r) (cx:Ctx) (hl:cx.lim≤l):ah P0 (.fn (.func gm) [.pt l 0] []) [] (S (idx T r)) cx=Ans fO T S (Ua r):=by
 have hN:=hE.n
 refine Aw (zo _ _ _ _) ?_
 unfold Ua
 have e0:=wK hE s0 ⟨cx.lim,N⟩ hl
 cases hp0:ig r with
 | er a c l0=>
  rw [hp0] at e0
  simp only [jc] at e0
  simp [af,jl,hN,e0,hp0,dX,splice,List.range_succ]
 | ok v0 l0=>
  rw [hp0] at e0
  simp only [eU] at e0
  obtain ⟨s1,n1⟩:=s0.shorter (bF s0.w) hp0
  simp only [PR.bind_ok]
  simp only [eU]
  simp [af,jl,hN,e0,dX,splice,List.range_succ]
  try rfl
theorem afz {r:List Tok} (s0:Suf T r) (cx:Ctx) (hl:cx.lim≤l):ah P0 (.fn (.func jq) [.pt l 0] []) [] (S (idx T r)) cx=Ans fO T S (Uc r):=by
 have hN:=hE.n
 refine EX (zo _ _ _ _) ?_
 unfold Uc
 have e0:=wK hE s0 ⟨cx.lim,N⟩ hl
 cases hp0:ig r with
 | er a c l0=>
  rw [hp0] at e0
  simp only [jc] at e0
  simp [af,iZ,hN,e0,hp0,dX,splice,List.range_succ]
 | ok v0 l0=>
  rw [hp0] at e0
  simp only [eU] at e0
  obtain ⟨s1,n1⟩:=s0.shorter (bF s0.w) hp0
  simp only [PR.bind_ok]
  have e1:=wK hE s1 ⟨cx.lim,N⟩ hl
  cases hp1:ig l0 with
  | er a c l1=>
   rw [hp1] at e1
   simp only [jc] at e1
   simp [af,iZ,hN,e0,e1,hp1,dX,splice,List.range_succ]
  | ok v1 l1=>
   rw [hp1] at e1
   simp only [eU] at e1
   obtain ⟨s2,n2⟩:=s1.shorter (bF s1.w) hp1
   simp only [PR.bind_ok]
   have e2:=wK hE s2 ⟨cx.lim,N⟩ hl
   cases hp2:ig l1 with
   | er a c l2=>
    rw [hp2] at e2
    simp only [jc] at e2
    simp [af,iZ,hN,e0,e1,e2,hp2,dX,splice,List.range_succ]
   | ok v2 l2=>
    rw [hp2] at e2
    simp only [eU] at e2
    obtain ⟨s3,n3⟩:=s2.shorter (bF s2.w) hp2
    simp only [PR.bind_ok]
    simp only [eU]
    simp [af,iZ,hN,e0,e1,e2,dX,splice,List.range_succ]
    try rfl
theorem afx {r:List Tok} (s0:Suf T r) (cx:Ctx) (hl:cx.lim≤l):ah P0 (.fn (.func jo) [.pt l 0] []) [] (S (idx T r)) cx=Ans fO T S (TY r):=by
 have hN:=hE.n
 refine EW (zo _ _ _ _) ?_
 unfold TY
 have e0:=wK hE s0 ⟨cx.lim,N⟩ hl
 cases hp0:ig r with
 | er a c l0=>
  rw [hp0] at e0
  simp only [jc] at e0
  simp [af,iW,hN,e0,hp0,dX,splice,List.range_succ]
 | ok v0 l0=>
  rw [hp0] at e0
  simp only [eU] at e0
  obtain ⟨s1,n1⟩:=s0.shorter (bF s0.w) hp0
  simp only [PR.bind_ok]
  have e1:=KZ hE s1 (w:=G9) (by decide) ⟨cx.lim,N⟩ hl
  cases hp1:kH G9 l0 with
  | er a c l1=>
   rw [hp1] at e1
   simp only [jc,G9] at e1
   simp [af,iW,hN,e0,e1,hp1,dX,splice,List.range_succ]
  | ok v1 l1=>
   rw [hp1] at e1
   simp only [eU,G9] at e1
   obtain ⟨s2,n2⟩:=s1.shorter (oL (w:=G9) (by decide) s1.w) hp1
   simp only [PR.bind_ok]
   have e2:=wK hE s2 ⟨cx.lim,N⟩ hl
   cases hp2:ig l1 with
   | er a c l2=>
    rw [hp2] at e2
    simp only [jc] at e2
    simp [af,iW,hN,e0,e1,e2,hp2,dX,splice,List.range_succ]
   | ok v2 l2=>
    rw [hp2] at e2
    simp only [eU] at e2
    obtain ⟨s3,n3⟩:=s2.shorter (bF s2.w) hp2
    simp only [PR.bind_ok]
    simp only [eU]
    simp [af,iW,hN,e0,e1,e2,dX,splice,List.range_succ]
    try rfl
theorem ZH (lim:Nat) (hl:lim≤l):∀(n:Nat) (acc:List (List UInt8)) {r:List Tok},Suf T r→acc.length+n=4→
  (∃v r',tZ n acc r=.ok v r'∧eX (aC P0.glob (ah P0) ⟨lim,N⟩ false fD) [0,2,3] [(0,.v (.pt l 0)),(2,.bx yu),(3,.own false wW 1 (acc.map AV.s))] (S (idx T r))=
   .exit 0 [(0,.v (.pt l 0)),(2,.bx yu),(3,.own false wW 1 (v.map AV.s)),(15,.v (.b false))] (S (idx T r')))∨
  ∃a e r',tZ n acc r=.er a e r'∧eX (aC P0.glob (ah P0) ⟨lim,N⟩ false fD) [0,2,3] [(0,.v (.pt l 0)),(2,.bx yu),(3,.own false wW 1 (acc.map AV.s))] (S (idx T r))=
   .pan (flt a e) (S (idx T r'))
 | 0,acc,r,h,hlen=>by
  refine .inl ⟨acc,r,rfl,ak fun K hK=>?_⟩
  have h4:¬(acc.length:Int)<4:=by omega
  simp [fD,yu,h4]
 | n+1,acc,r,h,hlen=>by
  have e1:=Wx hE h
  have h4:(acc.length:Int)<4:=by omega
  unfold tZ
  by_cases hk:(hT r).1=1∧kwS (txt r)=false
  ·rw [if_pos hk]
   have hk':(decide ((hT r).1=1) && !kwS (txt r))=true:=by simp [hk]
   rw [hk'] at e1
   have e2:=wK hE h ⟨lim,N⟩ hl
   cases hp:ig r with
   | er a c l1=>
    rw [hp] at e2
    simp only [jc] at e2
    refine .inr ⟨a,c,l1,rfl,ak fun K hK=>?_⟩
    clear hK
    simp [fD,yu,e1,e2,h4]
   | ok v l1=>
    rw [hp] at e2
    simp only [eU] at e2
    obtain ⟨s2,n2⟩:=h.shorter (bF h.w) hp
    have hm:acc.length+1≤eu:=by unfold eu;omega
    simp only [PR.bind_ok]
    rcases ZH lim hl n (acc++[v]) s2 (by simp;omega) with ⟨u,r',g1,g2⟩|⟨a,e,r',g1,g2⟩
    ·refine .inl ⟨u,r',g1,ak fun K hK=>?_⟩
     rw [←hK] at g2
     clear hK
     generalize hW:u.map AV.s=W at g2 ⊢
     simp [yu] at g2
     simp [fD,yu,e1,e2,h4,hm,List.range_succ]
     exact g2
    ·refine .inr ⟨a,e,r',g1,ak fun K hK=>?_⟩
     rw [←hK] at g2
     clear hK
     simp [yu] at g2
     simp [fD,yu,e1,e2,h4,hm,List.range_succ]
     exact g2
  ·rw [if_neg hk]
   have hk':(decide ((hT r).1=1) && !kwS (txt r))=false:=by
    cases hd:(decide ((hT r).1=1) && !kwS (txt r)) with
    | false=>rfl
    | true=>
     simp only [Bool.and_eq_true,decide_eq_true_eq,Bool.not_eq_true'] at hd
     exact absurd hd hk
   rw [hk'] at e1
   refine .inl ⟨acc,r,rfl,ak fun K hK=>?_⟩
   simp [fD,yu,e1,h4]
theorem aec {r:List Tok} (s0:Suf T r) (cx:Ctx) (hl:cx.lim≤l):ah P0 (.fn (.func jb) [.pt l 0] []) [] (S (idx T r)) cx=Ans fO T S (Lr r):=by
 have hN:=hE.n
 refine Eb (zo _ _ _ _) ?_
 unfold Lr
 have e0:=wK hE s0 ⟨cx.lim,N⟩ hl
 cases hp0:ig r with
 | er a c l0=>
  rw [hp0] at e0
  simp only [jc] at e0
  simp [af,fH,hN,e0,dX,splice]
 | ok v0 l0=>
  rw [hp0] at e0
  simp only [eU] at e0
  obtain ⟨s1,n1⟩:=s0.shorter (bF s0.w) hp0
  simp only [PR.bind_ok]
  have e1:=wK hE s1 ⟨cx.lim,N⟩ hl
  cases hp1:ig l0 with
  | er a c l1=>
   rw [hp1] at e1
   simp only [jc] at e1
   simp [af,fH,hN,e0,e1,dX,splice]
  | ok v1 l1=>
   rw [hp1] at e1
   simp only [eU] at e1
   obtain ⟨s2,n2⟩:=s1.shorter (bF s1.w) hp1
   simp only [PR.bind_ok]
   rcases ZH hE cx.lim hl 2 [v0,v1] s2 rfl with ⟨rs,l2,g1,e2⟩|⟨a,c,l2,g1,e2⟩
   ·rw [g1]
    simp only [PR.bind_ok]
    have s3:Suf T l2:=s2.ok (Jd 2 [v0,v1] s2.w) g1
    obtain ⟨rq,hrs⟩:∃rq,rs=v0::v1::rq:=aa2 g1
    have e3:=KZ hE s3 (w:=G9) (by decide) ⟨cx.lim,N⟩ hl
    simp [yu] at e2
    cases hp3:kH G9 l2 with
    | er a c l3=>
     rw [hp3] at e3
     simp only [jc,G9] at e3
     simp [af,fH,hN,e0,e1,e2,e3,dX,splice,List.range_succ]
    | ok v3 l3=>
     rw [hp3] at e3
     simp only [eU,G9] at e3
     obtain ⟨s4,n4⟩:=s3.shorter (oL (w:=G9) (by decide) s3.w) hp3
     simp only [PR.bind_ok]
     have e4:=wK hE s4 ⟨cx.lim,N⟩ hl
     cases hp4:ig l3 with
     | er a c l4=>
      rw [hp4] at e4
      simp only [jc] at e4
      simp [af,fH,hN,e0,e1,e2,e3,e4,dX,splice,List.range_succ]
     | ok v4 l4=>
      rw [hp4] at e4
      simp only [eU] at e4
      simp only [PR.bind_ok,eU]
      subst hrs
      simp at e2
      simp [af,fH,hN,e0,e1,e2,e3,e4,dX,splice,List.range_succ]
      try rfl
   ·rw [g1]
    simp [yu] at e2
    simp [af,fH,hN,e0,e1,e2,dX,splice,List.range_succ]
set_option maxHeartbeats 1000000 in
theorem Wv {r:List Tok} (s0:Suf T r) (cx:Ctx) (hl:cx.lim≤l):ah P0 (.fn (.func gu) [] []) [.pt l 0] (S (idx T r)) cx=Ans fO T S (Xi r):=by
 have hN:=hE.n
 refine Az (zo _ _ _ _) ?_
 unfold Xi
 have e0:=zU hE s0 ⟨cx.lim,N⟩ hl
 cases hp0:kJ r with
 | er a c l0=>
  rw [hp0] at e0
  simp only [jc] at e0
  simp [af,bJ,hN,e0,dX,splice]
 | ok v0 l0=>
  rw [hp0] at e0
  simp only [eU] at e0
  obtain ⟨s1,n1⟩:=s0.shorter (mP s0.w) hp0
  simp only [PR.bind_ok]
  by_cases h0:txt l0=G9
  ·have q:=kX hE s1 h0 (by decide) ⟨cx.lim,N⟩ hl
   simp only [G9] at q
   obtain ⟨t1,m1⟩:=s1.tl h0 (by decide)
   rw [ifw,if_pos h0,Ih]
   have e1:=zU hE t1 ⟨cx.lim,N⟩ hl
   cases hp1:kJ l0.tail with
   | er a c l1=>
    rw [hp1] at e1
    simp only [jc] at e1
    simp [af,bJ,hN,e0,q,e1,dX,splice]
   | ok v1 l1=>
    rw [hp1] at e1
    simp only [eU] at e1
    simp only [PR.bind_ok,eU]
    simp [af,bJ,hN,e0,q,e1,dX,splice]
    try rfl
  rw [ifw,if_neg h0]
  have q0:=lV hE s1 h0
  simp only [G9] at q0
  by_cases h1:txt l0=ZR
  ·have q:=kX hE s1 h1 (by decide) ⟨cx.lim,N⟩ hl
   simp only [ZR] at q
   obtain ⟨t1,m1⟩:=s1.tl h1 (by decide)
   rw [ifw,if_pos h1,Ih]
   have e1:=zU hE t1 ⟨cx.lim,N⟩ hl
   cases hp1:kJ l0.tail with
   | er a c l1=>
    rw [hp1] at e1
    simp only [jc] at e1
    simp [af,bJ,hN,e0,q0,q,e1,dX,splice]
   | ok v1 l1=>
    rw [hp1] at e1
    simp only [eU] at e1
    simp only [PR.bind_ok,eU]
    simp [af,bJ,hN,e0,q0,q,e1,dX,splice]
    try rfl
  rw [ifw,if_neg h1]
  have q1:=lV hE s1 h1
  simp only [ZR] at q1
  by_cases h2:txt l0=aar
  ·have q:=kX hE s1 h2 (by decide) ⟨cx.lim,N⟩ hl
   simp only [aar] at q
   obtain ⟨t1,m1⟩:=s1.tl h2 (by decide)
   rw [ifw,if_pos h2,Ih]
   have e1:=zU hE t1 ⟨cx.lim,N⟩ hl
   cases hp1:kJ l0.tail with
   | er a c l1=>
    rw [hp1] at e1
    simp only [jc] at e1
    simp [af,bJ,hN,e0,q0,q1,q,e1,dX,splice]
   | ok v1 l1=>
    rw [hp1] at e1
    simp only [eU] at e1
    simp only [PR.bind_ok,eU]
    simp [af,bJ,hN,e0,q0,q1,q,e1,dX,splice]
    try rfl
  rw [ifw,if_neg h2]
  have q2:=lV hE s1 h2
  simp only [aar] at q2
  have e1:=La hE s1 30
  rw [afj]
  simp [af,bJ,hN,e0,q0,q1,q2,e1,dX,splice]
end
theorem aaL {l r:List Tok} {x:Ax} (h:Xi l=.ok x r):x.kind=1∨x.kind=2∨x.kind=3:=by
 obtain ⟨c,l1,e1,h⟩:=aB.1 h
 rcases nP h with ⟨k,h⟩|h
 ·obtain ⟨d,l2,e2,h⟩:=aB.1 h;cases h;exact .inl rfl
 rcases nP h with ⟨k,h⟩|h
 ·obtain ⟨d,l2,e2,h⟩:=aB.1 h;cases h;exact .inr (.inl rfl)
 rcases nP h with ⟨k,h⟩|h
 ·obtain ⟨d,l2,e2,h⟩:=aB.1 h;cases h;exact .inr (.inr rfl)
 ·cases h
section
variable {T:List Tok} {l:Nat} {S:Nat→St} {N:Nat}
variable (hE:BN T (CV l) S l N)
include hE
set_option maxHeartbeats 4000000 in
theorem TB {i i2:Nat} {bo bp:Bool} (cx:Ctx) (hl:cx.lim≤l) {i1:Nat}
  (e1:ah P0 (.fn (.func aF) [] []) [.pt l 0,.s JI] (S i) ⟨cx.lim,N⟩=.ret (.b bo) (S i1))
  (e2:bo=false→ah P0 (.fn (.func aF) [] []) [.pt l 0,.s JF] (S i1) ⟨cx.lim,N⟩=.ret (.b bp) (S i2)) (e2':bo=true→i2=i1∧bp=false)
  {w:List UInt8} {f:Nat} {kd:Int} (hw:akG w f kd) {a:Nat} {k0:Int} (ht:T[i2]?=some (k0,w,a)) {x:PR Ax} (hx:∀y r,x=.ok y r→y.kind=kd)
  (e3:ah P0 (.fn (.func f) [.pt l 0] []) [] (S (i2+1)) ⟨cx.lim,N⟩=Ans fO T S x):
  ah P0 (.fn (.func fA) [] []) [.pt l 0] (S i) cx=Ans fO T S (x.bind fun y r=>.ok (WS bo bp y) r):=by
 have e4:=Eh T hE.len i2 _ (S i2) l (hE.cell i2) k0 w a ht
 have h1:=hE.cell i2
 have hs:=hE.sets i2 (i2+1)
 have hN:=hE.n
 have hlt:i2<T.length:=(List.getElem?_eq_some_iff.1 ht).1
 have hlen:=hE.len
 have hwi:=wI (i:=i2) (by omega)
 simp only [JI,JF] at e1 e2
 refine sH (zo _ _ _ _) ?_
 unfold psO CV at h1 hs
 rw [show ((i2+1:Nat):Int)=(i2:Int)+1 by omega] at hs
 cases x with
 | er a c r=>
  simp only [jc,PR.bind_er] at e3 ⊢
  cases bo with
  | true=>
   obtain ⟨rfl,rfl⟩:=e2' rfl
   clear e2 e2'
   rcases hw with ⟨rfl,rfl,k⟩|⟨rfl,rfl,k⟩|⟨rfl,rfl,k⟩|⟨rfl,rfl,k⟩|⟨rfl,rfl,k⟩|⟨rfl,rfl,k⟩
   all_goals
    simp only [RG,Fv,AQ,FB,Fb,FP] at e4
    simp [af,dM,hN,e1,e3,e4,h1,hs,hwi,hl,dN,find,wQ,y5,splice]
  | false=>
   have e2:=e2 rfl
   clear e2'
   cases bp
   all_goals
   rcases hw with ⟨rfl,rfl,k⟩|⟨rfl,rfl,k⟩|⟨rfl,rfl,k⟩|⟨rfl,rfl,k⟩|⟨rfl,rfl,k⟩|⟨rfl,rfl,k⟩
   all_goals
    simp only [RG,Fv,AQ,FB,Fb,FP] at e4
    simp [af,dM,hN,e1,e2,e3,e4,h1,hs,hwi,hl,dN,find,wQ,y5,splice]
 | ok y r=>
  have hk:=hx y r rfl
  simp only [eU,PR.bind_ok,WS] at e3 ⊢
  cases bo with
  | true=>
   obtain ⟨rfl,rfl⟩:=e2' rfl
   clear e2 e2'
   rcases hw with ⟨rfl,rfl,rfl⟩|⟨rfl,rfl,rfl⟩|⟨rfl,rfl,rfl⟩|⟨rfl,rfl,rfl⟩|⟨rfl,rfl,rfl⟩|⟨rfl,rfl,rfl⟩
   all_goals
    have d5:=dk 5 hk
    have d6:=dk 6 hk
    have d7:=dk 7 hk
    simp only [pk 5 hk,pk 6 hk,pk 7 hk]
    simp only [RG,Fv,AQ,FB,Fb,FP] at e4
    simp [af,dM,hN,e1,e3,e4,h1,hs,hwi,hl,dN,find,wQ,y5,d5,d6,d7,splice]
    try rfl
  | false=>
   have e2:=e2 rfl
   clear e2'
   cases bp
   all_goals
   rcases hw with ⟨rfl,rfl,rfl⟩|⟨rfl,rfl,rfl⟩|⟨rfl,rfl,rfl⟩|⟨rfl,rfl,rfl⟩|⟨rfl,rfl,rfl⟩|⟨rfl,rfl,rfl⟩
   all_goals
    have d5:=dk 5 hk
    have d6:=dk 6 hk
    have d7:=dk 7 hk
    simp only [pk 5 hk,pk 6 hk,pk 7 hk]
    simp only [RG,Fv,AQ,FB,Fb,FP] at e4
    simp [af,dM,hN,e1,e2,e3,e4,h1,hs,hwi,hl,dN,find,wQ,y5,d5,d6,d7,splice]
    try rfl
theorem afB {i i1 i2:Nat} {bo bp:Bool} (cx:Ctx) (hl:cx.lim≤l)
  (e1:ah P0 (.fn (.func aF) [] []) [.pt l 0,.s JI] (S i) ⟨cx.lim,N⟩=.ret (.b bo) (S i1))
  (e2:bo=false→ah P0 (.fn (.func aF) [] []) [.pt l 0,.s JF] (S i1) ⟨cx.lim,N⟩=.ret (.b bp) (S i2)) (e2':bo=true→i2=i1∧bp=false)
  {k:Int} {t:List UInt8} {a:Nat} (ht:T[i2]?=some (k,t,a)) (hn:t ∉ adY) {x:PR Ax} (hx:∀y r,x=.ok y r→y.kind=1∨y.kind=2∨y.kind=3)
  (e3:ah P0 (.fn (.func gu) [] []) [.pt l 0] (S i2) ⟨cx.lim,N⟩=Ans fO T S x):
  ah P0 (.fn (.func fA) [] []) [.pt l 0] (S i) cx=Ans fO T S (x.bind fun y r=>.ok (WS bo bp y) r):=by
 cases x with
 | ok y r=>
  have hk:=hx y r rfl
  have h:=Xh hE y hk cx hl e1 e2 e2' ht hn e3
  simp only [PR.bind_ok,eU,WS]
  rw [if_neg (by omega)]
  exact h
 | er a c r=>
  have e4:=Eh T hE.len i2 _ (S i2) l (hE.cell i2) k t _ ht
  have h1:=hE.cell i2
  have hN:=hE.n
  simp [adY,RG,Fv,AQ,FB,Fb,FP] at hn
  obtain ⟨n1,n2,n3,n4,n5,n6⟩:=hn
  simp only [JI,JF] at e1 e2
  simp only [jc,PR.bind_er] at e3 ⊢
  refine sH (by simp) ?_
  unfold psO CV at h1
  cases bo with
  | false=>
   have e2:=e2 rfl
   cases bp<;>simp [af,dM,hN,e1,e2,e3,e4,h1,dN,find,wQ,y5,n1,n2,n3,n4,n5,n6,splice]
  | true=>
   obtain ⟨rfl,rfl⟩:=e2' rfl
   simp [af,dM,hN,e1,e3,e4,h1,dN,find,wQ,y5,n1,n2,n3,n4,n5,n6,splice]
theorem Yo {i i1:Nat} {bo bp:Bool} (cx:Ctx) (hl:cx.lim≤l) {r:List Tok} (h:Suf T r)
  (e1:ah P0 (.fn (.func aF) [] []) [.pt l 0,.s JI] (S i) ⟨cx.lim,N⟩=.ret (.b bo) (S i1))
  (e2:bo=false→ah P0 (.fn (.func aF) [] []) [.pt l 0,.s JF] (S i1) ⟨cx.lim,N⟩=.ret (.b bp) (S (idx T r))) (e2':bo=true→idx T r=i1∧bp=false):
  ah P0 (.fn (.func fA) [] []) [.pt l 0] (S i) cx=Ans fO T S (pSt bo bp r):=by
 have hg:=h.get
 obtain ⟨t,ht⟩:∃t,t=hT r:=⟨_,rfl⟩
 rw [←ht] at hg
 obtain ⟨k0,w0,a0⟩:=t
 have htx:txt r=w0:=by unfold txt;rw [←ht]
 unfold pSt
 by_cases h0:txt r=RG
 ·have hx:xq r=GH r.tail:=by unfold xq;rw [ifw,if_pos h0]
  have htl:=h.tail (.inl (by rw [h0];decide))
  have e3:=acd hE htl.1 ⟨cx.lim,N⟩ hl
  rw [htl.2] at e3
  have hw:w0=RG:=htx.symm.trans h0
  subst hw
  rw [hx]
  refine TB hE cx hl e1 e2 e2' (.inl ⟨rfl,rfl,rfl⟩) hg (fun y q hy=>?_) e3
  ·unfold GH at hy
   obtain ⟨u0,q0,g0,hy⟩:=aB.1 hy
   obtain ⟨u1,q1,g1,hy⟩:=aB.1 hy
   cases hy;rfl
 by_cases h1:txt r=Fv
 ·have hx:xq r=TY r.tail:=by unfold xq;rw [ifw,if_neg h0,ifw,if_pos h1]
  have htl:=h.tail (.inl (by rw [h1];decide))
  have e3:=afx hE htl.1 ⟨cx.lim,N⟩ hl
  rw [htl.2] at e3
  have hw:w0=Fv:=htx.symm.trans h1
  subst hw
  rw [hx]
  refine TB hE cx hl e1 e2 e2' (.inr (.inl ⟨rfl,rfl,rfl⟩)) hg (fun y q hy=>?_) e3
  ·unfold TY at hy
   obtain ⟨u0,q0,g0,hy⟩:=aB.1 hy
   obtain ⟨u1,q1,g1,hy⟩:=aB.1 hy
   obtain ⟨u2,q2,g2,hy⟩:=aB.1 hy
   cases hy;rfl
 by_cases h2:txt r=AQ
 ·have hx:xq r=Lr r.tail:=by unfold xq;rw [ifw,if_neg h0,ifw,if_neg h1,ifw,if_pos h2]
  have htl:=h.tail (.inl (by rw [h2];decide))
  have e3:=aec hE htl.1 ⟨cx.lim,N⟩ hl
  rw [htl.2] at e3
  have hw:w0=AQ:=htx.symm.trans h2
  subst hw
  rw [hx]
  refine TB hE cx hl e1 e2 e2' (.inr (.inr (.inl ⟨rfl,rfl,rfl⟩))) hg (fun y q hy=>?_) e3
  ·unfold Lr at hy
   obtain ⟨u0,q0,g0,hy⟩:=aB.1 hy
   obtain ⟨u1,q1,g1,hy⟩:=aB.1 hy
   obtain ⟨u2,q2,g2,hy⟩:=aB.1 hy
   obtain ⟨u3,q3,g3,hy⟩:=aB.1 hy
   obtain ⟨u4,q4,g4,hy⟩:=aB.1 hy
   cases hy;rfl
 by_cases h3:txt r=FB
 ·have hx:xq r=Ua r.tail:=by unfold xq;rw [ifw,if_neg h0,ifw,if_neg h1,ifw,if_neg h2,ifw,if_pos h3]
  have htl:=h.tail (.inl (by rw [h3];decide))
  have e3:=afy hE htl.1 ⟨cx.lim,N⟩ hl
  rw [htl.2] at e3
  have hw:w0=FB:=htx.symm.trans h3
  subst hw
  rw [hx]
  refine TB hE cx hl e1 e2 e2' (.inr (.inr (.inr (.inl ⟨rfl,rfl,rfl⟩)))) hg (fun y q hy=>?_) e3
  ·unfold Ua at hy
   obtain ⟨u0,q0,g0,hy⟩:=aB.1 hy
   cases hy;rfl
 by_cases h4:txt r=Fb
 ·have hx:xq r=Gz r.tail:=by unfold xq;rw [ifw,if_neg h0,ifw,if_neg h1,ifw,if_neg h2,ifw,if_neg h3,ifw,if_pos h4]
  have htl:=h.tail (.inl (by rw [h4];decide))
  have e3:=ab8 hE htl.1 ⟨cx.lim,N⟩ hl
  rw [htl.2] at e3
  have hw:w0=Fb:=htx.symm.trans h4
  subst hw
  rw [hx]
  refine TB hE cx hl e1 e2 e2' (.inr (.inr (.inr (.inr (.inl ⟨rfl,rfl,rfl⟩))))) hg (fun y q hy=>?_) e3
  ·unfold Gz at hy
   obtain ⟨u0,q0,g0,hy⟩:=aB.1 hy
   obtain ⟨u1,q1,g1,hy⟩:=aB.1 hy
   cases hy;rfl
 by_cases h5:txt r=FP
 ·have hx:xq r=Uc r.tail:=by unfold xq;rw [ifw,if_neg h0,ifw,if_neg h1,ifw,if_neg h2,ifw,if_neg h3,ifw,if_neg h4,ifw,if_pos h5]
  have htl:=h.tail (.inl (by rw [h5];decide))
  have e3:=afz hE htl.1 ⟨cx.lim,N⟩ hl
  rw [htl.2] at e3
  have hw:w0=FP:=htx.symm.trans h5
  subst hw
  rw [hx]
  refine TB hE cx hl e1 e2 e2' (.inr (.inr (.inr (.inr (.inr (⟨rfl,rfl,rfl⟩)))))) hg (fun y q hy=>?_) e3
  ·unfold Uc at hy
   obtain ⟨u0,q0,g0,hy⟩:=aB.1 hy
   obtain ⟨u1,q1,g1,hy⟩:=aB.1 hy
   obtain ⟨u2,q2,g2,hy⟩:=aB.1 hy
   cases hy;rfl
 have hx:xq r=Xi r:=by unfold xq;rw [ifw,if_neg h0,ifw,if_neg h1,ifw,if_neg h2,ifw,if_neg h3,ifw,if_neg h4,ifw,if_neg h5]
 rw [hx]
 refine afB hE cx hl e1 e2 e2' hg ?_ (fun y q hy=>aaL hy) (Wv hE h ⟨cx.lim,N⟩ hl)
 rw [←htx]
 simp [adY,h0,h1,h2,h3,h4,h5]
theorem aed {r:List Tok} (h:Suf T r) (cx:Ctx) (hl:cx.lim≤l):ah P0 (.fn (.func fA) [] []) [.pt l 0] (S (idx T r)) cx=Ans fO T S (BG r):=by
 unfold BG ifw
 by_cases h1:txt r=JI
 ·have htl:=h.tail (.inl (by rw [h1];decide))
  rw [if_pos h1]
  exact Yo hE cx hl htl.1 (kX hE h h1 (by decide) ⟨cx.lim,N⟩ hl) (fun hh=>by cases hh) (fun _=>⟨rfl,rfl⟩)
 rw [if_neg h1]
 by_cases h2:txt r=JF
 ·have htl:=h.tail (.inl (by rw [h2];decide))
  rw [if_pos h2]
  exact Yo hE cx hl htl.1 (lV hE h h1 ⟨cx.lim,N⟩) (fun _=>kX hE h h2 (by decide) ⟨cx.lim,N⟩ hl) (fun hh=>by cases hh)
 rw [if_neg h2]
 exact Yo hE cx hl h (lV hE h h1 ⟨cx.lim,N⟩) (fun _=>lV hE h h2 ⟨cx.lim,N⟩) (fun hh=>by cases hh)
end
end Go.Ai.Z
