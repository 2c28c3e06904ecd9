/-
 The names of checked axioms: both vocabularies have the same; their words, in order.
-/
import Derived.Test.YtcofenimejmoeaaGreatDoorAiOW10OW11
set_option maxRecDepth 100000
set_option linter.unusedSimpArgs false
set_option linter.unusedVariables false
set_option linter.unusedSectionVars false
namespace Go.Ai.Z
def Nd (n:Rl):Prop:=n=[]∨kC n=true∨En n=true
theorem Nd.len {n:Rl} (h:Nd n):n.length≤24:=by
 rcases h with rfl|h
 ·simp
 ·exact (Dc h).2
theorem Nd.cut {n:Rl} (h:Nd n):IC n=if nK n=[] then [] else [nK n]:=by
 unfold IC nK
 cases hc:kZ 58 n with
 | none=>simp
 | some p=>
  obtain ⟨x,y⟩:=p
  have hb:nK n=x:=by unfold nK;rw [hc]
  have hm:(58:UInt8)∈n:=by rw [yg hc];simp
  rcases h with rfl|h
  ·simp at hm
  ·have:=(Dc h).1
   rw [hb] at this
   have hx:¬x=[]:=fun e=>this.1 e hm
   simp [hx]
theorem acB (n:Rl):(nK n).length≤n.length:=by
 unfold nK
 cases hc:kZ 58 n with
 | none=>simp
 | some p=>
  obtain ⟨x,y⟩:=p
  rw [yg hc];simp
theorem P9 {n w:Rl} (h:Nd n):w∈IC n ↔ nK n=w∧w≠[]:=by
 rw [h.cut]
 split
 ·rename_i e
  simp only [List.not_mem_nil,false_iff,not_and]
  intro e2 e3;exact e3 (by rw [←e2,e])
 ·rename_i e
  simp only [List.mem_singleton]
  constructor
  ·rintro rfl;exact ⟨rfl,e⟩
  ·rintro ⟨h,_⟩;exact h.symm
def V4.all (v:V4):List Rl:=v.c++v.r++v.f++v.i
structure N4 (v:V4):Prop where
 c:∀x∈v.c,Nd x
 r:∀x∈v.r,Nd x
 f:∀x∈v.f,Nd x
 i:∀x∈v.i,Nd x
def V4.tot (v:V4):Nat:=v.c.length+v.r.length+v.f.length+v.i.length
theorem DF {V:List Rl} {k:Rl} (h:∀x∈V,Nd x) (hk:Nd k):∀x∈uY V k,Nd x:=fun x hx=>by
 rcases zu.1 hx with rfl|hx
 ·exact hk
 ·exact h x hx
theorem EF {c:C} (h:uj c=true) (hk:c.kind=3∨c.kind=4∨c.kind=6∨c.kind=7):Nd c.name:=by
 unfold uj at h
 rcases hk with k|k|k|k<;>simp [k] at h
 ·exact .inr (.inl h)
 ·exact .inr h
 ·exact .inr (.inl h)
 ·exact .inr (.inl h)
theorem N4.add {v:V4} (h:N4 v) {c:C} (hn:uj c=true):N4 (v.add c):=by
 unfold V4.add
 split
 ·rename_i k;exact ⟨DF h.c (EF hn (by simp [k])),h.r,h.f,h.i⟩
 ·split
  ·rename_i k;exact ⟨h.c,DF h.r (EF hn (by simp [k])),h.f,h.i⟩
  ·split
   ·rename_i k;exact ⟨h.c,h.r,DF h.f (EF hn (by simp [k])),h.i⟩
   ·split
    ·rename_i k;exact ⟨h.c,h.r,h.f,DF h.i (EF hn (by simp [k]))⟩
    ·exact h
theorem abA (v:V4) (c:C):(v.add c).tot≤v.tot+1:=by
 have h:=fun V=>Ci V c.name
 have h1:=h v.c
 have h2:=h v.r
 have h3:=h v.f
 have h4:=h v.i
 unfold V4.add V4.tot
 repeat' split
 all_goals (first|omega | (simp only;omega))
def EqM (V W:List Rl):Prop:=∀x:Rl,x≠[]→(x∈V ↔ x∈W)
theorem EqM.uY {V W:List Rl} (h:EqM V W) (k:Rl):EqM (uY V k) (kS W k):=fun x hx=>by rw [zu,FO,h x hx]
theorem EqM.yt {V W:List Rl} (h:EqM V W) (k:Rl):EqM (Go.Ai.Z.uY V k) (yt W k):=fun x hx=>by
 unfold Go.Ai.Z.yt
 split
 ·rename_i e;subst e
  rw [zu,h x hx];simp [hx]
 ·exact h.uY k x hx
structure E4 (v u:V4):Prop where
 c:EqM v.c u.c
 r:EqM v.r u.r
 f:EqM v.f u.f
 i:EqM v.i u.i
theorem E4.add {v w:V4} (h:E4 v w) (c:C):E4 (v.add c) (w.addS c):=by
 unfold V4.add V4.addS
 repeat' split
 ·exact ⟨h.c.uY _,h.r,h.f,h.i⟩
 ·exact ⟨h.c,h.r.uY _,h.f,h.i⟩
 ·exact ⟨h.c,h.r,h.f.uY _,h.i⟩
 ·exact ⟨h.c,h.r,h.f,h.i.uY _⟩
 ·exact h
theorem ZM:∀(c:C) {v w:V4},E4 v w→E4 (mZ c v) (qG c w):=by
 have key:∀c:C,∀(v w:V4),E4 v w→E4 (mZ c v) (qG c w):=by
  refine C.ind' fun c ih v w h=>?_
  have hL:∀(l:List C),(∀p∈l,∀(v w:V4),E4 v w→E4 (mZ p v) (qG p w))→∀(v w:V4),E4 v w→E4 (Ad l v) (OA l w):=by
   intro l
   induction l with
   | nil=>intro _ v w h;exact h
   | cons p r ihr=>intro hp v w h;exact ihr (fun q hq=>hp q (by simp [hq])) _ _ (hp p (by simp) v w h)
  rw [FI,NR]
  exact hL c.parts ih _ _ (h.add c)
 exact fun c {v w} h=>key c v w h
theorem ac6:∀c:C,ji c=0→∀v:V4,N4 v→N4 (mZ c v):=by
 refine C.ind' fun c ih hv v h=>?_
 obtain ⟨v1,v2,v3⟩:=FH hv
 have hL:∀(l:List C),(∀p∈l,∀v:V4,N4 v→N4 (mZ p v))→∀v:V4,N4 v→N4 (Ad l v):=by
  intro l
  induction l with
  | nil=>intro _ v h;exact h
  | cons p r ihr=>intro hp v h;exact ihr (fun q hq=>hp q (by simp [hq])) _ (hp p (by simp) v h)
 rw [FI]
 exact hL c.parts (fun p hp=>ih p hp (v3 p hp)) _ (h.add v2)
theorem XT:∀c:C,∀v:V4,(mZ c v).tot≤v.tot+jG c:=by
 refine C.ind' fun c ih v=>?_
 have hL:∀(l:List C),(∀p∈l,∀v:V4,(mZ p v).tot≤v.tot+jG p)→∀v:V4,(Ad l v).tot≤v.tot+qK l:=by
  intro l
  induction l with
  | nil=>intro _ v;simp [Ad,qK]
  | cons p r ihr=>
   intro hp v
   have h1:=hp p (by simp) v
   have h2:=ihr (fun q hq=>hp q (by simp [hq])) (mZ p v)
   simp only [Ad,qK];omega
 have h1:=hL c.parts ih (v.add c)
 have h2:=abA v c
 rw [FI,xM];omega
structure Ax.Vd (x:Ax):Prop where
 l:emptyS x.left=true∨ji x.left=0∧jG x.left≤64
 r:emptyS x.right=true∨ji x.right=0∧jG x.right≤64
 n:x.roles.length≤4
 rs:∀r∈x.roles,Nd r
 role:Nd x.role
 a:Nd x.a
 b:Nd x.b
theorem aa2 {c:C} (h:lI c=0):ji c=0∧jG c≤64:=by
 unfold lI at h
 split at h
 ·cases h
 ·rename_i q;exact ⟨h,by omega⟩
theorem vd {x:Ax} (h:jP x=0):x.Vd:=by
 unfold jP at h
 split at h
 ·cases h
 split at h
 ·cases h
 rename_i hs hn
 have hs:lT x=true:=by simpa using hs
 have hn:Df x (kz x.kind)=true:=by simpa using hn
 unfold Ob at h
 split at h
 ·rename_i q;exact absurd h q.2
 split at h
 ·rename_i q;exact absurd h q.2
 rename_i ql qr
 unfold lT at hs
 simp only [Bool.and_eq_true,Bool.or_eq_true,decide_eq_true_eq] at hs
 obtain ⟨⟨⟨⟨⟨⟨⟨s0,s1⟩,s2⟩,s3⟩,s4⟩,s5⟩,s6⟩,s7⟩:=hs
 unfold Df at hn
 simp only [Bool.and_eq_true,Bool.or_eq_true,Bool.not_eq_true'] at hn
 obtain ⟨⟨⟨n1,n2⟩,n3⟩,n4⟩:=hn
 have hb:∀u:Bool,u=false→¬u=true:=fun u h=>by rw [h];exact Bool.false_ne_true
 have hps:∀n:Rl,vg n=true→Nd n:=fun n h=>by
  unfold vg at h
  rw [Bool.or_eq_true] at h
  exact .inr h
 refine ⟨?_, ?_, ?_,fun r hr=>.inr (.inl (Le n4 r hr)), ?_, ?_, ?_⟩
 ·rcases s1 with q|q
  ·exact .inr (aa2 (Classical.not_not.1 fun e=>ql ⟨q,e⟩))
  ·exact .inl q
 ·rcases s2 with q|q
  ·exact .inr (aa2 (Classical.not_not.1 fun e=>qr ⟨q,e⟩))
  ·exact .inl q
 ·have hk:1≤x.kind∧x.kind≤9:=by simp [zA] at s0;exact s0
  have hk9:x.kind=1∨x.kind=2∨x.kind=3∨x.kind=4∨x.kind=5∨x.kind=6∨x.kind=7∨x.kind=8∨x.kind=9:=by omega
  have:(kz x.kind).hi≤4:=by rcases hk9 with q|q|q|q|q|q|q|q|q<;>rw [q]<;>decide
  omega
 ·rcases s3 with q|q
  ·rcases n1 with p|p
   ·exact absurd q (hb _ p)
   ·exact .inr (.inl p)
  ·exact .inl q
 ·rcases s4 with q|q
  ·rcases n2 with p|p
   ·exact absurd q (hb _ p)
   ·exact hps _ p
  ·exact .inl q
 ·rcases s5 with q|q
  ·rcases n3 with p|p
   ·exact absurd q (hb _ p)
   ·exact hps _ p
  ·exact .inl q
theorem Tt {c:C} (h:emptyS c=true) (v:V4):mZ c v=v∧qG c v=v∧jG c=1:=by
 unfold emptyS at h
 simp only [Bool.and_eq_true,decide_eq_true_eq] at h
 obtain ⟨⟨⟨⟨h1,h2⟩,h3⟩,h4⟩,h5⟩:=h
 have hp:c.parts=[]:=List.eq_nil_of_length_eq_zero (by omega)
 rw [FI,NR,xM,hp]
 simp [Ad,OA,V4.add,V4.addS,h1,qK]
theorem XU {c:C} (h:emptyS c=true∨ji c=0∧jG c≤64) {v:V4} (hv:N4 v):N4 (mZ c v):=by
 rcases h with h|h
 ·rw [(Tt h v).1];exact hv
 ·exact ac6 c h.1 v hv
theorem TV {c:C} (h:emptyS c=true∨ji c=0∧jG c≤64):jG c≤64:=by
 rcases h with h|h
 ·rw [(Tt h V4.nil).2.2];omega
 ·exact h.2
theorem WC {rs:List Rl}:∀{V:List Rl} {x:Rl},x∈Gz V rs ↔ x∈V∨x∈rs:=by
 induction rs with
 | nil=>intro V x;simp [Gz]
 | cons r rs ih=>
  intro V x
  rw [Gz,ih,zu,List.mem_cons]
  constructor
  ·rintro ((h|h)|h)
   ·exact .inr (.inl h)
   ·exact .inl h
   ·exact .inr (.inr h)
  ·rintro (h|h|h)
   ·exact .inl (.inr h)
   ·exact .inl (.inl h)
   ·exact .inr h
theorem abb {rs:List Rl}:∀{V:List Rl},(Gz V rs).length≤V.length+rs.length:=by
 induction rs with
 | nil=>intro V;simp [Gz]
 | cons r rs ih=>
  intro V
  have h1:=ih (V:=uY V r)
  have h2:=Ci V r
  rw [Gz,List.length_cons];omega
theorem aaW {rs:List Rl}:∀{V:List Rl} {x:Rl},x∈rs.foldl kS V ↔ x∈V∨x∈rs:=by
 induction rs with
 | nil=>intro V x;simp
 | cons r rs ih=>
  intro V x
  rw [List.foldl_cons,ih,FO,List.mem_cons]
  constructor
  ·rintro ((h|h)|h)
   ·exact .inr (.inl h)
   ·exact .inl h
   ·exact .inr (.inr h)
  ·rintro (h|h|h)
   ·exact .inl (.inr h)
   ·exact .inl (.inl h)
   ·exact .inr h
theorem ZN {x:Ax} (hx:x.Vd) {v w:V4} (hN:N4 v) (hE:E4 v w):N4 (UZ x v)∧E4 (UZ x v) (aae x w)∧(UZ x v).tot≤v.tot+140:=by
 have n1:=XU hx.l hN
 have n2:=XU hx.r n1
 have e2:=ZM x.right (ZM x.left hE)
 have t1:=XT x.left v
 have t2:=XT x.right (mZ x.left v)
 have s1:=TV hx.l
 have s2:=TV hx.r
 have s3:=hx.n
 refine ⟨⟨n2.c, ?_,n2.f,DF (DF n2.i hx.a) hx.b⟩,⟨e2.c, ?_,e2.f,(e2.i.yt x.a).yt x.b⟩, ?_⟩
 ·refine DF (fun y hy=>?_) hx.role
  rcases WC.1 hy with h|h
  ·exact n2.r y h
  ·exact hx.rs y h
 ·intro y hy
  show y∈uY (Gz (mZ x.right (mZ x.left v)).r x.roles) x.role ↔ y∈x.roles.foldl kS (yt (qG x.right (qG x.left w)).r x.role)
  rw [zu,WC,aaW,←(e2.r.yt x.role) y hy,zu]
  constructor
  ·rintro (h|h|h)
   ·exact .inl (.inl h)
   ·exact .inl (.inr h)
   ·exact .inr h
  ·rintro ((h|h)|h)
   ·exact .inl h
   ·exact .inr (.inl h)
   ·exact .inr (.inr h)
 ·have l1:=Ci (Gz (mZ x.right (mZ x.left v)).r x.roles) x.role
  have l2:=abb (V:=(mZ x.right (mZ x.left v)).r) (rs:=x.roles)
  have l3:=Ci (uY (mZ x.right (mZ x.left v)).i x.a) x.b
  have l4:=Ci (mZ x.right (mZ x.left v)).i x.a
  unfold V4.tot at t2 ⊢
  simp only [UZ]
  unfold V4.tot at t1
  try simp only at t1
  omega
theorem Cm:∀{l:List Ax},(∀x∈l,x.Vd)→∀{v w:V4},N4 v→E4 v w→N4 (ng l v)∧E4 (ng l v) (iV l w)∧(ng l v).tot≤v.tot+140 * l.length
 | [],_,v,w,hN,hE=>⟨hN,hE,by simp [ng]⟩
 | x::l,hx,v,w,hN,hE=>by
  obtain ⟨h1,h2,h3⟩:=ZN (hx x (by simp)) hN hE
  obtain ⟨g1,g2,g3⟩:=Cm (l:=l) (fun y hy=>hx y (by simp [hy])) h1 h2
  refine ⟨g1,g2, ?_⟩
  simp only [ng,List.length_cons];omega
end Go.Ai.Z
namespace Go.Ai.Z
theorem Qg:∀(L:List Rl) (a x:Rl),x∈a::lH a L ↔ x∈a::L
 | [],a,x=>by simp [lH]
 | b::r,a,x=>by
  have ih:=Qg r b x
  unfold lH
  split
  ·rename_i e;subst e
   simp only [List.mem_cons] at ih ⊢
   rw [ih];simp
  ·simp only [List.mem_cons] at ih ⊢
   rw [ih]
theorem Zt (L:List Rl) (x:Rl):x∈eY L ↔ x∈L:=by
 cases L with
 | nil=>simp [eY]
 | cons a r=>exact Qg r a x
theorem Qe:∀(L:List Rl) (a:Rl),(a::L).Pairwise (·≤·)→Srt (a::lH a L)
 | [],a,_=>by simp [lH,Srt]
 | b::r,a,h=>by
  have h1:=List.pairwise_cons.1 h
  have ih:=Qe r b h1.2
  unfold lH
  split
  ·rename_i e;subst e;exact ih
  ·rename_i e
   have hab:a<b:=by
    rcases List.le_iff_lt_or_eq.1 (h1.1 b (by simp)) with q|q
    ·exact q
    ·exact absurd q.symm e
   unfold Srt at ih ⊢
   refine List.pairwise_cons.2 ⟨fun y hy=>?_,ih⟩
   rcases List.mem_cons.1 hy with rfl|hy
   ·exact hab
   ·exact List.lt_trans hab ((List.pairwise_cons.1 ih).1 y hy)
theorem ZU (V:List Rl):Srt (Na V):=by
 have h:=zl V
 unfold Na
 cases hs:Go.Ai.sortStr V with
 | nil=>simp [eY,Srt]
 | cons a r=>rw [hs] at h;exact Qe r a h
theorem U5 (V:List Rl) (x:Rl):x∈Na V ↔ x∈V:=by
 unfold Na
 rw [Zt,(oq V).mem_iff]
theorem ZV (V:List Rl):(Na V).length≤V.length:=by
 unfold Na
 have h1:=V5 (Go.Ai.sortStr V)
 have h2:=(oq V).length_eq
 omega
def stepW (acc:List Rl) (n:Rl):List Rl:=if nK n=[] then acc else kS acc (nK n)
theorem Si {acc:List Rl} (h:Srt acc) (n:Rl):Srt (stepW acc n):=by
 unfold stepW;split
 ·exact h
 ·exact Sm h
theorem KU:∀(N:List Rl) {acc:List Rl},Srt acc→Srt (N.foldl stepW acc)
 | [],_,h=>h
 | n::N,_,h=>KU N (Si h n)
theorem Ti:∀(N:List Rl) {acc:List Rl} {w:Rl},w∈N.foldl stepW acc ↔ w∈acc∨∃n∈N,nK n=w∧w≠[]
 | [],acc,w=>by simp
 | n::N,acc,w=>by
  rw [List.foldl_cons,Ti N]
  have hs:w∈stepW acc n ↔ w∈acc∨nK n=w∧w≠[]:=by
   unfold stepW
   split
   ·rename_i e
    constructor
    ·exact .inl
    ·rintro (h|⟨h1,h2⟩)
     ·exact h
     ·exact absurd (by rw [←h1,e]) h2
   ·rename_i e
    rw [FO]
    constructor
    ·rintro (rfl|h)
     ·exact .inr ⟨rfl,e⟩
     ·exact .inl h
    ·rintro (h|⟨h1,_⟩)
     ·exact .inr h
     ·exact .inl h1.symm
  rw [hs]
  constructor
  ·rintro ((h|h)|⟨m,h1,h2⟩)
   ·exact .inl h
   ·exact .inr ⟨n,by simp,h⟩
   ·exact .inr ⟨m,by simp [h1],h2⟩
  ·rintro (h|⟨m,h1,h2⟩)
   ·exact .inl (.inl h)
   ·rcases List.mem_cons.1 h1 with rfl|h1
    ·exact .inl (.inr h2)
    ·exact .inr ⟨m,h1,h2⟩
def ED (l:List Ax):List Rl:=vA l++vR l++vF l++vI l
def iU (l:List Ax):List Rl:=Na ((ED l).flatMap IC)
def GK (l:List Ax):List Rl:=(iV l V4.nil).all
theorem Xd:N4 V4.nil:=⟨by simp [V4.nil],by simp [V4.nil],by simp [V4.nil],by simp [V4.nil]⟩
theorem Xe:E4 V4.nil V4.nil:=⟨fun _ _=>Iff.rfl,fun _ _=>Iff.rfl,fun _ _=>Iff.rfl,fun _ _=>Iff.rfl⟩
section
variable {l:List Ax} (h:∀x∈l,x.Vd)
include h
theorem Jg:∀x∈ED l,Nd x:=by
 have hN:=(Cm h Xd Xe).1
 intro x hx
 unfold ED vA vR vF vI at hx
 simp only [List.mem_append,(qO _).mem_iff] at hx
 rcases hx with ((hx|hx)|hx)|hx
 ·exact hN.c x hx
 ·exact hN.r x (List.erase_sublist.subset hx)
 ·exact hN.f x hx
 ·exact hN.i x (List.erase_sublist.subset hx)
theorem SL:(ED l).length≤140 * l.length:=by
 have ht:=(Cm h Xd Xe).2.2
 unfold V4.tot at ht
 have h1:(Gs (ng l V4.nil).r []).length≤(ng l V4.nil).r.length:=List.erase_sublist.length_le
 have h2:(Gs (ng l V4.nil).i []).length≤(ng l V4.nil).i.length:=List.erase_sublist.length_le
 unfold ED vA vR vF vI
 simp only [List.length_append,(qO _).length_eq]
 simp only [V4.nil,List.length_nil] at *
 omega
theorem KC {x:Rl} (hx:x≠[]):x∈ED l ↔ x∈GK l:=by
 have hE:=(Cm h Xd Xe).2.1
 unfold ED GK vA vR vF vI V4.all Gs
 simp only [List.mem_append,(qO _).mem_iff,List.mem_erase_of_ne hx,hE.c x hx,hE.r x hx,hE.f x hx,hE.i x hx]
theorem TP {w:Rl}:w∈iU l ↔ ∃n∈GK l,nK n=w∧w≠[]:=by
 unfold iU
 rw [U5,List.mem_flatMap]
 constructor
 ·rintro ⟨n,hn,hw⟩
  obtain ⟨h1,h2⟩:=(P9 (Jg h n hn)).1 hw
  have h3:n≠[]:=fun e=>by rw [e] at h1;exact h2 (h1 ▸ rfl)
  exact ⟨n,(KC h h3).1 hn,h1,h2⟩
 ·rintro ⟨n,hn,h1,h2⟩
  have h3:n≠[]:=fun e=>by rw [e] at h1;exact h2 (h1 ▸ rfl)
  have h4:=(KC h h3).2 hn
  exact ⟨n,h4,(P9 (Jg h n h4)).2 ⟨h1,h2⟩⟩
theorem abw:(GK l).foldl stepW []=iU l:=
 Srt.ext (KU _ (by simp [Srt])) (ZU _) fun w=>by rw [Ti,TP h];simp
theorem XQ:(iU l).length≤140 * l.length:=by
 have h1:=ZV ((ED l).flatMap IC)
 have h2:=KY (ED l)
 have h3:=SL h
 unfold iU;omega
theorem XP:∀w∈iU l,w.length≤24:=fun w hw=>by
 unfold iU at hw
 rw [U5,List.mem_flatMap] at hw
 obtain ⟨n,hn,hw⟩:=hw
 have hd:=Jg h n hn
 obtain ⟨h1,_⟩:=(P9 hd).1 hw
 have:=hd.len
 have:=acB n
 rw [←h1];omega
theorem aaq:∀n∈ED l,n.length≤1000000:=fun n hn=>by have:=(Jg h n hn).len;omega
end
def yO:Rl:=[111,119,108]
def Ac:Rl:=[120,115,100]
def qI:List Rl→List Rl→Option (List Rl)
 | acc,[]=>some acc
 | acc,n::r=>if nK n=yO∨nK n=Ac then none else qI (stepW acc n) r
theorem Oh:∀(M N:List Rl) (acc:List Rl),qI acc (M++N)=(qI acc M).bind fun a=>qI a N
 | [],N,acc=>rfl
 | m::M,N,acc=>by
  simp only [List.cons_append,qI]
  split
  ·rfl
  ·exact Oh M N _
theorem J6:∀(N acc:List Rl),qI acc N=if ∃n∈N,nK n=yO∨nK n=Ac then none else some (N.foldl stepW acc)
 | [],acc=>by simp [qI]
 | n::N,acc=>by
  rw [qI,J6 N]
  by_cases h:nK n=yO∨nK n=Ac
  ·rw [if_pos h,if_pos ⟨n,by simp,h⟩]
  ·rw [if_neg h]
   by_cases h2:∃m∈N,nK m=yO∨nK m=Ac
   ·obtain ⟨m,h3,h4⟩:=h2
    rw [if_pos ⟨m,h3,h4⟩,if_pos ⟨m,by simp [h3],h4⟩]
   ·rw [if_neg h2,if_neg,List.foldl_cons]
    rintro ⟨m,h3,h4⟩
    rcases List.mem_cons.1 h3 with rfl|h3
    ·exact h h4
    ·exact h2 ⟨m,h3,h4⟩
theorem Yt {l:List Ax} (h:∀x∈l,x.Vd):qI [] (GK l)=if yO∈iU l∨Ac∈iU l then none else some (iU l):=by
 rw [J6,abw h]
 have e:(∃n∈GK l,nK n=yO∨nK n=Ac) ↔ (yO∈iU l∨Ac∈iU l):=by
  rw [TP h,TP h]
  constructor
  ·rintro ⟨n,h1,h2|h2⟩
   ·exact .inl ⟨n,h1,h2,by simp [yO]⟩
   ·exact .inr ⟨n,h1,h2,by simp [Ac]⟩
  ·rintro (⟨n,h1,h2,_⟩|⟨n,h1,h2,_⟩)
   ·exact ⟨n,h1,.inl h2⟩
   ·exact ⟨n,h1,.inr h2⟩
 by_cases hq:yO∈iU l∨Ac∈iU l
 ·rw [if_pos hq,if_pos (e.2 hq)]
 ·rw [if_neg hq,if_neg (fun hh=>hq (e.1 hh))]
theorem Sj (acc:List Rl) (n:Rl):(stepW acc n).length≤acc.length+1:=by
 unfold stepW;split
 ·omega
 ·exact RJ _ _
end Go.Ai.Z
namespace Go.Ai.Z
def QY (k:Int):Bool:=decide (33≤k) && decide (k≤126) && decide (k≠60) && decide (k≠62) && decide (k≠34)
def Ip (p:Rl):Bool:=p.all fun b=>QY b.toNat
theorem L9 (p:Rl) (hp:p.length≤1000000) (s:St) (cx:Ctx):∀(rest:Rl) (i:Nat),p.drop i=rest→
  ∃j:Int,eX (au P0.glob (ai P0) cx false dR) [0,3] [(0,.v (.s p)),(3,.v (.i .i64 i))] s=
   if Ip rest=true then .exit 0 [(0,.v (.s p)),(3,.v (.i .i64 j)),(7,.v (.b false))] s else .ret [(2,.v (.b false))] s
 | [],i,h=>by
  have h1:¬i<p.length:=Nat.not_lt.2 (drop_nil h)
  refine ⟨i,aj fun K hK=>?_⟩
  simp [dR,h1,Ip]
 | b::r,i,h=>by
  obtain ⟨h1,h2,h3,h4⟩:=drop_cons h
  have h5:=h4 h3
  have hwi:=wI (i:=i) (by omega)
  obtain ⟨j,ih⟩:=L9 p hp s cx r (i+1) h2
  have hc:Ip (b::r)=(QY b.toNat && Ip r):=rfl
  rw [hc]
  by_cases q:QY b.toNat=true
  ·refine ⟨j,aj fun K hK=>?_⟩
   rw [←hK,show ((i+1:Nat):Int)=(i:Int)+1 from rfl] at ih
   clear hK h4
   rw [q,Bool.true_and,←ih]
   clear ih
   unfold QY at q
   simp only [Bool.and_eq_true,decide_eq_true_eq] at q
   obtain ⟨⟨⟨⟨q1,q2⟩,q3⟩,q4⟩,q5⟩:=q
   have q1':¬(b.toNat:Int)<33:=by omega
   have q2':¬126<(b.toNat:Int):=by omega
   simp -implicitDefEqProofs [dR,h3,h5,hwi,q1',q2',q3,q4,q5]
  ·refine ⟨i,aj fun K hK=>?_⟩
   clear hK h4 ih
   rw [if_neg (by simp [q])]
   unfold QY at q
   simp only [Bool.and_eq_true,decide_eq_true_eq,not_and] at q
   by_cases q1:(b.toNat:Int)<33
   ·simp -implicitDefEqProofs [dR,h3,h5,q1]
   by_cases q2:126<(b.toNat:Int)
   ·simp -implicitDefEqProofs [dR,h3,h5,q1,q2]
   by_cases q3:(b.toNat:Int)=60
   ·simp -implicitDefEqProofs [dR,h3,h5,q1,q2,q3]
   by_cases q4:(b.toNat:Int)=62
   ·simp -implicitDefEqProofs [dR,h3,h5,q1,q2,q3,q4]
   by_cases q5:(b.toNat:Int)=34
   ·simp -implicitDefEqProofs [dR,h3,h5,q1,q2,q3,q4,q5]
   ·exact absurd q5 (q ⟨⟨⟨by omega,by omega⟩,q3⟩,q4⟩)
theorem JS (p:Rl) (hp:p.length≤1000000) (s:St) (cx:Ctx):ai P0 (.fn (.func l7) [] []) [.s p] s cx=.ret (.b (Ip p)) s:=by
 obtain ⟨j,h⟩:=L9 p hp s ⟨s.length,s.length⟩ p 0 rfl
 refine Iw (by simp) ?_
 simp at h
 by_cases q:Ip p=true<;>simp -implicitDefEqProofs [af,oH,h,q]
theorem Wi (b:UInt8) (s:St) (cx:Ctx):ai P0 (.fn (.func uP) [] []) [.i .u8 b.toNat] s cx=.ret (.b (QY b.toNat)) s:=by
 refine Uy (by simp) ?_
 unfold QY
 by_cases q1:33≤(b.toNat:Int)
 ·by_cases q2:(b.toNat:Int)≤126
  ·by_cases q3:(b.toNat:Int)=60
   ·simp -implicitDefEqProofs [af,kH,q1,q2,q3]
   ·by_cases q4:(b.toNat:Int)=62
    ·simp -implicitDefEqProofs [af,kH,q1,q2,q3,q4]
    ·by_cases q5:(b.toNat:Int)=34
     ·simp -implicitDefEqProofs [af,kH,q1,q2,q3,q4,q5]
     ·simp -implicitDefEqProofs [af,kH,q1,q2,q3,q4,q5]
  ·simp -implicitDefEqProofs [af,kH,q1,q2]
 ·simp -implicitDefEqProofs [af,kH,q1]
section
variable (L0:AV) (p:Rl) (LL:List (List Rl)) (hLL:LL.length≤100) (hT:∀T∈LL,T.length≤50000) (hn:∀T∈LL,∀x∈T,x.length≤1000000) (s:St) (cx:Ctx)
include hT hn
theorem Yb (T:List Rl) (i:Nat) (hi:LL[i]?=some T):∀(rest:List Rl) (k:Nat) (acc:List Rl),T.drop k=rest→Srt acc→acc.length+rest.length≤100000→
  ∃j:Int,eX (au P0.glob (ai P0) cx false iY) [0,1,8,9,10,11]
   [(0,.v L0),(1,.v (.s p)),(8,.v (.sl (acc.map .s))),(9,.v (.sl (LL.map iG))),(10,.v (.i .i64 i)),(11,.v (.i .i64 k))] s=
   match qI acc rest with
   | some w=>.exit 2 [(0,.v L0),(1,.v (.s p)),(8,.v (.sl (w.map .s))),(9,.v (.sl (LL.map iG))),(10,.v (.i .i64 i)),(11,.v (.i .i64 j)),(57,.v (.b false))] s
   | none=>.ret [(4,.v .ns),(5,.v (.i .i64 50))] s
 | [],k,acc,h,ha,hl=>by
  have h1:¬k<T.length:=Nat.not_lt.2 (drop_nil h)
  obtain ⟨g1,g2⟩:=List.getElem?_eq_some_iff.1 hi
  refine ⟨k,aj fun K hK=>?_⟩
  simp [iY,qI,g1,g2,h1]
 | n::r,k,acc,h,ha,hl=>by
  obtain ⟨h1,h2,h3,h4⟩:=drop_cons h
  have h5:=h4 h3
  obtain ⟨g1,g2⟩:=List.getElem?_eq_some_iff.1 hi
  have hm:T∈LL:=by rw [←g2];exact List.getElem_mem g1
  have hTl:=hT T hm
  have hwi:=wI (i:=k) (by omega)
  simp only [List.length_cons] at hl
  have hsl:=Sj acc n
  have eb:=Fj n (hn T hm n (by rw [←h5];exact List.getElem_mem h3))
  have hrow:iG T=.sl (T.map .s):=by
   cases T with
   | nil=>simp at h3
   | cons a r=>rfl
  have ew:=JV false acc (nK n) (by omega)
  rw [Sr,J4 ha] at ew
  by_cases ho:nK n=yO
  ·refine ⟨0,aj fun K hK=>?_⟩
   clear hK h4 hT hn
   rw [qI,if_pos (.inl ho)]
   rw [ho] at eb
   unfold yO at eb
   simp -implicitDefEqProofs [iY,g1,g2,hrow,h3,h5,eb]
  by_cases hx:nK n=Ac
  ·refine ⟨0,aj fun K hK=>?_⟩
   clear hK h4 hT hn
   rw [qI,if_pos (.inr hx)]
   rw [hx] at eb
   unfold Ac at eb
   simp -implicitDefEqProofs [iY,g1,g2,hrow,h3,h5,eb]
  obtain ⟨j,ih⟩:=Yb T i hi r (k+1) (stepW acc n) h2 (Si ha n) (by omega)
  refine ⟨j,aj fun K hK=>?_⟩
  rw [←hK,show ((k+1:Nat):Int)=(k:Int)+1 from rfl] at ih
  clear hK h4 hT hn
  have hno:¬(nK n=yO∨nK n=Ac):=fun h=>by rcases h with h|h;exact ho h;exact hx h
  rw [qI,if_neg hno,←ih]
  clear ih
  unfold yO at ho
  unfold Ac at hx
  unfold stepW
  by_cases he:nK n=[]
  ·rw [he] at eb
   simp -implicitDefEqProofs [iY,g1,g2,hrow,h3,h5,hwi,eb,he]
  ·have he2:(nK n).isEmpty=false:=by cases hh:nK n<;>simp_all
   simp -implicitDefEqProofs [iY,g1,g2,hrow,h3,h5,hwi,eb,he,he2,ho,hx,ew]
include hLL
theorem Yc:∀(rest:List (List Rl)) (i:Nat) (acc:List Rl),LL.drop i=rest→i≤LL.length→Srt acc→acc.length+yL rest≤100000→
  eX (au P0.glob (ai P0) cx false lV) [0,1,8,9,10]
   [(0,.v L0),(1,.v (.s p)),(8,.v (.sl (acc.map .s))),(9,.v (.sl (LL.map iG))),(10,.v (.i .i64 i))] s=
   match qI acc rest.flatten with
   | some w=>.exit 0 [(0,.v L0),(1,.v (.s p)),(8,.v (.sl (w.map .s))),(9,.v (.sl (LL.map iG))),(10,.v (.i .i64 LL.length)),(48,.v (.b false))] s
   | none=>.ret [(4,.v .ns),(5,.v (.i .i64 50))] s
 | [],i,acc,h,hi,ha,hl=>by
  have h1:¬i<LL.length:=Nat.not_lt.2 (drop_nil h)
  have h2:i=LL.length:=by omega
  refine aj fun K hK=>?_
  simp [lV,qI,h2]
 | T::r,i,acc,h,hi,ha,hl=>by
  obtain ⟨h1,h2,h3,h4⟩:=drop_cons h
  have h5:=h4 h3
  have hwi:=wI (i:=i) (by omega)
  simp only [yL] at hl
  obtain ⟨j,e1⟩:=Yb L0 p LL hT hn s cx T i h1 T 0 acc rfl ha (by omega)
  refine aj fun K hK=>?_
  rw [List.flatten_cons,Oh]
  cases hs:qI acc T with
  | none=>
   rw [hs] at e1
   clear hK h4 hT hn
   simp at e1
   simp -implicitDefEqProofs [lV,h3,h5,e1]
  | some w=>
   rw [hs] at e1
   have hw:w=T.foldl stepW acc:=by
    rw [J6] at hs
    split at hs
    ·cases hs
    ·exact (Option.some.inj hs).symm
   have hws:Srt w:=by rw [hw];exact KU T ha
   have hwl:w.length≤acc.length+T.length:=by
    rw [hw]
    have:∀(T acc:List Rl),(T.foldl stepW acc).length≤acc.length+T.length:=by
     intro T
     induction T with
     | nil=>intro acc;simp
     | cons a T ih=>intro acc;have:=ih (stepW acc a);have:=Sj acc a;simp only [List.foldl_cons,List.length_cons];omega
    exact this T acc
   have ih:=Yc r (i+1) w h2 (by omega) hws (by omega)
   rw [←hK,show ((i+1:Nat):Int)=(i:Int)+1 from rfl] at ih
   clear hK h4 hT hn
   simp only [Option.bind_some]
   rw [←ih]
   clear ih
   simp at e1
   simp -implicitDefEqProofs [lV,h3,h5,hwi,e1]
end
end Go.Ai.Z
