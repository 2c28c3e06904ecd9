/-
 The reference's names and Vocabulary.
-/
import Derived.Test.YtcofenimejmoeaaGreatDoorAiOW6OW7OW8OW9
import Derived.Test.YtcofenimejmoeaaGreatDoorAiK8K9K10K11K12
import Derived.Test.YtcofenimejmoeaaGreatDoorAiOW1OW2OW3OW4OW5
import Derived.Test.YtcofenimejmoeaaGreatDoorAiRchR1R2R3R4R5
import Derived.Test.YtcofenimejmoeaaGreatDoorAiCircCRefR37R61R62R63K13
set_option maxRecDepth 100000
set_option linter.unusedSimpArgs false
set_option linter.unusedVariables false
set_option linter.unusedSectionVars false
namespace Go.Ai.Z
def V4.addS (v:V4) (x:C):V4:=
 if x.kind=3 then { v with c:=zM v.c x.name } else if x.kind=6 then { v with r:=zM v.r x.name }
 else if x.kind=7 then { v with f:=zM v.f x.name } else if x.kind=4 then { v with i:=zM v.i x.name } else v
mutual
def Qo:C→V4→V4
 | .mk k n l h z ps,v=>adg ps (v.addS (.mk k n l h z ps))
def adg:List C→V4→V4
 | [],v=>v
 | p::r,v=>adg r (Qo p v)
end
theorem Z9 (x:C) (v:V4):Qo x v=adg x.parts (v.addS x):=by cases x;simp [Qo]
structure SB1 (n:Nat) (V:List Rl):Prop where
 srt:Srt V
 len:V.length≤n
theorem SB1.add {n:Nat} {V:List Rl} (h:SB1 n V) (k:Rl):SB1 (n+1) (zM V k):=⟨aa4 h.srt,by have:=aaV V k;have:=h.len;omega⟩
theorem SB1.le {n m:Nat} {V:List Rl} (h:SB1 n V) (hm:n≤m):SB1 m V:=⟨h.srt,Nat.le_trans h.len hm⟩
structure SB (n:Nat) (v:V4):Prop where
 c:SB1 n v.c
 r:SB1 n v.r
 f:SB1 n v.f
 i:SB1 n v.i
theorem SB.le {n m:Nat} {v:V4} (h:SB n v) (hm:n≤m):SB m v:=⟨h.c.le hm,h.r.le hm,h.f.le hm,h.i.le hm⟩
theorem SB.add {n:Nat} {v:V4} (h:SB n v) (x:C):SB (n+1) (v.addS x):=by
 have h':=h.le (Nat.le_succ n);unfold V4.addS;split
 ·exact ⟨h.c.add _,h'.r,h'.f,h'.i⟩
 ·split
  ·exact ⟨h'.c,h.r.add _,h'.f,h'.i⟩
  ·split
   ·exact ⟨h'.c,h'.r,h.f.add _,h'.i⟩
   ·split
    ·exact ⟨h'.c,h'.r,h'.f,h.i.add _⟩
    ·exact h'
end Go.Ai.Z
namespace Go.Ai.Z
def Ny (V:List Rl) (x:Rl):List Rl:=if x=[] then V else zM V x
def akj (x:Ax) (v:V4):V4:=
 let u:=Qo x.right (Qo x.left v)
 ⟨u.c,x.roles.foldl zM (Ny u.r x.role),u.f,Ny (Ny u.i x.a) x.b⟩
def YV:List Ax→V4→V4
 | [],v=>v
 | x::r,v=>YV r (akj x v)
theorem SB1.Ny {n:Nat} {V:List Rl} (h:SB1 n V) (k:Rl):SB1 (n+1) (Ny V k):=by
 unfold Go.Ai.Z.Ny;split
 ·exact h.le (Nat.le_succ n)
 ·exact h.add k
theorem SB.nil:SB 0 V4.nil:=by
 have h:SB1 0 []:=⟨by simp [Srt],by simp⟩;exact ⟨h,h,h,h⟩
end Go.Ai.Z
namespace Go.Ai.Z
open Go.Ai
theorem lg (l:Rl):(aC l).length=l.length:=by simp [aC]
def XI (k:Int):Bool:=decide (33≤k) && decide (k≤126) && decide (k≠60) && decide (k≠62) && decide (k≠34)
theorem OE (b:UInt8) (s:St) (cx:Ctx):aj P0 (.fn (.func uU) [] []) [.i .u8 b.toNat] s cx=.ret (.b (XI b.toNat)) s:=by
 refine VW (by simp) ?_;unfold XI;by_cases q1:33≤(b.toNat:Int)
 ·by_cases q2:(b.toNat:Int)≤126
  ·by_cases q3:(b.toNat:Int)=60
   ·simp -implicitDefEqProofs [af,nN,q1,q2,q3]
   ·by_cases q4:(b.toNat:Int)=62
    ·simp -implicitDefEqProofs [af,nN,q1,q2,q3,q4]
    ·by_cases q5:(b.toNat:Int)=34
     ·simp -implicitDefEqProofs [af,nN,q1,q2,q3,q4,q5]
     ·simp -implicitDefEqProofs [af,nN,q1,q2,q3,q4,q5]
  ·simp -implicitDefEqProofs [af,nN,q1,q2]
 ·simp -implicitDefEqProofs [af,nN,q1]
end Go.Ai.Z
namespace Go.Ai.Z
def Nd (n:Rl):Prop:=n=[]∨oJ n=true∨L6 n=true
theorem Nd.len {n:Rl} (h:Nd n):n.length≤24:=by
 rcases h with rfl|h
 ·simp
 ·exact (aal h).2
theorem Nd.cut {n:Rl} (h:Nd n):JL n=if JR n=[] then [] else [JR n]:=by
 unfold JL JR
 cases hc:lC 58 n with
 | none=>simp
 | some p=>
  obtain ⟨x,y⟩:=p;have hb:JR n=x:=by unfold JR;rw [hc]
  have hm:(58:UInt8)∈n:=by rw [wu hc];simp
  rcases h with rfl|h
  ·simp at hm
  ·have:=(aal h).1
   rw [hb] at this;have hx:¬x=[]:=fun e=>this.1 e hm;simp [hx]
theorem agz (n:Rl):(JR n).length≤n.length:=by
 unfold JR
 cases hc:lC 58 n with
 | none=>simp
 | some p=>
  obtain ⟨x,y⟩:=p;rw [wu hc];simp
theorem RF {n w:Rl} (h:Nd n):w∈JL n ↔ JR n=w∧w≠[]:=by
 rw [h.cut];split
 ·rename_i e;simp only [List.not_mem_nil,false_iff,not_and];intro e2 e3;exact e3 (by rw [←e2,e])
 ·rename_i e;simp only [List.mem_singleton];constructor
  ·rintro rfl;exact ⟨rfl,e⟩
  ·rintro ⟨h,_⟩;exact h.symm
def V4.all (v:V4):List Rl:=v.c++v.r++v.f++v.i
structure N4 (v:V4):Prop where
 c:∀x∈v.c,Nd x
 r:∀x∈v.r,Nd x
 f:∀x∈v.f,Nd x
 i:∀x∈v.i,Nd x
def V4.tot (v:V4):Nat:=v.c.length+v.r.length+v.f.length+v.i.length
theorem Ew {V:List Rl} {k:Rl} (h:∀x∈V,Nd x) (hk:Nd k):∀x∈qO V k,Nd x:=fun x hx=>by
 rcases ja.1 hx with rfl|hx
 ·exact hk
 ·exact h x hx
theorem FO {c:C} (h:tX c=true) (hk:c.kind=3∨c.kind=4∨c.kind=6∨c.kind=7):Nd c.name:=by
 unfold tX at h
 rcases hk with k|k|k|k<;>simp [k] at h
 ·exact .inr (.inl h)
 ·exact .inr h
 ·exact .inr (.inl h)
 ·exact .inr (.inl h)
theorem N4.add {v:V4} (h:N4 v) {c:C} (hn:tX c=true):N4 (v.add c):=by
 unfold V4.add;split
 ·rename_i k;exact ⟨Ew h.c (FO hn (by simp [k])),h.r,h.f,h.i⟩
 ·split
  ·rename_i k;exact ⟨h.c,Ew h.r (FO hn (by simp [k])),h.f,h.i⟩
  ·split
   ·rename_i k;exact ⟨h.c,h.r,Ew h.f (FO hn (by simp [k])),h.i⟩
   ·split
    ·rename_i k;exact ⟨h.c,h.r,h.f,Ew h.i (FO hn (by simp [k]))⟩
    ·exact h
theorem afy (v:V4) (c:C):(v.add c).tot≤v.tot+1:=by
 have h:=fun V=>DT V c.name;have h1:=h v.c;have h2:=h v.r;have h3:=h v.f;have h4:=h v.i;unfold V4.add V4.tot
 repeat' split
 all_goals (first|omega | (simp only;omega))
def EqM (V W:List Rl):Prop:=∀x:Rl,x≠[]→(x∈V ↔ x∈W)
theorem EqM.qO {V W:List Rl} (h:EqM V W) (k:Rl):EqM (qO V k) (zM W k):=fun x hx=>by rw [ja,UA,h x hx]
theorem EqM.Ny {V W:List Rl} (h:EqM V W) (k:Rl):EqM (Go.Ai.Z.qO V k) (Ny W k):=fun x hx=>by
 unfold Go.Ai.Z.Ny;split
 ·rename_i e;subst e;rw [ja,h x hx];simp [hx]
 ·exact h.qO k x hx
structure E4 (v u:V4):Prop where
 c:EqM v.c u.c
 r:EqM v.r u.r
 f:EqM v.f u.f
 i:EqM v.i u.i
theorem E4.add {v w:V4} (h:E4 v w) (c:C):E4 (v.add c) (w.addS c):=by
 unfold V4.add V4.addS
 repeat' split
 ·exact ⟨h.c.qO _,h.r,h.f,h.i⟩
 ·exact ⟨h.c,h.r.qO _,h.f,h.i⟩
 ·exact ⟨h.c,h.r,h.f.qO _,h.i⟩
 ·exact ⟨h.c,h.r,h.f,h.i.qO _⟩
 ·exact h
theorem acR:∀(c:C) {v w:V4},E4 v w→E4 (mW c v) (Qo c w):=by
 have key:∀c:C,∀(v w:V4),E4 v w→E4 (mW c v) (Qo c w):=by
  refine C.ind' fun c ih v w h=>?_
  have hL:∀(l:List C),(∀p∈l,∀(v w:V4),E4 v w→E4 (mW p v) (Qo p w))→∀(v w:V4),E4 v w→E4 (vN l v) (adg l w):=by
   intro l
   induction l with
   | nil=>intro _ v w h;exact h
   | cons p r ihr=>intro hp v w h;exact ihr (fun q hq=>hp q (by simp [hq])) _ _ (hp p (by simp) v w h)
  rw [yZ,Z9];exact hL c.parts ih _ _ (h.add c)
 exact fun c {v w} h=>key c v w h
theorem ahg:∀c:C,iG c=0→∀v:V4,N4 v→N4 (mW c v):=by
 refine C.ind' fun c ih hv v h=>?_;obtain ⟨v1,v2,v3⟩:=JU hv
 have hL:∀(l:List C),(∀p∈l,∀v:V4,N4 v→N4 (mW p v))→∀v:V4,N4 v→N4 (vN l v):=by
  intro l
  induction l with
  | nil=>intro _ v h;exact h
  | cons p r ihr=>intro hp v h;exact ihr (fun q hq=>hp q (by simp [hq])) _ (hp p (by simp) v h)
 rw [yZ];exact hL c.parts (fun p hp=>ih p hp (v3 p hp)) _ (h.add v2)
theorem ZV:∀c:C,∀v:V4,(mW c v).tot≤v.tot+nV c:=by
 refine C.ind' fun c ih v=>?_
 have hL:∀(l:List C),(∀p∈l,∀v:V4,(mW p v).tot≤v.tot+nV p)→∀v:V4,(vN l v).tot≤v.tot+zN l:=by
  intro l
  induction l with
  | nil=>intro _ v;simp [vN,zN]
  | cons p r ihr=>
   intro hp v;have h1:=hp p (by simp) v;have h2:=ihr (fun q hq=>hp q (by simp [hq])) (mW p v);simp only [vN,zN];omega
 have h1:=hL c.parts ih (v.add c);have h2:=afy v c;rw [yZ,CX];omega
structure Ax.Vd (x:Ax):Prop where
 l:emptyS x.left=true∨iG x.left=0∧nV x.left≤64
 r:emptyS x.right=true∨iG x.right=0∧nV x.right≤64
 n:x.roles.length≤4
 rs:∀r∈x.roles,Nd r
 role:Nd x.role
 a:Nd x.a
 b:Nd x.b
theorem aeM {c:C} (h:uP c=0):iG c=0∧nV c≤64:=by
 unfold uP at h
 split at h
 ·cases h
 ·rename_i q;exact ⟨h,by omega⟩
theorem vd {x:Ax} (h:iR x=0):x.Vd:=by
 unfold iR at h
 split at h
 ·cases h
 split at h
 ·cases h
 rename_i hs hn;have hs:oV x=true:=by simpa using hs
 have hn:CB x (kF x.kind)=true:=by simpa using hn
 unfold Uf at h
 split at h
 ·rename_i q;exact absurd h q.2
 split at h
 ·rename_i q;exact absurd h q.2
 rename_i ql qr;unfold oV at hs;simp only [Bool.and_eq_true,Bool.or_eq_true,decide_eq_true_eq] at hs;obtain ⟨⟨⟨⟨⟨⟨⟨s0,s1⟩,s2⟩,s3⟩,s4⟩,s5⟩,s6⟩,s7⟩:=hs;unfold CB at hn;simp only [Bool.and_eq_true,Bool.or_eq_true,Bool.not_eq_true'] at hn;obtain ⟨⟨⟨n1,n2⟩,n3⟩,n4⟩:=hn;have hb:∀u:Bool,u=false→¬u=true:=fun u h=>by rw [h];exact Bool.false_ne_true
 have hps:∀n:Rl,y5 n=true→Nd n:=fun n h=>by
  unfold y5 at h;rw [Bool.or_eq_true] at h;exact .inr h
 refine ⟨?_, ?_, ?_,fun r hr=>.inr (.inl (U5 n4 r hr)), ?_, ?_, ?_⟩
 ·rcases s1 with q|q
  ·exact .inr (aeM (Classical.not_not.1 fun e=>ql ⟨q,e⟩))
  ·exact .inl q
 ·rcases s2 with q|q
  ·exact .inr (aeM (Classical.not_not.1 fun e=>qr ⟨q,e⟩))
  ·exact .inl q
 ·have hk:1≤x.kind∧x.kind≤9:=by simp [CJ] at s0;exact s0
  have hk9:x.kind=1∨x.kind=2∨x.kind=3∨x.kind=4∨x.kind=5∨x.kind=6∨x.kind=7∨x.kind=8∨x.kind=9:=by omega
  have:(kF x.kind).hi≤4:=by rcases hk9 with q|q|q|q|q|q|q|q|q<;>rw [q]<;>decide
  omega
 ·rcases s3 with q|q
  ·rcases n1 with p|p
   ·exact absurd q (hb _ p)
   ·exact .inr (.inl p)
  ·exact .inl q
 ·rcases s4 with q|q
  ·rcases n2 with p|p
   ·exact absurd q (hb _ p)
   ·exact hps _ p
  ·exact .inl q
 ·rcases s5 with q|q
  ·rcases n3 with p|p
   ·exact absurd q (hb _ p)
   ·exact hps _ p
  ·exact .inl q
theorem UU {c:C} (h:emptyS c=true) (v:V4):mW c v=v∧Qo c v=v∧nV c=1:=by
 unfold emptyS at h;simp only [Bool.and_eq_true,decide_eq_true_eq] at h;obtain ⟨⟨⟨⟨h1,h2⟩,h3⟩,h4⟩,h5⟩:=h;have hp:c.parts=[]:=List.eq_nil_of_length_eq_zero (by omega);rw [yZ,Z9,CX,hp];simp [vN,adg,V4.add,V4.addS,h1,zN]
theorem ZW {c:C} (h:emptyS c=true∨iG c=0∧nV c≤64) {v:V4} (hv:N4 v):N4 (mW c v):=by
 rcases h with h|h
 ·rw [(UU h v).1];exact hv
 ·exact ahg c h.1 v hv
theorem Vm {c:C} (h:emptyS c=true∨iG c=0∧nV c≤64):nV c≤64:=by
 rcases h with h|h
 ·rw [(UU h V4.nil).2.2];omega
 ·exact h.2
theorem YC {rs:List Rl}:∀{V:List Rl} {x:Rl},x∈Ey V rs ↔ x∈V∨x∈rs:=by
 induction rs with
 | nil=>intro V x;simp [Ey]
 | cons r rs ih=>
  intro V x;rw [Ey,ih,ja,List.mem_cons];constructor
  ·rintro ((h|h)|h)
   ·exact .inr (.inl h)
   ·exact .inl h
   ·exact .inr (.inr h)
  ·rintro (h|h|h)
   ·exact .inl (.inr h)
   ·exact .inl (.inl h)
   ·exact .inr h
theorem ae7 {rs:List Rl}:∀{V:List Rl},(Ey V rs).length≤V.length+rs.length:=by
 induction rs with
 | nil=>intro V;simp [Ey]
 | cons r rs ih=>
  intro V;have h1:=ih (V:=qO V r);have h2:=DT V r;rw [Ey,List.length_cons];omega
theorem aey {rs:List Rl}:∀{V:List Rl} {x:Rl},x∈rs.foldl zM V ↔ x∈V∨x∈rs:=by
 induction rs with
 | nil=>intro V x;simp
 | cons r rs ih=>
  intro V x;rw [List.foldl_cons,ih,UA,List.mem_cons];constructor
  ·rintro ((h|h)|h)
   ·exact .inr (.inl h)
   ·exact .inl h
   ·exact .inr (.inr h)
  ·rintro (h|h|h)
   ·exact .inl (.inr h)
   ·exact .inl (.inl h)
   ·exact .inr h
theorem acT {x:Ax} (hx:x.Vd) {v w:V4} (hN:N4 v) (hE:E4 v w):N4 (Hf x v)∧E4 (Hf x v) (akj x w)∧(Hf x v).tot≤v.tot+140:=by
 have n1:=ZW hx.l hN;have n2:=ZW hx.r n1;have e2:=acR x.right (acR x.left hE);have t1:=ZV x.left v;have t2:=ZV x.right (mW x.left v);have s1:=Vm hx.l;have s2:=Vm hx.r;have s3:=hx.n;refine ⟨⟨n2.c, ?_,n2.f,Ew (Ew n2.i hx.a) hx.b⟩,⟨e2.c, ?_,e2.f,(e2.i.Ny x.a).Ny x.b⟩, ?_⟩
 ·refine Ew (fun y hy=>?_) hx.role;rcases YC.1 hy with h|h
  ·exact n2.r y h
  ·exact hx.rs y h
 ·intro y hy;show y∈qO (Ey (mW x.right (mW x.left v)).r x.roles) x.role ↔ y∈x.roles.foldl zM (Ny (Qo x.right (Qo x.left w)).r x.role);rw [ja,YC,aey,←(e2.r.Ny x.role) y hy,ja];constructor
  ·rintro (h|h|h)
   ·exact .inl (.inl h)
   ·exact .inl (.inr h)
   ·exact .inr h
  ·rintro ((h|h)|h)
   ·exact .inl h
   ·exact .inr (.inl h)
   ·exact .inr (.inr h)
 ·have l1:=DT (Ey (mW x.right (mW x.left v)).r x.roles) x.role;have l2:=ae7 (V:=(mW x.right (mW x.left v)).r) (rs:=x.roles);have l3:=DT (qO (mW x.right (mW x.left v)).i x.a) x.b;have l4:=DT (mW x.right (mW x.left v)).i x.a;unfold V4.tot at t2 ⊢;simp only [Hf];unfold V4.tot at t1
  try simp only at t1
  omega
theorem AL:∀{l:List Ax},(∀x∈l,x.Vd)→∀{v w:V4},N4 v→E4 v w→N4 (mr l v)∧E4 (mr l v) (YV l w)∧(mr l v).tot≤v.tot+140 * l.length
 | [],_,v,w,hN,hE=>⟨hN,hE,by simp [mr]⟩
 | x::l,hx,v,w,hN,hE=>by
  obtain ⟨h1,h2,h3⟩:=acT (hx x (by simp)) hN hE;obtain ⟨g1,g2,g3⟩:=AL (l:=l) (fun y hy=>hx y (by simp [hy])) h1 h2;refine ⟨g1,g2, ?_⟩;simp only [mr,List.length_cons];omega
end Go.Ai.Z
namespace Go.Ai.Z
theorem RQ:∀(L:List Rl) (a x:Rl),x∈a::oK a L ↔ x∈a::L
 | [],a,x=>by simp [oK]
 | b::r,a,x=>by
  have ih:=RQ r b x;unfold oK;split
  ·rename_i e;subst e;simp only [List.mem_cons] at ih ⊢;rw [ih];simp
  ·simp only [List.mem_cons] at ih ⊢;rw [ih]
theorem acp (L:List Rl) (x:Rl):x∈fQ L ↔ x∈L:=by
 cases L with
 | nil=>simp [fQ]
 | cons a r=>exact RQ r a x
theorem RP:∀(L:List Rl) (a:Rl),(a::L).Pairwise (·≤·)→Srt (a::oK a L)
 | [],a,_=>by simp [oK,Srt]
 | b::r,a,h=>by
  have h1:=List.pairwise_cons.1 h;have ih:=RP r b h1.2;unfold oK;split
  ·rename_i e;subst e;exact ih
  ·rename_i e
   have hab:a<b:=by
    rcases List.le_iff_lt_or_eq.1 (h1.1 b (by simp)) with q|q
    ·exact q
    ·exact absurd q.symm e
   unfold Srt at ih ⊢;refine List.pairwise_cons.2 ⟨fun y hy=>?_,ih⟩;rcases List.mem_cons.1 hy with rfl|hy
   ·exact hab
   ·exact List.lt_trans hab ((List.pairwise_cons.1 ih).1 y hy)
theorem acZ (V:List Rl):Srt (OQ V):=by
 have h:=AP V;unfold OQ
 cases hs:Go.Ai.sortStr V with
 | nil=>simp [fQ,Srt]
 | cons a r=>rw [hs] at h;exact RP r a h
theorem WT (V:List Rl) (x:Rl):x∈OQ V ↔ x∈V:=by
 unfold OQ;rw [acp,(rH V).mem_iff]
theorem ac0 (V:List Rl):(OQ V).length≤V.length:=by
 unfold OQ;have h1:=Yg (Go.Ai.sortStr V);have h2:=(rH V).length_eq;omega
def EI (l:List Ax):List Rl:=vA l++vR l++vF l++vI l
def jU (l:List Ax):List Rl:=OQ ((EI l).flatMap JL)
def Xe (l:List Ax):List Rl:=(YV l V4.nil).all
theorem VK:N4 V4.nil:=⟨by simp [V4.nil],by simp [V4.nil],by simp [V4.nil],by simp [V4.nil]⟩
theorem VL:E4 V4.nil V4.nil:=⟨fun _ _=>Iff.rfl,fun _ _=>Iff.rfl,fun _ _=>Iff.rfl,fun _ _=>Iff.rfl⟩
section
variable {l:List Ax} (h:∀x∈l,x.Vd)
include h
theorem Dl:∀x∈EI l,Nd x:=by
 have hN:=(AL h VK VL).1;intro x hx;unfold EI vA vR vF vI at hx;simp only [List.mem_append,(uG _).mem_iff] at hx;rcases hx with ((hx|hx)|hx)|hx
 ·exact hN.c x hx
 ·exact hN.r x (List.erase_sublist.subset hx)
 ·exact hN.f x hx
 ·exact hN.i x (List.erase_sublist.subset hx)
theorem Uy:(EI l).length≤140 * l.length:=by
 have ht:=(AL h VK VL).2.2;unfold V4.tot at ht;have h1:(Ic (mr l V4.nil).r []).length≤(mr l V4.nil).r.length:=List.erase_sublist.length_le;have h2:(Ic (mr l V4.nil).i []).length≤(mr l V4.nil).i.length:=List.erase_sublist.length_le;unfold EI vA vR vF vI;simp only [List.length_append,(uG _).length_eq];simp only [V4.nil,List.length_nil] at *;omega
theorem GU {x:Rl} (hx:x≠[]):x∈EI l ↔ x∈Xe l:=by
 have hE:=(AL h VK VL).2.1;unfold EI Xe vA vR vF vI V4.all Ic;simp only [List.mem_append,(uG _).mem_iff,List.mem_erase_of_ne hx,hE.c x hx,hE.r x hx,hE.f x hx,hE.i x hx]
theorem ZT {w:Rl}:w∈jU l ↔ ∃n∈Xe l,JR n=w∧w≠[]:=by
 unfold jU;rw [WT,List.mem_flatMap];constructor
 ·rintro ⟨n,hn,hw⟩;obtain ⟨h1,h2⟩:=(RF (Dl h n hn)).1 hw;have h3:n≠[]:=fun e=>by rw [e] at h1;exact h2 (h1 ▸ rfl)
  exact ⟨n,(GU h h3).1 hn,h1,h2⟩
 ·rintro ⟨n,hn,h1,h2⟩;have h3:n≠[]:=fun e=>by rw [e] at h1;exact h2 (h1 ▸ rfl)
  have h4:=(GU h h3).2 hn;exact ⟨n,h4,(RF (Dl h n h4)).2 ⟨h1,h2⟩⟩
theorem afq:(jU l).length≤140 * l.length:=by
 have h1:=ac0 ((EI l).flatMap JL);have h2:=Np (EI l);have h3:=Uy h;unfold jU;omega
theorem afp:∀w∈jU l,w.length≤24:=fun w hw=>by
 unfold jU at hw;rw [WT,List.mem_flatMap] at hw;obtain ⟨n,hn,hw⟩:=hw;have hd:=Dl h n hn;obtain ⟨h1,_⟩:=(RF hd).1 hw
 have:=hd.len
 have:=agz n
 rw [←h1];omega
theorem ahT:∀n∈EI l,n.length≤1000000:=fun n hn=>by have:=(Dl h n hn).len;omega
end
def Kr:Rl:=[111,119,108]
def OM:Rl:=[120,115,100]
end Go.Ai.Z
namespace Go.Ai.Z
def XH (p:Rl):Bool:=p.all fun b=>XI b.toNat
section
variable (L0:AV) (p:Rl) (LL:List (List Rl)) (hLL:LL.length≤100) (hT:∀T∈LL,T.length≤50000) (hn:∀T∈LL,∀x∈T,x.length≤1000000) (s:St) (cx:Ctx)
include hT hn
end
end Go.Ai.Z
