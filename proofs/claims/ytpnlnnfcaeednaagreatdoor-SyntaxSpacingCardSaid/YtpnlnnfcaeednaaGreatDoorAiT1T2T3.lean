/-
 The order of concepts is an order; sorted lists of concepts are unique.
-/
import Derived.Test.YtpnlnnfcaeednaaGreatDoorAiK5K6K7InjInj2Inj3Inj4KI
set_option maxRecDepth 100000
set_option linter.unusedSimpArgs false
set_option linter.unusedVariables false
set_option linter.unusedSectionVars false
namespace Go.Ai.Z
open Go.Lib (compareBytes)
structure yt {α:Type} (S:α→Prop) (f:α→α→Int):Prop where
 refl:∀a,S a→f a a=0
 anti:∀a b,S a→S b→(f a b<0 ↔ 0<f b a)
 trans:∀a b c,S a→S b→S c→f a b≤0→f b c≤0→f a c≤0
section
variable {α:Type} {S:α→Prop} {f g:α→α→Int}
theorem yt.zero (h:yt S f) {a b:α} (ha:S a) (hb:S b) (h0:f a b=0):f b a=0:=by
 have h1:=h.anti a b ha hb
 have h2:=h.anti b a hb ha
 omega
theorem yt.subst (h:yt S f) {a b c:α} (ha:S a) (hb:S b) (hc:S c) (h0:f a b=0):(f a c≤0 ↔ f b c≤0)∧(f c a≤0 ↔ f c b≤0):=by
 have h1:=h.zero ha hb h0
 exact ⟨⟨fun q=>h.trans b a c hb ha hc (by omega) q,fun q=>h.trans a b c ha hb hc (by omega) q⟩,⟨fun q=>h.trans c a b hc ha hb q (by omega),fun q=>h.trans c b a hc hb ha q (by omega)⟩⟩
theorem yt.lt_trans (h:yt S f) {a b c:α} (ha:S a) (hb:S b) (hc:S c) (h1:f a b<0) (h2:f b c≤0):f a c<0:=by
 have h3:=h.trans a b c ha hb hc (by omega) h2
 by_cases h0:f a c=0
 ·have h4:=h.zero ha hc h0
  have h5:=h.trans b c a hb hc ha h2 (by omega)
  have:=(h.anti a b ha hb).1 h1
  omega
 ·omega
theorem yt.le_lt (h:yt S f) {a b c:α} (ha:S a) (hb:S b) (hc:S c) (h1:f a b≤0) (h2:f b c<0):f a c<0:=by
 have h3:=h.trans a b c ha hb hc h1 (by omega)
 by_cases h0:f a c=0
 ·have h4:=h.zero ha hc h0
  have h5:=h.trans c a b hc ha hb (by omega) h1
  have:=(h.anti b c hb hc).1 h2
  omega
 ·omega
theorem yt.lex (hf:yt S f) (hg:yt S g):yt S (fun a b=>if f a b=0 then g a b else f a b) where
 refl a ha:=by simp [hf.refl a ha,hg.refl a ha]
 anti a b ha hb:=by
  have h1:=hf.anti a b ha hb
  have h2:=hf.anti b a hb ha
  have h3:=hg.anti a b ha hb
  by_cases h:f a b=0
  ·have h':f b a=0:=hf.zero ha hb h
   simp only [h,h',if_true];exact h3
  ·have h':f b a≠0:=fun h'=>h (hf.zero hb ha h')
   simp only [h,h',if_false];exact h1
 trans a b c ha hb hc:=by
  intro h1 h2
  by_cases e1:f a b=0
  ·by_cases e2:f b c=0
   ·have e3:f a c=0:=by
     have q1:=hf.trans a b c ha hb hc (by omega) (by omega)
     have q2:=hf.trans c b a hc hb ha (by have:=hf.zero hb hc e2;omega) (by have:=hf.zero ha hb e1;omega)
     have q3:=hf.anti a c ha hc
     have q4:=hf.anti c a hc ha
     omega
    simp only [e1,e2,e3,if_true] at h1 h2 ⊢
    exact hg.trans a b c ha hb hc h1 h2
   ·simp only [e2,if_false] at h2
    have:=hf.le_lt ha hb hc (by omega) (show f b c<0 by omega)
    have e3:f a c≠0:=by omega
    simp only [e3,if_false];omega
  ·simp only [e1,if_false] at h1
   have h2':f b c≤0:=by
    by_cases e2:f b c=0
    ·omega
    ·simpa only [e2,if_false] using h2
   have:=hf.lt_trans ha hb hc (show f a b<0 by omega) h2'
   have e3:f a c≠0:=by omega
   simp only [e3,if_false];omega
theorem yt.pull {β:Type} {T:β→Prop} (h:yt S f) (p:β→α) (hp:∀b,T b→S (p b)):yt T (fun a b=>f (p a) (p b)):=
 ⟨fun a ha=>h.refl _ (hp a ha),fun a b ha hb=>h.anti _ _ (hp a ha) (hp b hb),fun a b c ha hb hc=>h.trans _ _ _ (hp a ha) (hp b hb) (hp c hc)⟩
theorem yt.mono {T:α→Prop} (h:yt S f) (hp:∀b,T b→S b):yt T f:=h.pull id hp
end
theorem adR:yt (fun _=>True) yL where
 refl a _:=by simp [yL]
 anti a b _ _:=by unfold yL;(repeat' split)<;>omega
 trans a b c _ _ _:=by unfold yL;(repeat' split)<;>omega
theorem Zo:yt (fun _=>True) compareBytes:=by
 have h8:∀x y:UInt8,x<y ↔ x.toNat<y.toNat:=fun x y=>UInt8.lt_iff_toNat_lt
 have anti:∀a b:List UInt8,compareBytes a b<0 ↔ 0<compareBytes b a:=by
  intro a
  induction a with
  | nil=>intro b;cases b<;>simp [compareBytes]
  | cons x a ih=>
   intro b
   cases b with
   | nil=>simp [compareBytes]
   | cons y b=>
    simp only [compareBytes,h8]
    by_cases h1:x.toNat<y.toNat
    ·have:¬y.toNat<x.toNat:=by omega
     simp [h1,this]
    ·by_cases h2:y.toNat<x.toNat
     ·simp [h1,h2]
     ·simp only [h1,h2,if_false];exact ih b
 have trans:∀a b c:List UInt8,compareBytes a b≤0→compareBytes b c≤0→compareBytes a c≤0:=by
  intro a
  induction a with
  | nil=>intro b c _ _;cases c<;>simp [compareBytes]
  | cons x a ih=>
   intro b c h1 h2
   cases b with
   | nil=>simp [compareBytes] at h1
   | cons y b=>
    cases c with
    | nil=>simp [compareBytes] at h2
    | cons z c=>
     simp only [compareBytes,h8] at h1 h2 ⊢
     by_cases e1:x.toNat<y.toNat
     ·by_cases e2:y.toNat<z.toNat
      ·simp [show x.toNat<z.toNat by omega]
      ·by_cases e3:z.toNat<y.toNat
       ·simp [e2,e3] at h2
       ·simp [show x.toNat<z.toNat by omega]
     ·by_cases e1':y.toNat<x.toNat
      ·simp [e1,e1'] at h1
      ·simp only [e1,e1',if_false] at h1
       by_cases e2:y.toNat<z.toNat
       ·simp [show x.toNat<z.toNat by omega]
       ·by_cases e3:z.toNat<y.toNat
        ·simp [e2,e3] at h2
        ·simp only [e2,e3,if_false] at h2
         simp only [show ¬x.toNat<z.toNat by omega,show ¬z.toNat<x.toNat by omega,if_false]
         exact ih b c h1 h2
 exact ⟨fun a _=>(xQ a a).2 rfl,fun a b _ _=>anti a b,fun a b c _ _ _=>trans a b c⟩
theorem abK {S:C→Prop} (h:yt S kS):yt (fun l:List C=>∀x∈l,S x) nY:=by
 refine ⟨fun l=>?_,fun l=>?_,fun l=>?_⟩
 ·induction l with
  | nil=>intro _;simp [nY]
  | cons a l ih=>intro hl;simp [nY,h.refl a (hl a (by simp)),ih (fun x hx=>hl x (by simp [hx]))]
 ·induction l with
  | nil=>intro m _ _;cases m<;>simp [nY]
  | cons a l ih=>
   intro m hl hm
   cases m with
   | nil=>simp [nY]
   | cons b m=>
    have h1:=h.anti a b (hl a (by simp)) (hm b (by simp))
    by_cases e:kS a b=0
    ·have e':=h.zero (hl a (by simp)) (hm b (by simp)) e
     simp only [nY,e,e',if_true]
     exact ih m (fun x hx=>hl x (by simp [hx])) (fun x hx=>hm x (by simp [hx]))
    ·have e':kS b a≠0:=fun e'=>e (h.zero (hm b (by simp)) (hl a (by simp)) e')
     simp only [nY,e,e',if_false];exact h1
 ·induction l with
  | nil=>intro m k _ _ _ _ _;cases k<;>simp [nY]
  | cons a l ih=>
   intro m k hl hm hk h1 h2
   cases m with
   | nil=>simp [nY] at h1
   | cons b m=>
    cases k with
    | nil=>simp [nY] at h2
    | cons c k=>
     have ha:=hl a (by simp);have hb:=hm b (by simp);have hc:=hk c (by simp)
     simp only [nY] at h1 h2 ⊢
     by_cases e1:kS a b=0
     ·by_cases e2:kS b c=0
      ·have e3:kS a c=0:=by
        have q1:=h.trans a b c ha hb hc (by omega) (by omega)
        have q2:=h.trans c b a hc hb ha (by have:=h.zero hb hc e2;omega) (by have:=h.zero ha hb e1;omega)
        have q3:=h.anti a c ha hc
        have q4:=h.anti c a hc ha
        omega
       simp only [e1,e2,e3,if_true] at h1 h2 ⊢
       exact ih m k (fun x hx=>hl x (by simp [hx])) (fun x hx=>hm x (by simp [hx])) (fun x hx=>hk x (by simp [hx])) h1 h2
      ·simp only [e2,if_false] at h2
       have:=h.le_lt ha hb hc (by omega) (show kS b c<0 by omega)
       simp only [show kS a c≠0 by omega,if_false];omega
     ·simp only [e1,if_false] at h1
      have h2':kS b c≤0:=by
       by_cases e2:kS b c=0
       ·omega
       ·simpa only [e2,if_false] using h2
      have:=h.lt_trans ha hb hc (show kS a b<0 by omega) h2'
      simp only [show kS a c≠0 by omega,if_false];omega
theorem abL (S:C→Prop):yt S CZ:=by
 have hI:∀p:C→Int,yt S (fun a b=>yL (p a) (p b)):=fun p=>adR.pull p (fun _ _=>trivial)
 have hB:yt S (fun a b=>compareBytes a.name b.name):=Zo.pull (fun c:C=>c.name) (fun _ _=>trivial)
 have hz:yt S (fun _ _=>(0:Int)):=⟨fun _ _=>rfl,fun _ _ _ _=>by simp,fun _ _ _ _ _ _ _ _=>by simp⟩
 have:=(hI (fun c=>(dR c:Int))).lex ((hI (fun c=>c.kind)).lex (hB.lex ((hI (fun c=>c.lo)).lex ((hI (fun c=>c.hi)).lex hz))))
 exact this
theorem VN:∀n:Nat,yt (fun c=>dR c<n) kS
 | 0=>⟨fun _ h=>absurd h (Nat.not_lt_zero _),fun _ _ h=>absurd h (Nat.not_lt_zero _),fun _ _ _ h=>absurd h (Nat.not_lt_zero _)⟩
 | n+1=>by
  have ih:=abK (VN n)
  have hp:∀c:C,dR c<n+1→∀x∈c.parts,dR x<n:=fun c hc x hx=>by
   have:=BU hx
   rw [nT] at hc;omega
  have h2:yt (fun c=>dR c<n+1) (fun a b=>nY a.parts b.parts):=ih.pull (fun c:C=>c.parts) hp
  have:=(abL (fun c=>dR c<n+1)).lex h2
  exact ⟨fun a ha=>by rw [xR];exact this.refl a ha,fun a b ha hb=>by rw [xR,xR];exact this.anti a b ha hb,fun a b c ha hb hc=>by rw [xR,xR,xR];exact this.trans a b c ha hb hc⟩
theorem mX:yt (fun _:C=>True) kS:=by
 refine ⟨fun a _=>(VN (dR a+1)).refl a (by simp),fun a b _ _=>?_,fun a b c _ _ _=>?_⟩
 ·exact (VN (dR a+dR b+1)).anti a b (by show _<_;omega) (by show _<_;omega)
 ·exact (VN (dR a+dR b+dR c+1)).trans a b c (by show _<_;omega) (by show _<_;omega) (by show _<_;omega)
theorem Z9:∀c:C,nz (nz c)=nz c:=by
 refine C.ind' fun c ih=>?_
 have h:(c.parts.map nz).map nz=c.parts.map nz:=by
  rw [List.map_map]
  exact List.map_congr_left (fun x hx=>ih x hx)
 rw [Es (nz c),uj,xK,Ue,Uf,nU,h,Es c]
theorem Pz (a b:C):kS (nz a) (nz b)=kS a b:=by
 have key:∀a:C,∀b,kS (nz a) (nz b)=kS a b:=by
  refine C.ind' fun a ih b=>?_
  have hl:∀(x y:List C),(∀p∈x,p∈a.parts)→nY (x.map nz) (y.map nz)=nY x y:=by
   intro x
   induction x with
   | nil=>intro y _;cases y<;>simp [nY]
   | cons p x ihx=>
    intro y hx
    cases y with
    | nil=>simp [nY]
    | cons q y=>simp only [List.map_cons,nY,ih p (hx p (by simp)) q,ihx y (fun z hz=>hx z (by simp [hz]))]
  rw [xR,xR a b]
  have hh:CZ (nz a) (nz b)=CZ a b:=by
   simp only [CZ,Jy,uj,xK,Ue,Uf]
  rw [hh,nU,nU,hl a.parts b.parts (fun p hp=>hp)]
 exact key a b
def XB (x:C):List C→List C
 | []=>[x]
 | y::r=>if kS y x<0 then y::XB x r else x::y::r
def qJ:List C→List C
 | []=>[]
 | x::r=>XB x (qJ r)
def zS (l:List C):Prop:=l.Pairwise fun a b=>kS a b≤0
theorem L6 (x:C):∀l,(XB x l).Perm (x::l)
 | []=>.refl _
 | y::r=>by
  simp only [XB]
  split
  ·exact (List.Perm.cons y (L6 x r)).trans (List.Perm.swap x y r)
  ·exact .refl _
theorem uG:∀l,(qJ l).Perm l
 | []=>.refl _
 | x::r=>(L6 x _).trans (List.Perm.cons x (uG r))
theorem NV (x:C):∀l,zS l→zS (XB x l)
 | [],_=>by simp [XB,zS]
 | y::r,h=>by
  obtain ⟨h1,h2⟩:=List.pairwise_cons.1 h
  simp only [XB]
  split
  ·rename_i hlt
   refine List.pairwise_cons.2 ⟨fun z hz=>?_,NV x r h2⟩
   rcases List.mem_cons.1 ((L6 x r).mem_iff.1 hz) with rfl|hz
   ·omega
   ·exact h1 z hz
  ·rename_i hnlt
   have hxy:kS x y≤0:=by
    have:=mX.anti y x trivial trivial
    omega
   refine List.pairwise_cons.2 ⟨fun z hz=>?_,h⟩
   rcases List.mem_cons.1 hz with rfl|hz
   ·exact hxy
   ·exact mX.trans x y z trivial trivial trivial hxy (h1 z hz)
theorem BJ:∀l,zS (qJ l)
 | []=>.nil
 | x::r=>NV x _ (BJ r)
theorem aaN {l m:List C} (hp:m.Perm l) (hs:zS m):m.map nz=qJ (l.map nz):=by
 have h1:(m.map nz).Perm (qJ (l.map nz)):=(hp.map nz).trans (uG _).symm
 refine List.Perm.eq_of_pairwise (le:=fun a b=>kS a b≤0) ?_ ?_ (BJ _) h1
 ·intro a b ha hb h2 h3
  obtain ⟨x,_,rfl⟩:=List.mem_map.1 ha
  obtain ⟨y,_,rfl⟩:=List.mem_map.1 ((uG _).mem_iff.1 hb)
  have h4:=mX.anti (nz x) (nz y) trivial trivial
  have h5:=mX.anti (nz y) (nz x) trivial trivial
  have h0:kS (nz x) (nz y)=0:=by omega
  have:=(GY _ _).1 h0
  rwa [Z9,Z9] at this
 ·exact List.Pairwise.map nz (fun a b hab=>by rw [Pz];exact hab) hs
def oH (a:C):List C→List C
 | []=>[]
 | b::r=>if kS b a=0 then oH b r else b::oH b r
def comp:List C→List C
 | []=>[]
 | a::r=>a::oH a r
theorem RJ (a:C):∀l:List C,(oH a l).map nz=oH (nz a) (l.map nz)
 | []=>rfl
 | b::r=>by
  simp only [oH,List.map_cons,Pz]
  split
  ·exact RJ b r
  ·simp [RJ b r]
theorem aeS (l:List C):(comp l).map nz=comp (l.map nz):=by
 cases l with
 | nil=>rfl
 | cons a r=>simp [comp,RJ]
theorem GX (a:C):∀l:List C,(oH a l).Sublist l
 | []=>.refl _
 | b::r=>by
  simp only [oH]
  split
  ·exact (GX b r).cons b
  ·exact (GX b r).cons_cons b
theorem Dl:∀l:List C,(comp l).Sublist l
 | []=>.refl _
 | a::r=>(GX a r).cons_cons a
end Go.Ai.Z
namespace Go.Ai.Z
open Go.Lib (compareBytes)
@[simp] theorem agp {env:Env} {l ver sz o n:Nat}:AL env (some (.v (.sk l ver sz o n)))=none:=rfl
def flT:List C→List AV
 | []=>[]
 | c::r=>[.i .i64 c.kind,.s c.name,.i .i64 c.lo,.i .i64 c.hi,slf c.z (c.parts.map bD),.i .i64 (dR c:Int),slf true (c.parts.map kE)]++flT r
theorem VF:∀x y:List C,flT (x++y)=flT x++flT y
 | [],y=>rfl
 | c::x,y=>by simp only [List.cons_append,flT,VF x y,List.append_assoc]
@[simp] theorem Bl:∀l:List C,(flT l).length=l.length * 7
 | []=>rfl
 | c::r=>by simp only [flT,List.length_append,Bl r,List.length_cons,List.length_nil];omega
@[simp] theorem Rx (L:List C) (c:C):flT L++[.i .i64 c.kind,.s c.name,.i .i64 c.lo,.i .i64 c.hi,slf c.z (c.parts.map bD),.i .i64 (dR c:Int),slf true (c.parts.map kE)]=flT (L++[c]):=by
 rw [VF];rfl
theorem F6:∀(L:List C) (i:Nat) (z:List AV),i≤L.length→(flT L++z).drop (i * 7)=flT (L.drop i)++z
 | L,0,z,_=>by simp
 | [],i+1,z,h=>absurd h (by simp)
 | c::r,i+1,z,h=>by
  have e:(i+1) * 7=7+i * 7:=by omega
  rw [e,←List.drop_drop]
  simp only [flT,List.cons_append,List.nil_append,List.drop_succ_cons,List.drop_zero]
  exact F6 r i z (by simpa using h)
theorem Kv:∀(L:List C) (i:Nat) (z:List AV),i≤L.length→(flT L++z).take (i * 7)=flT (L.take i)
 | L,0,z,_=>by simp [flT]
 | [],i+1,z,h=>absurd h (by simp)
 | c::r,i+1,z,h=>by
  have e:(i+1) * 7=i * 7+7:=by omega
  rw [e]
  simp only [flT,List.cons_append,List.nil_append,List.take_succ_cons]
  rw [Kv r i z (by simpa using h)]
theorem acQ (L:List C) (z:List AV) (i:Nat) (h:i<L.length):part (flT L++z) (i * 7) (some 7)=some (kE L[i]):=by
 have hd:=F6 L i z (by omega)
 have hl:i * 7+7≤(flT L++z).length:=by
  rw [List.length_append,Bl];have:(i+1) * 7≤L.length * 7:=Nat.mul_le_mul_right 7 h;omega
 simp only [part,if_pos hl,hd]
 have:L.drop i=L[i]::L.drop (i+1):=List.drop_eq_getElem_cons h
 rw [this,Eg]
 simp [flT]
theorem Ed (L:List C) (z:List AV) (i:Nat) (h:i<L.length):AV.ag (((flT L++z).drop (i * 7)).take 7)=kE L[i]:=by
 have hl:i * 7+7≤(flT L++z).length:=by
  rw [List.length_append,Bl];have:(i+1) * 7≤L.length * 7:=Nat.mul_le_mul_right 7 h;omega
 have:=acQ L z i h
 simp only [part,if_pos hl,Option.some.injEq] at this
 exact this
theorem GU (L:List C) (z:List AV) (i:Nat) (h:i<L.length):i * 7+7≤L.length * 7+z.length:=by
 have:(i+1) * 7≤L.length * 7:=Nat.mul_le_mul_right 7 h
 omega
theorem Yx (L:List C) (z:List AV) (i:Nat) (h:i<L.length) (c:C):
  splice (flT L++z) (i * 7) [.i .i64 c.kind,.s c.name,.i .i64 c.lo,.i .i64 c.hi,slf c.z (c.parts.map bD),.i .i64 (dR c:Int),slf true (c.parts.map kE)]=flT (L.set i c)++z:=by
 have h1:=Kv L i z (by omega)
 have h2:=F6 L (i+1) z (by omega)
 have e:i * 7+7=(i+1) * 7:=by omega
 simp only [splice,List.length_cons,List.length_nil,Nat.zero_add,Nat.reduceAdd,h1]
 rw [e,h2,←List.append_assoc]
 congr 1
 rw [show flT (L.take i)++[AV.i .i64 c.kind,.s c.name,.i .i64 c.lo,.i .i64 c.hi,slf c.z (c.parts.map bD),.i .i64 (dR c:Int),slf true (c.parts.map kE)]=flT (L.take i++[c]) from Rx _ _,←VF]
 congr 1
 rw [List.set_eq_take_append_cons_drop,if_pos h];simp
theorem X9 (c d:C) (hc:wC c≤1000) (hd:wC d≤1000) (s:St) (cx:Ctx):ah P0 (.fn (.func pz) [] []) [kE c,kE d] s cx=.ret (.b (kS c d == 0)) s:=by
 refine OM (by simp) ?_
 have e1:=Gf c hc d hd
 simp [af,wF,e1]
theorem UD (a:C):∀(l:List C) (b:C),oH a (l++[b])=if kS b (l.getLastD a)=0 then oH a l else oH a l++[b]
 | [],b=>by simp [oH]
 | x::l,b=>by
  simp only [List.cons_append,oH]
  have h:=UD x l b
  have hl:(x::l).getLastD a=l.getLastD x:=List.getLastD_cons
  rw [h,hl]
  split<;>split<;>rfl
theorem UC (L:List C) (j:Nat) (h:j+1<L.length):comp (L.take (j+2))=if kS L[j+1] L[j]=0 then comp (L.take (j+1)) else comp (L.take (j+1))++[L[j+1]]:=by
 have h1:L.take (j+2)=L.take (j+1)++[L[j+1]]:=List.take_succ_eq_append_getElem h
 rw [h1]
 have h2:∃a r,L.take (j+1)=a::r∧r.getLastD a=L[j]:=by
  have h3:L.take (j+1)=L.take j++[L[j]]:=List.take_succ_eq_append_getElem (by omega)
  rw [h3]
  cases hL:L.take j with
  | nil=>exact ⟨_,_,rfl,rfl⟩
  | cons a r=>exact ⟨a,r++[L[j]],rfl,by simp⟩
 obtain ⟨a,r,e1,e2⟩:=h2
 rw [e1]
 simp only [List.cons_append,comp,UD,e2]
 split<;>rfl
theorem aas (l:List C):(comp l).length≤l.length:=(Dl l).length_le
end Go.Ai.Z
namespace Go.Ai.Z
def avM:AV:=.fn (.func pz) [] []
section
variable (L:List C) (hL:L.length≤100000) (hw:∀c∈L,wC c≤1000) (s:St) (cx:Ctx) (l t ver:Nat) (z:List AV) (hl:l<s.length) (hlim:cx.lim≤l) (hbase:cx.base≤l)
include hL hw hl hlim hbase
theorem QV (k0:Nat) (hk0:1≤k0):∀(d q:Nat),k0+q+1+d=L.length→(comp (L.take (k0+q+1))).length≤k0+q→
  ∃k2:Int,eX (aC P0.glob (ah P0) cx true dh) [0,1,5,6,7]
   [(0,.v (.sk l ver 7 0 L.length)),(1,.v avM),(5,.v (.i .i64 (comp (L.take (k0+q+1))).length)),(6,.v (.sk l ver 7 (k0 * 7) (L.length - k0))),(7,.v (.i .i64 ((q+1:Nat):Int)))]
   (s.set l (.buf t 7 ver (flT (comp (L.take (k0+q+1))++L.drop (comp (L.take (k0+q+1))).length)++z)))=
   .exit 2 [(0,.v (.sk l ver 7 0 L.length)),(1,.v avM),(5,.v (.i .i64 (comp L).length)),(6,.v (.sk l ver 7 (k0 * 7) (L.length - k0))),(7,.v (.i .i64 k2)),(35,.v (.b false))]
   (s.set l (.buf t 7 ver (flT (comp L++L.drop (comp L).length)++z)))
 | 0,q,hd,hq=>by
  have h1:L.take (k0+q+1)=L:=List.take_of_length_le (by omega)
  have h2:¬(q+1<L.length - k0):=by omega
  refine ⟨((q+1:Nat):Int),ak fun K hK=>?_⟩
  rw [h1]
  simp [dh,h2]
  repeat' (first | (split<;>(try simp only [kz,kC,kF,pR,pU])<;>(try simp [*])) | (simp only [kz,kC,kF,pR,pU]<;>(try simp [*]))|omega)
 | d+1,q,hd,hq=>by
  have hj:k0+q+1<L.length:=by omega
  have hct:=UC L (k0+q) hj
  obtain ⟨k2,ih⟩:=QV k0 hk0 d (q+1) (by omega) (by
   rw [show k0+(q+1)+1=k0+q+2 by omega,hct]
   split
   ·omega
   ·simp;omega)
  refine ⟨k2,ak fun K hK=>?_⟩
  rw [←hK] at ih
  clear hK
  have hwl:=hq
  rw [show k0+(q+1)+1=k0+q+2 by omega,hct] at ih
  generalize hW:comp (L.take (k0+q+1))=W at ih hwl
  have h2:q+1<L.length - k0:=by omega
  generalize hM:W++L.drop W.length=M
  have hMl:M.length=L.length:=by rw [←hM];simp;omega
  have hg:∀i,W.length≤i→i<L.length→M[i]?=L[i]?:=by
   intro i h3 h4
   rw [←hM,List.getElem?_append_right h3,List.getElem?_drop];congr 1;omega
  have hp1:AV.ag (((flT M++z).drop (k0 * 7+(q+1) * 7)).take 7)=kE L[k0+q+1]:=by
   have h3:k0+q+1<M.length:=by omega
   have h5:=hg (k0+q+1) (by omega) hj
   rw [List.getElem?_eq_getElem h3,List.getElem?_eq_getElem hj] at h5
   rw [show k0 * 7+(q+1) * 7=(k0+q+1) * 7 by omega,Ed M z _ h3,Option.some.inj h5]
  have hp2:AV.ag (((flT M++z).drop (k0 * 7+q * 7)).take 7)=kE L[k0+q]:=by
   have h3:k0+q<M.length:=by omega
   have h5:=hg (k0+q) (by omega) (by omega)
   rw [List.getElem?_eq_getElem h3,List.getElem?_eq_getElem (by omega:k0+q<L.length)] at h5
   rw [show k0 * 7+q * 7=(k0+q) * 7 by omega,Ed M z _ h3,Option.some.inj h5]
  have hb1:k0 * 7+(q+1) * 7+7≤M.length * 7+z.length:=by have:=GU M z (k0+q+1) (by omega);omega
  have hb2:k0 * 7+q * 7+7≤M.length * 7+z.length:=by have:=GU M z (k0+q) (by omega);omega
  have e1:=X9 L[k0+q+1] L[k0+q] (hw _ (List.getElem_mem _)) (hw _ (List.getElem_mem _))
  have hs:=Yx M z W.length (by omega) L[k0+q+1]
  have hset:M.set W.length L[k0+q+1]=(W++[L[k0+q+1]])++L.drop (W++[L[k0+q+1]]).length:=by
   rw [←hM]
   have h3:L.drop W.length=L[W.length]'(by omega)::L.drop (W.length+1):=List.drop_eq_getElem_cons (by omega)
   rw [h3,List.set_append_right _ _ (Nat.le_refl _),Nat.sub_self,List.set_cons_zero]
   simp
  rw [hset] at hs
  have hwi1:IntKind.i64.wrap (q:Int)=(q:Int):=by rw [w64]<;>omega
  have hwi2:IntKind.i64.wrap ((q:Int)+1+1)=(q:Int)+1+1:=by rw [w64]<;>omega
  have h2i:(q:Int)+1<((L.length - k0:Nat):Int):=by omega
  have h2j:q<L.length - k0:=by omega
  have h00:(0:Int)≤(q:Int)+1:=by omega
  have hWL:W.length<L.length:=by omega
  have hwi3:=wI (i:=W.length) (by omega)
  have hfit:W.length * 7+7≤M.length * 7+z.length:=by have:(W.length+1) * 7≤M.length * 7:=Nat.mul_le_mul_right 7 (by omega);omega
  clear hct hq hW hg hset
  by_cases hc:kS L[k0+q+1] L[k0+q]=0
  ·rw [if_pos hc,hM] at ih
   simp [dh,avM,h00,hWL,h2,h2i,h2j,hl,hp1,hp2,hb1,hb2,e1,hwi1,hwi2,hc] at ih ⊢
   exact ih
  ·rw [if_neg hc] at ih
   simp [dh,avM,h00,hWL,h2,h2i,h2j,hl,hp1,hp2,hb1,hb2,e1,hwi1,hwi2,hwi3,hc,hfit,hlim,hbase] at ih ⊢
   simp [splice] at hs
   rw [hs]
   exact ih
def oM (L:List C) (z:List AV):List AV:=
 if (comp L).length=L.length then flT L++z else flT (comp L)++((List.replicate (L.length - (comp L).length) [AV.i .i64 0,.s [],.i .i64 0,.i .i64 0,.ns,.i .i64 0,.ns]).flatten++z)
theorem QW:∀(d k:Nat),k+1+d=L.length→comp (L.take (k+1))=L.take (k+1)→
  eX (aC P0.glob (ah P0) cx true dn) [0,1,5]
   [(0,.v (.sk l ver 7 0 L.length)),(1,.v avM),(5,.v (.i .i64 ((k+1:Nat):Int)))] (s.set l (.buf t 7 ver (flT L++z)))=
   if (comp L).length=L.length then .exit 0 [(0,.v (.sk l ver 7 0 L.length)),(1,.v avM),(5,.v (.i .i64 L.length)),(15,.v (.b false))] (s.set l (.buf t 7 ver (oM L z)))
   else .ret [(4,.v (.sk l ver 7 0 (comp L).length))] (s.set l (.buf t 7 ver (oM L z)))
 | 0,k,hd,hc=>by
  have h1:L.take (k+1)=L:=List.take_of_length_le (by omega)
  rw [h1] at hc
  have h2:¬((k:Int)+1<(L.length:Int)):=by omega
  have h3:(k:Int)+1=(L.length:Int):=by omega
  refine ak fun K hK=>?_
  simp [dn,h2,hc,oM]
  exact h3
 | d+1,k,hd,hcm=>by
  have hj:k+1<L.length:=by omega
  have hct:=UC L k hj
  refine ak fun K hK=>?_
  have h2:(k:Int)+1<(L.length:Int):=by omega
  have hp1:AV.ag (((flT L++z).drop ((k+1) * 7)).take 7)=kE L[k+1]:=Ed L z _ hj
  have hp2:AV.ag (((flT L++z).drop (k * 7)).take 7)=kE L[k]:=Ed L z _ (by omega)
  have hb1:=GU L z (k+1) hj
  have hb2:=GU L z k (by omega)
  have e1:=X9 L[k+1] L[k] (hw _ (List.getElem_mem _)) (hw _ (List.getElem_mem _))
  have hwi1:IntKind.i64.wrap (k:Int)=(k:Int):=by rw [w64]<;>omega
  have hwi2:IntKind.i64.wrap ((k:Int)+1+1)=(k:Int)+1+1:=by rw [w64]<;>omega
  have h2j:k<L.length:=by omega
  have h00:(0:Int)≤(k:Int)+1:=by omega
  by_cases hc:kS L[k+1] L[k]=0
  ·-- the first repetition: the inner loop
   rw [if_pos hc,hcm] at hct
   have hne:¬(comp L).length=L.length:=by
    intro hel
    have he:comp L=L:=(Dl L).eq_of_length hel
    have h3:(comp (L.take (k+2))).length=k+2:=by
     have h4:∀(a:C) (x y:List C),oH a (x++y)=x++y→oH a x=x:=by
      intro a x
      induction x generalizing a with
      | nil=>intro y _;rfl
      | cons b x ih=>
       intro y h5
       simp only [List.cons_append,oH] at h5 ⊢
       split at h5
       ·have:=(GX b (x++y)).length_le
        rw [h5] at this;simp at this;omega
       ·rename_i h6
        rw [if_neg h6]
        injection h5 with _ h7
        rw [ih b y h7]
     have h5:comp (L.take (k+2)++L.drop (k+2))=L.take (k+2)++L.drop (k+2):=by rw [List.take_append_drop];exact he
     have h6:comp (L.take (k+2))=L.take (k+2):=by
      cases hx:L.take (k+2) with
      | nil=>rfl
      | cons a x=>
       rw [hx] at h5
       simp only [List.cons_append,comp] at h5 ⊢
       injection h5 with _ h7
       rw [h4 a x _ h7]
     rw [h6];simp;omega
    rw [hct] at h3;simp at h3;omega
   obtain ⟨k2,hin⟩:=QV L hL hw s cx l t ver z hl hlim hbase (k+1) (by omega) (L.length - (k+2)) 0 (by omega) (by
    show (comp (L.take (k+2))).length≤_
    rw [hct];simp;omega)
   have hk2:comp (L.take (k+1+0+1))=L.take (k+1):=hct
   rw [hk2] at hin
   have htd:L.take (k+1)++L.drop (L.take (k+1)).length=L:=by
    rw [List.length_take,Nat.min_eq_left (by omega)];exact List.take_append_drop _ _
   rw [htd,List.length_take,Nat.min_eq_left (by omega)] at hin
   have hcl:=aas L
   have hclt:(comp L).length<L.length:=by omega
   rw [if_neg hne]
   obtain ⟨m,hm⟩:∃m,L.length - (comp L).length=m+1:=⟨L.length - (comp L).length - 1,by omega⟩
   have hcells:oM L z=flT (comp L)++((List.replicate (m+1) [AV.i .i64 0,.s [],.i .i64 0,.i .i64 0,.ns,.i .i64 0,.ns]).flatten++z):=by rw [oM,if_neg hne,hm]
   have hfit:(comp L).length * 7+(m+1) * 7≤L.length * 7+z.length:=by have:L.length=(comp L).length+(m+1):=by omega
                                                                     rw [this,Nat.add_mul];omega
   have hzl:(List.replicate (m+1) [AV.i .i64 0,.s [],.i .i64 0,.i .i64 0,.ns,.i .i64 0,.ns]).flatten.length=(m+1) * 7:=by
    rw [List.length_flatten];simp
   have hdl:(L.drop (comp L).length).length=m+1:=by simp;omega
   have hspl:splice (flT (comp L++L.drop (comp L).length)++z) ((comp L).length * 7) (List.replicate (m+1) [AV.i .i64 0,.s [],.i .i64 0,.i .i64 0,.ns,.i .i64 0,.ns]).flatten=oM L z:=by
    rw [hcells]
    unfold splice
    rw [hzl]
    have hLc:comp L++L.drop (comp L).length=comp L++L.drop (comp L).length:=rfl
    rw [Kv _ _ _ (by simp),List.take_left']
    ·rw [show (comp L).length * 7+(m+1) * 7=((comp L).length+(m+1)) * 7 by omega,F6 _ _ _ (by simp;omega),List.drop_of_length_le (by simp;omega)]
     simp [flT]
    ·rfl
   have hcond:(comp L).length≤L.length:=hcl
   clear hct hcm hk2 htd hcells hzl hdl hne hclt hK
   generalize hX:List.replicate (m+1) [AV.i .i64 0,.s [],.i .i64 0,.i .i64 0,.ns,.i .i64 0,.ns]=X at hspl
   simp [dn,avM,h00,h2,h2j,hj,hl,hp1,hp2,hb1,hb2,e1,hwi1,hc] at hin ⊢
   have hj1:k+1≤L.length:=by omega
   have hfit2:(comp L).length * 7+(m+1) * 7≤((comp L).length+(m+1)) * 7+z.length:=by omega
   simp [hj1,hin,hl,hcond,hm,hX,hfit,hfit2,hlim,hbase]
   simp [splice] at hspl
   rw [hspl]
  ·have hct':comp (L.take (k+2))=L.take (k+2):=by
    rw [hct,if_neg hc,hcm];exact (List.take_succ_eq_append_getElem hj).symm
   have ih:=QW d (k+1) (by omega) hct'
   rw [←hK] at ih
   clear hK hct hct' hcm
   simp [dn,avM,h00,h2,h2j,hj,hl,hp1,hp2,hb1,hb2,e1,hwi1,hwi2,hc] at ih ⊢
   exact ih
theorem abT (m:Nat) (hm:m=L.length) (hs:s[l]?=some (.buf t 7 ver (flT L++z))):
  ah P0 (.fn (.func aY) [] []) [.sk l ver 7 0 m,avM] s cx=.ret (.sk l ver 7 0 (comp L).length) (s.set l (.buf t 7 ver (oM L z))):=by
 subst hm
 have hset:s.set l (.buf t 7 ver (flT L++z))=s:=by
  apply List.ext_getElem?
  intro i
  by_cases hi:l=i
  ·subst hi;rw [List.getElem?_set_self hl,hs]
  ·rw [List.getElem?_set_ne hi]
 refine kU (by simp) ?_
 match L,hL,hw with
 | [],_,_=>
  have h1:oM [] z=flT []++z:=by simp [oM,comp]
  rw [h1,hset]
  simp [af,aQ,comp]
 | [a],_,_=>
  have h1:oM [a] z=flT [a]++z:=by simp [oM,comp,oH]
  rw [h1,hset]
  simp [af,aQ,comp,oH]
 | a::b::r,hL,hw=>
  have h:=QW (a::b::r) hL hw s ⟨cx.lim,cx.base⟩ l t ver z hl hlim hbase r.length.succ 0 (by simp;omega) (by simp [comp,oH])
  rw [hset] at h
  have h2:¬((a::b::r).length:Int)<2:=by simp;omega
  by_cases hc:(comp (a::b::r)).length=(a::b::r).length
  ·rw [if_pos hc] at h
   simp only [Nat.zero_add] at h
   generalize hX:a::b::r=X at *
   simp [avM] at h
   simp [af,aQ,h2,h,hc,avM]
  ·rw [if_neg hc] at h
   simp only [Nat.zero_add] at h
   generalize hX:a::b::r=X at *
   simp [avM] at h
   simp [af,aQ,h2,h,avM]
end
end Go.Ai.Z
