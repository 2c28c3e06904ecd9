/-
 Atoms of queries and parts: their data.
-/
import Derived.Test.YtpihciomhfoafaaGreatDoorAiC2
import Derived.Test.YtpihciomhfoafaaGreatDoorAiSxD
set_option maxRecDepth 100000
set_option linter.unusedSimpArgs false
set_option linter.unusedVariables false
set_option linter.unusedSectionVars false
namespace Go.Ai.Z
structure At where
 kind:Int
 name:List UInt8
 x:List UInt8
 y:List UInt8
 lo:Int
 hi:Int
 deriving DecidableEq
def JR (a:At):AV:=.ag [.i .i64 a.kind,.s a.name,.s a.x,.s a.y,.i .i64 a.lo,.i .i64 a.hi]
def rowA (z:Bool):List At→AV
 | []=>if z then .ns else .sz
 | a::r=>.sl ((a::r).map JR)
def DI (z:Bool) (L:List At):AV:=.ag [rowA z L]
@[simp] theorem Y0 (z:Bool) (L:List At):(rowA z L).plain=rowA z L:=by cases L<;>cases z<;>rfl
@[simp] theorem Yy (z:Bool) (L:List At):(rowA z L).plain1=rowA z L:=by cases L<;>cases z<;>rfl
@[simp] theorem abl (z:Bool) (L:List At):(rowA z L).one=true:=by cases L<;>cases z<;>rfl
@[simp] theorem Zg (z:Bool) (L:List At):(rowA z L).cells=[rowA z L]:=by cases L<;>cases z<;>rfl
@[simp] theorem YB (z:Bool) (L:List At) (env:Env):oV env (some (.v (rowA z L)))=some (L.map JR):=by cases L<;>cases z<;>rfl
end Go.Ai.Z
namespace Go.Ai.Z
def iA (n:Int):AV:=.i .i64 n
@[simp] theorem abj (n:Int):(iA n).plain=iA n:=rfl
@[simp] theorem ab2 (n:Int):(iA n).cells=[.i .i64 n]:=rfl
def sJ (z:Bool) (l:List Int):AV:=.ag [slf z (l.map iA)]
def adJ (n:Nat) (l:List Int):Prop:=l.length=n∧(∀x∈l,0≤x∧x<n)∧l.Nodup
open Classical in
noncomputable def JS (n:Nat) (l:List Int):Int:=if adJ n l then 0 else 240
def Jm (V:List Int):List (AV×AV):=V.map fun n=>(.i .i64 n,.b true)
theorem F9 (n:Int):∀V:List Int,find 0 (.i .i64 n) (Jm V)=some (if n∈V then some (.b true) else none)
 | []=>by simp [Jm,find]
 | x::V=>by
  have ih:=F9 n V
  simp only [Jm] at ih ⊢
  by_cases h:n=x
  ·subst h;simp [find,oK]
  ·simp [find,oK,h,ih]
theorem KP {n:Int}:∀{V:List Int},n ∉ V→Eo 0 (.i .i64 n) (.b true) (Jm V)=some (Jm (V++[n]))
 | [],_=>by simp [Jm,Eo]
 | x::V,h=>by
  simp only [List.mem_cons,not_or] at h
  have ih:=KP h.2
  simp only [Jm] at ih ⊢
  simp [Eo,oK,h.1,ih]
theorem DX (zp:Bool) (L:List At) (hL:L.length≤1048576) (z:Bool) (l:List Int) (hl:l.length≤1048576) (s:St) (cx:Ctx) (hcx:cx.lim≤s.length) (hb:cx.base≤s.length):∀(rest:List Int) (i:Nat),l.drop i=rest→i≤l.length→
  (∀x∈l.take i,0≤x∧x<L.length)→(l.take i).Nodup→
  ((∀x∈l,0≤x∧x<L.length)∧l.Nodup→zC (aA P0.glob (eX P0) cx false dh) [2,5,17,18,19] [(2,.bx [rowA zp L]),(5,.v (.mp s.length)),(17,.v (slf z (l.map iA))),(18,.v (.i .i64 l.length)),(19,.v (.i .i64 i))] (s++[.map (Jm (l.take i))])=
    .exit 0 [(2,.bx [rowA zp L]),(5,.v (.mp s.length)),(17,.v (slf z (l.map iA))),(18,.v (.i .i64 l.length)),(19,.v (.i .i64 l.length)),(20,.v (.b false))] (s++[.map (Jm l)]))∧
  (¬((∀x∈l,0≤x∧x<L.length)∧l.Nodup)→∃S,S.length=s.length+1∧zC (aA P0.glob (eX P0) cx false dh) [2,5,17,18,19] [(2,.bx [rowA zp L]),(5,.v (.mp s.length)),(17,.v (slf z (l.map iA))),(18,.v (.i .i64 l.length)),(19,.v (.i .i64 i))] (s++[.map (Jm (l.take i))])=.ret [(4,.v (.i .i64 240))] S)
 | [],i,hd,hi,hv,hn=>by
  have hil:i=l.length:=by have:=congrArg List.length hd;simp at this;omega
  have ht:l.take i=l:=by rw [hil];simp
  rw [ht] at hv hn
  refine ⟨fun _=>?_,fun h=>absurd ⟨hv,hn⟩ h⟩
  refine gG fun K hK=>?_
  clear hK;simp [dh,hil]
 | x::rest,i,hd,hi,hv,hn=>by
  have hil:i<l.length:=by have:=congrArg List.length hd;simp at this;omega
  have hx:l[i]=x:=by have:=List.drop_eq_getElem_cons hil;rw [hd] at this;exact (List.cons.inj this).1.symm
  have hg:(l.map iA)[i]?=some (iA x):=by simp [hil,hx]
  have hd':l.drop (i+1)=rest:=by rw [←List.drop_drop,hd];rfl
  have ht:l.take (i+1)=l.take i++[x]:=by rw [List.take_add_one];simp [hil,hx]
  have hxl:x∈l:=by rw [←hx];exact List.getElem_mem hil
  have hsl:slf z (l.map iA)=.sl (l.map iA):=by
   cases l with
   | nil=>simp at hil
   | cons a r=>simp
  have hw:IntKind.i64.wrap ((i:Int)+1)=((i+1:Nat):Int):=by rw [w64 (by omega) (by omega)];simp
  by_cases h1:0≤x∧x<L.length
  ·by_cases h2:x∈l.take i
   ·-- twice
    refine ⟨fun h=>absurd h.2 (fun hnd=>?_),fun _=>?_⟩
    ·have:=hnd.sublist (List.take_sublist (i+1) l)
     rw [ht] at this
     exact (List.nodup_append.1 this).2.2 x h2 x (by simp) rfl
    refine ⟨s++[.map (Jm (l.take i))],by simp,gG fun K hK=>?_⟩
    clear hK
    have e1:¬x<0:=by omega
    have e2:¬(L.length:Int)≤x:=by omega
    simp [dh,hil,hsl,hx,iA,jT,jU,kz,qP,qQ,e1,e2,F9,h2]
   ·-- a new one
    have ih:=DX zp L hL z l hl s cx hcx hb rest (i+1) hd' (by omega) (by
     rw [ht];intro y hy
     rcases List.mem_append.1 hy with hy|hy
     ·exact hv y hy
     ·simp at hy;subst hy;exact h1) (by
     rw [ht]
     exact List.nodup_append.2 ⟨hn,by simp,fun a ha b hb'=>by simp at hb';subst hb';exact fun e=>h2 (e ▸ ha)⟩)
    have e1:¬x<0:=by omega
    have e2:¬(L.length:Int)≤x:=by omega
    rw [ht] at ih
    refine ⟨fun h=>?_,fun h=>?_⟩
    ·have q2:=ih.1 h
     refine gG fun K hK=>?_
     rw [←hK] at q2;clear hK
     rw [hsl] at q2 ⊢
     simp [dh,hil,hx,iA,jT,jU,kz,qP,qQ,e1,e2,F9,h2,KP h2,qj,hcx,hb,hw]
     simpa [iA] using q2
    ·obtain ⟨S,q1,q2⟩:=ih.2 h
     refine ⟨S,q1,gG fun K hK=>?_⟩
     rw [←hK] at q2;clear hK
     rw [hsl] at q2 ⊢
     simp [dh,hil,hx,iA,jT,jU,kz,qP,qQ,e1,e2,F9,h2,KP h2,qj,hcx,hb,hw]
     simpa [iA] using q2
  ·refine ⟨fun h=>absurd (h.1 x hxl) h1,fun _=>?_⟩
   refine ⟨s++[.map (Jm (l.take i))],by simp,gG fun K hK=>?_⟩
   clear hK
   by_cases e1:x<0
   ·simp [dh,hil,hsl,hx,iA,jT,jU,kz,qP,qQ,e1]
   ·have e2:(L.length:Int)≤x:=by omega
    simp [dh,hil,hsl,hx,iA,jT,jU,kz,qP,qQ,e1,e2]
theorem wH (zp:Bool) (L:List At) (hL:L.length≤1048576) (z:Bool) (l:List Int) (hl:l.length≤1048576) (s:St) (cx:Ctx):
  eX P0 (.fn (.func dn) [] []) [DI zp L,sJ z l] s cx=.ret (.i .i64 (JS L.length l)) s:=by
 refine Lc (by simp) ?_
 by_cases hlen:l.length=L.length
 ·have key:=DX zp L hL z l hl s ⟨s.length,s.length⟩ (Nat.le_refl _) (Nat.le_refl _) l 0 rfl (by omega) (by simp) (by simp)
  by_cases hok:(∀x∈l,0≤x∧x<L.length)∧l.Nodup
  ·have q2:=key.1 hok
   have hck:JS L.length l=0:=by unfold JS;rw [if_pos ⟨hlen,hok⟩]
   simp [Jm,hlen] at q2
   simp [gK,iK,DI,sJ,hlen,hck]
   simp [q2,frz,AV.under]
  ·obtain ⟨S,q1,q2⟩:=key.2 hok
   have hck:JS L.length l=240:=by unfold JS;rw [if_neg (fun h=>hok h.2)]
   simp [gK,iK,DI,sJ,hlen,hck]
   simp [Jm,hlen] at q2
   simp [q2,q1,frz,AV.under]
 ·have hck:JS L.length l=240:=by unfold JS;rw [if_neg (fun h=>hlen h.1)]
  have e:¬((l.length:Int)=L.length):=by omega
  simp [gK,iK,DI,sJ,e,hck]
end Go.Ai.Z
namespace Go.Ai.Z
def Ah (n:Nat) (V:List Int):List AV:=(List.range n).map fun k:Nat=>.b (decide ((k:Int)∈V))
@[simp] theorem abo (n:Nat) (V:List Int):(Ah n V).length=n:=by simp [Ah]
theorem WZ (n:Nat):Ah n []=List.replicate n (.b false):=by
 apply List.ext_getElem
 ·simp
 ·intro i h1 h2;simp [Ah]
theorem XZ {n:Nat} {V:List Int} {x:Int} (h0:0≤x) (hx:x<n):(Ah n V)[x.toNat]?=some (.b (decide (x∈V))):=by
 have h1:x.toNat<n:=by omega
 have h2:((x.toNat:Nat):Int)=x:=by omega
 simp [Ah,h1,h2]
theorem WY {n:Nat} {V:List Int} {x:Int} (h0:0≤x) (hx:x<n):(Ah n V).take x.toNat++.b true::(Ah n V).drop (x.toNat+1)=Ah n (V++[x]):=by
 have h1:x.toNat<n:=by omega
 have h2:(Ah n V).set x.toNat (.b true)=(Ah n V).take x.toNat++.b true::(Ah n V).drop (x.toNat+1):=by
  rw [List.set_eq_take_append_cons_drop,if_pos (by simpa using h1)]
 rw [←h2]
 apply List.ext_getElem
 ·simp
 ·intro i h3 h4
  simp only [Ah,List.getElem_set,List.getElem_map,List.getElem_range,List.mem_append,List.mem_singleton]
  by_cases hi:x.toNat=i
  ·rw [if_pos hi];have:(i:Int)=x:=by omega
   simp [this]
  ·rw [if_neg hi];have:¬(i:Int)=x:=by omega
   simp [this]
theorem GX (n:Nat) (hn:n≤1048576) (z:Bool) (l:List Int) (hl:l.length≤1048576) (s:St) (cx:Ctx) (hcx:cx.lim≤s.length) (hb:cx.base≤s.length):∀(rest:List Int) (i:Nat),l.drop i=rest→i≤l.length→
  (∀x∈l.take i,0≤x∧x<n)→(l.take i).Nodup→
  ((∀x∈l,0≤x∧x<n)∧l.Nodup→zC (aA P0.glob (eX P0) cx false dL) [3,5,6] [(3,.bx [slf z (l.map iA)]),(5,.v (.sk s.length 0 1 0 n)),(6,.v (.i .i64 i))] (s++[.buf vX 1 0 (Ah n (l.take i))])=
    .exit 0 [(3,.bx [slf z (l.map iA)]),(5,.v (.sk s.length 0 1 0 n)),(6,.v (.i .i64 l.length)),(23,.v (.b false))] (s++[.buf vX 1 0 (Ah n l)]))∧
  (¬((∀x∈l,0≤x∧x<n)∧l.Nodup)→∃S,S.length=s.length+1∧zC (aA P0.glob (eX P0) cx false dL) [3,5,6] [(3,.bx [slf z (l.map iA)]),(5,.v (.sk s.length 0 1 0 n)),(6,.v (.i .i64 i))] (s++[.buf vX 1 0 (Ah n (l.take i))])=.ret [(4,.v (.i .i64 240))] S)
 | [],i,hd,hi,hv,hnd=>by
  have hil:i=l.length:=by have:=congrArg List.length hd;simp at this;omega
  have ht:l.take i=l:=by rw [hil];simp
  rw [ht] at hv hnd
  refine ⟨fun _=>?_,fun h=>absurd ⟨hv,hnd⟩ h⟩
  refine gG fun K hK=>?_
  clear hK;simp [dL,hil]
 | x::rest,i,hd,hi,hv,hnd=>by
  have hil:i<l.length:=by have:=congrArg List.length hd;simp at this;omega
  have hx:l[i]=x:=by have:=List.drop_eq_getElem_cons hil;rw [hd] at this;exact (List.cons.inj this).1.symm
  have hd':l.drop (i+1)=rest:=by rw [←List.drop_drop,hd];rfl
  have ht:l.take (i+1)=l.take i++[x]:=by rw [List.take_add_one];simp [hil,hx]
  have hxl:x∈l:=by rw [←hx];exact List.getElem_mem hil
  have hsl:slf z (l.map iA)=.sl (l.map iA):=by
   cases l with
   | nil=>simp at hil
   | cons a r=>simp
  have hw:IntKind.i64.wrap ((i:Int)+1)=((i+1:Nat):Int):=by rw [w64 (by omega) (by omega)];simp
  by_cases h1:0≤x∧x<n
  ·have e1:¬x<0:=by omega
   have e2:¬(n:Int)≤x:=by omega
   have e3:x.toNat<n:=by omega
   have e4:x.toNat+1≤n:=by omega
   have hat:=XZ (V:=l.take i) h1.1 h1.2
   have hat2:∀h:x.toNat<(Ah n (l.take i)).length,(Ah n (l.take i))[x.toNat]=.b (decide (x∈l.take i)):=fun h=>(List.getElem?_eq_some_iff.1 hat).2
   by_cases h2:x∈l.take i
   ·refine ⟨fun h=>absurd h.2 (fun hnd=>?_),fun _=>?_⟩
    ·have:=hnd.sublist (List.take_sublist (i+1) l)
     rw [ht] at this
     exact (List.nodup_append.1 this).2.2 x h2 x (by simp) rfl
    refine ⟨s++[.buf vX 1 0 (Ah n (l.take i))],by simp,gG fun K hK=>?_⟩
    clear hK
    simp only [h2,decide_true,decide_false] at hat hat2
    simp [dL,hil,hsl,hx,iA,jT,jU,kz,qP,qQ,oV,e1,e2,e3,e4,h1,hat,hat2]
   ·have ih:=GX n hn z l hl s cx hcx hb rest (i+1) hd' (by omega) (by
     rw [ht];intro y hy
     rcases List.mem_append.1 hy with hy|hy
     ·exact hv y hy
     ·simp at hy;subst hy;exact h1) (by
     rw [ht]
     exact List.nodup_append.2 ⟨hnd,by simp,fun a ha b hb'=>by simp at hb';subst hb';exact fun e=>h2 (e ▸ ha)⟩)
    rw [ht,←WY h1.1 h1.2] at ih
    simp only [h2,decide_true,decide_false] at hat hat2
    refine ⟨fun h=>?_,fun h=>?_⟩
    ·have q2:=ih.1 h
     refine gG fun K hK=>?_
     rw [←hK] at q2;clear hK
     rw [hsl] at q2 ⊢
     simp [dL,hil,hx,iA,jT,jU,kz,qP,qQ,oV,e1,e2,e3,e4,h1,hat,hat2,hcx,hb,hw]
     simpa [iA] using q2
    ·obtain ⟨S,q1,q2⟩:=ih.2 h
     refine ⟨S,q1,gG fun K hK=>?_⟩
     rw [←hK] at q2;clear hK
     rw [hsl] at q2 ⊢
     simp [dL,hil,hx,iA,jT,jU,kz,qP,qQ,oV,e1,e2,e3,e4,h1,hat,hat2,hcx,hb,hw]
     simpa [iA] using q2
  ·refine ⟨fun h=>absurd (h.1 x hxl) h1,fun _=>?_⟩
   refine ⟨s++[.buf vX 1 0 (Ah n (l.take i))],by simp,gG fun K hK=>?_⟩
   clear hK
   by_cases e1:x<0
   ·simp [dL,hil,hsl,hx,iA,jT,jU,kz,qP,qQ,oV,e1]
   ·have e2:(n:Int)≤x:=by omega
    simp [dL,hil,hsl,hx,iA,jT,jU,kz,qP,qQ,oV,e1,e2]
theorem Au (zp:Bool) (L:List At) (hL:L.length≤1048576) (z:Bool) (l:List Int) (hl:l.length≤1048576) (s:St) (cx:Ctx):
  eX P0 (.fn (.func lN) [] []) [DI zp L,sJ z l] s cx=.ret (.i .i64 (JS L.length l)) s:=by
 refine O6 (by simp) ?_
 by_cases hlen:l.length=L.length
 ·have key:=GX L.length hL z l hl s ⟨s.length,s.length⟩ (Nat.le_refl _) (Nat.le_refl _) l 0 rfl (by omega) (by simp) (by simp)
  have hrep:(List.replicate L.length [AV.b false]).flatten=Ah L.length []:=by
   rw [WZ];clear key;induction L.length with
   | zero=>rfl
   | succ n ih=>simp [List.replicate_succ]
  have hm:L.length≤16777216:=by omega
  by_cases hok:(∀x∈l,0≤x∧x<L.length)∧l.Nodup
  ·have q2:=key.1 hok
   have hck:JS L.length l=0:=by unfold JS;rw [if_pos ⟨hlen,hok⟩]
   simp [hlen] at q2
   simp [gK,jW,DI,sJ,hlen,hck,hrep,hm]
   simp [q2,frz,AV.under]
  ·obtain ⟨S,q1,q2⟩:=key.2 hok
   have hck:JS L.length l=240:=by unfold JS;rw [if_neg (fun h=>hok h.2)]
   simp [hlen] at q2
   simp [gK,jW,DI,sJ,hlen,hck,hrep,hm]
   simp [q2,q1,frz,AV.under]
 ·have hck:JS L.length l=240:=by unfold JS;rw [if_neg (fun h=>hlen h.1)]
  have e:¬((l.length:Int)=L.length):=by omega
  simp [gK,jW,DI,sJ,e,hck]
end Go.Ai.Z
namespace Go.Ai.Z
def OD (n:Nat) (x:Int):Int:=(IntKind.i64.wrap (((x % 2 ^ IntKind.i64.bits).toNat &&& 1023 % 2 ^ IntKind.i64.bits:Nat):Int)).tmod n
def SB (b:Nat) (l:List Int):AV:=if l=[] then .ns else .st b (l.map iA)
def P5 (l:List Int):St:=if l=[] then [] else [.row sO 1 l.length]
theorem Jq (zp:Bool) (L:List At) (hL0:0<L.length) (hL:L.length≤40) (z:Bool) (l:List Int) (hl:l.length≤40) (cx:Ctx) (hcx:cx.lim=0) (hb:cx.base=0):∀(rest:List Int) (i:Nat),l.drop i=rest→i≤l.length→
  zC (aA P0.glob (eX P0) cx false aP) [2,3,5,22,23,24] [(2,.bx [rowA zp L]),(3,.bx [slf z (l.map iA)]),(5,.bx [SB 0 ((l.take i).map (OD L.length))]),(22,.v (slf z (l.map iA))),(23,.v (.i .i64 l.length)),(24,.v (.i .i64 i))] (P5 ((l.take i).map (OD L.length)))=
   .exit 0 [(2,.bx [rowA zp L]),(3,.bx [slf z (l.map iA)]),(5,.bx [SB 0 (l.map (OD L.length))]),(22,.v (slf z (l.map iA))),(23,.v (.i .i64 l.length)),(24,.v (.i .i64 l.length)),(25,.v (.b false))] (P5 (l.map (OD L.length)))
 | [],i,hd,hi=>by
  have hil:i=l.length:=by have:=congrArg List.length hd;simp at this;omega
  have ht:l.take i=l:=by rw [hil];simp
  refine gG fun K hK=>?_
  clear hK;simp [aP,hil]
 | x::rest,i,hd,hi=>by
  have hil:i<l.length:=by have:=congrArg List.length hd;simp at this;omega
  have hx:l[i]=x:=by have:=List.drop_eq_getElem_cons hil;rw [hd] at this;exact (List.cons.inj this).1.symm
  have hd':l.drop (i+1)=rest:=by rw [←List.drop_drop,hd];rfl
  have ht:l.take (i+1)=l.take i++[x]:=by rw [List.take_add_one];simp [hil,hx]
  have hsl:slf z (l.map iA)=.sl (l.map iA):=by
   cases l with
   | nil=>simp at hil
   | cons a r=>simp
  have hw:IntKind.i64.wrap ((i:Int)+1)=((i+1:Nat):Int):=by rw [w64 (by omega) (by omega)];simp
  have ih:=Jq zp L hL0 hL z l hl cx hcx hb rest (i+1) hd' (by omega)
  rw [ht,List.map_append] at ih
  have hLI:(0:Int)<L.length:=by omega
  have hLz:¬L.length=0:=by omega
  generalize hV:(l.take i).map (OD L.length)=V at ih ⊢
  have hVl:V.length≤40:=by rw [←hV];simp;omega
  have hnr:(IntKind.i64.wrap (((x % 2 ^ IntKind.i64.bits).toNat &&& 1023 % 2 ^ IntKind.i64.bits:Nat):Int)).tmod L.length=OD L.length x:=rfl
  refine gG fun K hK=>?_
  rw [←hK] at ih;clear hK
  rw [hsl] at ih ⊢
  cases V with
  | nil=>
   simp [SB,P5] at ih
   simp [aP,hil,hx,iA,SB,P5,jT,jU,kz,qP,qQ,hL0,hLz,hw,dK]
   simpa [iA,hnr] using ih
  | cons v V=>
   simp at hVl
   simp [SB,P5] at ih
   have hms:V.length+1+1≤dK:=by unfold dK;omega
   simp [aP,hil,hx,iA,SB,P5,jT,jU,kz,qP,qQ,hL0,hLz,hw,hcx,hms]
   simpa [iA,hnr] using ih
theorem GY (zp:Bool) (z:Bool) (l:List Int) (hl:l.length≤40) (cx:Ctx):∀(rest:List Int) (i:Nat),l.drop i=rest→i≤l.length→
  zC (aA P0.glob (eX P0) cx false aP) [2,3,5,22,23,24] [(2,.bx [rowA zp []]),(3,.bx [slf z (l.map iA)]),(5,.bx [.ns]),(22,.v (slf z (l.map iA))),(23,.v (.i .i64 l.length)),(24,.v (.i .i64 i))] []=
   .exit 0 [(2,.bx [rowA zp []]),(3,.bx [slf z (l.map iA)]),(5,.bx [.ns]),(22,.v (slf z (l.map iA))),(23,.v (.i .i64 l.length)),(24,.v (.i .i64 l.length)),(25,.v (.b false))] []
 | [],i,hd,hi=>by
  have hil:i=l.length:=by have:=congrArg List.length hd;simp at this;omega
  refine gG fun K hK=>?_
  clear hK;simp [aP,hil]
 | x::rest,i,hd,hi=>by
  have hil:i<l.length:=by have:=congrArg List.length hd;simp at this;omega
  have hx:l[i]=x:=by have:=List.drop_eq_getElem_cons hil;rw [hd] at this;exact (List.cons.inj this).1.symm
  have hd':l.drop (i+1)=rest:=by rw [←List.drop_drop,hd];rfl
  have hsl:slf z (l.map iA)=.sl (l.map iA):=by
   cases l with
   | nil=>simp at hil
   | cons a r=>simp
  have hw:IntKind.i64.wrap ((i:Int)+1)=((i+1:Nat):Int):=by rw [w64 (by omega) (by omega)];simp
  have ih:=GY zp z l hl cx rest (i+1) hd' (by omega)
  refine gG fun K hK=>?_
  rw [←hK] at ih;clear hK
  rw [hsl] at ih ⊢
  simp [aP,hil,hx,iA,jT,jU,kz,qP,qQ,hw]
  simpa [iA] using ih
theorem Np (zp:Bool) (L:List At) (z:Bool) (l:List Int) (hl:l.length≤1125899906842624) (hL:L.length≤1125899906842624) (hs:eX P0 (.fn (.func oI) [] []) [] [] ⟨0,0⟩=.ret (.b true) []) (cx:Ctx):
  eX P0 (.fn (.func fZ) [] []) [DI zp L,sJ z l] [] cx=.ret (.b true) []:=by
 refine zl (by simp) ?_
 by_cases h1:40<L.length
 ·have e1:(40:Int)<L.length:=by omega
  simp [gK,aY,hs,DI,sJ,jT,jU,kz,qP,qQ,e1,h1]
 ·by_cases h2:40<l.length
  ·have e2:(40:Int)<l.length:=by omega
   have e1:¬(40:Int)<L.length:=by omega
   simp [gK,aY,hs,DI,sJ,jT,jU,kz,qP,qQ,h1,h2,e1,e2]
  ·have e2:¬(40:Int)<l.length:=by omega
   have c1:=fun s cx=>wH zp L (by omega) z l (by omega) s cx
   have c2:=fun s cx=>Au zp L (by omega) z l (by omega) s cx
   simp only [DI,sJ] at c1 c2
   cases L with
   | nil=>
    have key:=GY zp z l (by omega) ⟨0,0⟩ l 0 rfl (by omega)
    have c3:=fun s cx=>wH zp [] (by simp) true [] (by simp) s cx
    have c4:=fun s cx=>Au zp [] (by simp) true [] (by simp) s cx
    simp [DI,sJ] at c3 c4
    simp at key
    simp [gK,aY,hs,DI,sJ,jT,jU,kz,qP,qQ,h2,e2,key,c1,c2,c3,c4,xB]
   | cons a r=>
    have e1:¬(40:Int)<(r.length:Int)+1:=by simp at h1;omega
    simp at h1
    have key:=Jq zp (a::r) (by simp) (by simp;omega) z l (by omega) ⟨0,0⟩ rfl rfl l 0 rfl (by omega)
    generalize hV:l.map (OD (a::r).length)=V at key
    have hVl:V.length≤40:=by rw [←hV];simp;omega
    have c3:=fun s cx=>wH zp (a::r) (by simp;omega) true V (by omega) s cx
    have c4:=fun s cx=>Au zp (a::r) (by simp;omega) true V (by omega) s cx
    simp only [DI,sJ] at c3 c4
    simp only [List.take_zero,List.map_nil] at key
    cases V with
    | nil=>
     simp [SB,P5] at key
     simp at c3 c4
     simp [gK,aY,hs,DI,sJ,jT,jU,kz,qP,qQ,h1,h2,e1,e2,key,c1,c2,c3,c4,xB,P5]
    | cons v V=>
     simp [SB,P5] at key
     simp at c3 c4
     simp [gK,aY,hs,DI,sJ,jT,jU,kz,qP,qQ,h1,h2,e1,e2,key,c1,c2,c3,c4,xB,P5,frz,AV.under]
end Go.Ai.Z
