/-
 Words, integers and signs are read as they are printed.
-/
import Derived.Test.YtpnlnnfcaeednaaGreatDoorAiKW
import Derived.Test.YtpnlnnfcaeednaaGreatDoorAiK5K6K7InjInj2Inj3Inj4KI
import Derived.Test.YtpnlnnfcaeednaaGreatDoorAiT7T8
set_option maxRecDepth 100000
set_option linter.unusedSimpArgs false
set_option linter.unusedVariables false
set_option linter.unusedSectionVars false
namespace Go.Ai.Z
open Go.Lib (itoa decDigits)
open Go.Ai.Inj
def Tail (u:List UInt8):Prop:=∀b r,u=b::r→b=32∨b=41∨b=125∨b=46
theorem Tail.stops {u:List UInt8} (h:Tail u):Stops IB u:=by
 intro b r e
 rcases h b r e with rfl|rfl|rfl|rfl<;>decide
structure aaD (k:Int) (t:List UInt8):Prop where
 k0:k≠0
 ne:t≠[]
 b0:∀c r,t=c::r→nR c≠1∧nR c≠2
 sc:∀u,Tail u∨t=[40]∨t=[123]→dJ (t++u)=(k,t.length)
theorem WQ {c:UInt8} (h:nR c=6):aaD 3 [c]:=by
 refine ⟨by decide,by simp,fun c' r' e=>?_,fun u _=>?_⟩
 ·obtain ⟨rfl,-⟩:=List.cons.inj e;rw [h];decide
 ·rw [List.cons_append,pX,if_neg (by rw [h];decide),if_neg (by rw [h];decide),if_neg (by rw [h];decide),if_pos h];rfl
end Go.Ai.Z
namespace Go.Ai.Z
open Go.Lib (itoa decDigits)
open Go.Ai.Inj
abbrev Tk:=Int×List UInt8
def sep (p:Option (List UInt8)) (t:List UInt8):List UInt8:=
 match p with
 | none=>[]
 | some p=>if t=[41]∨t=[125]∨p=[40]∨p=[123] then [] else [32]
def aai:Option (List UInt8)→List Tk→List UInt8
 | _,[]=>[]
 | p,t::r=>sep p t.2++(t.2++aai (some t.2) r)
def stepD (d:Int) (t:Tk):Int:=
 let d:=if t.1=3∧(t.2=[40]∨t.2=[123]) then d+1 else d
 if t.1=3∧(t.2=[41]∨t.2=[125]) then d - 1 else d
def XZ:List Tk→Int→Option Int
 | [],d=>some d
 | t::r,d=>if stepD d t<0 then none else XZ r (stepD d t)
def Flat (t:List UInt8):Prop:=t≠[41]∧t≠[125]∧t≠[40]∧t≠[123]
instance (t:List UInt8):Decidable (Flat t):=by unfold Flat;infer_instance
structure Piece (l:List Tk) (x:List UInt8):Prop where
 tok:∀t∈l,aaD t.1 t.2
 bal:∀d r,0≤d→XZ (l++r) d=XZ r d
 ne:l≠[]
 join:∃f e,f≠[41]∧f≠[125]∧e≠[40]∧e≠[123]∧∀p r,aai p (l++r)=sep p f++(x++aai (some e) r)
theorem Piece.one {k:Int} {t:List UInt8} (h:aaD k t) (hf:Flat t):Piece [(k,t)] t:=by
 refine ⟨fun y hy=>by simp at hy;rw [hy];exact h,fun d r hd=>?_,by simp,t,t,hf.1,hf.2.1,hf.2.2.1,hf.2.2.2,fun p r=>rfl⟩
 have:stepD d (k,t)=d:=by simp [stepD,hf.1,hf.2.1,hf.2.2.1,hf.2.2.2]
 simp only [List.cons_append,List.nil_append,XZ,this]
 rw [if_neg (by omega)]
theorem Piece.app {l m:List Tk} {x y:List UInt8} (h:Piece l x) (h':Piece m y):Piece (l++m) (x++32::y):=by
 obtain ⟨f,e,f1,f2,e1,e2,hj⟩:=h.join
 obtain ⟨f',e',f1',f2',e1',e2',hj'⟩:=h'.join
 refine ⟨fun t ht=>?_,fun d r hd=>by rw [List.append_assoc,h.bal d _ hd,h'.bal d _ hd],by simp [h.ne],f,e',f1,f2,e1',e2',fun p r=>?_⟩
 ·rcases List.mem_append.1 ht with ht|ht
  ·exact h.tok t ht
  ·exact h'.tok t ht
 ·rw [List.append_assoc,hj,hj']
  have:sep (some e) f'=[32]:=by simp [sep,f1',f2',e1,e2]
  rw [this];simp
theorem Piece.brace {n:List UInt8} (h:aaD 1 n) (hf:Flat n):Piece [(3,[123]),(1,n),(3,[125])] (123::(n++[125])):=by
 refine ⟨fun t ht=>?_,fun d r hd=>?_,by simp,[123],[125],by decide,by decide,by decide,by decide,fun p r=>?_⟩
 ·simp at ht
  rcases ht with rfl|rfl|rfl
  ·exact WQ (by decide)
  ·exact h
  ·exact WQ (by decide)
 ·have s1:stepD d (3,[123])=d+1:=by simp [stepD]
  have s2:stepD (d+1) (1,n)=d+1:=by simp [stepD]
  have s3:stepD (d+1) (3,[125])=d:=by simp [stepD]
  simp only [List.cons_append,List.nil_append,XZ,s1,s2,s3]
  rw [if_neg (by omega),if_neg (by omega),if_neg (by omega)]
 ·have q1:sep (some [123]) n=[]:=by simp [sep]
  have q2:sep (some n) [125]=[]:=by simp [sep]
  simp [aai,q1,q2]
def akH:Tk:=(1,[97,110,100])
def afo:List (List Tk)→List Tk
 | []=>[]
 | [a]=>a
 | a::b::r=>a++(akH::afo (b::r))
mutual
def ctk:C→List Tk
 | .mk k n lo hi _ ps=>
  if k=1 then [(1,[101,118,101,114,121,116,104,105,110,103])]
  else if k=2 then [(1,[110,111,116,104,105,110,103])]
  else if k=3 then [(1,n)]
  else if k=4 then [(3,[123]),(1,n),(3,[125])]
  else if k=7 then [(1,n),(1,[105,110]),(2,itoa lo),(1,[116,111]),(2,itoa hi)]
  else if k=6 then (1,[115,111,109,101])::(1,n)::(af8 ps).headD []
  else afo (af8 ps)
def af8:List C→List (List Tk)
 | []=>[]
 | .mk k n lo hi z ps::r=>(if k=5 then (3,[40])::(ctk (.mk k n lo hi z ps)++[(3,[41])]) else ctk (.mk k n lo hi z ps))::af8 r
end
end Go.Ai.Z
namespace Go.Ai.Z
open Go.Lib (itoa)
def psO (T:List Tok) (i:Nat) (m:AV):dZ:=.cells [.sl (T.map dN),.i .i64 i,m]
section
variable (T:List Tok) (hT:T.length≤100000) (i:Nat) (m:AV) (hm1:m.plain=m) (s:St) (l:Nat) (hs:s[l]?=some (psO T i m)) (k:Int) (t:List UInt8) (a:Nat) (hi:T[i]?=some (k,t,a))
include hT hs hi
theorem Eh (cx:Ctx):ah P0 (.fn (.func aW) [] []) [.pt l 0] s cx=.ret (dN (k,t,a)) s:=by
 have hlt:i<T.length:=(List.getElem?_eq_some_iff.1 hi).1
 have h1:(T.map dN)[i]?=some (dN (k,t,a)):=by rw [List.getElem?_map,hi];rfl
 refine Ea (by simp) ?_
 unfold psO at hs
 simp [af,oq,hs,hi,dN]
theorem ai3 (w:List UInt8) (cx:Ctx):ah P0 (.fn (.func pF) [] []) [.pt l 0,.s w] s cx=.ret (.b (t == w)) s:=by
 have h1:=Eh T hT i m s l hs k t a hi
 refine H7 (by simp) ?_
 simp [af,qQ,h1,dN]
theorem abS (w:List UInt8) (hw:t≠w) (cx:Ctx):ah P0 (.fn (.func aF) [] []) [.pt l 0,.s w] s cx=.ret (.b false) s:=by
 have h1:=ai3 T hT i m s l hs k t a hi w
 refine yB (by simp) ?_
 simp [af,lU,h1,hw]
theorem Zw (cx:Ctx) (hl:cx.lim≤l):ah P0 (.fn (.func aF) [] []) [.pt l 0,.s t] s cx=.ret (.b true) (s.set l (psO T (i+1) m)):=by
 have h1:=ai3 T hT i m s l hs k t a hi t
 have hlt:i<T.length:=(List.getElem?_eq_some_iff.1 hi).1
 have hwi:=wI (i:=i) (by omega)
 refine yB (by simp) ?_
 unfold psO at hs ⊢
 simp [af,lU,h1,hs,hwi,hl,splice]
theorem Yb (cx:Ctx):ah P0 (.fn (.func iQ) [] []) [.pt l 0] s cx=.ret (.b (decide (k=1) && !kwS t)) s:=by
 have h1:=Eh T hT i m s l hs k t a hi
 refine Di (by simp) ?_
 by_cases hk:k=1
 ·simp [af,kN,h1,dN,hk]
 ·simp [af,kN,h1,dN,hk]
end
theorem KR (t:List UInt8) (h:lm t=true) (s:St) (cx:Ctx):ah P0 (.fn (.func gK) [] []) [.s t] s cx=.ret (.i .i64 0) s:=by
 refine wR (by simp) ?_
 simp [af,lY,h]
section
variable (T:List Tok) (hT:T.length≤100000) (i:Nat) (m:AV) (s:St) (l:Nat) (hs:s[l]?=some (psO T i m)) (k:Int) (t:List UInt8) (a:Nat) (hi:T[i]?=some (k,t,a))
include hT hs hi
theorem agG (hk:k=1) (hp:lm t=true) (cx:Ctx) (hl:cx.lim≤l):ah P0 (.fn (.func aO) [] []) [.pt l 0] s cx=.ret (.s t) (s.set l (psO T (i+1) m)):=by
 have h1:=Eh T hT i m s l hs k t a hi
 have h2:=Yb T hT i m s l hs k t a hi
 have hlt:i<T.length:=(List.getElem?_eq_some_iff.1 hi).1
 have hwi:=wI (i:=i) (by omega)
 have hkw:=(Qw hp).kw
 have h3:=KR t hp
 obtain ⟨b,r,hbr⟩:∃b r,t=b::r:=by
  cases t with
  | nil=>exact absurd rfl (Qw hp).ne
  | cons b r=>exact ⟨b,r,rfl⟩
 have hb:¬((b.toNat:Int)=95):=by
  have h4:ac1 b=true:=by
   unfold lm at hp
   rw [Bool.and_eq_true] at hp
   have h5:=hp.2
   rw [hbr] at h5
   unfold A8 at h5
   by_cases hb58:b=58
   ·rw [if_pos hb58] at h5
    simp [Fa] at h5
   ·rw [if_neg hb58] at h5
    cases hc:A8 58 r with
    | none=>rw [hc] at h5;simp [Fa] at h5;exact h5.1.1
    | some p=>rw [hc] at h5;simp [Fa] at h5;exact h5.1.1.1
  intro h6
  unfold ac1 at h4
  rw [h6] at h4
  exact absurd h4 (by decide)
 refine uf (by simp) ?_
 unfold psO at hs ⊢
 subst hk
 rw [hbr] at h1 h2 h3 hkw ⊢
 simp [af,iY,h1,h2,h3,hkw,hs,hwi,hl,splice,dN,hb]
end
end Go.Ai.Z
namespace Go.Ai.Z
open Go.Lib (itoa decDigits)
def At (T:List Tok) (i:Nat) (R:List Tk):Prop:=(T.drop i).map (fun t=>(t.1,t.2.1))=R
theorem At.head {T:List Tok} {i:Nat} {x:Tk} {R:List Tk} (h:At T i (x::R)):(∃a,T[i]?=some (x.1,x.2,a))∧At T (i+1) R:=by
 unfold At at h ⊢
 cases hd:T.drop i with
 | nil=>rw [hd] at h;simp at h
 | cons y r=>
  rw [hd] at h
  simp only [List.map_cons,List.cons.injEq] at h
  have h1:T[i]?=some y:=by
   have:(T.drop i)[0]?=some y:=by rw [hd];rfl
   simpa using this
  have h2:T.drop (i+1)=r:=by rw [←List.drop_drop,hd];rfl
  obtain ⟨y1,y2,y3⟩:=y
  refine ⟨⟨y3, ?_⟩,by rw [h2];exact h.2⟩
  rw [h1,←h.1]
structure BN (T:List Tok) (m:AV) (S:Nat→St) (l N:Nat):Prop where
 len:T.length≤100000
 cell:∀j,(S j)[l]?=some (psO T j m)
 sets:∀j k,(S j).set l (psO T k m)=S k
 n:∀j,(S j).length=N
def inB:List UInt8:=[105,110]
def Jq:List UInt8:=[97,110,100]
section
variable {T:List Tok} {m:AV} {S:Nat→St} {l N:Nat} (hE:BN T m S l N) {i:Nat} {x:Tk} {R:List Tk} (h:At T i (x::R))
include hE h
end
end Go.Ai.Z
