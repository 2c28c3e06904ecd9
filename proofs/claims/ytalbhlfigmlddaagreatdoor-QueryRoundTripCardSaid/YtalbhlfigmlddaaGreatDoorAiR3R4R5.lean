/-
 roles.Above and the reference's Above: what is reached.
-/
import Derived.Test.YtalbhlfigmlddaaGreatDoorAiRchR1R2
set_option maxRecDepth 100000
set_option linter.unusedSimpArgs false
set_option linter.unusedVariables false
set_option linter.unusedSectionVars false
namespace Go.Ai.Z
def edU (l:List Ax):List (List UInt8×List UInt8):=l.filterMap fun x=>if x.kind=5 then some (x.roles.headD [],x.role) else none
theorem aaR {x:Ax} {l:List Ax} (h:x.kind=5):edU (x::l)=(x.roles.headD [],x.role)::edU l:=by simp [edU,h]
theorem aaQ {x:Ax} {l:List Ax} (h:¬x.kind=5):edU (x::l)=edU l:=by simp [edU,h]
theorem Zg (l:List Ax):(edU l).length≤l.length:=List.length_filterMap_le _ _
def aiT (l:List Ax):Prop:=∀x∈l,x.kind=5→∃r,x.roles=[r]
theorem adN {x:Ax} (h:yO x=0) (h5:x.kind=5):∃r,x.roles=[r]:=by
 have hs:yF x=true:=by
  unfold yO at h
  split at h
  ·cases h
  ·rename_i hn;simpa using hn
 have:1≤x.roles.length∧x.roles.length≤1:=by
  simp [yF,H8,h5,wF] at hs
  omega
 match h1:x.roles with
 | []=>rw [h1] at this;simp at this
 | [r]=>exact ⟨r,rfl⟩
 | _::_::_=>rw [h1] at this;simp at this
theorem WZ:∀{l:List Ax},uM l=0→∀x∈l,yO x=0
 | [],_,x,hx=>by cases hx
 | y::l,h,x,hx=>by
  unfold uM at h
  split at h
  ·rcases List.mem_cons.1 hx with rfl|hx
   ·assumption
   ·exact WZ h x hx
  ·contradiction
theorem ab8 {l:List Ax} (h:uM l=0):aiT l:=fun x hx h5=>adN (WZ h x hx) h5
abbrev SM:=List (List UInt8×List (List UInt8))
def esG:Nat→SM→List (AV×AV)
 | _,[]=>[]
 | b,p::G=>(.s p.1,.st b (p.2.map .s))::esG (b+1) G
def Dn (G:SM):St:=G.map fun p=>.row ak 1 p.2.length
def Af:SM→List UInt8→List (List UInt8)
 | [],_=>[]
 | p::G,k=>if p.1=k then p.2 else Af G k
def Bq:SM→List UInt8→List UInt8→SM
 | [],k,v=>[(k,[v])]
 | p::G,k,v=>if p.1=k then (p.1,p.2++[v])::G else p::Bq G k v
def zO (G:SM) (E:List (List UInt8×List UInt8)):SM:=E.foldl (fun G p=>Bq G p.1 p.2) G
@[simp] theorem abM (G:SM):(Dn G).length=G.length:=by simp [Dn]
theorem Vg (k v x:List UInt8):∀G:SM,Af (Bq G k v) x=if k=x then Af G x++[v] else Af G x
 | []=>by simp [Bq,Af]
 | p::G=>by
  have ih:=Vg k v x G
  by_cases h:p.1=k
  ·by_cases h2:k=x
   ·simp [Bq,Af,h,h2]
   ·have h3:¬p.1=x:=by rw [h];exact h2
    simp [Bq,Af,h,h2]
  ·by_cases h2:p.1=x
   ·have h3:¬k=x:=fun h3=>h (by rw [h2,h3])
    have h4:¬x=k:=fun h4=>h3 h4.symm
    simp [Bq,Af,h2,h3,h4]
   ·simp [Bq,Af,h,h2,ih]
theorem Ko (x:List UInt8):∀(E:List (List UInt8×List UInt8)) (G:SM),Af (zO G E) x=Af G x++(E.filter fun p=>decide (p.1=x)).map (·.2)
 | [],G=>by simp [zO]
 | p::E,G=>by
  have ih:=Ko x E (Bq G p.1 p.2)
  simp only [zO,List.foldl_cons] at ih ⊢
  rw [ih,Vg]
  by_cases h:p.1=x<;>simp [h]
theorem acj {E:List (List UInt8×List UInt8)} {k x:List UInt8}:x∈Af (zO [] E) k ↔ (k,x)∈E:=by
 rw [Ko]
 simp [Af]
theorem abq {E:List (List UInt8×List UInt8)} {k:List UInt8}:(Af (zO [] E) k).length≤E.length:=by
 rw [Ko]
 simp [Af,List.length_filter_le]
theorem Xu {n:Nat} (k v:List UInt8):∀{G:SM},(∀p∈G,p.2.length≤n)→∀p∈Bq G k v,p.2.length≤n+1
 | [],_,p,hp=>by simp [Bq] at hp;subst hp;simp
 | q::G,h,p,hp=>by
  have hq:=h q (by simp)
  have ih:=Xu k v (G:=G) fun p hp=>h p (by simp [hp])
  by_cases hk:q.1=k
  ·simp only [Bq,hk,if_true,List.mem_cons] at hp
   rcases hp with rfl|hp
   ·simp;omega
   ·have:=h p (by simp [hp]);omega
  ·simp only [Bq,hk,if_false,List.mem_cons] at hp
   rcases hp with rfl|hp
   ·omega
   ·exact ih p hp
theorem Xt {k:List UInt8} (v:List UInt8):∀{G:SM},k ∉ G.map (·.1)→Bq G k v=G++[(k,[v])]
 | [],_=>rfl
 | p::G,h=>by
  simp only [List.map_cons,List.mem_cons,not_or] at h
  have h1:¬p.1=k:=fun e=>h.1 e.symm
  simp [Bq,h1,Xt v h.2]
theorem Rl {k:List UInt8} (v:List UInt8):∀{G:SM},k∈G.map (·.1)→∃G1 vs G2,G=G1++(k,vs)::G2∧k ∉ G1.map (·.1)∧Bq G k v=G1++(k,vs++[v])::G2
 | [],h=>by cases h
 | p::G,h=>by
  by_cases h1:p.1=k
  ·refine ⟨[],p.2,G, ?_,by simp, ?_⟩
   ·rw [←h1];rfl
   ·simp [Bq,h1]
  ·simp only [List.map_cons,List.mem_cons] at h
   have h2:=h.resolve_left fun e=>h1 e.symm
   obtain ⟨G1,vs,G2,e1,e2,e3⟩:=Rl v h2
   refine ⟨p::G1,vs,G2,by rw [e1];rfl, ?_, ?_⟩
   ·simp only [List.map_cons,List.mem_cons,not_or]
    exact ⟨fun e=>h1 e.symm,e2⟩
   ·simp [Bq,h1,e3]
theorem Qz {k:List UInt8}:∀{G:SM} (b:Nat),k ∉ G.map (·.1)→find 1 (.s k) (esG b G)=some none
 | [],_,_=>rfl
 | p::G,b,h=>by
  simp only [List.map_cons,List.mem_cons,not_or] at h
  have ih:=Qz (b+1) h.2
  simp [esG,find,rG,h.1,ih]
theorem Qy {k:List UInt8} {vs:List (List UInt8)} {G2:SM}:∀{G1:SM} (b:Nat),k ∉ G1.map (·.1)→find 1 (.s k) (esG b (G1++(k,vs)::G2))=some (some (.st (b+G1.length) (vs.map .s)))
 | [],b,_=>by simp [esG,find,rG]
 | p::G,b,h=>by
  simp only [List.map_cons,List.mem_cons,not_or] at h
  have ih:=Qy (vs:=vs) (G2:=G2) (b+1) h.2
  have e:b+1+G.length=b+(G.length+1):=by omega
  rw [e] at ih
  simp [esG,find,rG,h.1,ih]
theorem VT {k:List UInt8} {vs:List (List UInt8)}:∀{G:SM} (b:Nat),k ∉ G.map (·.1)→A7 1 (.s k) (.st (b+G.length) (vs.map .s)) (esG b G)=some (esG b (G++[(k,vs)]))
 | [],_,_=>rfl
 | p::G,b,h=>by
  simp only [List.map_cons,List.mem_cons,not_or] at h
  have ih:=VT (vs:=vs) (b+1) h.2
  have e:b+1+G.length=b+(G.length+1):=by omega
  rw [e] at ih
  simp [esG,A7,rG,h.1,ih]
theorem VS {k:List UInt8} {vs ws:List (List UInt8)} {G2:SM}:∀{G1:SM} (b:Nat),k ∉ G1.map (·.1)→A7 1 (.s k) (.st (b+G1.length) (ws.map .s)) (esG b (G1++(k,vs)::G2))=some (esG b (G1++(k,ws)::G2))
 | [],b,_=>by simp [esG,A7,rG]
 | p::G,b,h=>by
  simp only [List.map_cons,List.mem_cons,not_or] at h
  have ih:=VS (vs:=vs) (ws:=ws) (G2:=G2) (b+1) h.2
  have e:b+1+G.length=b+(G.length+1):=by omega
  rw [e] at ih
  simp [esG,A7,rG,h.1,ih]
theorem afN (b:Nat) (G:SM):agm (esG b G) (Af G):=by
 intro k
 by_cases h:k∈G.map (·.1)
 ·obtain ⟨G1,vs,G2,e1,e2,e3⟩:=Rl [] h
  clear e3
  refine ⟨_,by rw [e1];exact Qy b e2, ?_⟩
  have:Af G k=vs:=by
   rw [e1];clear e1
   induction G1 with
   | nil=>simp [Af]
   | cons p G1 ih=>
    simp only [List.map_cons,List.mem_cons,not_or] at e2
    have h1:¬p.1=k:=fun e=>e2.1 e.symm
    simp [Af,h1,ih e2.2]
  rw [this]
  exact .inr (.inr ⟨_,rfl⟩)
 ·refine ⟨_,Qz b h,.inl ⟨rfl, ?_⟩⟩
  clear b
  induction G with
  | nil=>rfl
  | cons p G ih=>
   simp only [List.map_cons,List.mem_cons,not_or] at h
   have h1:¬p.1=k:=fun e=>h.1 e.symm
   simp [Af,h1,ih h.2]
@[simp] theorem aky {s r:St} {a:dA}:(s++a::r)[s.length]?=some a:=by simp
@[simp] theorem ajj {s r:St} {a b:dA}:(s++a::r).set s.length b=s++b::r:=by simp
theorem adD {s r1 r2:St} {a b:dA}:(s++a::(r1++b::r2))[s.length+1+r1.length]?=some b:=by
 rw [show s.length+1+r1.length=s.length+(1+r1.length) by omega,List.getElem?_append_right (by omega)]
 simp [show s.length+(1+r1.length) - s.length=r1.length+1 by omega]
theorem XC {s r1 r2:St} {a b c:dA}:(s++a::(r1++b::r2)).set (s.length+1+r1.length) c=s++a::(r1++c::r2):=by
 rw [show s.length+1+r1.length=s.length+(r1.length+1) by omega,List.set_append,if_neg (by omega),show s.length+(r1.length+1) - s.length=r1.length+1 by omega]
 simp
end Go.Ai.Z
namespace Go.Ai.Z
def upS (l:List Ax) (role:List UInt8):List (List UInt8):=upN (edU l) (l.length+1) [role]
theorem adT {l:List Ax} {role x:List UInt8}:x∈upS l role ↔ Rch (edU l) role x:=adU (by have:=Zg l;omega)
theorem L8 (n:Nat):∀l:List (List UInt8),bM n (l.map .s)=true
 | []=>by simp [bM]
 | x::l=>by simp [bM,L8 n l]
def CS (l:List Ax) (role:List UInt8):Int:=if uM l=0 then (if Ef role=true then 0 else 20) else uM l
end Go.Ai.Z
namespace Go.Ai.Z
theorem xZ (s:St) (role:List UInt8) (z:Bool) (l:List Ax) (hl:l.length≤1000) (h5:aiT l) (cx:Ctx) (hcx:cx.lim≤s.length∧cx.base≤s.length):
  ∀(rest:List Ax) (i:Nat) (G:SM),l.drop i=rest→(∀p∈G,p.2.length≤i)→
  ∃j:Int,bg (au P0.glob (aj P0) cx false jV) [0,1,7,21,22,23]
   [(0,.v (slf z (l.map uK))),(1,.v (.s role)),(7,.v (.mp s.length)),(21,.v (slf z (l.map uK))),(22,.v (.i .i64 l.length)),(23,.v (.i .i64 i))] (s++.map (esG (s.length+1) G)::Dn G)=
   .exit 0 [(0,.v (slf z (l.map uK))),(1,.v (.s role)),(7,.v (.mp s.length)),(21,.v (slf z (l.map uK))),(22,.v (.i .i64 l.length)),(23,.v (.i .i64 j)),(24,.v (.b false))] (s++.map (esG (s.length+1) (zO G (tZ (edU rest))))::Dn (zO G (tZ (edU rest))))
 | [],i,G,h,hG=>by
  have h1:¬i<l.length:=Nat.not_lt.2 (drop_nil h)
  refine ⟨i,ai fun K hK=>?_⟩
  simp [jV,h1,edU,zO,tZ]
 | p::r,i,G,h,hG=>by
  obtain ⟨g1,g2,g3,g4⟩:=drop_cons h
  have g5:=g4 g3
  have hwi:=wI (i:=i) (by omega)
  have hp:p∈l:=by rw [←g5];exact List.getElem_mem g3
  by_cases hk:p.kind=5
  ·obtain ⟨r0,hr0⟩:=h5 p hp hk
   obtain ⟨j,ih⟩:=xZ s role z l hl h5 cx hcx r (i+1) (Bq G p.role r0) g2 (Xu p.role r0 hG)
   have e0:zO G (tZ (edU (p::r)))=zO (Bq G p.role r0) (tZ (edU r)):=by rw [aaR hk,hr0];rfl
   rw [e0]
   refine ⟨j,ai fun K hK=>?_⟩
   rw [←hK,show ((i+1:Nat):Int)=(i:Int)+1 from rfl] at ih
   clear hK g4 h5 e0
   by_cases hm:p.role∈G.map (·.1)
   ·obtain ⟨G1,vs,G2,e1,e2,e3⟩:=Rl r0 hm
    have hvs:vs.length≤i:=hG (p.role,vs) (by rw [e1];simp)
    rw [e3] at ih ⊢
    have f1:=Qy (vs:=vs) (G2:=G2) (s.length+1) e2
    have f2:=VS (vs:=vs) (ws:=vs++[r0]) (G2:=G2) (s.length+1) e2
    have f3:=adD (s:=s) (r1:=Dn G1) (r2:=Dn G2) (a:=.map (esG (s.length+1) (G1++(p.role,vs)::G2))) (b:=.row ak 1 vs.length)
    have f4:=XC (s:=s) (r1:=Dn G1) (r2:=Dn G2) (a:=.map (esG (s.length+1) (G1++(p.role,vs)::G2))) (b:=.row ak 1 vs.length) (c:=.row ak 1 (vs.length+1))
    have m1:vs.length+1≤aU:=by unfold aU;omega
    have hlim:cx.lim≤s.length+1+G1.length:=by omega
    have k1:∀(ws:List (List UInt8)),Dn (G1++(p.role,ws)::G2)=Dn G1++.row ak 1 ws.length::Dn G2:=fun ws=>by simp [Dn]
    rw [abM] at f3 f4
    subst e1
    rw [k1] at ih ⊢
    simp at f2 ih
    simp [jV,g3,g5,hwi,hk,hr0,f1,f2,f3,f4,m1,hlim,hcx.1,hcx.2,vY,ih]
   ·have e3:=Xt r0 hm
    rw [e3] at ih ⊢
    have f1:=Qz (s.length+1) hm
    have f2:=VT (vs:=[r0]) (s.length+1) hm
    rw [show s.length+1+G.length=s.length+(G.length+1) by omega] at f2
    have k1:Dn (G++[(p.role,[r0])])=Dn G++[.row ak 1 1]:=by simp [Dn]
    rw [k1] at ih
    have m1:1≤aU:=by unfold aU;omega
    simp at f2 ih
    simp [jV,g3,g5,hwi,hk,hr0,f1,f2,m1,hcx.1,hcx.2,vY,ih]
  ·obtain ⟨j,ih⟩:=xZ s role z l hl h5 cx hcx r (i+1) G g2 fun p hp=>by have:=hG p hp;omega
   rw [aaQ hk]
   refine ⟨j,ai fun K hK=>?_⟩
   rw [←hK,show ((i+1:Nat):Int)=(i:Int)+1 from rfl] at ih
   clear hK g4 h5
   simp [jV,g3,g5,hwi,hk,ih]
def LK (l:List Ax) (role:List UInt8) (x:Ax):Bool:=(decide (x.kind=7) || decide (x.kind=6)) && decide (role∈upS l x.role)
theorem Zn {l:List Ax} {role:List UInt8} {x:Ax} (h:¬role∈upS l x.role):LK l role x=false:=by simp [LK,h]
def yB (l:List Ax) (role:List UInt8):Bool:=decide (uM l=0) && Ef role && l.all fun x=>!LK l role x
theorem Df (z:Bool) (l:List Ax) (hl:l.length≤1000) (role:List UInt8) (V:List (List UInt8)) (hV:∀x,x∈V ↔ role∈upS l x) (s:St) (cx:Ctx):
  ∀(rest:List Ax) (i:Nat),l.drop i=rest→
  ∃j:Int,bg (au P0.glob (aj P0) cx false gG) [10,47,48,49]
   [(10,.v (.im (BF V))),(47,.v (slf z (l.map uK))),(48,.v (.i .i64 l.length)),(49,.v (.i .i64 i))] s=
   if (rest.all fun x=>!LK l role x)=true then .exit 2 [(10,.v (.im (BF V))),(47,.v (slf z (l.map uK))),(48,.v (.i .i64 l.length)),(49,.v (.i .i64 j)),(50,.v (.b false))] s else .ret [(4,.v (.b false)),(5,.v (.i .i64 0))] s
 | [],i,h=>by
  have h1:¬i<l.length:=Nat.not_lt.2 (drop_nil h)
  refine ⟨i,ai fun K hK=>?_⟩
  simp [gG,h1]
 | p::r,i,h=>by
  obtain ⟨g1,g2,g3,g4⟩:=drop_cons h
  have g5:=g4 g3
  have hwi:=wI (i:=i) (by omega)
  obtain ⟨j,ih⟩:=Df z l hl role V hV s cx r (i+1) g2
  refine ⟨j,ai fun K hK=>?_⟩
  rw [←hK,show ((i+1:Nat):Int)=(i:Int)+1 from rfl] at ih
  have hf:=FD p.role V
  have hm:=hV p.role
  clear hK g4 hV
  by_cases h7:p.kind=7
  ·by_cases hv:p.role∈V
   ·have hb:LK l role p=true:=by simp [LK,h7,hm.1 hv]
    simp only [List.all_cons,hb,Bool.not_true,Bool.false_and]
    rw [if_pos hv] at hf
    simp [gG,g3,g5,hwi,h7,hf]
   ·have hb:LK l role p=false:=Zn fun h=>hv (hm.2 h)
    simp only [List.all_cons,hb,Bool.not_false,Bool.true_and]
    rw [if_neg hv] at hf
    rw [←ih]
    simp [gG,g3,g5,hwi,h7,hf]
  ·by_cases h6:p.kind=6
   ·by_cases hv:p.role∈V
    ·have hb:LK l role p=true:=by simp [LK,h6,hm.1 hv]
     simp only [List.all_cons,hb,Bool.not_true,Bool.false_and]
     rw [if_pos hv] at hf
     simp [gG,g3,g5,hwi,h6,hf]
    ·have hb:LK l role p=false:=Zn fun h=>hv (hm.2 h)
     simp only [List.all_cons,hb,Bool.not_false,Bool.true_and]
     rw [if_neg hv] at hf
     rw [←ih]
     simp [gG,g3,g5,hwi,h6,hf]
   ·have hb:LK l role p=false:=by simp [LK,h6,h7]
    simp only [List.all_cons,hb,Bool.not_false,Bool.true_and]
    rw [←ih]
    simp [gG,g3,g5,hwi,h6,h7]
theorem ac1 (S:St) (n:Nat) (b:Bool) (k:IntKind) (i:Int):frz S n (.tu [.b b,.i k i])=some (.tu [.b b,.i k i]):=by
 unfold frz
 rw [if_pos (by simp)]
theorem aaM (E:List (List UInt8×List UInt8)):(tZ E).length=E.length:=by simp [tZ]
theorem Oa (z:Bool) (l:List Ax) (hl:l.length≤100) (hx:∀x∈l,x.Lng) (role:List UInt8) (hr:role.length≤1000) (s:St) (cx:Ctx):
  aj P0 (.fn (.func rY) [] []) [slf z (l.map uK),.s role] s cx=.ret (.tu [.b (yB l role),.i .i64 (CS l role)]) s:=by
 have e1:=JQ z l (by omega) hx [role] (by simp) (by simp;omega)
 refine NV (by simp) ?_
 simp at e1
 by_cases h0:uM l=0
 ·by_cases h1:Ef role=true
  ·obtain ⟨j,h⟩:=xZ s role z l (by omega) (ab8 h0) ⟨s.length,s.length⟩ ⟨Nat.le_refl _,Nat.le_refl _⟩ l 0 [] rfl (by simp)
   have el:=Zg l
   have fl:=aaM (edU l)
   have hcl:=fun cx=>N9 role (s++.map (esG (s.length+1) (zO [] (tZ (edU l))))::Dn (zO [] (tZ (edU l)))) s.length (esG (s.length+1) (zO [] (tZ (edU l)))) (Af (zO [] (tZ (edU l)))) (by simp)
    (afN _ _) (tZ (edU l)) (fun k x=>acj) (fun k=>by have:=abq (E:=tZ (edU l)) (k:=k);omega) (by omega) cx
   generalize hG:zO [] (tZ (edU l))=G at h hcl
   obtain ⟨V,e2,m1,m2⟩:=hcl ⟨s.length,s.length⟩
   have hV:∀x,x∈V ↔ role∈upS l x:=fun x=>by rw [m2,adT,Rch.flip_iff]
   obtain ⟨j2,h2⟩:=Df z l (by omega) role V hV (s++.map (esG (s.length+1) G)::Dn G) ⟨s.length,s.length⟩ l 0 rfl
   have a2:CS l role=0:=by simp [CS,h0,h1]
   rw [a2]
   simp only [h0,h1,if_true] at e1
   simp [esG,show Dn []=[] from rfl] at h
   simp only [Int.ofNat_zero] at h2
   by_cases hb:(l.all fun x=>!LK l role x)=true
   ·have a1:yB l role=true:=by simp only [yB,h0,h1,hb];rfl
    rw [if_pos hb] at h2
    rw [a1]
    try simp at h2
    simp [af,lm,e1,h,e2,h2,ac1]
   ·have a1:yB l role=false:=by simp only [yB,h0,h1];simpa using hb
    rw [if_neg hb] at h2
    rw [a1]
    try simp at h2
    simp [af,lm,e1,h,e2,h2,ac1]
  ·have a1:yB l role=false:=by simp [yB,h1]
   have a2:CS l role=20:=by simp [CS,h0,h1]
   rw [a1,a2]
   simp only [h0,h1,if_true,if_false] at e1
   simp [af,lm,e1]
 ·have a1:yB l role=false:=by simp [yB,h0]
  have a2:CS l role=uM l:=by simp [CS,h0]
  rw [a1,a2]
  simp only [h0,if_false] at e1
  simp [af,lm,e1,h0]
end Go.Ai.Z
