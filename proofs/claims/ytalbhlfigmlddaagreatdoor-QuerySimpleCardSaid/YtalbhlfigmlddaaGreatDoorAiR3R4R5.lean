/-
 roles.Above and the reference's Above: what is reached.
-/
import Derived.Test.YtalbhlfigmlddaaGreatDoorAiRchR1R2
set_option maxRecDepth 100000
set_option linter.unusedSimpArgs false
set_option linter.unusedVariables false
set_option linter.unusedSectionVars false
namespace Go.Ai.Z
def edU (l:List Ax):List (List UInt8×List UInt8):=l.filterMap fun x=>if x.kind=5 then some (x.roles.headD [],x.role) else none
theorem VJ {x:Ax} {l:List Ax} (h:x.kind=5):edU (x::l)=(x.roles.headD [],x.role)::edU l:=by simp [edU,h]
theorem VI {x:Ax} {l:List Ax} (h:¬x.kind=5):edU (x::l)=edU l:=by simp [edU,h]
theorem Uj (l:List Ax):(edU l).length≤l.length:=List.length_filterMap_le _ _
def adg (l:List Ax):Prop:=∀x∈l,x.kind=5→∃r,x.roles=[r]
theorem Yr {x:Ax} (h:qJ x=0) (h5:x.kind=5):∃r,x.roles=[r]:=by
 have hs:vJ x=true:=by
  unfold qJ at h
  split at h
  ·cases h
  ·rename_i hn;simpa using hn
 have:1≤x.roles.length∧x.roles.length≤1:=by
  simp [vJ,Eh,h5,sQ] at hs
  omega
 match h1:x.roles with
 | []=>rw [h1] at this;simp at this
 | [r]=>exact ⟨r,rfl⟩
 | _::_::_=>rw [h1] at this;simp at this
theorem Ri:∀{l:List Ax},lF l=0→∀x∈l,qJ x=0
 | [],_,x,hx=>by cases hx
 | y::l,h,x,hx=>by
  unfold lF at h
  split at h
  ·rcases List.mem_cons.1 hx with rfl|hx
   ·assumption
   ·exact Ri h x hx
  ·contradiction
theorem WV {l:List Ax} (h:lF l=0):adg l:=fun x hx h5=>Yr (Ri h x hx) h5
abbrev SM:=List (List UInt8×List (List UInt8))
def esG:Nat→SM→List (AV×AV)
 | _,[]=>[]
 | b,p::G=>(.s p.1,.st b (p.2.map .s))::esG (b+1) G
def zS (G:SM):St:=G.map fun p=>.row ay 1 p.2.length
def xO:SM→List UInt8→List (List UInt8)
 | [],_=>[]
 | p::G,k=>if p.1=k then p.2 else xO G k
def yN:SM→List UInt8→List UInt8→SM
 | [],k,v=>[(k,[v])]
 | p::G,k,v=>if p.1=k then (p.1,p.2++[v])::G else p::yN G k v
def xk (G:SM) (E:List (List UInt8×List UInt8)):SM:=E.foldl (fun G p=>yN G p.1 p.2) G
@[simp] theorem WI (G:SM):(zS G).length=G.length:=by simp [zS]
theorem P5 (k v x:List UInt8):∀G:SM,xO (yN G k v) x=if k=x then xO G x++[v] else xO G x
 | []=>by simp [yN,xO]
 | p::G=>by
  have ih:=P5 k v x G
  by_cases h:p.1=k
  ·by_cases h2:k=x
   ·simp [yN,xO,h,h2]
   ·have h3:¬p.1=x:=by rw [h];exact h2
    simp [yN,xO,h,h2]
  ·by_cases h2:p.1=x
   ·have h3:¬k=x:=fun h3=>h (by rw [h2,h3])
    have h4:¬x=k:=fun h4=>h3 h4.symm
    simp [yN,xO,h2,h3,h4]
   ·simp [yN,xO,h,h2,ih]
theorem Gz (x:List UInt8):∀(E:List (List UInt8×List UInt8)) (G:SM),xO (xk G E) x=xO G x++(E.filter fun p=>decide (p.1=x)).map (·.2)
 | [],G=>by simp [xk]
 | p::E,G=>by
  have ih:=Gz x E (yN G p.1 p.2)
  simp only [xk,List.foldl_cons] at ih ⊢
  rw [ih,P5]
  by_cases h:p.1=x<;>simp [h]
theorem Xa {E:List (List UInt8×List UInt8)} {k x:List UInt8}:x∈xO (xk [] E) k ↔ (k,x)∈E:=by
 rw [Gz]
 simp [xO]
theorem Wi {E:List (List UInt8×List UInt8)} {k:List UInt8}:(xO (xk [] E) k).length≤E.length:=by
 rw [Gz]
 simp [xO,List.length_filter_le]
theorem RD {n:Nat} (k v:List UInt8):∀{G:SM},(∀p∈G,p.2.length≤n)→∀p∈yN G k v,p.2.length≤n+1
 | [],_,p,hp=>by simp [yN] at hp;subst hp;simp
 | q::G,h,p,hp=>by
  have hq:=h q (by simp)
  have ih:=RD k v (G:=G) fun p hp=>h p (by simp [hp])
  by_cases hk:q.1=k
  ·simp only [yN,hk,if_true,List.mem_cons] at hp
   rcases hp with rfl|hp
   ·simp;omega
   ·have:=h p (by simp [hp]);omega
  ·simp only [yN,hk,if_false,List.mem_cons] at hp
   rcases hp with rfl|hp
   ·omega
   ·exact ih p hp
theorem Rz {k:List UInt8} (v:List UInt8):∀{G:SM},k ∉ G.map (·.1)→yN G k v=G++[(k,[v])]
 | [],_=>rfl
 | p::G,h=>by
  simp only [List.map_cons,List.mem_cons,not_or] at h
  have h1:¬p.1=k:=fun e=>h.1 e.symm
  simp [yN,h1,Rz v h.2]
theorem Nv {k:List UInt8} (v:List UInt8):∀{G:SM},k∈G.map (·.1)→∃G1 vs G2,G=G1++(k,vs)::G2∧k ∉ G1.map (·.1)∧yN G k v=G1++(k,vs++[v])::G2
 | [],h=>by cases h
 | p::G,h=>by
  by_cases h1:p.1=k
  ·refine ⟨[],p.2,G, ?_,by simp, ?_⟩
   ·rw [←h1];rfl
   ·simp [yN,h1]
  ·simp only [List.map_cons,List.mem_cons] at h
   have h2:=h.resolve_left fun e=>h1 e.symm
   obtain ⟨G1,vs,G2,e1,e2,e3⟩:=Nv v h2
   refine ⟨p::G1,vs,G2,by rw [e1];rfl, ?_, ?_⟩
   ·simp only [List.map_cons,List.mem_cons,not_or]
    exact ⟨fun e=>h1 e.symm,e2⟩
   ·simp [yN,h1,e3]
theorem MB {k:List UInt8}:∀{G:SM} (b:Nat),k ∉ G.map (·.1)→find 1 (.s k) (esG b G)=some none
 | [],_,_=>rfl
 | p::G,b,h=>by
  simp only [List.map_cons,List.mem_cons,not_or] at h
  have ih:=MB (b+1) h.2
  simp [esG,find,oO,h.1,ih]
theorem Me {k:List UInt8} {vs:List (List UInt8)} {G2:SM}:∀{G1:SM} (b:Nat),k ∉ G1.map (·.1)→find 1 (.s k) (esG b (G1++(k,vs)::G2))=some (some (.st (b+G1.length) (vs.map .s)))
 | [],b,_=>by simp [esG,find,oO]
 | p::G,b,h=>by
  simp only [List.map_cons,List.mem_cons,not_or] at h
  have ih:=Me (vs:=vs) (G2:=G2) (b+1) h.2
  have e:b+1+G.length=b+(G.length+1):=by omega
  rw [e] at ih
  simp [esG,find,oO,h.1,ih]
theorem Qz {k:List UInt8} {vs:List (List UInt8)}:∀{G:SM} (b:Nat),k ∉ G.map (·.1)→yx 1 (.s k) (.st (b+G.length) (vs.map .s)) (esG b G)=some (esG b (G++[(k,vs)]))
 | [],_,_=>rfl
 | p::G,b,h=>by
  simp only [List.map_cons,List.mem_cons,not_or] at h
  have ih:=Qz (vs:=vs) (b+1) h.2
  have e:b+1+G.length=b+(G.length+1):=by omega
  rw [e] at ih
  simp [esG,yx,oO,h.1,ih]
theorem Qy {k:List UInt8} {vs ws:List (List UInt8)} {G2:SM}:∀{G1:SM} (b:Nat),k ∉ G1.map (·.1)→yx 1 (.s k) (.st (b+G1.length) (ws.map .s)) (esG b (G1++(k,vs)::G2))=some (esG b (G1++(k,ws)::G2))
 | [],b,_=>by simp [esG,yx,oO]
 | p::G,b,h=>by
  simp only [List.map_cons,List.mem_cons,not_or] at h
  have ih:=Qy (vs:=vs) (ws:=ws) (G2:=G2) (b+1) h.2
  have e:b+1+G.length=b+(G.length+1):=by omega
  rw [e] at ih
  simp [esG,yx,oO,h.1,ih]
theorem aal (b:Nat) (G:SM):aaL (esG b G) (xO G):=by
 intro k
 by_cases h:k∈G.map (·.1)
 ·obtain ⟨G1,vs,G2,e1,e2,e3⟩:=Nv [] h
  clear e3
  refine ⟨_,by rw [e1];exact Me b e2, ?_⟩
  have:xO G k=vs:=by
   rw [e1];clear e1
   induction G1 with
   | nil=>simp [xO]
   | cons p G1 ih=>
    simp only [List.map_cons,List.mem_cons,not_or] at e2
    have h1:¬p.1=k:=fun e=>e2.1 e.symm
    simp [xO,h1,ih e2.2]
  rw [this]
  exact .inr (.inr ⟨_,rfl⟩)
 ·refine ⟨_,MB b h,.inl ⟨rfl, ?_⟩⟩
  clear b
  induction G with
  | nil=>rfl
  | cons p G ih=>
   simp only [List.map_cons,List.mem_cons,not_or] at h
   have h1:¬p.1=k:=fun e=>h.1 e.symm
   simp [xO,h1,ih h.2]
@[simp] theorem aeI {s r:St} {a:cO}:(s++a::r)[s.length]?=some a:=by simp
@[simp] theorem adG {s r:St} {a b:cO}:(s++a::r).set s.length b=s++b::r:=by simp
theorem Yl {s r1 r2:St} {a b:cO}:(s++a::(r1++b::r2))[s.length+1+r1.length]?=some b:=by
 rw [show s.length+1+r1.length=s.length+(1+r1.length) by omega,List.getElem?_append_right (by omega)]
 simp [show s.length+(1+r1.length) - s.length=r1.length+1 by omega]
theorem RQ {s r1 r2:St} {a b c:cO}:(s++a::(r1++b::r2)).set (s.length+1+r1.length) c=s++a::(r1++c::r2):=by
 rw [show s.length+1+r1.length=s.length+(r1.length+1) by omega,List.set_append,if_neg (by omega),show s.length+(r1.length+1) - s.length=r1.length+1 by omega]
 simp
end Go.Ai.Z
namespace Go.Ai.Z
def upS (l:List Ax) (role:List UInt8):List (List UInt8):=upN (edU l) (l.length+1) [role]
theorem Yy {l:List Ax} {role x:List UInt8}:x∈upS l role ↔ Rch (edU l) role x:=Yz (by have:=Uj l;omega)
theorem IA (n:Nat):∀l:List (List UInt8),bM n (l.map .s)=true
 | []=>by simp [bM]
 | x::l=>by simp [bM,IA n l]
def xu (l:List Ax) (role:List UInt8):Int:=if lF l=0 then (if Ec role=true then 0 else 20) else lF l
end Go.Ai.Z
namespace Go.Ai.Z
theorem ve (s:St) (role:List UInt8) (z:Bool) (l:List Ax) (hl:l.length≤1000) (h5:adg l) (cx:Ctx) (hcx:cx.lim≤s.length∧cx.base≤s.length):
  ∀(rest:List Ax) (i:Nat) (G:SM),l.drop i=rest→(∀p∈G,p.2.length≤i)→
  ∃j:Int,dZ (ak P0.glob (aj P0) cx false iZ) [0,1,7,21,22,23]
   [(0,.v (slf z (l.map kE))),(1,.v (.s role)),(7,.v (.mp s.length)),(21,.v (slf z (l.map kE))),(22,.v (.i .i64 l.length)),(23,.v (.i .i64 i))] (s++.map (esG (s.length+1) G)::zS G)=
   .exit 0 [(0,.v (slf z (l.map kE))),(1,.v (.s role)),(7,.v (.mp s.length)),(21,.v (slf z (l.map kE))),(22,.v (.i .i64 l.length)),(23,.v (.i .i64 j)),(24,.v (.b false))] (s++.map (esG (s.length+1) (xk G (qA (edU rest))))::zS (xk G (qA (edU rest))))
 | [],i,G,h,hG=>by
  have h1:¬i<l.length:=Nat.not_lt.2 (drop_nil h)
  refine ⟨i,ai fun K hK=>?_⟩
  simp [iZ,h1,edU,xk,qA]
 | p::r,i,G,h,hG=>by
  obtain ⟨g1,g2,g3,g4⟩:=drop_cons h
  have g5:=g4 g3
  have hwi:=wI (i:=i) (by omega)
  have hp:p∈l:=by rw [←g5];exact List.getElem_mem g3
  by_cases hk:p.kind=5
  ·obtain ⟨r0,hr0⟩:=h5 p hp hk
   obtain ⟨j,ih⟩:=ve s role z l hl h5 cx hcx r (i+1) (yN G p.role r0) g2 (RD p.role r0 hG)
   have e0:xk G (qA (edU (p::r)))=xk (yN G p.role r0) (qA (edU r)):=by rw [VJ hk,hr0];rfl
   rw [e0]
   refine ⟨j,ai fun K hK=>?_⟩
   rw [←hK,show ((i+1:Nat):Int)=(i:Int)+1 from rfl] at ih
   clear hK g4 h5 e0
   by_cases hm:p.role∈G.map (·.1)
   ·obtain ⟨G1,vs,G2,e1,e2,e3⟩:=Nv r0 hm
    have hvs:vs.length≤i:=hG (p.role,vs) (by rw [e1];simp)
    rw [e3] at ih ⊢
    have f1:=Me (vs:=vs) (G2:=G2) (s.length+1) e2
    have f2:=Qy (vs:=vs) (ws:=vs++[r0]) (G2:=G2) (s.length+1) e2
    have f3:=Yl (s:=s) (r1:=zS G1) (r2:=zS G2) (a:=.map (esG (s.length+1) (G1++(p.role,vs)::G2))) (b:=.row ay 1 vs.length)
    have f4:=RQ (s:=s) (r1:=zS G1) (r2:=zS G2) (a:=.map (esG (s.length+1) (G1++(p.role,vs)::G2))) (b:=.row ay 1 vs.length) (c:=.row ay 1 (vs.length+1))
    have m1:vs.length+1≤bI:=by unfold bI;omega
    have hlim:cx.lim≤s.length+1+G1.length:=by omega
    have k1:∀(ws:List (List UInt8)),zS (G1++(p.role,ws)::G2)=zS G1++.row ay 1 ws.length::zS G2:=fun ws=>by simp [zS]
    rw [WI] at f3 f4
    subst e1
    rw [k1] at ih ⊢
    simp at f2 ih
    simp [iZ,g3,g5,hwi,hk,hr0,f1,f2,f3,f4,m1,hlim,hcx.1,hcx.2,sH,ih]
   ·have e3:=Rz r0 hm
    rw [e3] at ih ⊢
    have f1:=MB (s.length+1) hm
    have f2:=Qz (vs:=[r0]) (s.length+1) hm
    rw [show s.length+1+G.length=s.length+(G.length+1) by omega] at f2
    have k1:zS (G++[(p.role,[r0])])=zS G++[.row ay 1 1]:=by simp [zS]
    rw [k1] at ih
    have m1:1≤bI:=by unfold bI;omega
    simp at f2 ih
    simp [iZ,g3,g5,hwi,hk,hr0,f1,f2,m1,hcx.1,hcx.2,sH,ih]
  ·obtain ⟨j,ih⟩:=ve s role z l hl h5 cx hcx r (i+1) G g2 fun p hp=>by have:=hG p hp;omega
   rw [VI hk]
   refine ⟨j,ai fun K hK=>?_⟩
   rw [←hK,show ((i+1:Nat):Int)=(i:Int)+1 from rfl] at ih
   clear hK g4 h5
   simp [iZ,g3,g5,hwi,hk,ih]
def Ii (l:List Ax) (role:List UInt8) (x:Ax):Bool:=(decide (x.kind=7) || decide (x.kind=6)) && decide (role∈upS l x.role)
theorem Us {l:List Ax} {role:List UInt8} {x:Ax} (h:¬role∈upS l x.role):Ii l role x=false:=by simp [Ii,h]
def qQ (l:List Ax) (role:List UInt8):Bool:=decide (lF l=0) && Ec role && l.all fun x=>!Ii l role x
theorem zK (z:Bool) (l:List Ax) (hl:l.length≤1000) (role:List UInt8) (V:List (List UInt8)) (hV:∀x,x∈V ↔ role∈upS l x) (s:St) (cx:Ctx):
  ∀(rest:List Ax) (i:Nat),l.drop i=rest→
  ∃j:Int,dZ (ak P0.glob (aj P0) cx false fD) [10,47,48,49]
   [(10,.v (.im (yQ V))),(47,.v (slf z (l.map kE))),(48,.v (.i .i64 l.length)),(49,.v (.i .i64 i))] s=
   if (rest.all fun x=>!Ii l role x)=true then .exit 2 [(10,.v (.im (yQ V))),(47,.v (slf z (l.map kE))),(48,.v (.i .i64 l.length)),(49,.v (.i .i64 j)),(50,.v (.b false))] s else .ret [(4,.v (.b false)),(5,.v (.i .i64 0))] s
 | [],i,h=>by
  have h1:¬i<l.length:=Nat.not_lt.2 (drop_nil h)
  refine ⟨i,ai fun K hK=>?_⟩
  simp [fD,h1]
 | p::r,i,h=>by
  obtain ⟨g1,g2,g3,g4⟩:=drop_cons h
  have g5:=g4 g3
  have hwi:=wI (i:=i) (by omega)
  obtain ⟨j,ih⟩:=zK z l hl role V hV s cx r (i+1) g2
  refine ⟨j,ai fun K hK=>?_⟩
  rw [←hK,show ((i+1:Nat):Int)=(i:Int)+1 from rfl] at ih
  have hf:=BV p.role V
  have hm:=hV p.role
  clear hK g4 hV
  by_cases h7:p.kind=7
  ·by_cases hv:p.role∈V
   ·have hb:Ii l role p=true:=by simp [Ii,h7,hm.1 hv]
    simp only [List.all_cons,hb,Bool.not_true,Bool.false_and]
    rw [if_pos hv] at hf
    simp [fD,g3,g5,hwi,h7,hf]
   ·have hb:Ii l role p=false:=Us fun h=>hv (hm.2 h)
    simp only [List.all_cons,hb,Bool.not_false,Bool.true_and]
    rw [if_neg hv] at hf
    rw [←ih]
    simp [fD,g3,g5,hwi,h7,hf]
  ·by_cases h6:p.kind=6
   ·by_cases hv:p.role∈V
    ·have hb:Ii l role p=true:=by simp [Ii,h6,hm.1 hv]
     simp only [List.all_cons,hb,Bool.not_true,Bool.false_and]
     rw [if_pos hv] at hf
     simp [fD,g3,g5,hwi,h6,hf]
    ·have hb:Ii l role p=false:=Us fun h=>hv (hm.2 h)
     simp only [List.all_cons,hb,Bool.not_false,Bool.true_and]
     rw [if_neg hv] at hf
     rw [←ih]
     simp [fD,g3,g5,hwi,h6,hf]
   ·have hb:Ii l role p=false:=by simp [Ii,h6,h7]
    simp only [List.all_cons,hb,Bool.not_false,Bool.true_and]
    rw [←ih]
    simp [fD,g3,g5,hwi,h6,h7]
theorem XP (S:St) (n:Nat) (b:Bool) (k:IntKind) (i:Int):frz S n (.tu [.b b,.i k i])=some (.tu [.b b,.i k i]):=by
 unfold frz
 rw [if_pos (by simp)]
theorem VF (E:List (List UInt8×List UInt8)):(qA E).length=E.length:=by simp [qA]
theorem zO (z:Bool) (l:List Ax) (hl:l.length≤100) (hx:∀x∈l,x.Lng) (role:List UInt8) (hr:role.length≤1000) (s:St) (cx:Ctx):
  aj P0 (.fn (.func mO) [] []) [slf z (l.map kE),.s role] s cx=.ret (.tu [.b (qQ l role),.i .i64 (xu l role)]) s:=by
 have e1:=Gh z l (by omega) hx [role] (by simp) (by simp;omega)
 refine JI (by simp) ?_
 simp at e1
 by_cases h0:lF l=0
 ·by_cases h1:Ec role=true
  ·obtain ⟨j,h⟩:=ve s role z l (by omega) (WV h0) ⟨s.length,s.length⟩ ⟨Nat.le_refl _,Nat.le_refl _⟩ l 0 [] rfl (by simp)
   have el:=Uj l
   have fl:=VF (edU l)
   have hcl:=fun cx=>JO role (s++.map (esG (s.length+1) (xk [] (qA (edU l))))::zS (xk [] (qA (edU l)))) s.length (esG (s.length+1) (xk [] (qA (edU l)))) (xO (xk [] (qA (edU l)))) (by simp)
    (aal _ _) (qA (edU l)) (fun k x=>Xa) (fun k=>by have:=Wi (E:=qA (edU l)) (k:=k);omega) (by omega) cx
   generalize hG:xk [] (qA (edU l))=G at h hcl
   obtain ⟨V,e2,m1,m2⟩:=hcl ⟨s.length,s.length⟩
   have hV:∀x,x∈V ↔ role∈upS l x:=fun x=>by rw [m2,Yy,Rch.flip_iff]
   obtain ⟨j2,h2⟩:=zK z l (by omega) role V hV (s++.map (esG (s.length+1) G)::zS G) ⟨s.length,s.length⟩ l 0 rfl
   have a2:xu l role=0:=by simp [xu,h0,h1]
   rw [a2]
   simp only [h0,h1,if_true] at e1
   simp [esG,show zS []=[] from rfl] at h
   simp only [Int.ofNat_zero] at h2
   by_cases hb:(l.all fun x=>!Ii l role x)=true
   ·have a1:qQ l role=true:=by simp only [qQ,h0,h1,hb];rfl
    rw [if_pos hb] at h2
    rw [a1]
    try simp at h2
    simp [ah,jF,e1,h,e2,h2,XP]
   ·have a1:qQ l role=false:=by simp only [qQ,h0,h1];simpa using hb
    rw [if_neg hb] at h2
    rw [a1]
    try simp at h2
    simp [ah,jF,e1,h,e2,h2,XP]
  ·have a1:qQ l role=false:=by simp [qQ,h1]
   have a2:xu l role=20:=by simp [xu,h0,h1]
   rw [a1,a2]
   simp only [h0,h1,if_true,if_false] at e1
   simp [ah,jF,e1]
 ·have a1:qQ l role=false:=by simp [qQ,h0]
  have a2:xu l role=lF l:=by simp [xu,h0]
  rw [a1,a2]
  simp only [h0,if_false] at e1
  simp [ah,jF,e1,h0]
end Go.Ai.Z
