/-
 roles.Above and the reference's Above: what is reached.
-/
import Derived.Test.YtalbhlfigmlddaaGreatDoorAiRchR1R2
set_option maxRecDepth 100000
set_option linter.unusedSimpArgs false
set_option linter.unusedVariables false
set_option linter.unusedSectionVars false
namespace Go.Ai.Z
def edU (l:List Ax):List (List UInt8×List UInt8):=l.filterMap fun x=>if x.kind=5 then some (x.roles.headD [],x.role) else none
theorem XD {x:Ax} {l:List Ax} (h:x.kind=5):edU (x::l)=(x.roles.headD [],x.role)::edU l:=by simp [edU,h]
theorem XC {x:Ax} {l:List Ax} (h:¬x.kind=5):edU (x::l)=edU l:=by simp [edU,h]
theorem VJ (l:List Ax):(edU l).length≤l.length:=List.length_filterMap_le _ _
def aeZ (l:List Ax):Prop:=∀x∈l,x.kind=5→∃r,x.roles=[r]
theorem aah {x:Ax} (h:wY x=0) (h5:x.kind=5):∃r,x.roles=[r]:=by
 have hs:wP x=true:=by
  unfold wY at h
  split at h
  ·cases h
  ·rename_i hn;simpa using hn
 have:1≤x.roles.length∧x.roles.length≤1:=by
  simp [wP,ER,h5,uo] at hs
  omega
 match h1:x.roles with
 | []=>rw [h1] at this;simp at this
 | [r]=>exact ⟨r,rfl⟩
 | _::_::_=>rw [h1] at this;simp at this
theorem TJ:∀{l:List Ax},rO l=0→∀x∈l,wY x=0
 | [],_,x,hx=>by cases hx
 | y::l,h,x,hx=>by
  unfold rO at h
  split at h
  ·rcases List.mem_cons.1 hx with rfl|hx
   ·assumption
   ·exact TJ h x hx
  ·contradiction
theorem YJ {l:List Ax} (h:rO l=0):aeZ l:=fun x hx h5=>aah (TJ h x hx) h5
abbrev SM:=List (List UInt8×List (List UInt8))
def esG:Nat→SM→List (AV×AV)
 | _,[]=>[]
 | b,p::G=>(.s p.1,.st b (p.2.map .s))::esG (b+1) G
def AP (G:SM):St:=G.map fun p=>.row ay 1 p.2.length
def yJ:SM→List UInt8→List (List UInt8)
 | [],_=>[]
 | p::G,k=>if p.1=k then p.2 else yJ G k
def zD:SM→List UInt8→List UInt8→SM
 | [],k,v=>[(k,[v])]
 | p::G,k,v=>if p.1=k then (p.1,p.2++[v])::G else p::zD G k v
def yt (G:SM) (E:List (List UInt8×List UInt8)):SM:=E.foldl (fun G p=>zD G p.1 p.2) G
@[simp] theorem Yv (G:SM):(AP G).length=G.length:=by simp [AP]
theorem Rq (k v x:List UInt8):∀G:SM,yJ (zD G k v) x=if k=x then yJ G x++[v] else yJ G x
 | []=>by simp [zD,yJ]
 | p::G=>by
  have ih:=Rq k v x G
  by_cases h:p.1=k
  ·by_cases h2:k=x
   ·simp [zD,yJ,h,h2]
   ·have h3:¬p.1=x:=by rw [h];exact h2
    simp [zD,yJ,h,h2]
  ·by_cases h2:p.1=x
   ·have h3:¬k=x:=fun h3=>h (by rw [h2,h3])
    have h4:¬x=k:=fun h4=>h3 h4.symm
    simp [zD,yJ,h2,h3,h4]
   ·simp [zD,yJ,h,h2,ih]
theorem Ig (x:List UInt8):∀(E:List (List UInt8×List UInt8)) (G:SM),yJ (yt G E) x=yJ G x++(E.filter fun p=>decide (p.1=x)).map (·.2)
 | [],G=>by simp [yt]
 | p::E,G=>by
  have ih:=Ig x E (zD G p.1 p.2)
  simp only [yt,List.foldl_cons] at ih ⊢
  rw [ih,Rq]
  by_cases h:p.1=x<;>simp [h]
theorem YP {E:List (List UInt8×List UInt8)} {k x:List UInt8}:x∈yJ (yt [] E) k ↔ (k,x)∈E:=by
 rw [Ig]
 simp [yJ]
theorem Yc {E:List (List UInt8×List UInt8)} {k:List UInt8}:(yJ (yt [] E) k).length≤E.length:=by
 rw [Ig]
 simp [yJ,List.length_filter_le]
theorem Uc {n:Nat} (k v:List UInt8):∀{G:SM},(∀p∈G,p.2.length≤n)→∀p∈zD G k v,p.2.length≤n+1
 | [],_,p,hp=>by simp [zD] at hp;subst hp;simp
 | q::G,h,p,hp=>by
  have hq:=h q (by simp)
  have ih:=Uc k v (G:=G) fun p hp=>h p (by simp [hp])
  by_cases hk:q.1=k
  ·simp only [zD,hk,if_true,List.mem_cons] at hp
   rcases hp with rfl|hp
   ·simp;omega
   ·have:=h p (by simp [hp]);omega
  ·simp only [zD,hk,if_false,List.mem_cons] at hp
   rcases hp with rfl|hp
   ·omega
   ·exact ih p hp
theorem Ub {k:List UInt8} (v:List UInt8):∀{G:SM},k ∉ G.map (·.1)→zD G k v=G++[(k,[v])]
 | [],_=>rfl
 | p::G,h=>by
  simp only [List.map_cons,List.mem_cons,not_or] at h
  have h1:¬p.1=k:=fun e=>h.1 e.symm
  simp [zD,h1,Ub v h.2]
theorem OJ {k:List UInt8} (v:List UInt8):∀{G:SM},k∈G.map (·.1)→∃G1 vs G2,G=G1++(k,vs)::G2∧k ∉ G1.map (·.1)∧zD G k v=G1++(k,vs++[v])::G2
 | [],h=>by cases h
 | p::G,h=>by
  by_cases h1:p.1=k
  ·refine ⟨[],p.2,G, ?_,by simp, ?_⟩
   ·rw [←h1];rfl
   ·simp [zD,h1]
  ·simp only [List.map_cons,List.mem_cons] at h
   have h2:=h.resolve_left fun e=>h1 e.symm
   obtain ⟨G1,vs,G2,e1,e2,e3⟩:=OJ v h2
   refine ⟨p::G1,vs,G2,by rw [e1];rfl, ?_, ?_⟩
   ·simp only [List.map_cons,List.mem_cons,not_or]
    exact ⟨fun e=>h1 e.symm,e2⟩
   ·simp [zD,h1,e3]
theorem NV {k:List UInt8}:∀{G:SM} (b:Nat),k ∉ G.map (·.1)→find 1 (.s k) (esG b G)=some none
 | [],_,_=>rfl
 | p::G,b,h=>by
  simp only [List.map_cons,List.mem_cons,not_or] at h
  have ih:=NV (b+1) h.2
  simp [esG,find,nS,h.1,ih]
theorem NU {k:List UInt8} {vs:List (List UInt8)} {G2:SM}:∀{G1:SM} (b:Nat),k ∉ G1.map (·.1)→find 1 (.s k) (esG b (G1++(k,vs)::G2))=some (some (.st (b+G1.length) (vs.map .s)))
 | [],b,_=>by simp [esG,find,nS]
 | p::G,b,h=>by
  simp only [List.map_cons,List.mem_cons,not_or] at h
  have ih:=NU (vs:=vs) (G2:=G2) (b+1) h.2
  have e:b+1+G.length=b+(G.length+1):=by omega
  rw [e] at ih
  simp [esG,find,nS,h.1,ih]
theorem Sv {k:List UInt8} {vs:List (List UInt8)}:∀{G:SM} (b:Nat),k ∉ G.map (·.1)→yA 1 (.s k) (.st (b+G.length) (vs.map .s)) (esG b G)=some (esG b (G++[(k,vs)]))
 | [],_,_=>rfl
 | p::G,b,h=>by
  simp only [List.map_cons,List.mem_cons,not_or] at h
  have ih:=Sv (vs:=vs) (b+1) h.2
  have e:b+1+G.length=b+(G.length+1):=by omega
  rw [e] at ih
  simp [esG,yA,nS,h.1,ih]
theorem Sr {k:List UInt8} {vs ws:List (List UInt8)} {G2:SM}:∀{G1:SM} (b:Nat),k ∉ G1.map (·.1)→yA 1 (.s k) (.st (b+G1.length) (ws.map .s)) (esG b (G1++(k,vs)::G2))=some (esG b (G1++(k,ws)::G2))
 | [],b,_=>by simp [esG,yA,nS]
 | p::G,b,h=>by
  simp only [List.map_cons,List.mem_cons,not_or] at h
  have ih:=Sr (vs:=vs) (ws:=ws) (G2:=G2) (b+1) h.2
  have e:b+1+G.length=b+(G.length+1):=by omega
  rw [e] at ih
  simp [esG,yA,nS,h.1,ih]
theorem ab6 (b:Nat) (G:SM):acG (esG b G) (yJ G):=by
 intro k
 by_cases h:k∈G.map (·.1)
 ·obtain ⟨G1,vs,G2,e1,e2,e3⟩:=OJ [] h
  clear e3
  refine ⟨_,by rw [e1];exact NU b e2, ?_⟩
  have:yJ G k=vs:=by
   rw [e1];clear e1
   induction G1 with
   | nil=>simp [yJ]
   | cons p G1 ih=>
    simp only [List.map_cons,List.mem_cons,not_or] at e2
    have h1:¬p.1=k:=fun e=>e2.1 e.symm
    simp [yJ,h1,ih e2.2]
  rw [this]
  exact .inr (.inr ⟨_,rfl⟩)
 ·refine ⟨_,NV b h,.inl ⟨rfl, ?_⟩⟩
  clear b
  induction G with
  | nil=>rfl
  | cons p G ih=>
   simp only [List.map_cons,List.mem_cons,not_or] at h
   have h1:¬p.1=k:=fun e=>h.1 e.symm
   simp [yJ,h1,ih h.2]
@[simp] theorem ags {s r:St} {a:dn}:(s++a::r)[s.length]?=some a:=by simp
@[simp] theorem afn {s r:St} {a b:dn}:(s++a::r).set s.length b=s++b::r:=by simp
theorem Z7 {s r1 r2:St} {a b:dn}:(s++a::(r1++b::r2))[s.length+1+r1.length]?=some b:=by
 rw [show s.length+1+r1.length=s.length+(1+r1.length) by omega,List.getElem?_append_right (by omega)]
 simp [show s.length+(1+r1.length) - s.length=r1.length+1 by omega]
theorem Uk {s r1 r2:St} {a b c:dn}:(s++a::(r1++b::r2)).set (s.length+1+r1.length) c=s++a::(r1++c::r2):=by
 rw [show s.length+1+r1.length=s.length+(r1.length+1) by omega,List.set_append,if_neg (by omega),show s.length+(r1.length+1) - s.length=r1.length+1 by omega]
 simp
end Go.Ai.Z
namespace Go.Ai.Z
def upS (l:List Ax) (role:List UInt8):List (List UInt8):=upN (edU l) (l.length+1) [role]
theorem aan {l:List Ax} {role x:List UInt8}:x∈upS l role ↔ Rch (edU l) role x:=aao (by have:=VJ l;omega)
theorem Jy (n:Nat):∀l:List (List UInt8),bP n (l.map .s)=true
 | []=>by simp [bP]
 | x::l=>by simp [bP,Jy n l]
def Aj (l:List Ax) (role:List UInt8):Int:=if rO l=0 then (if BL role=true then 0 else 20) else rO l
end Go.Ai.Z
namespace Go.Ai.Z
theorem vY (s:St) (role:List UInt8) (z:Bool) (l:List Ax) (hl:l.length≤1000) (h5:aeZ l) (cx:Ctx) (hcx:cx.lim≤s.length∧cx.base≤s.length):
  ∀(rest:List Ax) (i:Nat) (G:SM),l.drop i=rest→(∀p∈G,p.2.length≤i)→
  ∃j:Int,dZ (ak P0.glob (aj P0) cx false jm) [0,1,7,21,22,23]
   [(0,.v (slf z (l.map pG))),(1,.v (.s role)),(7,.v (.mp s.length)),(21,.v (slf z (l.map pG))),(22,.v (.i .i64 l.length)),(23,.v (.i .i64 i))] (s++.map (esG (s.length+1) G)::AP G)=
   .exit 0 [(0,.v (slf z (l.map pG))),(1,.v (.s role)),(7,.v (.mp s.length)),(21,.v (slf z (l.map pG))),(22,.v (.i .i64 l.length)),(23,.v (.i .i64 j)),(24,.v (.b false))] (s++.map (esG (s.length+1) (yt G (qX (edU rest))))::AP (yt G (qX (edU rest))))
 | [],i,G,h,hG=>by
  have h1:¬i<l.length:=Nat.not_lt.2 (drop_nil h)
  refine ⟨i,ai fun K hK=>?_⟩
  simp [jm,h1,edU,yt,qX]
 | p::r,i,G,h,hG=>by
  obtain ⟨g1,g2,g3,g4⟩:=drop_cons h
  have g5:=g4 g3
  have hwi:=wI (i:=i) (by omega)
  have hp:p∈l:=by rw [←g5];exact List.getElem_mem g3
  by_cases hk:p.kind=5
  ·obtain ⟨r0,hr0⟩:=h5 p hp hk
   obtain ⟨j,ih⟩:=vY s role z l hl h5 cx hcx r (i+1) (zD G p.role r0) g2 (Uc p.role r0 hG)
   have e0:yt G (qX (edU (p::r)))=yt (zD G p.role r0) (qX (edU r)):=by rw [XD hk,hr0];rfl
   rw [e0]
   refine ⟨j,ai fun K hK=>?_⟩
   rw [←hK,show ((i+1:Nat):Int)=(i:Int)+1 from rfl] at ih
   clear hK g4 h5 e0
   by_cases hm:p.role∈G.map (·.1)
   ·obtain ⟨G1,vs,G2,e1,e2,e3⟩:=OJ r0 hm
    have hvs:vs.length≤i:=hG (p.role,vs) (by rw [e1];simp)
    rw [e3] at ih ⊢
    have f1:=NU (vs:=vs) (G2:=G2) (s.length+1) e2
    have f2:=Sr (vs:=vs) (ws:=vs++[r0]) (G2:=G2) (s.length+1) e2
    have f3:=Z7 (s:=s) (r1:=AP G1) (r2:=AP G2) (a:=.map (esG (s.length+1) (G1++(p.role,vs)::G2))) (b:=.row ay 1 vs.length)
    have f4:=Uk (s:=s) (r1:=AP G1) (r2:=AP G2) (a:=.map (esG (s.length+1) (G1++(p.role,vs)::G2))) (b:=.row ay 1 vs.length) (c:=.row ay 1 (vs.length+1))
    have m1:vs.length+1≤bg:=by unfold bg;omega
    have hlim:cx.lim≤s.length+1+G1.length:=by omega
    have k1:∀(ws:List (List UInt8)),AP (G1++(p.role,ws)::G2)=AP G1++.row ay 1 ws.length::AP G2:=fun ws=>by simp [AP]
    rw [Yv] at f3 f4
    subst e1
    rw [k1] at ih ⊢
    simp at f2 ih
    simp [jm,g3,g5,hwi,hk,hr0,f1,f2,f3,f4,m1,hlim,hcx.1,hcx.2,sV,ih]
   ·have e3:=Ub r0 hm
    rw [e3] at ih ⊢
    have f1:=NV (s.length+1) hm
    have f2:=Sv (vs:=[r0]) (s.length+1) hm
    rw [show s.length+1+G.length=s.length+(G.length+1) by omega] at f2
    have k1:AP (G++[(p.role,[r0])])=AP G++[.row ay 1 1]:=by simp [AP]
    rw [k1] at ih
    have m1:1≤bg:=by unfold bg;omega
    simp at f2 ih
    simp [jm,g3,g5,hwi,hk,hr0,f1,f2,m1,hcx.1,hcx.2,sV,ih]
  ·obtain ⟨j,ih⟩:=vY s role z l hl h5 cx hcx r (i+1) G g2 fun p hp=>by have:=hG p hp;omega
   rw [XC hk]
   refine ⟨j,ai fun K hK=>?_⟩
   rw [←hK,show ((i+1:Nat):Int)=(i:Int)+1 from rfl] at ih
   clear hK g4 h5
   simp [jm,g3,g5,hwi,hk,ih]
def Jl (l:List Ax) (role:List UInt8) (x:Ax):Bool:=(decide (x.kind=7) || decide (x.kind=6)) && decide (role∈upS l x.role)
theorem VQ {l:List Ax} {role:List UInt8} {x:Ax} (h:¬role∈upS l x.role):Jl l role x=false:=by simp [Jl,h]
def wJ (l:List Ax) (role:List UInt8):Bool:=decide (rO l=0) && BL role && l.all fun x=>!Jl l role x
theorem Aw (z:Bool) (l:List Ax) (hl:l.length≤1000) (role:List UInt8) (V:List (List UInt8)) (hV:∀x,x∈V ↔ role∈upS l x) (s:St) (cx:Ctx):
  ∀(rest:List Ax) (i:Nat),l.drop i=rest→
  ∃j:Int,dZ (ak P0.glob (aj P0) cx false fQ) [10,47,48,49]
   [(10,.v (.im (zH V))),(47,.v (slf z (l.map pG))),(48,.v (.i .i64 l.length)),(49,.v (.i .i64 i))] s=
   if (rest.all fun x=>!Jl l role x)=true then .exit 2 [(10,.v (.im (zH V))),(47,.v (slf z (l.map pG))),(48,.v (.i .i64 l.length)),(49,.v (.i .i64 j)),(50,.v (.b false))] s else .ret [(4,.v (.b false)),(5,.v (.i .i64 0))] s
 | [],i,h=>by
  have h1:¬i<l.length:=Nat.not_lt.2 (drop_nil h)
  refine ⟨i,ai fun K hK=>?_⟩
  simp [fQ,h1]
 | p::r,i,h=>by
  obtain ⟨g1,g2,g3,g4⟩:=drop_cons h
  have g5:=g4 g3
  have hwi:=wI (i:=i) (by omega)
  obtain ⟨j,ih⟩:=Aw z l hl role V hV s cx r (i+1) g2
  refine ⟨j,ai fun K hK=>?_⟩
  rw [←hK,show ((i+1:Nat):Int)=(i:Int)+1 from rfl] at ih
  have hf:=Dl p.role V
  have hm:=hV p.role
  clear hK g4 hV
  by_cases h7:p.kind=7
  ·by_cases hv:p.role∈V
   ·have hb:Jl l role p=true:=by simp [Jl,h7,hm.1 hv]
    simp only [List.all_cons,hb,Bool.not_true,Bool.false_and]
    rw [if_pos hv] at hf
    simp [fQ,g3,g5,hwi,h7,hf]
   ·have hb:Jl l role p=false:=VQ fun h=>hv (hm.2 h)
    simp only [List.all_cons,hb,Bool.not_false,Bool.true_and]
    rw [if_neg hv] at hf
    rw [←ih]
    simp [fQ,g3,g5,hwi,h7,hf]
  ·by_cases h6:p.kind=6
   ·by_cases hv:p.role∈V
    ·have hb:Jl l role p=true:=by simp [Jl,h6,hm.1 hv]
     simp only [List.all_cons,hb,Bool.not_true,Bool.false_and]
     rw [if_pos hv] at hf
     simp [fQ,g3,g5,hwi,h6,hf]
    ·have hb:Jl l role p=false:=VQ fun h=>hv (hm.2 h)
     simp only [List.all_cons,hb,Bool.not_false,Bool.true_and]
     rw [if_neg hv] at hf
     rw [←ih]
     simp [fQ,g3,g5,hwi,h6,hf]
   ·have hb:Jl l role p=false:=by simp [Jl,h6,h7]
    simp only [List.all_cons,hb,Bool.not_false,Bool.true_and]
    rw [←ih]
    simp [fQ,g3,g5,hwi,h6,h7]
theorem Zv (S:St) (n:Nat) (b:Bool) (k:IntKind) (i:Int):frz S n (.tu [.b b,.i k i])=some (.tu [.b b,.i k i]):=by
 unfold frz
 rw [if_pos (by simp)]
theorem Xz (E:List (List UInt8×List UInt8)):(qX E).length=E.length:=by simp [qX]
theorem KX (z:Bool) (l:List Ax) (hl:l.length≤100) (hx:∀x∈l,x.Lng) (role:List UInt8) (hr:role.length≤1000) (s:St) (cx:Ctx):
  aj P0 (.fn (.func qm) [] []) [slf z (l.map pG),.s role] s cx=.ret (.tu [.b (wJ l role),.i .i64 (Aj l role)]) s:=by
 have e1:=Ho z l (by omega) hx [role] (by simp) (by simp;omega)
 refine KP (by simp) ?_
 simp at e1
 by_cases h0:rO l=0
 ·by_cases h1:BL role=true
  ·obtain ⟨j,h⟩:=vY s role z l (by omega) (YJ h0) ⟨s.length,s.length⟩ ⟨Nat.le_refl _,Nat.le_refl _⟩ l 0 [] rfl (by simp)
   have el:=VJ l
   have fl:=Xz (edU l)
   have hcl:=fun cx=>KW role (s++.map (esG (s.length+1) (yt [] (qX (edU l))))::AP (yt [] (qX (edU l)))) s.length (esG (s.length+1) (yt [] (qX (edU l)))) (yJ (yt [] (qX (edU l)))) (by simp)
    (ab6 _ _) (qX (edU l)) (fun k x=>YP) (fun k=>by have:=Yc (E:=qX (edU l)) (k:=k);omega) (by omega) cx
   generalize hG:yt [] (qX (edU l))=G at h hcl
   obtain ⟨V,e2,m1,m2⟩:=hcl ⟨s.length,s.length⟩
   have hV:∀x,x∈V ↔ role∈upS l x:=fun x=>by rw [m2,aan,Rch.flip_iff]
   obtain ⟨j2,h2⟩:=Aw z l (by omega) role V hV (s++.map (esG (s.length+1) G)::AP G) ⟨s.length,s.length⟩ l 0 rfl
   have a2:Aj l role=0:=by simp [Aj,h0,h1]
   rw [a2]
   simp only [h0,h1,if_true] at e1
   simp [esG,show AP []=[] from rfl] at h
   simp only [Int.ofNat_zero] at h2
   by_cases hb:(l.all fun x=>!Jl l role x)=true
   ·have a1:wJ l role=true:=by simp only [wJ,h0,h1,hb];rfl
    rw [if_pos hb] at h2
    rw [a1]
    try simp at h2
    simp [ah,jT,e1,h,e2,h2,Zv]
   ·have a1:wJ l role=false:=by simp only [wJ,h0,h1];simpa using hb
    rw [if_neg hb] at h2
    rw [a1]
    try simp at h2
    simp [ah,jT,e1,h,e2,h2,Zv]
  ·have a1:wJ l role=false:=by simp [wJ,h1]
   have a2:Aj l role=20:=by simp [Aj,h0,h1]
   rw [a1,a2]
   simp only [h0,h1,if_true,if_false] at e1
   simp [ah,jT,e1]
 ·have a1:wJ l role=false:=by simp [wJ,h0]
  have a2:Aj l role=rO l:=by simp [Aj,h0]
  rw [a1,a2]
  simp only [h0,if_false] at e1
  simp [ah,jT,e1,h0]
end Go.Ai.Z
