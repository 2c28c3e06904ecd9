/-
 The tokens of a printed query are parsed back.
-/
import Derived.Test.YtalbhlfigmlddaaGreatDoorAiQE6QE7QE8QE9
import Derived.Test.YtalbhlfigmlddaaGreatDoorAiQE3QE4QE5
import Derived.Test.YtalbhlfigmlddaaGreatDoorAiQB7QB8QB9Top8
import Derived.Test.YtalbhlfigmlddaaGreatDoorAiQSP3QSPR1QSPR2QS
import Derived.Test.YtalbhlfigmlddaaGreatDoorAiB2
import Derived.Test.YtalbhlfigmlddaaGreatDoorAiDat
set_option maxRecDepth 100000
set_option linter.unusedSimpArgs false
set_option linter.unusedVariables false
set_option linter.unusedSectionVars false
namespace Go.Ai.Z
open Go.Ai
open Go.Ai.Inj
open Go.Lib (itoa decDigits nDigits decFrom decNat digitVal decDigits_length nDigits_small nDigits_big)
theorem TI (d:Nat) (h:d<10):digitVal (UInt8.ofNat (48+d))=some d:=by
 unfold digitVal
 have:(UInt8.ofNat (48+d)).toNat=48+d:=by simp;omega
 rw [this,if_pos ⟨by omega,by omega⟩]
 congr 1;omega
theorem QD:∀(u:Nat) (r:List UInt8),decFrom 0 (decDigits u++r)=decFrom u r:=by
 intro u
 induction u using Nat.strongRecOn with
 | _ u ih=>
  intro r
  rw [decDigits]
  split
  ·rename_i h
   simp only [List.cons_append,List.nil_append,decFrom,TI u h]
   simp
  ·rename_i h
   rw [List.append_assoc,ih (u / 10) (by omega)]
   simp only [List.cons_append,List.nil_append,decFrom,TI (u % 10) (by omega)]
   congr 1;omega
theorem GI (u:Nat):decNat (decDigits u)=some u:=by
 have h:=QD u []
 rw [List.append_nil] at h
 have hne:(decDigits u).isEmpty=false:=by
  cases hd:decDigits u with
  | nil=>have:=decDigits_length u;rw [hd] at this;have:=Go.Lib.nDigits_pos u;simp at *;omega
  | cons b r=>rfl
 unfold decNat
 rw [hne]
 simpa [decFrom] using h
theorem PU:∀(k u:Nat),1≤k→u<10 ^ k→nDigits u≤k
 | 0,u,h,_=>by omega
 | k+1,u,_,h=>by
  by_cases hu:u<10
  ·rw [nDigits_small hu];omega
  ·rw [nDigits_big hu]
   cases k with
   | zero=>simp at h;omega
   | succ k=>
    have:=PU (k+1) (u / 10) (by omega) (by rw [Nat.pow_succ] at h;omega)
    omega
theorem QW (n:Int) (h1:-1099511627776≤n) (h2:n≤1099511627776):Go.Lib.atoi (itoa n)=some n∧(itoa n).length≤18:=by
 have hd:∀u:Nat,u≤1099511627776→(decDigits u).length≤17:=fun u hu=>by
  rw [decDigits_length];exact PU 17 u (by omega) (by omega)
 unfold itoa
 by_cases hn:n<0
 ·rw [if_pos hn]
  have:=hd n.natAbs (by omega)
  refine ⟨?_,by simp;omega⟩
  simp only [Go.Lib.atoi,beq_self_eq_true,if_true,GI,Option.map_some,Option.some.injEq]
  omega
 ·rw [if_neg hn]
  have hl:=hd n.toNat (by omega)
  refine ⟨?_,by omega⟩
  have hdn:=GI n.toNat
  cases he:decDigits n.toNat with
  | nil=>rw [he] at hdn;simp [decNat] at hdn
  | cons b r=>
   rw [he] at hdn
   have hb:=wW n.toNat b (by rw [he];simp)
   have b1:(b == 45)=false:=by cases hq:(b == 45) with
    | false=>rfl
    | true=>rw [beq_iff_eq] at hq;subst hq;exact absurd hb (by decide)
   have b2:(b == 43)=false:=by cases hq:(b == 43) with
    | false=>rfl
    | true=>rw [beq_iff_eq] at hq;subst hq;exact absurd hb (by decide)
   simp only [Go.Lib.atoi,b1,b2,hdn,Option.map_some,Bool.false_eq_true,if_false,Option.some.injEq]
   omega
def Mt (T:List Tok) (R:List Tk):Prop:=T.map (fun t=>(t.1,t.2.1))=R
theorem Mt.cons {T:List Tok} {x:Tk} {R:List Tk} (h:Mt T (x::R)):∃a r,T=(x.1,x.2,a)::r∧Mt r R:=by
 unfold Mt at h
 cases T with
 | nil=>cases h
 | cons t r=>
  simp only [List.map_cons,List.cons.injEq] at h
  obtain ⟨rfl,h⟩:=h
  exact ⟨t.2.2,r,rfl,h⟩
theorem Mt.len {T:List Tok} {R:List Tk} (h:Mt T R):T.length=R.length:=by rw [←h];simp
theorem Hy {T:List Tok} {k:Int} {w:List UInt8} {R:List Tk} (h:Mt T ((k,w)::R)) (hk:k=3∨k=1):isQ w T=true∧Mt T.tail R:=by
 obtain ⟨a,r,rfl,hr⟩:=h.cons
 refine ⟨?_,hr⟩
 rcases hk with rfl|rfl<;>simp [isQ]
theorem SY {T:List Tok} {x:Tk} {w:List UInt8} {R:List Tk} (h:Mt T (x::R)) (hx:x.2≠w):isQ w T=false:=by
 obtain ⟨a,r,rfl,hr⟩:=h.cons
 simp [isQ,hx]
theorem Fg {T:List Tok} {k:Int} {w:List UInt8} {R:List Tk} (h:Mt T ((k,w)::R)) (hk:k=3∨k=1):∃r,wo w T=.ok () r∧Mt r R:=by
 obtain ⟨h1,h2⟩:=Hy h hk
 exact ⟨T.tail,by unfold wo;rw [if_pos h1],h2⟩
theorem YS {T:List Tok} {n:List UInt8} {R:List Tk} (h:Mt T ((1,n)::R)) (hk:kwS n=false):∃r,CZ T=.ok n r∧Mt r R:=by
 obtain ⟨a,r,rfl,hr⟩:=h.cons
 exact ⟨r,by simp [CZ,hk],hr⟩
theorem ach {T:List Tok} {z:Int} {R:List Tk} (h:Mt T ((2,itoa z)::R)) (h1:-1099511627776≤z) (h2:z≤1099511627776) (ha:Go.Lib.atoi (itoa z)=some z):∃r,Rw T=.ok z r∧Mt r R:=by
 obtain ⟨a,r,rfl,hr⟩:=h.cons
 exact ⟨r,by simp [Rw,ha],hr⟩
theorem YQ {T:List Tok} {t:List UInt8} {R:List Tk} (ht:oK t=true) (h:Mt T (tkT t++R)):∃r,AU T=.ok t r∧Mt r R:=by
 unfold oK at ht
 unfold tkT at h
 by_cases hv:wE t=true
 ·obtain ⟨v,rfl,tv,h3,h4,_⟩:=OG hv
  rw [if_pos (by simp [headB])] at h
  obtain ⟨h5,h6⟩:=Hy h (.inl rfl)
  obtain ⟨a,r,h7,hr⟩:=h6.cons
  refine ⟨r, ?_,hr⟩
  unfold AU
  rw [if_pos h5,h7]
  simp [Kw,h3,h4]
 ·have hi:yc t=true:=by
   rw [Bool.or_eq_true] at ht
   exact ht.resolve_left hv
  have hh:=KU hi
  rw [if_neg (by rw [hh];simp)] at h
  have h5:isQ [63] T=false:=SY h (by rintro h;simp only [] at h;rw [h] at hh;simp [headB] at hh)
  obtain ⟨r,h6,hr⟩:=YS h (Pv (wR hi)).kw
  exact ⟨r,by unfold AU;rw [if_neg (by rw [h5];simp)];exact h6,hr⟩
def NxQ (R:List Tk) (w:List UInt8):Prop:=∃x R',R=x::R'∧x.2≠w
theorem NxQ.no {R:List Tk} {w:List UInt8} (h:NxQ R w) {T:List Tok} (hT:Mt T R):isQ w T=false:=by
 obtain ⟨x,R',rfl,hx⟩:=h
 exact SY hT hx
theorem YT {T:List Tok} {a:At} {R:List Tk} (ha:a.Val) (h:Mt T (tkA a++R)) (hR:NxQ R qIn):∃r,DX T=.ok a r∧Mt r R:=by
 unfold tkA at h
 simp only [List.cons_append,List.append_assoc] at h
 obtain ⟨r1,e1,h1⟩:=YS h (Pv (wR ha.n)).kw
 obtain ⟨r2,e2,h2⟩:=Fg h1 (.inl rfl)
 obtain ⟨r3,e3,h3⟩:=YQ ha.tx h2
 unfold DX
 rw [e1,PR.bind_ok,e2,PR.bind_ok,e3,PR.bind_ok]
 by_cases k2:a.kind=2
 ·rw [if_pos k2] at h3
  simp only [List.cons_append,List.append_assoc,List.nil_append] at h3
  obtain ⟨h4,h5⟩:=Hy h3 (.inl rfl)
  obtain ⟨r5,e5,h6⟩:=YQ (ha.ty k2) h5
  obtain ⟨r6,e6,h7⟩:=Fg h6 (.inl rfl)
  refine ⟨r6, ?_,h7⟩
  rw [if_pos h4,e5,PR.bind_ok,e6,PR.bind_ok]
  obtain ⟨z1,z2⟩:=ha.z (by omega)
  cases a
  simp_all
 ·rw [if_neg k2] at h3
  simp only [List.cons_append] at h3
  have h4:isQ [44] r3=false:=SY h3 (by simp)
  obtain ⟨r5,e5,h6⟩:=Fg h3 (.inl rfl)
  rw [if_neg (by rw [h4];simp),e5,PR.bind_ok]
  have hy:=ha.y k2
  by_cases k3:a.kind=3
  ·rw [if_pos k3] at h6
   simp only [List.cons_append,List.nil_append] at h6
   obtain ⟨h7,h8⟩:=Hy h6 (.inr rfl)
   obtain ⟨r6,e6,h9⟩:=ach h8 ha.l1 ha.l2 (QW a.lo ha.l1 ha.l2).1
   obtain ⟨r7,e7,h10⟩:=Fg h9 (.inr rfl)
   obtain ⟨r8,e8,h11⟩:=ach h10 ha.h1 ha.h2 (QW a.hi ha.h1 ha.h2).1
   refine ⟨r8, ?_,h11⟩
   rw [if_pos h7]
   unfold abX
   rw [e6,PR.bind_ok,e7,PR.bind_ok,e8,PR.bind_ok]
   cases a
   simp_all
  ·rw [if_neg k3,List.nil_append] at h6
   refine ⟨r5, ?_,h6⟩
   rw [if_neg (by rw [hR.no h6];simp)]
   obtain ⟨z1,z2⟩:=ha.z k3
   have k1:a.kind=1:=by have:=ha.k;omega
   cases a
   simp_all
theorem H9 (s:Tk) (a:List Tk):∀r:List (List Tk),zx s (a::r)=a++r.flatMap fun b=>s::b
 | []=>by simp [zx]
 | b::r=>by rw [zx,H9 s b r];simp
theorem VR {R:List Tk} (h1:NxQ R qIn) (h2:NxQ R He):∀(L:List At) (n:Nat) (T:List Tok) (acc:List At),(∀a∈L,a.Val)→T.length≤n→Mt T ((L.flatMap fun a=>(1,He)::tkA a)++R)→
  ∃r,xX n T acc=.ok (acc++L) r∧Mt r R
 | [],n,T,acc,_,hn,h=>by
  obtain ⟨x,R',rfl,hx⟩:=h2
  simp only [List.flatMap_nil,List.nil_append] at h
  have hl:=h.len
  cases n with
  | zero=>simp at hl;omega
  | succ n=>
   refine ⟨T, ?_,h⟩
   unfold xX
   rw [if_neg (by rw [SY h hx];simp),List.append_nil]
 | a::L,n,T,acc,hv,hn,h=>by
  simp only [List.flatMap_cons,List.cons_append,List.append_assoc] at h
  have hl:=h.len
  cases n with
  | zero=>simp at hl;omega
  | succ n=>
   obtain ⟨e1,h3⟩:=Hy h (.inr rfl)
   have hR:NxQ ((L.flatMap fun a=>(1,He)::tkA a)++R) qIn:=by
    cases L with
    | nil=>exact h1
    | cons b L=>exact ⟨(1,He),_,rfl,by decide⟩
   obtain ⟨r,e2,h4⟩:=YT (hv a (by simp)) h3 hR
   have hl2:=h4.len
   obtain ⟨r',e3,h5⟩:=VR h1 h2 L n r (acc++[a]) (fun b hb=>hv b (by simp [hb])) (by simp at hl hl2;omega) h4
   refine ⟨r', ?_,h5⟩
   unfold xX
   rw [if_pos e1,e2,PR.bind_ok,e3]
   simp
theorem YR {R:List Tk} (h1:NxQ R qIn) (h2:NxQ R He) {p:List At} (hp:p≠[]) (hv:∀a∈p,a.Val) {T:List Tok} (h:Mt T (tkP p++R)):∃r,DW T=.ok p r∧Mt r R:=by
 cases p with
 | nil=>exact absurd rfl hp
 | cons a L=>
  unfold tkP at h
  rw [List.map_cons,H9,List.append_assoc,List.flatMap_map] at h
  have hR:NxQ ((L.flatMap fun a=>(1,He)::tkA a)++R) qIn:=by
   cases L with
   | nil=>exact h1
   | cons b L=>exact ⟨(1,He),_,rfl,by decide⟩
  obtain ⟨r,e2,h4⟩:=YT (hv a (by simp)) h hR
  obtain ⟨r',e3,h5⟩:=VR h1 h2 L r.length r [a] (fun b hb=>hv b (by simp [hb])) (Nat.le_refl _) h4
  refine ⟨r', ?_,h5⟩
  unfold DW
  rw [e2,PR.bind_ok,e3]
  rfl
theorem VQ:∀(L:List (List At)) (n:Nat) (T:List Tok) (acc:List (List At)),(∀p∈L,p≠[]∧∀a∈p,a.Val)→T.length≤n→Mt T ((L.flatMap fun p=>(1,qOr)::tkP p)++[(4,[])])→
  ∃r,xW n T acc=.ok (acc++L) r∧Mt r [(4,[])]
 | [],n,T,acc,_,hn,h=>by
  simp only [List.flatMap_nil,List.nil_append] at h
  have hl:=h.len
  cases n with
  | zero=>simp at hl;omega
  | succ n=>
   refine ⟨T, ?_,h⟩
   unfold xW
   rw [if_neg (by rw [SY h (by decide)];simp),List.append_nil]
 | a::L,n,T,acc,hv,hn,h=>by
  simp only [List.flatMap_cons,List.cons_append,List.append_assoc] at h
  have hl:=h.len
  cases n with
  | zero=>simp at hl;omega
  | succ n=>
   obtain ⟨e1,h3⟩:=Hy h (.inr rfl)
   have hR:∀w,w≠qOr→w≠[]→NxQ ((L.flatMap fun p=>(1,qOr)::tkP p)++[(4,[])]) w:=by
    intro w hw hw'
    cases L with
    | nil=>exact ⟨(4,[]),_,rfl,fun h=>hw' h.symm⟩
    | cons b L=>exact ⟨(1,qOr),_,rfl,fun h=>hw h.symm⟩
   obtain ⟨r,e2,h4⟩:=YR (hR qIn (by decide) (by decide)) (hR He (by decide) (by decide)) (hv a (by simp)).1 (hv a (by simp)).2 h3
   have hl2:=h4.len
   obtain ⟨r',e3,h5⟩:=VQ L n r (acc++[a]) (fun b hb=>hv b (by simp [hb])) (by simp at hl hl2;omega) h4
   refine ⟨r', ?_,h5⟩
   unfold xW
   rw [if_pos e1,e2,PR.bind_ok,e3]
   simp
theorem VP {R:List Tk} (h2:NxQ R [63]):∀(L:List (List UInt8)) (n:Nat) (T:List Tok) (acc:List (List UInt8)),(∀t∈L,wE t=true)→T.length≤n→Mt T (L.flatMap tkT++R)→
  ∃r,xU n T acc=.ok (acc++L) r∧Mt r R
 | [],n,T,acc,_,hn,h=>by
  obtain ⟨x,R',rfl,hx⟩:=h2
  simp only [List.flatMap_nil,List.nil_append] at h
  have hl:=h.len
  cases n with
  | zero=>simp at hl;omega
  | succ n=>
   refine ⟨T, ?_,h⟩
   unfold xU
   rw [if_neg (by rw [SY h hx];simp),List.append_nil]
 | t::L,n,T,acc,hv,hn,h=>by
  obtain ⟨v,rfl,tv,q3,q4,_⟩:=OG (hv t (by simp))
  have e0:tkT (63::v)=[(3,[63]),(1,v)]:=by unfold tkT;rw [if_pos (by simp [headB])];rfl
  simp only [List.flatMap_cons,List.append_assoc,e0,List.cons_append,List.nil_append] at h
  have hl:=h.len
  cases n with
  | zero=>simp at hl;omega
  | succ n=>
   obtain ⟨e1,h3⟩:=Hy h (.inl rfl)
   obtain ⟨a,r,e2,h4⟩:=h3.cons
   have hl2:=h4.len
   obtain ⟨r',e3,h5⟩:=VP h2 L n r (acc++[63::v]) (fun b hb=>hv b (by simp [hb])) (by simp at hl hl2;omega) h4
   refine ⟨r', ?_,h5⟩
   unfold xU
   rw [if_pos e1,e2]
   have e4:Kw ((1,v,a)::r)=.ok (63::v) r:=by simp [Kw,q3,q4]
   rw [e4,PR.bind_ok,e3]
   simp
theorem acg {T:List (List UInt8)} {ps:List (Bool×List At)} (h:U9 T ps) {K:List Tok} (hK:Mt K (tkQ T ps++[(4,[])])):∃r,Ag K=.ok (T,ps.map (·.2)) r:=by
 unfold tkQ at hK
 simp only [List.cons_append,List.append_assoc] at hK
 obtain ⟨r1,e1,h1⟩:=Fg hK (.inr rfl)
 obtain ⟨r2,e2,h2⟩:=VP (R:=(1,Ru)::(zx (1,qOr) (ps.map fun p=>tkP p.2)++[(4,[])])) ⟨_,_,rfl,by decide⟩ T r1.length r1 [] h.w (Nat.le_refl _) h1
 obtain ⟨r3,e3,h3⟩:=Fg h2 (.inr rfl)
 unfold Ag
 rw [e1,PR.bind_ok,e2,PR.bind_ok,e3,PR.bind_ok]
 cases hp:ps with
 | nil=>exact absurd hp h.ne
 | cons p L=>
  have hv:∀q∈p::L,q.2≠[]∧∀a∈q.2,a.Val:=fun q hq=>⟨(h.a q (by rw [hp];exact hq)).1,h.v q (by rw [hp];exact hq)⟩
  rw [hp] at h3
  rw [List.map_cons,H9,List.append_assoc] at h3
  have e0:((L.map fun p=>tkP p.2).flatMap fun b=>(1,qOr)::b)=(L.map (·.2)).flatMap fun p=>(1,qOr)::tkP p:=by
   rw [List.flatMap_map,List.flatMap_map]
  rw [e0] at h3
  have hR:∀w,w≠qOr→w≠[]→NxQ (((L.map (·.2)).flatMap fun p=>(1,qOr)::tkP p)++[(4,[])]) w:=by
   intro w hw hw'
   cases L with
   | nil=>exact ⟨(4,[]),_,rfl,fun h=>hw' h.symm⟩
   | cons b L=>exact ⟨(1,qOr),_,rfl,fun h=>hw h.symm⟩
  obtain ⟨r4,e4,h4⟩:=YR (hR qIn (by decide) (by decide)) (hR He (by decide) (by decide)) (hv p (by simp)).1 (hv p (by simp)).2 h3
  obtain ⟨r5,e5,h5⟩:=VQ (L.map (·.2)) r4.length r4 [p.2] (fun q hq=>by
   obtain ⟨x,hx,rfl⟩:=List.mem_map.1 hq
   exact hv x (by simp [hx])) (Nat.le_refl _) h4
  rw [e4,PR.bind_ok,e5,PR.bind_ok]
  obtain ⟨a,r,rfl,_⟩:=h5.cons
  refine ⟨(4,[],a)::r, ?_⟩
  rw [if_pos (by simp)]
  simp
end Go.Ai.Z
namespace Go.Ai.Z
open Go.Ai
theorem abR {T:List (List UInt8)} {ps:List (Bool×List At)} (h:U9 T ps):(quS T ps).length≤65536:=by
 obtain ⟨h1,h2⟩:=YM h
 unfold quS
 simp [Ua];omega
theorem Po:∀ps:List (Bool×List At),Dp (pts (ps.map (·.2)))=Dp ps
 | []=>rfl
 | p::r=>by
  have:=Po r
  simp only [pts,List.map_cons,Dp] at this ⊢
  rw [this]
theorem Oo (f:Bool×List At→Bool):∀ps:List (Bool×List At),(pts (ps.map (·.2))).all f=ps.all fun p=>f (false,p.2)
 | []=>rfl
 | p::r=>by
  have:=Oo f r
  simp only [pts,List.map_cons,List.all_cons] at this ⊢
  rw [this]
theorem SB (ps:List (Bool×List At)):∀(T seen:List (List UInt8)),tdB (pts (ps.map (·.2))) seen T=tdB ps seen T
 | [],seen=>by simp [tdB]
 | t::r,seen=>by
  simp only [tdB,SB ps r,Oo]
theorem aaY {T:List (List UInt8)} {ps:List (Bool×List At)}:chB T (pts (ps.map (·.2)))=chB T ps:=by
 have h1:shE T (pts (ps.map (·.2)))=shE T ps:=by
  unfold shE
  rw [Oo]
  simp [pts]
 have h2:=Po ps
 have h3:tdE T (pts (ps.map (·.2)))=tdE T ps:=by unfold tdE;rw [SB]
 unfold chB
 rw [h1,h2,h3,Oo]
theorem XU {T:List (List UInt8)} {ps:List (Bool×List At)} (h:chB T ps=0):ab4 (quS T ps)=.tu [yC (T,ps.map (·.2)),.i .i64 0,.i .i64 0]:=by
 have hv:=U9.of h
 obtain ⟨res,h1,h2⟩:=abP hv 0
 have h3:=afO h1
 obtain ⟨r,h4⟩:=acg hv (K:=res) h2
 unfold ab4 VK
 rw [h3]
 simp only [h4]
 rw [if_pos (by rw [aaY];exact h)]
theorem ac5 {ps:List (Bool×List At)} (h:∀p∈ps,p.2≠[]):ps.map encPt=(ps.map (·.2)).map jT:=by
 rw [List.map_map]
 refine List.map_congr_left fun p hp=>?_
 show encPt p=jT p.2
 unfold encPt jT
 rw [yR (h p hp)]
theorem aeT (zt:Bool) (T:List (List UInt8)) (zp:Bool) (ps:List (Bool×List At)) (hq:QOk T ps) (B:List AV) (E:AV) (es:List AV) (i:Nat) (hi:i<2) (hes:es[i]?=some (pK zt T zp ps)) (hc:∀x∈es,x.cells.length=2) (s:St) (cx:Ctx) (o:Out)
  (h:bg (au P0.glob (aj P0) cx false dL) [5,7,49,50,51] [(5,.bx B),(7,.v E),(49,.v (.sl es)),(50,.v (.i .i64 2)),(51,.v (.i .i64 ((i:Int)+1)))] s=o):
  bg (au P0.glob (aj P0) cx false dL) [5,7,49,50,51] [(5,.bx B),(7,.v E),(49,.v (.sl es)),(50,.v (.i .i64 2)),(51,.v (.i .i64 i))] s=o:=by
 obtain ⟨hlt,hg⟩:=List.getElem?_eq_some_iff.1 hes
 have e1:=aeu zt T zp ps hq
 have e2:=JV zt T zp ps hq
 have hw:=wI (i:=i) (by omega)
 have h2:(i:Int)<2:=by omega
 simp only [pK] at hg e1 e2
 by_cases c:chB T ps=0
 ·have hv:=U9.of c
  have hne:=fun p hp=>(hv.a p hp).1
  rw [if_pos c] at e1
  rw [c] at e2
  have e3:=Zm (quS T ps) (abR hv)
  rw [XU c] at e3
  have hps:slf zp (ps.map encPt)=.sl ((ps.map (·.2)).map jT):=by
   rw [←ac5 hne]
   cases hp:ps with
   | nil=>exact absurd hp hv.ne
   | cons a r=>cases zp<;>rfl
  have e4:=aes zt T (by have:=hv.t;omega) (ps.map (·.2)) (by have:=hv.p;simp;omega) (fun p hp=>by
   obtain ⟨q,hq,rfl⟩:=List.mem_map.1 hp
   have:=(hv.a q hq).2;omega)
  simp only [yC] at e3
  rw [hps] at hg e1 e2
  refine ai fun K hK=>?_
  rw [←hK] at h
  clear hK hps hes
  generalize (ps.map (·.2)).map jT=P at *
  generalize aB (quS T ps)=W at *
  simp [dL,h2,hlt,hg,hc,e1,e2,e3,e4,splice,hw,h]
 ·rw [if_neg c] at e1
  refine ai fun K hK=>?_
  rw [←hK] at h
  clear hK hes
  simp [dL,h2,hlt,hg,hc,e1,e2,splice,hw,h,c]
theorem adM {src:List UInt8} {a e:Int} (h:VK src=.inr (a,e)):e≠0:=by
 unfold VK at h
 split at h
 ·cases h;decide
 ·split at h
  ·cases h;decide
  ·split at h
   ·cases h
   ·rename_i c;cases h;exact c
theorem adL {src:List UInt8} (hl:src.length≤65536) {q:List (List UInt8)×List (List At)} (h:VK src=.inl q):chB q.1 (pts q.2)=0∧QOk q.1 (pts q.2)∧yC q=pK true q.1 false (pts q.2):=by
 obtain ⟨hw,htw⟩:=YZ hl
 have htl:(lexB src).1.length≤800000:=by
  have:∀l:List Tok,l.length≤tw l:=fun l=>by
   induction l with
   | nil=>exact Nat.le_refl _
   | cons t r ih=>simp only [List.length_cons,tw];omega
  have:=this (lexB src).1
  omega
 unfold VK at h
 split at h
 ·cases h
 ·split at h
  ·cases h
  ·rename_i x
   split at h
   ·rename_i c
    cases h
    obtain ⟨h1,h2,h3⟩:=TR hw htl x
    exact ⟨c,h1,WN h2 h3⟩
   ·cases h
theorem aid (zt:Bool) (T:List (List UInt8)) (zp:Bool) (ps:List (Bool×List At)) (hq:QOk T ps) (zt':Bool) (T':List (List UInt8)) (zp':Bool) (ps':List (Bool×List At)) (hq':QOk T' ps') (B:List AV) (E:AV) (s:St) (cx:Ctx):
  bg (au P0.glob (aj P0) cx false dL) [5,7,49,50,51] [(5,.bx B),(7,.v E),(49,.v (.sl [pK zt T zp ps,pK zt' T' zp' ps'])),(50,.v (.i .i64 2)),(51,.v (.i .i64 0))] s=
   .exit 0 [(5,.bx B),(7,.v E),(49,.v (.sl [pK zt T zp ps,pK zt' T' zp' ps'])),(50,.v (.i .i64 2)),(51,.v (.i .i64 2)),(52,.v (.b false))] s:=by
 have hc:∀x∈[pK zt T zp ps,pK zt' T' zp' ps'],x.cells.length=2:=by
  intro x hx
  rcases List.mem_cons.1 hx with rfl|hx
  ·rfl
  ·simp at hx;rw [hx];rfl
 refine aeT zt T zp ps hq B E _ 0 (by omega) rfl hc s cx _ ?_
 refine aeT zt' T' zp' ps' hq' B E _ 1 (by omega) rfl hc s cx _ ?_
 exact ai fun K hK=>by simp [dL]
theorem Xb (zt:Bool) (T:List (List UInt8)) (zp:Bool) (ps:List (Bool×List At)) (hq:QOk T ps) (src:List UInt8) (cx:Ctx):
  aj P0 (.fn (.func lM) [] []) [pK zt T zp ps,.sl (aB src)] [] cx=.ret (.b true) []:=by
 have hS:=abE
 have e1:=agd zt T zp ps hq
 refine Bg (by simp) ?_
 have hbl:=kz src
 by_cases c1:afS T ps=true
 ·rw [c1] at e1
  by_cases c2:2000<src.length
  ·have c2':(2000:Int)<src.length:=by omega
   simp only [pK] at e1 ⊢
   simp [af,fB,hS,e1,hbl,c2']
  ·have c2':¬(2000:Int)<src.length:=by omega
   have hP:=Zm src (by omega)
   unfold ab4 at hP
   cases hpq:VK src with
   | inr ae=>
    obtain ⟨a,e⟩:=ae
    have hne:=adM hpq
    have h0:=aid zt T zp ps hq true [] true [] ⟨by simp,by simp,by simp,by simp⟩ [.ns,.ns] (.i .i64 e) [] ⟨0,0⟩
    rw [hpq] at hP
    simp only [pK] at e1 h0 ⊢
    rw [show slf true (([]:List (List UInt8)).map AV.s)=.ns from rfl,show slf true (([]:List (Bool×List At)).map encPt)=.ns from rfl] at h0
    generalize aB src=W at *
    simp [af,fB,hS,e1,hbl,c2',hP,hne,splice,jS,List.range_succ,h0]
   | inl q=>
    obtain ⟨hc,hok,heq⟩:=adL (by omega) hpq
    have h0:=aid zt T zp ps hq true q.1 false (pts q.2) hok [slf true (q.1.map .s),.sl (q.2.map jT)] (.i .i64 0) [] ⟨0,0⟩
    have e2:=JV true q.1 false (pts q.2) hok
    rw [←heq] at h0 e2
    rw [hc] at e2
    rw [hpq] at hP
    simp only [pK,yC] at e1 e2 h0 hP ⊢
    generalize aB src=W at *
    simp [af,fB,hS,e1,e2,hbl,c2',hP,splice,jS,List.range_succ,h0]
 ·rw [Bool.not_eq_true] at c1
  rw [c1] at e1
  simp only [pK] at e1 ⊢
  simp [af,fB,hS,e1]
end Go.Ai.Z
namespace Go.Ai
open Go.ChangeShapes Go.WideShapes Go.WideElems
section
variable {H:Type} {enc:TypeId×Value→H} {P:Program} {W:World}
theorem XP {R Z:TypeId} (uR:P.underlying R=some (.slice Z)) (uZ:P.underlying Z=some (.int .u8)) (cZ:P.cellsOf Z=1) (bZ:0<P.bytesOf Z)
  {r:Go.Reach} {b0:Nat} {v:Value} {d:DataW H} {p:List MemPlace} (hok:Value.okWide P W r b0 R v) (h:DataW.Trod enc P W 0 (fun _=>true) true R v d p) (hl:Light P R d):
  ∃l:List UInt8,l.length≤1125899906842624∧Rep (g0 W) 0 v (.sl (aB l)):=by
 obtain ⟨a,len,cap,rfl⟩:=okWide_slice uR hok
 obtain ⟨fuel,hf⟩:=h
 simp only [Value.cells] at hf
 obtain ⟨es,q1,q2,⟨r4,a4⟩⟩:=JH uR cZ (by omega) bZ (fun a=>∃b:UInt8,a=.i .u8 b.toNat∧True) hf hl (fun m hm cs y hy hly=>by
  obtain ⟨n,h1,h2,hr⟩:=UR uZ hy
  have e1:(0:Int)≤n:=h1
  have e2:n≤255:=h2
  refine ⟨.i .u8 n,⟨UInt8.ofNat n.toNat, ?_,trivial⟩,rfl,hr⟩
  congr 1
  simp
  omega)
 obtain ⟨l,rfl,_⟩:=Ei q1
 have hb:reachBytes≤1125899906842624:=by decide
 simp only [List.length_map] at q2
 exact ⟨l,by omega,r4.head⟩
end
end Go.Ai
