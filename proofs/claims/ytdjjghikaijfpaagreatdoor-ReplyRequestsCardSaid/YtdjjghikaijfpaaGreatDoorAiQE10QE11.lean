/-
 The tokens of a printed query are parsed back.
-/
import Derived.Test.YtdjjghikaijfpaaGreatDoorAiQE6QE7QE8QE9
import Derived.Test.YtdjjghikaijfpaaGreatDoorAiQE3QE4QE5
import Derived.Test.YtdjjghikaijfpaaGreatDoorAiQB7QB8QB9
set_option maxRecDepth 100000
set_option linter.unusedSimpArgs false
set_option linter.unusedVariables false
set_option linter.unusedSectionVars false
namespace Go.Ai.Z
open Go.Ai
open Go.Ai.Inj
open Go.Lib (itoa decDigits nDigits decFrom decNat digitVal decDigits_length nDigits_small nDigits_big)
theorem WI (d:Nat) (h:d<10):digitVal (UInt8.ofNat (48+d))=some d:=by
 unfold digitVal
 have:(UInt8.ofNat (48+d)).toNat=48+d:=by simp;omega
 rw [this,if_pos ⟨by omega,by omega⟩]
 congr 1;omega
theorem UH:∀(u:Nat) (r:List UInt8),decFrom 0 (decDigits u++r)=decFrom u r:=by
 intro u
 induction u using Nat.strongRecOn with
 | _ u ih=>
  intro r
  rw [decDigits]
  split
  ·rename_i h
   simp only [List.cons_append,List.nil_append,decFrom,WI u h]
   simp
  ·rename_i h
   rw [List.append_assoc,ih (u / 10) (by omega)]
   simp only [List.cons_append,List.nil_append,decFrom,WI (u % 10) (by omega)]
   congr 1;omega
theorem Kq (u:Nat):decNat (decDigits u)=some u:=by
 have h:=UH u []
 rw [List.append_nil] at h
 have hne:(decDigits u).isEmpty=false:=by
  cases hd:decDigits u with
  | nil=>have:=decDigits_length u;rw [hd] at this;have:=Go.Lib.nDigits_pos u;simp at *;omega
  | cons b r=>rfl
 unfold decNat
 rw [hne]
 simpa [decFrom] using h
theorem TL:∀(k u:Nat),1≤k→u<10 ^ k→nDigits u≤k
 | 0,u,h,_=>by omega
 | k+1,u,_,h=>by
  by_cases hu:u<10
  ·rw [nDigits_small hu];omega
  ·rw [nDigits_big hu]
   cases k with
   | zero=>simp at h;omega
   | succ k=>
    have:=TL (k+1) (u / 10) (by omega) (by rw [Nat.pow_succ] at h;omega)
    omega
theorem U2 (n:Int) (h1:-1099511627776≤n) (h2:n≤1099511627776):Go.Lib.atoi (itoa n)=some n∧(itoa n).length≤18:=by
 have hd:∀u:Nat,u≤1099511627776→(decDigits u).length≤17:=fun u hu=>by
  rw [decDigits_length];exact TL 17 u (by omega) (by omega)
 unfold itoa
 by_cases hn:n<0
 ·rw [if_pos hn]
  have:=hd n.natAbs (by omega)
  refine ⟨?_,by simp;omega⟩
  simp only [Go.Lib.atoi,beq_self_eq_true,if_true,Kq,Option.map_some,Option.some.injEq]
  omega
 ·rw [if_neg hn]
  have hl:=hd n.toNat (by omega)
  refine ⟨?_,by omega⟩
  have hdn:=Kq n.toNat
  cases he:decDigits n.toNat with
  | nil=>rw [he] at hdn;simp [decNat] at hdn
  | cons b r=>
   rw [he] at hdn
   have hb:=yV n.toNat b (by rw [he];simp)
   have b1:(b == 45)=false:=by cases hq:(b == 45) with
    | false=>rfl
    | true=>rw [beq_iff_eq] at hq;subst hq;exact absurd hb (by decide)
   have b2:(b == 43)=false:=by cases hq:(b == 43) with
    | false=>rfl
    | true=>rw [beq_iff_eq] at hq;subst hq;exact absurd hb (by decide)
   simp only [Go.Lib.atoi,b1,b2,hdn,Option.map_some,Bool.false_eq_true,if_false,Option.some.injEq]
   omega
def Mt (T:List Tok) (R:List Tk):Prop:=T.map (fun t=>(t.1,t.2.1))=R
theorem Mt.cons {T:List Tok} {x:Tk} {R:List Tk} (h:Mt T (x::R)):∃a r,T=(x.1,x.2,a)::r∧Mt r R:=by
 unfold Mt at h
 cases T with
 | nil=>cases h
 | cons t r=>
  simp only [List.map_cons,List.cons.injEq] at h
  obtain ⟨rfl,h⟩:=h
  exact ⟨t.2.2,r,rfl,h⟩
theorem Mt.len {T:List Tok} {R:List Tk} (h:Mt T R):T.length=R.length:=by rw [←h];simp
theorem KQ {T:List Tok} {k:Int} {w:List UInt8} {R:List Tk} (h:Mt T ((k,w)::R)) (hk:k=3∨k=1):isQ w T=true∧Mt T.tail R:=by
 obtain ⟨a,r,rfl,hr⟩:=h.cons
 refine ⟨?_,hr⟩
 rcases hk with rfl|rfl<;>simp [isQ]
theorem Wj {T:List Tok} {x:Tk} {w:List UInt8} {R:List Tk} (h:Mt T (x::R)) (hx:x.2≠w):isQ w T=false:=by
 obtain ⟨a,r,rfl,hr⟩:=h.cons
 simp [isQ,hx]
theorem Je {T:List Tok} {k:Int} {w:List UInt8} {R:List Tk} (h:Mt T ((k,w)::R)) (hk:k=3∨k=1):∃r,yw w T=.ok () r∧Mt r R:=by
 obtain ⟨h1,h2⟩:=KQ h hk
 exact ⟨T.tail,by unfold yw;rw [if_pos h1],h2⟩
theorem abq {T:List Tok} {n:List UInt8} {R:List Tk} (h:Mt T ((1,n)::R)) (hk:kwS n=false):∃r,FX T=.ok n r∧Mt r R:=by
 obtain ⟨a,r,rfl,hr⟩:=h.cons
 exact ⟨r,by simp [FX,hk],hr⟩
theorem aeK {T:List Tok} {z:Int} {R:List Tk} (h:Mt T ((2,itoa z)::R)) (h1:-1099511627776≤z) (h2:z≤1099511627776) (ha:Go.Lib.atoi (itoa z)=some z):∃r,Vq T=.ok z r∧Mt r R:=by
 obtain ⟨a,r,rfl,hr⟩:=h.cons
 exact ⟨r,by simp [Vq,ha],hr⟩
theorem abo {T:List Tok} {t:List UInt8} {R:List Tk} (ht:qg t=true) (h:Mt T (tkT t++R)):∃r,DT T=.ok t r∧Mt r R:=by
 unfold qg at ht
 unfold tkT at h
 by_cases hv:yE t=true
 ·obtain ⟨v,rfl,tv,h3,h4,_⟩:=RU hv
  rw [if_pos (by simp [headB])] at h
  obtain ⟨h5,h6⟩:=KQ h (.inl rfl)
  obtain ⟨a,r,h7,hr⟩:=h6.cons
  refine ⟨r, ?_,hr⟩
  unfold DT
  rw [if_pos h5,h7]
  simp [Oj,h3,h4]
 ·have hi:zB t=true:=by
   rw [Bool.or_eq_true] at ht
   exact ht.resolve_left hv
  have hh:=OM hi
  rw [if_neg (by rw [hh];simp)] at h
  have h5:isQ [63] T=false:=Wj h (by rintro h;simp only [] at h;rw [h] at hh;simp [headB] at hh)
  obtain ⟨r,h6,hr⟩:=abq h (Tj (wF hi)).kw
  exact ⟨r,by unfold DT;rw [if_neg (by rw [h5];simp)];exact h6,hr⟩
def NxQ (R:List Tk) (w:List UInt8):Prop:=∃x R',R=x::R'∧x.2≠w
theorem NxQ.no {R:List Tk} {w:List UInt8} (h:NxQ R w) {T:List Tok} (hT:Mt T R):isQ w T=false:=by
 obtain ⟨x,R',rfl,hx⟩:=h
 exact Wj hT hx
theorem abr {T:List Tok} {a:At} {R:List Tk} (ha:a.Val) (h:Mt T (tkA a++R)) (hR:NxQ R qIn):∃r,G5 T=.ok a r∧Mt r R:=by
 unfold tkA at h
 simp only [List.cons_append,List.append_assoc] at h
 obtain ⟨r1,e1,h1⟩:=abq h (Tj (wF ha.n)).kw
 obtain ⟨r2,e2,h2⟩:=Je h1 (.inl rfl)
 obtain ⟨r3,e3,h3⟩:=abo ha.tx h2
 unfold G5
 rw [e1,PR.bind_ok,e2,PR.bind_ok,e3,PR.bind_ok]
 by_cases k2:a.kind=2
 ·rw [if_pos k2] at h3
  simp only [List.cons_append,List.append_assoc,List.nil_append] at h3
  obtain ⟨h4,h5⟩:=KQ h3 (.inl rfl)
  obtain ⟨r5,e5,h6⟩:=abo (ha.ty k2) h5
  obtain ⟨r6,e6,h7⟩:=Je h6 (.inl rfl)
  refine ⟨r6, ?_,h7⟩
  rw [if_pos h4,e5,PR.bind_ok,e6,PR.bind_ok]
  obtain ⟨z1,z2⟩:=ha.z (by omega)
  cases a
  simp_all
 ·rw [if_neg k2] at h3
  simp only [List.cons_append] at h3
  have h4:isQ [44] r3=false:=Wj h3 (by simp)
  obtain ⟨r5,e5,h6⟩:=Je h3 (.inl rfl)
  rw [if_neg (by rw [h4];simp),e5,PR.bind_ok]
  have hy:=ha.y k2
  by_cases k3:a.kind=3
  ·rw [if_pos k3] at h6
   simp only [List.cons_append,List.nil_append] at h6
   obtain ⟨h7,h8⟩:=KQ h6 (.inr rfl)
   obtain ⟨r6,e6,h9⟩:=aeK h8 ha.l1 ha.l2 (U2 a.lo ha.l1 ha.l2).1
   obtain ⟨r7,e7,h10⟩:=Je h9 (.inr rfl)
   obtain ⟨r8,e8,h11⟩:=aeK h10 ha.h1 ha.h2 (U2 a.hi ha.h1 ha.h2).1
   refine ⟨r8, ?_,h11⟩
   rw [if_pos h7]
   unfold aev
   rw [e6,PR.bind_ok,e7,PR.bind_ok,e8,PR.bind_ok]
   cases a
   simp_all
  ·rw [if_neg k3,List.nil_append] at h6
   refine ⟨r5, ?_,h6⟩
   rw [if_neg (by rw [hR.no h6];simp)]
   obtain ⟨z1,z2⟩:=ha.z k3
   have k1:a.kind=1:=by have:=ha.k;omega
   cases a
   simp_all
theorem KW (s:Tk) (a:List Tk):∀r:List (List Tk),Bz s (a::r)=a++r.flatMap fun b=>s::b
 | []=>by simp [Bz]
 | b::r=>by rw [Bz,KW s b r];simp
theorem YM {R:List Tk} (h1:NxQ R qIn) (h2:NxQ R KG):∀(L:List At) (n:Nat) (T:List Tok) (acc:List At),(∀a∈L,a.Val)→T.length≤n→Mt T ((L.flatMap fun a=>(1,KG)::tkA a)++R)→
  ∃r,zM n T acc=.ok (acc++L) r∧Mt r R
 | [],n,T,acc,_,hn,h=>by
  obtain ⟨x,R',rfl,hx⟩:=h2
  simp only [List.flatMap_nil,List.nil_append] at h
  have hl:=h.len
  cases n with
  | zero=>simp at hl;omega
  | succ n=>
   refine ⟨T, ?_,h⟩
   unfold zM
   rw [if_neg (by rw [Wj h hx];simp),List.append_nil]
 | a::L,n,T,acc,hv,hn,h=>by
  simp only [List.flatMap_cons,List.cons_append,List.append_assoc] at h
  have hl:=h.len
  cases n with
  | zero=>simp at hl;omega
  | succ n=>
   obtain ⟨e1,h3⟩:=KQ h (.inr rfl)
   have hR:NxQ ((L.flatMap fun a=>(1,KG)::tkA a)++R) qIn:=by
    cases L with
    | nil=>exact h1
    | cons b L=>exact ⟨(1,KG),_,rfl,by decide⟩
   obtain ⟨r,e2,h4⟩:=abr (hv a (by simp)) h3 hR
   have hl2:=h4.len
   obtain ⟨r',e3,h5⟩:=YM h1 h2 L n r (acc++[a]) (fun b hb=>hv b (by simp [hb])) (by simp at hl hl2;omega) h4
   refine ⟨r', ?_,h5⟩
   unfold zM
   rw [if_pos e1,e2,PR.bind_ok,e3]
   simp
theorem abp {R:List Tk} (h1:NxQ R qIn) (h2:NxQ R KG) {p:List At} (hp:p≠[]) (hv:∀a∈p,a.Val) {T:List Tok} (h:Mt T (tkP p++R)):∃r,GZ T=.ok p r∧Mt r R:=by
 cases p with
 | nil=>exact absurd rfl hp
 | cons a L=>
  unfold tkP at h
  rw [List.map_cons,KW,List.append_assoc,List.flatMap_map] at h
  have hR:NxQ ((L.flatMap fun a=>(1,KG)::tkA a)++R) qIn:=by
   cases L with
   | nil=>exact h1
   | cons b L=>exact ⟨(1,KG),_,rfl,by decide⟩
  obtain ⟨r,e2,h4⟩:=abr (hv a (by simp)) h hR
  obtain ⟨r',e3,h5⟩:=YM h1 h2 L r.length r [a] (fun b hb=>hv b (by simp [hb])) (Nat.le_refl _) h4
  refine ⟨r', ?_,h5⟩
  unfold GZ
  rw [e2,PR.bind_ok,e3]
  rfl
theorem YL:∀(L:List (List At)) (n:Nat) (T:List Tok) (acc:List (List At)),(∀p∈L,p≠[]∧∀a∈p,a.Val)→T.length≤n→Mt T ((L.flatMap fun p=>(1,qOr)::tkP p)++[(4,[])])→
  ∃r,zL n T acc=.ok (acc++L) r∧Mt r [(4,[])]
 | [],n,T,acc,_,hn,h=>by
  simp only [List.flatMap_nil,List.nil_append] at h
  have hl:=h.len
  cases n with
  | zero=>simp at hl;omega
  | succ n=>
   refine ⟨T, ?_,h⟩
   unfold zL
   rw [if_neg (by rw [Wj h (by decide)];simp),List.append_nil]
 | a::L,n,T,acc,hv,hn,h=>by
  simp only [List.flatMap_cons,List.cons_append,List.append_assoc] at h
  have hl:=h.len
  cases n with
  | zero=>simp at hl;omega
  | succ n=>
   obtain ⟨e1,h3⟩:=KQ h (.inr rfl)
   have hR:∀w,w≠qOr→w≠[]→NxQ ((L.flatMap fun p=>(1,qOr)::tkP p)++[(4,[])]) w:=by
    intro w hw hw'
    cases L with
    | nil=>exact ⟨(4,[]),_,rfl,fun h=>hw' h.symm⟩
    | cons b L=>exact ⟨(1,qOr),_,rfl,fun h=>hw h.symm⟩
   obtain ⟨r,e2,h4⟩:=abp (hR qIn (by decide) (by decide)) (hR KG (by decide) (by decide)) (hv a (by simp)).1 (hv a (by simp)).2 h3
   have hl2:=h4.len
   obtain ⟨r',e3,h5⟩:=YL L n r (acc++[a]) (fun b hb=>hv b (by simp [hb])) (by simp at hl hl2;omega) h4
   refine ⟨r', ?_,h5⟩
   unfold zL
   rw [if_pos e1,e2,PR.bind_ok,e3]
   simp
theorem YK {R:List Tk} (h2:NxQ R [63]):∀(L:List (List UInt8)) (n:Nat) (T:List Tok) (acc:List (List UInt8)),(∀t∈L,yE t=true)→T.length≤n→Mt T (L.flatMap tkT++R)→
  ∃r,zK n T acc=.ok (acc++L) r∧Mt r R
 | [],n,T,acc,_,hn,h=>by
  obtain ⟨x,R',rfl,hx⟩:=h2
  simp only [List.flatMap_nil,List.nil_append] at h
  have hl:=h.len
  cases n with
  | zero=>simp at hl;omega
  | succ n=>
   refine ⟨T, ?_,h⟩
   unfold zK
   rw [if_neg (by rw [Wj h hx];simp),List.append_nil]
 | t::L,n,T,acc,hv,hn,h=>by
  obtain ⟨v,rfl,tv,q3,q4,_⟩:=RU (hv t (by simp))
  have e0:tkT (63::v)=[(3,[63]),(1,v)]:=by unfold tkT;rw [if_pos (by simp [headB])];rfl
  simp only [List.flatMap_cons,List.append_assoc,e0,List.cons_append,List.nil_append] at h
  have hl:=h.len
  cases n with
  | zero=>simp at hl;omega
  | succ n=>
   obtain ⟨e1,h3⟩:=KQ h (.inl rfl)
   obtain ⟨a,r,e2,h4⟩:=h3.cons
   have hl2:=h4.len
   obtain ⟨r',e3,h5⟩:=YK h2 L n r (acc++[63::v]) (fun b hb=>hv b (by simp [hb])) (by simp at hl hl2;omega) h4
   refine ⟨r', ?_,h5⟩
   unfold zK
   rw [if_pos e1,e2]
   have e4:Oj ((1,v,a)::r)=.ok (63::v) r:=by simp [Oj,q3,q4]
   rw [e4,PR.bind_ok,e3]
   simp
theorem aeJ {T:List (List UInt8)} {ps:List (Bool×List At)} (h:Rk T ps) {K:List Tok} (hK:Mt K (tkQ T ps++[(4,[])])):∃r,Di K=.ok (T,ps.map (·.2)) r:=by
 unfold tkQ at hK
 simp only [List.cons_append,List.append_assoc] at hK
 obtain ⟨r1,e1,h1⟩:=Je hK (.inr rfl)
 obtain ⟨r2,e2,h2⟩:=YK (R:=(1,Vp)::(Bz (1,qOr) (ps.map fun p=>tkP p.2)++[(4,[])])) ⟨_,_,rfl,by decide⟩ T r1.length r1 [] h.w (Nat.le_refl _) h1
 obtain ⟨r3,e3,h3⟩:=Je h2 (.inr rfl)
 unfold Di
 rw [e1,PR.bind_ok,e2,PR.bind_ok,e3,PR.bind_ok]
 cases hp:ps with
 | nil=>exact absurd hp h.ne
 | cons p L=>
  have hv:∀q∈p::L,q.2≠[]∧∀a∈q.2,a.Val:=fun q hq=>⟨(h.a q (by rw [hp];exact hq)).1,h.v q (by rw [hp];exact hq)⟩
  rw [hp] at h3
  rw [List.map_cons,KW,List.append_assoc] at h3
  have e0:((L.map fun p=>tkP p.2).flatMap fun b=>(1,qOr)::b)=(L.map (·.2)).flatMap fun p=>(1,qOr)::tkP p:=by
   rw [List.flatMap_map,List.flatMap_map]
  rw [e0] at h3
  have hR:∀w,w≠qOr→w≠[]→NxQ (((L.map (·.2)).flatMap fun p=>(1,qOr)::tkP p)++[(4,[])]) w:=by
   intro w hw hw'
   cases L with
   | nil=>exact ⟨(4,[]),_,rfl,fun h=>hw' h.symm⟩
   | cons b L=>exact ⟨(1,qOr),_,rfl,fun h=>hw h.symm⟩
  obtain ⟨r4,e4,h4⟩:=abp (hR qIn (by decide) (by decide)) (hR KG (by decide) (by decide)) (hv p (by simp)).1 (hv p (by simp)).2 h3
  obtain ⟨r5,e5,h5⟩:=YL (L.map (·.2)) r4.length r4 [p.2] (fun q hq=>by
   obtain ⟨x,hx,rfl⟩:=List.mem_map.1 hq
   exact hv x (by simp [hx])) (Nat.le_refl _) h4
  rw [e4,PR.bind_ok,e5,PR.bind_ok]
  obtain ⟨a,r,rfl,_⟩:=h5.cons
  refine ⟨(4,[],a)::r, ?_⟩
  rw [if_pos (by simp)]
  simp
end Go.Ai.Z
namespace Go.Ai.Z
open Go.Ai
theorem aen {T:List (List UInt8)} {ps:List (Bool×List At)} (h:Rk T ps):(quS T ps).length≤65536:=by
 obtain ⟨h1,h2⟩:=Xq h
 unfold quS
 simp [NZ];omega
theorem Tf:∀ps:List (Bool×List At),Gh (pts (ps.map (·.2)))=Gh ps
 | []=>rfl
 | p::r=>by
  have:=Tf r
  simp only [pts,List.map_cons,Gh] at this ⊢
  rw [this]
theorem Ru (f:Bool×List At→Bool):∀ps:List (Bool×List At),(pts (ps.map (·.2))).all f=ps.all fun p=>f (false,p.2)
 | []=>rfl
 | p::r=>by
  have:=Ru f r
  simp only [pts,List.map_cons,List.all_cons] at this ⊢
  rw [this]
theorem VU (ps:List (Bool×List At)):∀(T seen:List (List UInt8)),tdB (pts (ps.map (·.2))) seen T=tdB ps seen T
 | [],seen=>by simp [tdB]
 | t::r,seen=>by
  simp only [tdB,VU ps r,Ru]
theorem adz {T:List (List UInt8)} {ps:List (Bool×List At)}:chB T (pts (ps.map (·.2)))=chB T ps:=by
 have h1:shE T (pts (ps.map (·.2)))=shE T ps:=by
  unfold shE
  rw [Ru]
  simp [pts]
 have h2:=Tf ps
 have h3:tdE T (pts (ps.map (·.2)))=tdE T ps:=by unfold tdE;rw [VU]
 unfold chB
 rw [h1,h2,h3,Ru]
theorem afv {ps:List (Bool×List At)} (h:∀p∈ps,p.2≠[]):ps.map encPt=(ps.map (·.2)).map jT:=by
 rw [List.map_map]
 refine List.map_congr_left fun p hp=>?_
 show encPt p=jT p.2
 unfold encPt jT
 rw [DK (h p hp)]
theorem abm {src:List UInt8} {a e:Int} (h:Tm src=.inr (a,e)):e≠0:=by
 unfold Tm at h
 split at h
 ·cases h;decide
 ·split at h
  ·cases h;decide
  ·split at h
   ·cases h
   ·rename_i c;cases h;exact c
theorem af9 {src:List UInt8} (hl:src.length≤65536) {q:List (List UInt8)×List (List At)} (h:Tm src=.inl q):chB q.1 (pts q.2)=0∧QOk q.1 (pts q.2)∧zG q=xQ true q.1 false (pts q.2):=by
 obtain ⟨hw,htw⟩:=abx hl
 have htl:(lexB src).1.length≤800000:=by
  have:∀l:List Tok,l.length≤tw l:=fun l=>by
   induction l with
   | nil=>exact Nat.le_refl _
   | cons t r ih=>simp only [List.length_cons,tw];omega
  have:=this (lexB src).1
  omega
 unfold Tm at h
 split at h
 ·cases h
 ·split at h
  ·cases h
  ·rename_i x
   split at h
   ·rename_i c
    cases h
    obtain ⟨h1,h2,h3⟩:=WQ hw htl x
    exact ⟨c,h1,Zk h2 h3⟩
   ·cases h
end Go.Ai.Z
