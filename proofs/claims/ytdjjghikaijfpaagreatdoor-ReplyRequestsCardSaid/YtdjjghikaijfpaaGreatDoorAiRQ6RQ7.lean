/-
 reply.PrintRequest.
-/
import Derived.Test.YtdjjghikaijfpaaGreatDoorAiRQ4RQ5
set_option maxRecDepth 100000
set_option linter.unusedSimpArgs false
set_option linter.unusedVariables false
set_option linter.unusedSectionVars false
namespace Go.Ai.Z
open Go.Ai
def encR (k:Int) (rd v o:List UInt8) (q:List AV):AV:=.ag (.i .i64 k::.s rd::.s v::.s o::q)
def wdS (k:Int):List UInt8:=(wdL[(k - 1).toNat]?).getD []
def Uh (k:Int) (o:List UInt8):Bool:=decide (1≤k) && decide (k≤5) && (decide (k=4) || decide (o=[]))
def nmB (k:Int) (rd v o:List UInt8):Bool:=Dh rd && labS v && (!decide (k=4) || labS o)
def prE (k:Int) (rd v o:List UInt8) (T:List (List UInt8)) (ps:List (Bool×List At)):Int:=
 if Uh k o=false then 400 else if nmB k rd v o=false then 20 else chB T ps
def prF (k:Int) (rd v o:List UInt8):List (List UInt8):=if k=4 then [wdS k,rd,v,o] else [wdS k,rd,v]
def prS (k:Int) (rd v o:List UInt8) (T:List (List UInt8)) (ps:List (Bool×List At)):List UInt8:=joinL [32] (prF k rd v o)++[10]++quS T ps
def LY:aC:=Ad 3 aV.code
theorem ahr:aV=⟨1,[.tmp 2,.tmp 3],true,false,Iw 3 aV.code LY⟩:=by
 simp only [LY,aV,Iw,Ad]
noncomputable def runT (c:aC) (env:Env) (s:St):CO:=endW P0.glob true false s [.tmp 2,.tmp 3] (ay P0.glob (aj P0) ⟨s.length,s.length⟩ false c env s)
theorem XL (X:St) (n:Nat) (e:Int):frz X n (.tu [.ns,.i .i64 e])=some (.tu [.ns,.i .i64 e]):=by simp [frz,AV.under]
theorem ah3 (k:Int) (rd v o:List UInt8) (z1 z2:Bool) (A B:List AV) (h:Uh k o=false) (s:St) (cx:Ctx):
  af P0.glob (aj P0) aV [encR k rd v o [slf z1 A,slf z2 B]] s cx=.ret (.tu [.ns,.i .i64 400]) s:=by
 have hf:=XL s s.length 400
 rw [ahr]
 generalize LY=R
 simp only [Iw,aV,encR]
 unfold Uh at h
 by_cases h1:k<1
 ·simp [af,h1,hf]
 ·by_cases h2:5<k
  ·simp [af,h1,h2,hf]
  ·have h1':1≤k:=by omega
   have h2':k≤5:=by omega
   by_cases h3:k=4
   ·simp [h3] at h
   ·simp [h1',h2',h3] at h
    have h4:o.isEmpty=false:=by cases o<;>simp_all
    simp [af,h1,h2,h3,h,h4,hf]
theorem akC (k:Int) (rd v o:List UInt8) (hl:rd.length≤100000∧v.length≤100000∧o.length≤100000) (z1 z2:Bool) (A B:List AV) (h:Uh k o=true) (s:St) (cx:Ctx):
  af P0.glob (aj P0) aV [encR k rd v o [slf z1 A,slf z2 B]] s cx=
   if nmB k rd v o=true then runT LY [(1,.bx [.i .i64 k,.s rd,.s v,.s o,slf z1 A,slf z2 B]),(44,.v (.b false))] s else .ret (.tu [.ns,.i .i64 20]) s:=by
 have e1:=FH rd (by omega)
 have e2:=Pg v (by omega)
 have e3:=Pg o (by omega)
 have hf:=XL s s.length 20
 rw [ahr]
 unfold runT
 generalize LY=R
 simp only [Iw,aV,encR]
 unfold Uh at h
 unfold nmB
 simp only [Bool.and_eq_true,decide_eq_true_eq,Bool.or_eq_true] at h
 obtain ⟨⟨h1,h2⟩,h3⟩:=h
 have h1':¬k<1:=by omega
 have h2':¬5<k:=by omega
 cases r1:Dh rd<;>simp [r1] at e1
 ·rcases h3 with h3|h3
  ·simp [af,h1',h2',h3,e1,hf]
  ·by_cases h4:k=4<;>simp [af,h1',h2',h3,h4,e1,hf]
 ·cases r2:labS v<;>simp [r2] at e2
  ·rcases h3 with h3|h3
   ·simp [af,h1',h2',h3,e1,e2,hf]
   ·by_cases h4:k=4<;>simp [af,h1',h2',h3,h4,e1,e2,hf]
  ·by_cases h4:k=4
   ·cases r3:labS o<;>simp [r3] at e3<;>simp [af,h1',h2',h4,e1,e2,e3,r3,hf]
   ·have h3':o=[]:=h3.resolve_left h4
    simp [af,h1',h2',h3',h4,e1,e2,hf]
theorem Lj:∀l:List UInt8,(ai l).flatMap AV.cells=ai l
 | []=>rfl
 | b::r=>by
  show AV.cells (.i .u8 b.toNat)++(ai r).flatMap AV.cells=_
  rw [Lj r];rfl
theorem afr {s:St} {t ver:Nat} (f:Nat) (M:List UInt8) (hM:M≠[]):rQ (s++[.buf t 1 ver (ai M)]) s.length (f+1) (.sk s.length ver 1 0 M.length)=some (.sl (ai M)):=by
 have h1:(AV.sk s.length ver 1 0 M.length).under s.length=false:=by simp [AV.under]
 have ht:(ai M).take (M.length * 1)=ai M:=List.take_of_length_le (by rw [dM];omega)
 have hm:(ai M).mapM (rQ (s++[.buf t 1 ver (ai M)]) s.length f)=some (ai M):=TU fun a ha=>abN (by
  unfold ai at ha
  obtain ⟨x,_,rfl⟩:=List.mem_map.1 ha;simp [AV.under])
 have ho:(ai M).all AV.one=true:=List.all_eq_true.2 fun a ha=>by unfold ai at ha;obtain ⟨x,_,rfl⟩:=List.mem_map.1 ha;rfl
 have hc:∀N:List UInt8,chunk 1 N.length (ai N)=ai N:=by
  intro N
  induction N with
  | nil=>rfl
  | cons x N ih=>
   show chunk 1 (N.length+1) (AV.i .u8 x.toNat::ai N)=AV.i .u8 x.toNat::ai N
   simp only [chunk,if_true,List.drop_succ_cons,List.drop_zero,ih];rfl
 rw [rQ,if_neg (by rw [h1];exact Bool.false_ne_true)]
 simp only [List.getElem?_append_right (Nat.le_refl _),Nat.sub_self,List.getElem?_cons_zero]
 rw [if_pos (by simp [dM]),List.drop_zero,ht,hm]
 show (if _ then _ else _)=_
 rw [if_pos ⟨by omega,ho⟩,hc]
theorem abM {s:St} {t ver:Nat} (M:List UInt8) (hM:M≠[]) (e:Int):frz (s++[.buf t 1 ver (ai M)]) s.length (.tu [.sk s.length ver 1 0 M.length,.i .i64 e])=some (.tu [.sl (ai M),.i .i64 e]):=by
 have h1:(AV.tu [.sk s.length ver 1 0 M.length,.i .i64 e]).under s.length=false:=by simp [AV.under]
 have h2:rQ (s++[.buf t 1 ver (ai M)]) s.length 5 (.i .i64 e)=some (.i .i64 e):=by simp [rQ,AV.under]
 rw [frz,if_neg (by rw [h1];exact Bool.false_ne_true),rQ,if_neg (by rw [h1];exact Bool.false_ne_true)]
 simp only [List.mapM_cons,List.mapM_nil,afr 4 M hM,h2]
 rfl
theorem amw (k:Int) (rd v o:List UInt8) (hl:rd.length≤10000∧v.length≤10000∧o.length≤10000) (zt:Bool) (T:List (List UInt8)) (zp:Bool) (ps:List (Bool×List At)) (hq:QOk T ps) (hk:1≤k∧k≤5) (c:chB T ps≠0) (s:St):
  runT LY [(1,.bx [.i .i64 k,.s rd,.s v,.s o,slf zt (T.map .s),slf zp (ps.map encPt)]),(44,.v (.b false))] s=.ret (.tu [.ns,.i .i64 (chB T ps)]) s:=by
 have e1:=abX zt T zp ps hq
 have hf:=XL s s.length (chB T ps)
 rw [if_neg c] at e1
 simp only [xQ] at e1
 unfold runT
 simp only [LY,Ad,aV]
 generalize T.map AV.s=A at *
 generalize ps.map encPt=B at *
 simp [e1,c,hf]
theorem ag6 {k:Int} (hk:1≤k∧k≤5):(∃Z,(wdL.map AV.s).drop (k - 1).toNat=.s (wdS k)::Z)∧wdS k≠[]∧(wdS k).length≤6:=by
 obtain ⟨h1,h2⟩:=hk
 have:k=1∨k=2∨k=3∨k=4∨k=5:=by omega
 rcases this with rfl|rfl|rfl|rfl|rfl<;>exact ⟨⟨_,rfl⟩,by decide,by decide⟩
theorem akB (k:Int) (rd v o:List UInt8) (hl:rd.length≤10000∧v.length≤10000∧o.length≤10000) (zt:Bool) (T:List (List UInt8)) (zp:Bool) (ps:List (Bool×List At)) (hq:QOk T ps) (hk:1≤k∧k≤5) (c:chB T ps=0) (s:St):
  runT LY [(1,.bx [.i .i64 k,.s rd,.s v,.s o,slf zt (T.map .s),slf zp (ps.map encPt)]),(44,.v (.b false))] s=.ret (.tu [.sl (ai (prS k rd v o T ps)),.i .i64 0]) s:=by
 have e1:=abX zt T zp ps hq
 have hv:=Rk.of c
 have hqS:=aen hv
 rw [if_pos c] at e1
 simp only [xQ] at e1
 obtain ⟨⟨Z,hw1⟩,hw2,hw3⟩:=ag6 hk
 have hq0:0<(ai (quS T ps)).length:=by
  rw [dM]
  unfold quS NZ
  simp
  omega
 unfold runT
 simp only [LY,Ad,aV]
 unfold prS prF
 have hcq:=IC (l:=quS T ps)
 have hkw:IntKind.i64.wrap (k - 1)=k - 1:=w64 (by omega) (by omega)
 have hg:=Uy
 generalize T.map AV.s=A at *
 generalize ps.map encPt=B at *
 generalize quS T ps=Q at *
 generalize wdS k=w at *
 by_cases h4:k=4
 ·subst h4
  rw [if_pos rfl]
  have hJl:(joinL [32] [w,rd,v,o]).length≤60000:=by simp [joinL];omega
  have e2:=afB [w,rd,v,o] (by simp) hJl (by cases w<;>simp [joinL] at hw2 ⊢) (by simp) s ⟨s.length,s.length⟩ (Nat.le_refl _)
  generalize joinL [32] [w,rd,v,o]=J at *
  have hm1:J.length+1+Q.length≤aW:=by unfold aW;omega
  have hb1:(ai (J++[10])).length=J.length+1:=by rw [dM];simp
  have hb2:(ai (J++[10])).take (J.length+1)=ai (J++[10]):=List.take_of_length_le (by rw [hb1];omega)
  have hb3:ai (J++[10])++ai Q=ai (J++[10]++Q):=by simp [ai]
  have hf:=abM (s:=s) (t:=sJ) (ver:=2) (J++[10]++Q) (by simp) 0
  rw [←hb3] at hf ⊢
  simp only [List.length_append,List.length_singleton] at hf
  have hbq:(ai Q).length=Q.length:=dM Q
  rw [hbq] at hq0
  generalize ai (J++[10])=BJ at *
  have hfb:=Lj Q
  generalize ai Q=BQ at *
  simp at e2
  have w3:IntKind.i64.wrap 3=3:=by decide
  have h4m:4≤aW:=by decide
  simp at hw1
  simp [e1,hg,hw1,w3,e2,List.range_succ,h4m,hb1,hb2,hbq,hq0,hm1,hcq,hfb,hf]
 ·rw [if_neg h4]
  have hJl:(joinL [32] [w,rd,v]).length≤60000:=by simp [joinL];omega
  have e2:=afB [w,rd,v] (by simp) hJl (by cases w<;>simp [joinL] at hw2 ⊢) (by simp) s ⟨s.length,s.length⟩ (Nat.le_refl _)
  generalize joinL [32] [w,rd,v]=J at *
  have hm1:J.length+1+Q.length≤aW:=by unfold aW;omega
  have hb1:(ai (J++[10])).length=J.length+1:=by rw [dM];simp
  have hb2:(ai (J++[10])).take (J.length+1)=ai (J++[10]):=List.take_of_length_le (by rw [hb1];omega)
  have hb3:ai (J++[10])++ai Q=ai (J++[10]++Q):=by simp [ai]
  have hf:=abM (s:=s) (t:=sJ) (ver:=2) (J++[10]++Q) (by simp) 0
  rw [←hb3] at hf ⊢
  simp only [List.length_append,List.length_singleton] at hf
  have hbq:(ai Q).length=Q.length:=dM Q
  rw [hbq] at hq0
  generalize ai (J++[10])=BJ at *
  have hfb:=Lj Q
  generalize ai Q=BQ at *
  simp at e2
  have h5:k.toNat - 1<5:=by omega
  rw [show (k - 1).toNat=k.toNat - 1 by omega] at hw1
  simp [e1,hg,hw1,hkw,h4,h5,hk.1,e2,List.range_succ,hb1,hb2,hbq,hq0,hm1,hcq,hfb,hf]
theorem IU (k:Int) (rd v o:List UInt8) (hl:rd.length≤10000∧v.length≤10000∧o.length≤10000) (zt:Bool) (T:List (List UInt8)) (zp:Bool) (ps:List (Bool×List At)) (hq:QOk T ps) (s:St) (cx:Ctx):
  aj P0 (.fn (.func ig) [] []) [encR k rd v o [slf zt (T.map .s),slf zp (ps.map encPt)]] s cx=
   .ret (if prE k rd v o T ps=0 then .tu [.sl (ai (prS k rd v o T ps)),.i .i64 0] else .tu [.ns,.i .i64 (prE k rd v o T ps)]) s:=by
 refine Gx (by simp) ?_
 show af P0.glob (aj P0) aV [_] s cx=_
 unfold prE
 cases h1:Uh k o with
 | false=>rw [ah3 k rd v o zt zp _ _ h1];rfl
 | true=>
  rw [akC k rd v o ⟨by omega,by omega,by omega⟩ zt zp _ _ h1]
  cases h2:nmB k rd v o with
  | false=>rfl
  | true=>
   have hk:1≤k∧k≤5:=by
    unfold Uh at h1
    simp at h1
    exact h1.1
   simp only [if_true,Bool.true_eq_false,if_false]
   by_cases c:chB T ps=0
   ·rw [if_pos c,akB k rd v o hl zt T zp ps hq hk c]
   ·rw [if_neg c,amw k rd v o hl zt T zp ps hq hk c]
end Go.Ai.Z
namespace Go.Ai.Z
open Go.Ai
theorem UI {b:UInt8} {z:List UInt8}:∀{x:List UInt8},b ∉ x→mJ b (x++b::z)=some (x,z)
 | [],_=>by simp [mJ]
 | c::r,h=>by
  simp only [List.mem_cons,not_or] at h
  have h1:c≠b:=fun e=>h.1 e.symm
  simp [mJ,h1,UI h.2]
theorem Ob {b c:UInt8}:∀{l:List UInt8},c∈l→c=b∨∃f∈splitB b l,c∈f
 | [],h=>by simp at h
 | x::r,h=>by
  by_cases hx:x=b
  ·rcases List.mem_cons.1 h with rfl|h
   ·exact .inl hx
   ·rcases Ob (b:=b) h with h|⟨f,h1,h2⟩
    ·exact .inl h
    ·exact .inr ⟨f,by simp [splitB,hx,h1],h2⟩
  ·cases hs:splitB b r with
   | nil=>have:=wu (b:=b) r;rw [hs] at this;simp at this
   | cons g t=>
    rcases List.mem_cons.1 h with rfl|h
    ·exact .inr ⟨c::g,by simp [splitB,hx,hs],by simp⟩
    ·rcases Ob (b:=b) h with h|⟨f,h1,h2⟩
     ·exact .inl h
     ·rw [hs] at h1
      rcases List.mem_cons.1 h1 with rfl|h1
      ·exact .inr ⟨x::f,by simp [splitB,hx,hs],by simp [h2]⟩
      ·exact .inr ⟨f,by simp [splitB,hx,hs,h1],h2⟩
theorem aeX {c:UInt8} {sep:List UInt8} {F:List (List UInt8)} (h:c∈joinL sep F):c∈sep∨∃f∈F,c∈f:=by
 cases F with
 | nil=>simp [joinL] at h
 | cons x r=>
  simp only [joinL,List.mem_append,List.mem_flatMap] at h
  rcases h with h|⟨y,hy,h|h⟩
  ·exact .inr ⟨x,by simp,h⟩
  ·exact .inl h
  ·exact .inr ⟨y,by simp [hy],h⟩
theorem PE {b:UInt8}:∀{F:List (List UInt8)},F≠[]→(∀f∈F,b ∉ f)→splitB b (joinL [b] F)=F
 | [],h,_=>absurd rfl h
 | [x],_,h=>by
  have:joinL [b] [x]=x:=by simp [joinL]
  rw [this]
  exact wQ (Jp.2 (h x (by simp)))
 | x::y::r,_,h=>by
  rw [Wy]
  show splitB b (x++b::joinL [b] (y::r))=_
  rw [wP (UI (h x (by simp))),PE (by simp) (fun f hf=>h f (List.mem_cons_of_mem _ hf))]
theorem aek {l:List UInt8} (h:Dh l=true):CJ l=true∧l.length≤24:=by
 unfold Dh at h
 simp only [Bool.and_eq_true] at h
 obtain ⟨⟨h1,h2⟩,h3⟩:=h
 have hp:jc l=true:=wF (by unfold zB;rw [h1,h3];rfl)
 unfold jc at hp
 rw [Bool.and_eq_true,decide_eq_true_eq] at hp
 have h4:mJ 58 l=none:=Jp.2 (by simpa using h2)
 rw [h4] at hp
 exact ⟨hp.2,hp.1⟩
theorem SX {l:List UInt8} (h:Dh l=true) {c:UInt8} (hc:QO c=false):c ∉ l:=fun hm=>by
 have:=tJ (vY (aek h).1).2.1 c hm
 rw [hc] at this
 exact absurd this (by decide)
theorem OI {l:List UInt8} (h:labS l=true) {c:UInt8} (hc:QO c=false) (h94:c≠94):c ∉ l:=fun hm=>by
 rcases Ob (b:=94) hm with h1|⟨f,h1,h2⟩
 ·exact h94 h1
 ·unfold labS at h
  cases hs:splitB 94 l with
  | nil=>rw [hs] at h1;simp at h1
  | cons g t=>
   rw [hs] at h h1
   simp only [Bool.and_eq_true] at h
   rcases List.mem_cons.1 h1 with rfl|h1
   ·exact SX h.1 hc h2
   ·have h3:=List.all_eq_true.1 h.2 f h1
    unfold Oc at h3
    simp only [Bool.or_eq_true,decide_eq_true_eq] at h3
    rcases h3 with (rfl|rfl)|rfl
    ·simp at h2
    ·simp at h2;subst h2;exact absurd hc (by decide)
    ·simp at h2;subst h2;exact absurd hc (by decide)
theorem aau {T:List (List UInt8)} {ps:List (Bool×List At)} (h:chB T ps=0):Tm (quS T ps)=.inl (T,ps.map (·.2)):=by
 have hv:=Rk.of h
 obtain ⟨res,h1,h2⟩:=ael hv 0
 have h3:=aii h1
 obtain ⟨r,h4⟩:=aeJ hv (K:=res) h2
 unfold Tm
 rw [h3]
 simp only [h4]
 rw [if_pos (by rw [adz];exact h)]
theorem adT {k:Int} (hk:1≤k∧k≤5):kwI (wdS k)=k∧(32:UInt8) ∉ wdS k∧(10:UInt8) ∉ wdS k:=by
 obtain ⟨h1,h2⟩:=hk
 have:k=1∨k=2∨k=3∨k=4∨k=5:=by omega
 rcases this with rfl|rfl|rfl|rfl|rfl<;>exact ⟨by decide,by decide,by decide⟩
theorem abl {k:Int} {rd v o:List UInt8} {T:List (List UInt8)} {ps:List (Bool×List At)} (h:prE k rd v o T ps=0):(1≤k∧k≤5)∧(k=4∨o=[])∧Dh rd=true∧labS v=true∧(k=4→labS o=true)∧chB T ps=0:=by
 unfold prE at h
 cases h1:Uh k o with
 | false=>simp [h1] at h
 | true=>
  cases h2:nmB k rd v o with
  | false=>simp [h1,h2] at h
  | true=>
   simp [h1,h2] at h
   unfold Uh at h1
   unfold nmB at h2
   simp at h1 h2
   exact ⟨h1.1,h1.2,h2.1.1,h2.1.2,fun hk=>by rcases h2.2 with h3|h3;exact absurd hk h3;exact h3,h⟩
theorem SQ {k:Int} {rd v o:List UInt8} {T:List (List UInt8)} {ps:List (Bool×List At)} (h:prE k rd v o T ps=0):
  aao (prS k rd v o T ps)=.tu [Vo k rd v o (T,ps.map (·.2)),.i .i64 0,.i .i64 0]:=by
 obtain ⟨hk,ho,hr,hv,ho',hc⟩:=abl h
 obtain ⟨hw1,hw2,hw3⟩:=adT hk
 have i32:QO 32=false:=by decide
 have i10:QO 10=false:=by decide
 have hF32:∀f∈prF k rd v o,(32:UInt8) ∉ f:=by
  unfold prF
  intro f hf
  split at hf
  ·rename_i h4
   simp only [List.mem_cons,List.not_mem_nil,or_false] at hf
   rcases hf with rfl|rfl|rfl|rfl
   ·exact hw2
   ·exact SX hr i32
   ·exact OI hv i32 (by decide)
   ·exact OI (ho' h4) i32 (by decide)
  ·simp only [List.mem_cons,List.not_mem_nil,or_false] at hf
   rcases hf with rfl|rfl|rfl
   ·exact hw2
   ·exact SX hr i32
   ·exact OI hv i32 (by decide)
 have hF10:∀f∈prF k rd v o,(10:UInt8) ∉ f:=by
  unfold prF
  intro f hf
  split at hf
  ·rename_i h4
   simp only [List.mem_cons,List.not_mem_nil,or_false] at hf
   rcases hf with rfl|rfl|rfl|rfl
   ·exact hw3
   ·exact SX hr i10
   ·exact OI hv i10 (by decide)
   ·exact OI (ho' h4) i10 (by decide)
  ·simp only [List.mem_cons,List.not_mem_nil,or_false] at hf
   rcases hf with rfl|rfl|rfl
   ·exact hw3
   ·exact SX hr i10
   ·exact OI hv i10 (by decide)
 have hne:prF k rd v o≠[]:=by unfold prF;split<;>simp
 have hJ:(10:UInt8) ∉ joinL [32] (prF k rd v o):=fun hm=>by
  rcases aeX hm with h1|⟨f,h1,h2⟩
  ·simp at h1
  ·exact hF10 f h1 h2
 have hs:=PE hne hF32
 have hcut:mJ 10 (prS k rd v o T ps)=some (joinL [32] (prF k rd v o),quS T ps):=by
  unfold prS
  rw [List.append_assoc]
  exact UI hJ
 unfold aao
 rw [hcut]
 dsimp only
 rw [hs]
 unfold prF Zh
 rw [aau hc]
 by_cases h4:k=4
 ·rw [if_pos h4]
  dsimp only
  rw [hw1,if_pos h4]
  simp [Cj,hr,hv,ho' h4,h4]
 ·rw [if_neg h4]
  dsimp only
  rw [hw1,if_neg (by omega)]
  have ho2:o=[]:=ho.resolve_left h4
  simp [Cj,hr,hv,ho2]
end Go.Ai.Z
