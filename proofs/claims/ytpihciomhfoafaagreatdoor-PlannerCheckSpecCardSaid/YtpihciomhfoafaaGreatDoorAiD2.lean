/-
 A region whose order of evaluation is open: whatever the order, the interpreter's word holds.
-/
import Derived.Test.YtpihciomhfoafaaGreatDoorAiA6
set_option maxRecDepth 100000
set_option linter.unusedSimpArgs false
set_option linter.unusedVariables false
set_option linter.unusedSectionVars false
namespace Go.Ai
variable {P:Program} {glob:Nat→Option (List AV)} {g:af} {s:St} {B:Nat} {w:World} {env env2:Env} {a:Act} {call:AV→List AV→St→Ctx→CO} {cx:Ctx} {env':Env} {s':St} {D:Nat→Prop}
def EqE (env env2:Env):Prop:=∀k,lk env k=lk env2 k
theorem EqE.agr (h:EqE env env2):Agr (fun _=>False) env env2:=⟨fun k _=>h k,fun _ _ h=>h.elim⟩
theorem Fr.eqE {b0:Nat} {N:Wd} {ls:List Nat} (h:Fr P glob g s B w a env N b0 ls) (he:EqE env env'):Fr P glob g s B w a env' N b0 ls:=by
 refine ⟨⟨h.sim.base,⟨fun k e hk=>h.sim.env.rel k e (by rw [he];exact hk),fun k k' e e' hk hk'=>h.sim.env.apart k k' e e' (by rw [he];exact hk) (by rw [he];exact hk'),fun k e hk=>h.sim.env.off k e (by rw [he];exact hk),fun k e j hk hr=>?_⟩,h.sim.B⟩,h.sz,h.dl,h.df,h.nd,h.lo,h.pin⟩
 obtain ⟨o,h1,h2⟩:=h.sim.env.refs k e j (by rw [he];exact hk) hr
 exact ⟨o,by rw [←he];exact h1,h2⟩
def nY (env:Env) (dst:Option Nat) (e:EV):Env:=
 match dst with
 | some d=>(d,e)::env
 | none=>env
def okD (env:Env) (dst:Option Nat) (e:EV):Prop:=∀d,dst=some d→e.refers d=false∧iC env d=false
theorem Qu {o:ak} {e:EV} (h:o7 glob call o env s=some e):e.owns=false:=by
 unfold o7 at h
 split at h
 ·cases h
 ·cases h;rfl
 ·split at h
  ·split at h
   ·split at h
    ·rename_i hc;cases h;exact hc.2
    ·cases h
   ·cases h
  ·cases h
theorem dJ {o:ak} {env1:Env} {s1:St}:xE glob call o env s=.norm env1 s1 ↔ s1=s∧∃e,o7 glob call o env s=some e∧okD env o.dst e∧env1=nY env o.dst e:=by
 unfold xE
 cases hq:o7 glob call o env s with
 | none=>simp
 | some e=>
  cases hd:o.dst with
  | none=>simp [okD,nY];constructor<;>(rintro ⟨rfl,rfl⟩;exact ⟨rfl,rfl⟩)
  | some d=>
   simp only [okD,nY]
   constructor
   ·intro h
    split at h
    ·rename_i hc;cases h;exact ⟨rfl,e,rfl,fun d' hd'=>by cases hd';exact hc,rfl⟩
    ·cases h
   ·rintro ⟨rfl,e',he,h1,rfl⟩
    cases he
    rw [if_pos (h1 d rfl)]
theorem TR (h:Agr D env env2) {gd:Option (Nat×Bool)} (hg:∀k b,gd=some (k,b)→¬D k):aZ env gd=aZ env2 gd:=by
 cases gd with
 | none=>rfl
 | some p=>simp only [aZ,h.same p.1 (hg p.1 p.2 rfl)]
def XP (D:Nat→Prop) (o:ak):Prop:=∀k∈o.reads,¬D k
theorem vJ (h:Agr D env env2) {o:ak} (ho:XP D o) {e:EV} (hq:o7 glob call o env s=some e):o7 glob call o env2 s=some e:=by
 unfold o7 at hq ⊢
 rw [←TR h (gd:=o.guard) (fun k b hk=>ho k (by simp [ak.reads,hk]))]
 split at hq
 ·cases hq
 ·exact hq
 ·split at hq
  ·rename_i hok
   unfold okQ at hok
   split at hok
   ·rename_i rs es hqu
    simp only [Bool.and_eq_true] at hok
    have hoff:∀x∈rs++es,x.off D:=fun x hx k hk=>ho k (by simp only [ak.reads,hqu];exact List.mem_append_left _ (List.mem_flatMap.2 ⟨x,hx,hk⟩))
    split at hq
    ·rename_i e1 env1 s1 ha
     obtain ⟨_,env3,ha2,_⟩:=U2 h hqu hoff hok.1 hok.2 ha
     have hok2:okQ glob env2 o.op=true:=by
      unfold okQ
      rw [hqu]
      simp only [Bool.and_eq_true]
      constructor
      ·rw [←hok.1]
       rw [Bool.eq_iff_iff]
       simp only [List.all_eq_true]
       have:∀x∈rs,OC glob env2 x=OC glob env x:=fun x hx=>by unfold OC;rw [qA h (hoff x (by simp [hx]))]
       exact ⟨fun hh x hx=>by rw [←this x hx];exact hh x hx,fun hh x hx=>by rw [this x hx];exact hh x hx⟩
      ·have hesc:=hok.2
       simp only [List.all_eq_true] at hesc ⊢
       intro x hx
       have h1:=hesc x hx
       unfold G9 at h1 ⊢
       rw [←qA h (hoff x (by simp [hx]))]
       split at h1
       ·rfl
       ·rename_i j hv
        split at h1
        ·rename_i tip t sz es' hj;rw [h.own (k:=j) (e:=.own tip t sz es') rfl hj];exact h1
        ·cases h1
       ·exact h1
       ·cases h1
     rw [if_pos hok2,ha2]
     exact hq
    ·cases hq
   ·cases hok
  ·cases hq
theorem TM {dst:Option Nat} {e:EV} (he:e.owns=false):Agr (fun k=>dst=some k) (nY env dst e) env:=by
 cases dst with
 | none=>exact ⟨fun _ _=>rfl,fun k _ h=>(by cases h)⟩
 | some d=>
  refine ⟨fun k hk=>?_,fun k e' hk hl ho=>?_⟩
  ·have:d≠k:=fun h=>hk (by rw [h])
   show (if d=k then some e else lk env k)=_
   rw [if_neg this]
  ·cases hk
   have:lk ((d,e)::env) d=some e:=by show (if d=d then some e else _)=_;rw [if_pos rfl]
   have hh:lk ((d,e)::env) d=some e':=hl
   rw [this] at hh;cases hh;rw [he] at ho;cases ho
theorem U3 {dst:Option Nat} {e:EV} (he:e.owns=false) (_:okD env dst e):Agr (fun k=>dst=some k) (nY env dst e) env:=TM he
theorem TN {dst:Option Nat} {e:EV} (hd:okD env dst e):Agr (fun k=>dst=some k) env (nY env dst e):=by
 cases dst with
 | none=>exact ⟨fun _ _=>rfl,fun k _ h=>(by cases h)⟩
 | some d=>
  have hn:=(hd d rfl).2
  refine ⟨fun k hk=>?_,fun k e' hk hl ho=>?_⟩
  ·have:d≠k:=fun h=>hk (by rw [h])
   show _=(if d=k then some e else lk env k)
   rw [if_neg this]
  ·cases hk
   unfold iC at hn;rw [hl] at hn;simp only [] at hn;rw [hn] at ho;cases ho
theorem aX {dst:Option Nat} {e:EV} {k:Nat} (h:dst≠some k):lk (nY env dst e) k=lk env k:=by
 cases dst with
 | none=>rfl
 | some d=>show (if d=k then some e else lk env k)=_;rw [if_neg (fun hh=>h (by rw [hh]))]
theorem CW {d:Option Nat} {o:ak} (h:mZ d o.reads=true):XP (fun k=>d=some k) o:=by
 intro k hk hd
 subst hd
 simp [mZ] at h
 exact h k hk rfl
theorem zW {o p:ak} (h:PL o p=true):o.op.quiet.isSome=true∧p.op.quiet.isSome=true∧XP (fun k=>o.dst=some k) p∧XP (fun k=>p.dst=some k) o∧∀d,o.dst=some d→p.dst≠some d:=by
 simp only [PL,Bool.and_eq_true] at h
 obtain ⟨⟨⟨⟨h1,h2⟩,h3⟩,h4⟩,h5⟩:=h
 refine ⟨h1,h2,CW h3,CW h4,fun d hd hp=>?_⟩
 rw [hd,hp] at h5
 simp at h5
theorem Va {o p:ak} (hap:PL o p=true) {env1 env2:Env} (h1:xE glob call o env s=.norm env1 s) (h2:xE glob call p env1 s=.norm env2 s):
  ∃env1' env2',xE glob call p env s=.norm env1' s∧xE glob call o env1' s=.norm env2' s∧EqE env2' env2:=by
 obtain ⟨_,_,a1,a2,a3⟩:=zW hap
 obtain ⟨_,eo,qo,ko,rfl⟩:=dJ.1 h1
 obtain ⟨_,ep,qp,kp,rfl⟩:=dJ.1 h2
 have qp':=vJ (U3 (Qu qo) ko) a1 qp
 have kp':okD env p.dst ep:=fun d hd=>⟨(kp d hd).1,by
  have:=(kp d hd).2
  unfold iC at this ⊢
  rw [aX (fun hh=>a3 d hh hd)] at this
  exact this⟩
 refine ⟨nY env p.dst ep,nY (nY env p.dst ep) o.dst eo,dJ.2 ⟨rfl,ep,qp',kp',rfl⟩,dJ.2 ⟨rfl,eo,vJ (TN kp') a2 qo,fun d hd=>⟨(ko d hd).1, ?_⟩,rfl⟩,fun k=>?_⟩
 ·have:=(ko d hd).2
  unfold iC at this ⊢
  rw [aX (a3 d hd)]
  exact this
 ·by_cases hk:o.dst=some k
  ·have hk2:=a3 k hk
   rw [aX hk2,hk]
   show (if k=k then some eo else _)=(if k=k then some eo else _)
   rw [if_pos rfl,if_pos rfl]
  ·rw [aX hk]
   by_cases hk2:p.dst=some k
   ·rw [hk2]
    show (if k=k then some ep else _)=(if k=k then some ep else _)
    rw [if_pos rfl,if_pos rfl]
   ·rw [aX hk2,aX hk2,aX hk]
theorem A8 {d1 d2:Option Nat} {e1 e2:EV} (hne:∀d,d1=some d→d2≠some d):EqE (nY (nY env d2 e2) d1 e1) (nY (nY env d1 e1) d2 e2):=by
 intro k
 by_cases hk:d1=some k
 ·have hk2:=hne k hk
  rw [aX hk2,hk]
  show (if k=k then some e1 else _)=(if k=k then some e1 else _)
  rw [if_pos rfl,if_pos rfl]
 ·rw [aX hk]
  by_cases hk2:d2=some k
  ·rw [hk2]
   show (if k=k then some e2 else _)=(if k=k then some e2 else _)
   rw [if_pos rfl,if_pos rfl]
  ·rw [aX hk2,aX hk2,aX hk]
theorem EqE.put (h:EqE env env2) (dst:Option Nat) (e:EV):EqE (nY env dst e) (nY env2 dst e):=by
 intro k
 cases dst with
 | none=>exact h k
 | some d=>show (if d=k then some e else lk env k)=(if d=k then some e else lk env2 k);rw [h k]
theorem WC (h:EqE env env2) {o:ak} {env1:Env} (h1:xE glob call o env s=.norm env1 s):∃env1',xE glob call o env2 s=.norm env1' s∧EqE env1 env1':=by
 obtain ⟨_,e,q,k,rfl⟩:=dJ.1 h1
 exact ⟨_,dJ.2 ⟨rfl,e,vJ h.agr (fun _ _ h=>h.elim) q,fun d hd=>⟨(k d hd).1,by have:=(k d hd).2;unfold iC at this ⊢;rw [←h d];exact this⟩,rfl⟩,h.put _ _⟩
end Go.Ai
namespace Go.Ai
variable {P:Program} {glob:Nat→Option (List AV)} {g:af} {s:St} {B:Nat} {w:World} {env env2:Env} {a:Act} {call:AV→List AV→St→Ctx→CO} {cx:Ctx} {env':Env} {s':St} {ops:Array Oper} {aops:List ak}
inductive Reach (ops:Array Oper):Nat→Nat→Prop where
 | edge {i j:Nat}:j∈pX ops i→Reach ops i j
 | trans {i e j:Nat}:e∈pX ops i→Reach ops e j→Reach ops i j
def UL (ops:Array Oper) (acc:List (Nat×Nat)):Prop:=∀e j,(Ii acc e).testBit j=true→Reach ops e j
theorem LQ {acc:List (Nat×Nat)}:∀(es:List Nat) (j:Nat),(OM acc es).testBit j=true→∃e∈es,j=e∨(Ii acc e).testBit j=true
 | [],j,h=>by simp [OM] at h
 | e::r,j,h=>by
  simp only [OM,Nat.testBit_or,Bool.or_eq_true,Nat.testBit_two_pow,decide_eq_true_eq] at h
  rcases h with (h|h)|h
  ·exact ⟨e,by simp,.inl h.symm⟩
  ·exact ⟨e,by simp,.inr h⟩
  ·obtain ⟨e',h1,h2⟩:=LQ r j h
   exact ⟨e',by simp [h1],h2⟩
theorem OL:∀(π:List Nat) (acc:List (Nat×Nat)),UL ops acc→UL ops (masks ops π acc)
 | [],acc,h=>h
 | i::r,acc,h=>by
  refine OL r _ (fun e j hj=>?_)
  simp only [Ii] at hj
  split at hj
  ·rename_i hie
   have:i=e:=by simpa using hie
   subst this
   obtain ⟨e',h1,h2⟩:=LQ _ j hj
   rcases h2 with rfl|h2
   ·exact .edge h1
   ·exact .trans h1 (h e' j h2)
  ·exact h e j hj
def DV (aops:List ak) (j i:Nat):Prop:=∃o p,aops[j]?=some o∧aops[i]?=some p∧apart o p=true
theorem Hg {ms:List (Nat×Nat)} (hms:UL ops ms):∀(π:List Nat),JV aops ms π=true→π.Pairwise fun j i=>Reach ops i j∨DV aops j i
 | [],_=>.nil
 | j::r,h=>by
  simp only [JV,Bool.and_eq_true,List.all_eq_true] at h
  refine .cons (fun i hi=>?_) (Hg hms r h.2)
  have h1:=h.1 i hi
  simp only [U0,Bool.or_eq_true] at h1
  rcases h1 with h1|h1
  ·exact .inl (hms i j h1)
  ·split at h1
   ·rename_i o p ho hp;exact .inr ⟨o,p,ho,hp,h1⟩
   ·cases h1
structure Inv (ops:Array Oper) (aops:List ak) (listed:Array Bool) (rem:List Nat):Prop where
 sz:listed.size=ops.size
 mem:∀j,j<ops.size→(listed.getD j true=false ↔ j∈rem)
 lt:∀j∈rem,j<ops.size
 nd:rem.Nodup
 pairs:rem.Pairwise fun j i=>Reach ops i j∨DV aops j i
 down:∀i,listed.getD i false=true→∀e∈pX ops i,listed.getD e false=true
 topo:∀p i q,rem=p++i::q→∀e∈pX ops i,listed.getD e false=true∨e∈p
variable {listed:Array Bool} {rem:List Nat}
theorem LH {i:Nat} (h:i∈Region.ready .any ops listed):∀e∈pX ops i,listed.getD e false=true:=by
 obtain ⟨_,o,ho,hall⟩:=mem_ready.1 h
 intro e he
 simp only [pX,ho,List.mem_map,List.mem_filter,Array.mem_toList_iff] at he
 obtain ⟨x,⟨hx,hb⟩,rfl⟩:=he
 exact hall x hx hb
theorem X7 {j:Nat} (h:j<listed.size):listed.getD j true=listed.getD j false:=by
 simp [Array.getD_eq_getD_getElem?,h]
theorem Inv.reach (h:Inv ops aops listed rem) {i j:Nat} (hr:Reach ops i j) (hw:∀e∈pX ops i,listed.getD e false=true):listed.getD j false=true:=by
 induction hr with
 | edge he=>exact hw _ he
 | trans he _ ih=>exact ih (h.down _ (hw _ he))
theorem Inv.not_reach (h:Inv ops aops listed rem) {i j:Nat} (hi:i∈Region.ready .any ops listed) (hj:j∈rem):¬Reach ops i j:=by
 intro hr
 have h1:=h.reach hr (LH hi)
 have h2:=(h.mem j (h.lt j hj)).2 hj
 rw [X7 (by rw [h.sz];exact h.lt j hj),h1] at h2
 cases h2
theorem Inv.ready_mem (h:Inv ops aops listed rem) {i:Nat} (hi:i∈Region.ready .any ops listed):i∈rem:=by
 obtain ⟨h1,o,ho,_⟩:=mem_ready.1 hi
 exact (h.mem i (Array.getElem?_eq_some_iff.1 ho).1).1 h1
theorem Inv.head_ready {i:Nat} {r:List Nat} (h:Inv ops aops listed (i::r)):i∈Region.ready .any ops listed:=by
 have hlt:=h.lt i (by simp)
 refine mem_ready.2 ⟨(h.mem i hlt).2 (by simp),ops[i],by simp [hlt],fun e he hb=>?_⟩
 have hw:e.on∈pX ops i:=by
  simp only [pX,Array.getElem?_eq_getElem hlt,List.mem_map,List.mem_filter,Array.mem_toList_iff]
  exact ⟨e,⟨he,hb⟩,rfl⟩
 rcases h.topo [] i r rfl e.on hw with h1|h1
 ·exact h1
 ·cases h1
theorem Inv.nil_ready (h:Inv ops aops listed []):Region.ready .any ops listed=[]:=by
 cases hr:Region.ready .any ops listed with
 | nil=>rfl
 | cons i r=>have:=h.ready_mem (i:=i) (by rw [hr];simp);cases this
theorem Inv.remove {p q:List Nat} {i:Nat} (h:Inv ops aops listed (p++i::q)) (hi:i∈Region.ready .any ops listed):Inv ops aops (listed.setIfInBounds i true) (p++q):=by
 have hlt:=h.lt i (by simp)
 have hset:∀j b,(listed.setIfInBounds i true).getD j b=if j=i then true else listed.getD j b:=by
  intro j b
  by_cases hj:j=i
  ·subst hj;simp [Array.getD_eq_getD_getElem?,h.sz,hlt]
  ·simp [Array.getD_eq_getD_getElem?,hj,Array.getElem?_setIfInBounds,Ne.symm hj]
 have hnd:=h.nd
 have hsub:List.Sublist (p++q) (p++i::q):=List.Sublist.append (List.Sublist.refl p) (List.sublist_cons_self i q)
 have hni:i ∉ p++q:=by
  have h1:=List.nodup_append.1 hnd
  intro hh
  rcases List.mem_append.1 hh with hh|hh
  ·exact h1.2.2 i hh i (by simp) rfl
  ·exact (List.nodup_cons.1 h1.2.1).1 hh
 refine ⟨by simpa using h.sz,fun j hj=>?_,fun j hj=>h.lt j (by simp at hj ⊢;rcases hj with hj|hj<;>simp [hj]), ?_, ?_,fun k hk e he=>?_,fun p' k q' heq e he=>?_⟩
 ·rw [hset]
  by_cases hji:j=i
  ·subst hji;simp only [if_true];exact ⟨fun hh=>absurd hh (by decide),fun hh=>absurd hh hni⟩
  ·rw [if_neg hji,h.mem j hj];simp [hji]
 ·exact List.Nodup.sublist hsub hnd
 ·have:=h.pairs
  exact List.Pairwise.sublist hsub this
 ·rw [hset] at hk ⊢
  split
  ·rfl
  ·split at hk
   ·rename_i hki;subst hki;exact LH hi e he
   ·exact h.down k hk e he
 ·rw [hset]
  by_cases hei:e=i
  ·left;rw [if_pos hei]
  ·rw [if_neg hei]
   rcases List.append_eq_append_iff.1 heq with ⟨c,h1,h2⟩|⟨c,h1,h2⟩
   ·-- k within q
    rcases h.topo (p++i::c) k q' (by rw [h2];simp) e he with h3|h3
    ·exact .inl h3
    ·right;rw [h1];simp at h3 ⊢;rcases h3 with h3|h3|h3
     ·exact .inl h3
     ·exact absurd h3 hei
     ·exact .inr h3
   ·cases c with
    | nil=>
     simp at h1 h2
     subst h1
     rcases h.topo (p++[i]) k q' (by rw [←h2];simp) e he with h3|h3
     ·exact .inl h3
     ·right;simp at h3;rcases h3 with h3|h3
      ·exact h3
      ·exact absurd h3 hei
    | cons c0 c=>
     simp at h2
     obtain ⟨rfl,rfl⟩:=h2
     exact h.topo p' k (c++i::q) (by rw [h1];simp) e he
end Go.Ai
