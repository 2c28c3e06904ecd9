/-
 append, as an operation; maps that are laid; bytes to strings.
-/
import Derived.Test.YtcofenimejmoeaaGreatDoorAiA3
import Derived.Laws.MakeOwn
set_option maxRecDepth 100000
set_option linter.unusedSimpArgs false
set_option linter.unusedVariables false
set_option linter.unusedSectionVars false
namespace Go.Ai
variable {P:Program} {glob:Nat→Option (List AV)} {g:ai} {s:St} {B:Nat} {w:World} {env:Env} {a:Act} {o:Oper} {call:AV→List AV→St→Ctx→CO} {cx:Ctx} {e:EV} {env':Env} {s':St}
theorem Qq (sz:Nat):Src P w sz (.slice none 0 0) 0 []:=
 ⟨fun _=>by simp [Builtin.lenOf],fun _ _=>by simp [Builtin.firstCells],by simp,fun v hv=>by simp at hv⟩
theorem ad8 (sz:Nat) (ad:Addr):Src P w sz (.slice (some ad) 0 0) 0 []:=
 ⟨fun _=>by simp [Builtin.lenOf],fun w' _=>by simpa [Builtin.firstCells] using run_loadCells_list (P:=P) w' ad [] (fun j v hv=>by simp at hv),by simp,fun v hv=>by simp at hv⟩
theorem aiJ (sz:Nat) (ad:Addr) (c:Nat):Src P w sz (.slice (some ad) 0 c) 0 []:=
 ⟨fun _=>by simp [Builtin.lenOf],fun w' _=>by simpa [Builtin.firstCells] using run_loadCells_list (P:=P) w' ad [] (fun j v hv=>by simp at hv),by simp,fun v hv=>by simp at hv⟩
theorem Nr {sz b off n cap:Nat} {xs:List Value} (hl:xs.length=n * sz) (hc:qm w b off xs) (h1:fC xs):Src P w sz (.slice (some ⟨b,off,none⟩) n cap) n xs:=
 ⟨fun _=>by simp [Builtin.lenOf],fun w' p=>x9 hl (fun j hj=>by
  have:=hc j hj
  rw [←this];simp [World.cell?,p]),hl,h1⟩
theorem qX {sz:Nat} {x:Operand} {ix:IX} (hc:dR x ix=true) (h:Sim P glob g s B w (Act.tm a) env) {ys:List AV} (he:elems glob env ix=some ys) (A:∀y∈ys,y.cells.length=sz):
  ∃news,Src P w sz (a.eval x) ys.length news∧aX g s.length news (ys.flatMap AV.cells):=by
 have Q:∀k tip t sz' es,lk env k=some (.own tip t sz' es)→(∀y∈es,y.cells.length=sz)→∃news,Src P w sz (Act.tm a k) es.length news∧aX g s.length news (es.flatMap AV.cells):=by
  intro k tip t sz' es hk A;obtain ⟨xs,q1,q2,q3,q4,q5,_⟩:=h.env.rel k _ hk;rcases q1.2 with ⟨hv,hn⟩|⟨gb,cap,Z,hv,_,hg,_,_,_,R⟩
  ·have:es=[]:=List.eq_nil_of_length_eq_zero hn
   subst this;rw [hv];exact ⟨[],Qq sz,.nil _ _⟩
  ·by_cases hes:es=[]
   ·subst hes
    have:xs=[]:=List.eq_nil_of_length_eq_zero (by rw [q1.1];simp)
    subst this;rw [hv];exact ⟨[],Nr (by simp) (fun j hj=>by simp at hj) q3,.nil _ _⟩
   ·have I:sz'=sz:=by
     obtain ⟨y,hy⟩:=List.exists_mem_of_ne_nil es hes;rw [←q4 y hy];exact A y hy
    subst I;rw [hv];exact ⟨xs,Nr q1.1 (by rw [←R];obtain ⟨fz,hg,_⟩:=hg;exact (rU hg).take _) q3,q2⟩
 unfold elems at he
 split at he
 ·rename_i S hv;cases he;have hr:=aK (a:=a) hc h.env h.base.glob (v:=.sl ys) (by simp [rd,hv]);generalize a.eval x=ax at hr
  cases hr with
  | slNil=>exact ⟨[],Qq sz,.nil _ _⟩
  | slE ad=>exact ⟨[],ad8 sz ad,.nil _ _⟩
  | sl bk off cap sz' _ c hcap hsz' hm hrr=>
   by_cases hys:ys=[]
   ·subst hys;exact ⟨[],Nr (by simp) (fun j hj=>by simp at hj) (fun v hv=>by simp at hv),.nil _ _⟩
   ·have I:sz'=sz:=by
     have h0:0<ys.length:=List.length_pos_iff.2 hys;rw [←hsz' 0 h0];exact A _ (List.getElem_mem h0)
    subst I
    have dm:∀p,p<ys.length * sz'→p / sz'<ys.length∧p % sz'<sz':=by
     intro p hp
     have O:0<sz':=by
      rcases Nat.eq_zero_or_pos sz' with h0|h0
      ·rw [h0] at hp;simp at hp
      ·exact h0
     exact ⟨Nat.div_lt_of_lt_mul (by rw [Nat.mul_comm];exact hp),Nat.mod_lt _ O⟩
    have K:∀p,p / sz' * sz'+p % sz'=p:=fun p=>by rw [Nat.mul_comm];exact Nat.div_add_mod p sz'
    refine ⟨(List.range (ys.length * sz')).map (fun p=>c (p / sz') (p % sz')),Nr (by simp) (fun p hp=>?_) (fun v hv=>?_),⟨?_,fun p hp W=>?_⟩⟩
    ·simp at hp
     have:=(hm _ _ (dm p hp).1 (dm p hp).2).1
     rw [Nat.add_assoc,K] at this
     simpa using h.base.imm.m bk _ _ this
    ·simp at hv;obtain ⟨p,hp,rfl⟩:=hv;exact (hm _ _ (dm p hp).1 (dm p hp).2).2
    ·simp [yu A]
    ·simp at hp;have hi:=(dm p hp).1;have hj:=(dm p hp).2;have J:p % sz'<(AV.cells ys[p / sz']).length:=by rw [hsz' _ hi];exact hj
     have e1:(ys.flatMap AV.cells)[p]=(AV.cells ys[p / sz'])[p % sz']:=by
      have:=flat_get A (p / sz') hi (p % sz') hj
      rw [K,List.getElem?_eq_getElem W,List.getElem?_eq_getElem J] at this;exact Option.some.inj this
     rw [e1]
     simpa using hrr _ hi _ J
 ·rename_i S hv;cases he;have hr:=aK (a:=a) hc h.env h.base.glob (v:=.sl ys) (by simp [rd,hv]);generalize a.eval x=ax at hr
  cases hr with
  | slNil=>exact ⟨[],Qq sz,.nil _ _⟩
  | slE ad=>exact ⟨[],ad8 sz ad,.nil _ _⟩
  | sl bk off cap sz' _ c hcap hsz' hm hrr=>
   by_cases hys:ys=[]
   ·subst hys;exact ⟨[],Nr (by simp) (fun j hj=>by simp at hj) (fun v hv=>by simp at hv),.nil _ _⟩
   ·have I:sz'=sz:=by
     have h0:0<ys.length:=List.length_pos_iff.2 hys;rw [←hsz' 0 h0];exact A _ (List.getElem_mem h0)
    subst I
    have dm:∀p,p<ys.length * sz'→p / sz'<ys.length∧p % sz'<sz':=by
     intro p hp
     have O:0<sz':=by
      rcases Nat.eq_zero_or_pos sz' with h0|h0
      ·rw [h0] at hp;simp at hp
      ·exact h0
     exact ⟨Nat.div_lt_of_lt_mul (by rw [Nat.mul_comm];exact hp),Nat.mod_lt _ O⟩
    have K:∀p,p / sz' * sz'+p % sz'=p:=fun p=>by rw [Nat.mul_comm];exact Nat.div_add_mod p sz'
    refine ⟨(List.range (ys.length * sz')).map (fun p=>c (p / sz') (p % sz')),Nr (by simp) (fun p hp=>?_) (fun v hv=>?_),⟨?_,fun p hp W=>?_⟩⟩
    ·simp at hp
     have:=(hm _ _ (dm p hp).1 (dm p hp).2).1
     rw [Nat.add_assoc,K] at this
     simpa using h.base.imm.m bk _ _ this
    ·simp at hv;obtain ⟨p,hp,rfl⟩:=hv;exact (hm _ _ (dm p hp).1 (dm p hp).2).2
    ·simp [yu A]
    ·simp at hp;have hi:=(dm p hp).1;have hj:=(dm p hp).2;have J:p % sz'<(AV.cells ys[p / sz']).length:=by rw [hsz' _ hi];exact hj
     have e1:(ys.flatMap AV.cells)[p]=(AV.cells ys[p / sz'])[p % sz']:=by
      have:=flat_get A (p / sz') hi (p % sz') hj
      rw [K,List.getElem?_eq_getElem W,List.getElem?_eq_getElem J] at this;exact Option.some.inj this
     rw [e1]
     simpa using hrr _ hi _ J
 ·rename_i hv;cases he;have hr:=aK (a:=a) hc h.env h.base.glob (v:=.ns) (by simp [rd,hv]);generalize a.eval x=ax at hr;cases hr;exact ⟨[],Qq sz,.nil _ _⟩
 ·rename_i hv;cases he;have hr:=aK (a:=a) hc h.env h.base.glob (v:=.se) (by simp [rd,hv]);generalize a.eval x=ax at hr
  cases hr with
  | se ad=>exact ⟨[],ad8 sz ad,.nil _ _⟩
 ·rename_i hv;cases he;have hr:=aK (a:=a) hc h.env h.base.glob (v:=.sz) (by simp [rd,hv]);generalize a.eval x=ax at hr
  cases hr with
  | sz ad c=>exact ⟨[],aiJ sz ad c,.nil _ _⟩
 ·rename_i tip t sz' S hv;cases he;rcases iQ (n:=s.length) hc h.base.glob hv with ⟨k,_,hk,hx⟩|⟨v',Y,_,_⟩
  ·rw [hx];exact Q k _ _ _ _ hk A
  ·cases Y
 ·rename_i j hv
  split at he
  ·rename_i tip t sz' S hj;cases he;rcases iQ (n:=s.length) hc h.base.glob hv with ⟨k,_,hk,hx⟩|⟨v',Y,_,_⟩
   ·have e1:Act.tm a k=Act.tm a j:=h.env.rel k _ hk;rw [hx,e1];exact Q j _ _ _ _ hj A
   ·cases Y
  ·cases he
 ·cases he
theorem kC {c:Call} {x y:Operand} {t t':TypeId} (J:o.op=.call c) (I:c.callee=.builtin .append) (p:c.args.toList=[x,y]) (A:c.argTypes.toList=[t,t']) {v:Value} {w':World}
  (h:(Builtin.append_ #[t,t'] o.type #[a.eval x,a.eval y]).run P w=.ok v w'):(execOp a.eval o).run P w=.ok (.value v) w':=by
 rw [yx (a:=a) J I];have ha:c.args.map a.eval=#[a.eval x,a.eval y]:=by apply Array.toList_inj.1;simp [p]
 have ht:c.argTypes=#[t,t']:=by apply Array.toList_inj.1;simp [A]
 rw [ha,ht];simp only [builtin];exact aU h
theorem pG {t el:TypeId} {sz:Nat} (h:sliceOf P t el sz=true):P.underlying t=some (.slice el)∧qx P el sz=true:=by
 unfold sliceOf at h
 split at h
 ·rename_i p hu;simp only [Bool.and_eq_true,beq_iff_eq] at h;rw [h.1] at hu;exact ⟨hu,h.2⟩
 ·cases h
theorem ahU {t t' ty el:TypeId} {sz:Nat} {d:TypeDesc} (a2:sliceOf P t el sz=true) (a1:P.underlying t'=some d) (hd:(∃q,d=.slice q)∨d=.string)
  (A:(P.info? el).any (fun i=>i.bytes≤65536 && i.zero.any fun z=>z.cells.size == sz)=true) (h:Sim P glob g s B w (Act.tm a) env) {ys:List AV} (Y:0<sz)
  {x:Value} {W:List Value} (hx:Src P w sz x ys.length W) (hr:aX g s.length W (ys.flatMap AV.cells)) (a0:∀y∈ys,y.cells.length=sz)
  (S:ys.length≤aS) {q:Sem Next} (hq:∀{v' w'},(Builtin.append_ #[t,t'] ty #[.slice none 0 0,x]).run P w=.ok v' w'→q.run P w=.ok (.value v') w'):
  Good P glob g s B w a q (.own false el sz ys) env s:=by
 obtain ⟨hu,Q⟩:=pG a2;obtain ⟨i,hi,O⟩:=pI Q;rw [hi] at A;simp only [Option.any_some,Bool.and_eq_true,decide_eq_true_eq] at A;obtain ⟨R,I⟩:=A
 cases hz:i.zero with
 | none=>simp [hz] at I
 | some z=>
  simp [hz] at I;obtain ⟨v',w',r1,r2,r3⟩:=Qs (ty:=ty) hu a1 hd hi hz O I (World.ownsRow_nil w B el sz) hx (by simpa using S) R h.B;rcases r3 with ⟨gb,Z,e1,_⟩|⟨J,p⟩
  ·simp [dn] at e1
  ·obtain ⟨h2,s2⟩:=h.grew J;simp only [Nat.zero_add,List.nil_append] at r2;refine ⟨v',w',g,.inl (hq r1),s2,h2,⟨fun dd _=>⟨W,by rw [upd_same];exact Rz r2,hr,hx.one,a0,Y,fun b hb=>?_⟩,fun j hj=>by simp [EV.refers] at hj,fun _ b hb=>Ef h (p b hb)⟩⟩;rw [upd_same] at hb;have K:=h.base.imm.fresh (p b hb);exact ⟨K.mm,fun j _=>K.m j,fun j _=>by simpa using K.m j⟩
theorem afB {el sz:Nat} {x y:IX} (h:Sim P glob g s B w (Act.tm a) env) (hc:aO P o.op (.app el sz x y)=true) (hr:aop glob call cx env s (.app el sz x y)=.ok e env' s'):Good P glob g s B w a (execOp a.eval o) e env' s':=by
 simp only [aO] at hc
 split at hc
 ·rename_i c W
  split at hc
  ·rename_i ts x' y' Q K
   split at hc
   ·rename_i t t' O;simp only [Bool.and_eq_true,beq_iff_eq] at hc;obtain ⟨⟨⟨⟨rfl,hx⟩,hy⟩,hsl⟩,hinf⟩:=hc;obtain ⟨hu,_⟩:=pG hsl;simp only [aop] at hr
    split at hr
    ·rename_i ys k R hk
     split at hr
     ·rename_i tip t2 a2 es Y
      split at hr
      ·rename_i A;obtain ⟨rfl,rfl,J,I,_⟩:=A;cases hr;have p:∀y∈ys,y.cells.length=sz:=fun y hy=>by simpa using List.all_eq_true.1 J y hy
       obtain ⟨Z,q1,q2⟩:=qX hy h R p;obtain ⟨S,_⟩:=OU hx h hk;exact ahT (ty:=o.type) hsl hu (.inl ⟨_,rfl⟩) hinf h Y q1 q2 p I (fun hv=>kC W Q K O (by rw [S];exact hv))
      ·cases hr
     ·cases hr
    ·rename_i ys R hk
     split at hr
     ·rename_i a1
      split at hr
      ·rename_i A;obtain ⟨a0,J,I⟩:=A;cases hr;have p:∀y∈ys,y.cells.length=sz:=fun y hy=>by simpa using List.all_eq_true.1 J y hy
       obtain ⟨Z,q1,q2⟩:=qX hy h R p
       have S:a.eval x'=.slice none 0 0:=by
        have:=aK (a:=a) hx h.env h.base.glob a1
        generalize a.eval x'=ax at this;cases this;rfl
       exact ahU (ty:=o.type) hsl hu (.inl ⟨_,rfl⟩) hinf h a0 q1 q2 p I (fun hv=>kC W Q K O (by rw [S];exact hv))
      ·cases hr
     ·cases hr
    ·cases hr
   ·cases hc
  ·cases hc
 ·cases hc
theorem Ud:∀l:Rl,(aC l).flatMap AV.cells=aC l
 | []=>rfl
 | b::l=>by
  show AV.cells (.i .u8 b.toNat)++(aC l).flatMap AV.cells=.i .u8 b.toNat::aC l;rw [Ud l];rfl
theorem afz {x:IX} (h:Sim P glob g s B w (Act.tm a) env) (hc:aO P o.op (.b2s x)=true) (hr:aop glob call cx env s (.b2s x)=.ok e env' s'):Good P glob g s B w a (execOp a.eval o) e env' s':=by
 simp only [aO] at hc
 split at hc
 ·rename_i src dst x' Y;simp only [Bool.and_eq_true] at hc;obtain ⟨⟨hx,hb⟩,hd⟩:=hc;unfold A7 at hb
  split at hb
  ·rename_i el hu
   split at hb
   ·rename_i Z;simp only [aop] at hr
    split at hr
    ·rename_i es R;obtain ⟨r,h1,rfl,rfl,rfl⟩:=yX hr
     cases hm:es.mapM byteOf with
     | none=>simp [hm] at h1
     | some l=>
      simp [hm] at h1;subst h1
      -- each element is a byte
      have a1:∀(es:List AV) (l:Rl),es.mapM byteOf=some l→∃ns:List Int,es=ns.map (AV.i .u8)∧l=ns.map fun n=>UInt8.ofNat n.toNat:=by
       intro es
       induction es with
       | nil=>intro l hl;simp at hl;subst hl;exact ⟨[],rfl,rfl⟩
       | cons e es ih=>
        intro l hl;simp only [List.mapM_cons,Option.bind_eq_bind,Option.pure_def] at hl
        cases he:byteOf e with
        | none=>simp [he] at hl
        | some b=>
         cases hr:es.mapM byteOf with
         | none=>simp [he,hr] at hl
         | some l'=>
          simp [he,hr] at hl;subst hl;obtain ⟨ns,rfl,rfl⟩:=ih l' hr;unfold byteOf at he
          split at he
          ·rename_i n;cases he;exact ⟨n::ns,rfl,rfl⟩
          ·cases he
      obtain ⟨ns,rfl,rfl⟩:=a1 es l hm;obtain ⟨W,q1,q2⟩:=qX (sz:=1) hx h R (fun y hy=>by simp at hy;obtain ⟨n,_,rfl⟩:=hy;rfl);obtain ⟨ad,cap,A⟩:=VQ hx h R
      have K:(ns.map (AV.i .u8)).flatMap AV.cells=ns.map (AV.i .u8):=by
       clear hm R q1 q2 A hr
       induction ns with
       | nil=>rfl
       | cons n ns ih=>simp only [List.map_cons,List.flatMap_cons];rw [ih];rfl
      rw [K] at q2
      have J:W=ns.map (Value.int .u8):=by
       apply List.ext_getElem
       ·have:=q2.1;simpa using this
       ·intro i h1 h2
        have:=q2.2 i h1 (by simpa using h2)
        simp only [List.getElem_map] at this ⊢;exact uz this
      refine .val h ?_ (.s _);simp only [execOp,Y];refine aU ?_;have S:(ns.map (AV.i .u8)).length=ns.length:=by simp
      rw [S] at A q1
      have O:∀(ns:List Int) (I:Rl),ns.foldl (fun r n=>r.push (UInt8.ofNat n.toNat)) (⟨I.toArray⟩:ByteArray)=⟨(I++ns.map fun n=>UInt8.ofNat n.toNat).toArray⟩:=by
       intro ns
       induction ns with
       | nil=>intro I;simp
       | cons n ns ih=>
        intro I;simp only [List.foldl_cons,List.map_cons]
        have:(⟨I.toArray⟩:ByteArray).push (UInt8.ofNat n.toNat)=⟨(I++[UInt8.ofNat n.toNat]).toArray⟩:=by
         simp [ByteArray.push]
        rw [this,ih];simp
      have Q:(convert src dst (a.eval x')).run P w=(Conv.bytesToString (a.eval x')).run P w:=by
       rw [A];simp [convert,Sem.run_bind,run_underlying hu,run_underlying (xu hd),run_underlying Z]
      rw [Q,A]
      cases ad with
      | none=>
       have a0:ns=[]:=by
        rw [A] at q1
        have:=q1.cells w rfl
        simp [Builtin.firstCells] at this;rw [J] at this
        cases ns with
        | nil=>rfl
        | cons n ns=>simp at this
       subst a0;simp [Conv.bytesToString];rfl
      | some ad=>
       have p:=q1.cells w rfl;rw [A] at p;simp only [Builtin.firstCells,Nat.mul_one] at p;rw [J] at p;rw [run_bytesToString w ad ns.length cap ns p]
       have:=O ns []
       simp only [List.nil_append] at this;rw [←this];rfl
    ·cases hr
   ·cases hb
  ·cases hb
 ·cases hc
end Go.Ai
namespace Go.Ai
variable {P:Program} {glob:Nat→Option (List AV)} {g:ai} {s:St} {B:Nat} {w:World} {env:Env} {a:Act} {o:Oper} {call:AV→List AV→St→Ctx→CO} {cx:Ctx} {e:EV} {env':Env} {s':St}
def ai.grown (g:ai) (l k:Nat) (v:Value) (b:Nat) (zs:List Value):ai:=
 { (g.claim b zs) with hist:=fun l'=>if l'=l then fun j=>if j=k then some v else g.hist l j else g.hist l' }
theorem AU {w:World} {t sz k:Nat} {v:Value} {zs:List Value} {nb:Nat} (h:w.ownsRow 0 t sz v k zs) (hb:dn v=some nb):
  ∃cap cur,v=.slice (some ⟨nb,0,none⟩) k cap∧k≤cap∧w.heap[nb]?=some (.cells cur t (0,0))∧∀j (hj:j<zs.length),cur[j]?=some zs[j]:=by
 rcases h.2 with ⟨hv,_⟩|⟨gb,cap,cur,hv,_,hg,x,_,_,p⟩
 ·rw [hv] at hb;simp [dn] at hb
 ·rw [hv] at hb;simp [dn] at hb;subst hb;refine ⟨cap,cur,hv,x,hg,fun j hj=>?_⟩
  have:=List.getElem?_eq_getElem hj
  rw [←this,←p,List.getElem?_take,if_pos (by rw [←h.1];exact hj)];simp
theorem WE (h:Base P glob g s w) {w':World} {l t sz k':Nat} {v':Value} {zs:List Value} {nb:Nat} (O:w'.ownsRow 0 t sz v' k' zs) (hb:dn v'=some nb)
  (A:∀b,b<w.heap.size→b≠nb→w'.heap[b]?=w.heap[b]?) (R:∀o v,g.m nb o=some v→zs[o]?=some v) (Q:g.mm nb=none):Imm (g.grown l k' v' nb zs) w':=by
 obtain ⟨cap,J,hv,K,hg,x⟩:=AU O hb;refine ⟨fun b o v hm=>?_,fun b es he=>?_⟩
 ·have I:∀o v,zs[o]?=some v→w'.cell? ⟨nb,o,none⟩=some v:=by
   intro o v hz;obtain ⟨ho,rfl⟩:=List.getElem?_eq_some_iff.1 hz;rw [cell_of_row w' nb o J t (0,0) hg];exact x o ho
  simp only [ai.grown,ai.claim] at hm
  split at hm
  ·rename_i hc;obtain ⟨rfl,_⟩:=hc;exact I o v hm
  ·by_cases p:b=nb
   ·subst p;exact I o v (R o v hm)
   ·rw [World.cell?_of_block (A b (cell_lt (h.imm.m b o v hm)) p)];exact h.imm.m b o v hm
 ·have p:b≠nb:=fun p=>by subst p;simp only [ai.grown,ai.claim] at he;rw [Q] at he;cases he
  exact (h.imm.mm b es he).keep (A b (h.imm.mm b es he).lt p)
theorem WC {w':World} {l t sz k':Nat} {v':Value} {zs:List Value} {nb:Nat} (J:w'.ownsRow 0 t sz v' k' zs) (hb:dn v'=some nb) (I:fC zs) (A:0<sz∧0<k')
  (x:∀k,k'<k→g.hist l k=none) (O:∀o v,g.m nb o=some v→zs[o]?=some v) (K:g.mm nb=none):agt (g.grown l k' v' nb zs) w' l t sz k':=by
 refine ⟨v',zs,by simp [ai.grown],fun k hk=>?_,J,I,A,fun b p=>?_⟩
 ·simp only [ai.grown,if_true];rw [if_neg (by omega)];exact x k hk
 ·rw [hb] at p;cases p;refine ⟨K,fun j hj=>?_,fun j hj=>by simp [ai.grown,ai.claim,hj]⟩;simp only [ai.grown,ai.claim,true_and];rw [if_neg (by omega)]
  cases hm:g.m nb j with
  | none=>rfl
  | some v=>have:=O j v hm;rw [List.getElem?_eq_none hj] at this;cases this
theorem afk {l k k':Nat} {v':Value} {zs:List Value} {nb n n':Nat} (x:g.hist l k'=none) (A:∀o v,g.m nb o=some v→zs[o]?=some v) (hn:n≤n'):g.le n (g.grown l k' v' nb zs) n':=by
 refine ⟨fun b o v hm=>?_,fun _ _ h=>h,fun _ _=>rfl,fun l' _ j v hj=>?_,hn⟩
 ·simp only [ai.grown,ai.claim];split
  ·rename_i hc;obtain ⟨rfl,_⟩:=hc;exact A o v hm
  ·exact hm
 ·simp only [ai.grown];split
  ·rename_i hl;subst hl;show (if j=k' then some v' else g.hist l' j)=some v;rw [if_neg (fun p=>by subst p;rw [x] at hj;cases hj)];exact hj
  ·exact hj
theorem aej {tm:Nat→Value} (h:Sim P glob g s B w tm env) {l t sz k k':Nat} (hl:s[l]?=some (.row t sz k)) {w':World} {v':Value} {zs:List Value} (R:w'.ownsRow 0 t sz v' k' zs) (hk:k<k')
  (a9:fC zs) {nb:Nat} (hb:dn v'=some nb) (a4:g.bl l nb∨w.heap.size≤nb) (Q:w.heap.size≤w'.heap.size) (O:∀b,b<w.heap.size→b≠nb→w'.heap[b]?=w.heap[b]?)
  (b2:w'.os=w.os∧w'.output=w.output∧(True→TD w w')) (a6:∀o v,g.m nb o=some v→zs[o]?=some v) (a7:g.mm nb=none):
  Step True g s.length B w (g.grown l k' v' nb zs) s.length w'∧Sim P glob (g.grown l k' v' nb zs) (s.set l (.row t sz k')) B w' tm env∧g.le s.length (g.grown l k' v' nb zs) s.length:=by
 have K:l<s.length:=(List.getElem?_eq_some_iff.1 hl).1;obtain ⟨v,xs,h1,h2,h3,h4,h5,h6⟩:=h.base.heap.obj l _ hl;have J:g.le s.length (g.grown l k' v' nb zs) s.length:=afk (k:=k) (h2 k' hk) a6 (Nat.le_refl _);have Y:∀b,b≠nb→(g.grown l k' v' nb zs).m b=g.m b:=fun b hb=>by funext j;simp [ai.grown,ai.claim,hb]
 have a0:∀b,(g.grown l k' v' nb zs).bl l b→g.bl l b∨w.heap.size≤b:=by
  rintro b (p | ⟨j,u,hj,hu⟩)
  ·exact .inl (.inl p)
  ·simp only [ai.grown,if_true] at hj
   split at hj
   ·cases hj;rw [hb] at hu;cases hu;exact a4
   ·exact .inl (.inr ⟨j,u,hj,hu⟩)
 have a3:∀b,(g.grown l k' v' nb zs).taken s.length b→g.taken s.length b∨w.heap.size≤b:=by
  rintro b ⟨l',Z,p⟩;by_cases e:l'=l
  ·subst e;rcases a0 b p with p | p
   ·exact .inl ⟨l',Z,p⟩
   ·exact .inr p
  ·rcases p with p | ⟨j,u,hj,hu⟩
   ·exact .inl ⟨l',Z,.inl p⟩
   ·simp only [ai.grown,if_neg e] at hj;exact .inl ⟨l',Z,.inr ⟨j,u,hj,hu⟩⟩
 have W:∀b,b<w.heap.size→¬g.taken s.length b→b≠nb:=fun b I hn S=>by
  subst S;rcases a4 with h' | h'
  ·exact hn ⟨l,K,h'⟩
  ·omega
 have hB:=h.B;obtain ⟨cap,b1,hv,b0,hg,a8⟩:=AU R hb;have a2:nb<w'.heap.size:=(Array.getElem?_eq_some_iff.1 hg).1;refine ⟨⟨J,Q,fun b p hn=>O b (by omega) (W b (by omega) hn),fun b p hn=>Y b (W b (by omega) hn),fun _ _=>rfl,fun b p=>?_,b2⟩,⟨⟨WE h.base R hb O a6 a7, ?_,h.base.glob.mono J⟩, ?_,by omega⟩,J⟩
 ·rcases a3 b p with h' | h'
  ·exact .inl h'
  ·exact .inr (by omega)
 ·refine h.base.heap.setAt K J (fun l' _ A=>by simp [ai.grown,A]) a0 (fun b p=>?_) Q (fun b I a1=>?_) (WC R hb a9 ⟨h5.1,by omega⟩ (fun j hj=>h2 j (by omega)) a6 a7)
  ·rcases a0 b p with h' | h'
   ·exact Nat.lt_of_lt_of_le (h.base.heap.lt l b K h') Q
   ·rcases p with p | ⟨j,u,hj,hu⟩
    ·have:b<w.heap.size:=h.base.heap.lt l b K (.inl p);omega
    ·simp only [ai.grown,if_true] at hj
     split at hj
     ·cases hj;rw [hb] at hu;cases hu;exact a2
     ·have:b<w.heap.size:=h.base.heap.lt l b K (.inr ⟨j,u,hj,hu⟩);omega
  ·have A:b≠nb:=fun S=>by
    subst S;rcases a4 with h' | h'
    ·exact a1 h'
    ·omega
   exact ⟨O b I A,Y b A,rfl⟩
 ·simp only [List.length_set];refine h.env.next J (fun j x hj hx b a5=>?_);have I:=Bl h.env hj hx a5;have A:=W b I (h.env.off j x hj hx b a5);refine ⟨O b I A,Y b A,rfl,fun ht=>?_⟩;rcases a3 b ht with h' | h'
  ·exact h'
  ·omega
theorem WG {n b len cap sz:Nat} {es:List AV} {xs:List Value} (h:Rep g n (.slice (some ⟨b,0,none⟩) len cap) (.sl es)) (J:∀e∈es,e.cells.length=sz) (x:xs.length=es.length * sz)
  (hm:∀j (h:j<xs.length),g.m b j=some xs[j]):aX g n xs (es.flatMap AV.cells):=by
 refine ⟨by rw [x,yu J],fun p hp A=>?_⟩;generalize hq:Value.slice (some ⟨b,0,none⟩) len cap=q at h
 cases h with
 | slNil=>cases hq
 | slE=>simp at A
 | sl _ _ _ sz' _ c hc hsz' hmm hr=>
  cases hq;have P:es≠[]:=fun he=>by subst he;simp at A
  have h0:0<es.length:=List.length_pos_iff.2 P;have O:sz'=sz:=by rw [←hsz' 0 h0];exact J _ (List.getElem_mem h0)
  subst O
  have K:0<sz':=by
   rcases Nat.eq_zero_or_pos sz' with h0|h0
   ·rw [h0] at x;simp at x;rw [x] at hp;simp at hp
   ·exact h0
  rw [x] at hp;have hi:p / sz'<es.length:=Nat.div_lt_of_lt_mul (by rw [Nat.mul_comm];exact hp);have hj:p % sz'<sz':=Nat.mod_lt _ K;have dm:p / sz' * sz'+p % sz'=p:=by rw [Nat.mul_comm];exact Nat.div_add_mod p sz'
  have e1:=(hmm _ _ hi hj).1;rw [Nat.zero_add,dm,hm p (by omega)] at e1;have I:p % sz'<(AV.cells es[p / sz']).length:=by rw [hsz' _ hi];exact hj
  have e2:(es.flatMap AV.cells)[p]=(AV.cells es[p / sz'])[p % sz']:=by
   have:=flat_get J (p / sz') hi (p % sz') hj
   rw [dm,List.getElem?_eq_getElem A,List.getElem?_eq_getElem I] at this;exact Option.some.inj this
  rw [e2,Option.some.inj e1];exact hr _ hi _ I
theorem aeh {t ty el:TypeId} {i:TypeInfo} {z:Value} {sz m:Nat} {ad:Addr} {Q:List Value} {x:Value} (ht:P.underlying t=some (.slice el))
  (hi:P.info? el=some i) (hz:i.zero=some z) (S:i.size=sz) (R:z.cells.size=sz) (Y:0<m) (hx:Src P w sz x m Q) (O:m≤aS) (W:i.bytes≤65536):
  ∃v' w',(Builtin.append_ #[t,t] ty #[.slice (some ad) 0 0,x]).run P w=.ok v' w'∧w'.ownsRow 0 el sz v' m Q∧Grew True w w'∧∀b,dn v'=some b→w.heap.size≤b:=by
 subst S;have p:m≤1073741824:=O;have I:=grownCap_ge w m 0 el
 have A:¬(281474976710656<Builtin.nextslicecap m 0 * i.bytes):=by
  have h1:=nextslicecap_le (show 0<m by omega);have h2:Builtin.nextslicecap m 0 * i.bytes≤2147483648 * 65536:=Nat.mul_le_mul (by omega) W;omega
 have J:¬(9223372036854775807<(m:Int)):=by omega
 have hm:m≠0:=by omega
 have K:(Builtin.firstCells i.size 0 (.slice (some ad) 0 0)).run P w.drew=.ok #[] w.drew:=by
  simpa [Builtin.firstCells] using run_loadCells_list (P:=P) w.drew ad [] (fun j v hv=>by simp at hv)
 refine ⟨.slice (some ⟨w.heap.size,0,none⟩) m (grownCap w m 0 el),w.drew.alloc (.cells (Q.toArray++Builtin.zeroCells z.cells (grownCap w m 0 el - m)) el), ?_,⟨hx.size,.inr ⟨w.heap.size,_,_,rfl,Nat.zero_le _,heap_alloc_new w.drew _,I,grownCap_le_maxLen w _ _ _ (by simp only [maxLen];omega), ?_, ?_⟩⟩,⟨show w.heap.size≤(w.heap.push _).size by simp,fun b hb=>heap_alloc_old w.drew _ b hb,rfl,rfl,fun _=>⟨rfl,Nat.le_succ _⟩⟩,fun b hb=>by simp [dn] at hb;omega⟩
 ·simp [Builtin.append_,run_underlying ht,sizeOf,typeInfo,zeroValue,hi,hz,hx.len,hm,J,A,Question.forced,K,hx.cells w.drew rfl,newRow,grownCap]
 ·simp only [Array.size_append,List.size_toArray,size_zeroCells,R];rw [hx.size,←Nat.add_mul]
  congr 1;omega
 ·rw [←hx.size];simp only [Array.toList_append];rw [List.take_left'];rfl
theorem VF {el sz:Nat} {x y:IX} (h:Sim P glob g s B w (Act.tm a) env) (hc:aO P o.op (.appr el sz x y)=true) (hr:aop glob call cx env s (.appr el sz x y)=.ok e env' s'):Good P glob g s B w a (execOp a.eval o) e env' s':=by
 simp only [aO] at hc
 split at hc
 ·rename_i c c3
  split at hc
  ·rename_i ts x' y' b2 a4
   split at hc
   ·rename_i t t' a6;simp only [Bool.and_eq_true,beq_iff_eq] at hc;obtain ⟨⟨⟨⟨rfl,hx⟩,hy⟩,hsl⟩,hinf⟩:=hc;obtain ⟨hu,d1⟩:=pG hsl;obtain ⟨i,hi,b5⟩:=pI d1;rw [hi] at hinf;simp only [Option.any_some,Bool.and_eq_true,decide_eq_true_eq] at hinf;obtain ⟨c5,a9⟩:=hinf
    cases hz:i.zero with
    | none=>simp [hz] at a9
    | some z=>
    simp [hz] at a9;simp only [aop] at hr
    split at hr
    ·-- a new row
     rename_i ys b1 b4
     split at hr
     ·rename_i O;obtain ⟨a5,a0,W,Y⟩:=O;cases hr;have A:∀y∈ys,y.cells.length=sz:=fun y hy=>by simpa using List.all_eq_true.1 W y hy
      obtain ⟨K,q1,q2⟩:=qX hy h b1 A
      have a8:a.eval x'=.slice none 0 0:=by
       have:=oh (a:=a) hx h.env h.base.glob b4
       generalize a.eval x'=ax at this;cases this;rfl
      obtain ⟨v',w',r1,r2,r3⟩:=Qs (ty:=o.type) (B:=0) hu hu (.inl ⟨_,rfl⟩) hi hz b5 a9 (World.ownsRow_nil w 0 el sz) q1 (by simpa using Y) c5 (Nat.zero_le _);simp only [Nat.zero_add,List.nil_append] at r2;have a1:(execOp a.eval o).run P w=.ok (.value v') w':=kC c3 b2 a4 a6 (by rw [a8];exact r1);rcases r3 with ⟨gb,Z,e1,_⟩|⟨p,J⟩
      ·simp [dn] at e1
      ·have a7:∃nb,dn v'=some nb:=by
        rcases r2.2 with ⟨hv,hn⟩|⟨gb,cap,Z,hv,_⟩
        ·omega
        ·exact ⟨gb,by simp [hv,dn]⟩
       obtain ⟨nb,I⟩:=a7;have S:=J nb I;have Q:=h.base.imm.fresh S;obtain ⟨cap,Z,hv,R,hg,b8⟩:=AU r2 I
       let g0:ai:=g.place s.length nb
       let g':ai:=g0.grown s.length ys.length v' nb K
       have a2:∀o v,g.m nb o=some v→K[o]?=some v:=fun o v hv=>by rw [Q.m o] at hv;cases hv
       have a3:g.le s.length g' (s.length+1):=by
        refine ⟨fun b o v hm=>?_,fun _ _ h=>h,fun l hl=>by simp [g',g0,ai.grown,ai.claim,ai.place];omega,fun l hl k v hk=>?_,by omega⟩
        ·simp only [g',ai.grown,ai.claim];split
         ·rename_i hc;obtain ⟨rfl,_⟩:=hc;exact a2 o v hm
         ·exact hm
        ·have:l≠s.length:=by omega
         simp only [g',g0,ai.grown,ai.place,if_neg this];exact hk
       have hp:=h.push (g':=g') (ob:=.row el sz ys.length) p a3 (fun l hl=>?_) (fun b hb=>?_) (fun b hb=>?_) ?_ ?_
       ·obtain ⟨st,sm⟩:=hp;refine ⟨v',w',g',.inl a1,st,sm,.v ?_⟩;refine .st s.length v' ys (by simp) (by simp [g',ai.grown]) ?_;rw [hv];refine F9 R A (q2.mono (a3.trans ⟨fun _ _ _ h=>h,fun _ _ h=>h,fun _ _=>rfl,fun _ _ _ _ h=>h,by simp⟩)) q1.one (fun j hj=>?_);simp [g',ai.grown,ai.claim,hj]
       ·have:l≠s.length:=by omega
        funext k;simp [g',g0,ai.grown,ai.place,this]
       ·have c6:b≠nb:=by omega
        exact ⟨by funext j;simp [g',g0,ai.grown,ai.claim,ai.place,c6],rfl⟩
       ·have:b=nb:=by
         rcases hb with hb|⟨k,v,hk,b6⟩
         ·simp [g',g0,ai.grown,ai.claim,ai.place] at hb;exact hb.symm
         ·simp only [g',g0,ai.grown,ai.place,if_true] at hk
          split at hk
          ·cases hk;rw [I] at b6;cases b6;rfl
          ·cases hk
        subst this;exact ⟨S,(Array.getElem?_eq_some_iff.1 hg).1⟩
       ·have:=WE (g:=g) (l:=s.length) (k':=ys.length) h.base r2 I (fun b hb _=>p.old b hb) a2 Q.mm
        exact ⟨this.m,this.mm⟩
       ·exact WC (g:=g0) r2 I q1.one ⟨a5,a0⟩ (fun k hk=>by simp [g0,ai.place]) a2 Q.mm
     ·cases hr
    ·-- a new row,behind an empty slice
     rename_i ys b1 b4
     split at hr
     ·rename_i O;obtain ⟨a5,a0,W,Y⟩:=O;cases hr;have A:∀y∈ys,y.cells.length=sz:=fun y hy=>by simpa using List.all_eq_true.1 W y hy
      obtain ⟨K,q1,q2⟩:=qX hy h b1 A
      have a8:∃ad,a.eval x'=.slice (some ad) 0 0:=by
       have:=oh (a:=a) hx h.env h.base.glob b4
       generalize a.eval x'=ax at this;cases this;exact ⟨_,rfl⟩
      obtain ⟨ad,a8⟩:=a8;obtain ⟨v',w',r1,r2,p,J⟩:=aeh (ty:=o.type) (ad:=ad) hu hi hz b5 a9 a0 q1 Y c5;have a1:(execOp a.eval o).run P w=.ok (.value v') w':=kC c3 b2 a4 a6 (by rw [a8];exact r1)
      have a7:∃nb,dn v'=some nb:=by
       rcases r2.2 with ⟨hv,hn⟩|⟨gb,cap,Z,hv,_⟩
       ·omega
       ·exact ⟨gb,by simp [hv,dn]⟩
      obtain ⟨nb,I⟩:=a7;have S:=J nb I;have Q:=h.base.imm.fresh S;obtain ⟨cap,Z,hv,R,hg,b8⟩:=AU r2 I
      let g0:ai:=g.place s.length nb
      let g':ai:=g0.grown s.length ys.length v' nb K
      have a2:∀o v,g.m nb o=some v→K[o]?=some v:=fun o v hv=>by rw [Q.m o] at hv;cases hv
      have a3:g.le s.length g' (s.length+1):=by
       refine ⟨fun b o v hm=>?_,fun _ _ h=>h,fun l hl=>by simp [g',g0,ai.grown,ai.claim,ai.place];omega,fun l hl k v hk=>?_,by omega⟩
       ·simp only [g',ai.grown,ai.claim];split
        ·rename_i hc;obtain ⟨rfl,_⟩:=hc;exact a2 o v hm
        ·exact hm
       ·have:l≠s.length:=by omega
        simp only [g',g0,ai.grown,ai.place,if_neg this];exact hk
      have hp:=h.push (g':=g') (ob:=.row el sz ys.length) p a3 (fun l hl=>?_) (fun b hb=>?_) (fun b hb=>?_) ?_ ?_
      ·obtain ⟨st,sm⟩:=hp;refine ⟨v',w',g',.inl a1,st,sm,.v ?_⟩;refine .st s.length v' ys (by simp) (by simp [g',ai.grown]) ?_;rw [hv];refine F9 R A (q2.mono (a3.trans ⟨fun _ _ _ h=>h,fun _ _ h=>h,fun _ _=>rfl,fun _ _ _ _ h=>h,by simp⟩)) q1.one (fun j hj=>?_);simp [g',ai.grown,ai.claim,hj]
      ·have:l≠s.length:=by omega
       funext k;simp [g',g0,ai.grown,ai.place,this]
      ·have c6:b≠nb:=by omega
       exact ⟨by funext j;simp [g',g0,ai.grown,ai.claim,ai.place,c6],rfl⟩
      ·have:b=nb:=by
        rcases hb with hb|⟨k,v,hk,b6⟩
        ·simp [g',g0,ai.grown,ai.claim,ai.place] at hb;exact hb.symm
        ·simp only [g',g0,ai.grown,ai.place,if_true] at hk
         split at hk
         ·cases hk;rw [I] at b6;cases b6;rfl
         ·cases hk
       subst this;exact ⟨S,(Array.getElem?_eq_some_iff.1 hg).1⟩
      ·have:=WE (g:=g) (l:=s.length) (k':=ys.length) h.base r2 I (fun b hb _=>p.old b hb) a2 Q.mm
       exact ⟨this.m,this.mm⟩
      ·exact WC (g:=g0) r2 I q1.one ⟨a5,a0⟩ (fun k hk=>by simp [g0,ai.place]) a2 Q.mm
     ·cases hr
    ·-- a row that is there
     rename_i ys l es b1 b4
     split at hr
     ·rename_i t2 d7 k hl
      split at hr
      ·rename_i O;obtain ⟨rfl,rfl,rfl,a5,a0,W,c4,Y,_⟩:=O;cases hr;have A:∀y∈ys,y.cells.length=sz:=fun y hy=>by simpa using List.all_eq_true.1 W y hy
       have b0:∀y∈es,y.cells.length=sz:=fun y hy=>by simpa using List.all_eq_true.1 c4 y hy
       obtain ⟨K,q1,q2⟩:=qX hy h b1 A;have d2:l<s.length:=(List.getElem?_eq_some_iff.1 hl).1;obtain ⟨v,xs,p1,p2,p3,p4,p5,p6⟩:=h.base.heap.obj l _ hl;have c0:=oh (a:=a) hx h.env h.base.glob b4
       obtain ⟨c8,b9⟩:a.eval x'=v∧Rep g s.length v (.sl es):=by
        generalize a.eval x'=ax at c0
        cases c0 with
        | st _ _ _ _ hh hr=>rw [p1] at hh;cases hh;exact ⟨rfl,hr⟩
       have a7:∃gb,dn v=some gb:=by
        rcases p3.2 with ⟨hv,hn⟩|⟨gb,cap,Z,hv,_⟩
        ·omega
        ·exact ⟨gb,by simp [hv,dn]⟩
       obtain ⟨gb,b7⟩:=a7;obtain ⟨m1,m2,m3⟩:=p6 gb b7;obtain ⟨d5,d6,d3,d4,d8,d0⟩:=AU p3 b7
       have c9:aX g s.length xs (es.flatMap AV.cells):=by
        rw [d3] at b9;exact WG b9 b0 p3.1 m3
       obtain ⟨v',w',r1,r2,r3⟩:=Qs (ty:=o.type) (B:=0) hu hu (.inl ⟨_,rfl⟩) hi hz b5 a9 p3 q1 Y c5 (Nat.zero_le _);have a1:(execOp a.eval o).run P w=.ok (.value v') w':=kC c3 b2 a4 a6 (by rw [c8];exact r1);have c1:fC (xs++K):=fun u hu=>(List.mem_append.1 hu).elim (p4 u) (q1.one u)
       have c7:∃nb,dn v'=some nb:=by
        rcases r2.2 with ⟨hv,hn⟩|⟨gb,cap,Z,hv,_⟩
        ·omega
        ·exact ⟨gb,by simp [hv,dn]⟩
       obtain ⟨nb,I⟩:=c7
       have c2:(g.bl l nb∨w.heap.size≤nb)→w.heap.size≤w'.heap.size→(∀b,b<w.heap.size→b≠nb→w'.heap[b]?=w.heap[b]?)→(w'.os=w.os∧w'.output=w.output∧(True→TD w w'))→(∀o v,g.m nb o=some v→(xs++K)[o]?=some v)→g.mm nb=none→
         Good P glob g s B w a (execOp a.eval o) (.v (.st l (es++ys))) env (s.set l (.row el sz (es.length+ys.length))):=by
        intro f1 f2 f3 f4 f5 f6;obtain ⟨st,sm,a3⟩:=aej h hl r2 (by omega) c1 I f1 f2 f3 f4 f5 f6;obtain ⟨cap,Z,hv,R,hg,b8⟩:=AU r2 I;refine ⟨v',w',_,.inl a1,by simpa using st,sm,.v ?_⟩;simp only [List.length_set];refine .st l v' (es++ys) d2 (by simp [ai.grown]) ?_;have b3:(es++ys).length=es.length+ys.length:=List.length_append;rw [←b3] at R
        suffices hs:Rep (g.grown l (es.length+ys.length) v' nb (xs++K)) s.length (.slice (some ⟨nb,0,none⟩) (es++ys).length cap) (.sl (es++ys)) by
         rw [b3,←hv] at hs;exact hs
        refine F9 R (fun e he=>(List.mem_append.1 he).elim (b0 e) (A e)) ?_ c1 (fun j hj=>?_)
        ·rw [List.flatMap_append];exact (c9.append q2).mono a3
        ·simp only [Nat.zero_add,ai.grown,ai.claim,true_and];rw [if_pos hj,List.getElem?_eq_getElem hj]
       rcases r3 with ⟨d9,Z,e1,e2,e3,rfl,e5,e6⟩|⟨p,J⟩
       ·rw [b7] at e1;cases e1;rw [I] at e2;cases e2;refine c2 (.inl (.inr ⟨_,v,p1,b7⟩)) (by simp) (fun b _ hb=>aW _ hb) ⟨rfl,rfl,fun _=>⟨rfl,Nat.le_refl _⟩⟩ (fun o u hu=>?_) m1;by_cases ho:o<xs.length
        ·rw [m3 o ho] at hu;cases hu;rw [List.getElem?_append_left ho,List.getElem?_eq_getElem ho]
        ·rw [m2 o (by omega)] at hu;cases hu
       ·have hf:=J nb I;have Q:=h.base.imm.fresh hf;exact c2 (.inr hf) p.size (fun b hb _=>p.old b hb) p.io (fun o u hu=>by rw [Q.m o] at hu;cases hu) Q.mm
      ·cases hr
     ·cases hr
    ·cases hr
   ·cases hc
  ·cases hc
 ·cases hc
end Go.Ai
namespace Go.Ai
variable {P:Program} {glob:Nat→Option (List AV)} {g:ai} {s:St} {B:Nat} {w:World} {env:Env} {a:Act} {o:Oper} {call:AV→List AV→St→Ctx→CO} {cx:Ctx} {e:EV} {env':Env} {s':St}
theorem foldl_set:∀(vs:List Value) (k off:Nat) (x:Array Value),off+k+vs.length≤x.size→
  ((vs.zipIdx k).foldl (fun cs p=>cs.setIfInBounds (off+p.2) p.1) x).toList=x.toList.take (off+k)++vs++x.toList.drop (off+k+vs.length)
 | [],k,off,x,_=>by simp
 | v::vs,k,off,x,h=>by
  simp only [List.length_cons] at h;simp only [List.zipIdx_cons,List.foldl_cons];rw [foldl_set vs (k+1) off _ (by simp;omega)];simp only [Array.toList_setIfInBounds,List.length_cons];apply List.ext_getElem?;intro j;simp only [List.getElem?_append,List.getElem?_take,List.getElem?_drop,List.getElem?_set,List.length_append,List.length_take,List.length_set,Array.length_toList,List.length_cons];by_cases h1:j<off+k
  ·simp only [show j<min (off+(k+1)) x.size by omega,show j<min (off+k) x.size by omega,show j<min (off+(k+1)) x.size+vs.length by omega,show j<min (off+k) x.size+(vs.length+1) by omega,show j<off+(k+1) by omega,h1,if_true,show ¬off+k=j by omega,if_false]
  ·by_cases h2:j=off+k
   ·subst h2;simp only [show off+k<min (off+(k+1)) x.size by omega,show ¬off+k<min (off+k) x.size by omega,show off+k<min (off+(k+1)) x.size+vs.length by omega,show off+k<min (off+k) x.size+(vs.length+1) by omega,show off+k<off+(k+1) by omega,if_true,if_false,show off+k<x.size by omega,show off+k - min (off+k) x.size=0 by omega,List.getElem?_cons_zero]
   ·by_cases h3:j<off+k+1+vs.length
    ·simp only [show ¬j<min (off+(k+1)) x.size by omega,show ¬j<min (off+k) x.size by omega,show j<min (off+(k+1)) x.size+vs.length by omega,show j<min (off+k) x.size+(vs.length+1) by omega,if_true,if_false];rw [show j - min (off+k) x.size=(j - min (off+(k+1)) x.size)+1 by omega,List.getElem?_cons_succ]
    ·simp only [show ¬j<min (off+(k+1)) x.size+vs.length by omega,show ¬j<min (off+k) x.size+(vs.length+1) by omega,if_false];rw [if_neg (by omega)]
     congr 1;omega
theorem adx {place:Nat→Option (Nat×Nat)} {cells:Array Value} {i off size:Nat} {v:Value} {r:List (Nat×Value)} (hp:place i=some (off,size)) (hs:v.cells.size=size) (p:off+size≤cells.size):
  Instr.fill place cells ((i,v)::r)=Instr.fill place (cells.toList.take off++v.cells.toList++cells.toList.drop (off+v.cells.toList.length)).toArray r:=by
 have h1:¬(v.cells.size≠size || off+v.cells.size > cells.size)=true:=by simp;omega
 simp only [Instr.fill,hp];rw [if_neg h1]
 congr 1
 apply Array.ext'
 have:=foldl_set v.cells.toList 0 off cells (by simp;omega)
 simp only [Nat.add_zero] at this;rw [←this];rw [←Array.foldl_toList,Array.toList_zipIdx]
theorem EY {place:Nat→Option (Nat×Nat)}:∀(qs:List (Nat×Value)) (vs:List AV) (ps:List (Nat×Nat)) (cells:Array Value) (cs:List AV) {n:Nat} {cs':List AV},qs.length=ps.length→vs.length=ps.length→
  (∀i (h:i<qs.length) (h':i<ps.length),place qs[i].1=some ps[i])→
  aX g n (qs.map (·.2)) vs→(∀i (h:i<vs.length) (h':i<ps.length),vs[i].cells.length=ps[i].2∧vs[i].cells.all AV.one=true)→aX g n cells.toList cs→fC cells.toList→
  dU cs ((ps.zip vs).map fun p=>(p.1.1,p.2.cells))=some cs'→∃cells',Instr.fill place cells qs=some cells'∧aX g n cells'.toList cs'∧fC cells'.toList
 | [],vs,ps,cells,cs,n,cs',hl,hl',_,_,_,hc,h1,hf=>by
  have:ps=[]:=List.eq_nil_of_length_eq_zero (by simpa using hl.symm)
  subst this;simp [dU] at hf;subst hf;exact ⟨cells,rfl,hc,h1⟩
 | (i,v)::qs,vs,ps,cells,cs,n,cs',hl,hl',hp,hr,hv,hc,h1,hf=>by
  match ps,vs with
  | [],_=>simp at hl
  | _::_,[]=>simp at hl'
  | (off,sz)::ps,av::vs=>
   have K:place i=some (off,sz):=by have:=hp 0 (by simp) (by simp);simpa using this
   have I:=hv 0 (by simp) (by simp);simp only [List.getElem_cons_zero] at I;have J:Rep g n v av:=hr.head;obtain ⟨q1,q2⟩:=yU J I.2;simp only [List.zip_cons_cons,List.map_cons,dU] at hf
   split at hf
   ·rename_i P;have Q:cells.size=cs.length:=by have:=hc.1;simpa using this
    have O:v.cells.size=sz:=by have:=q1.1;simp at this;omega
    have A:=adx (r:=qs) K O (by omega:off+sz≤cells.size);rw [A];refine EY qs vs ps _ (splice cs off av.cells) (by simpa using hl) (by simpa using hl') (fun j hj x=>?_) hr.tail (fun j hj x=>?_) ?_ ?_ hf
    ·have:=hp (j+1) (by simpa using hj) (by simpa using x);simpa using this
    ·have:=hv (j+1) (by simpa using hj) (by simpa using x);simpa using this
    ·simpa using xI hc q1 off
    ·simpa using uj h1 q2 off _
   ·cases hf
theorem Jj {fs:Array Field}:∀(qs:List (Nat×Operand)) (ps:List (Nat×Nat×IX)),Ep P fs qs ps=true→
  qs.length=ps.length∧Ag (qs.map (·.2)) (ps.map (·.2.2))=true∧∀i (h:i<qs.length) (h':i<ps.length),∃f,fs[qs[i].1]?=some f∧f.offset=ps[i].1∧qx P f.type ps[i].2.1=true
 | [],[],_=>⟨rfl,rfl,fun i h=>by simp at h⟩
 | [],_::_,h=>by simp [Ep] at h
 | _::_,[],h=>by simp [Ep] at h
 | (i,x)::qs,(off,n,y)::ps,h=>by
  simp only [Ep,Bool.and_eq_true] at h;obtain ⟨⟨h1,h2⟩,h3⟩:=h;obtain ⟨q1,q2,q3⟩:=Jj qs ps h3;refine ⟨by simp [q1],by simp [Ag,h2,q2],fun j hj p=>?_⟩
  cases j with
  | zero=>
   split at h1
   ·rename_i f hf;simp only [Bool.and_eq_true,beq_iff_eq] at h1;exact ⟨f,by simpa using hf,h1.1,h1.2⟩
   ·cases h1
  | succ j=>simpa using q3 j (by simpa using hj) (by simpa using p)
theorem He {n:Nat}:∀(qs:List (Nat×Operand)) (ps:List (Nat×Nat×IX)),AZ n qs ps=true→
  qs.length=ps.length∧Ag (qs.map (·.2)) (ps.map (·.2.2))=true∧∀i (h:i<qs.length) (h':i<ps.length),qs[i].1 * n=ps[i].1∧ps[i].2.1=n
 | [],[],_=>⟨rfl,rfl,fun i h=>by simp at h⟩
 | [],_::_,h=>by simp [AZ] at h
 | _::_,[],h=>by simp [AZ] at h
 | (i,x)::qs,(off,m,y)::ps,h=>by
  simp only [AZ,Bool.and_eq_true,beq_iff_eq] at h;obtain ⟨⟨⟨h0,h1⟩,h2⟩,h3⟩:=h;obtain ⟨q1,q2,q3⟩:=He qs ps h3;refine ⟨by simp [q1],by simp [Ag,h2,q2],fun j hj p=>?_⟩
  cases j with
  | zero=>exact ⟨h0,h1⟩
  | succ j=>simpa using q3 j (by simpa using hj) (by simpa using p)
theorem Yt {fs:List Field} (h:∀f∈fs,∃i,P.info? f.type=some i):∃places,fs.mapM (fun f=>(P.info? f.type).map fun i=>(f.offset,i.size))=some places∧∀(j:Nat) f i,fs[j]?=some f→P.info? f.type=some i→places[j]?=some (f.offset,i.size):=by
 induction fs with
 | nil=>exact ⟨[],rfl,fun j f i hf=>by simp at hf⟩
 | cons f fs ih=>
  obtain ⟨i,hi⟩:=h f (by simp);obtain ⟨places,h1,h2⟩:=ih (fun f hf=>h f (by simp [hf]));refine ⟨(f.offset,i.size)::places,by simp [List.mapM_cons,hi,h1],fun j f' i' hf p=>?_⟩
  cases j with
  | zero=>simp at hf;subst hf;rw [hi] at p;cases p;rfl
  | succ j=>simpa using h2 j f' i' (by simpa using hf) p
theorem aaw {zs:List AV} {ps:List (Nat×Nat×IX)} (h:Sim P glob g s B w (Act.tm a) env) (hc:aO P o.op (.build zs ps)=true) (hr:aop glob call cx env s (.build zs ps)=.ok e env' s'):Good P glob g s B w a (execOp a.eval o) e env' s':=by
 simp only [aO] at hc
 split at hc
 ·rename_i t qs Z
  split at hc
  ·rename_i fs hu;simp only [Bool.and_eq_true] at hc;obtain ⟨⟨hz,Y⟩,x⟩:=hc;obtain ⟨p1,p2,p3⟩:=Jj _ _ x;obtain ⟨it,z,W,R,S⟩:=uO hz;simp only [aop] at hr
   split at hr
   ·rename_i vs env1 he
    split at hr
    ·rename_i K;obtain ⟨r,h1,rfl,rfl,rfl⟩:=yX hr;obtain ⟨g1,s1,m1,r1⟩:=xB p2 h he;have Q:vs.length=ps.length:=by have:=r1.1;simp only [List.length_map] at this;omega
     cases hf:dU zs ((ps.zip vs).map fun p=>(p.1.1,p.2.cells)) with
     | none=>simp [hf] at h1
     | some cs'=>
      simp [hf] at h1;subst h1;obtain ⟨z1,z2⟩:=sV S g1 s'.length
      obtain ⟨O,a3,a0⟩:=Yt (P:=P) (fs:=fs.toList) (fun f hf=>by
       have:=List.all_eq_true.1 Y f hf
       cases hq:P.info? f.type with
       | none=>simp [hq] at this
       | some i=>exact ⟨i,rfl⟩)
      have J:(((ps.map fun p=>(p.1,p.2.1)).zip vs).map fun p=>(p.1.1,p.2.cells))=(ps.zip vs).map fun p=>(p.1.1,p.2.cells):=by
       rw [List.zip_map_left,List.map_map];rfl
      obtain ⟨A,f1,f2,f3⟩:=EY (g:=g1) (place:=fun i=>O.toArray[i]?) ((qs.map fun p=>(p.1,a.eval p.2)).toList) vs (ps.map fun p=>(p.1,p.2.1)) z.cells zs (n:=s'.length) (cs':=cs') (by simp [←p1]) (by simpa using Q)
       (fun i hi I=>by
        simp at hi I;obtain ⟨f,e1,e2,e3⟩:=p3 i (by simpa using hi) I;obtain ⟨a1,e4,e5⟩:=pI e3
        have:=a0 (qs.toList[i]'(by simpa using hi)).1 f a1 (by simpa using e1) e4
        simp at this ⊢
        rw [this,e2,e5])
       (by simpa [Function.comp_def] using r1)
       (fun i hi I=>by
        have hm:((ps[i]'(by simpa using I)),vs[i])∈ps.zip vs:=by
         have:(ps.zip vs)[i]'(by simp;omega)=(ps[i]'(by simpa using I),vs[i]):=by simp
         rw [←this];exact List.getElem_mem _
        have:=List.all_eq_true.1 K _ hm
        simp only [Bool.and_eq_true,beq_iff_eq] at this
        simpa using this)
       z1 z2 (by rw [J];exact hf)
      refine ⟨.agg A,w,g1,.inl ?_,s1,m1,.v (KX f2 f3)⟩;simp only [execOp,Z];refine aU (run_build w t _ A ?_);simp only [Program.built,W,hu,R,a3];exact f1
    ·cases hr
   ·cases hr
  ·rename_i len el hu;simp only [Bool.and_eq_true] at hc;obtain ⟨hz,x⟩:=hc
   split at x
   case h_2=>cases x
   rename_i ie a2;obtain ⟨p1,p2,p3⟩:=He _ _ x;obtain ⟨it,z,W,R,S⟩:=uO hz;simp only [aop] at hr
   split at hr
   ·rename_i vs env1 he
    split at hr
    ·rename_i K;obtain ⟨r,h1,rfl,rfl,rfl⟩:=yX hr;obtain ⟨g1,s1,m1,r1⟩:=xB p2 h he;have Q:vs.length=ps.length:=by have:=r1.1;simp only [List.length_map] at this;omega
     cases hf:dU zs ((ps.zip vs).map fun p=>(p.1.1,p.2.cells)) with
     | none=>simp [hf] at h1
     | some cs'=>
      simp [hf] at h1;subst h1;obtain ⟨z1,z2⟩:=sV S g1 s'.length
      have J:(((ps.map fun p=>(p.1,p.2.1)).zip vs).map fun p=>(p.1.1,p.2.cells))=(ps.zip vs).map fun p=>(p.1.1,p.2.cells):=by
       rw [List.zip_map_left,List.map_map];rfl
      obtain ⟨A,f1,f2,f3⟩:=EY (g:=g1) (place:=fun i=>some (i * ie.size,ie.size)) ((qs.map fun p=>(p.1,a.eval p.2)).toList) vs (ps.map fun p=>(p.1,p.2.1)) z.cells zs (n:=s'.length) (cs':=cs') (by simp [←p1]) (by simpa using Q)
       (fun i hi I=>by
        simp at hi I;obtain ⟨e1,e2⟩:=p3 i (by simpa using hi) I;simp at e1 e2 ⊢
        exact ⟨e1,e2.symm⟩)
       (by simpa [Function.comp_def] using r1)
       (fun i hi I=>by
        have hm:((ps[i]'(by simpa using I)),vs[i])∈ps.zip vs:=by
         have:(ps.zip vs)[i]'(by simp;omega)=(ps[i]'(by simpa using I),vs[i]):=by simp
         rw [←this];exact List.getElem_mem _
        have:=List.all_eq_true.1 K _ hm
        simp only [Bool.and_eq_true,beq_iff_eq] at this
        simpa using this)
       z1 z2 (by rw [J];exact hf)
      refine ⟨.agg A,w,g1,.inl ?_,s1,m1,.v (KX f2 f3)⟩;simp only [execOp,Z];refine aU (run_build w t _ A ?_);simp only [Program.built,W,hu,R,a2];exact f1
    ·cases hr
   ·cases hr
  ·cases hc
 ·cases hc
end Go.Ai
namespace Go.Ai
variable {P:Program} {glob:Nat→Option (List AV)} {g:ai} {s:St} {B:Nat} {w:World} {env:Env} {a:Act} {o:Oper} {call:AV→List AV→St→Ctx→CO} {cx:Ctx} {e:EV} {env':Env} {s':St}
theorem VO {sz:Nat}:∀(vs:List AV) (k:Nat) (pre:List AV),pre.length=k * sz→(∀v∈vs,v.cells.length=sz)→
  dU (pre++List.replicate (vs.length * sz) .u) (((List.range' k vs.length).zip vs).map fun p=>(p.1 * sz,p.2.cells))=some (pre++vs.flatMap AV.cells)
 | [],k,pre,_,_=>by simp [dU]
 | v::vs,k,pre,hp,hv=>by
  have A:v.cells.length=sz:=hv v (by simp);simp only [List.length_cons,List.range'_succ,List.zip_cons_cons,List.map_cons,dU,List.flatMap_cons];rw [if_pos (by simp only [A,hp,Nat.succ_mul,List.length_append,List.length_replicate];omega)]
  have e1:splice (pre++List.replicate ((vs.length+1) * sz) .u) (k * sz) v.cells=(pre++v.cells)++List.replicate (vs.length * sz) .u:=by
   unfold splice;rw [←hp,List.take_left,A,List.drop_length_add_append];rw [show (vs.length+1) * sz=sz+vs.length * sz by rw [Nat.succ_mul];omega,List.drop_replicate]
   congr 2;omega
  rw [e1,VO vs (k+1) (pre++v.cells) (by simp [hp,A,Nat.succ_mul]) (fun x hx=>hv x (by simp [hx]))];simp [List.append_assoc]
theorem Ji:∀(qs:List (Nat×Operand)) (ps:List (Nat×IX)),Eo qs ps=true→qs.length=ps.length∧Ag (qs.map (·.2)) (ps.map (·.2))=true∧qs.map (·.1)=ps.map (·.1)
 | [],[],_=>⟨rfl,rfl,rfl⟩
 | [],_::_,h=>by simp [Eo] at h
 | _::_,[],h=>by simp [Eo] at h
 | (i,x)::qs,(j,y)::ps,h=>by
  simp only [Eo,Bool.and_eq_true,beq_iff_eq] at h;obtain ⟨⟨h1,h2⟩,h3⟩:=h;obtain ⟨q1,q2,q3⟩:=Ji qs ps h3;exact ⟨by simp [q1],by simp [Ag,h2,q2],by simp [h1,q3]⟩
theorem VU (h:Sim P glob g s B w (Act.tm a) env) {w':World} (hg:Grew True w w') {b:Nat} (hb:w.heap.size≤b) {R:Array Value} {ty:TypeId} {fr:Nat×Nat} (Q:w'.heap[b]?=some (.cells R ty fr)) (xs:List Value)
  (hx:∀j (hj:j<xs.length),R[j]?=some xs[j]):
  ∃g',Step True g s.length B w g' s.length w'∧Sim P glob g' s B w' (Act.tm a) env∧(∀j (hj:j<xs.length),g'.m b j=some xs[j]):=by
 obtain ⟨h2,s2⟩:=h.grew hg;have K:=h.base.imm.fresh hb;have J:=Ef h hb;have p:∀b',b'≠b→(g.claim b xs).m b'=g.m b':=by intro b' A;funext j;simp [ai.claim,A]
 have I:g.le s.length (g.claim b xs) s.length:=by
  refine ⟨fun b' o v hm=>?_,fun _ _ h=>h,fun _ _=>rfl,fun _ _ _ _ h=>h,Nat.le_refl _⟩;by_cases x:b'=b
  ·subst x;rw [K.m o] at hm;cases hm
  ·rw [p b' x];exact hm
 have O:Imm (g.claim b xs) w':=by
  refine ⟨fun b' o v hm=>?_,h2.base.imm.mm⟩;by_cases x:b'=b
  ·subst x;simp only [ai.claim,true_and] at hm
   split at hm
   ·rename_i ho;rw [cell_of_row _ b' o R ty fr Q,hx o ho];rw [List.getElem?_eq_getElem ho] at hm;exact hm
   ·rw [K.m o] at hm;cases hm
  ·rw [p b' x] at hm;exact h2.base.imm.m b' o v hm
 refine ⟨g.claim b xs,s2.trans ⟨I,Nat.le_refl _,fun _ _ _=>rfl,fun b' A _=>p b' (by have:=h.B;omega),fun _ _=>rfl,fun b hb=>.inl hb,rfl,rfl,fun _=>⟨rfl,Nat.le_refl _⟩⟩,
  ⟨h2.base.fix I O rfl (fun b' A=>⟨p b' (fun x=>J.2 (by subst x;exact A)),rfl⟩),h2.env.next I (fun k e hk ho b' A=>⟨rfl,p b' (fun x=>?_),rfl,fun ht=>ht⟩),h2.B⟩,fun j hj=>by simp [ai.claim,hj]⟩
 ·subst x;exact J.1 k e hk ho A
theorem afw {own:Bool} {el sz len:Nat} {zs:List AV} {ps:List (Nat×IX)} (h:Sim P glob g s B w (Act.tm a) env) (hc:aO P o.op (.bsl own el sz len zs ps)=true) (hr:aop glob call cx env s (.bsl own el sz len zs ps)=.ok e env' s'):Good P glob g s B w a (execOp a.eval o) e env' s':=by
 simp only [aO] at hc
 split at hc
 ·rename_i t n qs a7;simp only [Bool.and_eq_true,beq_iff_eq] at hc;obtain ⟨⟨⟨rfl,b3⟩,hz⟩,hslots⟩:=hc;obtain ⟨hu,a1⟩:=pG b3;obtain ⟨p1,p2,p3⟩:=Ji _ _ hslots;obtain ⟨it,z,a9,b1,a8⟩:=uO hz;simp only [aop] at hr
  split at hr
  ·rename_i vs env1 he
   split at hr
   ·rename_i Y;obtain ⟨b4,K,a3,b6⟩:=Y;obtain ⟨g1,s1,m1,r1⟩:=xB p2 h he;have a5:vs.length=ps.length:=by have:=r1.1;simp only [List.length_map] at this;omega
    have b0:ps.length=n:=by have:=congrArg List.length K;simpa using this
    have b7:qs.size=n:=by have:=p1;simp at this;omega
    have I:∀v∈vs,v.cells.length=sz∧v.cells.all AV.one=true:=fun v hv=>by
     have:=List.all_eq_true.1 a3 v hv
     simpa only [Bool.and_eq_true,beq_iff_eq] using this
    obtain ⟨z1,z2⟩:=sV a8 g1 s.length;have b5:z.cells.size=sz:=by have:=z1.1;simp at this;omega
    -- the cells before they are filled
    let zero:Array Value:=if n * sz=0 then #[] else z.cells
    let Hl:Array Value:=(Array.range (n * sz)).map (zero[· % zero.size]!)
    have W:fC Hl.toList:=by
     intro v hv;simp [Hl] at hv;obtain ⟨j,hj,rfl⟩:=hv;have a6:¬n * sz=0:=by omega
     have Q:0<sz:=Nat.pos_of_ne_zero (fun h0=>by rw [h0] at hj;simp at hj);simp only [zero,a6,if_false];have b2:j % z.cells.size<z.cells.size:=Nat.mod_lt _ (by omega);rw [getElem!_pos z.cells _ b2];exact z2 _ (by simp)
    obtain ⟨A,f1,f2,f3⟩:=EY (g:=g1) (place:=fun i=>some (i * sz,sz)) ((qs.map fun p=>(p.1,a.eval p.2)).toList) vs ((List.range n).map fun i=>(i * sz,sz)) Hl (List.replicate (n * sz) .u) (n:=s.length) (cs':=vs.flatMap AV.cells) (by simp;omega) (by simp;omega)
     (fun i hi R=>by
      simp at hi R
      have:qs.toList[i].1=i:=by
       have e1:(qs.toList.map (·.1))[i]'(by simpa using hi)=(List.range n)[i]'(by simpa using R):=by
        simp only [p3,K]
       simpa using e1
      simp at this ⊢
      rw [this])
     (by simpa [Function.comp_def] using r1)
     (fun i hi R=>by
      have:=I vs[i] (List.getElem_mem hi)
      simpa using this)
     ⟨by simp [Hl],fun i hi R=>by simp only [List.getElem_replicate];exact .u _⟩ W
     (by
      have:=VO (sz:=sz) vs 0 [] (by simp) (fun v hv=>(I v hv).1)
      simp only [List.nil_append] at this;rw [a5,b0] at this
      have e2:(((List.range n).map fun i=>(i * sz,sz)).zip vs).map (fun p=>(p.1.1,p.2.cells))=((List.range' 0 n).zip vs).map fun p=>(p.1 * sz,p.2.cells):=by
       rw [List.zip_map_left,List.map_map,List.range_eq_range'];rfl
      rw [e2];exact this)
    have a4:(Instr.buildSlice t n (qs.map fun (i,x)=>(i,a.eval x))).run P w=.ok (.slice (some ⟨w.heap.size,0,none⟩) n n) (w.alloc (.cells A el)):=by
     have a0:¬n * sz > 2 ^ 24:=by omega
     by_cases h0:n * sz=0
     ·have J:=f1;simp only [Hl,zero,h0,if_true] at J;simp [Instr.buildSlice,Sem.run_bind,run_underlying hu,run_sizeOf a1,h0];simp [h0] at J;rw [J];simp [newRow,Sem.run_bind]
     ·have J:=f1;simp only [Hl,zero,h0,if_false] at J;simp [Instr.buildSlice,Sem.run_bind,run_underlying hu,run_sizeOf a1,h0,a0,zeroValue,typeInfo,a9,b1];simp at J;rw [J];simp [newRow,Sem.run_bind]
    have a2:(execOp a.eval o).run P w=.ok (.value (.slice (some ⟨w.heap.size,0,none⟩) n n)) (w.alloc (.cells A el)):=by
     simp only [execOp,a7];exact aU a4
    have O:vs.length=n:=by omega
    have S:A.size=n * sz:=by have:=f2.1;rw [yu (fun v hv=>(I v hv).1),O] at this;simpa using this
    cases own with
    | false=>
     simp only [Bool.false_eq_true,if_false] at hr;cases hr;obtain ⟨g2,s2,m2,c2⟩:=VU m1 (Grew.alloc (qt:=True) w (.cells A el)) (Nat.le_refl _) (heap_alloc_new w _) A.toList (fun j hj=>by simp at hj;simp [hj]);refine ⟨_,_,g2,.inl a2,s1.trans s2,m2,.v ?_⟩
     have:=F9 (g:=g2) (n:=s.length) (b:=w.heap.size) (off:=0) (cap:=n) (sz:=sz) (es:=vs) (xs:=A.toList) (by omega) (fun v hv=>(I v hv).1) (f2.mono s2.le) f3 (fun j hj=>by rw [Nat.zero_add];exact c2 j hj)
     rw [O] at this;exact this
    | true=>
     simp only [if_true] at hr
     split at hr
     ·rename_i Q;cases hr;obtain ⟨h2,s2⟩:=m1.grew (Grew.alloc (qt:=True) w (.cells A el));have Z:=m1.base.imm.fresh (Nat.le_refl w.heap.size);refine ⟨_,_,g1,.inl a2,s1.trans s2,h2,⟨fun d _=>⟨A.toList, ?_,f2,f3,fun v hv=>(I v hv).1,Q,fun b hb=>?_⟩,fun j hj=>by simp [EV.refers] at hj,fun _ b hb=>?_⟩⟩
      ·rw [upd_same];refine ⟨by simp [S,O],.inr ⟨w.heap.size,n,A,by rw [O],m1.B,.of (heap_alloc_new w _),by omega, ?_,S, ?_⟩⟩
       ·have:n≤n * sz:=Nat.le_mul_of_pos_right n Q
        simp only [maxLen];omega
       ·rw [List.take_of_length_le (by simp [S,O])]
      ·rw [upd_same] at hb;simp [dn] at hb;subst hb;exact ⟨Z.mm,fun j _=>Z.m j,fun j _=>by simpa using Z.m j⟩
      ·simp [dn] at hb;subst hb;exact Ef m1 (Nat.le_refl _)
     ·cases hr
   ·cases hr
  ·cases hr
 ·cases hc
theorem y5 {w:World} {b:Nat} {o:Obj} (h:b<w.heap.size):({ w with heap:=w.heap.setIfInBounds b o }:World).heap[b]?=some o:=by simp [h]
theorem dL {w:World} {b c:Nat} {o:Obj} (h:c≠b):({ w with heap:=w.heap.setIfInBounds b o }:World).heap[c]?=w.heap[c]?:=by
 simp [Array.getElem?_setIfInBounds,Ne.symm h]
theorem afm {x:IX} (h:Sim P glob g s B w (Act.tm a) env) (hc:aO P o.op (.s2b x)=true) (hr:aop glob call cx env s (.s2b x)=.ok e env' s'):Good P glob g s B w a (execOp a.eval o) e env' s':=by
 simp only [aO] at hc
 split at hc
 ·rename_i src dst x' Q;simp only [Bool.and_eq_true] at hc;obtain ⟨⟨hx,R⟩,hb⟩:=hc;unfold A7 at hb
  split at hb
  ·rename_i el hu
   split at hb
   ·rename_i S;simp only [aop] at hr
    split at hr
    ·rename_i l hl;cases hr;have W:=rZ (aK (a:=a) hx h.env h.base.glob hl)
     let cap:=(Question.appendCap l.length 0 el).cut (w.tape w.drawn (.appendCap l.length 0 el))
     let cells:Array Value:=(l.toArray.map fun b=>Value.int .u8 b.toNat)++Array.replicate (cap - l.length) (.int .u8 0)
     let w1:World:=w.drew.alloc (.cells cells el)
     let w':World:=w1.freeze ⟨w.heap.size,cells.size,none⟩ 1
     have Y:l.length≤cap:=by simp only [cap,Question.cut];omega
     have A:w'.heap=w1.heap.modify w.heap.size fun
       | .cells c elem (lo,hi)=>.cells c elem (if lo == hi then (cells.size,cells.size+1) else (min lo cells.size,max hi (cells.size+1)))
       | o=>o:=rfl
     have I:Grew True w w':=by
      refine ⟨?_,fun b hb=>?_,rfl,rfl,fun _=>⟨rfl,Nat.le_succ w.drawn⟩⟩
      ·rw [A,Array.size_modify];exact Nat.le_of_lt (show w.heap.size<(w.heap.push (.cells cells el)).size by simp)
      ·rw [A,Array.getElem?_modify,if_neg (by omega)];exact heap_alloc_old w.drew _ b hb
     have K:w'.heap[w.heap.size]?=some (.cells cells el (cells.size,cells.size+1)):=by
      rw [A,Array.getElem?_modify,if_pos rfl]
      have:w1.heap[w.heap.size]?=some (.cells cells el (0,0)):=heap_alloc_new w.drew _
      rw [this];simp
     have O:(convert src dst (a.eval x')).run P w=.ok (.slice (some ⟨w.heap.size,0,none⟩) l.length cap) w':=by
      rw [W]
      have p:w1.shape? w.heap.size=some (el,cells.size):=by
       have:w1.heap[w.heap.size]?=some (.cells cells el (0,0)):=heap_alloc_new w.drew _
       simp [World.shape?,this]
      have e1:(Conv.stringToBytes el ⟨l.toArray⟩).run P w=.ok (.slice (some ⟨w.heap.size,0,none⟩) l.length cap) w':=by
       unfold Conv.stringToBytes;simp only [Sem.run_bind,run_choose,Question.forced,ByteArray.size_mk'];simp only [Bool.false_eq_true,if_false,Result.andThen,List.size_toArray];simp only [newRow,Sem.run_bind,newObj,Sem.run,Result.andThen,Sem.run_pure];show Result.andThen ((markStringish ⟨w.heap.size,0,none⟩).run P w1) _=_;simp only [markStringish,Sem.run_bind,shape,Sem.run,p,Result.andThen,Sem.run_pure];simp only [freeze,Sem.run,Sem.run_pure,Result.andThen];rfl
      simp [convert,Sem.run_bind,run_underlying (xu R),run_underlying hu,run_underlying S,e1]
     obtain ⟨g2,s2,m2,c2⟩:=VU h I (Nat.le_refl _) K (l.map fun b=>Value.int .u8 b.toNat) (fun j hj=>by
      simp at hj;simp only [cells];rw [Array.getElem?_append_left (by simpa using hj)]
      simp [hj])
     refine ⟨.slice (some ⟨w.heap.size,0,none⟩) l.length cap,w',g2,.inl ?_,s2,m2,.v ?_⟩
     ·simp only [execOp,Q];exact aU O
     ·have J:(aC l).length=l.length:=by simp [aC]
      have:=F9 (g:=g2) (n:=s.length) (b:=w.heap.size) (off:=0) (cap:=cap) (sz:=1) (es:=aC l) (xs:=l.map fun b=>Value.int .u8 b.toNat) (by omega)
       (fun y hy=>by simp [aC] at hy;obtain ⟨b,_,rfl⟩:=hy;rfl)
       (by rw [Ud l];exact ⟨by simp [aC],fun i hi Z=>by simp [aC];exact .i _ _⟩) (fun v hv=>by simp at hv;obtain ⟨b,_,rfl⟩:=hv;rfl) (fun j hj=>by rw [Nat.zero_add];exact c2 j hj)
      rw [J] at this;exact this
    ·cases hr
   ·cases hb
  ·cases hb
 ·cases hc
end Go.Ai
namespace Go.Ai
variable {P:Program} {glob:Nat→Option (List AV)} {g:ai} {s:St} {B:Nat} {w:World} {env:Env} {a:Act} {call:AV→List AV→St→Ctx→CO} {cx:Ctx} {o:Oper} {e:EV} {env':Env} {s':St}
theorem Tn (w:World) (a:Addr) (n b:Nat) (h:b≠a.block):(w.freeze a n).heap[b]?=w.heap[b]?:=by
 unfold World.freeze;split
 ·rfl
 ·simp only [Array.getElem?_modify];rw [if_neg (Ne.symm h)]
theorem G8 (w:World) (a:Addr) (n:Nat):(w.freeze a n).heap.size=w.heap.size:=by
 unfold World.freeze;split<;>simp
theorem adt (w:World) (a:Addr) (n:Nat):(w.freeze a n).os=w.os∧(w.freeze a n).output=w.output∧(True→TD w (w.freeze a n)):=by
 unfold World.freeze;split<;>exact ⟨rfl,rfl,fun _=>⟨rfl,Nat.le_refl _⟩⟩
theorem YQ (w:World) (a:Addr) (n b o:Nat):(w.freeze a n).cell? ⟨b,o,none⟩=w.cell? ⟨b,o,none⟩:=by
 unfold World.freeze;split
 ·rfl
 ·unfold World.cell?;simp only [Array.getElem?_modify];by_cases h:a.block=b
  ·subst h;simp only [if_true]
   cases hh:w.heap[a.block]? with
   | none=>rfl
   | some ob=>cases ob<;>rfl
  ·rw [if_neg h]
theorem ac6 {x:IX} (h:Sim P glob g s B w (Act.tm a) env) (hc:aO P o.op (.mark x)=true) (hr:aop glob call cx env s (.mark x)=.ok e env' s'):Good P glob g s B w a (execOp a.eval o) e env' s':=by
 simp only [aO] at hc
 split at hc
 case h_2=>cases hc
 rename_i src dst x' a3;simp only [Bool.and_eq_true,beq_iff_eq] at hc;obtain ⟨⟨hx,rfl⟩,hb⟩:=hc;simp only [aop] at hr
 split at hr
 case h_2=>cases hr
 rename_i k
 split at hr
 case h_2=>cases hr
 rename_i tip t sz es hk
 split at hr
 case isFalse=>cases hr
 rename_i b4;cases hr
 have a8:a.eval x'=Act.tm a k:=by
  unfold dR at hx
  split at hx
  ·simp at hx;subst hx;rename_i hh;cases hh;rfl
  all_goals first | (rename_i hh;cases hh;done) | (cases hx;done)
 obtain ⟨g',st,A,a5⟩:=Ig h hk;have S:lk ((k,EV.own true t sz es)::env) k=some (.own true t sz es):=kY _ _ _;obtain ⟨xs,h1,h2,h3,h4,h5,h6⟩:=A.env.rel k _ S;rcases h1.2 with ⟨hv,hn⟩|⟨gb,cap,cur,hv,hB,⟨b5,hg,b3⟩,hcap,hmax,hsize,htake⟩
 ·omega
 have J:dn (Act.tm a k)=some gb:=by rw [hv];rfl
 have Y:=A.env.off k _ S rfl gb J
 let ad:Addr:=⟨gb,cur.size,none⟩
 let w':=w.freeze ad 1
 have p:∀b,b≠gb→w'.heap[b]?=w.heap[b]?:=fun b hb=>Tn w ad 1 b hb
 have R:Step True g' s.length B w g' s.length w':=by
  refine ⟨.refl _ _,by simp [w',G8],fun b hb _=>p b (by omega),fun _ _ _=>rfl,fun _ _=>rfl,fun b hb=>.inl hb,adt _ _ _⟩
 have O:∀b es,g'.mm b=some es→b≠gb:=by
  intro b es hb K;subst K;rw [(h6 b J).1] at hb;cases hb
 have W:Base P glob g' s w':=by
  refine ⟨⟨fun b o v hm=>?_,fun b es hm=>?_⟩,A.base.heap.next (.refl _ _) (fun _ _=>rfl) (by simp [w',G8]) (fun b hb=>⟨p b (fun K=>Y (K ▸ hb)),rfl,rfl⟩),A.base.glob⟩
  ·rw [YQ];exact A.base.imm.m b o v hm
  ·exact (A.base.imm.mm b es hm).keep (p b (O b es hm))
 have Q:iT g' s.length B w' (Act.tm a) ((k,.v .u)::tC env k):=by
  have hd:=A.env.dropNext k (.refl _ _) (g':=g') (n':=s.length) (w':=w') (fun k' y a4 hy a2 b b2=>by
   have a0:b≠gb:=fun K=>A.env.apart k' k y _ a4 S hy rfl a2 b b2 (K ▸ J)
   exact ⟨p b a0,rfl,rfl,fun ht=>ht⟩)
  have I:∀j,lk ((k,EV.v .u)::tC ((k,EV.own true t sz es)::env) k) j=lk ((k,.v .u)::tC env k) j:=by
   intro j;rw [jO,jO];split
   ·rfl
   ·rename_i a9;rw [wG,wG,gJ _ _ a9]
  exact ⟨fun j y hj=>hd.rel j y (by rw [I];exact hj),fun j j' y y' hj a1=>hd.apart j j' y y' (by rw [I];exact hj) (by rw [I];exact a1),fun j y hj=>hd.off j y (by rw [I];exact hj),fun j y i hj hy=>by
   obtain ⟨o',b0,b1⟩:=hd.refs j y i (by rw [I];exact hj) hy
   exact ⟨o',by rw [←I];exact b0,b1⟩⟩
 refine ⟨Act.tm a k,w',g',.inl ?_,st.trans R,⟨W,Q,by simp only [w',G8];exact h.B⟩,.v a5⟩;unfold A7 at hb
 split at hb
 case h_2=>cases hb
 rename_i el hu
 split at hb
 case h_2=>cases hb
 rename_i a6;simp only [execOp,a3]
 have Z:(convert src src (a.eval x')).run P w=.ok (Act.tm a k) w':=by
  rw [a8,hv];have a7:w.shape? gb=some (t,cur.size):=by simp [World.shape?,hg]
  simp [convert,Sem.run_bind,run_underlying hu,run_underlying a6,markStringish,a7,w',ad]
 simp only [Sem.run_bind,Z];rfl
end Go.Ai
namespace Go.Ai
def jJ (b:Nat) (s:St) (l:Nat):Prop:=
 match s[l]? with
 | some (.cells cs)=>bY b cs=true
 | some (.map es)=>wo b es=true
 | some (.loop env _ _ _ _)=>∀k a,lk env k=some (.v a)→a.under b=true
 | some (.buf _ _ _ cs)=>bY b cs=true
 | _=>True
structure Ext (cx:Ctx) (s s':St):Prop where
 len:s.length≤s'.length
 dfr:∀l:Nat,s[l]?=some gq.dfr→s'[l]?=some gq.dfr
 lim:∀l:Nat,l<cx.lim→s'[l]?=s[l]?
 base:∀b,b≤cx.base→∀l,l<b→jJ b s l→jJ b s' l
theorem Ext.refl (cx:Ctx) (s:St):Ext cx s s:=⟨Nat.le_refl _,fun _ h=>h,fun _ _=>rfl,fun _ _ _ _ h=>h⟩
theorem Ext.trans {cx:Ctx} {s s' p:St} (h:Ext cx s s') (h':Ext cx s' p):Ext cx s p:=
 ⟨Nat.le_trans h.len h'.len,fun l hl=>h'.dfr l (h.dfr l hl),fun l hl=>(h'.lim l hl).trans (h.lim l hl),fun b hb l hl hu=>h'.base b hb l hl (h.base b hb l hl hu)⟩
structure gy (cx:Ctx) (s:St):Prop where
 lim:cx.lim≤s.length
 base:cx.base≤s.length
theorem gy.ext {cx:Ctx} {s s':St} (h:gy cx s) (he:Ext cx s s'):gy cx s':=⟨Nat.le_trans h.lim he.len,Nat.le_trans h.base he.len⟩
theorem Ext.push {cx:Ctx} {s:St} (h:gy cx s) (r:List gq):Ext cx s (s++r):=by
 refine ⟨by simp,fun l hl=>?_,fun l hl=>?_,fun b hb l hl hu=>?_⟩
 ·rw [List.getElem?_append_left (List.getElem?_eq_some_iff.1 hl).1];exact hl
 ·rw [List.getElem?_append_left (by have:=h.lim;omega)]
 ·unfold jJ at hu ⊢;rw [List.getElem?_append_left (by have:=h.base;omega)];exact hu
theorem Df (b:Nat):∀(x y:List AV),bY b (x++y)=(bY b x && bY b y)
 | [],y=>by simp [bY]
 | a::x,y=>by simp [bY,Df b x y,Bool.and_assoc]
theorem dw (b:Nat):∀(x:List AV),bY b x=true ↔ ∀a∈x,a.under b=true
 | []=>by simp [bY]
 | a::x=>by simp [bY,dw b x]
theorem Bd (b:Nat):∀(x:List (AV×AV)),wo b x=true ↔ ∀p∈x,p.1.under b=true∧p.2.under b=true
 | []=>by simp [wo]
 | (a,c)::x=>by simp [wo,Bd b x]
theorem Pn (b:Nat) {a:AV} (h:a.VL=true):a.under b=true:=by cases a<;>simp_all [AV.VL,AV.under]
theorem YT (b:Nat) {a:AV} (h:a.flat2=true):a.under b=true:=by
 cases a
 case ag cs=>
  simp only [AV.flat2,List.all_eq_true] at h;simp only [AV.under,dw];exact fun a ha=>Pn b (h a ha)
 all_goals exact Pn b h
theorem EW (b:Nat) {a:AV} (h:a.flat=true):a.under b=true:=by
 cases a
 case sl es=>
  simp only [AV.flat,List.all_eq_true] at h;simp only [AV.under,dw];exact fun a ha=>YT b (h a ha)
 all_goals simp_all [AV.flat,AV.under]
theorem KO {b:Nat} {cs new:List AV} {o:Nat} (h:bY b cs=true) (h':new.all AV.flat=true):bY b (splice cs o new)=true:=by
 rw [dw] at h ⊢;intro a ha;simp only [splice,List.mem_append] at ha;rcases ha with (ha|ha)|ha
 ·exact h a (List.mem_of_mem_take ha)
 ·exact EW b (List.all_eq_true.1 h' a ha)
 ·exact h a (List.mem_of_mem_drop ha)
variable {glob:Nat→Option (List AV)} {call:AV→List AV→St→Ctx→CO} {cx:Ctx} {env env':Env} {s s':St} {e:EV}
theorem Nb (b:Nat):∀{cs:List AV},XE cs=true→bY b cs=true
 | [],_=>rfl
 | c::cs,h=>by
  cases c<;>simp [XE] at h
  simp [bY,AV.under,Nb b h]
theorem acP (b:Nat) {kk:Nat} {a:AV} (h:uN kk a=true):a.under b=true:=by
 unfold uN at h
 split at h<;>first|rfl | (simp only [Bool.and_eq_true] at h;simpa [AV.under] using Nb b h.2)|cases h
theorem RY {b kk:Nat} {k v:AV}:∀{es p:List (AV×AV)},DV kk k v es=some p→wo b es=true→k.under b=true→v.under b=true→wo b p=true
 | [],p,h,_,hk,hv=>by simp [DV] at h;subst h;simp [wo,hk,hv]
 | (k',v')::r,p,h,hu,hk,hv=>by
  simp only [wo,Bool.and_eq_true] at hu;simp only [DV] at h
  split at h
  ·cases h;simp [wo,hk,hv,hu.2]
  ·cases hm:DV kk k v r with
   | none=>rw [hm] at h;cases h
   | some r'=>
    rw [hm] at h;simp at h;subst h
    have:=RY hm hu.2 hk hv
    simp [wo,hu.1.1,hu.1.2,this]
  ·cases h
theorem Sr {b kk:Nat} {k:AV}:∀{es p:List (AV×AV)},JQ kk k es=some p→wo b es=true→wo b p=true
 | [],p,h,_=>by simp [JQ] at h;subst h;rfl
 | (k',v')::r,p,h,hu=>by
  simp only [wo,Bool.and_eq_true] at hu;simp only [JQ] at h
  split at h
  ·cases h;exact hu.2
  ·cases hm:JQ kk k r with
   | none=>rw [hm] at h;cases h
   | some r'=>
    rw [hm] at h;simp at h;subst h
    have:=Sr hm hu.2
    simp [wo,hu.1.1,hu.1.2,this]
  ·cases h
def ji (call:AV→List AV→St→Ctx→CO):Prop:=∀fv args s cx r s',gy cx s→(call fv args s cx=.ret r s'∨call fv args s cx=.pan r s')→Ext cx s s'
theorem Q5 {n:Nat} {a:IX} {v:AV} (h:uo glob cx env s n a v=some (env',s')):Ext cx s s':=by
 unfold uo at h
 split at h
 ·split at h
  ·split at h
   ·cases h;exact .refl _ _
   ·cases h
  ·split at h
   ·split at h
    ·cases h;exact .refl _ _
    ·cases h
   ·cases h
  ·split at h
   ·split at h
    ·split at h
     ·cases h;exact .refl _ _
     ·cases h
    ·cases h
   ·cases h
  ·rename_i l o _
   split at h
   ·rename_i cs hs
    split at h
    ·rename_i p;cases h;have A:l<s.length:=(List.getElem?_eq_some_iff.1 hs).1;refine ⟨by simp,fun l' hl=>?_,fun l' hl=>?_,fun b hb l' hl hu=>?_⟩
     ·by_cases hll:l=l'
      ·subst hll;rw [hs] at hl;cases hl
      ·rw [List.getElem?_set_ne hll];exact hl
     ·rw [List.getElem?_set_ne (by omega)]
     ·unfold jJ at hu ⊢;by_cases hll:l=l'
      ·subst hll;rw [hs] at hu;rw [List.getElem?_set_self A]
       have x:v.cells.all AV.flat=true:=by
        rcases p.2.1 with h1|h1
        ·omega
        ·exact h1
       exact KO hu x
      ·rw [List.getElem?_set_ne hll];exact hu
    ·cases h
   ·cases h
  ·rename_i l ver o _
   split at h
   ·rename_i t sz I cs hs
    split at h
    ·rename_i p;cases h;have A:l<s.length:=(List.getElem?_eq_some_iff.1 hs).1;refine ⟨by simp,fun l' hl=>?_,fun l' hl=>?_,fun b hb l' hl hu=>?_⟩
     ·by_cases hll:l=l'
      ·subst hll;rw [hs] at hl;cases hl
      ·rw [List.getElem?_set_ne hll];exact hl
     ·rw [List.getElem?_set_ne (by omega)]
     ·unfold jJ at hu ⊢;by_cases hll:l=l'
      ·subst hll;rw [hs] at hu;rw [List.getElem?_set_self A]
       have x:v.cells.all AV.flat=true:=by
        rcases p.2.2.1 with h1|h1
        ·omega
        ·exact h1
       exact KO hu x
      ·rw [List.getElem?_set_ne hll];exact hu
    ·cases h
   ·cases h
  ·cases h
 ·cases h
theorem F5 {b:Nat} {cs:List AV} (h:cs.all AV.flat=true):bY b cs=true:=by
 rw [dw];intro a ha;exact EW b (List.all_eq_true.1 h a ha)
theorem Fe (K:gy cx s) {t sz:Nat} {x y:IX} (h:aop glob call cx env s (.appk t sz x y)=.ok e env' s'):Ext cx s s':=by
 simp only [aop] at h
 split at h
 ·split at h
  ·cases h;exact .push K _
  ·cases h
 ·split at h
  ·cases h;exact .push K _
  ·cases h
 ·split at h
  ·rename_i _ l ver P o m _ _ _ t2 Q O cs hl
   split at h
   ·rename_i p;cases h;have J:l<s.length:=(List.getElem?_eq_some_iff.1 hl).1;refine ⟨by simp,fun l' hd=>?_,fun l' A=>?_,fun b hb l' A hu=>?_⟩
    ·rw [List.getElem?_set_ne (fun he=>by subst he;rw [hl] at hd;cases hd)];exact hd
    ·rw [List.getElem?_set_ne (by omega)]
    ·by_cases hll:l=l'
     ·subst hll;unfold jJ at hu ⊢;rw [hl] at hu;rw [List.getElem?_set_self J];simp only [] at hu ⊢;have I:=p.2.2.2.2.2.2.2.2.2;rw [Df,Bool.and_eq_true];refine ⟨(dw b _).2 fun a ha=>(dw b _).1 hu a (List.mem_of_mem_drop (List.mem_of_mem_take ha)),F5 ?_⟩;rcases I with h1|h1
      ·omega
      ·exact h1
     ·unfold jJ at hu ⊢;rw [List.getElem?_set_ne hll];exact hu
   ·cases h
  ·cases h
 ·cases h
theorem Na (I:gy cx s) {t sz:Nat} {x y:IX} (h:aop glob call cx env s (.appr t sz x y)=.ok e env' s'):Ext cx s s':=by
 simp only [aop] at h
 split at h
 ·split at h
  ·cases h;exact .push I _
  ·cases h
 ·split at h
  ·cases h;exact .push I _
  ·cases h
 ·split at h
  ·rename_i _ l es _ _ _ t2 K k hl
   split at h
   ·rename_i A;cases h;have J:l<s.length:=(List.getElem?_eq_some_iff.1 hl).1;refine ⟨by simp,fun l' hd=>?_,fun l' p=>?_,fun b hb l' p hu=>?_⟩
    ·rw [List.getElem?_set_ne (fun he=>by subst he;rw [hl] at hd;cases hd)];exact hd
    ·rw [List.getElem?_set_ne (by omega)]
    ·by_cases hll:l=l'
     ·subst hll;unfold jJ;rw [List.getElem?_set_self J];trivial
     ·unfold jJ at hu ⊢;rw [List.getElem?_set_ne hll];exact hu
   ·cases h
  ·cases h
 ·cases h
theorem PN {d t sz:Nat} {x y:IX} (h:aop glob call cx env s (.apprp d t sz x y)=.ok e env' s'):aop glob call cx env s (.appr t sz x y)=.ok e env' s'∨
  ∃v,elems glob env y=some []∧ev glob env x=some (.v v)∧(v=.ns∨v=.se∨∃l es,v=.st l es)∧e=.v v∧env'=env∧s'=s:=by
 simp only [aop] at h ⊢
 split at h
 ·cases h
 ·split at h
  ·rename_i ys h1 h2;rw [h1,h2]
   split at h
   ·rename_i hc;left;rw [if_pos hc];exact h
   ·split at h
    ·rename_i h0;cases h
     have:ys=[]:=List.eq_nil_of_length_eq_zero h0
     subst this;exact .inr ⟨_,rfl,rfl,.inl rfl,rfl,rfl,rfl⟩
    ·cases h
  ·rename_i ys h1 h2;rw [h1,h2]
   split at h
   ·rename_i hc;left;rw [if_pos hc];exact h
   ·split at h
    ·rename_i h0;cases h
     have:ys=[]:=List.eq_nil_of_length_eq_zero h0
     subst this;exact .inr ⟨_,rfl,rfl,.inr (.inl rfl),rfl,rfl,rfl⟩
    ·cases h
  ·rename_i ys l es h1 h2
   split at h
   ·rename_i t' sz' k hl
    split at h
    ·rename_i hc;left;rw [if_pos hc];exact h
    ·split at h
     ·rename_i h0;cases h
      have:ys=[]:=List.eq_nil_of_length_eq_zero h0
      subst this;exact .inr ⟨_,h1,h2,.inr (.inr ⟨l,es,rfl⟩),rfl,rfl,rfl⟩
     ·cases h
   ·cases h
  ·cases h
theorem XC (K:ji call) (A:gy cx s) {op:AOp} (h:aop glob call cx env s op=.ok e env' s'):Ext cx s s':=by
 have P:∀{r:Option AV} {env1:Env},okv env1 s r=.ok e env' s'→Ext cx s s':=by
  intro r env1 hr
  cases r with
  | none=>simp [okv] at hr
  | some r=>simp [okv] at hr;rw [←hr.2.2];exact .refl _ _
 cases op with
 | hbox x=>
  simp only [aop] at h
  split at h
  ·split at h
   ·cases h;exact .push A _
   ·cases h
  ·cases h
 | halloc zs=>simp only [aop] at h;cases h;exact .push A _
 | store n a x=>
  simp only [aop] at h
  split at h
  ·split at h
   ·rename_i R;cases h;exact Q5 R
   ·cases h
  ·cases h
 | call f args=>
  simp only [aop] at h
  split at h
  ·split at h
   ·rename_i hc;cases h;exact K _ _ _ _ _ _ A (.inl hc)
   ·cases h
   ·cases h
  ·cases h
 | callp f args=>
  simp only [aop] at h
  split at h
  ·split at h
   ·rename_i hc;cases h;exact K _ _ _ _ _ _ A (.inl hc)
   ·cases h
   ·cases h
  ·cases h
 | callh d f args k=>
  simp only [aop] at h
  split at h
  ·cases h
  ·split at h
   ·split at h
    ·rename_i hc;split at h
     ·cases h;exact K _ _ _ _ _ _ A (.inl hc)
     ·cases h
    ·cases h
    ·cases h
   ·cases h
 | loadw n a bs=>
  simp only [aop] at h
  split at h
  ·split at h
   ·obtain ⟨_,_,_,_,rfl⟩:=yX h;exact .refl _ _
   ·cases h
  ·cases h
 | loadv a k off=>
  simp only [aop] at h
  split at h
  ·split at h
   ·split at h
    ·cases h;exact .refl _ _
    ·cases h
   ·cases h
  ·cases h
 | hmap=>simp only [aop] at h;cases h;exact .push A _
 | hins kk m k v=>
  simp only [aop] at h
  split at h
  ·rename_i l key val env1 hm hk hv
   split at h
   ·rename_i es hl
    split at h
    ·rename_i S O
     split at h
     ·rename_i p;cases h;have J:l<s.length:=(List.getElem?_eq_some_iff.1 hl).1;refine ⟨by simp,fun l' hd=>?_,fun l' I=>?_,fun b hb l' I hu=>?_⟩
      ·rw [List.getElem?_set_ne (fun he=>by subst he;rw [hl] at hd;cases hd)];exact hd
      ·rw [List.getElem?_set_ne (by omega)]
      ·by_cases hll:l=l'
       ·subst hll;unfold jJ at hu ⊢;rw [hl] at hu;rw [List.getElem?_set_self J]
        have Q:val.flat=true:=by
         rcases p.2.2.2 with h1|h1
         ·omega
         ·exact h1
        exact RY O hu (acP b p.2.1) (EW b Q)
       ·unfold jJ at hu ⊢;rw [List.getElem?_set_ne hll];exact hu
     ·cases h
    ·cases h
   ·cases h
  ·cases h
 | hdel kk m k=>
  simp only [aop] at h
  split at h
  ·rename_i l key hm hk
   split at h
   ·rename_i es hl
    split at h
    ·rename_i S O
     split at h
     ·rename_i p;cases h;have J:l<s.length:=(List.getElem?_eq_some_iff.1 hl).1;refine ⟨by simp,fun l' hd=>?_,fun l' I=>?_,fun b hb l' I hu=>?_⟩
      ·rw [List.getElem?_set_ne (fun he=>by subst he;rw [hl] at hd;cases hd)];exact hd
      ·rw [List.getElem?_set_ne (by omega)]
      ·by_cases hll:l=l'
       ·subst hll;unfold jJ at hu ⊢;rw [hl] at hu;rw [List.getElem?_set_self J];exact Sr O hu
       ·unfold jJ at hu ⊢;rw [List.getElem?_set_ne hll];exact hu
     ·cases h
    ·cases h
   ·cases h
  ·cases h
 | appr t sz x y=>exact Na A h
 | apprp d t sz x y=>
  rcases PN h with h' | ⟨_,_,_,_,_,_,rfl⟩
  ·exact Na A h'
  ·exact .refl _ _
 | appk t sz x y=>exact Fe A h
 | appz t sz zs x y=>
  simp only [aop] at h
  split at h
  ·split at h
   ·cases h;exact .push A _
   ·cases h
  ·cases h
 | capn x=>
  simp only [aop] at h
  split at h
  ·cases h;exact .refl _ _
  ·cases h
 | appe t sz x y=>
  cases hy:elems glob env y with
  | none=>
   have h2:aop glob call cx env s (.appk t sz x y)=.ok e env' s':=by rw [←h];simp only [aop,hy]
   exact Fe A h2
  | some ys=>
   cases ys with
   | nil=>
    simp only [aop,hy] at h
    split at h
    ·cases h;exact .refl _ _
    ·cases h;exact .refl _ _
    ·cases h
   | cons y0 ys=>
    have h2:aop glob call cx env s (.appk t sz x y)=.ok e env' s':=by rw [←h];simp only [aop,hy]
    exact Fe A h2
 | mks t sz zs x=>
  simp only [aop] at h
  split at h
  ·split at h
   ·cases h;exact .push A _
   ·cases h
  ·cases h
 | asgk t sz x=>
  simp only [aop] at h
  split at h
  ·split at h
   ·cases h;exact .push A _
   ·cases h
  ·cases h
 | appks t x y=>
  simp only [aop] at h
  split at h
  ·split at h
   ·cases h;exact .push A _
   ·cases h
  ·split at h
   ·rename_i _ l ver Z o m _ _ _ t2 a1 W cs hl
    split at h
    ·rename_i p;cases h;have J:l<s.length:=(List.getElem?_eq_some_iff.1 hl).1;refine ⟨by simp,fun l' hd=>?_,fun l' I=>?_,fun b hb l' I hu=>?_⟩
     ·rw [List.getElem?_set_ne (fun he=>by subst he;rw [hl] at hd;cases hd)];exact hd
     ·rw [List.getElem?_set_ne (by omega)]
     ·by_cases hll:l=l'
      ·subst hll;unfold jJ at hu ⊢;rw [hl] at hu;rw [List.getElem?_set_self J];simp only [] at hu ⊢;rw [Df,Bool.and_eq_true];exact ⟨(dw b _).2 fun a ha=>(dw b _).1 hu a (List.mem_of_mem_drop (List.mem_of_mem_take ha)),F5 (by simp [aC,AV.flat])⟩
      ·unfold jJ at hu ⊢;rw [List.getElem?_set_ne hll];exact hu
    ·cases h
   ·cases h
  ·cases h
 | appv t sz x y=>
  simp only [aop] at h
  split at h
  ·cases h;exact .refl _ _
  ·split at h
   ·cases h;exact .push A _
   ·cases h
  ·cases h
 | lallocp d zs=>
  simp only [aop] at h
  split at h
  ·cases h
  ·cases h;exact .refl _ _
 | storep n a x=>
  simp only [aop] at h
  split at h
  ·split at h
   ·rename_i R;cases h;exact Q5 R
   ·cases h
  ·cases h
 | loadl n a=>
  simp only [aop] at h
  split at h<;>first | (cases h;done) | (obtain ⟨_,_,_,_,rfl⟩:=yX h;exact .refl _ _)
 | storel n k x=>
  simp only [aop] at h
  split at h
  ·split at h
   ·cases h;exact .refl _ _
   ·cases h
  ·cases h
 | umap d=>
  simp only [aop] at h
  split at h
  ·cases h
  ·cases h;exact .push A _
 | uins m k v=>
  simp only [aop] at h
  split at h
  ·split at h
   ·rename_i l key val _ _ _ _ es hl
    split at h
    ·rename_i p;cases h;have J:l<s.length:=(List.getElem?_eq_some_iff.1 hl).1;refine ⟨by simp,fun l' hd=>?_,fun l' I=>?_,fun b hb l' I hu=>?_⟩
     ·rw [List.getElem?_set_ne (fun he=>by subst he;rw [hl] at hd;cases hd)];exact hd
     ·rw [List.getElem?_set_ne (by omega)]
     ·by_cases hll:l=l'
      ·subst hll;unfold jJ;rw [List.getElem?_set_self J];trivial
      ·unfold jJ at hu ⊢;rw [List.getElem?_set_ne hll];exact hu
    ·cases h
   ·cases h
  ·cases h
 | clrk zs x=>
  simp only [aop] at h
  split at h
  ·rename_i l ver sz o m a0
   split at h
   ·cases h;exact .refl _ _
   ·rename_i n t sz' Y cs hl
    split at h
    ·rename_i p;cases h;have J:l<s.length:=(List.getElem?_eq_some_iff.1 hl).1;refine ⟨by simp,fun l' hd=>?_,fun l' I=>?_,fun b hb l' I hu=>?_⟩
     ·rw [List.getElem?_set_ne (fun he=>by subst he;rw [hl] at hd;cases hd)];exact hd
     ·rw [List.getElem?_set_ne (by have:=p.2.2.2.2.2.1;omega)]
     ·unfold jJ at hu ⊢;rw [List.getElem?_set_ne (by have:=p.2.2.2.2.2.2;omega)];exact hu
    ·cases h
   ·cases h
  ·cases h
 | len k x=>
  simp only [aop] at h
  match k with
  | 0=>simp only [aop] at h;(repeat' split at h)<;>first | (cases h;done) | (cases h;exact .refl _ _)
  | 1=>simp only [aop] at h;(repeat' split at h)<;>first | (cases h;done) | (cases h;exact .refl _ _)
  | 2=>simp only [aop] at h;(repeat' split at h)<;>first | (cases h;done) | (cases h;exact .refl _ _)
  | k+3=>simp only [aop] at h;cases h
 | _=>
  all_goals
   simp only [aop] at h
   first
    | exact P h
    | ((repeat' split at h)<;>first | (cases h;done) | (exact P h) | (cases h;exact .refl _ _))
def Out.st:Out→Option St
 | .norm _ s | .exit _ _ s | .ret _ s | .goto _ _ s | .pan _ s=>some s
 | .fail=>none
theorem Zt (p:ji call) (A:gy cx s) {op:AOp} {v:AV} (h:aop glob call cx env s op=.pan v s'):Ext cx s s':=by
 cases op with
 | call f args=>
  simp only [aop] at h
  split at h
  ·split at h
   ·cases h
   ·rename_i hc;cases h;exact p _ _ _ _ _ _ A (.inr hc)
   ·cases h
  ·cases h
 | callp f args=>
  simp only [aop] at h
  split at h
  ·split at h
   ·cases h
   ·rename_i hc;cases h;exact p _ _ _ _ _ _ A (.inr hc)
   ·cases h
  ·cases h
 | callh d f args k=>
  simp only [aop] at h
  split at h
  ·cases h
  ·split at h
   ·split at h
    ·split at h<;>cases h
    ·rename_i hc;cases h;exact p _ _ _ _ _ _ A (.inr hc)
    ·cases h
   ·cases h
 | loadw n a bs=>
  simp only [aop,okv] at h
  (repeat' split at h)<;>cases h
 | loadv a k off=>
  simp only [aop] at h
  (repeat' split at h)<;>cases h
 | panic x=>
  simp only [aop] at h
  split at h
  ·cases h;exact .refl _ _
  ·cases h
 | len k x=>
  exfalso
  match k with
  | 0=>simp only [aop] at h;(repeat' split at h)<;>cases h
  | 1=>simp only [aop] at h;(repeat' split at h)<;>cases h
  | 2=>simp only [aop] at h;(repeat' split at h)<;>cases h
  | k+3=>simp only [aop] at h;cases h
 | _=>
  exfalso;simp only [aop,okv] at h
  (repeat' split at h)<;>cases h
theorem qP (p:ji call) (x:gy cx s) {o:aI} (h:(fK glob call cx o env s).st=some s'):Ext cx s s':=by
 unfold fK at h
 split at h
 ·simp [Out.st] at h
 ·split at h<;>(simp [Out.st] at h;subst h;exact .refl _ _)
 ·split at h
  ·simp [Out.st] at h
  ·rename_i hp;simp [Out.st] at h;subst h;exact Zt p x hp
  ·rename_i e env1 s1 ha
   split at h
   ·split at h
    ·simp [Out.st] at h
    ·simp [Out.st] at h;subst h;exact XC p x ha
   ·simp [Out.st] at h;subst h;exact XC p x ha
theorem EH (p:ji call):∀(ops:List aI) {env:Env} {s:St},gy cx s→(mM glob call cx ops env s).st=some s'→Ext cx s s'
 | [],env,s,_,h=>by simp [mM,Out.st] at h;subst h;exact .refl _ _
 | o::r,env,s,hcx,h=>by
  unfold mM at h
  split at h
  ·rename_i env1 s1 hr;have h1:Ext cx s s1:=qP p hcx (o:=o) (by rw [hr];rfl);exact h1.trans (EH p r (hcx.ext h1) h)
  ·exact qP p hcx h
theorem agT {o:aI} (h:(BM glob call o env s).st=some s'):s'=s:=by
 unfold BM at h
 split at h
 ·simp [Out.st] at h
 ·split at h
  ·simp [Out.st] at h;exact h.symm
  ·split at h<;>simp [Out.st] at h;exact h.symm
theorem X6 (p:ji call) (x:gy cx s) {o:aI} (h:(iw glob call cx o env s).st=some s'):Ext cx s s':=by
 unfold iw at h
 split at h
 ·rw [agT h];exact .refl _ _
 ·exact qP p x h
theorem F7 (p:ji call) {aops:List aI}:∀(π:List Nat) {env:Env} {s:St},gy cx s→(jC glob call cx aops π env s).st=some s'→Ext cx s s'
 | [],env,s,_,h=>by simp [jC,Out.st] at h;subst h;exact .refl _ _
 | o::r,env,s,hcx,h=>by
  unfold jC at h
  split at h
  ·simp [Out.st] at h
  ·split at h
   ·rename_i env1 s1 hr;have h1:Ext cx s s1:=X6 p hcx (by rw [hr];rfl);exact h1.trans (F7 p r (hcx.ext h1) h)
   ·exact X6 p hcx h
theorem Ci {aops:List aI} {π:List Nat} {o:Out} (h:yV glob call cx aops π env s=o) (ho:o≠.fail):
  ∃c oc env1 s1 v s2,Z5 aops π=some (c,oc)∧((Gj aops c oc false π).all fun j=>match aops[j]? with|some o=>o.op.pre && (zY o oc || BI o oc || (π.takeWhile fun x=>x != c).contains j)|none=>false)=true∧
   jC glob call cx aops (Gj aops c oc false π) env s=.norm env1 s1∧fK glob call cx oc env1 s1=.pan v s2∧o=.pan v s2:=by
 unfold yV at h
 split at h
 ·exact absurd h.symm ho
 ·rename_i c oc A
  split at h
  ·rename_i p
   split at h
   ·rename_i env1 s1 h1
    split at h
    ·rename_i v s2 h2;exact ⟨c,oc,env1,s1,v,s2,A,p,h1,h2,h.symm⟩
    ·exact absurd h.symm ho
   ·exact absurd h.symm ho
  ·exact absurd h.symm ho
theorem Rk (x:ji call) {aops:List aI} (A:gy cx s) {ord:Option (List Nat×List Nat)} (h:(rY glob call cx aops env s ord).st=some s'):Ext cx s s':=by
 cases ord with
 | none=>exact EH x _ A h
 | some p=>
  simp only [rY] at h
  cases hd:jC glob call cx aops p.1 (Dz env p.2) s with
  | pan v s1=>
   rw [hd] at h
   replace h:(yV glob call cx aops p.1 (Dz env p.2) s).st=some s':=h
   obtain ⟨c,oc,env1,s2,v',s3,_,_,h1,h2,h3⟩:=Ci (glob:=glob) (call:=call) (cx:=cx) (aops:=aops) (π:=p.1) (env:=Dz env p.2) (s:=s) rfl (fun hf=>by rw [hf] at h;cases h);rw [h3] at h;cases h;have e1:Ext cx s s2:=F7 x _ A (by rw [h1];rfl);exact e1.trans (qP x (A.ext e1) (by rw [h2];rfl))
  | _=>
   rw [hd] at h;exact F7 x _ A (by rw [hd];exact h)
theorem Vz {body:Env→St→Out} {keep:List Nat} (hb:∀env s s',gy cx s→(body env s).st=some s'→Ext cx s s'):∀(n:Nat) {env:Env} {s:St},gy cx s→(xK body keep n env s).st=some s'→Ext cx s s'
 | 0,env,s,_,h=>by simp [xK,Out.st] at h
 | n+1,env,s,hcx,h=>by
  unfold xK at h
  split at h
  ·rename_i env1 s1 hr;have h1:Ext cx s s1:=hb _ _ _ hcx (by rw [hr];rfl);exact h1.trans (Vz hb n (hcx.ext h1) h)
  ·exact hb _ _ _ hcx h
theorem Rh {body:Env→St→Out} {l:Nat} {keep:List Nat} (hb:∀env s s',gy cx s→(body env s).st=some s'→Ext cx s s'):∀(n:Nat) {env:Env} {s:St},gy cx s→(qO body l keep n env s).st=some s'→Ext cx s s'
 | 0,env,s,_,h=>by simp [qO,Out.st] at h
 | n+1,env,s,hcx,h=>by
  unfold qO at h
  split at h
  ·rename_i l' env1 s1 hr;have h1:Ext cx s s1:=hb _ _ _ hcx (by rw [hr];rfl)
   split at h
   ·exact h1.trans (Rh hb n (hcx.ext h1) h)
   ·simp [Out.st] at h
  ·exact hb _ _ _ hcx h
theorem dN (p:ji call) {ro:Bool} {N:Nat}:∀(c:bF) {env:Env} {s s':St},gy cx s→(bG glob call cx ro N c env s).st=some s'→Ext cx s s'
 | .skip,env,s,s',_,h=>by simp [bG,Out.st] at h;subst h;exact .refl _ _
 | .ret,env,s,s',_,h=>by simp [bG,Out.st] at h;subst h;exact .refl _ _
 | .exit id,env,s,s',_,h=>by simp [bG,Out.st] at h;subst h;exact .refl _ _
 | .region ops ord keep,env,s,s',x,h=>by
  simp only [bG] at h
  split at h
  ·rename_i env1 s1 hr;simp [Out.st] at h;subst h;exact Rk p x (by rw [hr];rfl)
  ·exact Rk p x h
 | .seq a b,env,s,s',x,h=>by
  simp only [bG] at h
  split at h
  ·rename_i env1 s1 hr;have h1:=dN p a x (env:=env) (s':=s1) (by rw [hr];rfl);exact h1.trans (dN p b (x.ext h1) h)
  ·exact dN p a x h
 | .cond c a b,env,s,s',x,h=>by
  simp only [bG] at h
  split at h
  ·exact dN p a x h
  ·exact dN p b x h
  ·simp [Out.st] at h
 | .block id b,env,s,s',x,h=>by
  simp only [bG] at h
  split at h
  ·rename_i K env1 s1 hr;have h1:=dN p b x (env:=env) (s':=s1) (by rw [hr];rfl)
   split at h<;>(simp [Out.st] at h;subst h;exact h1)
  ·exact dN p b x h
 | .loop keep b,env,s,s',x,h=>by
  simp only [bG] at h;exact Vz (fun env s s' x h=>dN p b x h) N x h
 | .range f ps asg body,env,s,s',x,h=>by
  simp only [bG] at h
  split at h
  ·simp [Out.st] at h
  ·split at h
   ·split at h
    ·rename_i r s1 hr;have h0:Ext cx s (s++[.dfr,.loop (su env) ps asg body .ready]):=.push x _;have h1:=p _ _ _ _ _ _ (x.ext h0) (.inl hr)
     have h2:Ext cx s1 (s1.set (s.length+1) .dead):=by
      have J:=x.lim;have A:=x.base;have hd:=h1.len
      have I:s1[s.length+1]?≠some .dfr:=by
       intro hc;unfold EJ at h;rw [hc] at h;simp [Out.st] at h
      refine ⟨by simp,fun l hl=>?_,fun l hl=>?_,fun b hb l hl hu=>?_⟩
      ·rw [List.getElem?_set_ne (fun he=>by subst he;exact I hl)];exact hl
      ·rw [List.getElem?_set_ne (by omega)]
      ·unfold jJ at hu ⊢;rw [List.getElem?_set_ne (by omega)];exact hu
     unfold EJ at h
     split at h
     ·simp [Out.st] at h;subst h;exact (h0.trans h1).trans h2
     ·simp [Out.st] at h;subst h;exact (h0.trans h1).trans h2
     ·simp [Out.st] at h;subst h;exact (h0.trans h1).trans h2
     ·simp [Out.st] at h
    ·simp [Out.st] at h
   ·simp [Out.st] at h
 | .label l,env,s,s',_,h=>by simp [bG,Out.st] at h;subst h;exact .refl _ _
 | .goto l,env,s,s',_,h=>by simp [bG,Out.st] at h;subst h;exact .refl _ _
 | .scope l keep a b,env,s,s',x,h=>by
  simp only [bG] at h
  split at h
  ·rename_i l' env1 s1 hr;have h1:=dN p a x (env:=env) (s':=s1) (by rw [hr];rfl)
   split at h
   ·exact h1.trans (Rh (fun env s s' x h=>dN p b x h) N (x.ext h1) h)
   ·simp [Out.st] at h
  ·exact dN p a x h
theorem Ext.take {cx I:Ctx} {s s1:St} (h:Ext I s s1) (x:gy cx s) (hl:cx.lim≤I.lim) (hb:cx.base≤I.base):Ext cx s (s1.take s.length):=by
 refine ⟨by simp;have:=h.len;omega,fun l hd=>?_,fun l p=>?_,fun b A l p hu=>?_⟩
 ·rw [List.getElem?_take_of_lt (List.getElem?_eq_some_iff.1 hd).1];exact h.dfr l hd
 ·rw [List.getElem?_take_of_lt (by have:=x.lim;omega)];exact h.lim l (by omega)
 ·have:=h.base b (by omega) l p hu
  unfold jJ at this ⊢;rw [List.getElem?_take_of_lt (by have:=x.base;omega)];exact this
theorem Ext.weaken {cx A:Ctx} {s s1:St} (h:Ext A s s1) (hl:cx.lim≤A.lim) (hb:cx.base≤A.base):Ext cx s s1:=
 ⟨h.len,h.dfr,fun l p=>h.lim l (by omega),fun b x l p hu=>h.base b (by omega) l p hu⟩
def bM.inner (fn:bM) (s:St) (cx:Ctx):Ctx:=⟨if fn.pure then s.length else cx.lim,if fn.keep then cx.base else s.length⟩
theorem bM.cxOK {fn:bM} (p:gy cx s):gy (fn.inner s cx) s:=by
 refine ⟨?_, ?_⟩
 ·show (if fn.pure=true then s.length else cx.lim)≤s.length;split
  ·exact Nat.le_refl _
  ·exact p.lim
 ·show (if fn.keep=true then cx.base else s.length)≤s.length;split
  ·exact p.base
  ·exact Nat.le_refl _
theorem bM.cxLim {fn:bM} (p:gy cx s):cx.lim≤(fn.inner s cx).lim:=by
 show cx.lim≤(if fn.pure=true then s.length else cx.lim);split
 ·exact p.lim
 ·exact Nat.le_refl _
theorem bM.cxBase {fn:bM} (p:gy cx s):cx.base≤(fn.inner s cx).base:=by
 show cx.base≤(if fn.keep=true then cx.base else s.length);split
 ·exact Nat.le_refl _
 ·exact p.base
theorem Kt {fn:bM} {s1:St} {r r0:AV} (p:gy cx s) (he:Ext (fn.inner s cx) s s1) (hh:finish fn.pure fn.keep s s1 r0=.ret r s'):Ext cx s s':=by
 unfold finish at hh
 split at hh
 ·cases hh;exact he.weaken (bM.cxLim p) (bM.cxBase p)
 ·cases hp:fn.pure with
  | true=>
   rw [hp] at hh;simp only [if_true] at hh
   split at hh
   ·cases hh;exact .refl _ _
   ·split at hh
    ·cases hh;exact .refl _ _
    ·cases hh
  | false=>
   rw [hp] at hh;simp only [Bool.false_eq_true,if_false] at hh
   split at hh
   ·rename_i x;cases hh
    have:=he.take p (bM.cxLim p) (bM.cxBase p)
    rwa [←x,List.take_length] at this
   ·split at hh
    ·cases hh;exact he.take p (bM.cxLim p) (bM.cxBase p)
    ·cases hh
theorem U7 {c:CO} {v:AV} {s:St} (h:c.toPan=.pan v s):c=.ret v s:=by
 cases c<;>simp [CO.toPan] at h
 rw [h.1,h.2]
theorem XM {c:CO} {v:AV} {s:St} (h:c.toPan=.ret v s):False:=by cases c<;>simp [CO.toPan] at h
theorem aaO (I:ji call) {N:Nat} {fn:bM} {args:List AV} {r:AV} (x:gy cx s) (h:xG glob call N fn args s cx=.ret r s'∨xG glob call N fn args s cx=.pan r s'):Ext cx s s':=by
 have A:gy (fn.inner s cx) s:=bM.cxOK x
 have key:∀env1 s1 o,(o=.ret r s'∨o=.pan r s')→Ext (fn.inner s cx) s s1→(match oG glob env1 s1 fn.res with|some rs=>finish fn.pure fn.keep s s1 (um rs)|none=>.fail)=o→Ext cx s s':=by
  intro env1 s1 o ho he hh
  split at hh
  ·rcases ho with rfl|rfl
   ·exact Kt x he hh
   ·exfalso;unfold finish at hh;(repeat' split at hh)<;>cases hh
  ·subst hh;rcases ho with ho|ho<;>cases ho
 have p:∀{out:Out} {s1:St},bG glob call (fn.inner s cx) fn.keep N fn.code (yB args 0) s=out→out.st=some s1→Ext (fn.inner s cx) s s1:=fun {out s1} h1 h2=>dN I _ A (by rw [h1];exact h2);generalize ho:xG glob call N fn args s cx=o at h;unfold xG at ho
 split at ho
 ·split at ho
  ·rename_i env1 s1 hr;exact key env1 s1 o h (p hr rfl) ho
  ·rename_i env1 s1 hr;exact key env1 s1 o h (p hr rfl) ho
  ·rename_i v s1 hr;rcases h with rfl|rfl
   ·exact absurd ho (fun h=>XM h)
   ·exact Kt x (p hr rfl) (U7 ho)
  ·subst ho;rcases h with h|h<;>cases h
 ·subst ho;rcases h with h|h<;>cases h
theorem Js:∀(ls:List Nat) (P:List (List AV)) {cx:Ctx} {n:Nat} {s:St},cx.lim≤n→cx.base≤n→wB n s ls P=true→Ext cx s (ng s ls P)
 | [],[],_,_,_,_,_,_=>.refl _ _
 | [],_::_,_,_,_,_,_,h=>by simp [wB] at h
 | _::_,[],_,_,_,_,_,h=>by simp [wB] at h
 | l::ls,c::cs,cx,n,s,hl,hb,h=>by
  simp only [wB,Bool.and_eq_true,decide_eq_true_eq] at h;obtain ⟨⟨⟨⟨h1,h2⟩,h3⟩,h4⟩,h5⟩:=h;have A:l ∉ ls:=by simpa using h2
  split at h3
  ·rename_i K p;have I:l<s.length:=(List.getElem?_eq_some_iff.1 p).1
   have e1:Ext cx s (s.set l (.cells c)):=by
    refine ⟨by simp,fun l' hd=>?_,fun l' x=>?_,fun b O l' x hu=>?_⟩
    ·rw [List.getElem?_set_ne (fun he=>by subst he;rw [p] at hd;cases hd)];exact hd
    ·rw [List.getElem?_set_ne (by omega)]
    ·by_cases hll:l=l'
     ·subst hll;unfold jJ;rw [List.getElem?_set_self I];exact F5 h4
     ·unfold jJ at hu ⊢;rw [List.getElem?_set_ne hll];exact hu
   have J:wB n (s.set l (.cells c)) ls cs=true:=by
    clear h4 h2 e1
    have key:∀(ls:List Nat) (cs:List (List AV)),l ∉ ls→wB n s ls cs=true→wB n (s.set l (.cells c)) ls cs=true:=by
     intro ls
     induction ls with
     | nil=>intro cs _ h;cases cs<;>simp_all [wB]
     | cons k ls ih=>
      intro cs hm h
      cases cs with
      | nil=>simp [wB] at h
      | cons d cs=>
       simp only [wB,Bool.and_eq_true] at h ⊢;refine ⟨⟨⟨h.1.1.1, ?_⟩,h.1.2⟩,ih cs (fun hh=>hm (by simp [hh])) h.2⟩;rw [List.getElem?_set_ne (fun he=>hm (by simp [he]))];exact h.1.1.2
    exact key ls cs A h5
   exact e1.trans (Js ls cs hl hb J)
  ·cases h3
theorem Zg (p:ji call) {N:Nat} {d:Hz} {args:List AV} {r:AV} (J:gy cx s) (h:uK glob call N d args s cx=.ret r s'∨uK glob call N d args s cx=.pan r s'):Ext cx s s':=by
 have x:gy ⟨cx.lim,s.length⟩ s:=⟨J.lim,Nat.le_refl _⟩
 have S:∀{s1:St} {r0:AV},Ext ⟨cx.lim,s.length⟩ s s1→finish false false s s1 r0=.ret r s'→Ext cx s s':=fun he hh=>
  Kt (fn:=⟨0,[],false,false,.skip⟩) J he hh
 have key:∀{env1:Env} {s1:St} {O:List RV} {o:CO},(o=.ret r s'∨o=.pan r s')→Ext ⟨cx.lim,s.length⟩ s s1→(match oG glob env1 s1 O with|some rs=>finish false false s s1 (um rs)|none=>.fail)=o→Ext cx s s':=by
  intro env1 s1 O o ho he hh
  split at hh
  ·rcases ho with rfl|rfl
   ·exact S he hh
   ·exfalso;unfold finish at hh;(repeat' split at hh)<;>cases hh
  ·subst hh;rcases ho with ho|ho<;>cases ho
 generalize ho:uK glob call N d args s cx=o at h;unfold uK at ho
 split at ho
 ·split at ho
  ·rename_i em sm R;have xm:Ext ⟨cx.lim,s.length⟩ s sm:=EH p d.pre x (by rw [R];rfl)
   have A:∀{o:Out} {s1:St},Dn glob call ⟨cx.lim,s.length⟩ N d.mid em sm=o→o.st=some s1→Ext ⟨cx.lim,s.length⟩ s s1:=by
    intro o s1 hm hs;unfold Dn at hm
    split at hm
    ·subst hm;cases hs;exact xm
    ·exact xm.trans (dN p _ (x.ext xm) (by rw [hm];exact hs))
   split at ho
   ·rename_i env2 s2 I;exact key h (A I rfl) ho
   ·rename_i e0 s0 Q;have x0:Ext ⟨cx.lim,s.length⟩ s s0:=A Q rfl
    split at ho
    ·rename_i e1 s1 P;have x1:Ext ⟨cx.lim,s.length⟩ s s1:=x0.trans (qP p (x.ext x0) (by rw [P];rfl))
     split at ho
     ·split at ho
      ·split at ho
       ·rename_i env2 s2 I;exact key h (x1.trans (dN p _ (x.ext x1) (by rw [I];rfl))) ho
       ·rename_i env2 s2 I;exact key h (x1.trans (dN p _ (x.ext x1) (by rw [I];rfl))) ho
       ·rename_i v s2 I;have x2:Ext ⟨cx.lim,s.length⟩ s s2:=x1.trans (dN p _ (x.ext x1) (by rw [I];rfl))
        split at ho
        ·split at ho
         ·rename_i K;exact key h (x2.trans (Js _ _ J.lim (Nat.le_refl _) K)) ho
         ·subst ho;rcases h with h|h<;>cases h
        ·subst ho;rcases h with h|h<;>cases h
       ·subst ho;rcases h with h|h<;>cases h
      ·subst ho;rcases h with h|h<;>cases h
     ·subst ho;rcases h with h|h<;>cases h
    ·subst ho;rcases h with h|h<;>cases h
   ·subst ho;rcases h with h|h<;>cases h
  ·subst ho;rcases h with h|h<;>cases h
 ·subst ho;rcases h with h|h<;>cases h
theorem Ext.loop {l:Nat} {e0:Env} {p0:List Nat} {a0 b0:bF} {q q':OB} (hl:s[l]?=some (.loop e0 p0 a0 b0 q)) (A:cx.lim≤l):Ext cx s (s.set l (.loop e0 p0 a0 b0 q')):=by
 have x:l<s.length:=(List.getElem?_eq_some_iff.1 hl).1;refine ⟨by simp,fun l' hd=>?_,fun l' p=>?_,fun b hb l' p hu=>?_⟩
 ·rw [List.getElem?_set_ne (fun he=>by subst he;rw [hl] at hd;cases hd)];exact hd
 ·rw [List.getElem?_set_ne (by omega)]
 ·by_cases hll:l=l'
  ·subst hll;unfold jJ at hu ⊢;rw [List.getElem?_set_self x];rw [hl] at hu;exact hu
  ·unfold jJ at hu ⊢;rw [List.getElem?_set_ne hll];exact hu
theorem Kw {l:Nat} {p:OB} {q:Bool} {r:AV} (x:cx.lim≤l) (h:sS s l p q=.ret r s'):Ext cx s s':=by
 unfold sS at h
 split at h
 ·rename_i hl;cases h;exact .loop hl x
 ·cases h
theorem ZC (x:ji call) {N l:Nat} {args:List AV} {r:AV} (J:gy cx s) (h:A8 glob call N l args s cx=.ret r s'):Ext cx s s':=by
 unfold A8 at h
 split at h
 ·rename_i env ps O body hl
  split at h
  ·rename_i p
   split at h
   ·rename_i env1 s1 K;have h1:=dN x O J (s':=s1) (by rw [K];rfl)
    split at h
    ·rename_i e1 p1 a1 b1 P;have h2:Ext cx s1 (s1.set l (.loop e1 p1 a1 b1 .busy)):=.loop P p.2;have A:=h1.trans h2
     split at h
     ·rename_i env2 s2 I;exact (A.trans (dN x body (J.ext A) (by rw [I];rfl))).trans (Kw p.2 h)
     ·rename_i env2 s2 I;exact (A.trans (dN x body (J.ext A) (by rw [I];rfl))).trans (Kw p.2 h)
     ·rename_i id env2 s2 I;exact (A.trans (dN x body (J.ext A) (by rw [I];rfl))).trans (Kw p.2 h)
     ·cases h
    ·cases h
   ·cases h
  ·cases h
 ·cases h
theorem aaC {l:Nat} {p:OB} {q:Bool} {r:AV} (h:sS s l p q=.pan r s'):False:=by
 unfold sS at h;split at h<;>cases h
theorem QM {N l:Nat} {args:List AV} {r:AV} (h:A8 glob call N l args s cx=.pan r s'):False:=by
 unfold A8 at h
 (repeat' split at h)<;>first | (cases h;done)|exact aaC h
theorem TY {p:AV→List AV→St→Ctx→CO} {k:HiK} {args:List AV} {r:AV} (h:lU call p k args s cx=.pan r s'):False:=by
 unfold lU at h
 (repeat' split at h)<;>cases h
theorem aaM (x:ji call) {O:AV→List AV→St→Ctx→CO} {k:HiK} {args:List AV} {r:AV} (I:gy cx s) (h:lU call O k args s cx=.ret r s'):Ext cx s s':=by
 unfold lU at h
 split at h
 ·split at h
  ·rename_i hc;cases h;exact x _ _ _ _ _ _ I (.inl hc)
  ·rename_i hc
   split at h
   ·cases h;exact x _ _ _ _ _ _ I (.inr hc)
   ·cases h
  ·cases h
 ·cases h;exact .refl _ _
 ·cases h;exact .refl _ _
 ·split at h
  ·cases h;exact .refl _ _
  ·rename_i k0 l ver sz o _ _ _ n t sz' J cs hl
   split at h
   ·rename_i p
    split at h
    ·split at h
     ·cases h;have K:l<s.length:=(List.getElem?_eq_some_iff.1 hl).1;refine ⟨by simp,fun l' hd=>?_,fun l' A=>?_,fun b hb l' A hu=>?_⟩
      ·rw [List.getElem?_set_ne (fun he=>by subst he;rw [hl] at hd;cases hd)];exact hd
      ·rw [List.getElem?_set_ne (by have:=p.2.2.2.2.2.2.1;omega)]
      ·unfold jJ at hu ⊢;rw [List.getElem?_set_ne (by have:=p.2.2.2.2.2.2.2.1;omega)];exact hu
     ·cases h
    ·cases h
   ·cases h
  ·cases h
 ·cases h;exact .refl _ _
 ·split at h
  ·cases h;exact .refl _ _
  ·rename_i l ver sz o _ _ n t sz' J cs hl
   split at h
   ·rename_i p
    split at h
    ·cases h;have K:l<s.length:=(List.getElem?_eq_some_iff.1 hl).1;refine ⟨by simp,fun l' hd=>?_,fun l' A=>?_,fun b hb l' A hu=>?_⟩
     ·rw [List.getElem?_set_ne (fun he=>by subst he;rw [hl] at hd;cases hd)];exact hd
     ·rw [List.getElem?_set_ne (by have:=p.2.2.2.2.2.1;omega)]
     ·unfold jJ at hu ⊢;rw [List.getElem?_set_ne (by have:=p.2.2.2.2.2.2;omega)];exact hu
    ·cases h
   ·cases h
  ·cases h
 ·have h0:∀r:List gq,Ext cx s (s++r):=fun r=>.push I r
  split at h
  ·rename_i hc;cases h;exact (h0 _).trans (x _ _ _ _ _ _ (I.ext (h0 _)) (.inl hc))
  ·rename_i hc
   split at h
   ·cases h;exact (h0 _).trans (x _ _ _ _ _ _ (I.ext (h0 _)) (.inr hc))
   ·cases h
  ·cases h
 ·cases h
theorem zl (A:vJ):∀n,ji (jB A n)
 | 0=>fun fv args s cx r s' _ h=>by simp [jB] at h
 | n+1=>fun fv args s cx r s' p h=>by
  have ih:=zl A n
  cases fv with
  | fn f as cs=>
   cases f with
   | func fid=>
    simp only [jB] at h
    split at h
    ·split at h
     ·rcases h with h|h
      ·cases h;exact .refl _ _
      ·cases h
     ·rcases h with h|h<;>cases h
    ·split at h
     ·rcases h with h|h
      ·exact aaM ih p h
      ·exact (TY h).elim
     ·split at h
      ·exact Zg ih p h
      ·split at h
       ·exact aaO ih p h
       ·rcases h with h|h<;>cases h
   | _=>simp only [jB] at h;rcases h with h|h<;>cases h
  | yl l=>
   simp only [jB] at h;rcases h with h|h
   ·exact ZC ih p h
   ·exact (QM h).elim
  | _=>simp only [jB] at h;rcases h with h|h<;>cases h
end Go.Ai
namespace Go.Ai
variable {P:Program} {glob:Nat→Option (List AV)} {g:ai} {s:St} {B:Nat} {w:World} {env:Env} {a:Act} {o:Oper} {call:AV→List AV→St→Ctx→CO} {cx:Ctx} {e:EV} {env':Env} {s':St}
def ai.bufAt (g:ai) (l b:Nat) (v:Value):ai:={ g with L:=fun l'=>if l'=l then b else g.L l',hist:=fun l'=>if l'=l then fun k=>if k=0 then some v else none else g.hist l' }
def ai.bufNext (g:ai) (l ver:Nat) (v:Value):ai:={ g with hist:=fun l'=>if l'=l then fun k=>if k=ver then some v else g.hist l k else g.hist l' }
theorem Xz {tm:Nat→Value} (h:Sim P glob g s B w tm env) {w':World} (hg:Grew True w w') {b off len cap t sz:Nat} {R:Array Value} {cs:List AV} (hb:w.heap.size≤b) (x:w'.heap[b]?=some (.cells R t (0,0)))
  (K:cs.length=len * sz) (S:len≤cap) (J:cap≤maxLen) (Q:0<sz) (O:off+cap * sz≤R.size) (hr:aX g s.length ((R.toList.drop off).take cs.length) cs) (h1:fC ((R.toList.drop off).take cs.length)):
  Step True g s.length B w (g.bufAt s.length b (.slice (some ⟨b,off,none⟩) len cap)) (s++[gq.buf t sz 0 cs]).length w'∧Sim P glob (g.bufAt s.length b (.slice (some ⟨b,off,none⟩) len cap)) (s++[gq.buf t sz 0 cs]) B w' tm env∧
   g.le s.length (g.bufAt s.length b (.slice (some ⟨b,off,none⟩) len cap)) (s.length+1):=by
 let v:Value:=.slice (some ⟨b,off,none⟩) len cap
 have p:g.le s.length (g.bufAt s.length b v) (s.length+1):=by
  refine ⟨fun _ _ _ h=>h,fun _ _ h=>h,fun l hl=>?_,fun l hl k u hk=>?_,by omega⟩
  ·have:l≠s.length:=by omega
   simp [ai.bufAt,this]
  ·have:l≠s.length:=by omega
   simp only [ai.bufAt,if_neg this];exact hk
 have I:=h.base.imm.fresh hb;have A:=h.base.imm.grew hg;have hp:=h.push (g':=g.bufAt s.length b v) (ob:=.buf t sz 0 cs) hg p (fun l hl=>?_) (fun _ _=>⟨rfl,rfl⟩) (fun c hc=>?_) ⟨A.m,A.mm⟩ ?_
 ·exact ⟨hp.1,hp.2,p⟩
 ·have:l≠s.length:=by omega
  simp [ai.bufAt,this]
 ·have:c=b:=by
   rcases hc with hc|⟨k,u,hk,hu⟩
   ·simp [ai.bufAt] at hc;exact hc.symm
   ·simp only [ai.bufAt,if_true] at hk
    split at hk
    ·cases hk;simp [v,dn] at hu;exact hu.symm
    ·cases hk
  subst this;exact ⟨hb,(Array.getElem?_eq_some_iff.1 x).1⟩
 ·refine ⟨b,off,len,cap,R,by simp [ai.bufAt,v],fun k hk=>?_,⟨I.m,I.mm⟩,K,S,J,Q,x,O,hr.mono p,h1⟩;simp only [ai.bufAt,if_true];rw [if_neg (by omega)]
theorem aga {tm:Nat→Value} (h:Sim P glob g s B w tm env) {l t sz ver:Nat} {b7:List AV} (hl:s[l]?=some (.buf t sz ver b7)) {w':World} {b off len cap:Nat} {b2:Array Value} {cs:List AV}
  (hb:g.bl l b∨w.heap.size≤b) (A:∀c,c<w.heap.size→c≠b→w'.heap[c]?=w.heap[c]?) (Q:w.heap.size≤w'.heap.size) (b4:w'.os=w.os∧w'.output=w.output∧(True→TD w w')) (W:nX g b)
  (Z:w'.heap[b]?=some (.cells b2 t (0,0))) (a7:cs.length=len * sz) (b3:len≤cap) (a6:cap≤maxLen) (a9:off+cap * sz≤b2.size)
  (hr:aX g s.length ((b2.toList.drop off).take cs.length) cs) (h1:fC ((b2.toList.drop off).take cs.length)):
  Step True g s.length B w (g.bufNext l (ver+1) (.slice (some ⟨b,off,none⟩) len cap)) (s.set l (gq.buf t sz (ver+1) cs)).length w'∧
   Sim P glob (g.bufNext l (ver+1) (.slice (some ⟨b,off,none⟩) len cap)) (s.set l (gq.buf t sz (ver+1) cs)) B w' tm env:=by
 let v:Value:=.slice (some ⟨b,off,none⟩) len cap
 have O:l<s.length:=(List.getElem?_eq_some_iff.1 hl).1;obtain ⟨b0,a8,a5,b1,a4,q1,q2,q3,q4,q5,q6,q7,q8,q9,b5,b6⟩:=h.base.heap.obj l _ hl
 have J:g.le s.length (g.bufNext l (ver+1) v) s.length:=by
  refine ⟨fun _ _ _ h=>h,fun _ _ h=>h,fun _ _=>rfl,fun l' _ k u hk=>?_,Nat.le_refl _⟩;simp only [ai.bufNext];split
  ·rename_i he;subst he;show (if k=ver+1 then some v else g.hist l' k)=some u;rw [if_neg (fun he=>by subst he;rw [q2 _ (by omega)] at hk;cases hk)];exact hk
  ·exact hk
 have S:∀c,(g.bufNext l (ver+1) v).bl l c→g.bl l c∨w.heap.size≤c:=by
  rintro c (hc|⟨k,u,hk,hu⟩)
  ·exact .inl (.inl hc)
  ·simp only [ai.bufNext,if_true] at hk
   split at hk
   ·cases hk;simp [v,dn] at hu;subst hu;exact hb
   ·exact .inl (.inr ⟨k,u,hk,hu⟩)
 have a0:∀c,(g.bufNext l (ver+1) v).taken s.length c→g.taken s.length c∨w.heap.size≤c:=by
  rintro c ⟨l',R,hc⟩;by_cases he:l'=l
  ·subst he;rcases S c hc with hc|hc
   ·exact .inl ⟨l',R,hc⟩
   ·exact .inr hc
  ·rcases hc with hc|⟨k,u,hk,hu⟩
   ·exact .inl ⟨l',R,.inl hc⟩
   ·simp only [ai.bufNext,if_neg he] at hk;exact .inl ⟨l',R,.inr ⟨k,u,hk,hu⟩⟩
 have Y:∀c,c<w.heap.size→¬g.taken s.length c→c≠b:=fun c I hn p=>by
  subst p;rcases hb with h' | h'
  ·exact hn ⟨l,O,h'⟩
  ·omega
 have hB:=h.B;have a3:b<w'.heap.size:=(Array.getElem?_eq_some_iff.1 Z).1;rw [List.length_set];refine ⟨⟨J,Q,fun c hc hn=>A c (by omega) (Y c (by omega) hn),fun _ _ _=>rfl,fun _ _=>rfl,fun c hc=>?_,b4⟩,⟨⟨?_, ?_,h.base.glob.mono J⟩, ?_,by omega⟩⟩
 ·rcases a0 c hc with h' | h'
  ·exact .inl h'
  ·exact .inr (by omega)
 ·refine ⟨fun c o' u hu=>?_,fun c es hc=>?_⟩
  ·have p:c≠b:=fun p=>by subst p;have:g.m c o'=some u:=hu;rw [W.m o'] at this;cases this
   rw [World.cell?_of_block (A c (cell_lt (h.base.imm.m c o' u hu)) p)];exact h.base.imm.m c o' u hu
  ·have p:c≠b:=fun p=>by subst p;have:g.mm c=some es:=hc;rw [W.mm] at this;cases this
   exact (h.base.imm.mm c es hc).keep (A c (h.base.imm.mm c es hc).lt p)
 ·refine h.base.heap.setAt O J (fun l' _ K=>by simp [ai.bufNext,K]) S (fun c hc=>?_) Q (fun c I a2=>?_) ?_
  ·rcases S c hc with h' | h'
   ·exact Nat.lt_of_lt_of_le (h.base.heap.lt l c O h') Q
   ·rcases hc with hc|⟨k,u,hk,hu⟩
    ·have:c<w.heap.size:=h.base.heap.lt l c O (.inl hc);omega
    ·simp only [ai.bufNext,if_true] at hk
     split at hk
     ·cases hk;simp [v,dn] at hu;subst hu;exact a3
     ·have:c<w.heap.size:=h.base.heap.lt l c O (.inr ⟨k,u,hk,hu⟩);omega
  ·have K:c≠b:=fun p=>by
    subst p;rcases hb with h' | h'
    ·exact a2 h'
    ·omega
   exact ⟨A c I K,rfl,rfl⟩
  ·refine ⟨b,off,len,cap,b2,by simp [ai.bufNext,v],fun k hk=>?_,⟨W.m,W.mm⟩,a7,b3,a6,q7,Z,a9,hr.mono J,h1⟩;simp only [ai.bufNext,if_true];rw [if_neg (by omega)];exact q2 k (by omega)
 ·rw [List.length_set];refine h.env.next J (fun j x hj hx c a1=>?_);have I:=Bl h.env hj hx a1;have K:=Y c I (h.env.off j x hj hx c a1);refine ⟨A c I K,rfl,rfl,fun ht=>?_⟩;rcases a0 c ht with h' | h'
  ·exact h'
  ·omega
theorem aeg {t t' ty el:TypeId} {d:TypeDesc} {i:TypeInfo} {z:Value} {sz n m c b off:Nat} {xs p:List Value} {x:Value} {A:Array Value} (ht:P.underlying t=some (.slice el)) (W:P.underlying t'=some d) (hd:(∃q,d=.slice q)∨d=.string)
  (hi:P.info? el=some i) (hz:i.zero=some z) (a5:i.size=sz) (a6:z.cells.size=sz) (b2:0<m) (J:w.heap[b]?=some (.cells A el (0,0))) (b1:off+c * sz≤A.size) (b0:n≤c) (a9:c≤maxLen)
  (O:xs=(A.toList.drop off).take (n * sz)) (hx:Src P w sz x m p) (a3:n+m≤aS) (a8:i.bytes≤65536):
  ∃b' off' c' cur' w',(Builtin.append_ #[t,t'] ty #[.slice (some ⟨b,off,none⟩) n c,x]).run P w=.ok (.slice (some ⟨b',off',none⟩) (n+m) c') w'∧w'.heap[b']?=some (.cells cur' el (0,0))∧n+m≤c'∧c'≤maxLen∧
   off'+c' * sz≤cur'.size∧(cur'.toList.drop off').take ((n+m) * sz)=xs++p∧(b'=b∨w.heap.size≤b')∧(∀k,k<w.heap.size→k≠b'→w'.heap[k]?=w.heap[k]?)∧w.heap.size≤w'.heap.size∧w'.os=w.os∧w'.output=w.output∧TD w w':=by
 subst a5;have R:n+m≤1073741824:=a3;have a4:=Nat.mul_le_mul_right i.size b0;have K:xs.length=n * i.size:=by rw [O];simp;omega
 have I:(xs++p).length=(n+m) * i.size:=by rw [List.length_append,K,hx.size,Nat.add_mul]
 have a2:qm w b off xs:=by
  rw [O]
  have:=((rU J).drop off).take (n * i.size)
  simpa using this
 by_cases hroom:n+m≤c
 ·have a0:=Nat.mul_le_mul_right i.size hroom;rw [Nat.add_mul] at a0;have a7:=hx.size;have Q:=run_storeCells_at P b (off+n * i.size) el p 0 A w J (by omega) hx.one;simp only [Nat.add_zero] at Q;refine ⟨b,off,c,_,w.setRow b (A.toList.take (off+n * i.size)++p++A.toList.drop (off+n * i.size+p.length)).toArray, ?_,jE J,hroom,a9, ?_, ?_,.inl rfl,fun k _ hk=>aW _ hk,by simp,rfl,rfl,⟨rfl,Nat.le_refl _⟩⟩
  ·rcases hd with ⟨q,rfl⟩|rfl<;>simp [Builtin.append_,run_underlying ht,run_underlying W,sizeOf,typeInfo,hi,hx.len,hroom,hx.cells w rfl,Addr.add_lit,Q]
  ·simp;omega
  ·rw [←I,O];simp only [List.toList_toArray];apply List.ext_getElem?;intro j;simp only [List.getElem?_take,List.getElem?_drop,List.getElem?_append,List.length_append,List.length_take,List.length_drop,Array.length_toList];by_cases c1:j<n * i.size
   ·simp [c1,show j<min (n * i.size) (A.size - off)+p.length by omega,show off+j<min (off+n * i.size) A.size+p.length by omega,show off+j<min (off+n * i.size) A.size by omega,show j<min (n * i.size) (A.size - off) by omega]
   ·by_cases c2:j<n * i.size+p.length
    ·simp [show j<min (n * i.size) (A.size - off)+p.length by omega,show off+j<min (off+n * i.size) A.size+p.length by omega,show ¬off+j<min (off+n * i.size) A.size by omega,show ¬j<min (n * i.size) (A.size - off) by omega]
     congr 1;omega
    ·simp [show ¬j<min (n * i.size) (A.size - off)+p.length by omega,show ¬j<min (n * i.size) (A.size - off) by omega];omega
 ·have Y:=grownCap_ge w (n+m) c el
  have S:¬(281474976710656<Builtin.nextslicecap (n+m) c * i.bytes):=by
   have h1:=nextslicecap_le (show c<n+m by omega);have h2:Builtin.nextslicecap (n+m) c * i.bytes≤2147483648 * 65536:=Nat.mul_le_mul (by omega) a8;omega
  have Z:¬(9223372036854775807<((n:Int)+(m:Int))):=by omega
  have a1:(Builtin.firstCells i.size n (.slice (some ⟨b,off,none⟩) n c)).run P w.drew=.ok xs.toArray w.drew:=x9 K a2;refine ⟨w.heap.size,0,grownCap w (n+m) c el,xs.toArray++p.toArray++Builtin.zeroCells z.cells (grownCap w (n+m) c el - (n+m)),w.drew.alloc (.cells (xs.toArray++p.toArray++Builtin.zeroCells z.cells (grownCap w (n+m) c el - (n+m))) el), ?_,heap_alloc_new w.drew _,Y,grownCap_le_maxLen w _ _ _ (by simp only [maxLen];omega), ?_, ?_,.inr (Nat.le_refl _),fun k hk _=>heap_alloc_old w.drew _ k hk,show w.heap.size≤(w.heap.push _).size by simp,rfl,rfl,⟨rfl,Nat.le_succ _⟩⟩
  ·rcases hd with ⟨q,rfl⟩|rfl<;>simp [Builtin.append_,run_underlying ht,run_underlying W,sizeOf,typeInfo,zeroValue,hi,hz,hx.len,hroom,Z,S,Question.forced,a1,hx.cells w.drew rfl,newRow,grownCap]<;>(congr 2;apply Array.ext';simp [List.append_assoc])
  ·simp only [Nat.zero_add,Array.size_append,List.size_toArray,size_zeroCells,a6];rw [K,hx.size,←Nat.add_mul,←Nat.add_mul];refine Nat.le_of_eq ?_
   congr 1;omega
  ·rw [←I];simp only [List.drop_zero,Array.toList_append];rw [List.take_left'];rfl
theorem Vg {t t' ty el:TypeId} {d:TypeDesc} {i:TypeInfo} {z:Value} {sz m:Nat} {ad:Addr} {p:List Value} {x:Value} (ht:P.underlying t=some (.slice el)) (R:P.underlying t'=some d) (hd:(∃q,d=.slice q)∨d=.string)
  (hi:P.info? el=some i) (hz:i.zero=some z) (W:i.size=sz) (S:z.cells.size=sz) (Z:0<m) (hx:Src P w sz x m p) (Q:m≤aS) (Y:i.bytes≤65536):
  ∃b' off' c' cur' w',(Builtin.append_ #[t,t'] ty #[.slice (some ad) 0 0,x]).run P w=.ok (.slice (some ⟨b',off',none⟩) m c') w'∧w'.heap[b']?=some (.cells cur' el (0,0))∧m≤c'∧c'≤maxLen∧
   off'+c' * sz≤cur'.size∧(cur'.toList.drop off').take (m * sz)=p∧w.heap.size≤b'∧(∀k,k<w.heap.size→k≠b'→w'.heap[k]?=w.heap[k]?)∧w.heap.size≤w'.heap.size∧w'.os=w.os∧w'.output=w.output∧TD w w':=by
 subst W;have A:m≤1073741824:=Q;have J:=grownCap_ge w m 0 el
 have I:¬(281474976710656<Builtin.nextslicecap m 0 * i.bytes):=by
  have h1:=nextslicecap_le (show 0<m by omega);have h2:Builtin.nextslicecap m 0 * i.bytes≤2147483648 * 65536:=Nat.mul_le_mul (by omega) Y;omega
 have K:¬(9223372036854775807<(m:Int)):=by omega
 have hm:m≠0:=by omega
 have O:(Builtin.firstCells i.size 0 (.slice (some ad) 0 0)).run P w.drew=.ok #[] w.drew:=by
  simpa [Builtin.firstCells] using run_loadCells_list (P:=P) w.drew ad [] (fun j v hv=>by simp at hv)
 refine ⟨w.heap.size,0,grownCap w m 0 el,p.toArray++Builtin.zeroCells z.cells (grownCap w m 0 el - m),w.drew.alloc (.cells (p.toArray++Builtin.zeroCells z.cells (grownCap w m 0 el - m)) el), ?_,heap_alloc_new w.drew _,J,grownCap_le_maxLen w _ _ _ (by simp only [maxLen];omega), ?_, ?_,Nat.le_refl _,fun k hk _=>heap_alloc_old w.drew _ k hk,show w.heap.size≤(w.heap.push _).size by simp,rfl,rfl,⟨rfl,Nat.le_succ _⟩⟩
 ·rcases hd with ⟨q,rfl⟩|rfl<;>simp [Builtin.append_,run_underlying ht,run_underlying R,sizeOf,typeInfo,zeroValue,hi,hz,hx.len,hm,K,I,Question.forced,O,hx.cells w.drew rfl,newRow,grownCap]
 ·simp only [Nat.zero_add,Array.size_append,List.size_toArray,size_zeroCells,S];rw [hx.size,←Nat.add_mul];refine Nat.le_of_eq ?_
  congr 1;omega
 ·rw [←hx.size];simp only [List.drop_zero,Array.toList_append];rw [List.take_left'];rfl
theorem NZ {el sz:Nat} {x y:IX} (h:Sim P glob g s B w (Act.tm a) env) (hc:aO P o.op (.appk el sz x y)=true) (hr:aop glob call cx env s (.appk el sz x y)=.ok e env' s'):Good P glob g s B w a (execOp a.eval o) e env' s':=by
 simp only [aO] at hc
 split at hc
 ·rename_i c b7
  split at hc
  ·rename_i ts x' y' a7 a0
   split at hc
   ·rename_i t t' a5;simp only [Bool.and_eq_true,beq_iff_eq] at hc;obtain ⟨⟨⟨⟨rfl,hx⟩,hy⟩,hsl⟩,hinf⟩:=hc;obtain ⟨hu,c6⟩:=pG hsl;obtain ⟨i,hi,a3⟩:=pI c6;rw [hi] at hinf;simp only [Option.any_some,Bool.and_eq_true,decide_eq_true_eq] at hinf;obtain ⟨b3,a4⟩:=hinf
    cases hz:i.zero with
    | none=>simp [hz] at a4
    | some z=>
    simp [hz] at a4;simp only [aop] at hr
    split at hr
    ·-- a new row
     rename_i ys a6 a9
     split at hr
     ·rename_i K;obtain ⟨b0,R,Q,a2⟩:=K;cases hr;have I:∀y∈ys,y.cells.length=sz:=fun y hy=>by simpa using List.all_eq_true.1 Q y hy
      obtain ⟨a1,q1,q2⟩:=qX hy h a6 I
      have b9:a.eval x'=.slice none 0 0:=by
       have:=oh (a:=a) hx h.env h.base.glob a9
       generalize a.eval x'=ax at this;cases this;rfl
      obtain ⟨v',w',r1,r2,r3⟩:=Qs (ty:=o.type) (B:=0) hu hu (.inl ⟨_,rfl⟩) hi hz a3 a4 (World.ownsRow_nil w 0 el sz) q1 (by simpa using a2) b3 (Nat.zero_le _);simp only [Nat.zero_add,List.nil_append] at r2;have S:(execOp a.eval o).run P w=.ok (.value v') w':=kC b7 a7 a0 a5 (by rw [b9];exact r1);rcases r3 with ⟨gb,b4,e1,_⟩|⟨c2,b2⟩
      ·simp [dn] at e1
      ·rcases r2.2 with ⟨_,hn⟩|⟨gb,cap,b4,hv,_,hg,b6,d1,d6,a8⟩
       ·omega
       ·have O:(ys.flatMap AV.cells).length=ys.length * sz:=yu I;obtain ⟨st,sm,c8⟩:=Xz (t:=el) (sz:=sz) (len:=ys.length) (cap:=cap) (off:=0) h c2 (b2 gb (by simp [hv,dn])) hg O b6 d1 b0 (by omega) (by rw [O,List.drop_zero,a8];exact q2) (by rw [O,List.drop_zero,a8];exact q1.one);refine ⟨v',w',_,.inl S,st,sm,.v ?_⟩;rw [hv]
        simpa using Rep.sk (g:=g.bufAt s.length gb (.slice (some ⟨gb,0,none⟩) ys.length cap)) (n:=(s++[gq.buf el sz 0 (ys.flatMap AV.cells)]).length) s.length 0 sz 0 ys.length gb 0 ys.length cap cap (by simp) (by simp [ai.bufAt]) (by omega) b6 (by omega)
     ·cases hr
    ·-- a new row,behind an empty one
     rename_i ys a6 a9
     split at hr
     ·rename_i K;obtain ⟨b0,R,Q,a2⟩:=K;cases hr;have I:∀y∈ys,y.cells.length=sz:=fun y hy=>by simpa using List.all_eq_true.1 Q y hy
      obtain ⟨a1,q1,q2⟩:=qX hy h a6 I
      obtain ⟨ad,b9⟩:∃ad,a.eval x'=.slice (some ad) 0 0:=by
       have:=oh (a:=a) hx h.env h.base.glob a9
       generalize a.eval x'=ax at this;cases this;exact ⟨_,rfl⟩
      obtain ⟨b',p,c',J,w',e1,e2,e3,e4,e5,e6,e7,e8,e9,Z,Y,W⟩:=Vg (ty:=o.type) (ad:=ad) hu hu (.inl ⟨_,rfl⟩) hi hz a3 a4 R q1 (by omega) b3;have S:(execOp a.eval o).run P w=.ok (.value _) w':=kC b7 a7 a0 a5 (by rw [b9];exact e1);have O:(ys.flatMap AV.cells).length=ys.length * sz:=yu I;obtain ⟨st,sm,c8⟩:=Xz (t:=el) (sz:=sz) (len:=ys.length) (cap:=c') (off:=p) h ⟨e9,fun k hk=>e8 k hk (by omega),Z,Y,fun _=>W⟩ e7 e2 O e3 e4 b0 e5 (by rw [O,e6];exact q2) (by rw [O,e6];exact q1.one);refine ⟨_,w',_,.inl S,st,sm,.v ?_⟩
      simpa using Rep.sk (g:=g.bufAt s.length b' (.slice (some ⟨b',p,none⟩) ys.length c')) (n:=(s++[gq.buf el sz 0 (ys.flatMap AV.cells)]).length) s.length 0 sz 0 ys.length b' p ys.length c' c' (by simp) (by simp [ai.bufAt]) (by omega) e3 (by omega)
     ·cases hr
    ·-- a row that is there
     rename_i ys l ver A o2 m a6 a9
     split at hr
     ·rename_i t2 d5 d4 cs hl
      split at hr
      ·rename_i K;obtain ⟨rfl,rfl,rfl,rfl,R,Q,a2,c5,_,_⟩:=K;cases hr;have I:∀y∈ys,y.cells.length=A:=fun y hy=>by simpa using List.all_eq_true.1 Q y hy
       obtain ⟨a1,q1,q2⟩:=qX hy h a6 I;have c9:l<s.length:=(List.getElem?_eq_some_iff.1 hl).1;obtain ⟨b,off,len,cap,b4,p1,p2,p3,p4,p5,p6,p7,p8,p9,c4,c7⟩:=h.base.heap.obj l _ hl;have b5:=oh (a:=a) hx h.env h.base.glob a9;have d3:cs.length≤cap * A:=by rw [p4];exact Nat.mul_le_mul_right A p5
       have O:(ys.flatMap AV.cells).length=ys.length * A:=yu I
       have b8:((cs.drop o2).take (m * A)++ys.flatMap AV.cells).length=(m+ys.length) * A:=by
        rw [List.length_append,O,Nat.add_mul];simp;omega
       -- the common end
       have c0:∀b' p c' J w',(Builtin.append_ #[t,t] o.type #[a.eval x',a.eval y']).run P w=.ok (.slice (some ⟨b',p,none⟩) (m+ys.length) c') w'→w'.heap[b']?=some (.cells J el (0,0))→m+ys.length≤c'→c'≤maxLen→
         p+c' * A≤J.size→(J.toList.drop p).take ((m+ys.length) * A)=(((b4.toList.drop off).take cs.length).drop o2).take (m * A)++a1→(b'=b∨w.heap.size≤b')→(∀k,k<w.heap.size→k≠b'→w'.heap[k]?=w.heap[k]?)→w.heap.size≤w'.heap.size→w'.os=w.os→w'.output=w.output→TD w w'→
         Good P glob g s B w a (execOp a.eval o) (.v (.sk l (ver+1) A 0 (m+ys.length))) env (s.set l (gq.buf el A (ver+1) ((cs.drop o2).take (m * A)++ys.flatMap AV.cells))):=by
        intro b' p c' J w' e1 e2 e3 e4 e5 e6 e7 e8 e9 Z Y W;have d0:g.bl l b'∨w.heap.size≤b':=e7.imp (fun hb=>by subst hb;exact .inr ⟨ver,_,p1,rfl⟩) id
        have d2:nX g b':=by
         rcases e7 with rfl|hb
         ·exact p3
         ·exact h.base.imm.fresh hb
        have c3:fC ((((b4.toList.drop off).take cs.length).drop o2).take (m * A)++a1):=fun u hu=>(List.mem_append.1 hu).elim (((c7.drop o2).take _) u) (q1.one u);obtain ⟨st,sm⟩:=aga (len:=m+ys.length) h hl d0 e8 e9 ⟨Z,Y,fun _=>W⟩ d2 e2 b8 e3 e4 e5 (by rw [b8,e6];exact ((c4.drop o2).take _).append q2) (by rw [b8,e6];exact c3);have S:(execOp a.eval o).run P w=.ok (.value _) w':=kC b7 a7 a0 a5 e1;refine ⟨_,w',_,.inl S,st,sm,.v ?_⟩
        simpa using Rep.sk (g:=g.bufNext l (ver+1) (.slice (some ⟨b',p,none⟩) (m+ys.length) c')) (n:=(s.set l (gq.buf el A (ver+1) ((cs.drop o2).take (m * A)++ys.flatMap AV.cells))).length) l (ver+1) A 0 (m+ys.length) b' p (m+ys.length) c' c' (by simpa using c9) (by simp [ai.bufNext]) (by omega) e3 (by omega)
       generalize hax:a.eval x'=ax at b5 c0
       cases b5 with
       | skE _ _ _ _ ad hk=>
        obtain ⟨b',p,c',J,w',e1,e2,e3,e4,e5,e6,e7,e8,e9,Z,Y,W⟩:=Vg (ty:=o.type) (ad:=ad) hu hu (.inl ⟨_,rfl⟩) hi hz a3 a4 R q1 (by omega) b3;refine c0 b' p c' J w' (by simpa using e1) e2 (by omega) e4 e5 ?_ (.inr e7) e8 e9 Z Y W
        simpa using e6
       | sk _ _ _ _ _ b1 off1 len1 cap1 c1 hk hh ho hc2 hcc=>
        rw [p1] at hh;cases hh
        obtain ⟨b',p,c',J,w',e1,e2,e3,e4,e5,e6,e7,e8,e9,Z,Y,W⟩:=aeg (ty:=o.type) (off:=off+o2) (n:=m) (c:=c1) hu hu (.inl ⟨_,rfl⟩) hi hz a3 a4 R p8 (by omega) hc2 (by
         have:c1 * A≤cap * A:=by omega
         have:=Nat.le_of_mul_le_mul_right this p7
         omega) rfl q1 a2 b3
        refine c0 b' p c' J w' e1 e2 e3 e4 e5 ?_ e7 e8 e9 Z Y W;rw [e6]
        congr 1
        rw [List.drop_take,List.take_take,List.drop_drop,Nat.min_eq_left (by omega)]
      ·cases hr
     ·cases hr
    ·cases hr
   ·cases hc
  ·cases hc
 ·cases hc
theorem zG {t ty el:TypeId} {i:TypeInfo} {sz len cap:Nat} {x:Option Addr} {p:List Value} {y:Value} (ht:P.underlying t=some (.slice el)) (hi:P.info? el=some i) (I:i.size=sz) (A:len≤cap) (hx:Src P w sz y 0 p):
  (Builtin.append_ #[t,t] ty #[.slice x len cap,y]).run P w=.ok (.slice x len cap) w:=by
 subst I;have hn:p=[]:=List.eq_nil_of_length_eq_zero (by have:=hx.size;omega);subst hn
 cases x<;>simp [Builtin.append_,run_underlying ht,sizeOf,typeInfo,hi,hx.len,A,hx.cells w rfl,storeCells]
theorem LJ {zs:Array Value} {sz:Nat} (hz:zs.size=sz) (p:0<sz) (n:Nat):(madeCells zs (n * sz)).toList=(List.replicate n zs.toList).flatten:=by
 apply List.ext_getElem?;intro j
 have key:∀n j,(List.replicate n zs.toList).flatten[j]?=if j<n * sz then zs[j % sz]? else none:=by
  intro n
  induction n with
  | zero=>intro j;simp
  | succ n ih=>
   intro j;rw [List.replicate_succ,List.flatten_cons,List.getElem?_append];simp only [Array.length_toList,hz];by_cases hj:j<sz
   ·rw [if_pos hj,if_pos (by rw [Nat.succ_mul];omega),Nat.mod_eq_of_lt hj];simp
   ·rw [if_neg hj,ih,Nat.succ_mul];by_cases h2:j - sz<n * sz
    ·rw [if_pos h2,if_pos (by omega),Nat.mod_eq_sub_mod (a:=j) (b:=sz) (by omega)]
    ·rw [if_neg h2,if_neg (by omega)]
 rw [key];by_cases hj:j<n * sz
 ·rw [if_pos hj];have hm:j % sz<zs.size:=by rw [hz];exact Nat.mod_lt _ p
  simp [madeCells,hj,hz,hm];rw [Array.getElem?_eq_getElem hm];simp [hm,getElem!_pos]
 ·rw [if_neg hj];simp [madeCells];omega
theorem Bh {vs:List Value} {as:List AV} {N:Nat} (h:aX g N vs as):∀n,aX g N (List.replicate n vs).flatten (List.replicate n as).flatten
 | 0=>.nil _ _
 | n+1=>by rw [List.replicate_succ,List.replicate_succ,List.flatten_cons,List.flatten_cons];exact h.append (Bh h n)
theorem aef {t t' ty el:TypeId} {i:TypeInfo} {z:Value} {sz m:Nat} (ht:P.underlying t=some (.slice el)) (R:P.underlying t'=some (.int .i64))
  (hi:P.info? el=some i) (hz:i.zero=some z) (Q:i.size=sz) (S:z.cells.size=sz) (W:0<m) (Y:0<sz) (O:m≤16777216) (I:i.bytes≤65536):
  (Builtin.append_ #[t,t'] ty #[.slice none 0 0,.int .i64 (m:Int)]).run P w=.ok (.slice (some ⟨w.heap.size,0,none⟩) m (grownCap w m 0 el)) (w.drew.alloc (.cells (Builtin.zeroCells z.cells m++Builtin.zeroCells z.cells (grownCap w m 0 el - m)) el)):=by
 subst Q
 have A:¬(281474976710656<Builtin.nextslicecap m 0 * i.bytes):=by
  have h1:=nextslicecap_le (show 0<m by omega);have h2:Builtin.nextslicecap m 0 * i.bytes≤33554432 * 65536:=Nat.mul_le_mul (by omega) I;omega
 have x:¬(9223372036854775807<(m:Int)):=by omega
 have hm:m≠0:=by omega
 have hw:IntKind.i64.wrap (m:Int)=(m:Int):=by rw [IntKind.wrap_i64];omega
 have hb:¬(281474976710656<(m:Int) * (i.bytes:Int)):=by
  have h2:m * i.bytes≤16777216 * 65536:=Nat.mul_le_mul O I;have h3:((m * i.bytes:Nat):Int)≤281474976710656:=by omega
  rw [Int.natCast_mul] at h3;omega
 have K:¬(m * i.size=0):=by
  intro h;rcases Nat.mul_eq_zero.1 h with h|h<;>omega
 have p:¬((m:Int)<0):=by omega
 have J:(Builtin.firstCells i.size 0 (.slice none 0 0)).run P w.drew=.ok #[] w.drew:=by simp [Builtin.firstCells]
 simp [Builtin.append_,run_underlying ht,run_underlying R,sizeOf,typeInfo,zeroValue,hi,hz,hm,x,A,Question.forced,J,newRow,grownCap,asInt,asIntOf,hw,hb,K,p]
theorem adp {el sz:Nat} {zs:List AV} {x y:IX} (h:Sim P glob g s B w (Act.tm a) env) (hc:aO P o.op (.appz el sz zs x y)=true) (hr:aop glob call cx env s (.appz el sz zs x y)=.ok e env' s'):Good P glob g s B w a (execOp a.eval o) e env' s':=by
 simp only [aO] at hc
 split at hc
 case h_2=>cases hc
 rename_i c a4
 split at hc
 case h_2=>cases hc
 rename_i ts x' y' Y R
 split at hc
 case h_2=>cases hc
 rename_i t t' S;simp only [Bool.and_eq_true] at hc;obtain ⟨⟨⟨⟨⟨p,hx⟩,hy⟩,hsl⟩,hzi⟩,hby⟩:=hc;obtain ⟨hu,b1⟩:=pG hsl;obtain ⟨i,z,hi,hz,a6⟩:=uO hzi;obtain ⟨i',a3,a0⟩:=pI b1;rw [hi] at a3 hby;cases a3;simp only [Option.any_some,decide_eq_true_eq] at hby;obtain ⟨z1,z2⟩:=sV a6 g s.length;simp only [aop] at hr
 split at hr
 case h_2=>cases hr
 rename_i n a9 hn
 split at hr
 case isFalse=>cases hr
 rename_i O;obtain ⟨I,b2,h0,J⟩:=O;cases hr;have a8:=uz (aK (a:=a) hy h.env h.base.glob hn);have A:z.cells.size=sz:=by have:=z1.1;simp at this;omega
 obtain ⟨k,rfl⟩:=Int.eq_ofNat_of_zero_le (show 0≤n by omega);simp only [Int.toNat_natCast] at J ⊢
 have b0:a.eval x'=.slice none 0 0:=by
  have:=oh (a:=a) hx h.env h.base.glob a9
  generalize a.eval x'=ax at this;cases this;rfl
 have a7:P.underlying t'=some (.int .i64):=by
  unfold isInt at p
  split at p
  ·rename_i k' hk;rw [hk];simp at p;rw [p]
  ·cases p
 have a5:0<k:=by omega
 have a1:=aef (w:=w) (ty:=o.type) hu a7 hi hz a0 A a5 I J hby;have Z:=grownCap_ge w k 0 el;have W:(Builtin.zeroCells z.cells k).size=k * sz:=by rw [size_zeroCells,A]
 have K:(Builtin.zeroCells z.cells k).toList=(List.replicate k z.cells.toList).flatten:=by
  have:=LJ A I k
  rw [←this];apply List.ext_getElem?;intro j;simp [madeCells,Builtin.zeroCells,A]
 have Q:(List.replicate k zs).flatten.length=k * sz:=by simp [b2]
 have b3:=Bh z1 k
 have a2:((Builtin.zeroCells z.cells k++Builtin.zeroCells z.cells (grownCap w k 0 el - k)).toList.drop 0).take (k * sz)=(List.replicate k z.cells.toList).flatten:=by
  rw [List.drop_zero,Array.toList_append,List.take_left' (by rw [Array.length_toList,W]),K]
 obtain ⟨st,sm,b4⟩:=Xz (t:=el) (sz:=sz) (len:=k) (cap:=grownCap w k 0 el) (off:=0) h ⟨show w.heap.size≤(w.heap.push _).size by simp,fun b hb=>heap_alloc_old w.drew _ b hb,rfl,rfl,fun _=>⟨rfl,Nat.le_succ _⟩⟩ (Nat.le_refl _) (heap_alloc_new w.drew (.cells (Builtin.zeroCells z.cells k++Builtin.zeroCells z.cells (grownCap w k 0 el - k)) el)) Q Z (grownCap_le_maxLen w _ _ _ (by simp only [maxLen];omega)) I (by
   rw [Nat.zero_add,Array.size_append,W,size_zeroCells,A,←Nat.add_mul];refine Nat.le_of_eq ?_
   congr 1;omega)
  (by rw [Q,a2];exact b3) (by
   rw [Q,a2];intro v hv;simp only [List.mem_flatten,List.mem_replicate] at hv;obtain ⟨l',⟨_,rfl⟩,hv⟩:=hv
   exact z2 v hv)
 refine ⟨.slice (some ⟨w.heap.size,0,none⟩) k (grownCap w k 0 el),_,_,.inl ?_,st,sm,.v ?_⟩
 ·exact kC a4 Y R S (by rw [b0,a8];exact a1)
 ·simpa using Rep.sk (g:=g.bufAt s.length w.heap.size (.slice (some ⟨w.heap.size,0,none⟩) k (grownCap w k 0 el))) (n:=(s++[gq.buf el sz 0 (List.replicate k zs).flatten]).length) s.length 0 sz 0 k w.heap.size 0 k (grownCap w k 0 el) (grownCap w k 0 el) (by simp) (by simp [ai.bufAt]) (by omega) Z (by omega)
theorem ado {x:IX} (h:Sim P glob g s B w (Act.tm a) env) (hc:aO P o.op (.capn x)=true) (hr:aop glob call cx env s (.capn x)=.ok e env' s'):Good P glob g s B w a (execOp a.eval o) e env' s':=by
 simp only [aO] at hc
 split at hc
 case h_2=>cases hc
 rename_i c Q
 split at hc
 case h_2=>cases hc
 rename_i x' t J p A;simp only [Bool.and_eq_true] at hc;obtain ⟨hx,I⟩:=hc
 obtain ⟨el,hu⟩:∃el,P.underlying t=some (.slice el):=by
  split at I
  ·rename_i el hu;exact ⟨el,hu⟩
  ·cases I
 simp only [aop] at hr
 split at hr
 case h_2=>cases hr
 rename_i K;cases hr
 have O:a.eval x'=.slice none 0 0:=by
  have:=oh (a:=a) hx h.env h.base.glob K
  generalize a.eval x'=ax at this;cases this;rfl
 rw [yx (a:=a) Q J];have ha:c.args.map a.eval=#[a.eval x']:=by apply Array.toList_inj.1;simp [p]
 have ht:c.argTypes=#[t]:=by apply Array.toList_inj.1;simp [A]
 rw [ha,ht,O];refine .val h ?_ (.i _ _);refine aU ?_;simp [builtin,Builtin.cap_,run_underlying hu,goInt]
theorem adq {el sz:Nat} {x y:IX} (h:Sim P glob g s B w (Act.tm a) env) (hc:aO P o.op (.appe el sz x y)=true) (hr:aop glob call cx env s (.appe el sz x y)=.ok e env' s'):Good P glob g s B w a (execOp a.eval o) e env' s':=by
 cases hy:elems glob env y with
 | none=>exact NZ (call:=call) (cx:=cx) h hc (by rw [←hr];simp only [aop,hy])
 | some ys=>
  cases ys with
  | cons y0 ys=>exact NZ (call:=call) (cx:=cx) h hc (by rw [←hr];simp only [aop,hy])
  | nil=>
   simp only [aop,hy] at hr;have a1:=hc;simp only [aO] at hc
   split at hc
   case h_2=>cases hc
   rename_i c S
   split at hc
   case h_2=>cases hc
   rename_i ts x' y' K I
   split at hc
   case h_2=>cases hc
   rename_i t t' J;simp only [Bool.and_eq_true,beq_iff_eq] at hc;obtain ⟨⟨⟨⟨rfl,hx⟩,hyy⟩,hsl⟩,hinf⟩:=hc;obtain ⟨hu,Y⟩:=pG hsl;obtain ⟨i,hi,A⟩:=pI Y;have Q:∀z∈([]:List AV),z.cells.length=sz:=fun z hm=>absurd hm List.not_mem_nil;have R:=qX hyy h hy Q;obtain ⟨Z,q1,q2⟩:=R
   split at hr
   ·rename_i O;simp only [RO.ok.injEq] at hr;obtain ⟨rfl,rfl,rfl⟩:=hr
    have W:a.eval x'=.slice none 0 0:=by
     have:=oh (a:=a) hx h.env h.base.glob O
     generalize a.eval x'=ax at this;cases this;rfl
    refine ⟨.slice none 0 0,w,g,.inl ?_,.refl _ _ _ _,h,.v .ns⟩;exact kC S K I J (by rw [W];exact zG hu hi A (Nat.le_refl _) q1)
   ·rename_i l ver a0 o2 m O;simp only [RO.ok.injEq] at hr;obtain ⟨rfl,rfl,rfl⟩:=hr;have p:=oh (a:=a) hx h.env h.base.glob O;refine ⟨a.eval x',w,g,.inl ?_,.refl _ _ _ _,h,.v p⟩;refine kC S K I J ?_;generalize a.eval x'=ax at p
    cases p with
    | skE=>exact zG hu hi A (Nat.le_refl _) q1
    | sk=>exact zG hu hi A (by assumption) q1
   ·cases hr
theorem Si {α:Type} (L F:List α) (a o n:Nat) (h1:o+F.length≤n) (h2:a+n≤L.length):
  ((L.take (a+o)++F++L.drop (a+o+F.length)).drop a).take n=((L.drop a).take n).take o++F++((L.drop a).take n).drop (o+F.length):=by
 apply List.ext_getElem?;intro i;simp only [List.getElem?_take,List.getElem?_drop,List.getElem?_append,List.length_append,List.length_take,List.length_drop];have e1:min (a+o) L.length=a+o:=by omega
 have e2:min o (min n (L.length - a))=o:=by omega
 rw [e1,e2]
 (repeat' split)<;>first|rfl|omega | (congr 1;omega)
theorem adK {tm:Nat→Value} (h:Sim P glob g s B w tm env) {l o ty sz ver:Nat} {cs:List AV} (hl:s[l]?=some (.buf ty sz ver cs))
  {b off len cap:Nat} (hh:g.hist l ver=some (.slice (some ⟨b,off,none⟩) len cap)) {us:List Value} {vs:List AV} (r1:aX g s.length us vs) (r2:fC us) (a3:o+vs.length≤cs.length):
  ∃w',(storeCells ⟨b,off+o,none⟩ us 0).run P w=.ok () w'∧Step True g s.length B w g s.length w'∧Sim P glob g (s.set l (.buf ty sz ver (splice cs o vs))) B w' tm env:=by
 have A:l<s.length:=(List.getElem?_eq_some_iff.1 hl).1;obtain ⟨b',Z,Y,a0,K,q1,q2,q3,q4,q5,q6,q7,q8,q9,S,W⟩:=h.base.heap.obj l _ hl;rw [hh] at q1;cases q1;have a2:us.length=vs.length:=r1.1;have a1:cs.length≤cap * sz:=by rw [q4];exact Nat.mul_le_mul_right sz q5
 have I:g.bl l b:=.inr ⟨ver,_,hh,rfl⟩;have Q:=run_storeCells_at P b (off+o) ty us 0 K w q8 (by omega) r2;refine ⟨_,Q,⟨.refl _ _,by simp,fun c hc R=>aW _ (fun p=>R (by subst p;exact ⟨l,A,I⟩)),fun _ _ _=>rfl,fun _ _=>rfl,fun b hb=>.inl hb,rfl,rfl,fun _=>⟨rfl,Nat.le_refl _⟩⟩,⟨⟨?_, ?_,h.base.glob⟩, ?_,by simpa using h.B⟩⟩
 ·refine ⟨fun c o' v' J=>?_,fun c es hc=>?_⟩
  ·have p:c≠b:=fun p=>by subst p;rw [q3.m o'] at J;cases J
   rw [World.cell?_of_block (aW _ p)];exact h.base.imm.m c o' v' J
  ·have p:c≠b:=fun p=>by subst p;rw [q3.mm] at hc;cases hc
   exact (h.base.imm.mm c es hc).keep (aW _ p)
 ·refine h.base.heap.setAt A (.refl _ _) (fun _ _ _=>rfl) (fun b hb=>.inl hb) (fun b hb=>by simpa using h.base.heap.lt l b A hb) (by simp) (fun c _ hc=>⟨aW _ (fun p=>hc (by subst p;exact I)),rfl,rfl⟩) ?_;have O:(splice cs o vs).length=cs.length:=by simp [splice];omega
  have x:=Si K.toList us off o cs.length (by omega) (by simp;omega);refine ⟨b,off,len,cap,_,hh,q2,q3,by omega,q5,q6,q7,jE q8,by simp;omega, ?_, ?_⟩
  ·rw [O];simp only [List.toList_toArray,Nat.add_zero];rw [x];exact xI S r1 o
  ·rw [O];simp only [List.toList_toArray,Nat.add_zero];rw [x];exact uj W r2 o _
 ·simp only [List.length_set];refine h.env.next (.refl _ _) (fun k e hk ho c hc=>⟨aW _ (fun p=>?_),rfl,rfl,fun ht=>ht⟩);exact h.env.off k e hk ho c hc (by subst p;exact ⟨l,A,I⟩)
theorem adn {zs:List AV} {x:IX} (h:Sim P glob g s B w (Act.tm a) env) (hc:aO P o.op (.clrk zs x)=true) (hr:aop glob call cx env s (.clrk zs x)=.ok e env' s'):Good P glob g s B w a (execOp a.eval o) e env' s':=by
 simp only [aO] at hc
 split at hc
 case h_2=>cases hc
 rename_i c Z
 split at hc
 case h_2=>cases hc
 rename_i x' t R O Q;simp only [Bool.and_eq_true] at hc;obtain ⟨hx,hz⟩:=hc
 split at hz
 case h_2=>cases hz
 rename_i el hu;obtain ⟨i,z,hi,Y,a0⟩:=uO hz;obtain ⟨z1,z2⟩:=sV a0 g s.length;have ha:c.args.map a.eval=#[a.eval x']:=by apply Array.toList_inj.1;simp [O]
 have ht:c.argTypes=#[t]:=by apply Array.toList_inj.1;simp [Q]
 have K:=yx (a:=a) Z R;rw [ha,ht] at K;simp only [aop] at hr
 split at hr
 case h_2=>cases hr
 rename_i l ver sz o' m a1;have p:=aK (a:=a) hx h.env h.base.glob a1;have W:Rep g s.length (.tuple #[]) (.tu []):=.tu #[] [] rfl (fun i hi=>by simp at hi)
 split at hr
 ·cases hr;refine .val h ?_ W;rw [K];refine aU ?_;generalize a.eval x'=ax at p
  cases p with
  | sk _ _ _ _ _ b off len cap c hl hh ho hc hcc=>simp [builtin,Builtin.clear_,run_underlying hu]
  | skE _ _ _ _ ad hl=>simp [builtin,Builtin.clear_,run_underlying hu]
 ·rename_i n ty sz' a4 cs hl
  split at hr
  case isFalse=>cases hr
  rename_i J;obtain ⟨rfl,rfl,S,a2,a3,_,_⟩:=J;cases hr;have A:z.cells.size=sz:=by have:=z1.1;simp at this;omega
  have I:(Builtin.zeroCells z.cells (n+1)).toList=(List.replicate (n+1) z.cells.toList).flatten:=by
   have:=LJ A S (n+1)
   rw [←this];simp [Builtin.zeroCells,madeCells,A]
  generalize hax:a.eval x'=ax at p
  cases p with
  | sk _ _ _ _ _ b off len cap c hl2 hh ho hc hcc=>
   obtain ⟨w',q1,q2,q3⟩:=adK (us:=(List.replicate (n+1) z.cells.toList).flatten) h hl hh (Bh z1 (n+1)) (by
    intro v hv;simp only [List.mem_flatten,List.mem_replicate] at hv;obtain ⟨l',⟨_,rfl⟩,hv⟩:=hv
    exact z2 v hv) (by simp only [List.length_flatten,List.map_replicate,List.sum_replicate_nat,a2];omega)
   refine ⟨.tuple #[],w',g,.inl ?_,by simpa using q2,q3,.v (by simpa using W)⟩;rw [K];refine aU ?_;rw [hax];simp [builtin,Builtin.clear_,run_underlying hu,zeroValue,typeInfo,hi,Y,I,q1]
 ·cases hr
end Go.Ai
namespace Go.Ai
variable {P:Program} {glob:Nat→Option (List AV)} {g:ai} {s:St} {B:Nat} {w:World} {env:Env} {a:Act} {call:AV→List AV→St→Ctx→CO} {cx:Ctx} {o:Oper} {e:EV} {env':Env} {s':St}
theorem adb (h:Sim P glob g s B w (Act.tm a) env) (hc:aO P o.op .hmap=true) (hr:aop glob call cx env s .hmap=.ok e env' s'):Good P glob g s B w a (execOp a.eval o) e env' s':=by
 simp only [aO] at hc
 split at hc
 case h_2=>cases hc
 rename_i t I;simp only [aop] at hr;cases hr;have hg:=Grew.alloc (qt:=True) w (.map #[] 0);have A:g.le s.length (g.place s.length w.heap.size) (s.length+1):=⟨fun _ _ _ h=>h,fun _ _ h=>h,fun l hl=>by simp [ai.place];omega,fun l hl k v hk=>by simp [ai.place];rw [if_neg (by omega)];exact hk,by omega⟩;have p:(g.place s.length w.heap.size).L s.length=w.heap.size:=by simp [ai.place]
 have x:=h.base.imm.fresh (Nat.le_refl w.heap.size);have J:nX (g.place s.length w.heap.size) ((g.place s.length w.heap.size).L s.length):=by rw [p];exact ⟨x.m,x.mm⟩
 have hp:=h.push (ob:=gq.map []) hg A (fun l hl=>by simp [ai.place];omega) (fun _ _=>⟨rfl,rfl⟩) (fun b hb=>by
   rcases hb with hb|⟨k,v,hk,_⟩
   ·rw [p] at hb;subst hb;simp
   ·simp [ai.place] at hk) ⟨(h.base.imm.grew hg).m,(h.base.imm.grew hg).mm⟩ ⟨J,#[],0,by rw [p];exact heap_alloc_new w _,.nil _ _,.nil _ _,.nil⟩
 refine ⟨.map (some w.heap.size),_,_,.inl ?_,hp.1,hp.2,.v ?_⟩
 ·simp only [execOp,I];exact aU (by simp [Instr.makeMap,Sem.run_bind])
 ·have:=Rep.mp (g:=g.place s.length w.heap.size) (n:=(s++[gq.map []]).length) s.length (by simp)
  rwa [p] at this
theorem RZ {kk:Nat} {k v:AV} {N:Nat} {u x:Value} (hu:Rep g N u k) (hx:Rep g N x v) {F:Nat→List MapEntry→Option (Nat×Value)→Prop} {E:Value→Bool→Prop}
  (hE:∀y k' r,Rep g N y k'→jH kk k k'=some r→E y r) (h0:∀i,F i [] none) (ht:∀i e es,E e.key true→F i (e::es) (some (i,e.val))) (hf:∀i e es r,E e.key false→F (i+1) es r→F i (e::es) r):
  ∀(es:List (AV×AV)) (A:List MapEntry) (i:Nat) {I:List (AV×AV)},DV kk k v es=some I→
  aX g N (A.map (·.key)) (es.map (·.1))→aX g N (A.map (·.val)) (es.map (·.2))→
  (F i A none∧I=es++[(k,v)])∨(∃j z,j<A.length∧F i A (some (i+j,z))∧(∃y k',(A[j]?).map (·.key)=some y∧Rep g N y k'∧jH kk k k'=some true)∧
   aX g N ((A.modify j fun e=>{ e with key:=u,val:=x }).map (·.key)) (I.map (·.1))∧aX g N ((A.modify j fun e=>{ e with key:=u,val:=x }).map (·.val)) (I.map (·.2))):=by
 intro es
 induction es with
 | nil=>
  intro A i I h hk hv
  cases A with
  | nil=>simp [DV] at h;subst h;exact .inl ⟨h0 i,rfl⟩
  | cons e es=>exact absurd hk.1 (by simp)
 | cons p es ih=>
  intro A i I h hk hv;obtain ⟨k',v'⟩:=p
  cases A with
  | nil=>exact absurd hk.1 (by simp)
  | cons e A=>
   simp only [List.map_cons] at hk hv;simp only [DV] at h
   split at h
   ·rename_i hq;cases h;have hs:=hE _ _ _ hk.head hq;refine .inr ⟨0,e.val,by simp,by simpa using ht i e A hs,⟨e.key,k',by simp,hk.head,hq⟩, ?_, ?_⟩
    ·simpa using aX.cons hu hk.tail
    ·simpa using aX.cons hx hv.tail
   ·rename_i hq;have hs:=hE _ _ _ hk.head hq
    cases hm:DV kk k v es with
    | none=>rw [hm] at h;cases h
    | some r'=>
     rw [hm] at h;simp at h;subst h;rcases ih A (i+1) hm hk.tail hv.tail with ⟨h1,h2⟩|⟨j,z,hj,h1,h2,h3,h4⟩
     ·exact .inl ⟨hf i e A _ hs h1,by rw [h2];rfl⟩
     ·refine .inr ⟨j+1,z,by simpa using hj, ?_,by simpa using h2, ?_, ?_⟩
      ·have:=hf i e A _ hs h1
       rwa [show i+1+j=i+(j+1) by omega] at this
      ·simpa using aX.cons hk.head h3
      ·simpa using aX.cons hv.head h4
   ·cases h
theorem UE {kk:Nat} {kt:TypeId} (hk:LX P kk kt=true) {k v:AV} {N:Nat} {u x:Value} (hu:Rep g N u k) (hx:Rep g N x v) {es J:List (AV×AV)} {A:List MapEntry} (h:DV kk k v es=some J)
  (h1:aX g N (A.map (·.key)) (es.map (·.1))) (h2:aX g N (A.map (·.val)) (es.map (·.2))):
  ((Instr.findKey kt u A).run P w=.ok none w∧J=es++[(k,v)])∨(∃j z,j<A.length∧(Instr.findKey kt u A).run P w=.ok (some (j,z)) w∧(∃y k',(A[j]?).map (·.key)=some y∧Rep g N y k'∧jH kk k k'=some true)∧
    aX g N ((A.modify j fun e=>{ e with key:=u,val:=x }).map (·.key)) (J.map (·.1))∧aX g N ((A.modify j fun e=>{ e with key:=u,val:=x }).map (·.val)) (J.map (·.2))):=by
 rcases zL hk with ⟨d,hd,I⟩|⟨n,fs,rfl,p,hn,hf,hp⟩
 ·rcases RZ (F:=fun i es r=>Instr.findNow d u es i=some r) (E:=fun y r=>Instr.sameNow d u y=some r) hu hx (fun y k' r hy hq=>CB I hq hu hy) (fun i=>rfl)
   (fun i e es he=>by simp [Instr.findNow,he]) (fun i e es r he hr=>by simp [Instr.findNow,he,hr]) es A 0 h h1 h2 with ⟨a1,a2⟩|⟨j,z,a1,a2,a3⟩
  ·exact .inl ⟨by simp [Instr.findKey,run_underlying hd,a1],a2⟩
  ·exact .inr ⟨j,z,a1,by simp [Instr.findKey,run_underlying hd,a2],a3⟩
 ·rw [zT p]
  rcases RZ (F:=fun i es r=>(Instr.findAsking kt u es i).run P w=.ok r w) (E:=fun y r=>(Op.equal kt u y).run P w=.ok r w) hu hx (fun y k' r hy hq=>Au p hn hf hp hq hu hy) (fun i=>rfl)
   (fun i e es he=>by simp [Instr.findAsking,Sem.run_bind,he]) (fun i e es r he hr=>by simp [Instr.findAsking,Sem.run_bind,he,hr]) es A 0 h h1 h2 with ⟨a1,a2⟩|⟨j,z,a1,a2,a3⟩
  ·exact .inl ⟨a1,a2⟩
  ·exact .inr ⟨j,z,a1,by simpa using a2,a3⟩
theorem OW {p:Array MapEntry} {j:Nat} {f:MapEntry→MapEntry}:(p.modify j f).toList=p.toList.modify j f:=by simp
theorem bytes_beq (p q:Rl):((⟨p.toArray⟩:ByteArray) == ⟨q.toArray⟩)=(p == q):=by
 rw [Bool.eq_iff_iff]
 change (p.toArray == q.toArray)=true ↔ (p == q)=true
 simp
theorem Zp (n:Nat) (p:ByteArray):Instr.sameBits n (.string p) (.string p)=true:=by
 obtain ⟨⟨p⟩⟩:=p
 cases n<;>simp [Instr.sameBits,bytes_beq p p]
theorem Vb {N n:Nat}:∀(xs ys:List AV) (us vs:List Value),oC xs ys=some true→aX g N us xs→aX g N vs ys→(vs.zip us).all (fun (x,y)=>Instr.sameBits n x y)=true
 | [],[],us,vs,_,h1,h2=>by
  have:us=[]:=List.eq_nil_of_length_eq_zero h1.1
  subst this;simp
 | [],_::_,_,_,h,_,_=>by simp [oC] at h
 | x::xs,[],_,_,h,_,_=>by cases x<;>simp [oC] at h
 | x::xs,y::ys,us,vs,h,h1,h2=>by
  cases x<;>(try (simp [oC] at h;done))
  cases y<;>(try (simp [oC] at h;done))
  rename_i p q;simp only [oC] at h
  cases e1:oC xs ys with
  | none=>rw [e1] at h;cases h
  | some r'=>
  rw [e1] at h;simp only [Option.some.injEq,Bool.and_eq_true,beq_iff_eq] at h;obtain ⟨e2,rfl⟩:=h;subst e2
  cases us with
  | nil=>exact absurd h1.1 (by simp)
  | cons u us=>
   cases vs with
   | nil=>exact absurd h2.1 (by simp)
   | cons v vs=>
    rw [rZ h1.head,rZ h2.head];simp only [List.zip_cons_cons,List.all_cons,Bool.and_eq_true];refine ⟨Zp _ _, ?_⟩;exact Vb xs ys us vs e1 h1.tail h2.tail
theorem XZ {kk:Nat} {k k':AV} {N:Nat} {u y:Value} (hu:Rep g N u k) (hy:Rep g N y k') (h:jH kk k k'=some true):Instr.sameBits 10000 y u=true:=by
 unfold jH at h
 split at h
 ·split at h
  ·rename_i hk;subst hk;rw [uz hu,uz hy];simp at h;simp [Instr.sameBits,h]
  ·cases h
 ·rw [rZ hu,rZ hy];simp at h;subst h;exact Zp _ _
 ·rw [wF hu,wF hy];simp at h;simp [Instr.sameBits,h]
 ·split at h
  ·cases hu with
   | ag us _ hl1 _ hr1=>
    cases hy with
    | ag vs _ hl2 _ hr2=>
     have x:=QW _ _ h;have q1:aX g N us.toList _:=⟨by simpa using hl1,fun i hi p=>by rw [Array.getElem_toList];exact hr1 i (by simpa using hi) p⟩;have q2:aX g N vs.toList _:=⟨by simpa using hl2,fun i hi p=>by rw [Array.getElem_toList];exact hr2 i (by simpa using hi) p⟩
     have:=Vb (n:=9999) _ _ _ _ h q1 q2
     rw [show (10000:Nat)=9999+1 from rfl];simp only [Instr.sameBits,Bool.and_eq_true,beq_iff_eq];exact ⟨by omega,this⟩
  ·cases h
 ·cases h
theorem ade {kk:Nat} {m k v:IX} (h:Sim P glob g s B w (Act.tm a) env) (hc:aO P o.op (.hins kk m k v)=true) (hr:aop glob call cx env s (.hins kk m k v)=.ok e env' s'):Good P glob g s B w a (execOp a.eval o) e env' s':=by
 simp only [aO] at hc
 have c3:∃t m' k' v',(o.op=.insert t m' k' v'∨o.op=.mapUpdate t m' k' v')∧dR m' m=true∧dR k' k=true∧dR v' v=true∧Om P kk t=true:=by
  split at hc
  ·rename_i t m' k' v' A;simp only [Bool.and_eq_true] at hc;exact ⟨t,m',k',v',.inl A,hc.1.1.1,hc.1.1.2,hc.1.2,hc.2⟩
  ·rename_i t m' k' v' A;simp only [Bool.and_eq_true] at hc;exact ⟨t,m',k',v',.inr A,hc.1.1.1,hc.1.1.2,hc.1.2,hc.2⟩
  ·cases hc
 obtain ⟨t,m',k',v',A,hm,hk,hv,a9⟩:=c3;obtain ⟨kt,et,hu,a3⟩:=Hf a9
 have b6:(execOp a.eval o)=(do Instr.mapUpdate t (a.eval m') (a.eval k') (a.eval v');pure Next.skip):=by
  rcases A with A|A<;>simp only [execOp,A]
 simp only [aop] at hr
 split at hr
 case h_2=>cases hr
 rename_i l key val env1 c2 c5 b5
 split at hr
 case h_2=>cases hr
 rename_i es b1
 split at hr
 case h_2=>cases hr
 rename_i a4 b3
 split at hr
 case isFalse=>cases hr
 rename_i a2;cases hr;obtain ⟨g1,a1,m1,rv⟩:=Ku hv h b5;have rm:Rep g1 s.length (a.eval m') (.mp l):=(aK (a:=a) hm h.env h.base.glob c2).mono a1.le;have rk:Rep g1 s.length (a.eval k') key:=(aK (a:=a) hk h.env h.base.glob c5).mono a1.le;have R:l<s.length:=(List.getElem?_eq_some_iff.1 b1).1;obtain ⟨a5,K,J,q1,q2,q3,b0⟩:=m1.base.heap.obj l _ b1;have a7:a.eval m'=.map (some (g1.L l)):=by generalize a.eval m'=q at rm;cases rm;rfl
 have c1:g1.L l<w.heap.size:=(Array.getElem?_eq_some_iff.1 q1).1
 have b4:∃ob:Obj,(Instr.mapUpdate t (a.eval m') (a.eval k') (a.eval v')).run P w=.ok () { w with heap:=w.heap.setIfInBounds (g1.L l) ob }∧
   ∃p x,ob=.map p x∧aX g1 s.length (p.toList.map (·.key)) (a4.map (·.1))∧aX g1 s.length (p.toList.map (·.val)) (a4.map (·.2))∧Born p x:=by
  have a8:3≤kk→uN kk key=true:=fun _=>a2.2.1;rcases UE (w:=w) a3 rk rv b3 q2 q3 with ⟨h1,rfl⟩|⟨j,z,hj,h1,⟨y,k2,hy,ry,W⟩,h3,h4⟩
  ·refine ⟨.map (K.push { key:=a.eval k',val:=a.eval v',born:=J }) (J+1), ?_,_,_,rfl, ?_, ?_,b0.push _ _⟩
   ·rw [a7];simp [Instr.mapUpdate,Sem.run_bind,run_underlying hu,getObj,Sem.run,q1,mr a3 rk a8,h1,setObj]
   ·simp only [Array.toList_push,List.map_append,List.map_cons,List.map_nil];exact q2.append (.cons rk (.nil _ _))
   ·simp only [Array.toList_push,List.map_append,List.map_cons,List.map_nil];exact q3.append (.cons rv (.nil _ _))
  ·have Z:=XZ rk ry W;have a6:j<K.size:=by simpa using hj
   have b8:K[j].key=y:=by simpa [a6] using hy
   refine ⟨.map (K.modify j fun e=>{ e with key:=a.eval k',val:=a.eval v' }) J, ?_,_,_,rfl,by rw [OW];exact h3,by rw [OW];exact h4,b0.modify _ _ _⟩;rw [a7];simp [Instr.mapUpdate,Sem.run_bind,run_underlying hu,getObj,Sem.run,q1,mr a3 rk a8,h1,setObj,Instr.keyThatStays,a6,b8,Z]
 obtain ⟨ob,b2,p,x,rfl,r1,r2,r3⟩:=b4
 let w':World:={ w with heap:=w.heap.setIfInBounds (g1.L l) (.map p x) }
 have O:∀b,b≠g1.L l→w'.heap[b]?=w.heap[b]?:=fun b hb=>dL hb
 have Y:Base P glob g1 (s.set l (.map a4)) w':=by
  refine ⟨⟨fun c o' v1 a0=>?_,fun c b9 S=>?_⟩,m1.base.heap.setAt R (.refl _ _) (fun _ _ _=>rfl) (fun b hb=>.inl hb) (fun b hb=>by simpa [w'] using m1.base.heap.lt l b R hb) (by simp [w']) (fun b _ hb=>⟨O b (fun Q=>hb (.inl Q.symm)),rfl,rfl⟩) ⟨a5,p,x,y5 c1,r1,r2,r3⟩,m1.base.glob⟩
  ·have I:c≠g1.L l:=fun I=>by subst I;rw [a5.m o'] at a0;cases a0
   rw [World.cell?_of_block (O c I)];exact m1.base.imm.m c o' v1 a0
  ·have I:c≠g1.L l:=fun I=>by subst I;rw [a5.mm] at S;cases S
   exact (m1.base.imm.mm c b9 S).keep (O c I)
 rw [b6];refine ⟨undef,w',g1,.inr ⟨XV b2,rfl⟩,a1.trans ?_,⟨Y, ?_,by simp [w'];exact m1.B⟩,.v (.tu #[] [] rfl (fun i hi=>by simp at hi))⟩
 ·rw [List.length_set];refine ⟨.refl _ _,by simp [w'],fun b hb c4=>O b (fun Q=>c4 (by rw [Q];exact .L R)),fun _ _ _=>rfl,fun _ _=>rfl,fun b hb=>.inl hb,rfl,rfl,fun _=>⟨rfl,Nat.le_refl _⟩⟩
 ·rw [List.length_set];exact m1.env.next (.refl _ _) (fun k2 e2 c0 b7 b hb=>⟨O b (fun Q=>m1.env.off k2 e2 c0 b7 b hb (by rw [Q];exact .L R)),rfl,rfl,fun ht=>ht⟩)
theorem Sv {kk:Nat} {k:AV} {N:Nat} {F:Nat→List MapEntry→Option (Nat×Value)→Prop} {E:Value→Bool→Prop}
  (hE:∀y k' r,Rep g N y k'→jH kk k k'=some r→E y r) (h0:∀i,F i [] none) (ht:∀i e es,E e.key true→F i (e::es) (some (i,e.val))) (hf:∀i e es r,E e.key false→F (i+1) es r→F i (e::es) r):
  ∀(es:List (AV×AV)) (x:List MapEntry) (i:Nat) {A:List (AV×AV)},JQ kk k es=some A→
  aX g N (x.map (·.key)) (es.map (·.1))→aX g N (x.map (·.val)) (es.map (·.2))→
  (F i x none∧A=es)∨(∃j z,F i x (some (i+j,z))∧
   aX g N ((x.eraseIdx j).map (·.key)) (A.map (·.1))∧aX g N ((x.eraseIdx j).map (·.val)) (A.map (·.2))):=by
 intro es
 induction es with
 | nil=>
  intro x i A h hk hv
  cases x with
  | nil=>simp [JQ] at h;subst h;exact .inl ⟨h0 i,rfl⟩
  | cons e es=>exact absurd hk.1 (by simp)
 | cons p es ih=>
  intro x i A h hk hv;obtain ⟨k',v'⟩:=p
  cases x with
  | nil=>exact absurd hk.1 (by simp)
  | cons e x=>
   simp only [List.map_cons] at hk hv;simp only [JQ] at h
   split at h
   ·rename_i hq;cases h;have hs:=hE _ _ _ hk.head hq;exact .inr ⟨0,e.val,by simpa using ht i e x hs,by simpa using hk.tail,by simpa using hv.tail⟩
   ·rename_i hq;have hs:=hE _ _ _ hk.head hq
    cases hm:JQ kk k es with
    | none=>rw [hm] at h;cases h
    | some r'=>
     rw [hm] at h;simp at h;subst h;rcases ih x (i+1) hm hk.tail hv.tail with ⟨h1,h2⟩|⟨j,z,h1,h3,h4⟩
     ·exact .inl ⟨hf i e x _ hs h1,by rw [h2]⟩
     ·refine .inr ⟨j+1,z, ?_, ?_, ?_⟩
      ·have:=hf i e x _ hs h1
       rwa [show i+1+j=i+(j+1) by omega] at this
      ·simpa using aX.cons hk.head h3
      ·simpa using aX.cons hv.head h4
   ·cases h
theorem UF {kk:Nat} {kt:TypeId} (hk:LX P kk kt=true) {k:AV} {N:Nat} {u:Value} (hu:Rep g N u k) {es I:List (AV×AV)} {x:List MapEntry} (h:JQ kk k es=some I)
  (h1:aX g N (x.map (·.key)) (es.map (·.1))) (h2:aX g N (x.map (·.val)) (es.map (·.2))):
  ((Instr.findKey kt u x).run P w=.ok none w∧I=es)∨(∃j z,(Instr.findKey kt u x).run P w=.ok (some (j,z)) w∧
    aX g N ((x.eraseIdx j).map (·.key)) (I.map (·.1))∧aX g N ((x.eraseIdx j).map (·.val)) (I.map (·.2))):=by
 rcases zL hk with ⟨d,hd,A⟩|⟨n,fs,rfl,p,hn,hf,hp⟩
 ·rcases Sv (F:=fun i es r=>Instr.findNow d u es i=some r) (E:=fun y r=>Instr.sameNow d u y=some r) (fun y k' r hy hq=>CB A hq hu hy) (fun i=>rfl)
   (fun i e es he=>by simp [Instr.findNow,he]) (fun i e es r he hr=>by simp [Instr.findNow,he,hr]) es x 0 h h1 h2 with ⟨a1,a2⟩|⟨j,z,a2,a3⟩
  ·exact .inl ⟨by simp [Instr.findKey,run_underlying hd,a1],a2⟩
  ·exact .inr ⟨j,z,by simp [Instr.findKey,run_underlying hd,a2],a3⟩
 ·rw [zT p]
  rcases Sv (F:=fun i es r=>(Instr.findAsking kt u es i).run P w=.ok r w) (E:=fun y r=>(Op.equal kt u y).run P w=.ok r w) (fun y k' r hy hq=>Au p hn hf hp hq hu hy) (fun i=>rfl)
   (fun i e es he=>by simp [Instr.findAsking,Sem.run_bind,he]) (fun i e es r he hr=>by simp [Instr.findAsking,Sem.run_bind,he,hr]) es x 0 h h1 h2 with ⟨a1,a2⟩|⟨j,z,a2,a3⟩
  ·exact .inl ⟨a1,a2⟩
  ·exact .inr ⟨j,z,by simpa using a2,a3⟩
theorem adf {kk:Nat} {m k:IX} (h:Sim P glob g s B w (Act.tm a) env) (hc:aO P o.op (.hdel kk m k)=true) (hr:aop glob call cx env s (.hdel kk m k)=.ok e env' s'):Good P glob g s B w a (execOp a.eval o) e env' s':=by
 simp only [aO] at hc
 split at hc
 case h_2=>cases hc
 rename_i c b1
 split at hc
 case h_2=>cases hc
 rename_i m' k' t t' a6 a1 a3;simp only [Bool.and_eq_true] at hc;obtain ⟨⟨hm,hk⟩,hkey⟩:=hc;obtain ⟨kt,et,hu,Y⟩:=Hf hkey;simp only [aop] at hr
 split at hr
 case h_2=>cases hr
 rename_i l key b9 c1
 split at hr
 case h_2=>cases hr
 rename_i es a7
 split at hr
 case h_2=>cases hr
 rename_i Z a9
 split at hr
 case isFalse=>cases hr
 rename_i W;cases hr;have rm:Rep g s.length (a.eval m') (.mp l):=aK (a:=a) hm h.env h.base.glob b9;have rk:Rep g s.length (a.eval k') key:=aK (a:=a) hk h.env h.base.glob c1;have O:l<s.length:=(List.getElem?_eq_some_iff.1 a7).1;obtain ⟨a0,Q,K,q1,q2,q3,a5⟩:=h.base.heap.obj l _ a7;have b2:a.eval m'=.map (some (g.L l)):=by generalize a.eval m'=q at rm;cases rm;rfl
 have b8:g.L l<w.heap.size:=(Array.getElem?_eq_some_iff.1 q1).1
 have b3:execOp a.eval o=(do pure (Next.value (←Builtin.delete_ c.argTypes o.type (c.args.map a.eval)))):=yx (a:=a) b1 a6
 have ha:c.args.map a.eval=#[a.eval m',a.eval k']:=by apply Array.toList_inj.1;simp [a1]
 have b5:c.argTypes=#[t,t']:=by apply Array.toList_inj.1;simp [a3]
 have b0:∃ob:Obj,(Builtin.delete_ c.argTypes o.type (c.args.map a.eval)).run P w=.ok (.tuple #[]) { w with heap:=w.heap.setIfInBounds (g.L l) ob }∧
   ∃p x,ob=.map p x∧aX g s.length (p.toList.map (·.key)) (Z.map (·.1))∧aX g s.length (p.toList.map (·.val)) (Z.map (·.2))∧Born p x:=by
  have a4:3≤kk→uN kk key=true:=fun _=>W.1;rw [ha,b5,b2];rcases UF (w:=w) Y rk a9 q2 q3 with ⟨h1,rfl⟩|⟨j,z,h1,h3,h4⟩
  ·exact ⟨.map Q K,by simp [Builtin.delete_,Sem.run_bind,run_underlying hu,getObj,Sem.run,q1,mr Y rk a4,h1,setObj],_,_,rfl,q2,q3,a5⟩
  ·exact ⟨.map (Q.eraseIdxIfInBounds j) K,by simp [Builtin.delete_,Sem.run_bind,run_underlying hu,getObj,Sem.run,q1,mr Y rk a4,h1,setObj],_,_,rfl,by simpa using h3,by simpa using h4,a5.erase j⟩
 obtain ⟨ob,a8,p,x,rfl,r1,r2,r3⟩:=b0
 let w':World:={ w with heap:=w.heap.setIfInBounds (g.L l) (.map p x) }
 have I:∀b,b≠g.L l→w'.heap[b]?=w.heap[b]?:=fun b hb=>dL hb
 have a2:Base P glob g (s.set l (.map Z)) w':=by
  refine ⟨⟨fun c o' v1 S=>?_,fun c b6 R=>?_⟩,h.base.heap.setAt O (.refl _ _) (fun _ _ _=>rfl) (fun b hb=>.inl hb) (fun b hb=>by simpa [w'] using h.base.heap.lt l b O hb) (by simp [w']) (fun b _ hb=>⟨I b (fun J=>hb (.inl J.symm)),rfl,rfl⟩) ⟨a0,p,x,y5 b8,r1,r2,r3⟩,h.base.glob⟩
  ·have A:c≠g.L l:=fun A=>by subst A;rw [a0.m o'] at S;cases S
   rw [World.cell?_of_block (I c A)];exact h.base.imm.m c o' v1 S
  ·have A:c≠g.L l:=fun A=>by subst A;rw [a0.mm] at R;cases R
   exact (h.base.imm.mm c b6 R).keep (I c A)
 rw [b3];refine ⟨.tuple #[],w',g,.inl (aU a8), ?_,⟨a2, ?_,by simp [w'];exact h.B⟩,.v (.tu #[] [] rfl (fun i hi=>by simp at hi))⟩
 ·rw [List.length_set];refine ⟨.refl _ _,by simp [w'],fun b hb c0=>I b (fun J=>c0 (by rw [J];exact .L O)),fun _ _ _=>rfl,fun _ _=>rfl,fun b hb=>.inl hb,rfl,rfl,fun _=>⟨rfl,Nat.le_refl _⟩⟩
 ·rw [List.length_set];exact h.env.next (.refl _ _) (fun k2 e2 b7 b4 b hb=>⟨I b (fun J=>h.env.off k2 e2 b7 b4 b hb (by rw [J];exact .L O)),rfl,rfl,fun ht=>ht⟩)
end Go.Ai
namespace Go.Ai
variable {P:Program} {glob:Nat→Option (List AV)} {g:ai} {s:St} {B:Nat} {w:World} {env:Env} {a:Act} {call:AV→List AV→St→Ctx→CO} {cx:Ctx} {o:Oper} {e:EV} {env':Env} {s':St}
theorem YK {n:Nat} {x y:IX} (h:Sim P glob g s B w (Act.tm a) env) (hc:aO P o.op (.storep n x y)=true) (hr:aop glob call cx env s (.storep n x y)=.ok e env' s'):Good P glob g s B w a (execOp a.eval o) e env' s':=by
 have A:aO P o.op (.store n x y)=true:=by simpa only [aO] using hc
 refine JV (cx:=cx) (call:=call) h A ?_;simp only [aop] at hr ⊢
 split at hr
 ·rename_i av xv ha hx;have he:MK glob env y=some (xv,env):=by unfold MK;rw [hx]
  rw [he];simp only []
  split at hr
  ·rename_i env1 s1 p;cases hr
   have:env1=env:=by
    unfold uo at p;rw [ha] at p
    split at p
    ·cases av<;>simp only [] at p<;>(try (cases p;done))<;>(split at p<;>(try (cases p;done))<;>(split at p<;>cases p<;>rfl))
    ·cases p
   subst this;simp [p]
  ·cases hr
 ·cases hr
end Go.Ai
namespace Go.Ai
variable {P:Program} {glob:Nat→Option (List AV)} {g:ai} {s:St} {B:Nat} {w:World} {env:Env} {a:Act} {o:Oper} {call:AV→List AV→St→Ctx→CO} {cx:Ctx} {e:EV} {env':Env} {s':St}
inductive KV:Nat→AV→AV→Bool→Prop
 | i (k:IntKind) (p q:Int):KV 0 (.i k p) (.i k q) (p == q)
 | s (p q:Rl):KV 1 (.s p) (.s q) (p == q)
 | b (p q:Bool):KV 2 (.b p) (.b q) (p == q)
end Go.Ai
