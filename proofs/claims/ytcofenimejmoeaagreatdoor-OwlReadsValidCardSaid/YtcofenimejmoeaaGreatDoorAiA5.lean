/-
 append, as an operation; maps that are laid; bytes to strings.
-/
import Derived.Test.YtcofenimejmoeaaGreatDoorAiA3
import Derived.Laws.MakeOwn
set_option maxRecDepth 100000
set_option linter.unusedSimpArgs false
set_option linter.unusedVariables false
set_option linter.unusedSectionVars false
namespace Go.Ai
variable {P:Program} {glob:Nat→Option (List AV)} {g:ai} {s:St} {B:Nat} {w:World} {env:Env} {a:Act} {o:Oper} {call:AV→List AV→St→Ctx→CO} {cx:Ctx} {e:EV} {env':Env} {s':St}
theorem OU (sz:Nat):Src P w sz (.slice none 0 0) 0 []:=
 ⟨fun _=>by simp [Builtin.lenOf],fun _ _=>by simp [Builtin.firstCells],by simp,fun v hv=>by simp at hv⟩
theorem acy (sz:Nat) (ad:Addr):Src P w sz (.slice (some ad) 0 0) 0 []:=
 ⟨fun _=>by simp [Builtin.lenOf],fun w' _=>by simpa [Builtin.firstCells] using run_loadCells_list (P:=P) w' ad [] (fun j v hv=>by simp at hv),by simp,fun v hv=>by simp at hv⟩
theorem ag6 (sz:Nat) (ad:Addr) (c:Nat):Src P w sz (.slice (some ad) 0 c) 0 []:=
 ⟨fun _=>by simp [Builtin.lenOf],fun w' _=>by simpa [Builtin.firstCells] using run_loadCells_list (P:=P) w' ad [] (fun j v hv=>by simp at hv),by simp,fun v hv=>by simp at hv⟩
theorem Ls {sz b off n cap:Nat} {xs:List Value} (hl:xs.length=n * sz) (hc:pI w b off xs) (h1:fD xs):Src P w sz (.slice (some ⟨b,off,none⟩) n cap) n xs:=
 ⟨fun _=>by simp [Builtin.lenOf],fun w' hw'=>xw hl (fun j hj=>by
  have:=hc j hj
  rw [←this];simp [World.cell?,hw']),hl,h1⟩
theorem qF {sz:Nat} {x:Operand} {ix:IX} (hc:eF x ix=true) (h:Sim P glob g s B w (Act.tm a) env) {ys:List AV} (he:elems glob env ix=some ys) (hsz:∀y∈ys,y.cells.length=sz):
  ∃news,Src P w sz (a.eval x) ys.length news∧aW g s.length news (ys.flatMap AV.cells):=by
 have hown:∀k tip t sz' es,lk env k=some (.own tip t sz' es)→(∀y∈es,y.cells.length=sz)→∃news,Src P w sz (Act.tm a k) es.length news∧aW g s.length news (es.flatMap AV.cells):=by
  intro k tip t sz' es hk hsz;obtain ⟨xs,q1,q2,q3,q4,q5,_⟩:=h.env.rel k _ hk;rcases q1.2 with ⟨hv,hn⟩|⟨gb,cap,cur,hv,_,hg,_,_,_,htake⟩
  ·have:es=[]:=List.eq_nil_of_length_eq_zero hn
   subst this;rw [hv];exact ⟨[],OU sz,.nil _ _⟩
  ·by_cases hes:es=[]
   ·subst hes
    have:xs=[]:=List.eq_nil_of_length_eq_zero (by rw [q1.1];simp)
    subst this;rw [hv];exact ⟨[],Ls (by simp) (fun j hj=>by simp at hj) q3,.nil _ _⟩
   ·have hszz:sz'=sz:=by
     obtain ⟨y,hy⟩:=List.exists_mem_of_ne_nil es hes;rw [←q4 y hy];exact hsz y hy
    subst hszz;rw [hv];exact ⟨xs,Ls q1.1 (by rw [←htake];obtain ⟨fz,hg,_⟩:=hg;exact (qW hg).take _) q3,q2⟩
 unfold elems at he
 split at he
 ·rename_i es' hv;cases he;have hr:=aJ (a:=a) hc h.env h.base.glob (v:=.sl ys) (by simp [rd,hv]);generalize a.eval x=ax at hr
  cases hr with
  | slNil=>exact ⟨[],OU sz,.nil _ _⟩
  | slE ad=>exact ⟨[],acy sz ad,.nil _ _⟩
  | sl bk off cap sz' _ c hcap hsz' hm hrr=>
   by_cases hys:ys=[]
   ·subst hys;exact ⟨[],Ls (by simp) (fun j hj=>by simp at hj) (fun v hv=>by simp at hv),.nil _ _⟩
   ·have hszz:sz'=sz:=by
     have h0:0<ys.length:=List.length_pos_iff.2 hys;rw [←hsz' 0 h0];exact hsz _ (List.getElem_mem h0)
    subst hszz
    have dm:∀p,p<ys.length * sz'→p / sz'<ys.length∧p % sz'<sz':=by
     intro p hp
     have hpos:0<sz':=by
      rcases Nat.eq_zero_or_pos sz' with h0|h0
      ·rw [h0] at hp;simp at hp
      ·exact h0
     exact ⟨Nat.div_lt_of_lt_mul (by rw [Nat.mul_comm];exact hp),Nat.mod_lt _ hpos⟩
    have dm2:∀p,p / sz' * sz'+p % sz'=p:=fun p=>by rw [Nat.mul_comm];exact Nat.div_add_mod p sz'
    refine ⟨(List.range (ys.length * sz')).map (fun p=>c (p / sz') (p % sz')),Ls (by simp) (fun p hp=>?_) (fun v hv=>?_),⟨?_,fun p hp hp'=>?_⟩⟩
    ·simp at hp
     have:=(hm _ _ (dm p hp).1 (dm p hp).2).1
     rw [Nat.add_assoc,dm2] at this
     simpa using h.base.imm.m bk _ _ this
    ·simp at hv;obtain ⟨p,hp,rfl⟩:=hv;exact (hm _ _ (dm p hp).1 (dm p hp).2).2
    ·simp [xE hsz]
    ·simp at hp;have hi:=(dm p hp).1;have hj:=(dm p hp).2;have hj':p % sz'<(AV.cells ys[p / sz']).length:=by rw [hsz' _ hi];exact hj
     have e1:(ys.flatMap AV.cells)[p]=(AV.cells ys[p / sz'])[p % sz']:=by
      have:=flat_get hsz (p / sz') hi (p % sz') hj
      rw [dm2,List.getElem?_eq_getElem hp',List.getElem?_eq_getElem hj'] at this;exact Option.some.inj this
     rw [e1]
     simpa using hrr _ hi _ hj'
 ·rename_i es' hv;cases he;have hr:=aJ (a:=a) hc h.env h.base.glob (v:=.sl ys) (by simp [rd,hv]);generalize a.eval x=ax at hr
  cases hr with
  | slNil=>exact ⟨[],OU sz,.nil _ _⟩
  | slE ad=>exact ⟨[],acy sz ad,.nil _ _⟩
  | sl bk off cap sz' _ c hcap hsz' hm hrr=>
   by_cases hys:ys=[]
   ·subst hys;exact ⟨[],Ls (by simp) (fun j hj=>by simp at hj) (fun v hv=>by simp at hv),.nil _ _⟩
   ·have hszz:sz'=sz:=by
     have h0:0<ys.length:=List.length_pos_iff.2 hys;rw [←hsz' 0 h0];exact hsz _ (List.getElem_mem h0)
    subst hszz
    have dm:∀p,p<ys.length * sz'→p / sz'<ys.length∧p % sz'<sz':=by
     intro p hp
     have hpos:0<sz':=by
      rcases Nat.eq_zero_or_pos sz' with h0|h0
      ·rw [h0] at hp;simp at hp
      ·exact h0
     exact ⟨Nat.div_lt_of_lt_mul (by rw [Nat.mul_comm];exact hp),Nat.mod_lt _ hpos⟩
    have dm2:∀p,p / sz' * sz'+p % sz'=p:=fun p=>by rw [Nat.mul_comm];exact Nat.div_add_mod p sz'
    refine ⟨(List.range (ys.length * sz')).map (fun p=>c (p / sz') (p % sz')),Ls (by simp) (fun p hp=>?_) (fun v hv=>?_),⟨?_,fun p hp hp'=>?_⟩⟩
    ·simp at hp
     have:=(hm _ _ (dm p hp).1 (dm p hp).2).1
     rw [Nat.add_assoc,dm2] at this
     simpa using h.base.imm.m bk _ _ this
    ·simp at hv;obtain ⟨p,hp,rfl⟩:=hv;exact (hm _ _ (dm p hp).1 (dm p hp).2).2
    ·simp [xE hsz]
    ·simp at hp;have hi:=(dm p hp).1;have hj:=(dm p hp).2;have hj':p % sz'<(AV.cells ys[p / sz']).length:=by rw [hsz' _ hi];exact hj
     have e1:(ys.flatMap AV.cells)[p]=(AV.cells ys[p / sz'])[p % sz']:=by
      have:=flat_get hsz (p / sz') hi (p % sz') hj
      rw [dm2,List.getElem?_eq_getElem hp',List.getElem?_eq_getElem hj'] at this;exact Option.some.inj this
     rw [e1]
     simpa using hrr _ hi _ hj'
 ·rename_i hv;cases he;have hr:=aJ (a:=a) hc h.env h.base.glob (v:=.ns) (by simp [rd,hv]);generalize a.eval x=ax at hr;cases hr;exact ⟨[],OU sz,.nil _ _⟩
 ·rename_i hv;cases he;have hr:=aJ (a:=a) hc h.env h.base.glob (v:=.se) (by simp [rd,hv]);generalize a.eval x=ax at hr
  cases hr with
  | se ad=>exact ⟨[],acy sz ad,.nil _ _⟩
 ·rename_i hv;cases he;have hr:=aJ (a:=a) hc h.env h.base.glob (v:=.sz) (by simp [rd,hv]);generalize a.eval x=ax at hr
  cases hr with
  | sz ad c=>exact ⟨[],ag6 sz ad c,.nil _ _⟩
 ·rename_i tip t sz' es' hv;cases he;rcases iR (n:=s.length) hc h.base.glob hv with ⟨k,_,hk,hx⟩|⟨v',hv',_,_⟩
  ·rw [hx];exact hown k _ _ _ _ hk hsz
  ·cases hv'
 ·rename_i j hv
  split at he
  ·rename_i tip t sz' es' hj;cases he;rcases iR (n:=s.length) hc h.base.glob hv with ⟨k,_,hk,hx⟩|⟨v',hv',_,_⟩
   ·have e1:Act.tm a k=Act.tm a j:=h.env.rel k _ hk;rw [hx,e1];exact hown j _ _ _ _ hj hsz
   ·cases hv'
  ·cases he
 ·cases he
theorem jY {c:Call} {x y:Operand} {t t':TypeId} (hop:o.op=.call c) (hcal:c.callee=.builtin .append) (hargs:c.args.toList=[x,y]) (htys:c.argTypes.toList=[t,t']) {v:Value} {w':World}
  (h:(Builtin.append_ #[t,t'] o.type #[a.eval x,a.eval y]).run P w=.ok v w'):(execOp a.eval o).run P w=.ok (.value v) w':=by
 rw [xH (a:=a) hop hcal];have ha:c.args.map a.eval=#[a.eval x,a.eval y]:=by apply Array.toList_inj.1;simp [hargs]
 have ht:c.argTypes=#[t,t']:=by apply Array.toList_inj.1;simp [htys]
 rw [ha,ht];simp only [builtin];exact aX h
theorem oQ {t el:TypeId} {sz:Nat} (h:sliceOf P t el sz=true):P.underlying t=some (.slice el)∧pK P el sz=true:=by
 unfold sliceOf at h
 split at h
 ·rename_i el' hu;simp only [Bool.and_eq_true,beq_iff_eq] at h;rw [h.1] at hu;exact ⟨hu,h.2⟩
 ·cases h
theorem agh {t t' ty el:TypeId} {sz:Nat} {d:TypeDesc} (hsl:sliceOf P t el sz=true) (ht':P.underlying t'=some d) (hd:(∃q,d=.slice q)∨d=.string)
  (hinf:(P.info? el).any (fun i=>i.bytes≤65536 && i.zero.any fun z=>z.cells.size == sz)=true) (h:Sim P glob g s B w (Act.tm a) env) {ys:List AV} (hpos:0<sz)
  {x:Value} {news:List Value} (hx:Src P w sz x ys.length news) (hr:aW g s.length news (ys.flatMap AV.cells)) (hys:∀y∈ys,y.cells.length=sz)
  (hmax:ys.length≤aQ) {q:Sem Next} (hq:∀{v' w'},(Builtin.append_ #[t,t'] ty #[.slice none 0 0,x]).run P w=.ok v' w'→q.run P w=.ok (.value v') w'):
  Good P glob g s B w a q (.own false el sz ys) env s:=by
 obtain ⟨hu,hsz⟩:=oQ hsl;obtain ⟨i,hi,hisz⟩:=oU hsz;rw [hi] at hinf;simp only [Option.any_some,Bool.and_eq_true,decide_eq_true_eq] at hinf;obtain ⟨hby,hzz⟩:=hinf
 cases hz:i.zero with
 | none=>simp [hz] at hzz
 | some z=>
  simp [hz] at hzz;obtain ⟨v',w',r1,r2,r3⟩:=OW (ty:=ty) hu ht' hd hi hz hisz hzz (World.ownsRow_nil w B el sz) hx (by simpa using hmax) hby h.B;rcases r3 with ⟨gb,cur,e1,_⟩|⟨hgrew,hfresh⟩
  ·simp [dw] at e1
  ·obtain ⟨h2,s2⟩:=h.grew hgrew;simp only [Nat.zero_add,List.nil_append] at r2;refine ⟨v',w',g,.inl (hq r1),s2,h2,⟨fun dd _=>⟨news,by rw [upd_same];exact Qb r2,hr,hx.one,hys,hpos,fun b hb=>?_⟩,fun j hj=>by simp [EV.refers] at hj,fun _ b hb=>Di h (hfresh b hb)⟩⟩;rw [upd_same] at hb;have hfr:=h.base.imm.fresh (hfresh b hb);exact ⟨hfr.mm,fun j _=>hfr.m j,fun j _=>by simpa using hfr.m j⟩
theorem ad5 {el sz:Nat} {x y:IX} (h:Sim P glob g s B w (Act.tm a) env) (hc:aT P o.op (.app el sz x y)=true) (hr:aop glob call cx env s (.app el sz x y)=.ok e env' s'):Good P glob g s B w a (execOp a.eval o) e env' s':=by
 simp only [aT] at hc
 split at hc
 ·rename_i c hop
  split at hc
  ·rename_i ts x' y' hcal hargs
   split at hc
   ·rename_i t t' htys;simp only [Bool.and_eq_true,beq_iff_eq] at hc;obtain ⟨⟨⟨⟨rfl,hx⟩,hy⟩,hsl⟩,hinf⟩:=hc;obtain ⟨hu,_⟩:=oQ hsl;simp only [aop] at hr
    split at hr
    ·rename_i ys k hys hk
     split at hr
     ·rename_i tip t2 sz2 es hown
      split at hr
      ·rename_i hcond;obtain ⟨rfl,rfl,hall,hmax,_⟩:=hcond;cases hr;have hall':∀y∈ys,y.cells.length=sz:=fun y hy=>by simpa using List.all_eq_true.1 hall y hy
       obtain ⟨news,q1,q2⟩:=qF hy h hys hall';obtain ⟨hxv,_⟩:=Ny hx h hk;exact agf (ty:=o.type) hsl hu (.inl ⟨_,rfl⟩) hinf h hown q1 q2 hall' hmax (fun hv=>jY hop hcal hargs htys (by rw [hxv];exact hv))
      ·cases hr
     ·cases hr
    ·rename_i ys hys hk
     split at hr
     ·rename_i hns
      split at hr
      ·rename_i hcond;obtain ⟨hpos,hall,hmax⟩:=hcond;cases hr;have hall':∀y∈ys,y.cells.length=sz:=fun y hy=>by simpa using List.all_eq_true.1 hall y hy
       obtain ⟨news,q1,q2⟩:=qF hy h hys hall'
       have hxv:a.eval x'=.slice none 0 0:=by
        have:=aJ (a:=a) hx h.env h.base.glob hns
        generalize a.eval x'=ax at this;cases this;rfl
       exact agh (ty:=o.type) hsl hu (.inl ⟨_,rfl⟩) hinf h hpos q1 q2 hall' hmax (fun hv=>jY hop hcal hargs htys (by rw [hxv];exact hv))
      ·cases hr
     ·cases hr
    ·cases hr
   ·cases hc
  ·cases hc
 ·cases hc
theorem Ry:∀l:Rl,(aF l).flatMap AV.cells=aF l
 | []=>rfl
 | b::l=>by
  show AV.cells (.i .u8 b.toNat)++(aF l).flatMap AV.cells=.i .u8 b.toNat::aF l;rw [Ry l];rfl
theorem ad3 {x:IX} (h:Sim P glob g s B w (Act.tm a) env) (hc:aT P o.op (.b2s x)=true) (hr:aop glob call cx env s (.b2s x)=.ok e env' s'):Good P glob g s B w a (execOp a.eval o) e env' s':=by
 simp only [aT] at hc
 split at hc
 ·rename_i src dst x' hop;simp only [Bool.and_eq_true] at hc;obtain ⟨⟨hx,hb⟩,hd⟩:=hc;unfold Ah at hb
  split at hb
  ·rename_i el hu
   split at hb
   ·rename_i hu8;simp only [aop] at hr
    split at hr
    ·rename_i es hes;obtain ⟨r,h1,rfl,rfl,rfl⟩:=yB hr
     cases hm:es.mapM byteOf with
     | none=>simp [hm] at h1
     | some l=>
      simp [hm] at h1;subst h1
      -- each element is a byte
      have hby:∀(es:List AV) (l:Rl),es.mapM byteOf=some l→∃ns:List Int,es=ns.map (AV.i .u8)∧l=ns.map fun n=>UInt8.ofNat n.toNat:=by
       intro es
       induction es with
       | nil=>intro l hl;simp at hl;subst hl;exact ⟨[],rfl,rfl⟩
       | cons e es ih=>
        intro l hl;simp only [List.mapM_cons,Option.bind_eq_bind,Option.pure_def] at hl
        cases he:byteOf e with
        | none=>simp [he] at hl
        | some b=>
         cases hr:es.mapM byteOf with
         | none=>simp [he,hr] at hl
         | some l'=>
          simp [he,hr] at hl;subst hl;obtain ⟨ns,rfl,rfl⟩:=ih l' hr;unfold byteOf at he
          split at he
          ·rename_i n;cases he;exact ⟨n::ns,rfl,rfl⟩
          ·cases he
      obtain ⟨ns,rfl,rfl⟩:=hby es l hm;obtain ⟨news,q1,q2⟩:=qF (sz:=1) hx h hes (fun y hy=>by simp at hy;obtain ⟨n,_,rfl⟩:=hy;rfl);obtain ⟨ad,cap,hxv⟩:=Us hx h hes
      have hflat:(ns.map (AV.i .u8)).flatMap AV.cells=ns.map (AV.i .u8):=by
       clear hm hes q1 q2 hxv hr
       induction ns with
       | nil=>rfl
       | cons n ns ih=>simp only [List.map_cons,List.flatMap_cons];rw [ih];rfl
      rw [hflat] at q2
      have hnews:news=ns.map (Value.int .u8):=by
       apply List.ext_getElem
       ·have:=q2.1;simpa using this
       ·intro i h1 h2
        have:=q2.2 i h1 (by simpa using h2)
        simp only [List.getElem_map] at this ⊢;exact uM this
      refine .val h ?_ (.s _);simp only [execOp,hop];refine aX ?_;have hlen:(ns.map (AV.i .u8)).length=ns.length:=by simp
      rw [hlen] at hxv q1
      have hpush:∀(ns:List Int) (acc:Rl),ns.foldl (fun r n=>r.push (UInt8.ofNat n.toNat)) (⟨acc.toArray⟩:ByteArray)=⟨(acc++ns.map fun n=>UInt8.ofNat n.toNat).toArray⟩:=by
       intro ns
       induction ns with
       | nil=>intro acc;simp
       | cons n ns ih=>
        intro acc;simp only [List.foldl_cons,List.map_cons]
        have:(⟨acc.toArray⟩:ByteArray).push (UInt8.ofNat n.toNat)=⟨(acc++[UInt8.ofNat n.toNat]).toArray⟩:=by
         simp [ByteArray.push]
        rw [this,ih];simp
      have hconv:(convert src dst (a.eval x')).run P w=(Conv.bytesToString (a.eval x')).run P w:=by
       rw [hxv];simp [convert,Sem.run_bind,run_underlying hu,run_underlying (wG hd),run_underlying hu8]
      rw [hconv,hxv]
      cases ad with
      | none=>
       have hns:ns=[]:=by
        rw [hxv] at q1
        have:=q1.cells w rfl
        simp [Builtin.firstCells] at this;rw [hnews] at this
        cases ns with
        | nil=>rfl
        | cons n ns=>simp at this
       subst hns;simp [Conv.bytesToString];rfl
      | some ad=>
       have hcells:=q1.cells w rfl;rw [hxv] at hcells;simp only [Builtin.firstCells,Nat.mul_one] at hcells;rw [hnews] at hcells;rw [run_bytesToString w ad ns.length cap ns hcells]
       have:=hpush ns []
       simp only [List.nil_append] at this;rw [←this];rfl
    ·cases hr
   ·cases hb
  ·cases hb
 ·cases hc
end Go.Ai
namespace Go.Ai
variable {P:Program} {glob:Nat→Option (List AV)} {g:ai} {s:St} {B:Nat} {w:World} {env:Env} {a:Act} {o:Oper} {call:AV→List AV→St→Ctx→CO} {cx:Ctx} {e:EV} {env':Env} {s':St}
def ai.grown (g:ai) (l k:Nat) (v:Value) (b:Nat) (zs:List Value):ai:=
 { (g.claim b zs) with hist:=fun l'=>if l'=l then fun j=>if j=k then some v else g.hist l j else g.hist l' }
theorem zZ {w:World} {t sz k:Nat} {v:Value} {zs:List Value} {nb:Nat} (h:w.ownsRow 0 t sz v k zs) (hb:dw v=some nb):
  ∃cap cur,v=.slice (some ⟨nb,0,none⟩) k cap∧k≤cap∧w.heap[nb]?=some (.cells cur t (0,0))∧∀j (hj:j<zs.length),cur[j]?=some zs[j]:=by
 rcases h.2 with ⟨hv,_⟩|⟨gb,cap,cur,hv,_,hg,hcap,_,_,htake⟩
 ·rw [hv] at hb;simp [dw] at hb
 ·rw [hv] at hb;simp [dw] at hb;subst hb;refine ⟨cap,cur,hv,hcap,hg,fun j hj=>?_⟩
  have:=List.getElem?_eq_getElem hj
  rw [←this,←htake,List.getElem?_take,if_pos (by rw [←h.1];exact hj)];simp
theorem U0 (h:Base P glob g s w) {w':World} {l t sz k':Nat} {v':Value} {zs:List Value} {nb:Nat} (hown:w'.ownsRow 0 t sz v' k' zs) (hb:dw v'=some nb)
  (hold:∀b,b<w.heap.size→b≠nb→w'.heap[b]?=w.heap[b]?) (hm1:∀o v,g.m nb o=some v→zs[o]?=some v) (hmm:g.mm nb=none):Imm (g.grown l k' v' nb zs) w':=by
 obtain ⟨cap,cur,hv,hcap,hg,hcur⟩:=zZ hown hb;refine ⟨fun b o v hm=>?_,fun b es he=>?_⟩
 ·have cnb:∀o v,zs[o]?=some v→w'.cell? ⟨nb,o,none⟩=some v:=by
   intro o v hz;obtain ⟨ho,rfl⟩:=List.getElem?_eq_some_iff.1 hz;rw [cell_of_row w' nb o cur t (0,0) hg];exact hcur o ho
  simp only [ai.grown,ai.claim] at hm
  split at hm
  ·rename_i hc;obtain ⟨rfl,_⟩:=hc;exact cnb o v hm
  ·by_cases hbn:b=nb
   ·subst hbn;exact cnb o v (hm1 o v hm)
   ·rw [World.cell?_of_block (hold b (cell_lt (h.imm.m b o v hm)) hbn)];exact h.imm.m b o v hm
 ·have hbn:b≠nb:=fun hbn=>by subst hbn;simp only [ai.grown,ai.claim] at he;rw [hmm] at he;cases he
  exact (h.imm.mm b es he).keep (hold b (h.imm.mm b es he).lt hbn)
theorem UZ {w':World} {l t sz k':Nat} {v':Value} {zs:List Value} {nb:Nat} (hown:w'.ownsRow 0 t sz v' k' zs) (hb:dw v'=some nb) (hone:fD zs) (hpos:0<sz∧0<k')
  (hlast:∀k,k'<k→g.hist l k=none) (hm1:∀o v,g.m nb o=some v→zs[o]?=some v) (hmm:g.mm nb=none):aeQ (g.grown l k' v' nb zs) w' l t sz k':=by
 refine ⟨v',zs,by simp [ai.grown],fun k hk=>?_,hown,hone,hpos,fun b hb'=>?_⟩
 ·simp only [ai.grown,if_true];rw [if_neg (by omega)];exact hlast k hk
 ·rw [hb] at hb';cases hb';refine ⟨hmm,fun j hj=>?_,fun j hj=>by simp [ai.grown,ai.claim,hj]⟩;simp only [ai.grown,ai.claim,true_and];rw [if_neg (by omega)]
  cases hm:g.m nb j with
  | none=>rfl
  | some v=>have:=hm1 j v hm;rw [List.getElem?_eq_none hj] at this;cases this
theorem adN {l k k':Nat} {v':Value} {zs:List Value} {nb n n':Nat} (hnew:g.hist l k'=none) (hm1:∀o v,g.m nb o=some v→zs[o]?=some v) (hn:n≤n'):g.le n (g.grown l k' v' nb zs) n':=by
 refine ⟨fun b o v hm=>?_,fun _ _ h=>h,fun _ _=>rfl,fun l' _ j v hj=>?_,hn⟩
 ·simp only [ai.grown,ai.claim];split
  ·rename_i hc;obtain ⟨rfl,_⟩:=hc;exact hm1 o v hm
  ·exact hm
 ·simp only [ai.grown];split
  ·rename_i hl;subst hl;show (if j=k' then some v' else g.hist l' j)=some v;rw [if_neg (fun hjk=>by subst hjk;rw [hnew] at hj;cases hj)];exact hj
  ·exact hj
theorem acK {tm:Nat→Value} (h:Sim P glob g s B w tm env) {l t sz k k':Nat} (hl:s[l]?=some (.row t sz k)) {w':World} {v':Value} {zs:List Value} (hown:w'.ownsRow 0 t sz v' k' zs) (hk:k<k')
  (hone:fD zs) {nb:Nat} (hb:dw v'=some nb) (hnb:g.bl l nb∨w.heap.size≤nb) (hsize:w.heap.size≤w'.heap.size) (hold:∀b,b<w.heap.size→b≠nb→w'.heap[b]?=w.heap[b]?)
  (hio:w'.os=w.os∧w'.output=w.output∧(True→TD w w')) (hm1:∀o v,g.m nb o=some v→zs[o]?=some v) (hmm:g.mm nb=none):
  Step True g s.length B w (g.grown l k' v' nb zs) s.length w'∧Sim P glob (g.grown l k' v' nb zs) (s.set l (.row t sz k')) B w' tm env∧g.le s.length (g.grown l k' v' nb zs) s.length:=by
 have hlt:l<s.length:=(List.getElem?_eq_some_iff.1 hl).1;obtain ⟨v,xs,h1,h2,h3,h4,h5,h6⟩:=h.base.heap.obj l _ hl;have hle:g.le s.length (g.grown l k' v' nb zs) s.length:=adN (k:=k) (h2 k' hk) hm1 (Nat.le_refl _);have hgm:∀b,b≠nb→(g.grown l k' v' nb zs).m b=g.m b:=fun b hb=>by funext j;simp [ai.grown,ai.claim,hb]
 have hbl:∀b,(g.grown l k' v' nb zs).bl l b→g.bl l b∨w.heap.size≤b:=by
  rintro b (hb' | ⟨j,u,hj,hu⟩)
  ·exact .inl (.inl hb')
  ·simp only [ai.grown,if_true] at hj
   split at hj
   ·cases hj;rw [hb] at hu;cases hu;exact hnb
   ·exact .inl (.inr ⟨j,u,hj,hu⟩)
 have htk:∀b,(g.grown l k' v' nb zs).taken s.length b→g.taken s.length b∨w.heap.size≤b:=by
  rintro b ⟨l',hl',hb'⟩;by_cases e:l'=l
  ·subst e;rcases hbl b hb' with hb' | hb'
   ·exact .inl ⟨l',hl',hb'⟩
   ·exact .inr hb'
  ·rcases hb' with hb' | ⟨j,u,hj,hu⟩
   ·exact .inl ⟨l',hl',.inl hb'⟩
   ·simp only [ai.grown,if_neg e] at hj;exact .inl ⟨l',hl',.inr ⟨j,u,hj,hu⟩⟩
 have hnt:∀b,b<w.heap.size→¬g.taken s.length b→b≠nb:=fun b hbs hn hbn=>by
  subst hbn;rcases hnb with h' | h'
  ·exact hn ⟨l,hlt,h'⟩
  ·omega
 have hB:=h.B;obtain ⟨cap,cur,hv,hcap,hg,hcur⟩:=zZ hown hb;have hnbs:nb<w'.heap.size:=(Array.getElem?_eq_some_iff.1 hg).1;refine ⟨⟨hle,hsize,fun b hb' hn=>hold b (by omega) (hnt b (by omega) hn),fun b hb' hn=>hgm b (hnt b (by omega) hn),fun _ _=>rfl,fun b hb'=>?_,hio⟩,⟨⟨U0 h.base hown hb hold hm1 hmm, ?_,h.base.glob.mono hle⟩, ?_,by omega⟩,hle⟩
 ·rcases htk b hb' with h' | h'
  ·exact .inl h'
  ·exact .inr (by omega)
 ·refine h.base.heap.setAt hlt hle (fun l' _ hne=>by simp [ai.grown,hne]) hbl (fun b hb'=>?_) hsize (fun b hbs hnb'=>?_) (UZ hown hb hone ⟨h5.1,by omega⟩ (fun j hj=>h2 j (by omega)) hm1 hmm)
  ·rcases hbl b hb' with h' | h'
   ·exact Nat.lt_of_lt_of_le (h.base.heap.lt l b hlt h') hsize
   ·rcases hb' with hb' | ⟨j,u,hj,hu⟩
    ·have:b<w.heap.size:=h.base.heap.lt l b hlt (.inl hb');omega
    ·simp only [ai.grown,if_true] at hj
     split at hj
     ·cases hj;rw [hb] at hu;cases hu;exact hnbs
     ·have:b<w.heap.size:=h.base.heap.lt l b hlt (.inr ⟨j,u,hj,hu⟩);omega
  ·have hne:b≠nb:=fun hbn=>by
    subst hbn;rcases hnb with h' | h'
    ·exact hnb' h'
    ·omega
   exact ⟨hold b hbs hne,hgm b hne,rfl⟩
 ·simp only [List.length_set];refine h.env.next hle (fun j x hj hx b hbj=>?_);have hbs:=Az h.env hj hx hbj;have hne:=hnt b hbs (h.env.off j x hj hx b hbj);refine ⟨hold b hbs hne,hgm b hne,rfl,fun ht=>?_⟩;rcases htk b ht with h' | h'
  ·exact h'
  ·omega
theorem U1 {n b len cap sz:Nat} {es:List AV} {xs:List Value} (h:Rep g n (.slice (some ⟨b,0,none⟩) len cap) (.sl es)) (hsz:∀e∈es,e.cells.length=sz) (hxl:xs.length=es.length * sz)
  (hm:∀j (h:j<xs.length),g.m b j=some xs[j]):aW g n xs (es.flatMap AV.cells):=by
 refine ⟨by rw [hxl,xE hsz],fun p hp hp'=>?_⟩;generalize hq:Value.slice (some ⟨b,0,none⟩) len cap=q at h
 cases h with
 | slNil=>cases hq
 | slE=>simp at hp'
 | sl _ _ _ sz' _ c hc hsz' hmm hr=>
  cases hq;have hne:es≠[]:=fun he=>by subst he;simp at hp'
  have h0:0<es.length:=List.length_pos_iff.2 hne;have hszz:sz'=sz:=by rw [←hsz' 0 h0];exact hsz _ (List.getElem_mem h0)
  subst hszz
  have hpos:0<sz':=by
   rcases Nat.eq_zero_or_pos sz' with h0|h0
   ·rw [h0] at hxl;simp at hxl;rw [hxl] at hp;simp at hp
   ·exact h0
  rw [hxl] at hp;have hi:p / sz'<es.length:=Nat.div_lt_of_lt_mul (by rw [Nat.mul_comm];exact hp);have hj:p % sz'<sz':=Nat.mod_lt _ hpos;have dm:p / sz' * sz'+p % sz'=p:=by rw [Nat.mul_comm];exact Nat.div_add_mod p sz'
  have e1:=(hmm _ _ hi hj).1;rw [Nat.zero_add,dm,hm p (by omega)] at e1;have hj':p % sz'<(AV.cells es[p / sz']).length:=by rw [hsz' _ hi];exact hj
  have e2:(es.flatMap AV.cells)[p]=(AV.cells es[p / sz'])[p % sz']:=by
   have:=flat_get hsz (p / sz') hi (p % sz') hj
   rw [dm,List.getElem?_eq_getElem hp',List.getElem?_eq_getElem hj'] at this;exact Option.some.inj this
  rw [e2,Option.some.inj e1];exact hr _ hi _ hj'
theorem acI {t ty el:TypeId} {i:TypeInfo} {z:Value} {sz m:Nat} {ad:Addr} {news:List Value} {x:Value} (ht:P.underlying t=some (.slice el))
  (hi:P.info? el=some i) (hz:i.zero=some z) (hsz:i.size=sz) (hzs:z.cells.size=sz) (hpos:0<m) (hx:Src P w sz x m news) (hmax:m≤aQ) (hby:i.bytes≤65536):
  ∃v' w',(Builtin.append_ #[t,t] ty #[.slice (some ad) 0 0,x]).run P w=.ok v' w'∧w'.ownsRow 0 el sz v' m news∧Grew True w w'∧∀b,dw v'=some b→w.heap.size≤b:=by
 subst hsz;have hmax':m≤1073741824:=hmax;have hge:=grownCap_ge w m 0 el
 have h48:¬(281474976710656<Builtin.nextslicecap m 0 * i.bytes):=by
  have h1:=nextslicecap_le (show 0<m by omega);have h2:Builtin.nextslicecap m 0 * i.bytes≤2147483648 * 65536:=Nat.mul_le_mul (by omega) hby;omega
 have h63:¬(9223372036854775807<(m:Int)):=by omega
 have hm:m≠0:=by omega
 have hfo:(Builtin.firstCells i.size 0 (.slice (some ad) 0 0)).run P w.drew=.ok #[] w.drew:=by
  simpa [Builtin.firstCells] using run_loadCells_list (P:=P) w.drew ad [] (fun j v hv=>by simp at hv)
 refine ⟨.slice (some ⟨w.heap.size,0,none⟩) m (grownCap w m 0 el),w.drew.alloc (.cells (news.toArray++Builtin.zeroCells z.cells (grownCap w m 0 el - m)) el), ?_,⟨hx.size,.inr ⟨w.heap.size,_,_,rfl,Nat.zero_le _,heap_alloc_new w.drew _,hge,grownCap_le_maxLen w _ _ _ (by simp only [maxLen];omega), ?_, ?_⟩⟩,⟨show w.heap.size≤(w.heap.push _).size by simp,fun b hb=>heap_alloc_old w.drew _ b hb,rfl,rfl,fun _=>⟨rfl,Nat.le_succ _⟩⟩,fun b hb=>by simp [dw] at hb;omega⟩
 ·simp [Builtin.append_,run_underlying ht,sizeOf,typeInfo,zeroValue,hi,hz,hx.len,hm,h63,h48,Question.forced,hfo,hx.cells w.drew rfl,newRow,grownCap]
 ·simp only [Array.size_append,List.size_toArray,size_zeroCells,hzs];rw [hx.size,←Nat.add_mul]
  congr 1;omega
 ·rw [←hx.size];simp only [Array.toList_append];rw [List.take_left'];rfl
theorem Ug {el sz:Nat} {x y:IX} (h:Sim P glob g s B w (Act.tm a) env) (hc:aT P o.op (.appr el sz x y)=true) (hr:aop glob call cx env s (.appr el sz x y)=.ok e env' s'):Good P glob g s B w a (execOp a.eval o) e env' s':=by
 simp only [aT] at hc
 split at hc
 ·rename_i c hop
  split at hc
  ·rename_i ts x' y' hcal hargs
   split at hc
   ·rename_i t t' htys;simp only [Bool.and_eq_true,beq_iff_eq] at hc;obtain ⟨⟨⟨⟨rfl,hx⟩,hy⟩,hsl⟩,hinf⟩:=hc;obtain ⟨hu,hsz⟩:=oQ hsl;obtain ⟨i,hi,hisz⟩:=oU hsz;rw [hi] at hinf;simp only [Option.any_some,Bool.and_eq_true,decide_eq_true_eq] at hinf;obtain ⟨hby,hzz⟩:=hinf
    cases hz:i.zero with
    | none=>simp [hz] at hzz
    | some z=>
    simp [hz] at hzz;simp only [aop] at hr
    split at hr
    ·-- a new row
     rename_i ys hys hxv
     split at hr
     ·rename_i hcond;obtain ⟨hpos,hlen,hall,hmax⟩:=hcond;cases hr;have hall':∀y∈ys,y.cells.length=sz:=fun y hy=>by simpa using List.all_eq_true.1 hall y hy
      obtain ⟨news,q1,q2⟩:=qF hy h hys hall'
      have hx0:a.eval x'=.slice none 0 0:=by
       have:=nR (a:=a) hx h.env h.base.glob hxv
       generalize a.eval x'=ax at this;cases this;rfl
      obtain ⟨v',w',r1,r2,r3⟩:=OW (ty:=o.type) (B:=0) hu hu (.inl ⟨_,rfl⟩) hi hz hisz hzz (World.ownsRow_nil w 0 el sz) q1 (by simpa using hmax) hby (Nat.zero_le _);simp only [Nat.zero_add,List.nil_append] at r2;have hrun:(execOp a.eval o).run P w=.ok (.value v') w':=jY hop hcal hargs htys (by rw [hx0];exact r1);rcases r3 with ⟨gb,cur,e1,_⟩|⟨hgrew,hfresh⟩
      ·simp [dw] at e1
      ·have hvb:∃nb,dw v'=some nb:=by
        rcases r2.2 with ⟨hv,hn⟩|⟨gb,cap,cur,hv,_⟩
        ·omega
        ·exact ⟨gb,by simp [hv,dw]⟩
       obtain ⟨nb,hnb⟩:=hvb;have hnbf:=hfresh nb hnb;have hfr:=h.base.imm.fresh hnbf;obtain ⟨cap,cur,hv,hcap,hg,hcur⟩:=zZ r2 hnb
       let g0:ai:=g.place s.length nb
       let g':ai:=g0.grown s.length ys.length v' nb news
       have hm1:∀o v,g.m nb o=some v→news[o]?=some v:=fun o v hv=>by rw [hfr.m o] at hv;cases hv
       have hle:g.le s.length g' (s.length+1):=by
        refine ⟨fun b o v hm=>?_,fun _ _ h=>h,fun l hl=>by simp [g',g0,ai.grown,ai.claim,ai.place];omega,fun l hl k v hk=>?_,by omega⟩
        ·simp only [g',ai.grown,ai.claim];split
         ·rename_i hc;obtain ⟨rfl,_⟩:=hc;exact hm1 o v hm
         ·exact hm
        ·have:l≠s.length:=by omega
         simp only [g',g0,ai.grown,ai.place,if_neg this];exact hk
       have hp:=h.push (g':=g') (ob:=.row el sz ys.length) hgrew hle (fun l hl=>?_) (fun b hb=>?_) (fun b hb=>?_) ?_ ?_
       ·obtain ⟨st,sm⟩:=hp;refine ⟨v',w',g',.inl hrun,st,sm,.v ?_⟩;refine .st s.length v' ys (by simp) (by simp [g',ai.grown]) ?_;rw [hv];refine ER hcap hall' (q2.mono (hle.trans ⟨fun _ _ _ h=>h,fun _ _ h=>h,fun _ _=>rfl,fun _ _ _ _ h=>h,by simp⟩)) q1.one (fun j hj=>?_);simp [g',ai.grown,ai.claim,hj]
       ·have:l≠s.length:=by omega
        funext k;simp [g',g0,ai.grown,ai.place,this]
       ·have hbn:b≠nb:=by omega
        exact ⟨by funext j;simp [g',g0,ai.grown,ai.claim,ai.place,hbn],rfl⟩
       ·have:b=nb:=by
         rcases hb with hb|⟨k,v,hk,hv2⟩
         ·simp [g',g0,ai.grown,ai.claim,ai.place] at hb;exact hb.symm
         ·simp only [g',g0,ai.grown,ai.place,if_true] at hk
          split at hk
          ·cases hk;rw [hnb] at hv2;cases hv2;rfl
          ·cases hk
        subst this;exact ⟨hnbf,(Array.getElem?_eq_some_iff.1 hg).1⟩
       ·have:=U0 (g:=g) (l:=s.length) (k':=ys.length) h.base r2 hnb (fun b hb _=>hgrew.old b hb) hm1 hfr.mm
        exact ⟨this.m,this.mm⟩
       ·exact UZ (g:=g0) r2 hnb q1.one ⟨hpos,hlen⟩ (fun k hk=>by simp [g0,ai.place]) hm1 hfr.mm
     ·cases hr
    ·-- a new row,behind an empty slice
     rename_i ys hys hxv
     split at hr
     ·rename_i hcond;obtain ⟨hpos,hlen,hall,hmax⟩:=hcond;cases hr;have hall':∀y∈ys,y.cells.length=sz:=fun y hy=>by simpa using List.all_eq_true.1 hall y hy
      obtain ⟨news,q1,q2⟩:=qF hy h hys hall'
      have hx0:∃ad,a.eval x'=.slice (some ad) 0 0:=by
       have:=nR (a:=a) hx h.env h.base.glob hxv
       generalize a.eval x'=ax at this;cases this;exact ⟨_,rfl⟩
      obtain ⟨ad,hx0⟩:=hx0;obtain ⟨v',w',r1,r2,hgrew,hfresh⟩:=acI (ty:=o.type) (ad:=ad) hu hi hz hisz hzz hlen q1 hmax hby;have hrun:(execOp a.eval o).run P w=.ok (.value v') w':=jY hop hcal hargs htys (by rw [hx0];exact r1)
      have hvb:∃nb,dw v'=some nb:=by
       rcases r2.2 with ⟨hv,hn⟩|⟨gb,cap,cur,hv,_⟩
       ·omega
       ·exact ⟨gb,by simp [hv,dw]⟩
      obtain ⟨nb,hnb⟩:=hvb;have hnbf:=hfresh nb hnb;have hfr:=h.base.imm.fresh hnbf;obtain ⟨cap,cur,hv,hcap,hg,hcur⟩:=zZ r2 hnb
      let g0:ai:=g.place s.length nb
      let g':ai:=g0.grown s.length ys.length v' nb news
      have hm1:∀o v,g.m nb o=some v→news[o]?=some v:=fun o v hv=>by rw [hfr.m o] at hv;cases hv
      have hle:g.le s.length g' (s.length+1):=by
       refine ⟨fun b o v hm=>?_,fun _ _ h=>h,fun l hl=>by simp [g',g0,ai.grown,ai.claim,ai.place];omega,fun l hl k v hk=>?_,by omega⟩
       ·simp only [g',ai.grown,ai.claim];split
        ·rename_i hc;obtain ⟨rfl,_⟩:=hc;exact hm1 o v hm
        ·exact hm
       ·have:l≠s.length:=by omega
        simp only [g',g0,ai.grown,ai.place,if_neg this];exact hk
      have hp:=h.push (g':=g') (ob:=.row el sz ys.length) hgrew hle (fun l hl=>?_) (fun b hb=>?_) (fun b hb=>?_) ?_ ?_
      ·obtain ⟨st,sm⟩:=hp;refine ⟨v',w',g',.inl hrun,st,sm,.v ?_⟩;refine .st s.length v' ys (by simp) (by simp [g',ai.grown]) ?_;rw [hv];refine ER hcap hall' (q2.mono (hle.trans ⟨fun _ _ _ h=>h,fun _ _ h=>h,fun _ _=>rfl,fun _ _ _ _ h=>h,by simp⟩)) q1.one (fun j hj=>?_);simp [g',ai.grown,ai.claim,hj]
      ·have:l≠s.length:=by omega
       funext k;simp [g',g0,ai.grown,ai.place,this]
      ·have hbn:b≠nb:=by omega
       exact ⟨by funext j;simp [g',g0,ai.grown,ai.claim,ai.place,hbn],rfl⟩
      ·have:b=nb:=by
        rcases hb with hb|⟨k,v,hk,hv2⟩
        ·simp [g',g0,ai.grown,ai.claim,ai.place] at hb;exact hb.symm
        ·simp only [g',g0,ai.grown,ai.place,if_true] at hk
         split at hk
         ·cases hk;rw [hnb] at hv2;cases hv2;rfl
         ·cases hk
       subst this;exact ⟨hnbf,(Array.getElem?_eq_some_iff.1 hg).1⟩
      ·have:=U0 (g:=g) (l:=s.length) (k':=ys.length) h.base r2 hnb (fun b hb _=>hgrew.old b hb) hm1 hfr.mm
       exact ⟨this.m,this.mm⟩
      ·exact UZ (g:=g0) r2 hnb q1.one ⟨hpos,hlen⟩ (fun k hk=>by simp [g0,ai.place]) hm1 hfr.mm
     ·cases hr
    ·-- a row that is there
     rename_i ys l es hys hxv
     split at hr
     ·rename_i t2 sz2 k hl
      split at hr
      ·rename_i hcond;obtain ⟨rfl,rfl,rfl,hpos,hlen,hall,hall2,hmax,_⟩:=hcond;cases hr;have hall':∀y∈ys,y.cells.length=sz:=fun y hy=>by simpa using List.all_eq_true.1 hall y hy
       have halle:∀y∈es,y.cells.length=sz:=fun y hy=>by simpa using List.all_eq_true.1 hall2 y hy
       obtain ⟨news,q1,q2⟩:=qF hy h hys hall';have hlt:l<s.length:=(List.getElem?_eq_some_iff.1 hl).1;obtain ⟨v,xs,p1,p2,p3,p4,p5,p6⟩:=h.base.heap.obj l _ hl;have hrep:=nR (a:=a) hx h.env h.base.glob hxv
       obtain ⟨hxv2,hrsl⟩:a.eval x'=v∧Rep g s.length v (.sl es):=by
        generalize a.eval x'=ax at hrep
        cases hrep with
        | st _ _ _ _ hh hr=>rw [p1] at hh;cases hh;exact ⟨rfl,hr⟩
       have hvb:∃gb,dw v=some gb:=by
        rcases p3.2 with ⟨hv,hn⟩|⟨gb,cap,cur,hv,_⟩
        ·omega
        ·exact ⟨gb,by simp [hv,dw]⟩
       obtain ⟨gb,hgb⟩:=hvb;obtain ⟨m1,m2,m3⟩:=p6 gb hgb;obtain ⟨cap0,cur0,hv0,hcap0,hg0,hcur0⟩:=zZ p3 hgb
       have hxs:aW g s.length xs (es.flatMap AV.cells):=by
        rw [hv0] at hrsl;exact U1 hrsl halle p3.1 m3
       obtain ⟨v',w',r1,r2,r3⟩:=OW (ty:=o.type) (B:=0) hu hu (.inl ⟨_,rfl⟩) hi hz hisz hzz p3 q1 hmax hby (Nat.zero_le _);have hrun:(execOp a.eval o).run P w=.ok (.value v') w':=jY hop hcal hargs htys (by rw [hxv2];exact r1);have hone:fD (xs++news):=fun u hu=>(List.mem_append.1 hu).elim (p4 u) (q1.one u)
       have hvb':∃nb,dw v'=some nb:=by
        rcases r2.2 with ⟨hv,hn⟩|⟨gb,cap,cur,hv,_⟩
        ·omega
        ·exact ⟨gb,by simp [hv,dw]⟩
       obtain ⟨nb,hnb⟩:=hvb'
       have hfin:(g.bl l nb∨w.heap.size≤nb)→w.heap.size≤w'.heap.size→(∀b,b<w.heap.size→b≠nb→w'.heap[b]?=w.heap[b]?)→(w'.os=w.os∧w'.output=w.output∧(True→TD w w'))→(∀o v,g.m nb o=some v→(xs++news)[o]?=some v)→g.mm nb=none→
         Good P glob g s B w a (execOp a.eval o) (.v (.st l (es++ys))) env (s.set l (.row el sz (es.length+ys.length))):=by
        intro f1 f2 f3 f4 f5 f6;obtain ⟨st,sm,hle⟩:=acK h hl r2 (by omega) hone hnb f1 f2 f3 f4 f5 f6;obtain ⟨cap,cur,hv,hcap,hg,hcur⟩:=zZ r2 hnb;refine ⟨v',w',_,.inl hrun,by simpa using st,sm,.v ?_⟩;simp only [List.length_set];refine .st l v' (es++ys) hlt (by simp [ai.grown]) ?_;have hlen2:(es++ys).length=es.length+ys.length:=List.length_append;rw [←hlen2] at hcap
        suffices hs:Rep (g.grown l (es.length+ys.length) v' nb (xs++news)) s.length (.slice (some ⟨nb,0,none⟩) (es++ys).length cap) (.sl (es++ys)) by
         rw [hlen2,←hv] at hs;exact hs
        refine ER hcap (fun e he=>(List.mem_append.1 he).elim (halle e) (hall' e)) ?_ hone (fun j hj=>?_)
        ·rw [List.flatMap_append];exact (hxs.append q2).mono hle
        ·simp only [Nat.zero_add,ai.grown,ai.claim,true_and];rw [if_pos hj,List.getElem?_eq_getElem hj]
       rcases r3 with ⟨gb',cur,e1,e2,e3,rfl,e5,e6⟩|⟨hgrew,hfresh⟩
       ·rw [hgb] at e1;cases e1;rw [hnb] at e2;cases e2;refine hfin (.inl (.inr ⟨_,v,p1,hgb⟩)) (by simp) (fun b _ hb=>aV _ hb) ⟨rfl,rfl,fun _=>⟨rfl,Nat.le_refl _⟩⟩ (fun o u hu=>?_) m1;by_cases ho:o<xs.length
        ·rw [m3 o ho] at hu;cases hu;rw [List.getElem?_append_left ho,List.getElem?_eq_getElem ho]
        ·rw [m2 o (by omega)] at hu;cases hu
       ·have hf:=hfresh nb hnb;have hfr:=h.base.imm.fresh hf;exact hfin (.inr hf) hgrew.size (fun b hb _=>hgrew.old b hb) hgrew.io (fun o u hu=>by rw [hfr.m o] at hu;cases hu) hfr.mm
      ·cases hr
     ·cases hr
    ·cases hr
   ·cases hc
  ·cases hc
 ·cases hc
end Go.Ai
namespace Go.Ai
variable {P:Program} {glob:Nat→Option (List AV)} {g:ai} {s:St} {B:Nat} {w:World} {env:Env} {a:Act} {o:Oper} {call:AV→List AV→St→Ctx→CO} {cx:Ctx} {e:EV} {env':Env} {s':St}
theorem foldl_set:∀(vs:List Value) (k off:Nat) (cells:Array Value),off+k+vs.length≤cells.size→
  ((vs.zipIdx k).foldl (fun cs p=>cs.setIfInBounds (off+p.2) p.1) cells).toList=cells.toList.take (off+k)++vs++cells.toList.drop (off+k+vs.length)
 | [],k,off,cells,_=>by simp
 | v::vs,k,off,cells,h=>by
  simp only [List.length_cons] at h;simp only [List.zipIdx_cons,List.foldl_cons];rw [foldl_set vs (k+1) off _ (by simp;omega)];simp only [Array.toList_setIfInBounds,List.length_cons];apply List.ext_getElem?;intro j;simp only [List.getElem?_append,List.getElem?_take,List.getElem?_drop,List.getElem?_set,List.length_append,List.length_take,List.length_set,Array.length_toList,List.length_cons];by_cases h1:j<off+k
  ·simp only [show j<min (off+(k+1)) cells.size by omega,show j<min (off+k) cells.size by omega,show j<min (off+(k+1)) cells.size+vs.length by omega,show j<min (off+k) cells.size+(vs.length+1) by omega,show j<off+(k+1) by omega,h1,if_true,show ¬off+k=j by omega,if_false]
  ·by_cases h2:j=off+k
   ·subst h2;simp only [show off+k<min (off+(k+1)) cells.size by omega,show ¬off+k<min (off+k) cells.size by omega,show off+k<min (off+(k+1)) cells.size+vs.length by omega,show off+k<min (off+k) cells.size+(vs.length+1) by omega,show off+k<off+(k+1) by omega,if_true,if_false,show off+k<cells.size by omega,show off+k - min (off+k) cells.size=0 by omega,List.getElem?_cons_zero]
   ·by_cases h3:j<off+k+1+vs.length
    ·simp only [show ¬j<min (off+(k+1)) cells.size by omega,show ¬j<min (off+k) cells.size by omega,show j<min (off+(k+1)) cells.size+vs.length by omega,show j<min (off+k) cells.size+(vs.length+1) by omega,if_true,if_false];rw [show j - min (off+k) cells.size=(j - min (off+(k+1)) cells.size)+1 by omega,List.getElem?_cons_succ]
    ·simp only [show ¬j<min (off+(k+1)) cells.size+vs.length by omega,show ¬j<min (off+k) cells.size+(vs.length+1) by omega,if_false];rw [if_neg (by omega)]
     congr 1;omega
theorem abO {place:Nat→Option (Nat×Nat)} {cells:Array Value} {i off size:Nat} {v:Value} {r:List (Nat×Value)} (hp:place i=some (off,size)) (hs:v.cells.size=size) (hle:off+size≤cells.size):
  Instr.fill place cells ((i,v)::r)=Instr.fill place (cells.toList.take off++v.cells.toList++cells.toList.drop (off+v.cells.toList.length)).toArray r:=by
 have h1:¬(v.cells.size≠size || off+v.cells.size > cells.size)=true:=by simp;omega
 simp only [Instr.fill,hp];rw [if_neg h1]
 congr 1
 apply Array.ext'
 have:=foldl_set v.cells.toList 0 off cells (by simp;omega)
 simp only [Nat.add_zero] at this;rw [←this];rw [←Array.foldl_toList,Array.toList_zipIdx]
theorem D8 {place:Nat→Option (Nat×Nat)}:∀(qs:List (Nat×Value)) (vs:List AV) (ps:List (Nat×Nat)) (cells:Array Value) (cs:List AV) {n:Nat} {cs':List AV},qs.length=ps.length→vs.length=ps.length→
  (∀i (h:i<qs.length) (h':i<ps.length),place qs[i].1=some ps[i])→
  aW g n (qs.map (·.2)) vs→(∀i (h:i<vs.length) (h':i<ps.length),vs[i].cells.length=ps[i].2∧vs[i].cells.all AV.one=true)→aW g n cells.toList cs→fD cells.toList→
  dU cs ((ps.zip vs).map fun p=>(p.1.1,p.2.cells))=some cs'→∃cells',Instr.fill place cells qs=some cells'∧aW g n cells'.toList cs'∧fD cells'.toList
 | [],vs,ps,cells,cs,n,cs',hl,hl',_,_,_,hc,h1,hf=>by
  have:ps=[]:=List.eq_nil_of_length_eq_zero (by simpa using hl.symm)
  subst this;simp [dU] at hf;subst hf;exact ⟨cells,rfl,hc,h1⟩
 | (i,v)::qs,vs,ps,cells,cs,n,cs',hl,hl',hp,hr,hv,hc,h1,hf=>by
  match ps,vs with
  | [],_=>simp at hl
  | _::_,[]=>simp at hl'
  | (off,sz)::ps,av::vs=>
   have hp0:place i=some (off,sz):=by have:=hp 0 (by simp) (by simp);simpa using this
   have hv0:=hv 0 (by simp) (by simp);simp only [List.getElem_cons_zero] at hv0;have hr0:Rep g n v av:=hr.head;obtain ⟨q1,q2⟩:=yw hr0 hv0.2;simp only [List.zip_cons_cons,List.map_cons,dU] at hf
   split at hf
   ·rename_i hle;have hcl:cells.size=cs.length:=by have:=hc.1;simpa using this
    have hvs:v.cells.size=sz:=by have:=q1.1;simp at this;omega
    have hstep:=abO (r:=qs) hp0 hvs (by omega:off+sz≤cells.size);rw [hstep];refine D8 qs vs ps _ (splice cs off av.cells) (by simpa using hl) (by simpa using hl') (fun j hj hj'=>?_) hr.tail (fun j hj hj'=>?_) ?_ ?_ hf
    ·have:=hp (j+1) (by simpa using hj) (by simpa using hj');simpa using this
    ·have:=hv (j+1) (by simpa using hj) (by simpa using hj');simpa using this
    ·simpa using wR hc q1 off
    ·simpa using sW h1 q2 off _
   ·cases hf
theorem Ii {fs:Array Field}:∀(qs:List (Nat×Operand)) (ps:List (Nat×Nat×IX)),Dt P fs qs ps=true→
  qs.length=ps.length∧zH (qs.map (·.2)) (ps.map (·.2.2))=true∧∀i (h:i<qs.length) (h':i<ps.length),∃f,fs[qs[i].1]?=some f∧f.offset=ps[i].1∧pK P f.type ps[i].2.1=true
 | [],[],_=>⟨rfl,rfl,fun i h=>by simp at h⟩
 | [],_::_,h=>by simp [Dt] at h
 | _::_,[],h=>by simp [Dt] at h
 | (i,x)::qs,(off,n,y)::ps,h=>by
  simp only [Dt,Bool.and_eq_true] at h;obtain ⟨⟨h1,h2⟩,h3⟩:=h;obtain ⟨q1,q2,q3⟩:=Ii qs ps h3;refine ⟨by simp [q1],by simp [zH,h2,q2],fun j hj hj'=>?_⟩
  cases j with
  | zero=>
   split at h1
   ·rename_i f hf;simp only [Bool.and_eq_true,beq_iff_eq] at h1;exact ⟨f,by simpa using hf,h1.1,h1.2⟩
   ·cases h1
  | succ j=>simpa using q3 j (by simpa using hj) (by simpa using hj')
theorem FX {n:Nat}:∀(qs:List (Nat×Operand)) (ps:List (Nat×Nat×IX)),Ag n qs ps=true→
  qs.length=ps.length∧zH (qs.map (·.2)) (ps.map (·.2.2))=true∧∀i (h:i<qs.length) (h':i<ps.length),qs[i].1 * n=ps[i].1∧ps[i].2.1=n
 | [],[],_=>⟨rfl,rfl,fun i h=>by simp at h⟩
 | [],_::_,h=>by simp [Ag] at h
 | _::_,[],h=>by simp [Ag] at h
 | (i,x)::qs,(off,m,y)::ps,h=>by
  simp only [Ag,Bool.and_eq_true,beq_iff_eq] at h;obtain ⟨⟨⟨h0,h1⟩,h2⟩,h3⟩:=h;obtain ⟨q1,q2,q3⟩:=FX qs ps h3;refine ⟨by simp [q1],by simp [zH,h2,q2],fun j hj hj'=>?_⟩
  cases j with
  | zero=>exact ⟨h0,h1⟩
  | succ j=>simpa using q3 j (by simpa using hj) (by simpa using hj')
theorem WT {fs:List Field} (h:∀f∈fs,∃i,P.info? f.type=some i):∃places,fs.mapM (fun f=>(P.info? f.type).map fun i=>(f.offset,i.size))=some places∧∀(j:Nat) f i,fs[j]?=some f→P.info? f.type=some i→places[j]?=some (f.offset,i.size):=by
 induction fs with
 | nil=>exact ⟨[],rfl,fun j f i hf=>by simp at hf⟩
 | cons f fs ih=>
  obtain ⟨i,hi⟩:=h f (by simp);obtain ⟨places,h1,h2⟩:=ih (fun f hf=>h f (by simp [hf]));refine ⟨(f.offset,i.size)::places,by simp [List.mapM_cons,hi,h1],fun j f' i' hf hi'=>?_⟩
  cases j with
  | zero=>simp at hf;subst hf;rw [hi] at hi';cases hi';rfl
  | succ j=>simpa using h2 j f' i' (by simpa using hf) hi'
theorem YW {zs:List AV} {ps:List (Nat×Nat×IX)} (h:Sim P glob g s B w (Act.tm a) env) (hc:aT P o.op (.build zs ps)=true) (hr:aop glob call cx env s (.build zs ps)=.ok e env' s'):Good P glob g s B w a (execOp a.eval o) e env' s':=by
 simp only [aT] at hc
 split at hc
 ·rename_i t qs hop
  split at hc
  ·rename_i fs hu;simp only [Bool.and_eq_true] at hc;obtain ⟨⟨hz,hinfo⟩,hparts⟩:=hc;obtain ⟨p1,p2,p3⟩:=Ii _ _ hparts;obtain ⟨it,z,hit,hzz,hok⟩:=ug hz;simp only [aop] at hr
   split at hr
   ·rename_i vs env1 he
    split at hr
    ·rename_i hall;obtain ⟨r,h1,rfl,rfl,rfl⟩:=yB hr;obtain ⟨g1,s1,m1,r1⟩:=wK p2 h he;have hvl:vs.length=ps.length:=by have:=r1.1;simp only [List.length_map] at this;omega
     cases hf:dU zs ((ps.zip vs).map fun p=>(p.1.1,p.2.cells)) with
     | none=>simp [hf] at h1
     | some cs'=>
      simp [hf] at h1;subst h1;obtain ⟨z1,z2⟩:=rX hok g1 s'.length
      obtain ⟨places,hpl,hpl2⟩:=WT (P:=P) (fs:=fs.toList) (fun f hf=>by
       have:=List.all_eq_true.1 hinfo f hf
       cases hq:P.info? f.type with
       | none=>simp [hq] at this
       | some i=>exact ⟨i,rfl⟩)
      have hzip:(((ps.map fun p=>(p.1,p.2.1)).zip vs).map fun p=>(p.1.1,p.2.cells))=(ps.zip vs).map fun p=>(p.1.1,p.2.cells):=by
       rw [List.zip_map_left,List.map_map];rfl
      obtain ⟨cells',f1,f2,f3⟩:=D8 (g:=g1) (place:=fun i=>places.toArray[i]?) ((qs.map fun p=>(p.1,a.eval p.2)).toList) vs (ps.map fun p=>(p.1,p.2.1)) z.cells zs (n:=s'.length) (cs':=cs') (by simp [←p1]) (by simpa using hvl)
       (fun i hi hi'=>by
        simp at hi hi';obtain ⟨f,e1,e2,e3⟩:=p3 i (by simpa using hi) hi';obtain ⟨inf,e4,e5⟩:=oU e3
        have:=hpl2 (qs.toList[i]'(by simpa using hi)).1 f inf (by simpa using e1) e4
        simp at this ⊢
        rw [this,e2,e5])
       (by simpa [Function.comp_def] using r1)
       (fun i hi hi'=>by
        have hm:((ps[i]'(by simpa using hi')),vs[i])∈ps.zip vs:=by
         have:(ps.zip vs)[i]'(by simp;omega)=(ps[i]'(by simpa using hi'),vs[i]):=by simp
         rw [←this];exact List.getElem_mem _
        have:=List.all_eq_true.1 hall _ hm
        simp only [Bool.and_eq_true,beq_iff_eq] at this
        simpa using this)
       z1 z2 (by rw [hzip];exact hf)
      refine ⟨.agg cells',w,g1,.inl ?_,s1,m1,.v (JO f2 f3)⟩;simp only [execOp,hop];refine aX (run_build w t _ cells' ?_);simp only [Program.built,hit,hu,hzz,hpl];exact f1
    ·cases hr
   ·cases hr
  ·rename_i len el hu;simp only [Bool.and_eq_true] at hc;obtain ⟨hz,hparts⟩:=hc
   split at hparts
   case h_2=>cases hparts
   rename_i ie hie;obtain ⟨p1,p2,p3⟩:=FX _ _ hparts;obtain ⟨it,z,hit,hzz,hok⟩:=ug hz;simp only [aop] at hr
   split at hr
   ·rename_i vs env1 he
    split at hr
    ·rename_i hall;obtain ⟨r,h1,rfl,rfl,rfl⟩:=yB hr;obtain ⟨g1,s1,m1,r1⟩:=wK p2 h he;have hvl:vs.length=ps.length:=by have:=r1.1;simp only [List.length_map] at this;omega
     cases hf:dU zs ((ps.zip vs).map fun p=>(p.1.1,p.2.cells)) with
     | none=>simp [hf] at h1
     | some cs'=>
      simp [hf] at h1;subst h1;obtain ⟨z1,z2⟩:=rX hok g1 s'.length
      have hzip:(((ps.map fun p=>(p.1,p.2.1)).zip vs).map fun p=>(p.1.1,p.2.cells))=(ps.zip vs).map fun p=>(p.1.1,p.2.cells):=by
       rw [List.zip_map_left,List.map_map];rfl
      obtain ⟨cells',f1,f2,f3⟩:=D8 (g:=g1) (place:=fun i=>some (i * ie.size,ie.size)) ((qs.map fun p=>(p.1,a.eval p.2)).toList) vs (ps.map fun p=>(p.1,p.2.1)) z.cells zs (n:=s'.length) (cs':=cs') (by simp [←p1]) (by simpa using hvl)
       (fun i hi hi'=>by
        simp at hi hi';obtain ⟨e1,e2⟩:=p3 i (by simpa using hi) hi';simp at e1 e2 ⊢
        exact ⟨e1,e2.symm⟩)
       (by simpa [Function.comp_def] using r1)
       (fun i hi hi'=>by
        have hm:((ps[i]'(by simpa using hi')),vs[i])∈ps.zip vs:=by
         have:(ps.zip vs)[i]'(by simp;omega)=(ps[i]'(by simpa using hi'),vs[i]):=by simp
         rw [←this];exact List.getElem_mem _
        have:=List.all_eq_true.1 hall _ hm
        simp only [Bool.and_eq_true,beq_iff_eq] at this
        simpa using this)
       z1 z2 (by rw [hzip];exact hf)
      refine ⟨.agg cells',w,g1,.inl ?_,s1,m1,.v (JO f2 f3)⟩;simp only [execOp,hop];refine aX (run_build w t _ cells' ?_);simp only [Program.built,hit,hu,hzz,hie];exact f1
    ·cases hr
   ·cases hr
  ·cases hc
 ·cases hc
end Go.Ai
namespace Go.Ai
variable {P:Program} {glob:Nat→Option (List AV)} {g:ai} {s:St} {B:Nat} {w:World} {env:Env} {a:Act} {o:Oper} {call:AV→List AV→St→Ctx→CO} {cx:Ctx} {e:EV} {env':Env} {s':St}
theorem Uo {sz:Nat}:∀(vs:List AV) (k:Nat) (pre:List AV),pre.length=k * sz→(∀v∈vs,v.cells.length=sz)→
  dU (pre++List.replicate (vs.length * sz) .u) (((List.range' k vs.length).zip vs).map fun p=>(p.1 * sz,p.2.cells))=some (pre++vs.flatMap AV.cells)
 | [],k,pre,_,_=>by simp [dU]
 | v::vs,k,pre,hp,hv=>by
  have hv0:v.cells.length=sz:=hv v (by simp);simp only [List.length_cons,List.range'_succ,List.zip_cons_cons,List.map_cons,dU,List.flatMap_cons];rw [if_pos (by simp only [hv0,hp,Nat.succ_mul,List.length_append,List.length_replicate];omega)]
  have e1:splice (pre++List.replicate ((vs.length+1) * sz) .u) (k * sz) v.cells=(pre++v.cells)++List.replicate (vs.length * sz) .u:=by
   unfold splice;rw [←hp,List.take_left,hv0,List.drop_length_add_append];rw [show (vs.length+1) * sz=sz+vs.length * sz by rw [Nat.succ_mul];omega,List.drop_replicate]
   congr 2;omega
  rw [e1,Uo vs (k+1) (pre++v.cells) (by simp [hp,hv0,Nat.succ_mul]) (fun x hx=>hv x (by simp [hx]))];simp [List.append_assoc]
theorem Ih:∀(qs:List (Nat×Operand)) (ps:List (Nat×IX)),Dq qs ps=true→qs.length=ps.length∧zH (qs.map (·.2)) (ps.map (·.2))=true∧qs.map (·.1)=ps.map (·.1)
 | [],[],_=>⟨rfl,rfl,rfl⟩
 | [],_::_,h=>by simp [Dq] at h
 | _::_,[],h=>by simp [Dq] at h
 | (i,x)::qs,(j,y)::ps,h=>by
  simp only [Dq,Bool.and_eq_true,beq_iff_eq] at h;obtain ⟨⟨h1,h2⟩,h3⟩:=h;obtain ⟨q1,q2,q3⟩:=Ih qs ps h3;exact ⟨by simp [q1],by simp [zH,h2,q2],by simp [h1,q3]⟩
theorem Ux (h:Sim P glob g s B w (Act.tm a) env) {w':World} (hg:Grew True w w') {b:Nat} (hb:w.heap.size≤b) {arr:Array Value} {ty:TypeId} {fr:Nat×Nat} (hrow:w'.heap[b]?=some (.cells arr ty fr)) (xs:List Value)
  (hx:∀j (hj:j<xs.length),arr[j]?=some xs[j]):
  ∃g',Step True g s.length B w g' s.length w'∧Sim P glob g' s B w' (Act.tm a) env∧(∀j (hj:j<xs.length),g'.m b j=some xs[j]):=by
 obtain ⟨h2,s2⟩:=h.grew hg;have hfr:=h.base.imm.fresh hb;have hfo:=Di h hb;have hother:∀b',b'≠b→(g.claim b xs).m b'=g.m b':=by intro b' hb';funext j;simp [ai.claim,hb']
 have hle:g.le s.length (g.claim b xs) s.length:=by
  refine ⟨fun b' o v hm=>?_,fun _ _ h=>h,fun _ _=>rfl,fun _ _ _ _ h=>h,Nat.le_refl _⟩;by_cases hbb:b'=b
  ·subst hbb;rw [hfr.m o] at hm;cases hm
  ·rw [hother b' hbb];exact hm
 have him:Imm (g.claim b xs) w':=by
  refine ⟨fun b' o v hm=>?_,h2.base.imm.mm⟩;by_cases hbb:b'=b
  ·subst hbb;simp only [ai.claim,true_and] at hm
   split at hm
   ·rename_i ho;rw [cell_of_row _ b' o arr ty fr hrow,hx o ho];rw [List.getElem?_eq_getElem ho] at hm;exact hm
   ·rw [hfr.m o] at hm;cases hm
  ·rw [hother b' hbb] at hm;exact h2.base.imm.m b' o v hm
 refine ⟨g.claim b xs,s2.trans ⟨hle,Nat.le_refl _,fun _ _ _=>rfl,fun b' hb' _=>hother b' (by have:=h.B;omega),fun _ _=>rfl,fun b hb=>.inl hb,rfl,rfl,fun _=>⟨rfl,Nat.le_refl _⟩⟩,
  ⟨h2.base.fix hle him rfl (fun b' hb'=>⟨hother b' (fun hbb=>hfo.2 (by subst hbb;exact hb')),rfl⟩),h2.env.next hle (fun k e hk ho b' hb'=>⟨rfl,hother b' (fun hbb=>?_),rfl,fun ht=>ht⟩),h2.B⟩,fun j hj=>by simp [ai.claim,hj]⟩
 ·subst hbb;exact hfo.1 k e hk ho hb'
theorem adZ {own:Bool} {el sz len:Nat} {zs:List AV} {ps:List (Nat×IX)} (h:Sim P glob g s B w (Act.tm a) env) (hc:aT P o.op (.bsl own el sz len zs ps)=true) (hr:aop glob call cx env s (.bsl own el sz len zs ps)=.ok e env' s'):Good P glob g s B w a (execOp a.eval o) e env' s':=by
 simp only [aT] at hc
 split at hc
 ·rename_i t n qs hop;simp only [Bool.and_eq_true,beq_iff_eq] at hc;obtain ⟨⟨⟨rfl,hsl⟩,hz⟩,hslots⟩:=hc;obtain ⟨hu,hsz⟩:=oQ hsl;obtain ⟨p1,p2,p3⟩:=Ih _ _ hslots;obtain ⟨it,z,hit,hzz,hok⟩:=ug hz;simp only [aop] at hr
  split at hr
  ·rename_i vs env1 he
   split at hr
   ·rename_i hcond;obtain ⟨hmax,hrange,hall,hzl⟩:=hcond;obtain ⟨g1,s1,m1,r1⟩:=wK p2 h he;have hvl:vs.length=ps.length:=by have:=r1.1;simp only [List.length_map] at this;omega
    have hpl:ps.length=n:=by have:=congrArg List.length hrange;simpa using this
    have hqs:qs.size=n:=by have:=p1;simp at this;omega
    have hall':∀v∈vs,v.cells.length=sz∧v.cells.all AV.one=true:=fun v hv=>by
     have:=List.all_eq_true.1 hall v hv
     simpa only [Bool.and_eq_true,beq_iff_eq] using this
    obtain ⟨z1,z2⟩:=rX hok g1 s.length;have hzs:z.cells.size=sz:=by have:=z1.1;simp at this;omega
    -- the cells before they are filled
    let zero:Array Value:=if n * sz=0 then #[] else z.cells
    let F5:Array Value:=(Array.range (n * sz)).map (zero[· % zero.size]!)
    have hone0:fD F5.toList:=by
     intro v hv;simp [F5] at hv;obtain ⟨j,hj,rfl⟩:=hv;have hne:¬n * sz=0:=by omega
     have hpos:0<sz:=by rcases Nat.eq_zero_or_pos sz with h0|h0;· rw [h0] at hj;simp at hj
                        ·exact h0
     simp only [zero,hne,if_false];have hlt:j % z.cells.size<z.cells.size:=Nat.mod_lt _ (by omega);rw [getElem!_pos z.cells _ hlt];exact z2 _ (by simp)
    obtain ⟨cells',f1,f2,f3⟩:=D8 (g:=g1) (place:=fun i=>some (i * sz,sz)) ((qs.map fun p=>(p.1,a.eval p.2)).toList) vs ((List.range n).map fun i=>(i * sz,sz)) F5 (List.replicate (n * sz) .u) (n:=s.length) (cs':=vs.flatMap AV.cells) (by simp;omega) (by simp;omega)
     (fun i hi hi'=>by
      simp at hi hi'
      have:qs.toList[i].1=i:=by
       have e1:(qs.toList.map (·.1))[i]'(by simpa using hi)=(List.range n)[i]'(by simpa using hi'):=by
        simp only [p3,hrange]
       simpa using e1
      simp at this ⊢
      rw [this])
     (by simpa [Function.comp_def] using r1)
     (fun i hi hi'=>by
      have:=hall' vs[i] (List.getElem_mem hi)
      simpa using this)
     ⟨by simp [F5],fun i hi hi'=>by simp only [List.getElem_replicate];exact .u _⟩ hone0
     (by
      have:=Uo (sz:=sz) vs 0 [] (by simp) (fun v hv=>(hall' v hv).1)
      simp only [List.nil_append] at this;rw [hvl,hpl] at this
      have e2:(((List.range n).map fun i=>(i * sz,sz)).zip vs).map (fun p=>(p.1.1,p.2.cells))=((List.range' 0 n).zip vs).map fun p=>(p.1 * sz,p.2.cells):=by
       rw [List.zip_map_left,List.map_map,List.range_eq_range'];rfl
      rw [e2];exact this)
    have hrun:(Instr.buildSlice t n (qs.map fun (i,x)=>(i,a.eval x))).run P w=.ok (.slice (some ⟨w.heap.size,0,none⟩) n n) (w.alloc (.cells cells' el)):=by
     have hbig:¬n * sz > 2 ^ 24:=by omega
     by_cases h0:n * sz=0
     ·have f1':=f1;simp only [F5,zero,h0,if_true] at f1';simp [Instr.buildSlice,Sem.run_bind,run_underlying hu,run_sizeOf hsz,h0];simp [h0] at f1';rw [f1'];simp [newRow,Sem.run_bind]
     ·have f1':=f1;simp only [F5,zero,h0,if_false] at f1';simp [Instr.buildSlice,Sem.run_bind,run_underlying hu,run_sizeOf hsz,h0,hbig,zeroValue,typeInfo,hit,hzz];simp at f1';rw [f1'];simp [newRow,Sem.run_bind]
    have hex:(execOp a.eval o).run P w=.ok (.value (.slice (some ⟨w.heap.size,0,none⟩) n n)) (w.alloc (.cells cells' el)):=by
     simp only [execOp,hop];exact aX hrun
    have hvn:vs.length=n:=by omega
    have hcl:cells'.size=n * sz:=by have:=f2.1;rw [xE (fun v hv=>(hall' v hv).1),hvn] at this;simpa using this
    cases own with
    | false=>
     simp only [Bool.false_eq_true,if_false] at hr;cases hr;obtain ⟨g2,s2,m2,c2⟩:=Ux m1 (Grew.alloc (qt:=True) w (.cells cells' el)) (Nat.le_refl _) (heap_alloc_new w _) cells'.toList (fun j hj=>by simp at hj;simp [hj]);refine ⟨_,_,g2,.inl hex,s1.trans s2,m2,.v ?_⟩
     have:=ER (g:=g2) (n:=s.length) (b:=w.heap.size) (off:=0) (cap:=n) (sz:=sz) (es:=vs) (xs:=cells'.toList) (by omega) (fun v hv=>(hall' v hv).1) (f2.mono s2.le) f3 (fun j hj=>by rw [Nat.zero_add];exact c2 j hj)
     rw [hvn] at this;exact this
    | true=>
     simp only [if_true] at hr
     split at hr
     ·rename_i hpos;cases hr;obtain ⟨h2,s2⟩:=m1.grew (Grew.alloc (qt:=True) w (.cells cells' el));have hfr:=m1.base.imm.fresh (Nat.le_refl w.heap.size);refine ⟨_,_,g1,.inl hex,s1.trans s2,h2,⟨fun d _=>⟨cells'.toList, ?_,f2,f3,fun v hv=>(hall' v hv).1,hpos,fun b hb=>?_⟩,fun j hj=>by simp [EV.refers] at hj,fun _ b hb=>?_⟩⟩
      ·rw [upd_same];refine ⟨by simp [hcl,hvn],.inr ⟨w.heap.size,n,cells',by rw [hvn],m1.B,.of (heap_alloc_new w _),by omega, ?_,hcl, ?_⟩⟩
       ·have:n≤n * sz:=Nat.le_mul_of_pos_right n hpos
        simp only [maxLen];omega
       ·rw [List.take_of_length_le (by simp [hcl,hvn])]
      ·rw [upd_same] at hb;simp [dw] at hb;subst hb;exact ⟨hfr.mm,fun j _=>hfr.m j,fun j _=>by simpa using hfr.m j⟩
      ·simp [dw] at hb;subst hb;exact Di m1 (Nat.le_refl _)
     ·cases hr
   ·cases hr
  ·cases hr
 ·cases hc
theorem yE {w:World} {b:Nat} {o:Obj} (h:b<w.heap.size):({ w with heap:=w.heap.setIfInBounds b o }:World).heap[b]?=some o:=by simp [h]
theorem dM {w:World} {b c:Nat} {o:Obj} (h:c≠b):({ w with heap:=w.heap.setIfInBounds b o }:World).heap[c]?=w.heap[c]?:=by
 simp [Array.getElem?_setIfInBounds,Ne.symm h]
theorem adP {x:IX} (h:Sim P glob g s B w (Act.tm a) env) (hc:aT P o.op (.s2b x)=true) (hr:aop glob call cx env s (.s2b x)=.ok e env' s'):Good P glob g s B w a (execOp a.eval o) e env' s':=by
 simp only [aT] at hc
 split at hc
 ·rename_i src dst x' hop;simp only [Bool.and_eq_true] at hc;obtain ⟨⟨hx,hst⟩,hb⟩:=hc;unfold Ah at hb
  split at hb
  ·rename_i el hu
   split at hb
   ·rename_i hu8;simp only [aop] at hr
    split at hr
    ·rename_i l hl;cases hr;have hxv:=rD (aJ (a:=a) hx h.env h.base.glob hl)
     let cap:=(Question.appendCap l.length 0 el).cut (w.tape w.drawn (.appendCap l.length 0 el))
     let cells:Array Value:=(l.toArray.map fun b=>Value.int .u8 b.toNat)++Array.replicate (cap - l.length) (.int .u8 0)
     let w1:World:=w.drew.alloc (.cells cells el)
     let w':World:=w1.freeze ⟨w.heap.size,cells.size,none⟩ 1
     have hge:l.length≤cap:=by simp only [cap,Question.cut];omega
     have hw':w'.heap=w1.heap.modify w.heap.size fun
       | .cells c elem (lo,hi)=>.cells c elem (if lo == hi then (cells.size,cells.size+1) else (min lo cells.size,max hi (cells.size+1)))
       | o=>o:=rfl
     have hgrew:Grew True w w':=by
      refine ⟨?_,fun b hb=>?_,rfl,rfl,fun _=>⟨rfl,Nat.le_succ w.drawn⟩⟩
      ·rw [hw',Array.size_modify];exact Nat.le_of_lt (show w.heap.size<(w.heap.push (.cells cells el)).size by simp)
      ·rw [hw',Array.getElem?_modify,if_neg (by omega)];exact heap_alloc_old w.drew _ b hb
     have hrow:w'.heap[w.heap.size]?=some (.cells cells el (cells.size,cells.size+1)):=by
      rw [hw',Array.getElem?_modify,if_pos rfl]
      have:w1.heap[w.heap.size]?=some (.cells cells el (0,0)):=heap_alloc_new w.drew _
      rw [this];simp
     have hrun:(convert src dst (a.eval x')).run P w=.ok (.slice (some ⟨w.heap.size,0,none⟩) l.length cap) w':=by
      rw [hxv]
      have hshape:w1.shape? w.heap.size=some (el,cells.size):=by
       have:w1.heap[w.heap.size]?=some (.cells cells el (0,0)):=heap_alloc_new w.drew _
       simp [World.shape?,this]
      have e1:(Conv.stringToBytes el ⟨l.toArray⟩).run P w=.ok (.slice (some ⟨w.heap.size,0,none⟩) l.length cap) w':=by
       unfold Conv.stringToBytes;simp only [Sem.run_bind,run_choose,Question.forced,ByteArray.size_mk'];simp only [Bool.false_eq_true,if_false,Result.andThen,List.size_toArray];simp only [newRow,Sem.run_bind,newObj,Sem.run,Result.andThen,Sem.run_pure];show Result.andThen ((markStringish ⟨w.heap.size,0,none⟩).run P w1) _=_;simp only [markStringish,Sem.run_bind,shape,Sem.run,hshape,Result.andThen,Sem.run_pure];simp only [freeze,Sem.run,Sem.run_pure,Result.andThen];rfl
      simp [convert,Sem.run_bind,run_underlying (wG hst),run_underlying hu,run_underlying hu8,e1]
     obtain ⟨g2,s2,m2,c2⟩:=Ux h hgrew (Nat.le_refl _) hrow (l.map fun b=>Value.int .u8 b.toNat) (fun j hj=>by
      simp at hj;simp only [cells];rw [Array.getElem?_append_left (by simpa using hj)]
      simp [hj])
     refine ⟨.slice (some ⟨w.heap.size,0,none⟩) l.length cap,w',g2,.inl ?_,s2,m2,.v ?_⟩
     ·simp only [execOp,hop];exact aX hrun
     ·have hlen:(aF l).length=l.length:=by simp [aF]
      have:=ER (g:=g2) (n:=s.length) (b:=w.heap.size) (off:=0) (cap:=cap) (sz:=1) (es:=aF l) (xs:=l.map fun b=>Value.int .u8 b.toNat) (by omega)
       (fun y hy=>by simp [aF] at hy;obtain ⟨b,_,rfl⟩:=hy;rfl)
       (by rw [Ry l];exact ⟨by simp [aF],fun i hi hi'=>by simp [aF];exact .i _ _⟩) (fun v hv=>by simp at hv;obtain ⟨b,_,rfl⟩:=hv;rfl) (fun j hj=>by rw [Nat.zero_add];exact c2 j hj)
      rw [hlen] at this;exact this
    ·cases hr
   ·cases hb
  ·cases hb
 ·cases hc
end Go.Ai
namespace Go.Ai
variable {P:Program} {glob:Nat→Option (List AV)} {g:ai} {s:St} {B:Nat} {w:World} {env:Env} {a:Act} {call:AV→List AV→St→Ctx→CO} {cx:Ctx} {o:Oper} {e:EV} {env':Env} {s':St}
theorem QS (w:World) (a:Addr) (n b:Nat) (h:b≠a.block):(w.freeze a n).heap[b]?=w.heap[b]?:=by
 unfold World.freeze;split
 ·rfl
 ·simp only [Array.getElem?_modify];rw [if_neg (Ne.symm h)]
theorem FW (w:World) (a:Addr) (n:Nat):(w.freeze a n).heap.size=w.heap.size:=by
 unfold World.freeze;split<;>simp
theorem abK (w:World) (a:Addr) (n:Nat):(w.freeze a n).os=w.os∧(w.freeze a n).output=w.output∧(True→TD w (w.freeze a n)):=by
 unfold World.freeze;split<;>exact ⟨rfl,rfl,fun _=>⟨rfl,Nat.le_refl _⟩⟩
theorem Xu (w:World) (a:Addr) (n b o:Nat):(w.freeze a n).cell? ⟨b,o,none⟩=w.cell? ⟨b,o,none⟩:=by
 unfold World.freeze;split
 ·rfl
 ·unfold World.cell?;simp only [Array.getElem?_modify];by_cases h:a.block=b
  ·subst h;simp only [if_true]
   cases hh:w.heap[a.block]? with
   | none=>rfl
   | some ob=>cases ob<;>rfl
  ·rw [if_neg h]
theorem abp {x:IX} (h:Sim P glob g s B w (Act.tm a) env) (hc:aT P o.op (.mark x)=true) (hr:aop glob call cx env s (.mark x)=.ok e env' s'):Good P glob g s B w a (execOp a.eval o) e env' s':=by
 simp only [aT] at hc
 split at hc
 case h_2=>cases hc
 rename_i src dst x' hop;simp only [Bool.and_eq_true,beq_iff_eq] at hc;obtain ⟨⟨hx,rfl⟩,hb⟩:=hc;simp only [aop] at hr
 split at hr
 case h_2=>cases hr
 rename_i k
 split at hr
 case h_2=>cases hr
 rename_i tip t sz es hk
 split at hr
 case isFalse=>cases hr
 rename_i hpos;cases hr
 have hxk:a.eval x'=Act.tm a k:=by
  unfold eF at hx
  split at hx
  ·simp at hx;subst hx;rename_i hh;cases hh;rfl
  all_goals first | (rename_i hh;cases hh;done) | (cases hx;done)
 obtain ⟨g',st,sim,rep⟩:=Gy h hk;have hk':lk ((k,EV.own true t sz es)::env) k=some (.own true t sz es):=kV _ _ _;obtain ⟨xs,h1,h2,h3,h4,h5,h6⟩:=sim.env.rel k _ hk';rcases h1.2 with ⟨hv,hn⟩|⟨gb,cap,cur,hv,hB,⟨fz0,hg,hfz0⟩,hcap,hmax,hsize,htake⟩
 ·omega
 have hblk:dw (Act.tm a k)=some gb:=by rw [hv];rfl
 have hoff:=sim.env.off k _ hk' rfl gb hblk
 let ad:Addr:=⟨gb,cur.size,none⟩
 let w':=w.freeze ad 1
 have hother:∀b,b≠gb→w'.heap[b]?=w.heap[b]?:=fun b hb=>QS w ad 1 b hb
 have hstep:Step True g' s.length B w g' s.length w':=by
  refine ⟨.refl _ _,by simp [w',FW],fun b hb _=>hother b (by omega),fun _ _ _=>rfl,fun _ _=>rfl,fun b hb=>.inl hb,abK _ _ _⟩
 have hglobmm:∀b es,g'.mm b=some es→b≠gb:=by
  intro b es hb hbg;subst hbg;rw [(h6 b hblk).1] at hb;cases hb
 have hbase:Base P glob g' s w':=by
  refine ⟨⟨fun b o v hm=>?_,fun b es hm=>?_⟩,sim.base.heap.next (.refl _ _) (fun _ _=>rfl) (by simp [w',FW]) (fun b hb=>⟨hother b (fun hbg=>hoff (hbg ▸ hb)),rfl,rfl⟩),sim.base.glob⟩
  ·rw [Xu];exact sim.base.imm.m b o v hm
  ·exact (sim.base.imm.mm b es hm).keep (hother b (hglobmm b es hm))
 have hdrop:iU g' s.length B w' (Act.tm a) ((k,.v .u)::sD env k):=by
  have hd:=sim.env.dropNext k (.refl _ _) (g':=g') (n':=s.length) (w':=w') (fun k' y hk1 hy hne b hbb=>by
   have hne':b≠gb:=fun hbg=>sim.env.apart k' k y _ hk1 hk' hy rfl hne b hbb (hbg ▸ hblk)
   exact ⟨hother b hne',rfl,rfl,fun ht=>ht⟩)
  have hlk:∀j,lk ((k,EV.v .u)::sD ((k,EV.own true t sz es)::env) k) j=lk ((k,.v .u)::sD env k) j:=by
   intro j;rw [jI,jI];split
   ·rfl
   ·rename_i hkj;rw [vK,vK,gG _ _ hkj]
  exact ⟨fun j y hj=>hd.rel j y (by rw [hlk];exact hj),fun j j' y y' hj hj'=>hd.apart j j' y y' (by rw [hlk];exact hj) (by rw [hlk];exact hj'),fun j y hj=>hd.off j y (by rw [hlk];exact hj),fun j y i hj hy=>by
   obtain ⟨o',ho',hoo⟩:=hd.refs j y i (by rw [hlk];exact hj) hy
   exact ⟨o',by rw [←hlk];exact ho',hoo⟩⟩
 refine ⟨Act.tm a k,w',g',.inl ?_,st.trans hstep,⟨hbase,hdrop,by simp only [w',FW];exact h.B⟩,.v rep⟩;unfold Ah at hb
 split at hb
 case h_2=>cases hb
 rename_i el hu
 split at hb
 case h_2=>cases hb
 rename_i hel;simp only [execOp,hop]
 have hrun:(convert src src (a.eval x')).run P w=.ok (Act.tm a k) w':=by
  rw [hxk,hv];have hsh:w.shape? gb=some (t,cur.size):=by simp [World.shape?,hg]
  simp [convert,Sem.run_bind,run_underlying hu,run_underlying hel,markStringish,hsh,w',ad]
 simp only [Sem.run_bind,hrun];rfl
end Go.Ai
namespace Go.Ai
def jF (b:Nat) (s:St) (l:Nat):Prop:=
 match s[l]? with
 | some (.cells cs)=>bW b cs=true
 | some (.map es)=>vw b es=true
 | some (.loop env _ _ _ _)=>∀k a,lk env k=some (.v a)→a.under b=true
 | some (.buf _ _ _ cs)=>bW b cs=true
 | _=>True
structure Ext (cx:Ctx) (s s':St):Prop where
 len:s.length≤s'.length
 dfr:∀l:Nat,s[l]?=some fZ.dfr→s'[l]?=some fZ.dfr
 lim:∀l:Nat,l<cx.lim→s'[l]?=s[l]?
 base:∀b,b≤cx.base→∀l,l<b→jF b s l→jF b s' l
theorem Ext.refl (cx:Ctx) (s:St):Ext cx s s:=⟨Nat.le_refl _,fun _ h=>h,fun _ _=>rfl,fun _ _ _ _ h=>h⟩
theorem Ext.trans {cx:Ctx} {s s' s'':St} (h:Ext cx s s') (h':Ext cx s' s''):Ext cx s s'':=
 ⟨Nat.le_trans h.len h'.len,fun l hl=>h'.dfr l (h.dfr l hl),fun l hl=>(h'.lim l hl).trans (h.lim l hl),fun b hb l hl hu=>h'.base b hb l hl (h.base b hb l hl hu)⟩
structure gq (cx:Ctx) (s:St):Prop where
 lim:cx.lim≤s.length
 base:cx.base≤s.length
theorem gq.ext {cx:Ctx} {s s':St} (h:gq cx s) (he:Ext cx s s'):gq cx s':=⟨Nat.le_trans h.lim he.len,Nat.le_trans h.base he.len⟩
theorem Ext.push {cx:Ctx} {s:St} (h:gq cx s) (r:List fZ):Ext cx s (s++r):=by
 refine ⟨by simp,fun l hl=>?_,fun l hl=>?_,fun b hb l hl hu=>?_⟩
 ·rw [List.getElem?_append_left (List.getElem?_eq_some_iff.1 hl).1];exact hl
 ·rw [List.getElem?_append_left (by have:=h.lim;omega)]
 ·unfold jF at hu ⊢;rw [List.getElem?_append_left (by have:=h.base;omega)];exact hu
theorem BM (b:Nat):∀(x y:List AV),bW b (x++y)=(bW b x && bW b y)
 | [],y=>by simp [bW]
 | a::x,y=>by simp [bW,BM b x y,Bool.and_assoc]
theorem dA (b:Nat):∀(x:List AV),bW b x=true ↔ ∀a∈x,a.under b=true
 | []=>by simp [bW]
 | a::x=>by simp [bW,dA b x]
theorem Ap (b:Nat):∀(x:List (AV×AV)),vw b x=true ↔ ∀p∈x,p.1.under b=true∧p.2.under b=true
 | []=>by simp [vw]
 | (a,c)::x=>by simp [vw,Ap b x]
theorem NZ (b:Nat) {a:AV} (h:a.Um=true):a.under b=true:=by cases a<;>simp_all [AV.Um,AV.under]
theorem Xx (b:Nat) {a:AV} (h:a.flat2=true):a.under b=true:=by
 cases a
 case ag cs=>
  simp only [AV.flat2,List.all_eq_true] at h;simp only [AV.under,dA];exact fun a ha=>NZ b (h a ha)
 all_goals exact NZ b h
theorem D6 (b:Nat) {a:AV} (h:a.flat=true):a.under b=true:=by
 cases a
 case sl es=>
  simp only [AV.flat,List.all_eq_true] at h;simp only [AV.under,dA];exact fun a ha=>Xx b (h a ha)
 all_goals simp_all [AV.flat,AV.under]
theorem JF {b:Nat} {cs new:List AV} {o:Nat} (h:bW b cs=true) (h':new.all AV.flat=true):bW b (splice cs o new)=true:=by
 rw [dA] at h ⊢;intro a ha;simp only [splice,List.mem_append] at ha;rcases ha with (ha|ha)|ha
 ·exact h a (List.mem_of_mem_take ha)
 ·exact D6 b (List.all_eq_true.1 h' a ha)
 ·exact h a (List.mem_of_mem_drop ha)
variable {glob:Nat→Option (List AV)} {call:AV→List AV→St→Ctx→CO} {cx:Ctx} {env env':Env} {s s':St} {e:EV}
theorem Lh (b:Nat):∀{cs:List AV},VQ cs=true→bW b cs=true
 | [],_=>rfl
 | c::cs,h=>by
  cases c<;>simp [VQ] at h
  simp [bW,AV.under,Lh b h]
theorem aa8 (b:Nat) {kk:Nat} {a:AV} (h:uf kk a=true):a.under b=true:=by
 unfold uf at h
 split at h<;>first|rfl | (simp only [Bool.and_eq_true] at h;simpa [AV.under] using Lh b h.2)|cases h
theorem Ql {b kk:Nat} {k v:AV}:∀{es es':List (AV×AV)},CV kk k v es=some es'→vw b es=true→k.under b=true→v.under b=true→vw b es'=true
 | [],es',h,_,hk,hv=>by simp [CV] at h;subst h;simp [vw,hk,hv]
 | (k',v')::r,es',h,hu,hk,hv=>by
  simp only [vw,Bool.and_eq_true] at hu;simp only [CV] at h
  split at h
  ·cases h;simp [vw,hk,hv,hu.2]
  ·cases hm:CV kk k v r with
   | none=>rw [hm] at h;cases h
   | some r'=>
    rw [hm] at h;simp at h;subst h
    have:=Ql hm hu.2 hk hv
    simp [vw,hu.1.1,hu.1.2,this]
  ·cases h
theorem Qq {b kk:Nat} {k:AV}:∀{es es':List (AV×AV)},I5 kk k es=some es'→vw b es=true→vw b es'=true
 | [],es',h,_=>by simp [I5] at h;subst h;rfl
 | (k',v')::r,es',h,hu=>by
  simp only [vw,Bool.and_eq_true] at hu;simp only [I5] at h
  split at h
  ·cases h;exact hu.2
  ·cases hm:I5 kk k r with
   | none=>rw [hm] at h;cases h
   | some r'=>
    rw [hm] at h;simp at h;subst h
    have:=Qq hm hu.2
    simp [vw,hu.1.1,hu.1.2,this]
  ·cases h
def jh (call:AV→List AV→St→Ctx→CO):Prop:=∀fv args s cx r s',gq cx s→(call fv args s cx=.ret r s'∨call fv args s cx=.pan r s')→Ext cx s s'
theorem PG {n:Nat} {a:IX} {v:AV} (h:tq glob cx env s n a v=some (env',s')):Ext cx s s':=by
 unfold tq at h
 split at h
 ·split at h
  ·split at h
   ·cases h;exact .refl _ _
   ·cases h
  ·split at h
   ·split at h
    ·cases h;exact .refl _ _
    ·cases h
   ·cases h
  ·split at h
   ·split at h
    ·split at h
     ·cases h;exact .refl _ _
     ·cases h
    ·cases h
   ·cases h
  ·rename_i l o _
   split at h
   ·rename_i cs hs
    split at h
    ·rename_i hcond;cases h;have hlt:l<s.length:=(List.getElem?_eq_some_iff.1 hs).1;refine ⟨by simp,fun l' hl=>?_,fun l' hl=>?_,fun b hb l' hl hu=>?_⟩
     ·by_cases hll:l=l'
      ·subst hll;rw [hs] at hl;cases hl
      ·rw [List.getElem?_set_ne hll];exact hl
     ·rw [List.getElem?_set_ne (by omega)]
     ·unfold jF at hu ⊢;by_cases hll:l=l'
      ·subst hll;rw [hs] at hu;rw [List.getElem?_set_self hlt]
       have hfl:v.cells.all AV.flat=true:=by
        rcases hcond.2.1 with h1|h1
        ·omega
        ·exact h1
       exact JF hu hfl
      ·rw [List.getElem?_set_ne hll];exact hu
    ·cases h
   ·cases h
  ·rename_i l ver o _
   split at h
   ·rename_i t sz ver' cs hs
    split at h
    ·rename_i hcond;cases h;have hlt:l<s.length:=(List.getElem?_eq_some_iff.1 hs).1;refine ⟨by simp,fun l' hl=>?_,fun l' hl=>?_,fun b hb l' hl hu=>?_⟩
     ·by_cases hll:l=l'
      ·subst hll;rw [hs] at hl;cases hl
      ·rw [List.getElem?_set_ne hll];exact hl
     ·rw [List.getElem?_set_ne (by omega)]
     ·unfold jF at hu ⊢;by_cases hll:l=l'
      ·subst hll;rw [hs] at hu;rw [List.getElem?_set_self hlt]
       have hfl:v.cells.all AV.flat=true:=by
        rcases hcond.2.2.1 with h1|h1
        ·omega
        ·exact h1
       exact JF hu hfl
      ·rw [List.getElem?_set_ne hll];exact hu
    ·cases h
   ·cases h
  ·cases h
 ·cases h
theorem EO {b:Nat} {cs:List AV} (h:cs.all AV.flat=true):bW b cs=true:=by
 rw [dA];intro a ha;exact D6 b (List.all_eq_true.1 h a ha)
theorem Ee (hcx:gq cx s) {t sz:Nat} {x y:IX} (h:aop glob call cx env s (.appk t sz x y)=.ok e env' s'):Ext cx s s':=by
 simp only [aop] at h
 split at h
 ·split at h
  ·cases h;exact .push hcx _
  ·cases h
 ·split at h
  ·cases h;exact .push hcx _
  ·cases h
 ·split at h
  ·rename_i _ l ver sz2 o m _ _ _ t2 sz3 ver2 cs hl
   split at h
   ·rename_i hcond;cases h;have hlt:l<s.length:=(List.getElem?_eq_some_iff.1 hl).1;refine ⟨by simp,fun l' hd=>?_,fun l' hlt'=>?_,fun b hb l' hlt' hu=>?_⟩
    ·rw [List.getElem?_set_ne (fun he=>by subst he;rw [hl] at hd;cases hd)];exact hd
    ·rw [List.getElem?_set_ne (by omega)]
    ·by_cases hll:l=l'
     ·subst hll;unfold jF at hu ⊢;rw [hl] at hu;rw [List.getElem?_set_self hlt];simp only [] at hu ⊢;have hfl:=hcond.2.2.2.2.2.2.2.2.2;rw [BM,Bool.and_eq_true];refine ⟨(dA b _).2 fun a ha=>(dA b _).1 hu a (List.mem_of_mem_drop (List.mem_of_mem_take ha)),EO ?_⟩;rcases hfl with h1|h1
      ·omega
      ·exact h1
     ·unfold jF at hu ⊢;rw [List.getElem?_set_ne hll];exact hu
   ·cases h
  ·cases h
 ·cases h
theorem Le (hcx:gq cx s) {t sz:Nat} {x y:IX} (h:aop glob call cx env s (.appr t sz x y)=.ok e env' s'):Ext cx s s':=by
 simp only [aop] at h
 split at h
 ·split at h
  ·cases h;exact .push hcx _
  ·cases h
 ·split at h
  ·cases h;exact .push hcx _
  ·cases h
 ·split at h
  ·rename_i _ l es _ _ _ t2 sz2 k hl
   split at h
   ·rename_i hcond;cases h;have hlt:l<s.length:=(List.getElem?_eq_some_iff.1 hl).1;refine ⟨by simp,fun l' hd=>?_,fun l' hlt'=>?_,fun b hb l' hlt' hu=>?_⟩
    ·rw [List.getElem?_set_ne (fun he=>by subst he;rw [hl] at hd;cases hd)];exact hd
    ·rw [List.getElem?_set_ne (by omega)]
    ·by_cases hll:l=l'
     ·subst hll;unfold jF;rw [List.getElem?_set_self hlt];trivial
     ·unfold jF at hu ⊢;rw [List.getElem?_set_ne hll];exact hu
   ·cases h
  ·cases h
 ·cases h
theorem Oi {d t sz:Nat} {x y:IX} (h:aop glob call cx env s (.apprp d t sz x y)=.ok e env' s'):aop glob call cx env s (.appr t sz x y)=.ok e env' s'∨
  ∃v,elems glob env y=some []∧ev glob env x=some (.v v)∧(v=.ns∨v=.se∨∃l es,v=.st l es)∧e=.v v∧env'=env∧s'=s:=by
 simp only [aop] at h ⊢
 split at h
 ·cases h
 ·split at h
  ·rename_i ys h1 h2;rw [h1,h2]
   split at h
   ·rename_i hc;left;rw [if_pos hc];exact h
   ·split at h
    ·rename_i h0;cases h
     have:ys=[]:=List.eq_nil_of_length_eq_zero h0
     subst this;exact .inr ⟨_,rfl,rfl,.inl rfl,rfl,rfl,rfl⟩
    ·cases h
  ·rename_i ys h1 h2;rw [h1,h2]
   split at h
   ·rename_i hc;left;rw [if_pos hc];exact h
   ·split at h
    ·rename_i h0;cases h
     have:ys=[]:=List.eq_nil_of_length_eq_zero h0
     subst this;exact .inr ⟨_,rfl,rfl,.inr (.inl rfl),rfl,rfl,rfl⟩
    ·cases h
  ·rename_i ys l es h1 h2
   split at h
   ·rename_i t' sz' k hl
    split at h
    ·rename_i hc;left;rw [if_pos hc];exact h
    ·split at h
     ·rename_i h0;cases h
      have:ys=[]:=List.eq_nil_of_length_eq_zero h0
      subst this;exact .inr ⟨_,h1,h2,.inr (.inr ⟨l,es,rfl⟩),rfl,rfl,rfl⟩
     ·cases h
   ·cases h
  ·cases h
theorem VP (hcall:jh call) (hcx:gq cx s) {op:AOp} (h:aop glob call cx env s op=.ok e env' s'):Ext cx s s':=by
 have same:∀{r:Option AV} {env1:Env},okv env1 s r=.ok e env' s'→Ext cx s s':=by
  intro r env1 hr
  cases r with
  | none=>simp [okv] at hr
  | some r=>simp [okv] at hr;rw [←hr.2.2];exact .refl _ _
 cases op with
 | hbox x=>
  simp only [aop] at h
  split at h
  ·split at h
   ·cases h;exact .push hcx _
   ·cases h
  ·cases h
 | halloc zs=>simp only [aop] at h;cases h;exact .push hcx _
 | store n a x=>
  simp only [aop] at h
  split at h
  ·split at h
   ·rename_i hst;cases h;exact PG hst
   ·cases h
  ·cases h
 | call f args=>
  simp only [aop] at h
  split at h
  ·split at h
   ·rename_i hc;cases h;exact hcall _ _ _ _ _ _ hcx (.inl hc)
   ·cases h
   ·cases h
  ·cases h
 | callp f args=>
  simp only [aop] at h
  split at h
  ·split at h
   ·rename_i hc;cases h;exact hcall _ _ _ _ _ _ hcx (.inl hc)
   ·cases h
   ·cases h
  ·cases h
 | callh d f args k=>
  simp only [aop] at h
  split at h
  ·cases h
  ·split at h
   ·split at h
    ·rename_i hc;split at h
     ·cases h;exact hcall _ _ _ _ _ _ hcx (.inl hc)
     ·cases h
    ·cases h
    ·cases h
   ·cases h
 | loadw n a bs=>
  simp only [aop] at h
  split at h
  ·split at h
   ·obtain ⟨_,_,_,_,rfl⟩:=yB h;exact .refl _ _
   ·cases h
  ·cases h
 | loadv a k off=>
  simp only [aop] at h
  split at h
  ·split at h
   ·split at h
    ·cases h;exact .refl _ _
    ·cases h
   ·cases h
  ·cases h
 | hmap=>simp only [aop] at h;cases h;exact .push hcx _
 | hins kk m k v=>
  simp only [aop] at h
  split at h
  ·rename_i l key val env1 hm hk hv
   split at h
   ·rename_i es hl
    split at h
    ·rename_i es' hput
     split at h
     ·rename_i hcond;cases h;have hlt:l<s.length:=(List.getElem?_eq_some_iff.1 hl).1;refine ⟨by simp,fun l' hd=>?_,fun l' hlt'=>?_,fun b hb l' hlt' hu=>?_⟩
      ·rw [List.getElem?_set_ne (fun he=>by subst he;rw [hl] at hd;cases hd)];exact hd
      ·rw [List.getElem?_set_ne (by omega)]
      ·by_cases hll:l=l'
       ·subst hll;unfold jF at hu ⊢;rw [hl] at hu;rw [List.getElem?_set_self hlt]
        have hflat:val.flat=true:=by
         rcases hcond.2.2.2 with h1|h1
         ·omega
         ·exact h1
        exact Ql hput hu (aa8 b hcond.2.1) (D6 b hflat)
       ·unfold jF at hu ⊢;rw [List.getElem?_set_ne hll];exact hu
     ·cases h
    ·cases h
   ·cases h
  ·cases h
 | hdel kk m k=>
  simp only [aop] at h
  split at h
  ·rename_i l key hm hk
   split at h
   ·rename_i es hl
    split at h
    ·rename_i es' hput
     split at h
     ·rename_i hcond;cases h;have hlt:l<s.length:=(List.getElem?_eq_some_iff.1 hl).1;refine ⟨by simp,fun l' hd=>?_,fun l' hlt'=>?_,fun b hb l' hlt' hu=>?_⟩
      ·rw [List.getElem?_set_ne (fun he=>by subst he;rw [hl] at hd;cases hd)];exact hd
      ·rw [List.getElem?_set_ne (by omega)]
      ·by_cases hll:l=l'
       ·subst hll;unfold jF at hu ⊢;rw [hl] at hu;rw [List.getElem?_set_self hlt];exact Qq hput hu
       ·unfold jF at hu ⊢;rw [List.getElem?_set_ne hll];exact hu
     ·cases h
    ·cases h
   ·cases h
  ·cases h
 | appr t sz x y=>exact Le hcx h
 | apprp d t sz x y=>
  rcases Oi h with h' | ⟨_,_,_,_,_,_,rfl⟩
  ·exact Le hcx h'
  ·exact .refl _ _
 | appk t sz x y=>exact Ee hcx h
 | appz t sz zs x y=>
  simp only [aop] at h
  split at h
  ·split at h
   ·cases h;exact .push hcx _
   ·cases h
  ·cases h
 | capn x=>
  simp only [aop] at h
  split at h
  ·cases h;exact .refl _ _
  ·cases h
 | appe t sz x y=>
  cases hy:elems glob env y with
  | none=>
   have h2:aop glob call cx env s (.appk t sz x y)=.ok e env' s':=by rw [←h];simp only [aop,hy]
   exact Ee hcx h2
  | some ys=>
   cases ys with
   | nil=>
    simp only [aop,hy] at h
    split at h
    ·cases h;exact .refl _ _
    ·cases h;exact .refl _ _
    ·cases h
   | cons y0 ys=>
    have h2:aop glob call cx env s (.appk t sz x y)=.ok e env' s':=by rw [←h];simp only [aop,hy]
    exact Ee hcx h2
 | mks t sz zs x=>
  simp only [aop] at h
  split at h
  ·split at h
   ·cases h;exact .push hcx _
   ·cases h
  ·cases h
 | asgk t sz x=>
  simp only [aop] at h
  split at h
  ·split at h
   ·cases h;exact .push hcx _
   ·cases h
  ·cases h
 | appks t x y=>
  simp only [aop] at h
  split at h
  ·split at h
   ·cases h;exact .push hcx _
   ·cases h
  ·split at h
   ·rename_i _ l ver sz2 o m _ _ _ t2 sz3 ver2 cs hl
    split at h
    ·rename_i hcond;cases h;have hlt:l<s.length:=(List.getElem?_eq_some_iff.1 hl).1;refine ⟨by simp,fun l' hd=>?_,fun l' hlt'=>?_,fun b hb l' hlt' hu=>?_⟩
     ·rw [List.getElem?_set_ne (fun he=>by subst he;rw [hl] at hd;cases hd)];exact hd
     ·rw [List.getElem?_set_ne (by omega)]
     ·by_cases hll:l=l'
      ·subst hll;unfold jF at hu ⊢;rw [hl] at hu;rw [List.getElem?_set_self hlt];simp only [] at hu ⊢;rw [BM,Bool.and_eq_true];exact ⟨(dA b _).2 fun a ha=>(dA b _).1 hu a (List.mem_of_mem_drop (List.mem_of_mem_take ha)),EO (by simp [aF,AV.flat])⟩
      ·unfold jF at hu ⊢;rw [List.getElem?_set_ne hll];exact hu
    ·cases h
   ·cases h
  ·cases h
 | appv t sz x y=>
  simp only [aop] at h
  split at h
  ·cases h;exact .refl _ _
  ·split at h
   ·cases h;exact .push hcx _
   ·cases h
  ·cases h
 | lallocp d zs=>
  simp only [aop] at h
  split at h
  ·cases h
  ·cases h;exact .refl _ _
 | storep n a x=>
  simp only [aop] at h
  split at h
  ·split at h
   ·rename_i hst;cases h;exact PG hst
   ·cases h
  ·cases h
 | loadl n a=>
  simp only [aop] at h
  split at h<;>first | (cases h;done) | (obtain ⟨_,_,_,_,rfl⟩:=yB h;exact .refl _ _)
 | storel n k x=>
  simp only [aop] at h
  split at h
  ·split at h
   ·cases h;exact .refl _ _
   ·cases h
  ·cases h
 | umap d=>
  simp only [aop] at h
  split at h
  ·cases h
  ·cases h;exact .push hcx _
 | uins m k v=>
  simp only [aop] at h
  split at h
  ·split at h
   ·rename_i l key val _ _ _ _ es hl
    split at h
    ·rename_i hcond;cases h;have hlt:l<s.length:=(List.getElem?_eq_some_iff.1 hl).1;refine ⟨by simp,fun l' hd=>?_,fun l' hlt'=>?_,fun b hb l' hlt' hu=>?_⟩
     ·rw [List.getElem?_set_ne (fun he=>by subst he;rw [hl] at hd;cases hd)];exact hd
     ·rw [List.getElem?_set_ne (by omega)]
     ·by_cases hll:l=l'
      ·subst hll;unfold jF;rw [List.getElem?_set_self hlt];trivial
      ·unfold jF at hu ⊢;rw [List.getElem?_set_ne hll];exact hu
    ·cases h
   ·cases h
  ·cases h
 | clrk zs x=>
  simp only [aop] at h
  split at h
  ·rename_i l ver sz o m hrd
   split at h
   ·cases h;exact .refl _ _
   ·rename_i n t sz' ver' cs hl
    split at h
    ·rename_i hcond;cases h;have hlt:l<s.length:=(List.getElem?_eq_some_iff.1 hl).1;refine ⟨by simp,fun l' hd=>?_,fun l' hlt'=>?_,fun b hb l' hlt' hu=>?_⟩
     ·rw [List.getElem?_set_ne (fun he=>by subst he;rw [hl] at hd;cases hd)];exact hd
     ·rw [List.getElem?_set_ne (by have:=hcond.2.2.2.2.2.1;omega)]
     ·unfold jF at hu ⊢;rw [List.getElem?_set_ne (by have:=hcond.2.2.2.2.2.2;omega)];exact hu
    ·cases h
   ·cases h
  ·cases h
 | len k x=>
  simp only [aop] at h
  match k with
  | 0=>simp only [aop] at h;(repeat' split at h)<;>first | (cases h;done) | (cases h;exact .refl _ _)
  | 1=>simp only [aop] at h;(repeat' split at h)<;>first | (cases h;done) | (cases h;exact .refl _ _)
  | 2=>simp only [aop] at h;(repeat' split at h)<;>first | (cases h;done) | (cases h;exact .refl _ _)
  | k+3=>simp only [aop] at h;cases h
 | _=>
  all_goals
   simp only [aop] at h
   first
    | exact same h
    | ((repeat' split at h)<;>first | (cases h;done) | (exact same h) | (cases h;exact .refl _ _))
def Out.st:Out→Option St
 | .norm _ s | .exit _ _ s | .ret _ s | .goto _ _ s | .pan _ s=>some s
 | .fail=>none
theorem X8 (hcall:jh call) (hcx:gq cx s) {op:AOp} {v:AV} (h:aop glob call cx env s op=.pan v s'):Ext cx s s':=by
 cases op with
 | call f args=>
  simp only [aop] at h
  split at h
  ·split at h
   ·cases h
   ·rename_i hc;cases h;exact hcall _ _ _ _ _ _ hcx (.inr hc)
   ·cases h
  ·cases h
 | callp f args=>
  simp only [aop] at h
  split at h
  ·split at h
   ·cases h
   ·rename_i hc;cases h;exact hcall _ _ _ _ _ _ hcx (.inr hc)
   ·cases h
  ·cases h
 | callh d f args k=>
  simp only [aop] at h
  split at h
  ·cases h
  ·split at h
   ·split at h
    ·split at h<;>cases h
    ·rename_i hc;cases h;exact hcall _ _ _ _ _ _ hcx (.inr hc)
    ·cases h
   ·cases h
 | loadw n a bs=>
  simp only [aop,okv] at h
  (repeat' split at h)<;>cases h
 | loadv a k off=>
  simp only [aop] at h
  (repeat' split at h)<;>cases h
 | panic x=>
  simp only [aop] at h
  split at h
  ·cases h;exact .refl _ _
  ·cases h
 | len k x=>
  exfalso
  match k with
  | 0=>simp only [aop] at h;(repeat' split at h)<;>cases h
  | 1=>simp only [aop] at h;(repeat' split at h)<;>cases h
  | 2=>simp only [aop] at h;(repeat' split at h)<;>cases h
  | k+3=>simp only [aop] at h;cases h
 | _=>
  exfalso;simp only [aop,okv] at h
  (repeat' split at h)<;>cases h
theorem qj (hcall:jh call) (hcx:gq cx s) {o:aI} (h:(fK glob call cx o env s).st=some s'):Ext cx s s':=by
 unfold fK at h
 split at h
 ·simp [Out.st] at h
 ·split at h<;>(simp [Out.st] at h;subst h;exact .refl _ _)
 ·split at h
  ·simp [Out.st] at h
  ·rename_i hp;simp [Out.st] at h;subst h;exact X8 hcall hcx hp
  ·rename_i e env1 s1 ha
   split at h
   ·split at h
    ·simp [Out.st] at h
    ·simp [Out.st] at h;subst h;exact VP hcall hcx ha
   ·simp [Out.st] at h;subst h;exact VP hcall hcx ha
theorem DJ (hcall:jh call):∀(ops:List aI) {env:Env} {s:St},gq cx s→(mD glob call cx ops env s).st=some s'→Ext cx s s'
 | [],env,s,_,h=>by simp [mD,Out.st] at h;subst h;exact .refl _ _
 | o::r,env,s,hcx,h=>by
  unfold mD at h
  split at h
  ·rename_i env1 s1 hr;have h1:Ext cx s s1:=qj hcall hcx (o:=o) (by rw [hr];rfl);exact h1.trans (DJ hcall r (hcx.ext h1) h)
  ·exact qj hcall hcx h
theorem afg {o:aI} (h:(AZ glob call o env s).st=some s'):s'=s:=by
 unfold AZ at h
 split at h
 ·simp [Out.st] at h
 ·split at h
  ·simp [Out.st] at h;exact h.symm
  ·split at h<;>simp [Out.st] at h;exact h.symm
theorem Ws (hcall:jh call) (hcx:gq cx s) {o:aI} (h:(gZ glob call cx o env s).st=some s'):Ext cx s s':=by
 unfold gZ at h
 split at h
 ·rw [afg h];exact .refl _ _
 ·exact qj hcall hcx h
theorem EQ (hcall:jh call) {aops:List aI}:∀(π:List Nat) {env:Env} {s:St},gq cx s→(jw glob call cx aops π env s).st=some s'→Ext cx s s'
 | [],env,s,_,h=>by simp [jw,Out.st] at h;subst h;exact .refl _ _
 | o::r,env,s,hcx,h=>by
  unfold jw at h
  split at h
  ·simp [Out.st] at h
  ·split at h
   ·rename_i env1 s1 hr;have h1:Ext cx s s1:=Ws hcall hcx (by rw [hr];rfl);exact h1.trans (EQ hcall r (hcx.ext h1) h)
   ·exact Ws hcall hcx h
theorem Bo {aops:List aI} {π:List Nat} {o:Out} (h:yx glob call cx aops π env s=o) (ho:o≠.fail):
  ∃c oc env1 s1 v s2,Yz aops π=some (c,oc)∧((EX aops c oc false π).all fun j=>match aops[j]? with|some o=>o.op.pre && (zu o oc || AQ o oc || (π.takeWhile fun x=>x != c).contains j)|none=>false)=true∧
   jw glob call cx aops (EX aops c oc false π) env s=.norm env1 s1∧fK glob call cx oc env1 s1=.pan v s2∧o=.pan v s2:=by
 unfold yx at h
 split at h
 ·exact absurd h.symm ho
 ·rename_i c oc hpc
  split at h
  ·rename_i hall
   split at h
   ·rename_i env1 s1 h1
    split at h
    ·rename_i v s2 h2;exact ⟨c,oc,env1,s1,v,s2,hpc,hall,h1,h2,h.symm⟩
    ·exact absurd h.symm ho
   ·exact absurd h.symm ho
  ·exact absurd h.symm ho
theorem PW (hcall:jh call) {aops:List aI} (hcx:gq cx s) {ord:Option (List Nat×List Nat)} (h:(rC glob call cx aops env s ord).st=some s'):Ext cx s s':=by
 cases ord with
 | none=>exact DJ hcall _ hcx h
 | some p=>
  simp only [rC] at h
  cases hd:jw glob call cx aops p.1 (Ce env p.2) s with
  | pan v s1=>
   rw [hd] at h
   replace h:(yx glob call cx aops p.1 (Ce env p.2) s).st=some s':=h
   obtain ⟨c,oc,env1,s2,v',s3,_,_,h1,h2,h3⟩:=Bo (glob:=glob) (call:=call) (cx:=cx) (aops:=aops) (π:=p.1) (env:=Ce env p.2) (s:=s) rfl (fun hf=>by rw [hf] at h;cases h);rw [h3] at h;cases h;have e1:Ext cx s s2:=EQ hcall _ hcx (by rw [h1];rfl);exact e1.trans (qj hcall (hcx.ext e1) (by rw [h2];rfl))
  | _=>
   rw [hd] at h;exact EQ hcall _ hcx (by rw [hd];exact h)
theorem Uc {body:Env→St→Out} {keep:List Nat} (hb:∀env s s',gq cx s→(body env s).st=some s'→Ext cx s s'):∀(n:Nat) {env:Env} {s:St},gq cx s→(wU body keep n env s).st=some s'→Ext cx s s'
 | 0,env,s,_,h=>by simp [wU,Out.st] at h
 | n+1,env,s,hcx,h=>by
  unfold wU at h
  split at h
  ·rename_i env1 s1 hr;have h1:Ext cx s s1:=hb _ _ _ hcx (by rw [hr];rfl);exact h1.trans (Uc hb n (hcx.ext h1) h)
  ·exact hb _ _ _ hcx h
theorem PS {body:Env→St→Out} {l:Nat} {keep:List Nat} (hb:∀env s s',gq cx s→(body env s).st=some s'→Ext cx s s'):∀(n:Nat) {env:Env} {s:St},gq cx s→(qg body l keep n env s).st=some s'→Ext cx s s'
 | 0,env,s,_,h=>by simp [qg,Out.st] at h
 | n+1,env,s,hcx,h=>by
  unfold qg at h
  split at h
  ·rename_i l' env1 s1 hr;have h1:Ext cx s s1:=hb _ _ _ hcx (by rw [hr];rfl)
   split at h
   ·exact h1.trans (PS hb n (hcx.ext h1) h)
   ·simp [Out.st] at h
  ·exact hb _ _ _ hcx h
theorem dO (hcall:jh call) {ro:Bool} {N:Nat}:∀(c:bH) {env:Env} {s s':St},gq cx s→(bF glob call cx ro N c env s).st=some s'→Ext cx s s'
 | .skip,env,s,s',_,h=>by simp [bF,Out.st] at h;subst h;exact .refl _ _
 | .ret,env,s,s',_,h=>by simp [bF,Out.st] at h;subst h;exact .refl _ _
 | .exit id,env,s,s',_,h=>by simp [bF,Out.st] at h;subst h;exact .refl _ _
 | .region ops ord keep,env,s,s',hcx,h=>by
  simp only [bF] at h
  split at h
  ·rename_i env1 s1 hr;simp [Out.st] at h;subst h;exact PW hcall hcx (by rw [hr];rfl)
  ·exact PW hcall hcx h
 | .seq a b,env,s,s',hcx,h=>by
  simp only [bF] at h
  split at h
  ·rename_i env1 s1 hr;have h1:=dO hcall a hcx (env:=env) (s':=s1) (by rw [hr];rfl);exact h1.trans (dO hcall b (hcx.ext h1) h)
  ·exact dO hcall a hcx h
 | .cond c a b,env,s,s',hcx,h=>by
  simp only [bF] at h
  split at h
  ·exact dO hcall a hcx h
  ·exact dO hcall b hcx h
  ·simp [Out.st] at h
 | .block id b,env,s,s',hcx,h=>by
  simp only [bF] at h
  split at h
  ·rename_i id' env1 s1 hr;have h1:=dO hcall b hcx (env:=env) (s':=s1) (by rw [hr];rfl)
   split at h<;>(simp [Out.st] at h;subst h;exact h1)
  ·exact dO hcall b hcx h
 | .loop keep b,env,s,s',hcx,h=>by
  simp only [bF] at h;exact Uc (fun env s s' hcx h=>dO hcall b hcx h) N hcx h
 | .range f ps asg body,env,s,s',hcx,h=>by
  simp only [bF] at h
  split at h
  ·simp [Out.st] at h
  ·split at h
   ·split at h
    ·rename_i r s1 hr;have h0:Ext cx s (s++[.dfr,.loop (rE env) ps asg body .ready]):=.push hcx _;have h1:=hcall _ _ _ _ _ _ (hcx.ext h0) (.inl hr)
     have h2:Ext cx s1 (s1.set (s.length+1) .dead):=by
      have hlim:=hcx.lim;have hbase:=hcx.base;have hd:=h1.len
      have hnd:s1[s.length+1]?≠some .dfr:=by
       intro hc;unfold DL at h;rw [hc] at h;simp [Out.st] at h
      refine ⟨by simp,fun l hl=>?_,fun l hl=>?_,fun b hb l hl hu=>?_⟩
      ·rw [List.getElem?_set_ne (fun he=>by subst he;exact hnd hl)];exact hl
      ·rw [List.getElem?_set_ne (by omega)]
      ·unfold jF at hu ⊢;rw [List.getElem?_set_ne (by omega)];exact hu
     unfold DL at h
     split at h
     ·simp [Out.st] at h;subst h;exact (h0.trans h1).trans h2
     ·simp [Out.st] at h;subst h;exact (h0.trans h1).trans h2
     ·simp [Out.st] at h;subst h;exact (h0.trans h1).trans h2
     ·simp [Out.st] at h
    ·simp [Out.st] at h
   ·simp [Out.st] at h
 | .label l,env,s,s',_,h=>by simp [bF,Out.st] at h;subst h;exact .refl _ _
 | .goto l,env,s,s',_,h=>by simp [bF,Out.st] at h;subst h;exact .refl _ _
 | .scope l keep a b,env,s,s',hcx,h=>by
  simp only [bF] at h
  split at h
  ·rename_i l' env1 s1 hr;have h1:=dO hcall a hcx (env:=env) (s':=s1) (by rw [hr];rfl)
   split at h
   ·exact h1.trans (PS (fun env s s' hcx h=>dO hcall b hcx h) N (hcx.ext h1) h)
   ·simp [Out.st] at h
  ·exact dO hcall a hcx h
theorem Ext.take {cx cx':Ctx} {s s1:St} (h:Ext cx' s s1) (hcx:gq cx s) (hl:cx.lim≤cx'.lim) (hb:cx.base≤cx'.base):Ext cx s (s1.take s.length):=by
 refine ⟨by simp;have:=h.len;omega,fun l hd=>?_,fun l hlt=>?_,fun b hbb l hlt hu=>?_⟩
 ·rw [List.getElem?_take_of_lt (List.getElem?_eq_some_iff.1 hd).1];exact h.dfr l hd
 ·rw [List.getElem?_take_of_lt (by have:=hcx.lim;omega)];exact h.lim l (by omega)
 ·have:=h.base b (by omega) l hlt hu
  unfold jF at this ⊢;rw [List.getElem?_take_of_lt (by have:=hcx.base;omega)];exact this
theorem Ext.weaken {cx cx':Ctx} {s s1:St} (h:Ext cx' s s1) (hl:cx.lim≤cx'.lim) (hb:cx.base≤cx'.base):Ext cx s s1:=
 ⟨h.len,h.dfr,fun l hlt=>h.lim l (by omega),fun b hbb l hlt hu=>h.base b (by omega) l hlt hu⟩
def bU.inner (fn:bU) (s:St) (cx:Ctx):Ctx:=⟨if fn.pure then s.length else cx.lim,if fn.keep then cx.base else s.length⟩
theorem bU.cxOK {fn:bU} (hcx:gq cx s):gq (fn.inner s cx) s:=by
 refine ⟨?_, ?_⟩
 ·show (if fn.pure=true then s.length else cx.lim)≤s.length;split
  ·exact Nat.le_refl _
  ·exact hcx.lim
 ·show (if fn.keep=true then cx.base else s.length)≤s.length;split
  ·exact hcx.base
  ·exact Nat.le_refl _
theorem bU.cxLim {fn:bU} (hcx:gq cx s):cx.lim≤(fn.inner s cx).lim:=by
 show cx.lim≤(if fn.pure=true then s.length else cx.lim);split
 ·exact hcx.lim
 ·exact Nat.le_refl _
theorem bU.cxBase {fn:bU} (hcx:gq cx s):cx.base≤(fn.inner s cx).base:=by
 show cx.base≤(if fn.keep=true then cx.base else s.length);split
 ·exact Nat.le_refl _
 ·exact hcx.base
theorem Jq {fn:bU} {s1:St} {r r0:AV} (hcx:gq cx s) (he:Ext (fn.inner s cx) s s1) (hh:finish fn.pure fn.keep s s1 r0=.ret r s'):Ext cx s s':=by
 unfold finish at hh
 split at hh
 ·cases hh;exact he.weaken (bU.cxLim hcx) (bU.cxBase hcx)
 ·cases hp:fn.pure with
  | true=>
   rw [hp] at hh;simp only [if_true] at hh
   split at hh
   ·cases hh;exact .refl _ _
   ·split at hh
    ·cases hh;exact .refl _ _
    ·cases hh
  | false=>
   rw [hp] at hh;simp only [Bool.false_eq_true,if_false] at hh
   split at hh
   ·rename_i hlen;cases hh
    have:=he.take hcx (bU.cxLim hcx) (bU.cxBase hcx)
    rwa [←hlen,List.take_length] at this
   ·split at hh
    ·cases hh;exact he.take hcx (bU.cxLim hcx) (bU.cxBase hcx)
    ·cases hh
theorem Tz {c:CO} {v:AV} {s:St} (h:c.toPan=.pan v s):c=.ret v s:=by
 cases c<;>simp [CO.toPan] at h
 rw [h.1,h.2]
theorem VZ {c:CO} {v:AV} {s:St} (h:c.toPan=.ret v s):False:=by cases c<;>simp [CO.toPan] at h
theorem Zd (hcall:jh call) {N:Nat} {fn:bU} {args:List AV} {r:AV} (hcx:gq cx s) (h:wO glob call N fn args s cx=.ret r s'∨wO glob call N fn args s cx=.pan r s'):Ext cx s s':=by
 have hcx':gq (fn.inner s cx) s:=bU.cxOK hcx
 have key:∀env1 s1 o,(o=.ret r s'∨o=.pan r s')→Ext (fn.inner s cx) s s1→(match nX glob env1 s1 fn.res with|some rs=>finish fn.pure fn.keep s s1 (sZ rs)|none=>.fail)=o→Ext cx s s':=by
  intro env1 s1 o ho he hh
  split at hh
  ·rcases ho with rfl|rfl
   ·exact Jq hcx he hh
   ·exfalso;unfold finish at hh;(repeat' split at hh)<;>cases hh
  ·subst hh;rcases ho with ho|ho<;>cases ho
 have hst:∀{out:Out} {s1:St},bF glob call (fn.inner s cx) fn.keep N fn.code (xJ args 0) s=out→out.st=some s1→Ext (fn.inner s cx) s s1:=fun {out s1} h1 h2=>dO hcall _ hcx' (by rw [h1];exact h2);generalize ho:wO glob call N fn args s cx=o at h;unfold wO at ho
 split at ho
 ·split at ho
  ·rename_i env1 s1 hr;exact key env1 s1 o h (hst hr rfl) ho
  ·rename_i env1 s1 hr;exact key env1 s1 o h (hst hr rfl) ho
  ·rename_i v s1 hr;rcases h with rfl|rfl
   ·exact absurd ho (fun h=>VZ h)
   ·exact Jq hcx (hst hr rfl) (Tz ho)
  ·subst ho;rcases h with h|h<;>cases h
 ·subst ho;rcases h with h|h<;>cases h
theorem Iw:∀(ls:List Nat) (news:List (List AV)) {cx:Ctx} {n:Nat} {s:St},cx.lim≤n→cx.base≤n→vG n s ls news=true→Ext cx s (mV s ls news)
 | [],[],_,_,_,_,_,_=>.refl _ _
 | [],_::_,_,_,_,_,_,h=>by simp [vG] at h
 | _::_,[],_,_,_,_,_,h=>by simp [vG] at h
 | l::ls,c::cs,cx,n,s,hl,hb,h=>by
  simp only [vG,Bool.and_eq_true,decide_eq_true_eq] at h;obtain ⟨⟨⟨⟨h1,h2⟩,h3⟩,h4⟩,h5⟩:=h;have hnm:l ∉ ls:=by simpa using h2
  split at h3
  ·rename_i old hold;have hlt:l<s.length:=(List.getElem?_eq_some_iff.1 hold).1
   have e1:Ext cx s (s.set l (.cells c)):=by
    refine ⟨by simp,fun l' hd=>?_,fun l' hlt'=>?_,fun b hb' l' hlt' hu=>?_⟩
    ·rw [List.getElem?_set_ne (fun he=>by subst he;rw [hold] at hd;cases hd)];exact hd
    ·rw [List.getElem?_set_ne (by omega)]
    ·by_cases hll:l=l'
     ·subst hll;unfold jF;rw [List.getElem?_set_self hlt];exact EO h4
     ·unfold jF at hu ⊢;rw [List.getElem?_set_ne hll];exact hu
   have h5':vG n (s.set l (.cells c)) ls cs=true:=by
    clear h4 h2 e1
    have key:∀(ls:List Nat) (cs:List (List AV)),l ∉ ls→vG n s ls cs=true→vG n (s.set l (.cells c)) ls cs=true:=by
     intro ls
     induction ls with
     | nil=>intro cs _ h;cases cs<;>simp_all [vG]
     | cons k ls ih=>
      intro cs hm h
      cases cs with
      | nil=>simp [vG] at h
      | cons d cs=>
       simp only [vG,Bool.and_eq_true] at h ⊢;refine ⟨⟨⟨h.1.1.1, ?_⟩,h.1.2⟩,ih cs (fun hh=>hm (by simp [hh])) h.2⟩;rw [List.getElem?_set_ne (fun he=>hm (by simp [he]))];exact h.1.1.2
    exact key ls cs hnm h5
   exact e1.trans (Iw ls cs hl hb h5')
  ·cases h3
theorem XT (hcall:jh call) {N:Nat} {d:Gl} {args:List AV} {r:AV} (hcx:gq cx s) (h:tY glob call N d args s cx=.ret r s'∨tY glob call N d args s cx=.pan r s'):Ext cx s s':=by
 have hcx':gq ⟨cx.lim,s.length⟩ s:=⟨hcx.lim,Nat.le_refl _⟩
 have fin:∀{s1:St} {r0:AV},Ext ⟨cx.lim,s.length⟩ s s1→finish false false s s1 r0=.ret r s'→Ext cx s s':=fun he hh=>
  Jq (fn:=⟨0,[],false,false,.skip⟩) hcx he hh
 have key:∀{env1:Env} {s1:St} {res:List RV} {o:CO},(o=.ret r s'∨o=.pan r s')→Ext ⟨cx.lim,s.length⟩ s s1→(match nX glob env1 s1 res with|some rs=>finish false false s s1 (sZ rs)|none=>.fail)=o→Ext cx s s':=by
  intro env1 s1 res o ho he hh
  split at hh
  ·rcases ho with rfl|rfl
   ·exact fin he hh
   ·exfalso;unfold finish at hh;(repeat' split at hh)<;>cases hh
  ·subst hh;rcases ho with ho|ho<;>cases ho
 generalize ho:tY glob call N d args s cx=o at h;unfold tY at ho
 split at ho
 ·split at ho
  ·rename_i em sm hrm;have xm:Ext ⟨cx.lim,s.length⟩ s sm:=DJ hcall d.pre hcx' (by rw [hrm];rfl)
   have mid_ext:∀{o:Out} {s1:St},BR glob call ⟨cx.lim,s.length⟩ N d.mid em sm=o→o.st=some s1→Ext ⟨cx.lim,s.length⟩ s s1:=by
    intro o s1 hm hs;unfold BR at hm
    split at hm
    ·subst hm;cases hs;exact xm
    ·exact xm.trans (dO hcall _ (hcx'.ext xm) (by rw [hm];exact hs))
   split at ho
   ·rename_i env2 s2 hr2;exact key h (mid_ext hr2 rfl) ho
   ·rename_i e0 s0 hr0;have x0:Ext ⟨cx.lim,s.length⟩ s s0:=mid_ext hr0 rfl
    split at ho
    ·rename_i e1 s1 hr1;have x1:Ext ⟨cx.lim,s.length⟩ s s1:=x0.trans (qj hcall (hcx'.ext x0) (by rw [hr1];rfl))
     split at ho
     ·split at ho
      ·split at ho
       ·rename_i env2 s2 hr2;exact key h (x1.trans (dO hcall _ (hcx'.ext x1) (by rw [hr2];rfl))) ho
       ·rename_i env2 s2 hr2;exact key h (x1.trans (dO hcall _ (hcx'.ext x1) (by rw [hr2];rfl))) ho
       ·rename_i v s2 hr2;have x2:Ext ⟨cx.lim,s.length⟩ s s2:=x1.trans (dO hcall _ (hcx'.ext x1) (by rw [hr2];rfl))
        split at ho
        ·split at ho
         ·rename_i hfit;exact key h (x2.trans (Iw _ _ hcx.lim (Nat.le_refl _) hfit)) ho
         ·subst ho;rcases h with h|h<;>cases h
        ·subst ho;rcases h with h|h<;>cases h
       ·subst ho;rcases h with h|h<;>cases h
      ·subst ho;rcases h with h|h<;>cases h
     ·subst ho;rcases h with h|h<;>cases h
    ·subst ho;rcases h with h|h<;>cases h
   ·subst ho;rcases h with h|h<;>cases h
  ·subst ho;rcases h with h|h<;>cases h
 ·subst ho;rcases h with h|h<;>cases h
theorem Ext.loop {l:Nat} {e0:Env} {p0:List Nat} {a0 b0:bH} {q q':Nc} (hl:s[l]?=some (.loop e0 p0 a0 b0 q)) (hlim:cx.lim≤l):Ext cx s (s.set l (.loop e0 p0 a0 b0 q')):=by
 have hlt:l<s.length:=(List.getElem?_eq_some_iff.1 hl).1;refine ⟨by simp,fun l' hd=>?_,fun l' hlt'=>?_,fun b hb l' hlt' hu=>?_⟩
 ·rw [List.getElem?_set_ne (fun he=>by subst he;rw [hl] at hd;cases hd)];exact hd
 ·rw [List.getElem?_set_ne (by omega)]
 ·by_cases hll:l=l'
  ·subst hll;unfold jF at hu ⊢;rw [List.getElem?_set_self hlt];rw [hl] at hu;exact hu
  ·unfold jF at hu ⊢;rw [List.getElem?_set_ne hll];exact hu
theorem Jt {l:Nat} {p:Nc} {q:Bool} {r:AV} (hlim:cx.lim≤l) (h:rV s l p q=.ret r s'):Ext cx s s':=by
 unfold rV at h
 split at h
 ·rename_i hl;cases h;exact .loop hl hlim
 ·cases h
theorem Yf (hcall:jh call) {N l:Nat} {args:List AV} {r:AV} (hcx:gq cx s) (h:Aj glob call N l args s cx=.ret r s'):Ext cx s s':=by
 unfold Aj at h
 split at h
 ·rename_i env ps asg body hl
  split at h
  ·rename_i hcond
   split at h
   ·rename_i env1 s1 hr1;have h1:=dO hcall asg hcx (s':=s1) (by rw [hr1];rfl)
    split at h
    ·rename_i e1 p1 a1 b1 hl1;have h2:Ext cx s1 (s1.set l (.loop e1 p1 a1 b1 .busy)):=.loop hl1 hcond.2;have h12:=h1.trans h2
     split at h
     ·rename_i env2 s2 hr2;exact (h12.trans (dO hcall body (hcx.ext h12) (by rw [hr2];rfl))).trans (Jt hcond.2 h)
     ·rename_i env2 s2 hr2;exact (h12.trans (dO hcall body (hcx.ext h12) (by rw [hr2];rfl))).trans (Jt hcond.2 h)
     ·rename_i id env2 s2 hr2;exact (h12.trans (dO hcall body (hcx.ext h12) (by rw [hr2];rfl))).trans (Jt hcond.2 h)
     ·cases h
    ·cases h
   ·cases h
  ·cases h
 ·cases h
theorem Y3 {l:Nat} {p:Nc} {q:Bool} {r:AV} (h:rV s l p q=.pan r s'):False:=by
 unfold rV at h;split at h<;>cases h
theorem Pm {N l:Nat} {args:List AV} {r:AV} (h:Aj glob call N l args s cx=.pan r s'):False:=by
 unfold Aj at h
 (repeat' split at h)<;>first | (cases h;done)|exact Y3 h
theorem Rt {qcall:AV→List AV→St→Ctx→CO} {k:HiK} {args:List AV} {r:AV} (h:lT call qcall k args s cx=.pan r s'):False:=by
 unfold lT at h
 (repeat' split at h)<;>cases h
theorem Zb (hcall:jh call) {qcall:AV→List AV→St→Ctx→CO} {k:HiK} {args:List AV} {r:AV} (hcx:gq cx s) (h:lT call qcall k args s cx=.ret r s'):Ext cx s s':=by
 unfold lT at h
 split at h
 ·split at h
  ·rename_i hc;cases h;exact hcall _ _ _ _ _ _ hcx (.inl hc)
  ·rename_i hc
   split at h
   ·cases h;exact hcall _ _ _ _ _ _ hcx (.inr hc)
   ·cases h
  ·cases h
 ·cases h;exact .refl _ _
 ·cases h;exact .refl _ _
 ·split at h
  ·cases h;exact .refl _ _
  ·rename_i k0 l ver sz o _ _ _ n t sz' ver' cs hl
   split at h
   ·rename_i hcond
    split at h
    ·split at h
     ·cases h;have hlt:l<s.length:=(List.getElem?_eq_some_iff.1 hl).1;refine ⟨by simp,fun l' hd=>?_,fun l' hlt'=>?_,fun b hb l' hlt' hu=>?_⟩
      ·rw [List.getElem?_set_ne (fun he=>by subst he;rw [hl] at hd;cases hd)];exact hd
      ·rw [List.getElem?_set_ne (by have:=hcond.2.2.2.2.2.2.1;omega)]
      ·unfold jF at hu ⊢;rw [List.getElem?_set_ne (by have:=hcond.2.2.2.2.2.2.2.1;omega)];exact hu
     ·cases h
    ·cases h
   ·cases h
  ·cases h
 ·cases h;exact .refl _ _
 ·split at h
  ·cases h;exact .refl _ _
  ·rename_i l ver sz o _ _ n t sz' ver' cs hl
   split at h
   ·rename_i hcond
    split at h
    ·cases h;have hlt:l<s.length:=(List.getElem?_eq_some_iff.1 hl).1;refine ⟨by simp,fun l' hd=>?_,fun l' hlt'=>?_,fun b hb l' hlt' hu=>?_⟩
     ·rw [List.getElem?_set_ne (fun he=>by subst he;rw [hl] at hd;cases hd)];exact hd
     ·rw [List.getElem?_set_ne (by have:=hcond.2.2.2.2.2.1;omega)]
     ·unfold jF at hu ⊢;rw [List.getElem?_set_ne (by have:=hcond.2.2.2.2.2.2;omega)];exact hu
    ·cases h
   ·cases h
  ·cases h
 ·have h0:∀r:List fZ,Ext cx s (s++r):=fun r=>.push hcx r
  split at h
  ·rename_i hc;cases h;exact (h0 _).trans (hcall _ _ _ _ _ _ (hcx.ext (h0 _)) (.inl hc))
  ·rename_i hc
   split at h
   ·cases h;exact (h0 _).trans (hcall _ _ _ _ _ _ (hcx.ext (h0 _)) (.inr hc))
   ·cases h
  ·cases h
 ·cases h
theorem yN (A:uJ):∀n,jh (jv A n)
 | 0=>fun fv args s cx r s' _ h=>by simp [jv] at h
 | n+1=>fun fv args s cx r s' hcx h=>by
  have ih:=yN A n
  cases fv with
  | fn f as cs=>
   cases f with
   | func fid=>
    simp only [jv] at h
    split at h
    ·split at h
     ·rcases h with h|h
      ·cases h;exact .refl _ _
      ·cases h
     ·rcases h with h|h<;>cases h
    ·split at h
     ·rcases h with h|h
      ·exact Zb ih hcx h
      ·exact (Rt h).elim
     ·split at h
      ·exact XT ih hcx h
      ·split at h
       ·exact Zd ih hcx h
       ·rcases h with h|h<;>cases h
   | _=>simp only [jv] at h;rcases h with h|h<;>cases h
  | yl l=>
   simp only [jv] at h;rcases h with h|h
   ·exact Yf ih hcx h
   ·exact (Pm h).elim
  | _=>simp only [jv] at h;rcases h with h|h<;>cases h
end Go.Ai
namespace Go.Ai
variable {P:Program} {glob:Nat→Option (List AV)} {g:ai} {s:St} {B:Nat} {w:World} {env:Env} {a:Act} {o:Oper} {call:AV→List AV→St→Ctx→CO} {cx:Ctx} {e:EV} {env':Env} {s':St}
def ai.bufAt (g:ai) (l b:Nat) (v:Value):ai:={ g with L:=fun l'=>if l'=l then b else g.L l',hist:=fun l'=>if l'=l then fun k=>if k=0 then some v else none else g.hist l' }
def ai.bufNext (g:ai) (l ver:Nat) (v:Value):ai:={ g with hist:=fun l'=>if l'=l then fun k=>if k=ver then some v else g.hist l k else g.hist l' }
theorem VL {tm:Nat→Value} (h:Sim P glob g s B w tm env) {w':World} (hg:Grew True w w') {b off len cap t sz:Nat} {cur:Array Value} {cs:List AV} (hb:w.heap.size≤b) (hrow:w'.heap[b]?=some (.cells cur t (0,0)))
  (hlen:cs.length=len * sz) (hlc:len≤cap) (hmax:cap≤maxLen) (hpos:0<sz) (hfit:off+cap * sz≤cur.size) (hr:aW g s.length ((cur.toList.drop off).take cs.length) cs) (h1:fD ((cur.toList.drop off).take cs.length)):
  Step True g s.length B w (g.bufAt s.length b (.slice (some ⟨b,off,none⟩) len cap)) (s++[fZ.buf t sz 0 cs]).length w'∧Sim P glob (g.bufAt s.length b (.slice (some ⟨b,off,none⟩) len cap)) (s++[fZ.buf t sz 0 cs]) B w' tm env∧
   g.le s.length (g.bufAt s.length b (.slice (some ⟨b,off,none⟩) len cap)) (s.length+1):=by
 let v:Value:=.slice (some ⟨b,off,none⟩) len cap
 have hle:g.le s.length (g.bufAt s.length b v) (s.length+1):=by
  refine ⟨fun _ _ _ h=>h,fun _ _ h=>h,fun l hl=>?_,fun l hl k u hk=>?_,by omega⟩
  ·have:l≠s.length:=by omega
   simp [ai.bufAt,this]
  ·have:l≠s.length:=by omega
   simp only [ai.bufAt,if_neg this];exact hk
 have hfr:=h.base.imm.fresh hb;have him:=h.base.imm.grew hg;have hp:=h.push (g':=g.bufAt s.length b v) (ob:=.buf t sz 0 cs) hg hle (fun l hl=>?_) (fun _ _=>⟨rfl,rfl⟩) (fun c hc=>?_) ⟨him.m,him.mm⟩ ?_
 ·exact ⟨hp.1,hp.2,hle⟩
 ·have:l≠s.length:=by omega
  simp [ai.bufAt,this]
 ·have:c=b:=by
   rcases hc with hc|⟨k,u,hk,hu⟩
   ·simp [ai.bufAt] at hc;exact hc.symm
   ·simp only [ai.bufAt,if_true] at hk
    split at hk
    ·cases hk;simp [v,dw] at hu;exact hu.symm
    ·cases hk
  subst this;exact ⟨hb,(Array.getElem?_eq_some_iff.1 hrow).1⟩
 ·refine ⟨b,off,len,cap,cur,by simp [ai.bufAt,v],fun k hk=>?_,⟨hfr.m,hfr.mm⟩,hlen,hlc,hmax,hpos,hrow,hfit,hr.mono hle,h1⟩;simp only [ai.bufAt,if_true];rw [if_neg (by omega)]
theorem aeB {tm:Nat→Value} (h:Sim P glob g s B w tm env) {l t sz ver:Nat} {cs0:List AV} (hl:s[l]?=some (.buf t sz ver cs0)) {w':World} {b off len cap:Nat} {cur:Array Value} {cs:List AV}
  (hb:g.bl l b∨w.heap.size≤b) (hold:∀c,c<w.heap.size→c≠b→w'.heap[c]?=w.heap[c]?) (hsize:w.heap.size≤w'.heap.size) (hio:w'.os=w.os∧w'.output=w.output∧(True→TD w w')) (hnc:nM g b)
  (hrow:w'.heap[b]?=some (.cells cur t (0,0))) (hlen:cs.length=len * sz) (hlc:len≤cap) (hmax:cap≤maxLen) (hfit:off+cap * sz≤cur.size)
  (hr:aW g s.length ((cur.toList.drop off).take cs.length) cs) (h1:fD ((cur.toList.drop off).take cs.length)):
  Step True g s.length B w (g.bufNext l (ver+1) (.slice (some ⟨b,off,none⟩) len cap)) (s.set l (fZ.buf t sz (ver+1) cs)).length w'∧
   Sim P glob (g.bufNext l (ver+1) (.slice (some ⟨b,off,none⟩) len cap)) (s.set l (fZ.buf t sz (ver+1) cs)) B w' tm env:=by
 let v:Value:=.slice (some ⟨b,off,none⟩) len cap
 have hlt:l<s.length:=(List.getElem?_eq_some_iff.1 hl).1;obtain ⟨b0,off0,len0,cap0,cur0,q1,q2,q3,q4,q5,q6,q7,q8,q9,q10,q11⟩:=h.base.heap.obj l _ hl
 have hle:g.le s.length (g.bufNext l (ver+1) v) s.length:=by
  refine ⟨fun _ _ _ h=>h,fun _ _ h=>h,fun _ _=>rfl,fun l' _ k u hk=>?_,Nat.le_refl _⟩;simp only [ai.bufNext];split
  ·rename_i he;subst he;show (if k=ver+1 then some v else g.hist l' k)=some u;rw [if_neg (fun he=>by subst he;rw [q2 _ (by omega)] at hk;cases hk)];exact hk
  ·exact hk
 have hbl:∀c,(g.bufNext l (ver+1) v).bl l c→g.bl l c∨w.heap.size≤c:=by
  rintro c (hc|⟨k,u,hk,hu⟩)
  ·exact .inl (.inl hc)
  ·simp only [ai.bufNext,if_true] at hk
   split at hk
   ·cases hk;simp [v,dw] at hu;subst hu;exact hb
   ·exact .inl (.inr ⟨k,u,hk,hu⟩)
 have htk:∀c,(g.bufNext l (ver+1) v).taken s.length c→g.taken s.length c∨w.heap.size≤c:=by
  rintro c ⟨l',hl',hc⟩;by_cases he:l'=l
  ·subst he;rcases hbl c hc with hc|hc
   ·exact .inl ⟨l',hl',hc⟩
   ·exact .inr hc
  ·rcases hc with hc|⟨k,u,hk,hu⟩
   ·exact .inl ⟨l',hl',.inl hc⟩
   ·simp only [ai.bufNext,if_neg he] at hk;exact .inl ⟨l',hl',.inr ⟨k,u,hk,hu⟩⟩
 have hnt:∀c,c<w.heap.size→¬g.taken s.length c→c≠b:=fun c hcs hn hcb=>by
  subst hcb;rcases hb with h' | h'
  ·exact hn ⟨l,hlt,h'⟩
  ·omega
 have hB:=h.B;have hbs:b<w'.heap.size:=(Array.getElem?_eq_some_iff.1 hrow).1;rw [List.length_set];refine ⟨⟨hle,hsize,fun c hc hn=>hold c (by omega) (hnt c (by omega) hn),fun _ _ _=>rfl,fun _ _=>rfl,fun c hc=>?_,hio⟩,⟨⟨?_, ?_,h.base.glob.mono hle⟩, ?_,by omega⟩⟩
 ·rcases htk c hc with h' | h'
  ·exact .inl h'
  ·exact .inr (by omega)
 ·refine ⟨fun c o' u hu=>?_,fun c es hc=>?_⟩
  ·have hcb:c≠b:=fun hcb=>by subst hcb;have:g.m c o'=some u:=hu;rw [hnc.m o'] at this;cases this
   rw [World.cell?_of_block (hold c (cell_lt (h.base.imm.m c o' u hu)) hcb)];exact h.base.imm.m c o' u hu
  ·have hcb:c≠b:=fun hcb=>by subst hcb;have:g.mm c=some es:=hc;rw [hnc.mm] at this;cases this
   exact (h.base.imm.mm c es hc).keep (hold c (h.base.imm.mm c es hc).lt hcb)
 ·refine h.base.heap.setAt hlt hle (fun l' _ hne=>by simp [ai.bufNext,hne]) hbl (fun c hc=>?_) hsize (fun c hcs hnc'=>?_) ?_
  ·rcases hbl c hc with h' | h'
   ·exact Nat.lt_of_lt_of_le (h.base.heap.lt l c hlt h') hsize
   ·rcases hc with hc|⟨k,u,hk,hu⟩
    ·have:c<w.heap.size:=h.base.heap.lt l c hlt (.inl hc);omega
    ·simp only [ai.bufNext,if_true] at hk
     split at hk
     ·cases hk;simp [v,dw] at hu;subst hu;exact hbs
     ·have:c<w.heap.size:=h.base.heap.lt l c hlt (.inr ⟨k,u,hk,hu⟩);omega
  ·have hne:c≠b:=fun hcb=>by
    subst hcb;rcases hb with h' | h'
    ·exact hnc' h'
    ·omega
   exact ⟨hold c hcs hne,rfl,rfl⟩
  ·refine ⟨b,off,len,cap,cur,by simp [ai.bufNext,v],fun k hk=>?_,⟨hnc.m,hnc.mm⟩,hlen,hlc,hmax,q7,hrow,hfit,hr.mono hle,h1⟩;simp only [ai.bufNext,if_true];rw [if_neg (by omega)];exact q2 k (by omega)
 ·rw [List.length_set];refine h.env.next hle (fun j x hj hx c hcj=>?_);have hcs:=Az h.env hj hx hcj;have hne:=hnt c hcs (h.env.off j x hj hx c hcj);refine ⟨hold c hcs hne,rfl,rfl,fun ht=>?_⟩;rcases htk c ht with h' | h'
  ·exact h'
  ·omega
theorem acH {t t' ty el:TypeId} {d:TypeDesc} {i:TypeInfo} {z:Value} {sz n m c b off:Nat} {xs news:List Value} {x:Value} {cur:Array Value} (ht:P.underlying t=some (.slice el)) (ht':P.underlying t'=some d) (hd:(∃q,d=.slice q)∨d=.string)
  (hi:P.info? el=some i) (hz:i.zero=some z) (hsz:i.size=sz) (hzs:z.cells.size=sz) (hpos:0<m) (hrow:w.heap[b]?=some (.cells cur el (0,0))) (hfit:off+c * sz≤cur.size) (hnc:n≤c) (hcm:c≤maxLen)
  (hxs:xs=(cur.toList.drop off).take (n * sz)) (hx:Src P w sz x m news) (hmax:n+m≤aQ) (hby:i.bytes≤65536):
  ∃b' off' c' cur' w',(Builtin.append_ #[t,t'] ty #[.slice (some ⟨b,off,none⟩) n c,x]).run P w=.ok (.slice (some ⟨b',off',none⟩) (n+m) c') w'∧w'.heap[b']?=some (.cells cur' el (0,0))∧n+m≤c'∧c'≤maxLen∧
   off'+c' * sz≤cur'.size∧(cur'.toList.drop off').take ((n+m) * sz)=xs++news∧(b'=b∨w.heap.size≤b')∧(∀k,k<w.heap.size→k≠b'→w'.heap[k]?=w.heap[k]?)∧w.heap.size≤w'.heap.size∧w'.os=w.os∧w'.output=w.output∧TD w w':=by
 subst hsz;have hmax':n+m≤1073741824:=hmax;have hnc2:=Nat.mul_le_mul_right i.size hnc;have hxl:xs.length=n * i.size:=by rw [hxs];simp;omega
 have hlen:(xs++news).length=(n+m) * i.size:=by rw [List.length_append,hxl,hx.size,Nat.add_mul]
 have hca:pI w b off xs:=by
  rw [hxs]
  have:=((qW hrow).drop off).take (n * i.size)
  simpa using this
 by_cases hroom:n+m≤c
 ·have hrm:=Nat.mul_le_mul_right i.size hroom;rw [Nat.add_mul] at hrm;have hnl:=hx.size;have hst:=run_storeCells_at P b (off+n * i.size) el news 0 cur w hrow (by omega) hx.one;simp only [Nat.add_zero] at hst;refine ⟨b,off,c,_,w.setRow b (cur.toList.take (off+n * i.size)++news++cur.toList.drop (off+n * i.size+news.length)).toArray, ?_,jA hrow,hroom,hcm, ?_, ?_,.inl rfl,fun k _ hk=>aV _ hk,by simp,rfl,rfl,⟨rfl,Nat.le_refl _⟩⟩
  ·rcases hd with ⟨q,rfl⟩|rfl<;>simp [Builtin.append_,run_underlying ht,run_underlying ht',sizeOf,typeInfo,hi,hx.len,hroom,hx.cells w rfl,Addr.add_lit,hst]
  ·simp;omega
  ·rw [←hlen,hxs];simp only [List.toList_toArray];apply List.ext_getElem?;intro j;simp only [List.getElem?_take,List.getElem?_drop,List.getElem?_append,List.length_append,List.length_take,List.length_drop,Array.length_toList];by_cases c1:j<n * i.size
   ·simp [c1,show j<min (n * i.size) (cur.size - off)+news.length by omega,show off+j<min (off+n * i.size) cur.size+news.length by omega,show off+j<min (off+n * i.size) cur.size by omega,show j<min (n * i.size) (cur.size - off) by omega]
   ·by_cases c2:j<n * i.size+news.length
    ·simp [show j<min (n * i.size) (cur.size - off)+news.length by omega,show off+j<min (off+n * i.size) cur.size+news.length by omega,show ¬off+j<min (off+n * i.size) cur.size by omega,show ¬j<min (n * i.size) (cur.size - off) by omega]
     congr 1;omega
    ·simp [show ¬j<min (n * i.size) (cur.size - off)+news.length by omega,show ¬j<min (n * i.size) (cur.size - off) by omega];omega
 ·have hge:=grownCap_ge w (n+m) c el
  have h48:¬(281474976710656<Builtin.nextslicecap (n+m) c * i.bytes):=by
   have h1:=nextslicecap_le (show c<n+m by omega);have h2:Builtin.nextslicecap (n+m) c * i.bytes≤2147483648 * 65536:=Nat.mul_le_mul (by omega) hby;omega
  have h63:¬(9223372036854775807<((n:Int)+(m:Int))):=by omega
  have hfo:(Builtin.firstCells i.size n (.slice (some ⟨b,off,none⟩) n c)).run P w.drew=.ok xs.toArray w.drew:=xw hxl hca;refine ⟨w.heap.size,0,grownCap w (n+m) c el,xs.toArray++news.toArray++Builtin.zeroCells z.cells (grownCap w (n+m) c el - (n+m)),w.drew.alloc (.cells (xs.toArray++news.toArray++Builtin.zeroCells z.cells (grownCap w (n+m) c el - (n+m))) el), ?_,heap_alloc_new w.drew _,hge,grownCap_le_maxLen w _ _ _ (by simp only [maxLen];omega), ?_, ?_,.inr (Nat.le_refl _),fun k hk _=>heap_alloc_old w.drew _ k hk,show w.heap.size≤(w.heap.push _).size by simp,rfl,rfl,⟨rfl,Nat.le_succ _⟩⟩
  ·rcases hd with ⟨q,rfl⟩|rfl<;>simp [Builtin.append_,run_underlying ht,run_underlying ht',sizeOf,typeInfo,zeroValue,hi,hz,hx.len,hroom,h63,h48,Question.forced,hfo,hx.cells w.drew rfl,newRow,grownCap]<;>(congr 2;apply Array.ext';simp [List.append_assoc])
  ·simp only [Nat.zero_add,Array.size_append,List.size_toArray,size_zeroCells,hzs];rw [hxl,hx.size,←Nat.add_mul,←Nat.add_mul];refine Nat.le_of_eq ?_
   congr 1;omega
  ·rw [←hlen];simp only [List.drop_zero,Array.toList_append];rw [List.take_left'];rfl
theorem TK {t t' ty el:TypeId} {d:TypeDesc} {i:TypeInfo} {z:Value} {sz m:Nat} {ad:Addr} {news:List Value} {x:Value} (ht:P.underlying t=some (.slice el)) (ht':P.underlying t'=some d) (hd:(∃q,d=.slice q)∨d=.string)
  (hi:P.info? el=some i) (hz:i.zero=some z) (hsz:i.size=sz) (hzs:z.cells.size=sz) (hpos:0<m) (hx:Src P w sz x m news) (hmax:m≤aQ) (hby:i.bytes≤65536):
  ∃b' off' c' cur' w',(Builtin.append_ #[t,t'] ty #[.slice (some ad) 0 0,x]).run P w=.ok (.slice (some ⟨b',off',none⟩) m c') w'∧w'.heap[b']?=some (.cells cur' el (0,0))∧m≤c'∧c'≤maxLen∧
   off'+c' * sz≤cur'.size∧(cur'.toList.drop off').take (m * sz)=news∧w.heap.size≤b'∧(∀k,k<w.heap.size→k≠b'→w'.heap[k]?=w.heap[k]?)∧w.heap.size≤w'.heap.size∧w'.os=w.os∧w'.output=w.output∧TD w w':=by
 subst hsz;have hmax':m≤1073741824:=hmax;have hge:=grownCap_ge w m 0 el
 have h48:¬(281474976710656<Builtin.nextslicecap m 0 * i.bytes):=by
  have h1:=nextslicecap_le (show 0<m by omega);have h2:Builtin.nextslicecap m 0 * i.bytes≤2147483648 * 65536:=Nat.mul_le_mul (by omega) hby;omega
 have h63:¬(9223372036854775807<(m:Int)):=by omega
 have hm:m≠0:=by omega
 have hfo:(Builtin.firstCells i.size 0 (.slice (some ad) 0 0)).run P w.drew=.ok #[] w.drew:=by
  simpa [Builtin.firstCells] using run_loadCells_list (P:=P) w.drew ad [] (fun j v hv=>by simp at hv)
 refine ⟨w.heap.size,0,grownCap w m 0 el,news.toArray++Builtin.zeroCells z.cells (grownCap w m 0 el - m),w.drew.alloc (.cells (news.toArray++Builtin.zeroCells z.cells (grownCap w m 0 el - m)) el), ?_,heap_alloc_new w.drew _,hge,grownCap_le_maxLen w _ _ _ (by simp only [maxLen];omega), ?_, ?_,Nat.le_refl _,fun k hk _=>heap_alloc_old w.drew _ k hk,show w.heap.size≤(w.heap.push _).size by simp,rfl,rfl,⟨rfl,Nat.le_succ _⟩⟩
 ·rcases hd with ⟨q,rfl⟩|rfl<;>simp [Builtin.append_,run_underlying ht,run_underlying ht',sizeOf,typeInfo,zeroValue,hi,hz,hx.len,hm,h63,h48,Question.forced,hfo,hx.cells w.drew rfl,newRow,grownCap]
 ·simp only [Nat.zero_add,Array.size_append,List.size_toArray,size_zeroCells,hzs];rw [hx.size,←Nat.add_mul];refine Nat.le_of_eq ?_
  congr 1;omega
 ·rw [←hx.size];simp only [List.drop_zero,Array.toList_append];rw [List.take_left'];rfl
theorem MB {el sz:Nat} {x y:IX} (h:Sim P glob g s B w (Act.tm a) env) (hc:aT P o.op (.appk el sz x y)=true) (hr:aop glob call cx env s (.appk el sz x y)=.ok e env' s'):Good P glob g s B w a (execOp a.eval o) e env' s':=by
 simp only [aT] at hc
 split at hc
 ·rename_i c hop
  split at hc
  ·rename_i ts x' y' hcal hargs
   split at hc
   ·rename_i t t' htys;simp only [Bool.and_eq_true,beq_iff_eq] at hc;obtain ⟨⟨⟨⟨rfl,hx⟩,hy⟩,hsl⟩,hinf⟩:=hc;obtain ⟨hu,hsz⟩:=oQ hsl;obtain ⟨i,hi,hisz⟩:=oU hsz;rw [hi] at hinf;simp only [Option.any_some,Bool.and_eq_true,decide_eq_true_eq] at hinf;obtain ⟨hby,hzz⟩:=hinf
    cases hz:i.zero with
    | none=>simp [hz] at hzz
    | some z=>
    simp [hz] at hzz;simp only [aop] at hr
    split at hr
    ·-- a new row
     rename_i ys hys hxv
     split at hr
     ·rename_i hcond;obtain ⟨hpos,hlen,hall,hmax⟩:=hcond;cases hr;have hall':∀y∈ys,y.cells.length=sz:=fun y hy=>by simpa using List.all_eq_true.1 hall y hy
      obtain ⟨news,q1,q2⟩:=qF hy h hys hall'
      have hx0:a.eval x'=.slice none 0 0:=by
       have:=nR (a:=a) hx h.env h.base.glob hxv
       generalize a.eval x'=ax at this;cases this;rfl
      obtain ⟨v',w',r1,r2,r3⟩:=OW (ty:=o.type) (B:=0) hu hu (.inl ⟨_,rfl⟩) hi hz hisz hzz (World.ownsRow_nil w 0 el sz) q1 (by simpa using hmax) hby (Nat.zero_le _);simp only [Nat.zero_add,List.nil_append] at r2;have hrun:(execOp a.eval o).run P w=.ok (.value v') w':=jY hop hcal hargs htys (by rw [hx0];exact r1);rcases r3 with ⟨gb,cur,e1,_⟩|⟨hgrew,hfresh⟩
      ·simp [dw] at e1
      ·rcases r2.2 with ⟨_,hn⟩|⟨gb,cap,cur,hv,_,hg,hcap,hcm,hcs,htake⟩
       ·omega
       ·have hfl:(ys.flatMap AV.cells).length=ys.length * sz:=xE hall';obtain ⟨st,sm,hle⟩:=VL (t:=el) (sz:=sz) (len:=ys.length) (cap:=cap) (off:=0) h hgrew (hfresh gb (by simp [hv,dw])) hg hfl hcap hcm hpos (by omega) (by rw [hfl,List.drop_zero,htake];exact q2) (by rw [hfl,List.drop_zero,htake];exact q1.one);refine ⟨v',w',_,.inl hrun,st,sm,.v ?_⟩;rw [hv]
        simpa using Rep.sk (g:=g.bufAt s.length gb (.slice (some ⟨gb,0,none⟩) ys.length cap)) (n:=(s++[fZ.buf el sz 0 (ys.flatMap AV.cells)]).length) s.length 0 sz 0 ys.length gb 0 ys.length cap cap (by simp) (by simp [ai.bufAt]) (by omega) hcap (by omega)
     ·cases hr
    ·-- a new row,behind an empty one
     rename_i ys hys hxv
     split at hr
     ·rename_i hcond;obtain ⟨hpos,hlen,hall,hmax⟩:=hcond;cases hr;have hall':∀y∈ys,y.cells.length=sz:=fun y hy=>by simpa using List.all_eq_true.1 hall y hy
      obtain ⟨news,q1,q2⟩:=qF hy h hys hall'
      obtain ⟨ad,hx0⟩:∃ad,a.eval x'=.slice (some ad) 0 0:=by
       have:=nR (a:=a) hx h.env h.base.glob hxv
       generalize a.eval x'=ax at this;cases this;exact ⟨_,rfl⟩
      obtain ⟨b',off',c',cur',w',e1,e2,e3,e4,e5,e6,e7,e8,e9,e10,e11,e12⟩:=TK (ty:=o.type) (ad:=ad) hu hu (.inl ⟨_,rfl⟩) hi hz hisz hzz hlen q1 (by omega) hby;have hrun:(execOp a.eval o).run P w=.ok (.value _) w':=jY hop hcal hargs htys (by rw [hx0];exact e1);have hfl:(ys.flatMap AV.cells).length=ys.length * sz:=xE hall';obtain ⟨st,sm,hle⟩:=VL (t:=el) (sz:=sz) (len:=ys.length) (cap:=c') (off:=off') h ⟨e9,fun k hk=>e8 k hk (by omega),e10,e11,fun _=>e12⟩ e7 e2 hfl e3 e4 hpos e5 (by rw [hfl,e6];exact q2) (by rw [hfl,e6];exact q1.one);refine ⟨_,w',_,.inl hrun,st,sm,.v ?_⟩
      simpa using Rep.sk (g:=g.bufAt s.length b' (.slice (some ⟨b',off',none⟩) ys.length c')) (n:=(s++[fZ.buf el sz 0 (ys.flatMap AV.cells)]).length) s.length 0 sz 0 ys.length b' off' ys.length c' c' (by simp) (by simp [ai.bufAt]) (by omega) e3 (by omega)
     ·cases hr
    ·-- a row that is there
     rename_i ys l ver sz2 o2 m hys hxv
     split at hr
     ·rename_i t2 sz3 ver2 cs hl
      split at hr
      ·rename_i hcond;obtain ⟨rfl,rfl,rfl,rfl,hlen,hall,hmax,hfit0,_,_⟩:=hcond;cases hr;have hall':∀y∈ys,y.cells.length=sz2:=fun y hy=>by simpa using List.all_eq_true.1 hall y hy
       obtain ⟨news,q1,q2⟩:=qF hy h hys hall';have hlt:l<s.length:=(List.getElem?_eq_some_iff.1 hl).1;obtain ⟨b,off,len,cap,cur,p1,p2,p3,p4,p5,p6,p7,p8,p9,p10,p11⟩:=h.base.heap.obj l _ hl;have hrep:=nR (a:=a) hx h.env h.base.glob hxv;have hcsl:cs.length≤cap * sz2:=by rw [p4];exact Nat.mul_le_mul_right sz2 p5
       have hfl:(ys.flatMap AV.cells).length=ys.length * sz2:=xE hall'
       have hcl:((cs.drop o2).take (m * sz2)++ys.flatMap AV.cells).length=(m+ys.length) * sz2:=by
        rw [List.length_append,hfl,Nat.add_mul];simp;omega
       -- the common end
       have fin:∀b' off' c' cur' w',(Builtin.append_ #[t,t] o.type #[a.eval x',a.eval y']).run P w=.ok (.slice (some ⟨b',off',none⟩) (m+ys.length) c') w'→w'.heap[b']?=some (.cells cur' el (0,0))→m+ys.length≤c'→c'≤maxLen→
         off'+c' * sz2≤cur'.size→(cur'.toList.drop off').take ((m+ys.length) * sz2)=(((cur.toList.drop off).take cs.length).drop o2).take (m * sz2)++news→(b'=b∨w.heap.size≤b')→(∀k,k<w.heap.size→k≠b'→w'.heap[k]?=w.heap[k]?)→w.heap.size≤w'.heap.size→w'.os=w.os→w'.output=w.output→TD w w'→
         Good P glob g s B w a (execOp a.eval o) (.v (.sk l (ver+1) sz2 0 (m+ys.length))) env (s.set l (fZ.buf el sz2 (ver+1) ((cs.drop o2).take (m * sz2)++ys.flatMap AV.cells))):=by
        intro b' off' c' cur' w' e1 e2 e3 e4 e5 e6 e7 e8 e9 e10 e11 e12;have hbl:g.bl l b'∨w.heap.size≤b':=e7.imp (fun hb=>by subst hb;exact .inr ⟨ver,_,p1,rfl⟩) id
        have hnc:nM g b':=by
         rcases e7 with rfl|hb
         ·exact p3
         ·exact h.base.imm.fresh hb
        have hone:fD ((((cur.toList.drop off).take cs.length).drop o2).take (m * sz2)++news):=fun u hu=>(List.mem_append.1 hu).elim (((p11.drop o2).take _) u) (q1.one u);obtain ⟨st,sm⟩:=aeB (len:=m+ys.length) h hl hbl e8 e9 ⟨e10,e11,fun _=>e12⟩ hnc e2 hcl e3 e4 e5 (by rw [hcl,e6];exact ((p10.drop o2).take _).append q2) (by rw [hcl,e6];exact hone);have hrun:(execOp a.eval o).run P w=.ok (.value _) w':=jY hop hcal hargs htys e1;refine ⟨_,w',_,.inl hrun,st,sm,.v ?_⟩
        simpa using Rep.sk (g:=g.bufNext l (ver+1) (.slice (some ⟨b',off',none⟩) (m+ys.length) c')) (n:=(s.set l (fZ.buf el sz2 (ver+1) ((cs.drop o2).take (m * sz2)++ys.flatMap AV.cells))).length) l (ver+1) sz2 0 (m+ys.length) b' off' (m+ys.length) c' c' (by simpa using hlt) (by simp [ai.bufNext]) (by omega) e3 (by omega)
       generalize hax:a.eval x'=ax at hrep fin
       cases hrep with
       | skE _ _ _ _ ad hk=>
        obtain ⟨b',off',c',cur',w',e1,e2,e3,e4,e5,e6,e7,e8,e9,e10,e11,e12⟩:=TK (ty:=o.type) (ad:=ad) hu hu (.inl ⟨_,rfl⟩) hi hz hisz hzz hlen q1 (by omega) hby;refine fin b' off' c' cur' w' (by simpa using e1) e2 (by omega) e4 e5 ?_ (.inr e7) e8 e9 e10 e11 e12
        simpa using e6
       | sk _ _ _ _ _ b1 off1 len1 cap1 c1 hk hh ho hc2 hcc=>
        rw [p1] at hh;cases hh
        obtain ⟨b',off',c',cur',w',e1,e2,e3,e4,e5,e6,e7,e8,e9,e10,e11,e12⟩:=acH (ty:=o.type) (off:=off+o2) (n:=m) (c:=c1) hu hu (.inl ⟨_,rfl⟩) hi hz hisz hzz hlen p8 (by omega) hc2 (by
         have:c1 * sz2≤cap * sz2:=by omega
         have:=Nat.le_of_mul_le_mul_right this p7
         omega) rfl q1 hmax hby
        refine fin b' off' c' cur' w' e1 e2 e3 e4 e5 ?_ e7 e8 e9 e10 e11 e12;rw [e6]
        congr 1
        rw [List.drop_take,List.take_take,List.drop_drop,Nat.min_eq_left (by omega)]
      ·cases hr
     ·cases hr
    ·cases hr
   ·cases hc
  ·cases hc
 ·cases hc
theorem yY {t ty el:TypeId} {i:TypeInfo} {sz len cap:Nat} {base:Option Addr} {news:List Value} {y:Value} (ht:P.underlying t=some (.slice el)) (hi:P.info? el=some i) (hsz:i.size=sz) (hle:len≤cap) (hx:Src P w sz y 0 news):
  (Builtin.append_ #[t,t] ty #[.slice base len cap,y]).run P w=.ok (.slice base len cap) w:=by
 subst hsz;have hn:news=[]:=List.eq_nil_of_length_eq_zero (by have:=hx.size;omega);subst hn
 cases base<;>simp [Builtin.append_,run_underlying ht,sizeOf,typeInfo,hi,hx.len,hle,hx.cells w rfl,storeCells]
theorem J9 {zs:Array Value} {sz:Nat} (hz:zs.size=sz) (hpos:0<sz) (n:Nat):(madeCells zs (n * sz)).toList=(List.replicate n zs.toList).flatten:=by
 apply List.ext_getElem?;intro j
 have key:∀n j,(List.replicate n zs.toList).flatten[j]?=if j<n * sz then zs[j % sz]? else none:=by
  intro n
  induction n with
  | zero=>intro j;simp
  | succ n ih=>
   intro j;rw [List.replicate_succ,List.flatten_cons,List.getElem?_append];simp only [Array.length_toList,hz];by_cases hj:j<sz
   ·rw [if_pos hj,if_pos (by rw [Nat.succ_mul];omega),Nat.mod_eq_of_lt hj];simp
   ·rw [if_neg hj,ih,Nat.succ_mul];by_cases h2:j - sz<n * sz
    ·rw [if_pos h2,if_pos (by omega),Nat.mod_eq_sub_mod (a:=j) (b:=sz) (by omega)]
    ·rw [if_neg h2,if_neg (by omega)]
 rw [key];by_cases hj:j<n * sz
 ·rw [if_pos hj];have hm:j % sz<zs.size:=by rw [hz];exact Nat.mod_lt _ hpos
  simp [madeCells,hj,hz,hm];rw [Array.getElem?_eq_getElem hm];simp [hm,getElem!_pos]
 ·rw [if_neg hj];simp [madeCells];omega
theorem Au {vs:List Value} {as:List AV} {N:Nat} (h:aW g N vs as):∀n,aW g N (List.replicate n vs).flatten (List.replicate n as).flatten
 | 0=>.nil _ _
 | n+1=>by rw [List.replicate_succ,List.replicate_succ,List.flatten_cons,List.flatten_cons];exact h.append (Au h n)
theorem acG {t t' ty el:TypeId} {i:TypeInfo} {z:Value} {sz m:Nat} (ht:P.underlying t=some (.slice el)) (ht':P.underlying t'=some (.int .i64))
  (hi:P.info? el=some i) (hz:i.zero=some z) (hsz:i.size=sz) (hzs:z.cells.size=sz) (hpos:0<m) (hps:0<sz) (hmax:m≤16777216) (hby:i.bytes≤65536):
  (Builtin.append_ #[t,t'] ty #[.slice none 0 0,.int .i64 (m:Int)]).run P w=.ok (.slice (some ⟨w.heap.size,0,none⟩) m (grownCap w m 0 el)) (w.drew.alloc (.cells (Builtin.zeroCells z.cells m++Builtin.zeroCells z.cells (grownCap w m 0 el - m)) el)):=by
 subst hsz
 have h48:¬(281474976710656<Builtin.nextslicecap m 0 * i.bytes):=by
  have h1:=nextslicecap_le (show 0<m by omega);have h2:Builtin.nextslicecap m 0 * i.bytes≤33554432 * 65536:=Nat.mul_le_mul (by omega) hby;omega
 have h63:¬(9223372036854775807<(m:Int)):=by omega
 have hm:m≠0:=by omega
 have hw:IntKind.i64.wrap (m:Int)=(m:Int):=by rw [IntKind.wrap_i64];omega
 have hb:¬(281474976710656<(m:Int) * (i.bytes:Int)):=by
  have h2:m * i.bytes≤16777216 * 65536:=Nat.mul_le_mul hmax hby;have h3:((m * i.bytes:Nat):Int)≤281474976710656:=by omega
  rw [Int.natCast_mul] at h3;omega
 have hms:¬(m * i.size=0):=by
  intro h;rcases Nat.mul_eq_zero.1 h with h|h<;>omega
 have hneg:¬((m:Int)<0):=by omega
 have hfo:(Builtin.firstCells i.size 0 (.slice none 0 0)).run P w.drew=.ok #[] w.drew:=by simp [Builtin.firstCells]
 simp [Builtin.append_,run_underlying ht,run_underlying ht',sizeOf,typeInfo,zeroValue,hi,hz,hm,h63,h48,Question.forced,hfo,newRow,grownCap,asInt,asIntOf,hw,hb,hms,hneg]
theorem abG {el sz:Nat} {zs:List AV} {x y:IX} (h:Sim P glob g s B w (Act.tm a) env) (hc:aT P o.op (.appz el sz zs x y)=true) (hr:aop glob call cx env s (.appz el sz zs x y)=.ok e env' s'):Good P glob g s B w a (execOp a.eval o) e env' s':=by
 simp only [aT] at hc
 split at hc
 case h_2=>cases hc
 rename_i c hop
 split at hc
 case h_2=>cases hc
 rename_i ts x' y' hcal hargs
 split at hc
 case h_2=>cases hc
 rename_i t t' htys;simp only [Bool.and_eq_true] at hc;obtain ⟨⟨⟨⟨⟨hint,hx⟩,hy⟩,hsl⟩,hzi⟩,hby⟩:=hc;obtain ⟨hu,hsz⟩:=oQ hsl;obtain ⟨i,z,hi,hz,hok⟩:=ug hzi;obtain ⟨i',hi',hisz⟩:=oU hsz;rw [hi] at hi' hby;cases hi';simp only [Option.any_some,decide_eq_true_eq] at hby;obtain ⟨z1,z2⟩:=rX hok g s.length;simp only [aop] at hr
 split at hr
 case h_2=>cases hr
 rename_i n hxv hn
 split at hr
 case isFalse=>cases hr
 rename_i hcond;obtain ⟨hpos,hzl,h0,hmax⟩:=hcond;cases hr;have hiv:=uM (aJ (a:=a) hy h.env h.base.glob hn);have hzsz:z.cells.size=sz:=by have:=z1.1;simp at this;omega
 obtain ⟨k,rfl⟩:=Int.eq_ofNat_of_zero_le (show 0≤n by omega);simp only [Int.toNat_natCast] at hmax ⊢
 have hx0:a.eval x'=.slice none 0 0:=by
  have:=nR (a:=a) hx h.env h.base.glob hxv
  generalize a.eval x'=ax at this;cases this;rfl
 have hut:P.underlying t'=some (.int .i64):=by
  unfold isInt at hint
  split at hint
  ·rename_i k' hk;rw [hk];simp at hint;rw [hint]
  ·cases hint
 have hkp:0<k:=by omega
 have hrun:=acG (w:=w) (ty:=o.type) hu hut hi hz hisz hzsz hkp hpos hmax hby;have hge:=grownCap_ge w k 0 el;have hml:(Builtin.zeroCells z.cells k).size=k * sz:=by rw [size_zeroCells,hzsz]
 have hflat:(Builtin.zeroCells z.cells k).toList=(List.replicate k z.cells.toList).flatten:=by
  have:=J9 hzsz hpos k
  rw [←this];apply List.ext_getElem?;intro j;simp [madeCells,Builtin.zeroCells,hzsz]
 have hfl:(List.replicate k zs).flatten.length=k * sz:=by simp [hzl]
 have hrr:=Au z1 k
 have htk:((Builtin.zeroCells z.cells k++Builtin.zeroCells z.cells (grownCap w k 0 el - k)).toList.drop 0).take (k * sz)=(List.replicate k z.cells.toList).flatten:=by
  rw [List.drop_zero,Array.toList_append,List.take_left' (by rw [Array.length_toList,hml]),hflat]
 obtain ⟨st,sm,hle⟩:=VL (t:=el) (sz:=sz) (len:=k) (cap:=grownCap w k 0 el) (off:=0) h ⟨show w.heap.size≤(w.heap.push _).size by simp,fun b hb=>heap_alloc_old w.drew _ b hb,rfl,rfl,fun _=>⟨rfl,Nat.le_succ _⟩⟩ (Nat.le_refl _) (heap_alloc_new w.drew (.cells (Builtin.zeroCells z.cells k++Builtin.zeroCells z.cells (grownCap w k 0 el - k)) el)) hfl hge (grownCap_le_maxLen w _ _ _ (by simp only [maxLen];omega)) hpos (by
   rw [Nat.zero_add,Array.size_append,hml,size_zeroCells,hzsz,←Nat.add_mul];refine Nat.le_of_eq ?_
   congr 1;omega)
  (by rw [hfl,htk];exact hrr) (by
   rw [hfl,htk];intro v hv;simp only [List.mem_flatten,List.mem_replicate] at hv;obtain ⟨l',⟨_,rfl⟩,hv⟩:=hv
   exact z2 v hv)
 refine ⟨.slice (some ⟨w.heap.size,0,none⟩) k (grownCap w k 0 el),_,_,.inl ?_,st,sm,.v ?_⟩
 ·exact jY hop hcal hargs htys (by rw [hx0,hiv];exact hrun)
 ·simpa using Rep.sk (g:=g.bufAt s.length w.heap.size (.slice (some ⟨w.heap.size,0,none⟩) k (grownCap w k 0 el))) (n:=(s++[fZ.buf el sz 0 (List.replicate k zs).flatten]).length) s.length 0 sz 0 k w.heap.size 0 k (grownCap w k 0 el) (grownCap w k 0 el) (by simp) (by simp [ai.bufAt]) (by omega) hge (by omega)
theorem abE {x:IX} (h:Sim P glob g s B w (Act.tm a) env) (hc:aT P o.op (.capn x)=true) (hr:aop glob call cx env s (.capn x)=.ok e env' s'):Good P glob g s B w a (execOp a.eval o) e env' s':=by
 simp only [aT] at hc
 split at hc
 case h_2=>cases hc
 rename_i c hop
 split at hc
 case h_2=>cases hc
 rename_i x' t hcal hargs htys;simp only [Bool.and_eq_true] at hc;obtain ⟨hx,hsl⟩:=hc
 obtain ⟨el,hu⟩:∃el,P.underlying t=some (.slice el):=by
  split at hsl
  ·rename_i el hu;exact ⟨el,hu⟩
  ·cases hsl
 simp only [aop] at hr
 split at hr
 case h_2=>cases hr
 rename_i hxv;cases hr
 have hx0:a.eval x'=.slice none 0 0:=by
  have:=nR (a:=a) hx h.env h.base.glob hxv
  generalize a.eval x'=ax at this;cases this;rfl
 rw [xH (a:=a) hop hcal];have ha:c.args.map a.eval=#[a.eval x']:=by apply Array.toList_inj.1;simp [hargs]
 have ht:c.argTypes=#[t]:=by apply Array.toList_inj.1;simp [htys]
 rw [ha,ht,hx0];refine .val h ?_ (.i _ _);refine aX ?_;simp [builtin,Builtin.cap_,run_underlying hu,goInt]
theorem abH {el sz:Nat} {x y:IX} (h:Sim P glob g s B w (Act.tm a) env) (hc:aT P o.op (.appe el sz x y)=true) (hr:aop glob call cx env s (.appe el sz x y)=.ok e env' s'):Good P glob g s B w a (execOp a.eval o) e env' s':=by
 cases hy:elems glob env y with
 | none=>exact MB (call:=call) (cx:=cx) h hc (by rw [←hr];simp only [aop,hy])
 | some ys=>
  cases ys with
  | cons y0 ys=>exact MB (call:=call) (cx:=cx) h hc (by rw [←hr];simp only [aop,hy])
  | nil=>
   simp only [aop,hy] at hr;have hc':=hc;simp only [aT] at hc
   split at hc
   case h_2=>cases hc
   rename_i c hop
   split at hc
   case h_2=>cases hc
   rename_i ts x' y' hcal hargs
   split at hc
   case h_2=>cases hc
   rename_i t t' htys;simp only [Bool.and_eq_true,beq_iff_eq] at hc;obtain ⟨⟨⟨⟨rfl,hx⟩,hyy⟩,hsl⟩,hinf⟩:=hc;obtain ⟨hu,hsz⟩:=oQ hsl;obtain ⟨i,hi,hisz⟩:=oU hsz;have hnone:∀z∈([]:List AV),z.cells.length=sz:=fun z hm=>absurd hm List.not_mem_nil;have hsrc:=qF hyy h hy hnone;obtain ⟨news,q1,q2⟩:=hsrc
   split at hr
   ·rename_i hxv;simp only [RO.ok.injEq] at hr;obtain ⟨rfl,rfl,rfl⟩:=hr
    have hx0:a.eval x'=.slice none 0 0:=by
     have:=nR (a:=a) hx h.env h.base.glob hxv
     generalize a.eval x'=ax at this;cases this;rfl
    refine ⟨.slice none 0 0,w,g,.inl ?_,.refl _ _ _ _,h,.v .ns⟩;exact jY hop hcal hargs htys (by rw [hx0];exact yY hu hi hisz (Nat.le_refl _) q1)
   ·rename_i l ver sz2 o2 m hxv;simp only [RO.ok.injEq] at hr;obtain ⟨rfl,rfl,rfl⟩:=hr;have hrep:=nR (a:=a) hx h.env h.base.glob hxv;refine ⟨a.eval x',w,g,.inl ?_,.refl _ _ _ _,h,.v hrep⟩;refine jY hop hcal hargs htys ?_;generalize a.eval x'=ax at hrep
    cases hrep with
    | skE=>exact yY hu hi hisz (Nat.le_refl _) q1
    | sk=>exact yY hu hi hisz (by assumption) q1
   ·cases hr
theorem Qn {α:Type} (L F:List α) (a o n:Nat) (h1:o+F.length≤n) (h2:a+n≤L.length):
  ((L.take (a+o)++F++L.drop (a+o+F.length)).drop a).take n=((L.drop a).take n).take o++F++((L.drop a).take n).drop (o+F.length):=by
 apply List.ext_getElem?;intro i;simp only [List.getElem?_take,List.getElem?_drop,List.getElem?_append,List.length_append,List.length_take,List.length_drop];have e1:min (a+o) L.length=a+o:=by omega
 have e2:min o (min n (L.length - a))=o:=by omega
 rw [e1,e2]
 (repeat' split)<;>first|rfl|omega | (congr 1;omega)
theorem ab5 {tm:Nat→Value} (h:Sim P glob g s B w tm env) {l o ty sz ver:Nat} {cs:List AV} (hl:s[l]?=some (.buf ty sz ver cs))
  {b off len cap:Nat} (hh:g.hist l ver=some (.slice (some ⟨b,off,none⟩) len cap)) {us:List Value} {vs:List AV} (r1:aW g s.length us vs) (r2:fD us) (hfit:o+vs.length≤cs.length):
  ∃w',(storeCells ⟨b,off+o,none⟩ us 0).run P w=.ok () w'∧Step True g s.length B w g s.length w'∧Sim P glob g (s.set l (.buf ty sz ver (splice cs o vs))) B w' tm env:=by
 have hlt:l<s.length:=(List.getElem?_eq_some_iff.1 hl).1;obtain ⟨b',off',len',cap',cur,q1,q2,q3,q4,q5,q6,q7,q8,q9,q10,q11⟩:=h.base.heap.obj l _ hl;rw [hh] at q1;cases q1;have hul:us.length=vs.length:=r1.1;have hlc:cs.length≤cap * sz:=by rw [q4];exact Nat.mul_le_mul_right sz q5
 have hbl:g.bl l b:=.inr ⟨ver,_,hh,rfl⟩;have hst:=run_storeCells_at P b (off+o) ty us 0 cur w q8 (by omega) r2;refine ⟨_,hst,⟨.refl _ _,by simp,fun c hc hcl=>aV _ (fun hcb=>hcl (by subst hcb;exact ⟨l,hlt,hbl⟩)),fun _ _ _=>rfl,fun _ _=>rfl,fun b hb=>.inl hb,rfl,rfl,fun _=>⟨rfl,Nat.le_refl _⟩⟩,⟨⟨?_, ?_,h.base.glob⟩, ?_,by simpa using h.B⟩⟩
 ·refine ⟨fun c o' v' hv'=>?_,fun c es hc=>?_⟩
  ·have hcb:c≠b:=fun hcb=>by subst hcb;rw [q3.m o'] at hv';cases hv'
   rw [World.cell?_of_block (aV _ hcb)];exact h.base.imm.m c o' v' hv'
  ·have hcb:c≠b:=fun hcb=>by subst hcb;rw [q3.mm] at hc;cases hc
   exact (h.base.imm.mm c es hc).keep (aV _ hcb)
 ·refine h.base.heap.setAt hlt (.refl _ _) (fun _ _ _=>rfl) (fun b hb=>.inl hb) (fun b hb=>by simpa using h.base.heap.lt l b hlt hb) (by simp) (fun c _ hc=>⟨aV _ (fun hcb=>hc (by subst hcb;exact hbl)),rfl,rfl⟩) ?_;have hsl:(splice cs o vs).length=cs.length:=by simp [splice];omega
  have hpart:=Qn cur.toList us off o cs.length (by omega) (by simp;omega);refine ⟨b,off,len,cap,_,hh,q2,q3,by omega,q5,q6,q7,jA q8,by simp;omega, ?_, ?_⟩
  ·rw [hsl];simp only [List.toList_toArray,Nat.add_zero];rw [hpart];exact wR q10 r1 o
  ·rw [hsl];simp only [List.toList_toArray,Nat.add_zero];rw [hpart];exact sW q11 r2 o _
 ·simp only [List.length_set];refine h.env.next (.refl _ _) (fun k e hk ho c hc=>⟨aV _ (fun hcb=>?_),rfl,rfl,fun ht=>ht⟩);exact h.env.off k e hk ho c hc (by subst hcb;exact ⟨l,hlt,hbl⟩)
theorem abD {zs:List AV} {x:IX} (h:Sim P glob g s B w (Act.tm a) env) (hc:aT P o.op (.clrk zs x)=true) (hr:aop glob call cx env s (.clrk zs x)=.ok e env' s'):Good P glob g s B w a (execOp a.eval o) e env' s':=by
 simp only [aT] at hc
 split at hc
 case h_2=>cases hc
 rename_i c hop
 split at hc
 case h_2=>cases hc
 rename_i x' t hcal hargs htys;simp only [Bool.and_eq_true] at hc;obtain ⟨hx,hz⟩:=hc
 split at hz
 case h_2=>cases hz
 rename_i el hu;obtain ⟨i,z,hi,hzz,hok⟩:=ug hz;obtain ⟨z1,z2⟩:=rX hok g s.length;have ha:c.args.map a.eval=#[a.eval x']:=by apply Array.toList_inj.1;simp [hargs]
 have ht:c.argTypes=#[t]:=by apply Array.toList_inj.1;simp [htys]
 have hex:=xH (a:=a) hop hcal;rw [ha,ht] at hex;simp only [aop] at hr
 split at hr
 case h_2=>cases hr
 rename_i l ver sz o' m hxv;have hrep:=aJ (a:=a) hx h.env h.base.glob hxv;have htu:Rep g s.length (.tuple #[]) (.tu []):=.tu #[] [] rfl (fun i hi=>by simp at hi)
 split at hr
 ·cases hr;refine .val h ?_ htu;rw [hex];refine aX ?_;generalize a.eval x'=ax at hrep
  cases hrep with
  | sk _ _ _ _ _ b off len cap c hl hh ho hc hcc=>simp [builtin,Builtin.clear_,run_underlying hu]
  | skE _ _ _ _ ad hl=>simp [builtin,Builtin.clear_,run_underlying hu]
 ·rename_i n ty sz' ver' cs hl
  split at hr
  case isFalse=>cases hr
  rename_i hcond;obtain ⟨rfl,rfl,hpos,hzl,hfit,_,_⟩:=hcond;cases hr;have hzsz:z.cells.size=sz:=by have:=z1.1;simp at this;omega
  have hflat:(Builtin.zeroCells z.cells (n+1)).toList=(List.replicate (n+1) z.cells.toList).flatten:=by
   have:=J9 hzsz hpos (n+1)
   rw [←this];simp [Builtin.zeroCells,madeCells,hzsz]
  generalize hax:a.eval x'=ax at hrep
  cases hrep with
  | sk _ _ _ _ _ b off len cap c hl2 hh ho hc hcc=>
   obtain ⟨w',q1,q2,q3⟩:=ab5 (us:=(List.replicate (n+1) z.cells.toList).flatten) h hl hh (Au z1 (n+1)) (by
    intro v hv;simp only [List.mem_flatten,List.mem_replicate] at hv;obtain ⟨l',⟨_,rfl⟩,hv⟩:=hv
    exact z2 v hv) (by simp only [List.length_flatten,List.map_replicate,List.sum_replicate_nat,hzl];omega)
   refine ⟨.tuple #[],w',g,.inl ?_,by simpa using q2,q3,.v (by simpa using htu)⟩;rw [hex];refine aX ?_;rw [hax];simp [builtin,Builtin.clear_,run_underlying hu,zeroValue,typeInfo,hi,hzz,hflat,q1]
 ·cases hr
end Go.Ai
namespace Go.Ai
variable {P:Program} {glob:Nat→Option (List AV)} {g:ai} {s:St} {B:Nat} {w:World} {env:Env} {a:Act} {call:AV→List AV→St→Ctx→CO} {cx:Ctx} {o:Oper} {e:EV} {env':Env} {s':St}
theorem abv (h:Sim P glob g s B w (Act.tm a) env) (hc:aT P o.op .hmap=true) (hr:aop glob call cx env s .hmap=.ok e env' s'):Good P glob g s B w a (execOp a.eval o) e env' s':=by
 simp only [aT] at hc
 split at hc
 case h_2=>cases hc
 rename_i t hop;simp only [aop] at hr;cases hr;have hg:=Grew.alloc (qt:=True) w (.map #[] 0);have hle:g.le s.length (g.place s.length w.heap.size) (s.length+1):=⟨fun _ _ _ h=>h,fun _ _ h=>h,fun l hl=>by simp [ai.place];omega,fun l hl k v hk=>by simp [ai.place];rw [if_neg (by omega)];exact hk,by omega⟩;have hLn:(g.place s.length w.heap.size).L s.length=w.heap.size:=by simp [ai.place]
 have hfr:=h.base.imm.fresh (Nat.le_refl w.heap.size);have hnc:nM (g.place s.length w.heap.size) ((g.place s.length w.heap.size).L s.length):=by rw [hLn];exact ⟨hfr.m,hfr.mm⟩
 have hp:=h.push (ob:=fZ.map []) hg hle (fun l hl=>by simp [ai.place];omega) (fun _ _=>⟨rfl,rfl⟩) (fun b hb=>by
   rcases hb with hb|⟨k,v,hk,_⟩
   ·rw [hLn] at hb;subst hb;simp
   ·simp [ai.place] at hk) ⟨(h.base.imm.grew hg).m,(h.base.imm.grew hg).mm⟩ ⟨hnc,#[],0,by rw [hLn];exact heap_alloc_new w _,.nil _ _,.nil _ _,.nil⟩
 refine ⟨.map (some w.heap.size),_,_,.inl ?_,hp.1,hp.2,.v ?_⟩
 ·simp only [execOp,hop];exact aX (by simp [Instr.makeMap,Sem.run_bind])
 ·have:=Rep.mp (g:=g.place s.length w.heap.size) (n:=(s++[fZ.map []]).length) s.length (by simp)
  rwa [hLn] at this
theorem Qm {kk:Nat} {k v:AV} {N:Nat} {u x:Value} (hu:Rep g N u k) (hx:Rep g N x v) {F:Nat→List MapEntry→Option (Nat×Value)→Prop} {E:Value→Bool→Prop}
  (hE:∀y k' r,Rep g N y k'→jD kk k k'=some r→E y r) (h0:∀i,F i [] none) (ht:∀i e es,E e.key true→F i (e::es) (some (i,e.val))) (hf:∀i e es r,E e.key false→F (i+1) es r→F i (e::es) r):
  ∀(es:List (AV×AV)) (ents:List MapEntry) (i:Nat) {es':List (AV×AV)},CV kk k v es=some es'→
  aW g N (ents.map (·.key)) (es.map (·.1))→aW g N (ents.map (·.val)) (es.map (·.2))→
  (F i ents none∧es'=es++[(k,v)])∨(∃j z,j<ents.length∧F i ents (some (i+j,z))∧(∃y k',(ents[j]?).map (·.key)=some y∧Rep g N y k'∧jD kk k k'=some true)∧
   aW g N ((ents.modify j fun e=>{ e with key:=u,val:=x }).map (·.key)) (es'.map (·.1))∧aW g N ((ents.modify j fun e=>{ e with key:=u,val:=x }).map (·.val)) (es'.map (·.2))):=by
 intro es
 induction es with
 | nil=>
  intro ents i es' h hk hv
  cases ents with
  | nil=>simp [CV] at h;subst h;exact .inl ⟨h0 i,rfl⟩
  | cons e es=>exact absurd hk.1 (by simp)
 | cons p es ih=>
  intro ents i es' h hk hv;obtain ⟨k',v'⟩:=p
  cases ents with
  | nil=>exact absurd hk.1 (by simp)
  | cons e ents=>
   simp only [List.map_cons] at hk hv;simp only [CV] at h
   split at h
   ·rename_i hq;cases h;have hs:=hE _ _ _ hk.head hq;refine .inr ⟨0,e.val,by simp,by simpa using ht i e ents hs,⟨e.key,k',by simp,hk.head,hq⟩, ?_, ?_⟩
    ·simpa using aW.cons hu hk.tail
    ·simpa using aW.cons hx hv.tail
   ·rename_i hq;have hs:=hE _ _ _ hk.head hq
    cases hm:CV kk k v es with
    | none=>rw [hm] at h;cases h
    | some r'=>
     rw [hm] at h;simp at h;subst h;rcases ih ents (i+1) hm hk.tail hv.tail with ⟨h1,h2⟩|⟨j,z,hj,h1,h2,h3,h4⟩
     ·exact .inl ⟨hf i e ents _ hs h1,by rw [h2];rfl⟩
     ·refine .inr ⟨j+1,z,by simpa using hj, ?_,by simpa using h2, ?_, ?_⟩
      ·have:=hf i e ents _ hs h1
       rwa [show i+1+j=i+(j+1) by omega] at this
      ·simpa using aW.cons hk.head h3
      ·simpa using aW.cons hv.head h4
   ·cases h
theorem SA {kk:Nat} {kt:TypeId} (hk:Kw P kk kt=true) {k v:AV} {N:Nat} {u x:Value} (hu:Rep g N u k) (hx:Rep g N x v) {es es':List (AV×AV)} {ents:List MapEntry} (h:CV kk k v es=some es')
  (h1:aW g N (ents.map (·.key)) (es.map (·.1))) (h2:aW g N (ents.map (·.val)) (es.map (·.2))):
  ((Instr.findKey kt u ents).run P w=.ok none w∧es'=es++[(k,v)])∨(∃j z,j<ents.length∧(Instr.findKey kt u ents).run P w=.ok (some (j,z)) w∧(∃y k',(ents[j]?).map (·.key)=some y∧Rep g N y k'∧jD kk k k'=some true)∧
    aW g N ((ents.modify j fun e=>{ e with key:=u,val:=x }).map (·.key)) (es'.map (·.1))∧aW g N ((ents.modify j fun e=>{ e with key:=u,val:=x }).map (·.val)) (es'.map (·.2))):=by
 rcases y9 hk with ⟨d,hd,hkd⟩|⟨n,fs,rfl,hut,hn,hf,hp⟩
 ·rcases Qm (F:=fun i es r=>Instr.findNow d u es i=some r) (E:=fun y r=>Instr.sameNow d u y=some r) hu hx (fun y k' r hy hq=>Bv hkd hq hu hy) (fun i=>rfl)
   (fun i e es he=>by simp [Instr.findNow,he]) (fun i e es r he hr=>by simp [Instr.findNow,he,hr]) es ents 0 h h1 h2 with ⟨a1,a2⟩|⟨j,z,a1,a2,a3⟩
  ·exact .inl ⟨by simp [Instr.findKey,run_underlying hd,a1],a2⟩
  ·exact .inr ⟨j,z,a1,by simp [Instr.findKey,run_underlying hd,a2],a3⟩
 ·rw [zk hut]
  rcases Qm (F:=fun i es r=>(Instr.findAsking kt u es i).run P w=.ok r w) (E:=fun y r=>(Op.equal kt u y).run P w=.ok r w) hu hx (fun y k' r hy hq=>zQ hut hn hf hp hq hu hy) (fun i=>rfl)
   (fun i e es he=>by simp [Instr.findAsking,Sem.run_bind,he]) (fun i e es r he hr=>by simp [Instr.findAsking,Sem.run_bind,he,hr]) es ents 0 h h1 h2 with ⟨a1,a2⟩|⟨j,z,a1,a2,a3⟩
  ·exact .inl ⟨a1,a2⟩
  ·exact .inr ⟨j,z,a1,by simpa using a2,a3⟩
theorem NC {ents:Array MapEntry} {j:Nat} {f:MapEntry→MapEntry}:(ents.modify j f).toList=ents.toList.modify j f:=by simp
theorem bytes_beq (p q:Rl):((⟨p.toArray⟩:ByteArray) == ⟨q.toArray⟩)=(p == q):=by
 rw [Bool.eq_iff_iff]
 change (p.toArray == q.toArray)=true ↔ (p == q)=true
 simp
theorem X5 (n:Nat) (p:ByteArray):Instr.sameBits n (.string p) (.string p)=true:=by
 obtain ⟨⟨p⟩⟩:=p
 cases n<;>simp [Instr.sameBits,bytes_beq p p]
theorem TG {N n:Nat}:∀(xs ys:List AV) (us vs:List Value),nV xs ys=some true→aW g N us xs→aW g N vs ys→(vs.zip us).all (fun (x,y)=>Instr.sameBits n x y)=true
 | [],[],us,vs,_,h1,h2=>by
  have:us=[]:=List.eq_nil_of_length_eq_zero h1.1
  subst this;simp
 | [],_::_,_,_,h,_,_=>by simp [nV] at h
 | x::xs,[],_,_,h,_,_=>by cases x<;>simp [nV] at h
 | x::xs,y::ys,us,vs,h,h1,h2=>by
  cases x<;>(try (simp [nV] at h;done))
  cases y<;>(try (simp [nV] at h;done))
  rename_i p q;simp only [nV] at h
  cases e1:nV xs ys with
  | none=>rw [e1] at h;cases h
  | some r'=>
  rw [e1] at h;simp only [Option.some.injEq,Bool.and_eq_true,beq_iff_eq] at h;obtain ⟨e2,rfl⟩:=h;subst e2
  cases us with
  | nil=>exact absurd h1.1 (by simp)
  | cons u us=>
   cases vs with
   | nil=>exact absurd h2.1 (by simp)
   | cons v vs=>
    rw [rD h1.head,rD h2.head];simp only [List.zip_cons_cons,List.all_cons,Bool.and_eq_true];refine ⟨X5 _ _, ?_⟩;exact TG xs ys us vs e1 h1.tail h2.tail
theorem Wj {kk:Nat} {k k':AV} {N:Nat} {u y:Value} (hu:Rep g N u k) (hy:Rep g N y k') (h:jD kk k k'=some true):Instr.sameBits 10000 y u=true:=by
 unfold jD at h
 split at h
 ·split at h
  ·rename_i hk;subst hk;rw [uM hu,uM hy];simp at h;simp [Instr.sameBits,h]
  ·cases h
 ·rw [rD hu,rD hy];simp at h;subst h;exact X5 _ _
 ·rw [vJ hu,vJ hy];simp at h;simp [Instr.sameBits,h]
 ·split at h
  ·cases hu with
   | ag us _ hl1 _ hr1=>
    cases hy with
    | ag vs _ hl2 _ hr2=>
     have hll:=Py _ _ h;have q1:aW g N us.toList _:=⟨by simpa using hl1,fun i hi hi'=>by rw [Array.getElem_toList];exact hr1 i (by simpa using hi) hi'⟩;have q2:aW g N vs.toList _:=⟨by simpa using hl2,fun i hi hi'=>by rw [Array.getElem_toList];exact hr2 i (by simpa using hi) hi'⟩
     have:=TG (n:=9999) _ _ _ _ h q1 q2
     rw [show (10000:Nat)=9999+1 from rfl];simp only [Instr.sameBits,Bool.and_eq_true,beq_iff_eq];exact ⟨by omega,this⟩
  ·cases h
 ·cases h
theorem abw {kk:Nat} {m k v:IX} (h:Sim P glob g s B w (Act.tm a) env) (hc:aT P o.op (.hins kk m k v)=true) (hr:aop glob call cx env s (.hins kk m k v)=.ok e env' s'):Good P glob g s B w a (execOp a.eval o) e env' s':=by
 simp only [aT] at hc
 have hc':∃t m' k' v',(o.op=.insert t m' k' v'∨o.op=.mapUpdate t m' k' v')∧eF m' m=true∧eF k' k=true∧eF v' v=true∧MQ P kk t=true:=by
  split at hc
  ·rename_i t m' k' v' hop;simp only [Bool.and_eq_true] at hc;exact ⟨t,m',k',v',.inl hop,hc.1.1.1,hc.1.1.2,hc.1.2,hc.2⟩
  ·rename_i t m' k' v' hop;simp only [Bool.and_eq_true] at hc;exact ⟨t,m',k',v',.inr hop,hc.1.1.1,hc.1.1.2,hc.1.2,hc.2⟩
  ·cases hc
 obtain ⟨t,m',k',v',hop,hm,hk,hv,hkey⟩:=hc';obtain ⟨kt,et,hu,hkt⟩:=FY hkey
 have hgo:(execOp a.eval o)=(do Instr.mapUpdate t (a.eval m') (a.eval k') (a.eval v');pure Next.skip):=by
  rcases hop with hop|hop<;>simp only [execOp,hop]
 simp only [aop] at hr
 split at hr
 case h_2=>cases hr
 rename_i l key val env1 hml hkl hvl
 split at hr
 case h_2=>cases hr
 rename_i es hsl
 split at hr
 case h_2=>cases hr
 rename_i es' hput
 split at hr
 case isFalse=>cases hr
 rename_i hcond;cases hr;obtain ⟨g1,st1,m1,rv⟩:=Jr hv h hvl;have rm:Rep g1 s.length (a.eval m') (.mp l):=(aJ (a:=a) hm h.env h.base.glob hml).mono st1.le;have rk:Rep g1 s.length (a.eval k') key:=(aJ (a:=a) hk h.env h.base.glob hkl).mono st1.le;have hll:l<s.length:=(List.getElem?_eq_some_iff.1 hsl).1;obtain ⟨hnc,ents,clock,q1,q2,q3,hbn⟩:=m1.base.heap.obj l _ hsl;have hmv:a.eval m'=.map (some (g1.L l)):=by generalize a.eval m'=q at rm;cases rm;rfl
 have hlt:g1.L l<w.heap.size:=(Array.getElem?_eq_some_iff.1 q1).1
 have main:∃ob:Obj,(Instr.mapUpdate t (a.eval m') (a.eval k') (a.eval v')).run P w=.ok () { w with heap:=w.heap.setIfInBounds (g1.L l) ob }∧
   ∃ents' clock',ob=.map ents' clock'∧aW g1 s.length (ents'.toList.map (·.key)) (es'.map (·.1))∧aW g1 s.length (ents'.toList.map (·.val)) (es'.map (·.2))∧Born ents' clock':=by
  have hk3:3≤kk→uf kk key=true:=fun _=>hcond.2.1;rcases SA (w:=w) hkt rk rv hput q2 q3 with ⟨h1,rfl⟩|⟨j,z,hj,h1,⟨y,k2,hy,ry,hsame⟩,h3,h4⟩
  ·refine ⟨.map (ents.push { key:=a.eval k',val:=a.eval v',born:=clock }) (clock+1), ?_,_,_,rfl, ?_, ?_,hbn.push _ _⟩
   ·rw [hmv];simp [Instr.mapUpdate,Sem.run_bind,run_underlying hu,getObj,Sem.run,q1,lZ hkt rk hk3,h1,setObj]
   ·simp only [Array.toList_push,List.map_append,List.map_cons,List.map_nil];exact q2.append (.cons rk (.nil _ _))
   ·simp only [Array.toList_push,List.map_append,List.map_cons,List.map_nil];exact q3.append (.cons rv (.nil _ _))
  ·have hbits:=Wj rk ry hsame;have hj':j<ents.size:=by simpa using hj
   have hy':ents[j].key=y:=by simpa [hj'] using hy
   refine ⟨.map (ents.modify j fun e=>{ e with key:=a.eval k',val:=a.eval v' }) clock, ?_,_,_,rfl,by rw [NC];exact h3,by rw [NC];exact h4,hbn.modify _ _ _⟩;rw [hmv];simp [Instr.mapUpdate,Sem.run_bind,run_underlying hu,getObj,Sem.run,q1,lZ hkt rk hk3,h1,setObj,Instr.keyThatStays,hj',hy',hbits]
 obtain ⟨ob,hrun,ents',clock',rfl,r1,r2,r3⟩:=main
 let w':World:={ w with heap:=w.heap.setIfInBounds (g1.L l) (.map ents' clock') }
 have hne:∀b,b≠g1.L l→w'.heap[b]?=w.heap[b]?:=fun b hb=>dM hb
 have hbase:Base P glob g1 (s.set l (.map es')) w':=by
  refine ⟨⟨fun c o' v1 hv1=>?_,fun c es1 hc1=>?_⟩,m1.base.heap.setAt hll (.refl _ _) (fun _ _ _=>rfl) (fun b hb=>.inl hb) (fun b hb=>by simpa [w'] using m1.base.heap.lt l b hll hb) (by simp [w']) (fun b _ hb=>⟨hne b (fun hbe=>hb (.inl hbe.symm)),rfl,rfl⟩) ⟨hnc,ents',clock',yE hlt,r1,r2,r3⟩,m1.base.glob⟩
  ·have hcb:c≠g1.L l:=fun hcb=>by subst hcb;rw [hnc.m o'] at hv1;cases hv1
   rw [World.cell?_of_block (hne c hcb)];exact m1.base.imm.m c o' v1 hv1
  ·have hcb:c≠g1.L l:=fun hcb=>by subst hcb;rw [hnc.mm] at hc1;cases hc1
   exact (m1.base.imm.mm c es1 hc1).keep (hne c hcb)
 rw [hgo];refine ⟨undef,w',g1,.inr ⟨V9 hrun,rfl⟩,st1.trans ?_,⟨hbase, ?_,by simp [w'];exact m1.B⟩,.v (.tu #[] [] rfl (fun i hi=>by simp at hi))⟩
 ·rw [List.length_set];refine ⟨.refl _ _,by simp [w'],fun b hb hbt=>hne b (fun hbe=>hbt (by rw [hbe];exact .L hll)),fun _ _ _=>rfl,fun _ _=>rfl,fun b hb=>.inl hb,rfl,rfl,fun _=>⟨rfl,Nat.le_refl _⟩⟩
 ·rw [List.length_set];exact m1.env.next (.refl _ _) (fun k2 e2 hk2 ho2 b hb=>⟨hne b (fun hbe=>m1.env.off k2 e2 hk2 ho2 b hb (by rw [hbe];exact .L hll)),rfl,rfl,fun ht=>ht⟩)
theorem Qr {kk:Nat} {k:AV} {N:Nat} {F:Nat→List MapEntry→Option (Nat×Value)→Prop} {E:Value→Bool→Prop}
  (hE:∀y k' r,Rep g N y k'→jD kk k k'=some r→E y r) (h0:∀i,F i [] none) (ht:∀i e es,E e.key true→F i (e::es) (some (i,e.val))) (hf:∀i e es r,E e.key false→F (i+1) es r→F i (e::es) r):
  ∀(es:List (AV×AV)) (ents:List MapEntry) (i:Nat) {es':List (AV×AV)},I5 kk k es=some es'→
  aW g N (ents.map (·.key)) (es.map (·.1))→aW g N (ents.map (·.val)) (es.map (·.2))→
  (F i ents none∧es'=es)∨(∃j z,F i ents (some (i+j,z))∧
   aW g N ((ents.eraseIdx j).map (·.key)) (es'.map (·.1))∧aW g N ((ents.eraseIdx j).map (·.val)) (es'.map (·.2))):=by
 intro es
 induction es with
 | nil=>
  intro ents i es' h hk hv
  cases ents with
  | nil=>simp [I5] at h;subst h;exact .inl ⟨h0 i,rfl⟩
  | cons e es=>exact absurd hk.1 (by simp)
 | cons p es ih=>
  intro ents i es' h hk hv;obtain ⟨k',v'⟩:=p
  cases ents with
  | nil=>exact absurd hk.1 (by simp)
  | cons e ents=>
   simp only [List.map_cons] at hk hv;simp only [I5] at h
   split at h
   ·rename_i hq;cases h;have hs:=hE _ _ _ hk.head hq;exact .inr ⟨0,e.val,by simpa using ht i e ents hs,by simpa using hk.tail,by simpa using hv.tail⟩
   ·rename_i hq;have hs:=hE _ _ _ hk.head hq
    cases hm:I5 kk k es with
    | none=>rw [hm] at h;cases h
    | some r'=>
     rw [hm] at h;simp at h;subst h;rcases ih ents (i+1) hm hk.tail hv.tail with ⟨h1,h2⟩|⟨j,z,h1,h3,h4⟩
     ·exact .inl ⟨hf i e ents _ hs h1,by rw [h2]⟩
     ·refine .inr ⟨j+1,z, ?_, ?_, ?_⟩
      ·have:=hf i e ents _ hs h1
       rwa [show i+1+j=i+(j+1) by omega] at this
      ·simpa using aW.cons hk.head h3
      ·simpa using aW.cons hv.head h4
   ·cases h
theorem SC {kk:Nat} {kt:TypeId} (hk:Kw P kk kt=true) {k:AV} {N:Nat} {u:Value} (hu:Rep g N u k) {es es':List (AV×AV)} {ents:List MapEntry} (h:I5 kk k es=some es')
  (h1:aW g N (ents.map (·.key)) (es.map (·.1))) (h2:aW g N (ents.map (·.val)) (es.map (·.2))):
  ((Instr.findKey kt u ents).run P w=.ok none w∧es'=es)∨(∃j z,(Instr.findKey kt u ents).run P w=.ok (some (j,z)) w∧
    aW g N ((ents.eraseIdx j).map (·.key)) (es'.map (·.1))∧aW g N ((ents.eraseIdx j).map (·.val)) (es'.map (·.2))):=by
 rcases y9 hk with ⟨d,hd,hkd⟩|⟨n,fs,rfl,hut,hn,hf,hp⟩
 ·rcases Qr (F:=fun i es r=>Instr.findNow d u es i=some r) (E:=fun y r=>Instr.sameNow d u y=some r) (fun y k' r hy hq=>Bv hkd hq hu hy) (fun i=>rfl)
   (fun i e es he=>by simp [Instr.findNow,he]) (fun i e es r he hr=>by simp [Instr.findNow,he,hr]) es ents 0 h h1 h2 with ⟨a1,a2⟩|⟨j,z,a2,a3⟩
  ·exact .inl ⟨by simp [Instr.findKey,run_underlying hd,a1],a2⟩
  ·exact .inr ⟨j,z,by simp [Instr.findKey,run_underlying hd,a2],a3⟩
 ·rw [zk hut]
  rcases Qr (F:=fun i es r=>(Instr.findAsking kt u es i).run P w=.ok r w) (E:=fun y r=>(Op.equal kt u y).run P w=.ok r w) (fun y k' r hy hq=>zQ hut hn hf hp hq hu hy) (fun i=>rfl)
   (fun i e es he=>by simp [Instr.findAsking,Sem.run_bind,he]) (fun i e es r he hr=>by simp [Instr.findAsking,Sem.run_bind,he,hr]) es ents 0 h h1 h2 with ⟨a1,a2⟩|⟨j,z,a2,a3⟩
  ·exact .inl ⟨a1,a2⟩
  ·exact .inr ⟨j,z,by simpa using a2,a3⟩
theorem abx {kk:Nat} {m k:IX} (h:Sim P glob g s B w (Act.tm a) env) (hc:aT P o.op (.hdel kk m k)=true) (hr:aop glob call cx env s (.hdel kk m k)=.ok e env' s'):Good P glob g s B w a (execOp a.eval o) e env' s':=by
 simp only [aT] at hc
 split at hc
 case h_2=>cases hc
 rename_i c hop
 split at hc
 case h_2=>cases hc
 rename_i m' k' t t' hcal hargs htys;simp only [Bool.and_eq_true] at hc;obtain ⟨⟨hm,hk⟩,hkey⟩:=hc;obtain ⟨kt,et,hu,hkt⟩:=FY hkey;simp only [aop] at hr
 split at hr
 case h_2=>cases hr
 rename_i l key hml hkl
 split at hr
 case h_2=>cases hr
 rename_i es hsl
 split at hr
 case h_2=>cases hr
 rename_i es' hput
 split at hr
 case isFalse=>cases hr
 rename_i hcond;cases hr;have rm:Rep g s.length (a.eval m') (.mp l):=aJ (a:=a) hm h.env h.base.glob hml;have rk:Rep g s.length (a.eval k') key:=aJ (a:=a) hk h.env h.base.glob hkl;have hll:l<s.length:=(List.getElem?_eq_some_iff.1 hsl).1;obtain ⟨hnc,ents,clock,q1,q2,q3,hbn⟩:=h.base.heap.obj l _ hsl;have hmv:a.eval m'=.map (some (g.L l)):=by generalize a.eval m'=q at rm;cases rm;rfl
 have hlt:g.L l<w.heap.size:=(Array.getElem?_eq_some_iff.1 q1).1
 have hgo:execOp a.eval o=(do pure (Next.value (←Builtin.delete_ c.argTypes o.type (c.args.map a.eval)))):=xH (a:=a) hop hcal
 have ha:c.args.map a.eval=#[a.eval m',a.eval k']:=by apply Array.toList_inj.1;simp [hargs]
 have hat:c.argTypes=#[t,t']:=by apply Array.toList_inj.1;simp [htys]
 have main:∃ob:Obj,(Builtin.delete_ c.argTypes o.type (c.args.map a.eval)).run P w=.ok (.tuple #[]) { w with heap:=w.heap.setIfInBounds (g.L l) ob }∧
   ∃ents' clock',ob=.map ents' clock'∧aW g s.length (ents'.toList.map (·.key)) (es'.map (·.1))∧aW g s.length (ents'.toList.map (·.val)) (es'.map (·.2))∧Born ents' clock':=by
  have hk3:3≤kk→uf kk key=true:=fun _=>hcond.1;rw [ha,hat,hmv];rcases SC (w:=w) hkt rk hput q2 q3 with ⟨h1,rfl⟩|⟨j,z,h1,h3,h4⟩
  ·exact ⟨.map ents clock,by simp [Builtin.delete_,Sem.run_bind,run_underlying hu,getObj,Sem.run,q1,lZ hkt rk hk3,h1,setObj],_,_,rfl,q2,q3,hbn⟩
  ·exact ⟨.map (ents.eraseIdxIfInBounds j) clock,by simp [Builtin.delete_,Sem.run_bind,run_underlying hu,getObj,Sem.run,q1,lZ hkt rk hk3,h1,setObj],_,_,rfl,by simpa using h3,by simpa using h4,hbn.erase j⟩
 obtain ⟨ob,hrun,ents',clock',rfl,r1,r2,r3⟩:=main
 let w':World:={ w with heap:=w.heap.setIfInBounds (g.L l) (.map ents' clock') }
 have hne:∀b,b≠g.L l→w'.heap[b]?=w.heap[b]?:=fun b hb=>dM hb
 have hbase:Base P glob g (s.set l (.map es')) w':=by
  refine ⟨⟨fun c o' v1 hv1=>?_,fun c es1 hc1=>?_⟩,h.base.heap.setAt hll (.refl _ _) (fun _ _ _=>rfl) (fun b hb=>.inl hb) (fun b hb=>by simpa [w'] using h.base.heap.lt l b hll hb) (by simp [w']) (fun b _ hb=>⟨hne b (fun hbe=>hb (.inl hbe.symm)),rfl,rfl⟩) ⟨hnc,ents',clock',yE hlt,r1,r2,r3⟩,h.base.glob⟩
  ·have hcb:c≠g.L l:=fun hcb=>by subst hcb;rw [hnc.m o'] at hv1;cases hv1
   rw [World.cell?_of_block (hne c hcb)];exact h.base.imm.m c o' v1 hv1
  ·have hcb:c≠g.L l:=fun hcb=>by subst hcb;rw [hnc.mm] at hc1;cases hc1
   exact (h.base.imm.mm c es1 hc1).keep (hne c hcb)
 rw [hgo];refine ⟨.tuple #[],w',g,.inl (aX hrun), ?_,⟨hbase, ?_,by simp [w'];exact h.B⟩,.v (.tu #[] [] rfl (fun i hi=>by simp at hi))⟩
 ·rw [List.length_set];refine ⟨.refl _ _,by simp [w'],fun b hb hbt=>hne b (fun hbe=>hbt (by rw [hbe];exact .L hll)),fun _ _ _=>rfl,fun _ _=>rfl,fun b hb=>.inl hb,rfl,rfl,fun _=>⟨rfl,Nat.le_refl _⟩⟩
 ·rw [List.length_set];exact h.env.next (.refl _ _) (fun k2 e2 hk2 ho2 b hb=>⟨hne b (fun hbe=>h.env.off k2 e2 hk2 ho2 b hb (by rw [hbe];exact .L hll)),rfl,rfl,fun ht=>ht⟩)
end Go.Ai
namespace Go.Ai
variable {P:Program} {glob:Nat→Option (List AV)} {g:ai} {s:St} {B:Nat} {w:World} {env:Env} {a:Act} {call:AV→List AV→St→Ctx→CO} {cx:Ctx} {o:Oper} {e:EV} {env':Env} {s':St}
theorem Xn {n:Nat} {x y:IX} (h:Sim P glob g s B w (Act.tm a) env) (hc:aT P o.op (.storep n x y)=true) (hr:aop glob call cx env s (.storep n x y)=.ok e env' s'):Good P glob g s B w a (execOp a.eval o) e env' s':=by
 have hc':aT P o.op (.store n x y)=true:=by simpa only [aT] using hc
 refine Ja (cx:=cx) (call:=call) h hc' ?_;simp only [aop] at hr ⊢
 split at hr
 ·rename_i av xv ha hx;have he:KR glob env y=some (xv,env):=by unfold KR;rw [hx]
  rw [he];simp only []
  split at hr
  ·rename_i env1 s1 hst;cases hr
   have:env1=env:=by
    unfold tq at hst;rw [ha] at hst
    split at hst
    ·cases av<;>simp only [] at hst<;>(try (cases hst;done))<;>(split at hst<;>(try (cases hst;done))<;>(split at hst<;>cases hst<;>rfl))
    ·cases hst
   subst this;simp [hst]
  ·cases hr
 ·cases hr
end Go.Ai
namespace Go.Ai
variable {P:Program} {glob:Nat→Option (List AV)} {g:ai} {s:St} {B:Nat} {w:World} {env:Env} {a:Act} {o:Oper} {call:AV→List AV→St→Ctx→CO} {cx:Ctx} {e:EV} {env':Env} {s':St}
inductive KV:Nat→AV→AV→Bool→Prop
 | i (k:IntKind) (p q:Int):KV 0 (.i k p) (.i k q) (p == q)
 | s (p q:Rl):KV 1 (.s p) (.s q) (p == q)
 | b (p q:Bool):KV 2 (.b p) (.b q) (p == q)
end Go.Ai
