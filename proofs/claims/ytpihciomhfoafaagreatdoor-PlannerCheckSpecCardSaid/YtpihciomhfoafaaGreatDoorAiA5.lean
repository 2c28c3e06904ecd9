/-
 append, as an operation; maps that are laid; bytes to strings.
-/
import Derived.Test.YtpihciomhfoafaaGreatDoorAiA4
set_option maxRecDepth 100000
set_option linter.unusedSimpArgs false
set_option linter.unusedVariables false
set_option linter.unusedSectionVars false
namespace Go.Ai
variable {P:Program} {glob:Nat→Option (List AV)} {g:af} {s:St} {B:Nat} {w:World} {env:Env} {a:Act} {o:Oper} {call:AV→List AV→St→Ctx→CO} {cx:Ctx} {e:EV} {env':Env} {s':St}
theorem NC (sz:Nat):Src P w sz (.slice none 0 0) 0 []:=
 ⟨fun _=>by simp [Builtin.lenOf],fun _ _=>by simp [Builtin.firstCells],by simp,fun v hv=>by simp at hv⟩
theorem UO (sz:Nat) (ad:Addr):Src P w sz (.slice (some ad) 0 0) 0 []:=
 ⟨fun _=>by simp [Builtin.lenOf],fun w' _=>by simpa [Builtin.firstCells] using run_loadCells_list (P:=P) w' ad [] (fun j v hv=>by simp at hv),by simp,fun v hv=>by simp at hv⟩
theorem YS (sz:Nat) (ad:Addr) (c:Nat):Src P w sz (.slice (some ad) 0 c) 0 []:=
 ⟨fun _=>by simp [Builtin.lenOf],fun w' _=>by simpa [Builtin.firstCells] using run_loadCells_list (P:=P) w' ad [] (fun j v hv=>by simp at hv),by simp,fun v hv=>by simp at hv⟩
theorem Hu {sz b off n cap:Nat} {xs:List Value} (hl:xs.length=n * sz) (hc:jF w b off xs) (h1:bH xs):Src P w sz (.slice (some ⟨b,off,none⟩) n cap) n xs:=
 ⟨fun _=>by simp [Builtin.lenOf],fun w' hw'=>rM hl (fun j hj=>by
  have:=hc j hj
  rw [←this];simp [World.cell?,hw']),hl,h1⟩
theorem ku {sz:Nat} {x:Operand} {ix:IX} (hc:aS x ix=true) (h:Sim P glob g s B w (Act.tm a) env) {ys:List AV} (he:elems glob env ix=some ys) (hsz:∀y∈ys,y.cells.length=sz):
  ∃news,Src P w sz (a.eval x) ys.length news∧aB g s.length news (ys.flatMap AV.cells):=by
 have hown:∀k tip t sz' es,lk env k=some (.own tip t sz' es)→(∀y∈es,y.cells.length=sz)→∃news,Src P w sz (Act.tm a k) es.length news∧aB g s.length news (es.flatMap AV.cells):=by
  intro k tip t sz' es hk hsz
  obtain ⟨xs,q1,q2,q3,q4,q5,_⟩:=h.env.rel k _ hk
  rcases q1.2 with ⟨hv,hn⟩|⟨gb,cap,cur,hv,_,hg,_,_,_,htake⟩
  ·have:es=[]:=List.eq_nil_of_length_eq_zero hn
   subst this
   rw [hv];exact ⟨[],NC sz,.nil _ _⟩
  ·by_cases hes:es=[]
   ·subst hes
    have:xs=[]:=List.eq_nil_of_length_eq_zero (by rw [q1.1];simp)
    subst this
    rw [hv];exact ⟨[],Hu (by simp) (fun j hj=>by simp at hj) q3,.nil _ _⟩
   ·have hszz:sz'=sz:=by
     obtain ⟨y,hy⟩:=List.exists_mem_of_ne_nil es hes
     rw [←q4 y hy];exact hsz y hy
    subst hszz
    rw [hv]
    exact ⟨xs,Hu q1.1 (by rw [←htake];obtain ⟨fz,hg,_⟩:=hg;exact (jA hg).take _) q3,q2⟩
 unfold elems at he
 split at he
 ·rename_i es' hv
  cases he
  have hr:=ai (a:=a) hc h.env h.base.glob (v:=.sl ys) (by simp [rd,hv])
  generalize a.eval x=ax at hr
  cases hr with
  | slNil=>exact ⟨[],NC sz,.nil _ _⟩
  | slE ad=>exact ⟨[],UO sz ad,.nil _ _⟩
  | sl bk off cap sz' _ c hcap hsz' hm hrr=>
   by_cases hys:ys=[]
   ·subst hys
    exact ⟨[],Hu (by simp) (fun j hj=>by simp at hj) (fun v hv=>by simp at hv),.nil _ _⟩
   ·have hszz:sz'=sz:=by
     have h0:0<ys.length:=List.length_pos_iff.2 hys
     rw [←hsz' 0 h0];exact hsz _ (List.getElem_mem h0)
    subst hszz
    have dm:∀p,p<ys.length * sz'→p / sz'<ys.length∧p % sz'<sz':=by
     intro p hp
     have hpos:0<sz':=by
      rcases Nat.eq_zero_or_pos sz' with h0|h0
      ·rw [h0] at hp;simp at hp
      ·exact h0
     exact ⟨Nat.div_lt_of_lt_mul (by rw [Nat.mul_comm];exact hp),Nat.mod_lt _ hpos⟩
    have dm2:∀p,p / sz' * sz'+p % sz'=p:=fun p=>by rw [Nat.mul_comm];exact Nat.div_add_mod p sz'
    refine ⟨(List.range (ys.length * sz')).map (fun p=>c (p / sz') (p % sz')),Hu (by simp) (fun p hp=>?_) (fun v hv=>?_),⟨?_,fun p hp hp'=>?_⟩⟩
    ·simp at hp
     have:=(hm _ _ (dm p hp).1 (dm p hp).2).1
     rw [Nat.add_assoc,dm2] at this
     simpa using h.base.imm.m bk _ _ this
    ·simp at hv
     obtain ⟨p,hp,rfl⟩:=hv
     exact (hm _ _ (dm p hp).1 (dm p hp).2).2
    ·simp [pO hsz]
    ·simp at hp
     have hi:=(dm p hp).1
     have hj:=(dm p hp).2
     have hj':p % sz'<(AV.cells ys[p / sz']).length:=by rw [hsz' _ hi];exact hj
     have e1:(ys.flatMap AV.cells)[p]=(AV.cells ys[p / sz'])[p % sz']:=by
      have:=flat_get hsz (p / sz') hi (p % sz') hj
      rw [dm2,List.getElem?_eq_getElem hp',List.getElem?_eq_getElem hj'] at this
      exact Option.some.inj this
     rw [e1]
     simpa using hrr _ hi _ hj'
 ·rename_i es' hv
  cases he
  have hr:=ai (a:=a) hc h.env h.base.glob (v:=.sl ys) (by simp [rd,hv])
  generalize a.eval x=ax at hr
  cases hr with
  | slNil=>exact ⟨[],NC sz,.nil _ _⟩
  | slE ad=>exact ⟨[],UO sz ad,.nil _ _⟩
  | sl bk off cap sz' _ c hcap hsz' hm hrr=>
   by_cases hys:ys=[]
   ·subst hys
    exact ⟨[],Hu (by simp) (fun j hj=>by simp at hj) (fun v hv=>by simp at hv),.nil _ _⟩
   ·have hszz:sz'=sz:=by
     have h0:0<ys.length:=List.length_pos_iff.2 hys
     rw [←hsz' 0 h0];exact hsz _ (List.getElem_mem h0)
    subst hszz
    have dm:∀p,p<ys.length * sz'→p / sz'<ys.length∧p % sz'<sz':=by
     intro p hp
     have hpos:0<sz':=by
      rcases Nat.eq_zero_or_pos sz' with h0|h0
      ·rw [h0] at hp;simp at hp
      ·exact h0
     exact ⟨Nat.div_lt_of_lt_mul (by rw [Nat.mul_comm];exact hp),Nat.mod_lt _ hpos⟩
    have dm2:∀p,p / sz' * sz'+p % sz'=p:=fun p=>by rw [Nat.mul_comm];exact Nat.div_add_mod p sz'
    refine ⟨(List.range (ys.length * sz')).map (fun p=>c (p / sz') (p % sz')),Hu (by simp) (fun p hp=>?_) (fun v hv=>?_),⟨?_,fun p hp hp'=>?_⟩⟩
    ·simp at hp
     have:=(hm _ _ (dm p hp).1 (dm p hp).2).1
     rw [Nat.add_assoc,dm2] at this
     simpa using h.base.imm.m bk _ _ this
    ·simp at hv
     obtain ⟨p,hp,rfl⟩:=hv
     exact (hm _ _ (dm p hp).1 (dm p hp).2).2
    ·simp [pO hsz]
    ·simp at hp
     have hi:=(dm p hp).1
     have hj:=(dm p hp).2
     have hj':p % sz'<(AV.cells ys[p / sz']).length:=by rw [hsz' _ hi];exact hj
     have e1:(ys.flatMap AV.cells)[p]=(AV.cells ys[p / sz'])[p % sz']:=by
      have:=flat_get hsz (p / sz') hi (p % sz') hj
      rw [dm2,List.getElem?_eq_getElem hp',List.getElem?_eq_getElem hj'] at this
      exact Option.some.inj this
     rw [e1]
     simpa using hrr _ hi _ hj'
 ·rename_i hv
  cases he
  have hr:=ai (a:=a) hc h.env h.base.glob (v:=.ns) (by simp [rd,hv])
  generalize a.eval x=ax at hr
  cases hr;exact ⟨[],NC sz,.nil _ _⟩
 ·rename_i hv
  cases he
  have hr:=ai (a:=a) hc h.env h.base.glob (v:=.se) (by simp [rd,hv])
  generalize a.eval x=ax at hr
  cases hr with
  | se ad=>exact ⟨[],UO sz ad,.nil _ _⟩
 ·rename_i hv
  cases he
  have hr:=ai (a:=a) hc h.env h.base.glob (v:=.sz) (by simp [rd,hv])
  generalize a.eval x=ax at hr
  cases hr with
  | sz ad c=>exact ⟨[],YS sz ad c,.nil _ _⟩
 ·rename_i tip t sz' es' hv
  cases he
  rcases dF (n:=s.length) hc h.base.glob hv with ⟨k,_,hk,hx⟩|⟨v',hv',_,_⟩
  ·rw [hx];exact hown k _ _ _ _ hk hsz
  ·cases hv'
 ·rename_i j hv
  split at he
  ·rename_i tip t sz' es' hj
   cases he
   rcases dF (n:=s.length) hc h.base.glob hv with ⟨k,_,hk,hx⟩|⟨v',hv',_,_⟩
   ·have e1:Act.tm a k=Act.tm a j:=h.env.rel k _ hk
    rw [hx,e1];exact hown j _ _ _ _ hj hsz
   ·cases hv'
  ·cases he
 ·cases he
theorem dI {c:Call} {x y:Operand} {t t':TypeId} (hop:o.op=.call c) (hcal:c.callee=.builtin .append) (hargs:c.args.toList=[x,y]) (htys:c.argTypes.toList=[t,t']) {v:Value} {w':World}
  (h:(Builtin.append_ #[t,t'] o.type #[a.eval x,a.eval y]).run P w=.ok v w'):(execOp a.eval o).run P w=.ok (.value v) w':=by
 rw [oz (a:=a) hop hcal]
 have ha:c.args.map a.eval=#[a.eval x,a.eval y]:=by apply Array.toList_inj.1;simp [hargs]
 have ht:c.argTypes=#[t,t']:=by apply Array.toList_inj.1;simp [htys]
 rw [ha,ht]
 simp only [builtin]
 exact ay h
theorem fV {t el:TypeId} {sz:Nat} (h:sliceOf P t el sz=true):P.underlying t=some (.slice el)∧iL P el sz=true:=by
 unfold sliceOf at h
 split at h
 ·rename_i el' hu
  simp only [Bool.and_eq_true,beq_iff_eq] at h
  rw [h.1] at hu;exact ⟨hu,h.2⟩
 ·cases h
theorem Yi {t t' ty el:TypeId} {sz:Nat} {d:TypeDesc} (hsl:sliceOf P t el sz=true) (ht':P.underlying t'=some d) (hd:(∃q,d=.slice q)∨d=.string)
  (hinf:(P.info? el).any (fun i=>i.bytes≤65536 && i.zero.any fun z=>z.cells.size == sz)=true) (h:Sim P glob g s B w (Act.tm a) env) {ys:List AV} (hpos:0<sz)
  {x:Value} {news:List Value} (hx:Src P w sz x ys.length news) (hr:aB g s.length news (ys.flatMap AV.cells)) (hys:∀y∈ys,y.cells.length=sz)
  (hmax:ys.length≤dK) {q:Sem Next} (hq:∀{v' w'},(Builtin.append_ #[t,t'] ty #[.slice none 0 0,x]).run P w=.ok v' w'→q.run P w=.ok (.value v') w'):
  Good P glob g s B w a q (.own false el sz ys) env s:=by
 obtain ⟨hu,hsz⟩:=fV hsl
 obtain ⟨i,hi,hisz⟩:=gm hsz
 rw [hi] at hinf
 simp only [Option.any_some,Bool.and_eq_true,decide_eq_true_eq] at hinf
 obtain ⟨hby,hzz⟩:=hinf
 cases hz:i.zero with
 | none=>simp [hz] at hzz
 | some z=>
  simp [hz] at hzz
  obtain ⟨v',w',r1,r2,r3⟩:=NE (ty:=ty) hu ht' hd hi hz hisz hzz (World.ownsRow_nil w B el sz) hx (by simpa using hmax) hby h.B
  rcases r3 with ⟨gb,cur,e1,_⟩|⟨hgrew,hfresh⟩
  ·simp [aQ] at e1
  ·obtain ⟨h2,s2⟩:=h.grew hgrew
   simp only [Nat.zero_add,List.nil_append] at r2
   refine ⟨v',w',g,.inl (hq r1),s2,h2,⟨fun dd _=>⟨news,by rw [upd_same];exact Oi r2,hr,hx.one,hys,hpos,fun b hb=>?_⟩,fun j hj=>by simp [EV.refers] at hj,fun _ b hb=>x9 h (hfresh b hb)⟩⟩
   rw [upd_same] at hb
   have hfr:=h.base.imm.fresh (hfresh b hb)
   exact ⟨hfr.mm,fun j _=>hfr.m j,fun j _=>by simpa using hfr.m j⟩
theorem Xz {el sz:Nat} {x y:IX} (h:Sim P glob g s B w (Act.tm a) env) (hc:au P o.op (.app el sz x y)=true) (hr:aop glob call cx env s (.app el sz x y)=.ok e env' s'):Good P glob g s B w a (execOp a.eval o) e env' s':=by
 simp only [au] at hc
 split at hc
 ·rename_i c hop
  split at hc
  ·rename_i ts x' y' hcal hargs
   split at hc
   ·rename_i t t' htys
    simp only [Bool.and_eq_true,beq_iff_eq] at hc
    obtain ⟨⟨⟨⟨rfl,hx⟩,hy⟩,hsl⟩,hinf⟩:=hc
    obtain ⟨hu,_⟩:=fV hsl
    simp only [aop] at hr
    split at hr
    ·rename_i ys k hys hk
     split at hr
     ·rename_i tip t2 sz2 es hown
      split at hr
      ·rename_i hcond
       obtain ⟨rfl,rfl,hall,hmax,_⟩:=hcond
       cases hr
       have hall':∀y∈ys,y.cells.length=sz:=fun y hy=>by simpa using List.all_eq_true.1 hall y hy
       obtain ⟨news,q1,q2⟩:=ku hy h hys hall'
       obtain ⟨hxv,_⟩:=LK hx h hk
       exact Yh (ty:=o.type) hsl hu (.inl ⟨_,rfl⟩) hinf h hown q1 q2 hall' hmax (fun hv=>dI hop hcal hargs htys (by rw [hxv];exact hv))
      ·cases hr
     ·cases hr
    ·rename_i ys hys hk
     split at hr
     ·rename_i hns
      split at hr
      ·rename_i hcond
       obtain ⟨hpos,hall,hmax⟩:=hcond
       cases hr
       have hall':∀y∈ys,y.cells.length=sz:=fun y hy=>by simpa using List.all_eq_true.1 hall y hy
       obtain ⟨news,q1,q2⟩:=ku hy h hys hall'
       have hxv:a.eval x'=.slice none 0 0:=by
        have:=ai (a:=a) hx h.env h.base.glob hns
        generalize a.eval x'=ax at this
        cases this;rfl
       exact Yi (ty:=o.type) hsl hu (.inl ⟨_,rfl⟩) hinf h hpos q1 q2 hall' hmax (fun hv=>dI hop hcal hargs htys (by rw [hxv];exact hv))
      ·cases hr
     ·cases hr
    ·cases hr
   ·cases hc
  ·cases hc
 ·cases hc
theorem Po:∀l:List UInt8,(iD l).flatMap AV.cells=iD l
 | []=>rfl
 | b::l=>by
  show AV.cells (.i .u8 b.toNat)++(iD l).flatMap AV.cells=.i .u8 b.toNat::iD l
  rw [Po l];rfl
end Go.Ai
namespace Go.Ai
variable {P:Program} {glob:Nat→Option (List AV)} {g:af} {s:St} {B:Nat} {w:World} {env:Env} {a:Act} {o:Oper} {call:AV→List AV→St→Ctx→CO} {cx:Ctx} {e:EV} {env':Env} {s':St}
def af.grown (g:af) (l k:Nat) (v:Value) (b:Nat) (zs:List Value):af:=
 { (g.claim b zs) with hist:=fun l'=>if l'=l then fun j=>if j=k then some v else g.hist l j else g.hist l' }
theorem xZ {w:World} {t sz k:Nat} {v:Value} {zs:List Value} {nb:Nat} (h:w.ownsRow 0 t sz v k zs) (hb:aQ v=some nb):
  ∃cap cur,v=.slice (some ⟨nb,0,none⟩) k cap∧k≤cap∧w.heap[nb]?=some (.cells cur t (0,0))∧∀j (hj:j<zs.length),cur[j]?=some zs[j]:=by
 rcases h.2 with ⟨hv,_⟩|⟨gb,cap,cur,hv,_,hg,hcap,_,_,htake⟩
 ·rw [hv] at hb;simp [aQ] at hb
 ·rw [hv] at hb;simp [aQ] at hb;subst hb
  refine ⟨cap,cur,hv,hcap,hg,fun j hj=>?_⟩
  have:=List.getElem?_eq_getElem hj
  rw [←this,←htake,List.getElem?_take,if_pos (by rw [←h.1];exact hj)]
  simp
theorem Rh (h:Base P glob g s w) {w':World} {l t sz k':Nat} {v':Value} {zs:List Value} {nb:Nat} (hown:w'.ownsRow 0 t sz v' k' zs) (hb:aQ v'=some nb)
  (hold:∀b,b<w.heap.size→b≠nb→w'.heap[b]?=w.heap[b]?) (hm1:∀o v,g.m nb o=some v→zs[o]?=some v) (hmm:g.mm nb=none):Imm (g.grown l k' v' nb zs) w':=by
 obtain ⟨cap,cur,hv,hcap,hg,hcur⟩:=xZ hown hb
 refine ⟨fun b o v hm=>?_,fun b es he=>?_⟩
 ·have cnb:∀o v,zs[o]?=some v→w'.cell? ⟨nb,o,none⟩=some v:=by
   intro o v hz
   obtain ⟨ho,rfl⟩:=List.getElem?_eq_some_iff.1 hz
   rw [cell_of_row w' nb o cur t (0,0) hg];exact hcur o ho
  simp only [af.grown,af.claim] at hm
  split at hm
  ·rename_i hc;obtain ⟨rfl,_⟩:=hc;exact cnb o v hm
  ·by_cases hbn:b=nb
   ·subst hbn;exact cnb o v (hm1 o v hm)
   ·rw [World.cell?_of_block (hold b (cell_lt (h.imm.m b o v hm)) hbn)];exact h.imm.m b o v hm
 ·have hbn:b≠nb:=fun hbn=>by subst hbn;simp only [af.grown,af.claim] at he;rw [hmm] at he;cases he
  exact (h.imm.mm b es he).keep (hold b (h.imm.mm b es he).lt hbn)
theorem Rf {w':World} {l t sz k':Nat} {v':Value} {zs:List Value} {nb:Nat} (hown:w'.ownsRow 0 t sz v' k' zs) (hb:aQ v'=some nb) (hone:bH zs) (hpos:0<sz∧0<k')
  (hlast:∀k,k'<k→g.hist l k=none) (hm1:∀o v,g.m nb o=some v→zs[o]?=some v) (hmm:g.mm nb=none):XO (g.grown l k' v' nb zs) w' l t sz k':=by
 refine ⟨v',zs,by simp [af.grown],fun k hk=>?_,hown,hone,hpos,fun b hb'=>?_⟩
 ·simp only [af.grown,if_true];rw [if_neg (by omega)];exact hlast k hk
 ·rw [hb] at hb';cases hb'
  refine ⟨hmm,fun j hj=>?_,fun j hj=>by simp [af.grown,af.claim,hj]⟩
  simp only [af.grown,af.claim,true_and]
  rw [if_neg (by omega)]
  cases hm:g.m nb j with
  | none=>rfl
  | some v=>have:=hm1 j v hm;rw [List.getElem?_eq_none hj] at this;cases this
theorem Xh {l k k':Nat} {v':Value} {zs:List Value} {nb n n':Nat} (hnew:g.hist l k'=none) (hm1:∀o v,g.m nb o=some v→zs[o]?=some v) (hn:n≤n'):g.le n (g.grown l k' v' nb zs) n':=by
 refine ⟨fun b o v hm=>?_,fun _ _ h=>h,fun _ _=>rfl,fun l' _ j v hj=>?_,hn⟩
 ·simp only [af.grown,af.claim]
  split
  ·rename_i hc;obtain ⟨rfl,_⟩:=hc;exact hm1 o v hm
  ·exact hm
 ·simp only [af.grown]
  split
  ·rename_i hl;subst hl
   show (if j=k' then some v' else g.hist l' j)=some v
   rw [if_neg (fun hjk=>by subst hjk;rw [hnew] at hj;cases hj)];exact hj
  ·exact hj
theorem WE {tm:Nat→Value} (h:Sim P glob g s B w tm env) {l t sz k k':Nat} (hl:s[l]?=some (.row t sz k)) {w':World} {v':Value} {zs:List Value} (hown:w'.ownsRow 0 t sz v' k' zs) (hk:k<k')
  (hone:bH zs) {nb:Nat} (hb:aQ v'=some nb) (hnb:g.bl l nb∨w.heap.size≤nb) (hsize:w.heap.size≤w'.heap.size) (hold:∀b,b<w.heap.size→b≠nb→w'.heap[b]?=w.heap[b]?)
  (hio:w'.os=w.os∧w'.output=w.output∧(True→TD w w')) (hm1:∀o v,g.m nb o=some v→zs[o]?=some v) (hmm:g.mm nb=none):
  Step True g s.length B w (g.grown l k' v' nb zs) s.length w'∧Sim P glob (g.grown l k' v' nb zs) (s.set l (.row t sz k')) B w' tm env∧g.le s.length (g.grown l k' v' nb zs) s.length:=by
 have hlt:l<s.length:=(List.getElem?_eq_some_iff.1 hl).1
 obtain ⟨v,xs,h1,h2,h3,h4,h5,h6⟩:=h.base.heap.obj l _ hl
 have hle:g.le s.length (g.grown l k' v' nb zs) s.length:=Xh (k:=k) (h2 k' hk) hm1 (Nat.le_refl _)
 have hgm:∀b,b≠nb→(g.grown l k' v' nb zs).m b=g.m b:=fun b hb=>by funext j;simp [af.grown,af.claim,hb]
 have hbl:∀b,(g.grown l k' v' nb zs).bl l b→g.bl l b∨w.heap.size≤b:=by
  rintro b (hb' | ⟨j,u,hj,hu⟩)
  ·exact .inl (.inl hb')
  ·simp only [af.grown,if_true] at hj
   split at hj
   ·cases hj;rw [hb] at hu;cases hu;exact hnb
   ·exact .inl (.inr ⟨j,u,hj,hu⟩)
 have htk:∀b,(g.grown l k' v' nb zs).taken s.length b→g.taken s.length b∨w.heap.size≤b:=by
  rintro b ⟨l',hl',hb'⟩
  by_cases e:l'=l
  ·subst e
   rcases hbl b hb' with hb' | hb'
   ·exact .inl ⟨l',hl',hb'⟩
   ·exact .inr hb'
  ·rcases hb' with hb' | ⟨j,u,hj,hu⟩
   ·exact .inl ⟨l',hl',.inl hb'⟩
   ·simp only [af.grown,if_neg e] at hj;exact .inl ⟨l',hl',.inr ⟨j,u,hj,hu⟩⟩
 have hnt:∀b,b<w.heap.size→¬g.taken s.length b→b≠nb:=fun b hbs hn hbn=>by
  subst hbn
  rcases hnb with h' | h'
  ·exact hn ⟨l,hlt,h'⟩
  ·omega
 have hB:=h.B
 obtain ⟨cap,cur,hv,hcap,hg,hcur⟩:=xZ hown hb
 have hnbs:nb<w'.heap.size:=(Array.getElem?_eq_some_iff.1 hg).1
 refine ⟨⟨hle,hsize,fun b hb' hn=>hold b (by omega) (hnt b (by omega) hn),fun b hb' hn=>hgm b (hnt b (by omega) hn),fun _ _=>rfl,fun b hb'=>?_,hio⟩,⟨⟨Rh h.base hown hb hold hm1 hmm, ?_,h.base.glob.mono hle⟩, ?_,by omega⟩,hle⟩
 ·rcases htk b hb' with h' | h'
  ·exact .inl h'
  ·exact .inr (by omega)
 ·refine h.base.heap.setAt hlt hle (fun l' _ hne=>by simp [af.grown,hne]) hbl (fun b hb'=>?_) hsize (fun b hbs hnb'=>?_) (Rf hown hb hone ⟨h5.1,by omega⟩ (fun j hj=>h2 j (by omega)) hm1 hmm)
  ·rcases hbl b hb' with h' | h'
   ·exact Nat.lt_of_lt_of_le (h.base.heap.lt l b hlt h') hsize
   ·rcases hb' with hb' | ⟨j,u,hj,hu⟩
    ·have:b<w.heap.size:=h.base.heap.lt l b hlt (.inl hb');omega
    ·simp only [af.grown,if_true] at hj
     split at hj
     ·cases hj;rw [hb] at hu;cases hu;exact hnbs
     ·have:b<w.heap.size:=h.base.heap.lt l b hlt (.inr ⟨j,u,hj,hu⟩);omega
  ·have hne:b≠nb:=fun hbn=>by
    subst hbn
    rcases hnb with h' | h'
    ·exact hnb' h'
    ·omega
   exact ⟨hold b hbs hne,hgm b hne,rfl⟩
 ·simp only [List.length_set]
  refine h.env.next hle (fun j x hj hx b hbj=>?_)
  have hbs:=yt h.env hj hx hbj
  have hne:=hnt b hbs (h.env.off j x hj hx b hbj)
  refine ⟨hold b hbs hne,hgm b hne,rfl,fun ht=>?_⟩
  rcases htk b ht with h' | h'
  ·exact h'
  ·omega
theorem Ri {n b len cap sz:Nat} {es:List AV} {xs:List Value} (h:Rep g n (.slice (some ⟨b,0,none⟩) len cap) (.sl es)) (hsz:∀e∈es,e.cells.length=sz) (hxl:xs.length=es.length * sz)
  (hm:∀j (h:j<xs.length),g.m b j=some xs[j]):aB g n xs (es.flatMap AV.cells):=by
 refine ⟨by rw [hxl,pO hsz],fun p hp hp'=>?_⟩
 generalize hq:Value.slice (some ⟨b,0,none⟩) len cap=q at h
 cases h with
 | slNil=>cases hq
 | slE=>simp at hp'
 | sl _ _ _ sz' _ c hc hsz' hmm hr=>
  cases hq
  have hne:es≠[]:=fun he=>by subst he;simp at hp'
  have h0:0<es.length:=List.length_pos_iff.2 hne
  have hszz:sz'=sz:=by rw [←hsz' 0 h0];exact hsz _ (List.getElem_mem h0)
  subst hszz
  have hpos:0<sz':=by
   rcases Nat.eq_zero_or_pos sz' with h0|h0
   ·rw [h0] at hxl;simp at hxl;rw [hxl] at hp;simp at hp
   ·exact h0
  rw [hxl] at hp
  have hi:p / sz'<es.length:=Nat.div_lt_of_lt_mul (by rw [Nat.mul_comm];exact hp)
  have hj:p % sz'<sz':=Nat.mod_lt _ hpos
  have dm:p / sz' * sz'+p % sz'=p:=by rw [Nat.mul_comm];exact Nat.div_add_mod p sz'
  have e1:=(hmm _ _ hi hj).1
  rw [Nat.zero_add,dm,hm p (by omega)] at e1
  have hj':p % sz'<(AV.cells es[p / sz']).length:=by rw [hsz' _ hi];exact hj
  have e2:(es.flatMap AV.cells)[p]=(AV.cells es[p / sz'])[p % sz']:=by
   have:=flat_get hsz (p / sz') hi (p % sz') hj
   rw [dm,List.getElem?_eq_getElem hp',List.getElem?_eq_getElem hj'] at this
   exact Option.some.inj this
  rw [e2,Option.some.inj e1]
  exact hr _ hi _ hj'
theorem WB {t ty el:TypeId} {i:TypeInfo} {z:Value} {sz m:Nat} {ad:Addr} {news:List Value} {x:Value} (ht:P.underlying t=some (.slice el))
  (hi:P.info? el=some i) (hz:i.zero=some z) (hsz:i.size=sz) (hzs:z.cells.size=sz) (hpos:0<m) (hx:Src P w sz x m news) (hmax:m≤dK) (hby:i.bytes≤65536):
  ∃v' w',(Builtin.append_ #[t,t] ty #[.slice (some ad) 0 0,x]).run P w=.ok v' w'∧w'.ownsRow 0 el sz v' m news∧Grew True w w'∧∀b,aQ v'=some b→w.heap.size≤b:=by
 subst hsz
 have hmax':m≤1073741824:=hmax
 have hge:=grownCap_ge w m 0 el
 have h48:¬(281474976710656<Builtin.nextslicecap m 0 * i.bytes):=by
  have h1:=nextslicecap_le (show 0<m by omega)
  have h2:Builtin.nextslicecap m 0 * i.bytes≤2147483648 * 65536:=Nat.mul_le_mul (by omega) hby
  omega
 have h63:¬(9223372036854775807<(m:Int)):=by omega
 have hm:m≠0:=by omega
 have hfo:(Builtin.firstCells i.size 0 (.slice (some ad) 0 0)).run P w.drew=.ok #[] w.drew:=by
  simpa [Builtin.firstCells] using run_loadCells_list (P:=P) w.drew ad [] (fun j v hv=>by simp at hv)
 refine ⟨.slice (some ⟨w.heap.size,0,none⟩) m (grownCap w m 0 el),w.drew.alloc (.cells (news.toArray++Builtin.zeroCells z.cells (grownCap w m 0 el - m)) el), ?_,⟨hx.size,.inr ⟨w.heap.size,_,_,rfl,Nat.zero_le _,heap_alloc_new w.drew _,hge,grownCap_le_maxLen w _ _ _ (by simp only [maxLen];omega), ?_, ?_⟩⟩,⟨show w.heap.size≤(w.heap.push _).size by simp,fun b hb=>heap_alloc_old w.drew _ b hb,rfl,rfl,fun _=>⟨rfl,Nat.le_succ _⟩⟩,fun b hb=>by simp [aQ] at hb;omega⟩
 ·simp [Builtin.append_,run_underlying ht,sizeOf,typeInfo,zeroValue,hi,hz,hx.len,hm,h63,h48,Question.forced,hfo,hx.cells w.drew rfl,newRow,grownCap]
 ·simp only [Array.size_append,List.size_toArray,size_zeroCells,hzs]
  rw [hx.size,←Nat.add_mul]
  congr 1;omega
 ·rw [←hx.size]
  simp only [Array.toList_append]
  rw [List.take_left']
  rfl
theorem QG {el sz:Nat} {x y:IX} (h:Sim P glob g s B w (Act.tm a) env) (hc:au P o.op (.appr el sz x y)=true) (hr:aop glob call cx env s (.appr el sz x y)=.ok e env' s'):Good P glob g s B w a (execOp a.eval o) e env' s':=by
 simp only [au] at hc
 split at hc
 ·rename_i c hop
  split at hc
  ·rename_i ts x' y' hcal hargs
   split at hc
   ·rename_i t t' htys
    simp only [Bool.and_eq_true,beq_iff_eq] at hc
    obtain ⟨⟨⟨⟨rfl,hx⟩,hy⟩,hsl⟩,hinf⟩:=hc
    obtain ⟨hu,hsz⟩:=fV hsl
    obtain ⟨i,hi,hisz⟩:=gm hsz
    rw [hi] at hinf
    simp only [Option.any_some,Bool.and_eq_true,decide_eq_true_eq] at hinf
    obtain ⟨hby,hzz⟩:=hinf
    cases hz:i.zero with
    | none=>simp [hz] at hzz
    | some z=>
    simp [hz] at hzz
    simp only [aop] at hr
    split at hr
    ·-- a new row
     rename_i ys hys hxv
     split at hr
     ·rename_i hcond
      obtain ⟨hpos,hlen,hall,hmax⟩:=hcond
      cases hr
      have hall':∀y∈ys,y.cells.length=sz:=fun y hy=>by simpa using List.all_eq_true.1 hall y hy
      obtain ⟨news,q1,q2⟩:=ku hy h hys hall'
      have hx0:a.eval x'=.slice none 0 0:=by
       have:=fE (a:=a) hx h.env h.base.glob hxv
       generalize a.eval x'=ax at this
       cases this;rfl
      obtain ⟨v',w',r1,r2,r3⟩:=NE (ty:=o.type) (B:=0) hu hu (.inl ⟨_,rfl⟩) hi hz hisz hzz (World.ownsRow_nil w 0 el sz) q1 (by simpa using hmax) hby (Nat.zero_le _)
      simp only [Nat.zero_add,List.nil_append] at r2
      have hrun:(execOp a.eval o).run P w=.ok (.value v') w':=dI hop hcal hargs htys (by rw [hx0];exact r1)
      rcases r3 with ⟨gb,cur,e1,_⟩|⟨hgrew,hfresh⟩
      ·simp [aQ] at e1
      ·have hvb:∃nb,aQ v'=some nb:=by
        rcases r2.2 with ⟨hv,hn⟩|⟨gb,cap,cur,hv,_⟩
        ·omega
        ·exact ⟨gb,by simp [hv,aQ]⟩
       obtain ⟨nb,hnb⟩:=hvb
       have hnbf:=hfresh nb hnb
       have hfr:=h.base.imm.fresh hnbf
       obtain ⟨cap,cur,hv,hcap,hg,hcur⟩:=xZ r2 hnb
       let g0:af:=g.place s.length nb
       let g':af:=g0.grown s.length ys.length v' nb news
       have hm1:∀o v,g.m nb o=some v→news[o]?=some v:=fun o v hv=>by rw [hfr.m o] at hv;cases hv
       have hle:g.le s.length g' (s.length+1):=by
        refine ⟨fun b o v hm=>?_,fun _ _ h=>h,fun l hl=>by simp [g',g0,af.grown,af.claim,af.place];omega,fun l hl k v hk=>?_,by omega⟩
        ·simp only [g',af.grown,af.claim]
         split
         ·rename_i hc;obtain ⟨rfl,_⟩:=hc;exact hm1 o v hm
         ·exact hm
        ·have:l≠s.length:=by omega
         simp only [g',g0,af.grown,af.place,if_neg this];exact hk
       have hp:=h.push (g':=g') (ob:=.row el sz ys.length) hgrew hle (fun l hl=>?_) (fun b hb=>?_) (fun b hb=>?_) ?_ ?_
       ·obtain ⟨st,sm⟩:=hp
        refine ⟨v',w',g',.inl hrun,st,sm,.v ?_⟩
        refine .st s.length v' ys (by simp) (by simp [g',af.grown]) ?_
        rw [hv]
        refine EM hcap hall' (q2.mono (hle.trans ⟨fun _ _ _ h=>h,fun _ _ h=>h,fun _ _=>rfl,fun _ _ _ _ h=>h,by simp⟩)) q1.one (fun j hj=>?_)
        simp [g',af.grown,af.claim,hj]
       ·have:l≠s.length:=by omega
        funext k;simp [g',g0,af.grown,af.place,this]
       ·have hbn:b≠nb:=by omega
        exact ⟨by funext j;simp [g',g0,af.grown,af.claim,af.place,hbn],rfl⟩
       ·have:b=nb:=by
         rcases hb with hb|⟨k,v,hk,hv2⟩
         ·simp [g',g0,af.grown,af.claim,af.place] at hb;exact hb.symm
         ·simp only [g',g0,af.grown,af.place,if_true] at hk
          split at hk
          ·cases hk;rw [hnb] at hv2;cases hv2;rfl
          ·cases hk
        subst this
        exact ⟨hnbf,(Array.getElem?_eq_some_iff.1 hg).1⟩
       ·have:=Rh (g:=g) (l:=s.length) (k':=ys.length) h.base r2 hnb (fun b hb _=>hgrew.old b hb) hm1 hfr.mm
        exact ⟨this.m,this.mm⟩
       ·exact Rf (g:=g0) r2 hnb q1.one ⟨hpos,hlen⟩ (fun k hk=>by simp [g0,af.place]) hm1 hfr.mm
     ·cases hr
    ·-- a new row,behind an empty slice
     rename_i ys hys hxv
     split at hr
     ·rename_i hcond
      obtain ⟨hpos,hlen,hall,hmax⟩:=hcond
      cases hr
      have hall':∀y∈ys,y.cells.length=sz:=fun y hy=>by simpa using List.all_eq_true.1 hall y hy
      obtain ⟨news,q1,q2⟩:=ku hy h hys hall'
      have hx0:∃ad,a.eval x'=.slice (some ad) 0 0:=by
       have:=fE (a:=a) hx h.env h.base.glob hxv
       generalize a.eval x'=ax at this
       cases this;exact ⟨_,rfl⟩
      obtain ⟨ad,hx0⟩:=hx0
      obtain ⟨v',w',r1,r2,hgrew,hfresh⟩:=WB (ty:=o.type) (ad:=ad) hu hi hz hisz hzz hlen q1 hmax hby
      have hrun:(execOp a.eval o).run P w=.ok (.value v') w':=dI hop hcal hargs htys (by rw [hx0];exact r1)
      have hvb:∃nb,aQ v'=some nb:=by
       rcases r2.2 with ⟨hv,hn⟩|⟨gb,cap,cur,hv,_⟩
       ·omega
       ·exact ⟨gb,by simp [hv,aQ]⟩
      obtain ⟨nb,hnb⟩:=hvb
      have hnbf:=hfresh nb hnb
      have hfr:=h.base.imm.fresh hnbf
      obtain ⟨cap,cur,hv,hcap,hg,hcur⟩:=xZ r2 hnb
      let g0:af:=g.place s.length nb
      let g':af:=g0.grown s.length ys.length v' nb news
      have hm1:∀o v,g.m nb o=some v→news[o]?=some v:=fun o v hv=>by rw [hfr.m o] at hv;cases hv
      have hle:g.le s.length g' (s.length+1):=by
       refine ⟨fun b o v hm=>?_,fun _ _ h=>h,fun l hl=>by simp [g',g0,af.grown,af.claim,af.place];omega,fun l hl k v hk=>?_,by omega⟩
       ·simp only [g',af.grown,af.claim]
        split
        ·rename_i hc;obtain ⟨rfl,_⟩:=hc;exact hm1 o v hm
        ·exact hm
       ·have:l≠s.length:=by omega
        simp only [g',g0,af.grown,af.place,if_neg this];exact hk
      have hp:=h.push (g':=g') (ob:=.row el sz ys.length) hgrew hle (fun l hl=>?_) (fun b hb=>?_) (fun b hb=>?_) ?_ ?_
      ·obtain ⟨st,sm⟩:=hp
       refine ⟨v',w',g',.inl hrun,st,sm,.v ?_⟩
       refine .st s.length v' ys (by simp) (by simp [g',af.grown]) ?_
       rw [hv]
       refine EM hcap hall' (q2.mono (hle.trans ⟨fun _ _ _ h=>h,fun _ _ h=>h,fun _ _=>rfl,fun _ _ _ _ h=>h,by simp⟩)) q1.one (fun j hj=>?_)
       simp [g',af.grown,af.claim,hj]
      ·have:l≠s.length:=by omega
       funext k;simp [g',g0,af.grown,af.place,this]
      ·have hbn:b≠nb:=by omega
       exact ⟨by funext j;simp [g',g0,af.grown,af.claim,af.place,hbn],rfl⟩
      ·have:b=nb:=by
        rcases hb with hb|⟨k,v,hk,hv2⟩
        ·simp [g',g0,af.grown,af.claim,af.place] at hb;exact hb.symm
        ·simp only [g',g0,af.grown,af.place,if_true] at hk
         split at hk
         ·cases hk;rw [hnb] at hv2;cases hv2;rfl
         ·cases hk
       subst this
       exact ⟨hnbf,(Array.getElem?_eq_some_iff.1 hg).1⟩
      ·have:=Rh (g:=g) (l:=s.length) (k':=ys.length) h.base r2 hnb (fun b hb _=>hgrew.old b hb) hm1 hfr.mm
       exact ⟨this.m,this.mm⟩
      ·exact Rf (g:=g0) r2 hnb q1.one ⟨hpos,hlen⟩ (fun k hk=>by simp [g0,af.place]) hm1 hfr.mm
     ·cases hr
    ·-- a row that is there
     rename_i ys l es hys hxv
     split at hr
     ·rename_i t2 sz2 k hl
      split at hr
      ·rename_i hcond
       obtain ⟨rfl,rfl,rfl,hpos,hlen,hall,hall2,hmax,_⟩:=hcond
       cases hr
       have hall':∀y∈ys,y.cells.length=sz:=fun y hy=>by simpa using List.all_eq_true.1 hall y hy
       have halle:∀y∈es,y.cells.length=sz:=fun y hy=>by simpa using List.all_eq_true.1 hall2 y hy
       obtain ⟨news,q1,q2⟩:=ku hy h hys hall'
       have hlt:l<s.length:=(List.getElem?_eq_some_iff.1 hl).1
       obtain ⟨v,xs,p1,p2,p3,p4,p5,p6⟩:=h.base.heap.obj l _ hl
       have hrep:=fE (a:=a) hx h.env h.base.glob hxv
       obtain ⟨hxv2,hrsl⟩:a.eval x'=v∧Rep g s.length v (.sl es):=by
        generalize a.eval x'=ax at hrep
        cases hrep with
        | st _ _ _ _ hh hr=>rw [p1] at hh;cases hh;exact ⟨rfl,hr⟩
       have hvb:∃gb,aQ v=some gb:=by
        rcases p3.2 with ⟨hv,hn⟩|⟨gb,cap,cur,hv,_⟩
        ·omega
        ·exact ⟨gb,by simp [hv,aQ]⟩
       obtain ⟨gb,hgb⟩:=hvb
       obtain ⟨m1,m2,m3⟩:=p6 gb hgb
       obtain ⟨cap0,cur0,hv0,hcap0,hg0,hcur0⟩:=xZ p3 hgb
       have hxs:aB g s.length xs (es.flatMap AV.cells):=by
        rw [hv0] at hrsl
        exact Ri hrsl halle p3.1 m3
       obtain ⟨v',w',r1,r2,r3⟩:=NE (ty:=o.type) (B:=0) hu hu (.inl ⟨_,rfl⟩) hi hz hisz hzz p3 q1 hmax hby (Nat.zero_le _)
       have hrun:(execOp a.eval o).run P w=.ok (.value v') w':=dI hop hcal hargs htys (by rw [hxv2];exact r1)
       have hone:bH (xs++news):=fun u hu=>(List.mem_append.1 hu).elim (p4 u) (q1.one u)
       have hvb':∃nb,aQ v'=some nb:=by
        rcases r2.2 with ⟨hv,hn⟩|⟨gb,cap,cur,hv,_⟩
        ·omega
        ·exact ⟨gb,by simp [hv,aQ]⟩
       obtain ⟨nb,hnb⟩:=hvb'
       have hfin:(g.bl l nb∨w.heap.size≤nb)→w.heap.size≤w'.heap.size→(∀b,b<w.heap.size→b≠nb→w'.heap[b]?=w.heap[b]?)→(w'.os=w.os∧w'.output=w.output∧(True→TD w w'))→(∀o v,g.m nb o=some v→(xs++news)[o]?=some v)→g.mm nb=none→
         Good P glob g s B w a (execOp a.eval o) (.v (.st l (es++ys))) env (s.set l (.row el sz (es.length+ys.length))):=by
        intro f1 f2 f3 f4 f5 f6
        obtain ⟨st,sm,hle⟩:=WE h hl r2 (by omega) hone hnb f1 f2 f3 f4 f5 f6
        obtain ⟨cap,cur,hv,hcap,hg,hcur⟩:=xZ r2 hnb
        refine ⟨v',w',_,.inl hrun,by simpa using st,sm,.v ?_⟩
        simp only [List.length_set]
        refine .st l v' (es++ys) hlt (by simp [af.grown]) ?_
        have hlen2:(es++ys).length=es.length+ys.length:=List.length_append
        rw [←hlen2] at hcap
        suffices hs:Rep (g.grown l (es.length+ys.length) v' nb (xs++news)) s.length (.slice (some ⟨nb,0,none⟩) (es++ys).length cap) (.sl (es++ys)) by
         rw [hlen2,←hv] at hs;exact hs
        refine EM hcap (fun e he=>(List.mem_append.1 he).elim (halle e) (hall' e)) ?_ hone (fun j hj=>?_)
        ·rw [List.flatMap_append];exact (hxs.append q2).mono hle
        ·simp only [Nat.zero_add,af.grown,af.claim,true_and]
         rw [if_pos hj,List.getElem?_eq_getElem hj]
       rcases r3 with ⟨gb',cur,e1,e2,e3,rfl,e5,e6⟩|⟨hgrew,hfresh⟩
       ·rw [hgb] at e1;cases e1
        rw [hnb] at e2;cases e2
        refine hfin (.inl (.inr ⟨_,v,p1,hgb⟩)) (by simp) (fun b _ hb=>aG _ hb) ⟨rfl,rfl,fun _=>⟨rfl,Nat.le_refl _⟩⟩ (fun o u hu=>?_) m1
        by_cases ho:o<xs.length
        ·rw [m3 o ho] at hu;cases hu
         rw [List.getElem?_append_left ho,List.getElem?_eq_getElem ho]
        ·rw [m2 o (by omega)] at hu;cases hu
       ·have hf:=hfresh nb hnb
        have hfr:=h.base.imm.fresh hf
        exact hfin (.inr hf) hgrew.size (fun b hb _=>hgrew.old b hb) hgrew.io (fun o u hu=>by rw [hfr.m o] at hu;cases hu) hfr.mm
      ·cases hr
     ·cases hr
    ·cases hr
   ·cases hc
  ·cases hc
 ·cases hc
end Go.Ai
