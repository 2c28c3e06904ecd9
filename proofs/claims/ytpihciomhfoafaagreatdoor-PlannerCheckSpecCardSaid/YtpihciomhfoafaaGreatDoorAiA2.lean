/-
 How a frame's slots and the world stand to what the interpreter knows.
-/
import Derived.Test.YtpihciomhfoafaaGreatDoorAiA1
import Derived.Laws.CopyRow
set_option maxRecDepth 100000
set_option linter.unusedSimpArgs false
set_option linter.unusedVariables false
set_option linter.unusedSectionVars false
namespace Go.Ai
def aQ:Value→Option Nat
 | .pointer (some a)=>some a.block
 | .slice (some a) _ _=>some a.block
 | .map (some r)=>some r
 | _=>none
def af.bl (g:af) (l b:Nat):Prop:=g.L l=b∨∃k v,g.hist l k=some v∧aQ v=some b
def af.taken (g:af) (n b:Nat):Prop:=∃l,l<n∧g.bl l b
theorem af.taken.L {g:af} {n l:Nat} (h:l<n):g.taken n (g.L l):=⟨l,h,.inl rfl⟩
theorem af.le.bl {g g':af} {n n':Nat} (h:g.le n g' n') {l b:Nat} (hl:l<n) (hb:g.bl l b):g'.bl l b:=by
 rcases hb with hb|⟨k,v,hk,hv⟩
 ·exact .inl ((h.L l hl).trans hb)
 ·exact .inr ⟨k,v,h.hist l hl k v hk,hv⟩
theorem af.le.taken {g g':af} {n n':Nat} (h:g.le n g' n') {b:Nat} (hb:g.taken n b):g'.taken n' b:=
 let ⟨l,hl,hb⟩:=hb;⟨l,Nat.lt_of_lt_of_le hl h.n,h.bl hl hb⟩
structure fP (g:af) (b:Nat):Prop where
 m:∀o,g.m b o=none
 mm:g.mm b=none
def Born (ents:Array MapEntry) (clock:Nat):Prop:=(∀x∈ents.toList,x.born<clock)∧(ents.toList.map (·.born)).Nodup
theorem Born.nil:Born #[] 0:=⟨fun x hx=>by simp at hx,by simp⟩
theorem Born.push {ents:Array MapEntry} {clock:Nat} (h:Born ents clock) (k v:Value):Born (ents.push { key:=k,val:=v,born:=clock }) (clock+1):=by
 refine ⟨fun x hx=>?_, ?_⟩
 ·simp at hx
  rcases hx with hx|rfl
  ·have:=h.1 x (by simpa using hx);omega
  ·simp
 ·simp only [Array.toList_push,List.map_append,List.map_cons,List.map_nil]
  refine List.nodup_append.2 ⟨h.2,by simp,fun a ha b hb=>?_⟩
  simp at hb
  subst hb
  obtain ⟨x,hx,rfl⟩:=List.mem_map.1 ha
  have:=h.1 x hx;omega
theorem Born.modify {ents:Array MapEntry} {clock:Nat} (h:Born ents clock) (j:Nat) (k v:Value):Born (ents.modify j fun e=>{ e with key:=k,val:=v }) clock:=by
 have hm:(ents.modify j fun e=>{ e with key:=k,val:=v }).toList.map (·.born)=ents.toList.map (·.born):=by
  apply List.ext_getElem?
  intro i
  simp only [Array.toList_modify,List.getElem?_map,List.getElem?_modify]
  cases ents.toList[i]? with
  | none=>simp
  | some e=>by_cases hj:j=i<;>simp [hj]
 refine ⟨fun x hx=>?_,by rw [hm];exact h.2⟩
 have:x.born∈(ents.modify j fun e=>{ e with key:=k,val:=v }).toList.map (·.born):=List.mem_map.2 ⟨x,hx,rfl⟩
 rw [hm] at this
 obtain ⟨y,hy,he⟩:=List.mem_map.1 this
 rw [←he];exact h.1 y hy
theorem Born.erase {ents:Array MapEntry} {clock:Nat} (h:Born ents clock) (j:Nat):Born (ents.eraseIdxIfInBounds j) clock:=by
 have he:(ents.eraseIdxIfInBounds j).toList=ents.toList.eraseIdx j:=by simp
 have hs:=List.eraseIdx_sublist ents.toList j
 refine ⟨fun x hx=>h.1 x ?_, ?_⟩
 ·rw [he] at hx;exact hs.subset hx
 ·rw [he];exact h.2.sublist (hs.map _)
def zX (ents:Array MapEntry) (clock:Nat):Prop:=clock=ents.size∧ents.toList.map (·.born)=List.range ents.size
theorem zX.nil:zX #[] 0:=⟨rfl,rfl⟩
theorem zX.push {ents:Array MapEntry} {clock:Nat} (h:zX ents clock) (k v:Value):zX (ents.push { key:=k,val:=v,born:=clock }) (clock+1):=by
 refine ⟨by simp [h.1], ?_⟩
 simp only [Array.toList_push,List.map_append,List.map_cons,List.map_nil,Array.size_push,h.2,List.range_succ]
 rw [h.1]
theorem zX.modify {ents:Array MapEntry} {clock:Nat} (h:zX ents clock) (j:Nat) (f:MapEntry→MapEntry) (hf:∀e,(f e).born=e.born):zX (ents.modify j f) clock:=by
 refine ⟨by simpa using h.1, ?_⟩
 have hm:(ents.modify j f).toList.map (·.born)=ents.toList.map (·.born):=by
  apply List.ext_getElem?
  intro i
  simp only [Array.toList_modify,List.getElem?_map,List.getElem?_modify]
  cases ents.toList[i]? with
  | none=>simp
  | some e=>by_cases hj:j=i<;>simp [hj,hf]
 rw [hm,h.2];simp
theorem zX.at {ents:Array MapEntry} {clock:Nat} (h:zX ents clock) {i:Nat} (hi:i<ents.size):ents[i].born=i:=by
 have:=congrArg (fun l=>l[i]?) h.2
 simp [hi] at this
 exact this
theorem zX.born {ents:Array MapEntry} {clock:Nat} (h:zX ents clock):Born ents clock:=by
 refine ⟨fun x hx=>?_,by rw [h.2];exact List.nodup_range⟩
 have:x.born∈ents.toList.map (·.born):=List.mem_map.2 ⟨x,hx,rfl⟩
 rw [h.2,List.mem_range] at this
 rw [h.1];exact this
def rowT (w:World) (tip:Bool) (b:Nat) (cur:Array Value) (e:TypeId):Prop:=∃fz:Nat×Nat,w.heap[b]?=some (.cells cur e fz)∧(fz=(0,0)∨tip=true∧cur.size≤fz.1)
def GU (w:World) (tip:Bool) (base:Nat) (e:TypeId) (size:Nat) (v:Value) (n:Nat) (xs:List Value):Prop:=
 xs.length=n * size∧
 ((v=.slice none 0 0∧n=0)∨
  ∃g cap cur,v=.slice (some ⟨g,0,none⟩) n cap∧base≤g∧rowT w tip g cur e∧n≤cap∧cap≤maxLen∧cur.size=cap * size∧cur.toList.take (n * size)=xs)
theorem rowT.z {w:World} {b:Nat} {cur:Array Value} {e:TypeId} (h:rowT w false b cur e):w.heap[b]?=some (.cells cur e (0,0)):=by
 obtain ⟨fz,h1,rfl|⟨h2,_⟩⟩:=h
 ·exact h1
 ·cases h2
theorem rowT.of {w:World} {tip:Bool} {b:Nat} {cur:Array Value} {e:TypeId} (h:w.heap[b]?=some (.cells cur e (0,0))):rowT w tip b cur e:=⟨(0,0),h,.inl rfl⟩
theorem rowT.up {w:World} {tip:Bool} {b:Nat} {cur:Array Value} {e:TypeId} (h:rowT w tip b cur e):rowT w true b cur e:=by
 obtain ⟨fz,h1,h2|⟨_,h2⟩⟩:=h
 ·exact ⟨fz,h1,.inl h2⟩
 ·exact ⟨fz,h1,.inr ⟨rfl,h2⟩⟩
theorem rowT.lt {w:World} {tip:Bool} {b:Nat} {cur:Array Value} {e:TypeId} (h:rowT w tip b cur e):b<w.heap.size:=by
 obtain ⟨fz,h1,_⟩:=h
 exact (Array.getElem?_eq_some_iff.1 h1).1
theorem rowT.cell {w:World} {tip:Bool} {b:Nat} {cur:Array Value} {e:TypeId} (h:rowT w tip b cur e) (o:Nat):w.cell? ⟨b,o,none⟩=cur[o]?:=by
 obtain ⟨fz,h1,_⟩:=h
 exact cell_of_row w b o cur e fz h1
theorem rowT.keep {w w':World} {tip:Bool} {b:Nat} {cur:Array Value} {e:TypeId} (h:rowT w tip b cur e) (hw:w'.heap[b]?=w.heap[b]?):rowT w' tip b cur e:=by
 obtain ⟨fz,h1,h2⟩:=h
 exact ⟨fz,hw.trans h1,h2⟩
theorem Oi {w:World} {tip:Bool} {base:Nat} {e:TypeId} {size:Nat} {v:Value} {n:Nat} {xs:List Value} (h:w.ownsRow base e size v n xs):GU w tip base e size v n xs:=by
 refine ⟨h.1, ?_⟩
 rcases h.2 with hn|⟨g,cap,cur,hv,hb,hg,rest⟩
 ·exact .inl hn
 ·exact .inr ⟨g,cap,cur,hv,hb,.of hg,rest⟩
theorem GU.z {w:World} {base:Nat} {e:TypeId} {size:Nat} {v:Value} {n:Nat} {xs:List Value} (h:GU w false base e size v n xs):w.ownsRow base e size v n xs:=by
 refine ⟨h.1, ?_⟩
 rcases h.2 with hn|⟨g,cap,cur,hv,hb,hg,rest⟩
 ·exact .inl hn
 ·exact .inr ⟨g,cap,cur,hv,hb,hg.z,rest⟩
theorem GU.up {w:World} {tip:Bool} {base:Nat} {e:TypeId} {size:Nat} {v:Value} {n:Nat} {xs:List Value} (h:GU w tip base e size v n xs):GU w true base e size v n xs:=by
 refine ⟨h.1, ?_⟩
 rcases h.2 with hn|⟨g,cap,cur,hv,hb,hg,rest⟩
 ·exact .inl hn
 ·exact .inr ⟨g,cap,cur,hv,hb,hg.up,rest⟩
def oO (g:af) (n B:Nat) (w:World) (tm:Nat→Value) (k:Nat):EV→Prop
 | .v a=>Rep g n (tm k) a
 | .bx cs=>∃b arr ty,tm k=.pointer (some ⟨b,0,none⟩)∧w.heap[b]?=some (.cells arr ty (0,0))∧aB g n arr.toList cs∧bH arr.toList∧fP g b∧B≤b
 | .lp j off=>∃b,tm j=.pointer (some ⟨b,0,none⟩)∧tm k=.pointer (some ⟨b,off,none⟩)
 | .own tip t sz es=>∃xs,GU w tip B t sz (tm k) es.length xs∧aB g n xs (es.flatMap AV.cells)∧bH xs∧(∀a∈es,a.cells.length=sz)∧0<sz∧
   ∀b,aQ (tm k)=some b→g.mm b=none∧(∀j,xs.length≤j→g.m b j=none)∧∀j (h:j<xs.length),g.m b j=if tip then some xs[j] else none
 | .al j=>tm k=tm j
 | .ep j sz i off=>∃b len cap,tm j=.slice (some ⟨b,0,none⟩) len cap∧tm k=.pointer (some ⟨b,i * sz+off,none⟩)
 | .om es=>∃b ents clock,tm k=.map (some b)∧w.heap[b]?=some (.map ents clock)∧aB g n (ents.toList.map (·.key)) (es.map (·.1))∧aB g n (ents.toList.map (·.val)) (es.map (·.2))∧fP g b∧B≤b∧Born ents clock
structure dH (g:af) (n B:Nat) (w:World) (tm:Nat→Value) (env:Env):Prop where
 rel:∀k e,lk env k=some e→oO g n B w tm k e
 apart:∀k k' e e',lk env k=some e→lk env k'=some e'→e.owns=true→e'.owns=true→k≠k'→∀b,aQ (tm k)=some b→aQ (tm k')≠some b
 off:∀k e,lk env k=some e→e.owns=true→∀b,aQ (tm k)=some b→¬g.taken n b
 refs:∀k e j,lk env k=some e→e.refers j=true→∃o,lk env j=some o∧o.owns=true
def Lm (w:World) (b:Nat):Sum (List (Value×Value)) (Array Value)→Prop
 | .inl es=>∃ents clock,w.heap[b]?=some (.map ents clock)∧ents.toList.map (fun e=>(e.key,e.val))=es∧Born ents clock
 | .inr arr=>∃t f,w.heap[b]?=some (.cells arr t f)
theorem Lm.keep {w w':World} {b:Nat} {es:Sum (List (Value×Value)) (Array Value)} (h:Lm w b es) (hb:w'.heap[b]?=w.heap[b]?):Lm w' b es:=by
 cases es with
 | inl es=>obtain ⟨ents,clock,h1,h2⟩:=h;exact ⟨ents,clock,hb.trans h1,h2⟩
 | inr arr=>obtain ⟨t,f,h1⟩:=h;exact ⟨t,f,hb.trans h1⟩
theorem Lm.lt {w:World} {b:Nat} {es:Sum (List (Value×Value)) (Array Value)} (h:Lm w b es):b<w.heap.size:=by
 cases es with
 | inl es=>obtain ⟨ents,clock,h1,h2⟩:=h;exact (Array.getElem?_eq_some_iff.1 h1).1
 | inr arr=>obtain ⟨t,f,h1⟩:=h;exact (Array.getElem?_eq_some_iff.1 h1).1
structure Imm (g:af) (w:World):Prop where
 m:∀b o v,g.m b o=some v→w.cell? ⟨b,o,none⟩=some v
 mm:∀b es,g.mm b=some es→Lm w b es
theorem dY (j:Nat) (e:EV) (r:Env) (k:Nat):lk ((j,e)::r) k=if j=k then some e else lk r k:=rfl
theorem bF (j:Nat) (e:EV) (r:Env):lk ((j,e)::r) j=some e:=by simp [lk]
theorem aJ {j k:Nat} (e:EV) (r:Env) (h:j≠k):lk ((j,e)::r) k=lk r k:=by simp [lk,h]
theorem pq (env:Env) (j k:Nat):lk (jL env j) k=(lk env k).map fun e=>if e.refers j then .v .u else e:=by
 induction env with
 | nil=>rfl
 | cons p r ih=>
  obtain ⟨i,e⟩:=p
  simp only [jL,List.map_cons]
  by_cases hr:e.refers j=true
  ·rw [if_pos hr,dY,dY]
   by_cases h:i=k
   ·simp [h,hr]
   ·rw [if_neg h,if_neg h];exact ih
  ·rw [if_neg hr,dY,dY]
   by_cases h:i=k
   ·simp [h,hr]
   ·rw [if_neg h,if_neg h];exact ih
theorem jq (env:Env) (k:Nat) (e:EV):lk (put env k e) k=some e:=by
 unfold put;split<;>(try split)<;>simp [bF]
theorem KR {env:Env} {k j:Nat} (e:EV) (h:k≠j):lk (put env k e) j=lk env j∨(∃o,lk env k=some o∧o.owns=true∧lk (put env k e) j=(lk env j).map fun e=>if e.refers k then .v .u else e):=by
 unfold put
 split
 ·rename_i o ho
  split
  ·rename_i hown;right;exact ⟨o,ho,hown,by rw [aJ _ _ h,pq]⟩
  ·left;rw [aJ _ _ h]
 ·left;rw [aJ _ _ h]
theorem EU {env:Env} {ks:List Nat} {k:Nat} {e:EV} (h:lk (ig env ks) k=some e):lk env k=some e∧e.isRef=false:=by
 induction ks with
 | nil=>simp [ig,lk] at h
 | cons j r ih=>
  unfold ig at h
  split at h
  ·rename_i o ho
   split at h
   ·exact ih h
   ·rename_i hr
    rw [dY] at h
    split at h
    ·rename_i hjk;subst hjk;cases h;exact ⟨ho,by simpa using hr⟩
    ·exact ih h
  ·exact ih h
theorem Vr {env:Env} {k:Nat} {e:EV} (h:lk (mX env) k=some e):(∃a,e=.v a∧lk env k=some (.v a))∨e=.v .u:=by
 induction env with
 | nil=>simp [mX,lk] at h
 | cons p r ih=>
  obtain ⟨j,x⟩:=p
  simp only [mX,List.map_cons] at h
  by_cases hj:j=k
  ·subst hj
   cases x<;>simp [lk] at h<;>subst h<;>first|exact .inr rfl|exact .inl ⟨_,rfl,by simp [lk]⟩
  ·have h':lk (mX r) k=some e:=by
    cases x<;>simpa [lk,hj,mX] using h
   rcases ih h' with ⟨a,he,hl⟩|he
   ·exact .inl ⟨a,he,by simpa [lk,hj] using hl⟩
   ·exact .inr he
theorem Rj {e:EV} {j:Nat} (h:e.refers j=true):e.isRef=true:=by cases e<;>simp_all [EV.refers,EV.isRef]
theorem dH.keep {g:af} {n B:Nat} {w:World} {tm:Nat→Value} {env:Env} (h:dH g n B w tm env) (ks:List Nat):dH g n B w tm (ig env ks) where
 rel k e hk:=h.rel k e (EU hk).1
 apart k k' e e' hk hk':=h.apart k k' e e' (EU hk).1 (EU hk').1
 off k e hk:=h.off k e (EU hk).1
 refs k e j hk hr:=absurd (Rj hr) (by simp [(EU hk).2])
theorem dH.nil (g:af) (n B:Nat) (w:World) (tm:Nat→Value):dH g n B w tm [] where
 rel k e hk:=by simp [lk] at hk
 apart k k' e e' hk:=by simp [lk] at hk
 off k e hk:=by simp [lk] at hk
 refs k e j hk:=by simp [lk] at hk
theorem oO.next {g g':af} {n n' B:Nat} {w w':World} {tm:Nat→Value} {k:Nat} {e:EV} (h:oO g n B w tm k e) (hle:g.le n g' n')
  (hb:e.owns=true→∀b,aQ (tm k)=some b→w'.heap[b]?=w.heap[b]?∧g'.m b=g.m b∧g'.mm b=g.mm b):oO g' n' B w' tm k e:=by
 cases e with
 | v a=>exact Rep.mono hle h
 | bx cs=>
  obtain ⟨b,arr,ty,h1,h2,h3,h4,h5,h6⟩:=h
  obtain ⟨q1,q2,q3⟩:=hb rfl b (by simp [h1,aQ])
  exact ⟨b,arr,ty,h1,q1.trans h2,h3.mono hle,h4,⟨fun o=>by rw [q2];exact h5.m o,by rw [q3];exact h5.mm⟩,h6⟩
 | lp j off=>exact h
 | own tip t sz es=>
  obtain ⟨xs,h1,h2,h3,h4,h5,h6⟩:=h
  refine ⟨xs,⟨h1.1, ?_⟩,h2.mono hle,h3,h4,h5,fun b hbk=>?_⟩
  ·rcases h1.2 with hn|⟨gb,cap,cur,hv,hB,hg,rest⟩
   ·exact .inl hn
   ·exact .inr ⟨gb,cap,cur,hv,hB,hg.keep (hb rfl gb (by simp [hv,aQ])).1,rest⟩
  ·obtain ⟨_,q2,q3⟩:=hb rfl b hbk
   rw [q2,q3];exact h6 b hbk
 | al j=>exact h
 | ep j sz i off=>exact h
 | om es=>
  obtain ⟨b,ents,clock,h1,h2,h3,h4,h5,h6⟩:=h
  obtain ⟨q1,q2,q3⟩:=hb rfl b (by simp [h1,aQ])
  exact ⟨b,ents,clock,h1,q1.trans h2,h3.mono hle,h4.mono hle,⟨fun o=>by rw [q2];exact h5.m o,by rw [q3];exact h5.mm⟩,h6⟩
theorem dH.next {g g':af} {n n' B:Nat} {w w':World} {tm:Nat→Value} {env:Env} (h:dH g n B w tm env) (hle:g.le n g' n')
  (hb:∀k e,lk env k=some e→e.owns=true→∀b,aQ (tm k)=some b→w'.heap[b]?=w.heap[b]?∧g'.m b=g.m b∧g'.mm b=g.mm b∧(g'.taken n' b→g.taken n b)):
  dH g' n' B w' tm env where
 rel k e hk:=(h.rel k e hk).next hle fun ho b hbk=>let ⟨a,b,c,_⟩:=hb k e hk ho b hbk;⟨a,b,c⟩
 apart:=h.apart
 off k e hk ho b hbk ht:=h.off k e hk ho b hbk ((hb k e hk ho b hbk).2.2.2 ht)
 refs:=h.refs
def upd (tm:Nat→Value) (d:Nat) (v:Value):Nat→Value:=fun k=>if k=d then v else tm k
theorem upd_same (tm:Nat→Value) (d:Nat) (v:Value):upd tm d v d=v:=by simp [upd]
theorem upd_ne (tm:Nat→Value) {d k:Nat} (v:Value) (h:k≠d):upd tm d v k=tm k:=by simp [upd,h]
theorem oO.upd {g:af} {n B:Nat} {w:World} {tm:Nat→Value} {k d:Nat} {v:Value} {e:EV} (h:oO g n B w tm k e) (hk:k≠d) (hr:∀j,e.refers j=true→j≠d):
  oO g n B w (upd tm d v) k e:=by
 cases e with
 | v a=>simpa [oO,upd_ne tm v hk] using h
 | bx cs=>simpa [oO,upd_ne tm v hk] using h
 | lp j off=>have:=hr j (by simp [EV.refers]);simpa [oO,upd_ne tm v hk,upd_ne tm v this] using h
 | own tip t sz es=>simpa only [oO,upd_ne tm v hk] using h
 | al j=>have:=hr j (by simp [EV.refers]);simpa [oO,upd_ne tm v hk,upd_ne tm v this] using h
 | ep j sz i off=>have:=hr j (by simp [EV.refers]);simpa [oO,upd_ne tm v hk,upd_ne tm v this] using h
 | om es=>simpa only [oO,upd_ne tm v hk] using h
theorem Ro {env:Env} {d k:Nat} {e e':EV} (h:lk (put env d e) k=some e') (hk:k≠d):
  (lk env k=some e'∧((∃o,lk env d=some o∧o.owns=true)→e'.refers d=false))∨e'=.v .u:=by
 rcases KR e (Ne.symm hk) (env:=env) with h1|⟨o,ho,hown,h1⟩
 ·rw [h1] at h
  by_cases hx:∃o,lk env d=some o∧o.owns=true
  ·obtain ⟨o,ho,hown⟩:=hx
   have h2:lk (put env d e) k=(lk env k).map fun e=>if e.refers d then .v .u else e:=by
    unfold put;rw [ho];simp only [hown,if_true];rw [aJ _ _ (Ne.symm hk),pq]
   rw [h1,h] at h2
   simp only [Option.map_some,Option.some.injEq] at h2
   by_cases hr:e'.refers d=true
   ·right;rw [if_pos hr] at h2;exact h2
   ·left;exact ⟨h,fun _=>by simpa using hr⟩
  ·left;exact ⟨h,fun hc=>absurd hc hx⟩
 ·rw [h1] at h
  cases hk':lk env k with
  | none=>rw [hk'] at h;simp at h
  | some x=>
   rw [hk'] at h
   simp only [Option.map_some,Option.some.injEq] at h
   by_cases hr:x.refers d=true
   ·rw [if_pos hr] at h;exact .inr h.symm
   ·rw [if_neg hr] at h;subst h;exact .inl ⟨rfl,fun _=>by simpa using hr⟩
theorem dH.put {g:af} {n B:Nat} {w:World} {tm:Nat→Value} {env:Env} (h:dH g n B w tm env) (d:Nat) (v:Value) (e:EV)
  (hv:oO g n B w (upd tm d v) d e) (href:∀j,e.refers j=true→j≠d∧∃o,lk env j=some o∧o.owns=true)
  (hown:e.owns=true→∀b,aQ v=some b→(∀k e',lk env k=some e'→e'.owns=true→k≠d→aQ (tm k)≠some b)∧¬g.taken n b):
  dH g n B w (upd tm d v) (put env d e):=by
 have old:∀k e',lk (Ai.put env d e) k=some e'→k≠d→(lk env k=some e'∧(∀j,e'.refers j=true→j≠d))∨e'=.v .u:=by
  intro k e' hk hkd
  rcases Ro hk hkd with ⟨h1,h2⟩|h1
  ·refine .inl ⟨h1,fun j hj hjd=>?_⟩
   subst hjd
   have:=h2 (h.refs k e' j h1 hj)
   simp [this] at hj
  ·exact .inr h1
 refine ⟨fun k e' hk=>?_,fun k k' e1 e2 hk hk' ho ho' hne b hb=>?_,fun k e' hk ho b hb=>?_,fun k e' j hk hr=>?_⟩
 ·by_cases hkd:k=d
  ·subst hkd;rw [jq] at hk;cases hk;exact hv
  ·rcases old k e' hk hkd with ⟨h1,h2⟩|h1
   ·exact (h.rel k e' h1).upd hkd h2
   ·subst h1;exact Rep.u _
 ·by_cases hkd:k=d
  ·subst hkd
   rw [jq] at hk;cases hk
   rw [upd_same] at hb
   rw [upd_ne tm v (Ne.symm hne)]
   rcases old k' e2 hk' (Ne.symm hne) with ⟨h1,_⟩|h1
   ·exact (hown ho b hb).1 k' e2 h1 ho' (Ne.symm hne)
   ·subst h1;simp [EV.owns] at ho'
  ·rcases old k e1 hk hkd with ⟨h1,_⟩|h1
   ·rw [upd_ne tm v hkd] at hb
    by_cases hkd':k'=d
    ·subst hkd'
     rw [jq] at hk';cases hk'
     rw [upd_same]
     intro hb'
     exact (hown ho' b hb').1 k e1 h1 ho hkd hb
    ·rcases old k' e2 hk' hkd' with ⟨h2,_⟩|h2
     ·rw [upd_ne tm v hkd'];exact h.apart k k' e1 e2 h1 h2 ho ho' hne b hb
     ·subst h2;simp [EV.owns] at ho'
   ·subst h1;simp [EV.owns] at ho
 ·by_cases hkd:k=d
  ·subst hkd
   rw [jq] at hk;cases hk
   rw [upd_same] at hb
   exact (hown ho b hb).2
  ·rcases old k e' hk hkd with ⟨h1,_⟩|h1
   ·rw [upd_ne tm v hkd] at hb;exact h.off k e' h1 ho b hb
   ·subst h1;simp [EV.owns] at ho
 ·by_cases hkd:k=d
  ·subst hkd
   rw [jq] at hk;cases hk
   obtain ⟨hjd,o,ho,hoo⟩:=href j hr
   rcases KR e (Ne.symm hjd) (env:=env) with h1|⟨_,_,_,h1⟩
   ·exact ⟨o,h1.trans ho,hoo⟩
   ·refine ⟨o, ?_,hoo⟩
    rw [h1,ho]
    have:o.refers k=false:=by cases o<;>simp_all [EV.owns,EV.refers]
    simp [this]
  ·rcases old k e' hk hkd with ⟨h1,h2⟩|h1
   ·have hjd:=h2 j hr
    obtain ⟨o,ho,hoo⟩:=h.refs k e' j h1 hr
    rcases KR e (Ne.symm hjd) (env:=env) with h3|⟨_,_,_,h3⟩
    ·exact ⟨o,h3.trans ho,hoo⟩
    ·refine ⟨o, ?_,hoo⟩
     rw [h3,ho]
     have:o.refers d=false:=by cases o<;>simp_all [EV.owns,EV.refers]
     simp [this]
   ·subst h1;simp [EV.refers] at hr
theorem dH.UR {g:af} {n B:Nat} {w:World} {tm:Nat→Value} {env:Env} (h:dH g n B w tm env) (d:Nat) (v:Value) (a:AV) (hv:Rep g n v a):
  dH g n B w (Ai.upd tm d v) (Ai.put env d (.v a)):=
 h.put d v (.v a) (by simpa [oO,upd_same] using hv) (fun j hj=>by simp [EV.refers] at hj) (fun ho=>by simp [EV.owns] at ho)
theorem dH.turn {g:af} {n B:Nat} {w:World} {tm:Nat→Value} {env:Env} (h:dH g n B w tm env) (d:Nat) (e e':EV) (hd:lk env d=some e) (ho:e.owns=true)
  (hv:oO g n B w tm d e') (ho':e'.owns=true):dH g n B w tm ((d,e')::env) where
 rel k x hk:=by
  rw [dY] at hk
  split at hk
  ·rename_i hdk;subst hdk;cases hk;exact hv
  ·exact h.rel k x hk
 apart k k' x x' hk hk' hx hx' hne b hb:=by
  have f:∀k x,lk ((d,e')::env) k=some x→x.owns=true→∃y,lk env k=some y∧y.owns=true:=by
   intro k x hk hx
   rw [dY] at hk
   split at hk
   ·rename_i hdk;subst hdk;exact ⟨e,hd,ho⟩
   ·exact ⟨x,hk,hx⟩
  obtain ⟨y,hy,hyo⟩:=f k x hk hx
  obtain ⟨y',hy',hyo'⟩:=f k' x' hk' hx'
  exact h.apart k k' y y' hy hy' hyo hyo' hne b hb
 off k x hk hx b hb:=by
  rw [dY] at hk
  split at hk
  ·rename_i hdk;subst hdk;exact h.off d e hd ho b hb
  ·exact h.off k x hk hx b hb
 refs k x j hk hr:=by
  rw [dY] at hk
  have hx:lk env k=some x:=by
   split at hk
   ·rename_i hdk;subst hdk;cases hk;cases e'<;>simp_all [EV.owns,EV.refers]
   ·exact hk
  obtain ⟨o,hoj,hoo⟩:=h.refs k x j hx hr
  rw [dY]
  by_cases hdj:d=j
  ·exact ⟨e',by simp [hdj],ho'⟩
  ·exact ⟨o,by simp [hdj,hoj],hoo⟩
theorem dH.turnNext {g g':af} {n n' B:Nat} {w w':World} {tm:Nat→Value} {env:Env} (h:dH g n B w tm env) (d:Nat) (e e':EV) (hd:lk env d=some e) (ho:e.owns=true)
  (ho':e'.owns=true) (hle:g.le n g' n') (hv:oO g' n' B w' tm d e')
  (hb:∀k x,lk env k=some x→x.owns=true→k≠d→∀b,aQ (tm k)=some b→w'.heap[b]?=w.heap[b]?∧g'.m b=g.m b∧g'.mm b=g.mm b)
  (hL:∀k x,lk env k=some x→x.owns=true→∀b,aQ (tm k)=some b→g'.taken n' b→g.taken n b):dH g' n' B w' tm ((d,e')::env):=by
 have f:∀k x,lk ((d,e')::env) k=some x→x.owns=true→∃y,lk env k=some y∧y.owns=true:=by
  intro k x hk hx
  rw [dY] at hk
  split at hk
  ·rename_i hdk;subst hdk;exact ⟨e,hd,ho⟩
  ·exact ⟨x,hk,hx⟩
 refine ⟨fun k x hk=>?_,fun k k' x x' hk hk' hx hx' hne b hbb=>?_,fun k x hk hx b hbb hl=>?_,fun k x j hk hr=>?_⟩
 ·rw [dY] at hk
  split at hk
  ·rename_i hdk;subst hdk;cases hk;exact hv
  ·rename_i hdk
   exact (h.rel k x hk).next hle (fun hx b hbb=>hb k x hk hx (Ne.symm hdk) b hbb)
 ·obtain ⟨y,hy,hyo⟩:=f k x hk hx
  obtain ⟨y',hy',hyo'⟩:=f k' x' hk' hx'
  exact h.apart k k' y y' hy hy' hyo hyo' hne b hbb
 ·obtain ⟨y,hy,hyo⟩:=f k x hk hx
  exact h.off k y hy hyo b hbb (hL k y hy hyo b hbb hl)
 ·rw [dY] at hk
  have hx:lk env k=some x:=by
   split at hk
   ·rename_i hdk;subst hdk;cases hk;cases e'<;>simp_all [EV.owns,EV.refers]
   ·exact hk
  obtain ⟨o,hoj,hoo⟩:=h.refs k x j hx hr
  rw [dY]
  by_cases hdj:d=j
  ·exact ⟨e',by simp [hdj],ho'⟩
  ·exact ⟨o,by simp [hdj,hoj],hoo⟩
theorem dH.dropNext {g g':af} {n n' B:Nat} {w w':World} {tm:Nat→Value} {env:Env} (h:dH g n B w tm env) (d:Nat) (hle:g.le n g' n')
  (hb:∀k x,lk env k=some x→x.owns=true→k≠d→∀b,aQ (tm k)=some b→w'.heap[b]?=w.heap[b]?∧g'.m b=g.m b∧g'.mm b=g.mm b∧(g'.taken n' b→g.taken n b)):
  dH g' n' B w' tm ((d,.v .u)::jL env d):=by
 have f:∀k x,lk ((d,.v .u)::jL env d) k=some x→(x=.v .u)∨(k≠d∧lk env k=some x∧x.refers d=false):=by
  intro k x hk
  rw [dY] at hk
  split at hk
  ·cases hk;exact .inl rfl
  ·rename_i hdk
   rw [pq] at hk
   cases hx:lk env k with
   | none=>rw [hx] at hk;simp at hk
   | some y=>
    rw [hx] at hk
    simp only [Option.map_some,Option.some.injEq] at hk
    by_cases hr:y.refers d=true
    ·rw [if_pos hr] at hk;exact .inl hk.symm
    ·rw [if_neg hr] at hk;subst hk;exact .inr ⟨Ne.symm hdk,rfl,by simpa using hr⟩
 refine ⟨fun k x hk=>?_,fun k k' x x' hk hk' hx hx' hne b hbb=>?_,fun k x hk hx b hbb hl=>?_,fun k x j hk hr=>?_⟩
 ·rcases f k x hk with rfl|⟨hkd,hk',_⟩
  ·exact Rep.u _
  ·exact (h.rel k x hk').next hle (fun hx b hbb=>let ⟨a,b,c,_⟩:=hb k x hk' hx hkd b hbb;⟨a,b,c⟩)
 ·rcases f k x hk with rfl|⟨_,hy,_⟩
  ·simp [EV.owns] at hx
  ·rcases f k' x' hk' with rfl|⟨_,hy',_⟩
   ·simp [EV.owns] at hx'
   ·exact h.apart k k' x x' hy hy' hx hx' hne b hbb
 ·rcases f k x hk with rfl|⟨hkd,hy,_⟩
  ·simp [EV.owns] at hx
  ·exact h.off k x hy hx b hbb ((hb k x hy hx hkd b hbb).2.2.2 hl)
 ·rcases f k x hk with rfl|⟨_,hy,hrd⟩
  ·simp [EV.refers] at hr
  ·obtain ⟨o,ho,hoo⟩:=h.refs k x j hy hr
   have hjd:j≠d:=fun hjd=>by subst hjd;simp [hrd] at hr
   refine ⟨o, ?_,hoo⟩
   rw [dY,if_neg (Ne.symm hjd),pq,ho]
   have:o.refers d=false:=by cases o<;>simp_all [EV.owns,EV.refers]
   simp [this]
end Go.Ai
namespace Go.Ai
def NI (v:Value) (a:AV):Bool:=
 match a,v with
 | .u,_=>true
 | .i k' n',.int k n=>k == k' && n == n'
 | .b y,.bool x=>x == y
 | .s l,.string s=>s.data.toList == l
 | .np,.pointer none=>true
 | .nm,.map none=>true
 | .ns,.slice none 0 0=>true
 | .sl [],.slice none 0 0=>true
 | .nf,.nilFunc=>true
 | .ni,.nilIface=>true
 | .tu [],.tuple vs=>vs.isEmpty
 | .fn f' [] [],.func f vs ws=>f == f' && vs.isEmpty && ws.isEmpty && (match f with | .yield _=>false | _=>true)
 | _,_=>false
def nR:List Value→List AV→Bool
 | [],[]=>true
 | v::vs,a::as=>NI v a && nR vs as
 | _,_=>false
def NK (v:Value) (zs:List AV):Bool:=v.cells.toList.all Value.oneCell' && nR v.cells.toList zs
def RF:Value→AV→Bool
 | .agg vs,.ag as=>vs.toList.all Value.oneCell' && nR vs.toList as
 | v,a=>NI v a
def aS:Operand→IX→Bool
 | .tmp t,.t k=>t == k
 | .const v,.c a=>RF v a
 | .global g,.g k=>g == k
 | .func f,.c (.fn (.func f') [] [])=>f == f'
 | _,_=>false
def xC:List Operand→List IX→Bool
 | [],[]=>true
 | x::xs,y::ys=>aS x y && xC xs ys
 | _,_=>false
def V7:Option Operand→Option IX→Bool
 | none,none=>true
 | some x,some y=>aS x y
 | _,_=>false
def U4 (P:Program) (t:TypeId):Option Bool:=
 match P.underlying t with
 | some (.struct _)|some (.array _ _)=>some true
 | some _=>some false
 | none=>none
def iL (P:Program) (t:TypeId) (n:Nat):Bool:=(P.info? t).any fun i=>i.size == n
def GI (P:Program) (t:TypeId):Option Nat→Bool
 | none=>U4 P t == some false
 | some n=>U4 P t == some true && iL P t n
def vY (P:Program) (t:TypeId) (zs:List AV):Bool:=(P.info? t).any fun i=>i.zero.any fun z=>NK z zs
def UM (P:Program) (t:TypeId) (z:AV):Bool:=(P.info? t).any fun i=>i.zero.any fun v=>RF v z
def sliceOf (P:Program) (t:TypeId) (e:TypeId) (sz:Nat):Bool:=
 match P.underlying t with
 | some (.slice e')=>e' == e && iL P e sz
 | _=>false
def FQ (P:Program) (t:TypeId) (sz:Nat):Bool:=
 match P.underlying t with
 | some (.slice e)=>iL P e sz
 | _=>false
def QT (P:Program) (t:TypeId):Bool:=
 match P.underlying t with
 | some (.slice e)=>(match P.underlying e with|some (.int .u8)=>iL P e 1 | _=>false)
 | _=>false
def arrayOf (P:Program) (t:TypeId) (len sz:Nat):Option TypeId:=
 match P.underlying t with
 | some (.array n e)=>if n == len && iL P e sz then some e else none
 | _=>none
def isStr (P:Program) (t:TypeId):Bool:=match P.underlying t with|some .string=>true | _=>false
def isInt (P:Program) (t:TypeId) (k:IntKind):Bool:=match P.underlying t with|some (.int k')=>k == k' | _=>false
def UZ (P:Program) (s:TypeId) (f:Nat):Option Field:=
 match P.underlying s with
 | some (.struct fs)=>fs[f]?
 | _=>none
def BV (P:Program) (fs:Array Field):List (Nat×Operand)→List (Nat×Nat×IX)→Bool
 | [],[]=>true
 | (i,x)::r,(o,n,y)::r'=>(match fs[i]? with|some f=>f.offset == o && iL P f.type n|none=>false) && aS x y && BV P fs r r'
 | _,_=>false
def yg (n:Nat):List (Nat×Operand)→List (Nat×Nat×IX)→Bool
 | [],[]=>true
 | (i,x)::r,(o,m,y)::r'=>i * n == o && m == n && aS x y && yg n r r'
 | _,_=>false
def BU:List (Nat×Operand)→List (Nat×IX)→Bool
 | [],[]=>true
 | (i,x)::r,(j,y)::r'=>i == j && aS x y && BU r r'
 | _,_=>false
def UD (P:Program) (k:Nat) (t:TypeId) (y:Operand):Bool:=
 match k,P.underlying t,y with
 | 0,some (.slice _),.const (.slice none 0 0)=>true
 | 1,some (.map _ _),.const (.map none)=>true
 | 2,some (.func _ _ _),.const .nilFunc=>true
 | 3,some (.pointer _),.const (.pointer none)=>true
 | 4,some (.interface _),.const .nilIface=>true
 | _,_,_=>false
def isBool (P:Program) (t:TypeId):Bool:=match P.underlying t with|some .bool=>true | _=>false
def uw (P:Program):Nat→List Field→Bool
 | _,[]=>true
 | i,f::r=>f.offset == i && f.name != "_" && isStr P f.type && uw P (i+1) r
def SX (P:Program):Nat→TypeId→Bool
 | 0,t=>(match P.underlying t with|some (.int _)=>true | _=>false)
 | 1,t=>(match P.underlying t with|some .string=>true | _=>false)
 | 2,t=>(match P.underlying t with|some .bool=>true | _=>false)
 | _,_=>false
def jY (P:Program):Nat→List Nat→List Field→Bool
 | _,[],[]=>true
 | i,k::ks,f::r=>f.offset == i && f.name != "_" && SX P k f.type && jY P (i+1) ks r
 | _,_,_=>false
def Xb (P:Program) (ks:List Nat) (t:TypeId):Bool:=match P.underlying t with|some (.struct fs)=>jY P 0 ks fs.toList && !P.stoodInHeld t && !P.eqGuardType P.depth t | _=>false
def EW (P:Program) (kk:Nat) (kt:TypeId):Bool:=
 match kk,P.underlying kt with
  | 0,some (.int _)=>true
  | 1,some .string=>true
  | 2,some .bool=>true
  | n+3,some (.struct fs)=>(if n<50 then fs.size == n && uw P 0 fs.toList else jY P 0 (kds n) fs.toList) && !P.stoodInHeld kt
  | _,_=>false
def IL (P:Program) (kk:Nat) (t:TypeId):Bool:=
 match P.underlying t with
 | some (.map kt _)=>EW P kk kt
 | _=>false
def au (P:Program) (op:Op):AOp→Bool
 | .mov ix=>match op with | .move x | .assign x=>aS x ix | _=>false
 | .asg ix=>match op with | .move x | .assign x=>aS x ix | _=>false
 | .cpy ix=>match op with | .move x | .assign x=>aS x ix | _=>false
 | .nbuf _ _=>match op with | .move (.const (.slice none 0 0)) | .assign (.const (.slice none 0 0))=>true | _=>false
 | .pick c a b=>match op with | .pick c' a' b'=>aS c' c && aS a' a && aS b' b | _=>false
 | .lbox ix=>match op with | .box _ x=>aS x ix | _=>false
 | .hbox ix=>match op with | .box _ x=>aS x ix | _=>false
 | .lalloc zs=>match op with | .alloc t=>vY P t zs | _=>false
 | .halloc zs=>match op with | .alloc t=>vY P t zs | _=>false
 | .load n ia=>match op with | .load t a=>aS a ia && GI P t n | _=>false
 | .loadp _ n ia=>match op with | .load t a=>aS a ia && GI P t n | _=>false
 | .store n ia ix=>match op with | .store t a x=>aS a ia && aS x ix && iL P t n | _=>false
 | .fld off ix=>match op with
  | .fieldAddr s x f=>aS x ix && (match UZ P s f with|some fd=>fd.offset == off && (P.info? fd.type).any (fun i=>i.size != 0)|none=>false)
  | _=>false
 | .idx sz ix ii=>match op with | .indexAddr t x i=>aS x ix && aS i ii && FQ P t sz | _=>false
 | .idxa len sz ix ii=>match op with | .indexAddr t x i=>aS x ix && aS i ii && (arrayOf P t len sz).isSome | _=>false
 | .getf ..=>false
 | .idxv len sz n ix ii=>match op with
  | .index t x i=>aS x ix && aS i ii && (match arrayOf P t len sz with|some e=>GI P e n|none=>false)
  | _=>false
 | .idxs ix ii=>match op with | .index t x i=>aS x ix && aS i ii && isStr P t | _=>false
 | .bin b ix iy=>match op with | .binOp b' _ x y _=>b == b' && aS x ix && aS y iy | _=>false
 | .ieq neg ks ix iy=>match op with | .binOp b' t x y _=>(if neg then b' == .neq else b' == .eql) && aS x ix && aS y iy && Xb P ks t | _=>false
 | .beq neg ix iy=>match op with | .binOp b' t x y _=>(if neg then b' == .neq else b' == .eql) && aS x ix && aS y iy && isBool P t | _=>false
 | .nileq neg k ix=>match op with | .binOp b' t x y _=>(if neg then b' == .neq else b' == .eql) && aS x ix && UD P k t y | _=>false
 | .un u ix=>match op with | .unOp u' _ x=>u == u' && aS x ix | _=>false
 | .toInt k ix=>match op with | .convert s d x=>aS x ix && isInt P d k && (P.underlying s).isSome | _=>false
 | .s2b ix=>match op with | .convert s d x=>aS x ix && isStr P s && QT P d | _=>false
 | .b2s ..=>false
 | .same ..=>false
 | .mark ..=>false
 | .markk ..=>false
 | .build zs ps=>match op with
  | .build t qs=>(match P.underlying t with
   | some (.struct fs)=>vY P t zs && (fs.toList.all fun f=>(P.info? f.type).isSome) && BV P fs qs.toList ps
   | some (.array _ e)=>vY P t zs && (match P.info? e with|some i=>yg i.size qs.toList ps|none=>false)
   | _=>false)
  | _=>false
 | .bsl _ e sz len zs ps=>match op with
  | .buildSlice t n qs=>n == len && sliceOf P t e sz && vY P e zs && BU qs.toList ps
  | _=>false
 | .app e sz ix iy=>match op with
  | .call c=>(match c.callee,c.args.toList,c.argTypes with
   | .builtin .append,[x,y],ts=>(match ts.toList with
    | [t,t']=>t == t' && aS x ix && aS y iy && sliceOf P t e sz && (P.info? e).any (fun i=>i.bytes≤65536 && i.zero.any fun z=>z.cells.size == sz)
    | _=>false)
   | _,_,_=>false)
  | _=>false
 | .appr e sz ix iy=>match op with
  | .call c=>(match c.callee,c.args.toList,c.argTypes with
   | .builtin .append,[x,y],ts=>(match ts.toList with
    | [t,t']=>t == t' && aS x ix && aS y iy && sliceOf P t e sz && (P.info? e).any (fun i=>i.bytes≤65536 && i.zero.any fun z=>z.cells.size == sz)
    | _=>false)
   | _,_,_=>false)
  | _=>false
 | .apprp _ e sz ix iy=>match op with
  | .call c=>(match c.callee,c.args.toList,c.argTypes with
   | .builtin .append,[x,y],ts=>(match ts.toList with
    | [t,t']=>t == t' && aS x ix && aS y iy && sliceOf P t e sz && (P.info? e).any (fun i=>i.bytes≤65536 && i.zero.any fun z=>z.cells.size == sz)
    | _=>false)
   | _,_,_=>false)
  | _=>false
 | .appk e sz ix iy=>match op with
  | .call c=>(match c.callee,c.args.toList,c.argTypes with
   | .builtin .append,[x,y],ts=>(match ts.toList with
    | [t,t']=>t == t' && aS x ix && aS y iy && sliceOf P t e sz && (P.info? e).any (fun i=>i.bytes≤65536 && i.zero.any fun z=>z.cells.size == sz)
    | _=>false)
   | _,_,_=>false)
  | _=>false
 | .appe e sz ix iy=>match op with
  | .call c=>(match c.callee,c.args.toList,c.argTypes with
   | .builtin .append,[x,y],ts=>(match ts.toList with
    | [t,t']=>t == t' && aS x ix && aS y iy && sliceOf P t e sz && (P.info? e).any (fun i=>i.bytes≤65536 && i.zero.any fun z=>z.cells.size == sz)
    | _=>false)
   | _,_,_=>false)
  | _=>false
 | .appv e sz ix iy=>match op with
  | .call c=>(match c.callee,c.args.toList,c.argTypes with
   | .builtin .append,[x,y],ts=>(match ts.toList with
    | [t,t']=>t == t' && aS x ix && aS y iy && sliceOf P t e sz && (P.info? e).any (fun i=>i.bytes≤65536 && i.zero.any fun z=>z.cells.size == sz)
    | _=>false)
   | _,_,_=>false)
  | _=>false
 | .appz e sz zs ix iy=>match op with
  | .call c=>(match c.callee,c.args.toList,c.argTypes with
   | .builtin .append,[x,y],ts=>(match ts.toList with
    | [t,t']=>isInt P t' .i64 && aS x ix && aS y iy && sliceOf P t e sz && vY P e zs && (P.info? e).any (fun i=>i.bytes≤65536)
    | _=>false)
   | _,_,_=>false)
  | _=>false
 | .capn ix=>match op with
  | .call c=>(match c.callee,c.args.toList,c.argTypes.toList with
   | .builtin .cap,[x],[t]=>aS x ix && (match P.underlying t with|some (.slice _)=>true | _=>false)
   | _,_,_=>false)
  | _=>false
 | .mks e sz zs ix=>match op with
  | .makeSlice t l c=>aS c ix && aS l ix && sliceOf P t e sz && vY P e zs && (P.info? e).any (fun i=>i.bytes≤65536)
  | _=>false
 | .asgk ..=>false
 | .hallocp _ zs=>match op with | .alloc t=>vY P t zs | _=>false
 | .lallocp _ zs=>match op with | .alloc t=>vY P t zs | _=>false
 | .storep n ia ix=>match op with | .store t a x=>aS a ia && aS x ix && iL P t n | _=>false
 | .loadl n ia=>match op with | .load t a=>aS a ia && GI P t n | _=>false
 | .storel n k ix=>match op with | .store t a x=>aS a (.t k) && aS x ix && iL P t n | _=>false
 | .umap ..=>false
 | .uins ..=>false
 | .bse=>match op with
  | .buildSlice t 0 qs=>qs.toList.isEmpty && (match P.underlying t with|some (.slice e)=>(P.info? e).any (fun i=>i.size≤16777216) | _=>false)
  | _=>false
 | .apps ..=>false
 | .appks ..=>false
 | .clrk zs ix=>match op with
  | .call c=>(match c.callee,c.args.toList,c.argTypes.toList with
   | .builtin .clear,[x],[t]=>aS x ix && (match P.underlying t with|some (.slice e)=>vY P e zs | _=>false)
   | _,_,_=>false)
  | _=>false
 | .len k ix=>match op with
  | .call c=>(match c.callee,c.args.toList,c.argTypes.toList with
   | .builtin .len,[x],[t]=>aS x ix && (match k,P.underlying t with | 0,some (.slice _)=>true | 1,some .string=>true | 2,some (.map _ _)=>true | _,_=>false)
   | _,_,_=>false)
  | _=>false
 | .lenA ..=>false
 | .minmax isMin ix iy=>match op with
  | .call c=>(match c.callee,c.args.toList with
   | .builtin b,[x,y]=>aS x ix && aS y iy && (if isMin then b == .min else b == .max)
   | _,_=>false)
  | _=>false
 | .slc sz ix lo hi=>match op with | .slice t x l h none=>aS x ix && V7 l lo && V7 h hi && FQ P t sz | _=>false
 | .slc3 ..=>false
 | .slcs ix lo hi=>match op with | .slice t x l h none=>aS x ix && V7 l lo && V7 h hi && isStr P t | _=>false
 | .ext ix i=>match op with | .extract x j=>i == j && aS x ix | _=>false
 | .mkfn f as cs=>match op with | .makeFunc f' vs ws=>(f == f' && (match f with | .yield _=>false | _=>true)) && xC vs.toList as && xC ws.toList cs | _=>false
 | .mkif t ix=>match op with | .makeInterface t' x=>t == t' && aS x ix && (match P.underlying t with|some (.interface _)|none=>false | _=>true) | _=>false
 | .look kk z ok im ik=>match op with
  | .lookup t m k ok'=>ok == ok' && aS m im && aS k ik && IL P kk t && (match P.underlying t with|some (.map _ et)=>UM P et z | _=>false)
  | _=>false
 | .mkmap=>match op with | .makeMap _ none=>true | _=>false
 | .ins ..=>false
 | .hmapo=>match op with | .makeMap _ none=>true | _=>false
 | .ment kk z im ik=>match op with
  | .mapEntry t m k=>aS m im && aS k ik && IL P kk t && (match P.underlying t with|some (.map _ et)=>UM P et z | _=>false)
  | _=>false
 | .msto im ii iv=>match op with
  | .entryStore _ m i v=>aS m im && aS i ii && aS v iv
  | _=>false
 | .hmap=>match op with | .makeMap _ none=>true | _=>false
 | .hins kk im ik iv=>match op with
  | .insert t m k v | .mapUpdate t m k v=>aS m im && aS k ik && aS v iv && IL P kk t
  | _=>false
 | .hdel kk im ik=>match op with
  | .call c=>(match c.callee,c.args.toList,c.argTypes.toList with
   | .builtin .delete,[m,k],[t,_]=>aS m im && aS k ik && IL P kk t
   | _,_,_=>false)
  | _=>false
 | .call jf as=>match op with
  | .call c=>(match c.callee with | .value f=>aS f jf && xC c.args.toList as | _=>false)
  | _=>false
 | .callp jf as=>match op with
  | .call c=>(match c.callee with | .value f=>aS f jf && xC c.args.toList as | _=>false)
  | _=>false
 | .loadw n ia _=>match op with | .load t a=>aS a ia && GI P t n | _=>false
 | .loadv ia _ _=>match op with | .load t a=>aS a ia && GI P t none | _=>false
 | .callh _ jf as _=>match op with
  | .call c=>(match c.callee with | .value f=>aS f jf && xC c.args.toList as | _=>false)
  | _=>false
 | .nilchk ix=>match op with | .nilCheck x=>aS x ix | _=>false
 | .panic ix=>match op with | .panic x=>aS x ix | _=>false
def FD (ops:Array Oper):Option (Nat×Bool)→Option (Nat×Bool)→Bool
 | none,none=>true
 | some (j,want),some (k,want')=>want == want' && ((ops[j]?).bind (·.dst)) == some k
 | _,_=>false
structure Wd where
 n:Nat
 lo:Nat
 pn:List (Nat×Nat)
 dd:List Deferred
def Wd.std (n:Nat):Wd:=⟨n,0,[],[]⟩
@[simp] theorem Wd.std_n (n:Nat):(Wd.std n).n=n:=rfl
@[simp] theorem Wd.std_lo (n:Nat):(Wd.std n).lo=0:=rfl
@[simp] theorem Wd.std_pn (n:Nat):(Wd.std n).pn=[]:=rfl
@[simp] theorem Wd.std_dd (n:Nat):(Wd.std n).dd=[]:=rfl
def sK (P:Program) (N:Wd) (ops:Array Oper) (o:Oper) (ao:ak):Bool:=
 o.dst == ao.dst && (match o.dst with|some d=>decide (d<N.n) && decide (N.lo≤d)|none=>true) && FD ops o.guard ao.guard && au P o.op ao.op
def iw (P:Program) (N:Wd) (ops:Array Oper):List Oper→List ak→Bool
 | [],[]=>true
 | o::r,ao::r'=>sK P N ops o ao && iw P N ops r r'
 | _,_=>false
def pX (ops:Array Oper) (i:Nat):List Nat:=
 match ops[i]? with
 | some o=>(o.after.toList.filter fun e=>Region.binds .any e).map (·.on)
 | none=>[]
def Ii (acc:List (Nat×Nat)) (e:Nat):Nat:=
 match acc with
 | []=>0
 | (i,m)::r=>if i == e then m else Ii r e
def OM (acc:List (Nat×Nat)):List Nat→Nat
 | []=>0
 | e::r=>(2 ^ e ||| Ii acc e) ||| OM acc r
def masks (ops:Array Oper):List Nat→List (Nat×Nat)→List (Nat×Nat)
 | [],acc=>acc
 | i::r,acc=>masks ops r ((i,OM acc (pX ops i))::acc)
def NJ (ops:Array Oper):List Nat→List Nat→Bool
 | [],_=>true
 | i::r,seen=>decide (i<ops.size) && !(seen.contains i) && (pX ops i).all (fun e=>seen.contains e) && NJ ops r (i::seen)
def U0 (aops:List ak) (ms:List (Nat×Nat)) (j i:Nat):Bool:=
 (Ii ms i).testBit j || (match aops[j]?,aops[i]? with|some o,some p=>apart o p | _,_=>false)
def JV (aops:List ak) (ms:List (Nat×Nat)):List Nat→Bool
 | []=>true
 | j::r=>r.all (U0 aops ms j) && JV aops ms r
def JW (ops:Array Oper) (aops:List ak) (π:List Nat):Bool:=
 π.length == ops.size && (List.range ops.size).all (fun i=>π.contains i) && NJ ops π [] && JV aops (masks ops π []) π
def sN (P:Program) (N:Wd):Code→ah→Bool
 | _,.cut=>true
 | .skip,.skip=>true
 | .ret,.ret=>true
 | .exit i,.exit j=>i == j
 | .region _ ops draw,.region aops ord _=>iw P N ops ops.toList aops && (match draw,ord with
  | false,none=>true
  | true,some (π,_)=>JW ops aops π
  | _,_=>false)
 | .seq a b,.seq a' b'=>sN P N a a' && sN P N b b'
 | .cond c a b,.cond c' a' b'=>aS c c' && sN P N a a' && sN P N b b'
 | .block i b,.block j b'=>i == j && sN P N b b'
 | .loop b,.loop _ b'=>sN P N b b'
 | .rangeFunc f ps a b,.range f' ps' a' b'=>aS f f' && ps.toList == ps' && (ps.toList.all fun p=>decide (p<N.n)) && sN P (.std N.n) a a' && sN P (.std N.n) b b'
 | .label i,.label j=>i == j
 | .goto i,.goto j=>i == j
 | .scope c,.scope l _ a b=>sN P N c a && (match findLabel c l with|some r=>sN P N r b|none=>false)
 | _,_=>false
end Go.Ai
namespace Go.Ai
def DR (P:Program) (g:af) (n:Nat) (r:Loop) (env:Env) (ps:List Nat) (asg body:ah) (pend:PU):Prop:=
 r.params.toList=ps∧sN P (.std r.tmps.size) r.assign asg=true∧sN P (.std r.tmps.size) r.body body=true∧
 (∀k e,lk env k=some e→∃a,e=.v a∧Rep g n (r.tmps.getD k undef) a)∧(∀p∈ps,p<r.tmps.size)∧
 (match pend with
  | .ready=>r.state=.ready∧r.pending=none
  | .busy=>r.state=.busy
  | .ret=>r.state=.done∧r.pending=some .ret
  | .exit id=>r.state=.done∧r.pending=some (.exit id))
def XO (g:af) (w:World) (l t sz k:Nat):Prop:=
 ∃v xs,g.hist l k=some v∧(∀k',k<k'→g.hist l k'=none)∧w.ownsRow 0 t sz v k xs∧bH xs∧(0<sz∧0<k)∧
  ∀b,aQ v=some b→g.mm b=none∧(∀j,xs.length≤j→g.m b j=none)∧∀j (h:j<xs.length),g.m b j=some xs[j]
def Zt (g:af) (n:Nat) (w:World) (l t sz ver:Nat) (cs:List AV):Prop:=
 ∃b off len cap cur,g.hist l ver=some (.slice (some ⟨b,off,none⟩) len cap)∧(∀k,ver<k→g.hist l k=none)∧fP g b∧cs.length=len * sz∧len≤cap∧cap≤maxLen∧0<sz∧
  w.heap[b]?=some (.cells cur t (0,0))∧off+cap * sz≤cur.size∧aB g n ((cur.toList.drop off).take cs.length) cs∧bH ((cur.toList.drop off).take cs.length)
def IQ (P:Program) (g:af) (n:Nat) (w:World) (l:Nat):eH→Prop
 | .cells cs=>fP g (g.L l)∧∃arr ty,w.heap[g.L l]?=some (.cells arr ty (0,0))∧aB g n arr.toList cs∧bH arr.toList
 | .loop env ps asg body pend=>fP g (g.L l)∧∃r,w.heap[g.L l]?=some (.loop r)∧DR P g n r env ps asg body pend
 | .dfr=>fP g (g.L l)∧w.heap[g.L l]?=some (.deferred (some []))
 | .row t sz k=>XO g w l t sz k
 | .map es=>fP g (g.L l)∧∃ents clock,w.heap[g.L l]?=some (.map ents clock)∧aB g n (ents.toList.map (·.key)) (es.map (·.1))∧aB g n (ents.toList.map (·.val)) (es.map (·.2))∧Born ents clock
 | .mapo es=>fP g (g.L l)∧∃ents clock,w.heap[g.L l]?=some (.map ents clock)∧aB g n (ents.toList.map (·.key)) (es.map (·.1))∧aB g n (ents.toList.map (·.val)) (es.map (·.2))∧zX ents clock
 | .buf t sz ver cs=>Zt g n w l t sz ver cs
 | .umap es=>fP g (g.L l)∧∃ents clock,∃ents':List MapEntry,w.heap[g.L l]?=some (.map ents clock)∧ents'.Perm ents.toList∧ents'.map (·.key)=es.map (fun p=>Value.string ⟨p.1.toArray⟩)∧aB g n (ents'.map (·.val)) (es.map (·.2))∧(es.Pairwise fun a b=>a.1<b.1)∧(∀p∈es,p.2.flat=true)∧Born ents clock
 | .dead=>True
theorem DR.mono {P:Program} {g g':af} {n n':Nat} (hle:g.le n g' n') {r:Loop} {env:Env} {ps:List Nat} {asg body:ah} {pend:PU}
  (h:DR P g n r env ps asg body pend):DR P g' n' r env ps asg body pend:=by
 obtain ⟨h1,h2,h3,h4,h5⟩:=h
 exact ⟨h1,h2,h3,fun k e hk=>let ⟨a,ha,hr⟩:=h4 k e hk;⟨a,ha,hr.mono hle⟩,h5⟩
theorem IQ.next {P:Program} {g g':af} {n n':Nat} {w w':World} {l:Nat} {o:eH} (h:IQ P g n w l o) (hle:g.le n g' n') (hl:l<n) (hh:g'.hist l=g.hist l)
  (hb:∀b,g.bl l b→w'.heap[b]?=w.heap[b]?∧g'.m b=g.m b∧g'.mm b=g.mm b):IQ P g' n' w' l o:=by
 have hL:=hle.L l hl
 obtain ⟨e1,e2,e3⟩:=hb (g.L l) (.inl rfl)
 have hnc:fP g (g.L l)→fP g' (g'.L l):=fun h=>by rw [hL];exact ⟨fun o=>by rw [e2];exact h.m o,by rw [e3];exact h.mm⟩
 cases o with
 | cells cs=>obtain ⟨h0,arr,ty,h1,h2,h3⟩:=h;exact ⟨hnc h0,arr,ty,by rw [hL];exact e1.trans h1,h2.mono hle,h3⟩
 | loop env ps asg body pend=>obtain ⟨h0,r,h1,h2⟩:=h;exact ⟨hnc h0,r,by rw [hL];exact e1.trans h1,h2.mono hle⟩
 | dfr=>exact ⟨hnc h.1,by rw [hL];exact e1.trans h.2⟩
 | dead=>trivial
 | umap es=>obtain ⟨h0,ents,clock,ents',h1,h2,h3,h4,h5,h6⟩:=h;exact ⟨hnc h0,ents,clock,ents',by rw [hL];exact e1.trans h1,h2,h3,h4.mono hle,h5,h6⟩
 | map es=>obtain ⟨h0,ents,clock,h1,h2,h3⟩:=h;exact ⟨hnc h0,ents,clock,by rw [hL];exact e1.trans h1,h2.mono hle,h3.1.mono hle,h3.2⟩
 | mapo es=>obtain ⟨h0,ents,clock,h1,h2,h3⟩:=h;exact ⟨hnc h0,ents,clock,by rw [hL];exact e1.trans h1,h2.mono hle,h3.1.mono hle,h3.2⟩
 | buf t sz ver cs=>
  obtain ⟨b,off,len,cap,cur,h1,h2,h3,h4,h5,h6,h7,h8,h9,h10,h11⟩:=h
  obtain ⟨q1,q2,q3⟩:=hb b (.inr ⟨ver,_,h1,rfl⟩)
  exact ⟨b,off,len,cap,cur,by rw [hh];exact h1,fun k hk=>by rw [hh];exact h2 k hk,⟨fun o=>by rw [q2];exact h3.m o,by rw [q3];exact h3.mm⟩,h4,h5,h6,h7,q1.trans h8,h9,h10.mono hle,h11⟩
 | row t sz k=>
  obtain ⟨v,xs,h1,h2,h3,h4,h5,h6⟩:=h
  refine ⟨v,xs,by rw [hh];exact h1,fun k' hk=>by rw [hh];exact h2 k' hk,⟨h3.1, ?_⟩,h4,h5,fun b hbk=>?_⟩
  ·rcases h3.2 with hn|⟨gb,cap,cur,hv,hB,hg,rest⟩
   ·exact .inl hn
   ·exact .inr ⟨gb,cap,cur,hv,hB,(hb gb (.inr ⟨k,v,h1,by simp [hv,aQ]⟩)).1.trans hg,rest⟩
  ·obtain ⟨_,q2,q3⟩:=hb b (.inr ⟨k,v,h1,hbk⟩)
   rw [q2,q3];exact h6 b hbk
structure kT (P:Program) (g:af) (s:St) (w:World):Prop where
 inj:∀l l' b,l<s.length→l'<s.length→g.bl l b→g.bl l' b→l=l'
 lt:∀l b,l<s.length→g.bl l b→b<w.heap.size
 obj:∀l o,s[l]?=some o→IQ P g s.length w l o
theorem kT.cells {P:Program} {g:af} {s:St} {w:World} (h:kT P g s w) (l:Nat) (cs:List AV) (hs:s[l]?=some (.cells cs)):
  ∃arr ty,w.heap[g.L l]?=some (.cells arr ty (0,0))∧aB g s.length arr.toList cs∧bH arr.toList:=(h.obj l _ hs).2
theorem kT.loop {P:Program} {g:af} {s:St} {w:World} (h:kT P g s w) (l:Nat) (env:Env) (ps:List Nat) (asg body:ah) (pend:PU) (hs:s[l]?=some (.loop env ps asg body pend)):
  ∃r,w.heap[g.L l]?=some (.loop r)∧DR P g s.length r env ps asg body pend:=(h.obj l _ hs).2
theorem kT.dfr {P:Program} {g:af} {s:St} {w:World} (h:kT P g s w) (l:Nat) (hs:s[l]?=some .dfr):w.heap[g.L l]?=some (.deferred (some [])):=(h.obj l _ hs).2
theorem kT.setAt {P:Program} {g g':af} {s:St} {w w':World} (h:kT P g s w) {l0:Nat} (hl0:l0<s.length) {o':eH} (hle:g.le s.length g' s.length)
  (hh:∀l,l<s.length→l≠l0→g'.hist l=g.hist l) (hbl:∀b,g'.bl l0 b→g.bl l0 b∨w.heap.size≤b) (hlt:∀b,g'.bl l0 b→b<w'.heap.size) (hsz:w.heap.size≤w'.heap.size)
  (hb:∀b,b<w.heap.size→¬g.bl l0 b→w'.heap[b]?=w.heap[b]?∧g'.m b=g.m b∧g'.mm b=g.mm b) (ho:IQ P g' s.length w' l0 o'):kT P g' (s.set l0 o') w':=by
 have hbl2:∀l,l<s.length→l≠l0→∀b,g'.bl l b→g.bl l b:=by
  intro l hl hne b hb'
  rcases hb' with hb' | ⟨k,v,hk,hv⟩
  ·exact .inl ((hle.L l hl).symm.trans hb')
  ·rw [hh l hl hne] at hk;exact .inr ⟨k,v,hk,hv⟩
 have mixed:∀l b,l<s.length→l≠l0→g'.bl l b→g'.bl l0 b→False:=by
  intro l b hl hne h1 h2
  have h1':=hbl2 l hl hne b h1
  rcases hbl b h2 with h3|h3
  ·exact hne (h.inj l l0 b hl hl0 h1' h3)
  ·have:=h.lt l b hl h1';omega
 refine ⟨fun l l' b hl hl' h1 h2=>?_,fun l b hl hb'=>?_,fun l o hs=>?_⟩
 ·simp only [List.length_set] at hl hl'
  by_cases e:l=l0
  ·by_cases e':l'=l0
   ·rw [e,e']
   ·subst e;exact (mixed l' b hl' e' h2 h1).elim
  ·by_cases e':l'=l0
   ·subst e';exact (mixed l b hl e h1 h2).elim
   ·exact h.inj l l' b hl hl' (hbl2 l hl e b h1) (hbl2 l' hl' e' b h2)
 ·simp only [List.length_set] at hl
  by_cases e:l=l0
  ·subst e;exact hlt b hb'
  ·exact Nat.lt_of_lt_of_le (h.lt l b hl (hbl2 l hl e b hb')) hsz
 ·rw [List.length_set]
  by_cases e:l0=l
  ·subst e;rw [List.getElem?_set_self hl0] at hs;cases hs;exact ho
  ·rw [List.getElem?_set_ne e] at hs
   have hl:l<s.length:=(List.getElem?_eq_some_iff.1 hs).1
   refine (h.obj l o hs).next hle hl (hh l hl (Ne.symm e)) (fun b hb'=>hb b (h.lt l b hl hb') (fun hb0=>e (h.inj l0 l b hl0 hl hb0 hb')))
theorem kT.next {P:Program} {g g':af} {s:St} {w w':World} (h:kT P g s w) (hle:g.le s.length g' s.length) (hh:∀l,l<s.length→g'.hist l=g.hist l) (hsz:w.heap.size≤w'.heap.size)
  (hb:∀b,g.taken s.length b→w'.heap[b]?=w.heap[b]?∧g'.m b=g.m b∧g'.mm b=g.mm b):kT P g' s w':=by
 have hbl2:∀l,l<s.length→∀b,g'.bl l b→g.bl l b:=by
  intro l hl b hb'
  rcases hb' with hb' | ⟨k,v,hk,hv⟩
  ·exact .inl ((hle.L l hl).symm.trans hb')
  ·rw [hh l hl] at hk;exact .inr ⟨k,v,hk,hv⟩
 refine ⟨fun l l' b hl hl' h1 h2=>h.inj l l' b hl hl' (hbl2 l hl b h1) (hbl2 l' hl' b h2),fun l b hl hb'=>Nat.lt_of_lt_of_le (h.lt l b hl (hbl2 l hl b hb')) hsz,fun l o hs=>?_⟩
 have hl:l<s.length:=(List.getElem?_eq_some_iff.1 hs).1
 exact (h.obj l o hs).next hle hl (hh l hl) (fun b hb'=>hb b ⟨l,hl,hb'⟩)
theorem kT.taken_lt {P:Program} {g:af} {s:St} {w:World} (h:kT P g s w) {b:Nat} (hb:g.taken s.length b):b<w.heap.size:=
 let ⟨l,hl,hb⟩:=hb;h.lt l b hl hb
def mF (glob:Nat→Option (List AV)) (g:af):Prop:=∀k cs,glob k=some cs→Rep g 0 (.pointer (some ⟨k,0,none⟩)) (.ip cs)∧∃arr,g.mm k=some (.inr arr)∧arr.size=cs.length
structure Base (P:Program) (glob:Nat→Option (List AV)) (g:af) (s:St) (w:World):Prop where
 imm:Imm g w
 heap:kT P g s w
 glob:mF glob g
structure TD (w w':World):Prop where
 tape:w'.tape=w.tape
 drawn:w.drawn≤w'.drawn
theorem TD.trans {a b c:World} (h:TD a b) (h':TD b c):TD a c:=⟨h'.tape.trans h.tape,Nat.le_trans h.drawn h'.drawn⟩
structure Step (qt:Prop) (g:af) (n B:Nat) (w:World) (g':af) (n':Nat) (w':World):Prop where
 le:g.le n g' n'
 size:w.heap.size≤w'.heap.size
 keep:∀b,b<B→¬g.taken n b→w'.heap[b]?=w.heap[b]?
 m:∀b,b<B→¬g.taken n b→g'.m b=g.m b
 mm:∀b,b<B→g'.mm b=g.mm b
 new:∀b,g'.taken n' b→g.taken n b∨B≤b
 io:w'.os=w.os∧w'.output=w.output∧(qt→TD w w')
theorem Step.weak {qt:Prop} {g g':af} {n n' B:Nat} {w w':World} (h:Step True g n B w g' n' w'):Step qt g n B w g' n' w':=
 ⟨h.le,h.size,h.keep,h.m,h.mm,h.new,h.io.1,h.io.2.1,fun _=>h.io.2.2 trivial⟩
theorem Step.refl {qt:Prop} (g:af) (n B:Nat) (w:World):Step qt g n B w g n w:=
 ⟨.refl _ _,Nat.le_refl _,fun _ _ _=>rfl,fun _ _ _=>rfl,fun _ _=>rfl,fun b h=>.inl h,rfl,rfl,fun _=>⟨rfl,Nat.le_refl _⟩⟩
theorem Step.trans {qt:Prop} {g g' g'':af} {n n' n'' B:Nat} {w w' w'':World} (h:Step qt g n B w g' n' w') (h':Step qt g' n' B w' g'' n'' w''):Step qt g n B w g'' n'' w'':=by
 have ht:∀b,b<B→¬g.taken n b→¬g'.taken n' b:=fun b hb hn ht=>by
  rcases h.new b ht with h1|h1
  ·exact hn h1
  ·omega
 refine ⟨h.le.trans h'.le,Nat.le_trans h.size h'.size,fun b hb hn=>(h'.keep b hb (ht b hb hn)).trans (h.keep b hb hn),fun b hb hn=>(h'.m b hb (ht b hb hn)).trans (h.m b hb hn),
  fun b hb=>(h'.mm b hb).trans (h.mm b hb),fun b hb=>?_,h'.io.1.trans h.io.1,h'.io.2.1.trans h.io.2.1,fun hq=>(h.io.2.2 hq).trans (h'.io.2.2 hq)⟩
 rcases h'.new b hb with h1|h1
 ·exact h.new b h1
 ·exact .inr h1
theorem MF (g:af) (n:Nat) (v:Value) (a:AV) (h:NI v a=true):Rep g n v a:=by
 unfold NI at h
 split at h
 ·exact .u v
 ·simp at h;obtain ⟨rfl,rfl⟩:=h;exact .i _ _
 ·simp at h;subst h;exact .b _
 ·rename_i s
  obtain ⟨d⟩:=s
  simp at h;subst h
  exact Rep.s (g:=g) (n:=n) d.toList
 ·exact .np
 ·exact .nm
 ·exact .ns
 ·exact .slNil
 ·exact .nf
 ·exact .ni
 ·simp at h;subst h;exact .tu _ _ rfl (fun i hi=>by simp at hi)
 ·simp at h
  obtain ⟨⟨⟨rfl,rfl⟩,rfl⟩,_⟩:=h
  exact .fn _ _ _ _ _ rfl rfl (fun i hi=>by simp at hi) (fun i hi=>by simp at hi)
 ·cases h
theorem xR (g:af) (n:Nat):∀(vs:List Value) (as:List AV),nR vs as=true→aB g n vs as
 | [],[],_=>.nil g n
 | [],_::_,h=>by simp [nR] at h
 | _::_,[],h=>by simp [nR] at h
 | v::vs,a::as,h=>by
   simp [nR] at h
   exact .cons (MF g n v a h.1) (xR g n vs as h.2)
theorem I4 {g:af} {n:Nat} {vs:Array Value} {as:List AV} (h:aB g n vs.toList as) (h1:bH vs.toList):Rep g n (.agg vs) (.ag as):=
 .ag vs as (by simpa using h.1) (fun i hi=>h1 _ (by simp)) (fun i hi hi'=>by have:=h.2 i (by simpa using hi) hi';rwa [Array.getElem_toList] at this)
theorem IK (g:af) (n:Nat) (v:Value) (a:AV) (h:RF v a=true):Rep g n v a:=by
 unfold RF at h
 split at h
 ·simp only [Bool.and_eq_true] at h
  exact I4 (xR g n _ _ h.2) (fun x hx=>List.all_eq_true.1 h.1 x hx)
 ·exact MF g n v a h
section
variable {P:Program} {glob:Nat→Option (List AV)} {g:af} {n B:Nat} {w:World} {env:Env} {a:Act}
def Act.tm (a:Act) (k:Nat):Value:=a.tmps.getD k undef
theorem Ub (hg:mF glob g) {k:Nat} {cs:List AV} (h:glob k=some cs):Rep g n (.pointer (some ⟨k,0,none⟩)) (.ip cs):=
 (hg k cs h).1.mono ⟨fun _ _ _ h=>h,fun _ _ h=>h,fun l h=>absurd h (Nat.not_lt_zero l),fun l h=>absurd h (Nat.not_lt_zero l),Nat.zero_le n⟩
theorem dF {x:Operand} {ix:IX} (hc:aS x ix=true) (hg:mF glob g) {e:EV} (h:ev glob env ix=some e):
  (∃k,ix=.t k∧lk env k=some e∧a.eval x=Act.tm a k)∨(∃v,e=.v v∧Rep g n (a.eval x) v∧∀k,ix≠.t k):=by
 unfold aS at hc
 split at hc
 ·simp at hc;subst hc
  exact .inl ⟨_,rfl,h,rfl⟩
 ·simp [ev] at h;subst h
  exact .inr ⟨_,rfl,IK g n _ _ hc,by simp⟩
 ·simp at hc;subst hc
  simp [ev] at h
  obtain ⟨cs,hcs,rfl⟩:=h
  exact .inr ⟨_,rfl,Ub hg hcs,by simp⟩
 ·simp at hc;subst hc
  simp [ev] at h;subst h
  exact .inr ⟨_,rfl,.fn _ _ _ _ _ rfl rfl (fun i hi=>by simp at hi) (fun i hi=>by simp at hi),by simp⟩
 ·cases hc
theorem fE {x:Operand} {ix:IX} (hc:aS x ix=true) (he:dH g n B w (Act.tm a) env) (hg:mF glob g) {v:AV} (h:ev glob env ix=some (.v v)):Rep g n (a.eval x) v:=by
 rcases dF hc hg h with ⟨k,_,hk,hx⟩|⟨v',hv',hr,_⟩
 ·rw [hx];exact he.rel k _ hk
 ·cases hv';exact hr
theorem ai {x:Operand} {ix:IX} (hc:aS x ix=true) (he:dH g n B w (Act.tm a) env) (hg:mF glob g) {v:AV} (h:rd glob env ix=some v):Rep g n (a.eval x) v:=by
 unfold rd at h
 split at h
 ·rename_i x1 hu
  cases h
  rcases dF hc hg hu with ⟨k,_,hk,hx⟩|⟨v',hv',hr,_⟩
  ·rw [hx];exact Rep.plain (he.rel k _ hk)
  ·cases hv';exact hr.plain
 ·cases h
end
end Go.Ai
namespace Go.Ai
structure Sim (P:Program) (glob:Nat→Option (List AV)) (g:af) (s:St) (B:Nat) (w:World) (tm:Nat→Value) (env:Env):Prop where
 base:Base P glob g s w
 env:dH g s.length B w tm env
 B:B≤w.heap.size
structure New (g:af) (n B:Nat) (w:World) (tm:Nat→Value) (env:Env) (e:EV) (v:Value):Prop where
 rel:∀d,e.refers d=false→oO g n B w (upd tm d v) d e
 refs:∀j,e.refers j=true→∃o,lk env j=some o∧o.owns=true
 own:e.owns=true→∀b,aQ v=some b→(∀k e',lk env k=some e'→e'.owns=true→aQ (tm k)≠some b)∧¬g.taken n b
theorem New.v {g:af} {n B:Nat} {w:World} {tm:Nat→Value} {env:Env} {a:AV} {v:Value} (h:Rep g n v a):New g n B w tm env (.v a) v:=
 ⟨fun d _=>by simpa [oO,upd_same] using h,fun j hj=>by simp [EV.refers] at hj,fun ho=>by simp [EV.owns] at ho⟩
theorem Sim.put {P:Program} {glob:Nat→Option (List AV)} {g:af} {s:St} {B:Nat} {w:World} {tm:Nat→Value} {env:Env} (h:Sim P glob g s B w tm env) {e:EV} {v:Value}
  (hn:New g s.length B w tm env e v) (d:Nat) (hd:e.refers d=false):Sim P glob g s B w (upd tm d v) (Ai.put env d e):=
 ⟨h.base,h.env.put d v e (hn.rel d hd) (fun j hj=>⟨fun hjd=>by subst hjd;simp [hd] at hj,hn.refs j hj⟩)
  (fun ho b hb=>⟨fun k e' hk he' _=>(hn.own ho b hb).1 k e' hk he',(hn.own ho b hb).2⟩),h.B⟩
theorem mF.mono {glob:Nat→Option (List AV)} {g g':af} {n n':Nat} (hle:g.le n g' n') (h:mF glob g):mF glob g':=
 fun k cs hk=>⟨(h k cs hk).1.mono ⟨hle.m,hle.mm,fun l hl=>absurd hl (Nat.not_lt_zero l),fun l hl=>absurd hl (Nat.not_lt_zero l),Nat.le_refl 0⟩,let ⟨arr,h1,h2⟩:=(h k cs hk).2;⟨arr,hle.mm _ _ h1,h2⟩⟩
theorem Base.fix {P:Program} {glob:Nat→Option (List AV)} {g g':af} {s:St} {w:World} (h:Base P glob g s w) (hle:g.le s.length g' s.length) (him:Imm g' w) (hh:g'.hist=g.hist)
  (hf:∀b,g.taken s.length b→g'.m b=g.m b∧g'.mm b=g.mm b):Base P glob g' s w:=
 ⟨him,h.heap.next hle (fun l _=>by rw [hh]) (Nat.le_refl _) (fun b hb=>⟨rfl,hf b hb⟩),h.glob.mono hle⟩
def af.claim (g:af) (b:Nat) (xs:List Value):af:={ g with m:=fun b' j=>if b'=b∧j<xs.length then xs[j]? else g.m b' j }
theorem flat_get {es:List AV} {sz:Nat} (h:∀a∈es,a.cells.length=sz):∀i (hi:i<es.length) j,j<sz→(es.flatMap AV.cells)[i * sz+j]?=(AV.cells es[i])[j]?:=by
 induction es with
 | nil=>intro i hi;simp at hi
 | cons e es ih=>
  intro i hi j hj
  have he:e.cells.length=sz:=h e (by simp)
  cases i with
  | zero=>simp only [List.flatMap_cons,Nat.zero_mul,Nat.zero_add,List.getElem_cons_zero];rw [List.getElem?_append_left (by omega)]
  | succ i=>
   simp only [List.flatMap_cons,List.getElem_cons_succ]
   rw [List.getElem?_append_right (by rw [he,Nat.succ_mul];omega)]
   rw [show (i+1) * sz+j - e.cells.length=i * sz+j by rw [he,Nat.succ_mul];omega]
   exact ih (fun a ha=>h a (by simp [ha])) i (by simpa using hi) j hj
theorem pO {es:List AV} {sz:Nat} (h:∀a∈es,a.cells.length=sz):(es.flatMap AV.cells).length=es.length * sz:=by
 induction es with
 | nil=>simp
 | cons e es ih=>
  simp only [List.flatMap_cons,List.length_append,List.length_cons,ih (fun a ha=>h a (by simp [ha])),h e (by simp),Nat.succ_mul]
  omega
theorem Xf {i len sz j:Nat} (hi:i<len) (hj:j<sz):i * sz+j<len * sz:=by
 have:(i+1) * sz≤len * sz:=Nat.mul_le_mul_right sz hi
 rw [Nat.succ_mul] at this
 omega
theorem EM {g:af} {n:Nat} {b off cap sz:Nat} {es:List AV} {xs:List Value} (hc:es.length≤cap) (hsz:∀a∈es,a.cells.length=sz)
  (hx:aB g n xs (es.flatMap AV.cells)) (h1:bH xs) (hm:∀j (h:j<xs.length),g.m b (off+j)=some xs[j]):Rep g n (.slice (some ⟨b,off,none⟩) es.length cap) (.sl es):=by
 have hl:xs.length=es.length * sz:=by rw [hx.1,pO hsz]
 refine .sl b off cap sz es (fun i j=>xs.getD (i * sz+j) undef) hc (fun i hi=>hsz _ (List.getElem_mem hi)) (fun i j hi hj=>?_) (fun i hi j hj=>?_)
 ·have hlt:i * sz+j<xs.length:=by rw [hl];exact Xf hi hj
  have e:xs.getD (i * sz+j) undef=xs[i * sz+j]:=by simp [List.getD,hlt]
  rw [e,Nat.add_assoc]
  exact ⟨hm _ hlt,h1 _ (List.getElem_mem hlt)⟩
 ·have hj':j<sz:=by rw [hsz _ (List.getElem_mem hi)] at hj;exact hj
  have hlt:i * sz+j<xs.length:=by rw [hl];exact Xf hi hj'
  have hlt':i * sz+j<(es.flatMap AV.cells).length:=by rw [←hx.1];exact hlt
  have e:xs.getD (i * sz+j) undef=xs[i * sz+j]:=by simp [List.getD,hlt]
  have e2:(es.flatMap AV.cells)[i * sz+j]=(AV.cells es[i])[j]:=by
   have:=flat_get hsz i hi j hj'
   rw [List.getElem?_eq_getElem hlt',List.getElem?_eq_getElem hj] at this
   exact Option.some.inj this
  rw [e,←e2]
  exact hx.2 _ hlt hlt'
variable {P:Program} {glob:Nat→Option (List AV)} {g:af} {s:St} {B:Nat} {w:World} {tm:Nat→Value} {env:Env}
theorem Le (h:Sim P glob g s B w tm env) {k:Nat} {tip:Bool} {t sz:Nat} {es:List AV} (hk:lk env k=some (.own tip t sz es)):
  ∃g',Step True g s.length B w g' s.length w∧Sim P glob g' s B w tm ((k,.own true t sz es)::env)∧Rep g' s.length (tm k) (.sl es):=by
 obtain ⟨xs,h1,h2,h3,h4,h5,h6⟩:=h.env.rel k _ hk
 rcases h1.2 with ⟨hv,hn⟩|⟨gb,cap,cur,hv,hB,hg,hcap,hmax,hsize,htake⟩
 ·have hes:es=[]:=List.eq_nil_of_length_eq_zero hn
  subst hes
  refine ⟨g,.refl _ _ _ _,⟨h.base,h.env.turn k _ _ hk rfl ⟨xs,h1.up,h2,h3,h4,h5,fun b hb=>?_⟩ rfl,h.B⟩, ?_⟩
  ·rw [hv] at hb;simp [aQ] at hb
  ·rw [hv];exact .slNil
 ·have hblk:aQ (tm k)=some gb:=by rw [hv];rfl
  obtain ⟨q1,q2,q3⟩:=h6 gb hblk
  have hxl:xs.length≤cur.size:=by rw [h1.1,hsize];exact Nat.mul_le_mul_right sz hcap
  have hle:g.le s.length (g.claim gb xs) s.length:=by
   refine ⟨fun b o v hm=>?_,fun _ _ h=>h,fun _ _=>rfl,fun _ _ _ _ h=>h,Nat.le_refl _⟩
   unfold af.claim;dsimp only
   split
   ·rename_i hc
    obtain ⟨rfl,ho⟩:=hc
    rw [q3 o ho] at hm
    split at hm
    ·rw [List.getElem?_eq_getElem ho];exact hm
    ·cases hm
   ·exact hm
  have hm':∀j (hj:j<xs.length),(g.claim gb xs).m gb j=some xs[j]:=by
   intro j hj;simp [af.claim,hj]
  have him:Imm (g.claim gb xs) w:=by
   refine ⟨fun b o v hm=>?_,h.base.imm.mm⟩
   unfold af.claim at hm;dsimp only at hm
   split at hm
   ·rename_i hc
    obtain ⟨rfl,ho⟩:=hc
    rw [hg.cell o]
    rw [←htake,List.getElem?_take] at hm
    split at hm
    ·simpa using hm
    ·cases hm
   ·exact h.base.imm.m b o v hm
  have hother:∀b,b≠gb→(g.claim gb xs).m b=g.m b:=by
   intro b hb;funext j;simp [af.claim,hb]
  refine ⟨g.claim gb xs,⟨hle,Nat.le_refl _,fun _ _ _=>rfl,fun b hb _=>hother b (by omega),fun _ _=>rfl,fun b hb=>.inl hb,rfl,rfl,fun _=>⟨rfl,Nat.le_refl _⟩⟩,
   ⟨h.base.fix hle him rfl (fun b hb=>⟨hother b (fun hbg=>?_),rfl⟩), ?_,h.B⟩, ?_⟩
  ·subst hbg;exact h.env.off k _ hk rfl b hblk hb
  ·refine h.env.turnNext k _ _ hk rfl rfl hle ⟨xs,h1.up,h2.mono hle,h3,h4,h5,fun b hb=>?_⟩ (fun k' x hk' hx hne b hb=>?_) (fun k' x hk' hx b hb ht=>ht)
   ·rw [hblk] at hb;cases hb
    refine ⟨q1,fun j hj=>?_,fun j hj=>by simpa using hm' j hj⟩
    have:¬j<xs.length:=by omega
    simp only [af.claim,this,and_false,if_false]
    exact q2 j hj
   ·refine ⟨rfl,hother b (fun hbg=>?_),rfl⟩
    subst hbg
    exact h.env.apart k' k x _ hk' hk hx rfl hne b hb hblk
  ·rw [hv]
   exact EM hcap h4 (h2.mono hle) h3 (fun j hj=>by simpa using hm' j hj)
def af.claimM (g:af) (b:Nat) (es:List (Value×Value)):af:={ g with mm:=fun b'=>if b'=b then some (.inl es) else g.mm b' }
theorem Wn (tm:Nat→Value) (k:Nat):upd tm k (tm k)=tm:=by
 funext j;unfold upd;split
 ·rename_i h;rw [h]
 ·rfl
theorem dH.setV {g:af} {n B:Nat} {w:World} {tm:Nat→Value} {env:Env} {k:Nat} {a:AV} (h:dH g n B w tm ((k,.v .u)::env)) (hr:Rep g n (tm k) a):
  dH g n B w tm ((k,.v a)::(k,.v .u)::env):=by
 have:=h.UR k (tm k) a hr
 rw [Wn] at this
 simpa [Ai.put,lk,EV.owns] using this
theorem TB (h:Sim P glob g s B w tm env) {k:Nat} {es:List (AV×AV)} (hk:lk env k=some (.om es)):
  ∃g',Step True g s.length B w g' s.length w∧Sim P glob g' s B w tm ((k,.v (.im es))::(k,.v .u)::jL env k)∧Rep g' s.length (tm k) (.im es):=by
 obtain ⟨b,ents,clock,h1,h2,h3,h4,h5,h6,hbn⟩:=h.env.rel k _ hk
 have hblk:aQ (tm k)=some b:=by rw [h1];rfl
 let vs:=ents.toList.map fun e=>(e.key,e.val)
 have hle:g.le s.length (g.claimM b vs) s.length:=by
  refine ⟨fun _ _ _ h=>h,fun b' es' hm=>?_,fun _ _=>rfl,fun _ _ _ _ h=>h,Nat.le_refl _⟩
  unfold af.claimM;dsimp only
  split
  ·rename_i hb;subst hb;rw [h5.mm] at hm;cases hm
  ·exact hm
 have hother:∀b',b'≠b→(g.claimM b vs).mm b'=g.mm b':=fun b' hb=>by simp [af.claimM,hb]
 have him:Imm (g.claimM b vs) w:=by
  refine ⟨h.base.imm.m,fun b' es' hm=>?_⟩
  unfold af.claimM at hm;dsimp only at hm
  split at hm
  ·rename_i hb;subst hb;cases hm;exact ⟨ents,clock,h2,rfl,hbn⟩
  ·exact h.base.imm.mm b' es' hm
 have hl:vs.length=es.length:=by have:=h3.1;simpa [vs] using this
 have hrep:Rep (g.claimM b vs) s.length (tm k) (.im es):=by
  rw [h1]
  refine .im b es vs (by simp [af.claimM]) hl (fun i hi hi'=>?_) (fun i hi hi'=>?_)
  ·have:=(h3.mono hle).2 i (by simpa [vs] using hi) (by simpa using hi')
   simpa [vs] using this
  ·have:=(h4.mono hle).2 i (by simpa [vs] using hi) (by simpa using hi')
   simpa [vs] using this
 refine ⟨g.claimM b vs,⟨hle,Nat.le_refl _,fun _ _ _=>rfl,fun _ _ _=>rfl,fun b' hb=>hother b' (by omega),fun b hb=>.inl hb,rfl,rfl,fun _=>⟨rfl,Nat.le_refl _⟩⟩,
  ⟨h.base.fix hle him rfl (fun b' hb=>⟨rfl,hother b' (fun hbg=>?_)⟩), ?_,h.B⟩,hrep⟩
 ·subst hbg;exact h.env.off k _ hk rfl b' hblk hb
 ·refine dH.setV (h.env.dropNext k hle (fun k' x hk' hx hne b' hb=>⟨rfl,rfl,hother b' (fun hbg=>?_),fun ht=>ht⟩)) hrep
  subst hbg
  exact h.env.apart k' k x _ hk' hk hx rfl hne b' hb hblk
variable {a:Act}
theorem jZ {x:Operand} {ix:IX} (hc:aS x ix=true) (h:Sim P glob g s B w (Act.tm a) env) {v:AV} {env':Env} (he:esc glob env ix=some (v,env')):
  ∃g',Step True g s.length B w g' s.length w∧Sim P glob g' s B w (Act.tm a) env'∧Rep g' s.length (a.eval x) v:=by
 unfold esc at he
 split at he
 ·rename_i v' hv
  cases he
  refine ⟨g,.refl _ _ _ _,h, ?_⟩
  exact ai hc h.env h.base.glob (by simp [rd,hv])
 ·rename_i j hv
  split at he
  ·rename_i tip t sz es hj
   cases he
   obtain ⟨g',h1,h2,h3⟩:=Le h hj
   refine ⟨g',h1,h2, ?_⟩
   rcases dF (n:=s.length) hc h.base.glob hv with ⟨k,_,hk,hx⟩|⟨v',hv',_,_⟩
   ·have:Act.tm a k=Act.tm a j:=h.env.rel k _ hk
    rw [hx,this];exact h3
   ·cases hv'
  ·cases he
 ·rename_i tip t sz es hv
  split at he
  ·rename_i k
   cases he
   rcases dF (n:=s.length) hc h.base.glob hv with ⟨k',hk',hk,hx⟩|⟨v',hv',_,_⟩
   ·cases hk'
    obtain ⟨g',h1,h2,h3⟩:=Le h hk
    exact ⟨g',h1,h2,by rw [hx];exact h3⟩
   ·cases hv'
  ·cases he
 ·rename_i es hv
  split at he
  ·rename_i k
   cases he
   rcases dF (n:=s.length) hc h.base.glob hv with ⟨k',hk',hk,hx⟩|⟨v',hv',_,_⟩
   ·cases hk'
    obtain ⟨g',h1,h2,h3⟩:=TB h hk
    exact ⟨g',h1,h2,by rw [hx];exact h3⟩
   ·cases hv'
  ·cases he
 ·cases he
theorem yP {x:Operand} {ix:IX} (hc:aS x ix=true) (h:Sim P glob g s B w (Act.tm a) env) {v:AV} {env':Env} (he:FH glob env ix=some (v,env')):
  ∃g',Step True g s.length B w g' s.length w∧Sim P glob g' s B w (Act.tm a) env'∧Rep g' s.length (a.eval x) v:=by
 unfold FH at he
 split at he
 ·rename_i v' hv
  cases he
  exact ⟨g,.refl _ _ _ _,h,fE hc h.env h.base.glob hv⟩
 ·exact jZ hc h he
theorem qB {xs:List Operand} {ixs:List IX} (hc:xC xs ixs=true):∀{g:af} {env:Env},Sim P glob g s B w (Act.tm a) env→∀{vs:List AV} {env':Env},wF glob env ixs=some (vs,env')→
  ∃g',Step True g s.length B w g' s.length w∧Sim P glob g' s B w (Act.tm a) env'∧aB g' s.length (xs.map a.eval) vs:=by
 induction xs generalizing ixs with
 | nil=>
  intro g env h vs env' he
  cases ixs with
  | nil=>simp [wF] at he;obtain ⟨rfl,rfl⟩:=he;exact ⟨g,.refl _ _ _ _,h,.nil _ _⟩
  | cons y ys=>simp [xC] at hc
 | cons x xs ih=>
  intro g env h vs env' he
  cases ixs with
  | nil=>simp [xC] at hc
  | cons y ys=>
   simp only [xC,Bool.and_eq_true] at hc
   unfold wF at he
   split at he
   ·cases he
   ·rename_i v env1 hv
    split at he
    ·cases he
    ·rename_i vs' env2 hvs
     cases he
     obtain ⟨g1,s1,h1,r1⟩:=jZ hc.1 h hv
     obtain ⟨g2,s2,h2,r2⟩:=ih hc.2 h1 hvs
     exact ⟨g2,s1.trans s2,h2,.cons (r1.mono s2.le) r2⟩
end Go.Ai
namespace Go.Ai
def jF (w:World) (b o:Nat) (us:List Value):Prop:=∀j (h:j<us.length),w.cell? ⟨b,o+j,none⟩=some us[j]
theorem jF.drop {w:World} {b o:Nat} {us:List Value} (h:jF w b o us) (k:Nat):jF w b (o+k) (us.drop k):=by
 intro j hj
 simp only [List.length_drop] at hj
 rw [List.getElem_drop,Nat.add_assoc]
 exact h (k+j) (by omega)
theorem jF.take {w:World} {b o:Nat} {us:List Value} (h:jF w b o us) (k:Nat):jF w b o (us.take k):=by
 intro j hj
 simp only [List.length_take] at hj
 rw [List.getElem_take]
 exact h j (by omega)
theorem bH.drop {us:List Value} (h:bH us) (k:Nat):bH (us.drop k):=fun v hv=>h v (List.mem_of_mem_drop hv)
theorem bH.take {us:List Value} (h:bH us) (k:Nat):bH (us.take k):=fun v hv=>h v (List.mem_of_mem_take hv)
theorem jA {w:World} {b:Nat} {arr:Array Value} {ty:TypeId} {fr:Nat×Nat} (h:w.heap[b]?=some (.cells arr ty fr)):jF w b 0 arr.toList:=by
 intro j hj
 rw [Nat.zero_add,cell_of_row w b j arr ty fr h]
 simp at hj
 simp [hj]
variable {P:Program} {glob:Nat→Option (List AV)} {g:af} {s:St} {B:Nat} {w:World} {env:Env} {a:Act}
theorem QN {t:TypeId} (h:GI P t none=true) (w:World):(isAgg t).run P w=.ok false w:=by
 simp only [GI,beq_iff_eq] at h
 unfold U4 at h
 cases hd:P.underlying t with
 | none=>simp [hd] at h
 | some d=>
  unfold isAgg
  rw [Sem.run_bind,run_underlying hd w]
  cases d<;>simp_all
theorem gm {t:TypeId} {n:Nat} (h:iL P t n=true):∃i,P.info? t=some i∧i.size=n:=by
 unfold iL at h
 cases hi:P.info? t with
 | none=>simp [hi] at h
 | some i=>simp [hi] at h;exact ⟨i,rfl,h⟩
theorem run_sizeOf {t:TypeId} {n:Nat} (h:iL P t n=true) (w:World):(sizeOf t).run P w=.ok n w:=by
 obtain ⟨i,hi,rfl⟩:=gm h
 simp [sizeOf,typeInfo,hi]
theorem Gf {t:TypeId} {n:Nat} (h:GI P t (some n)=true) (w:World):(isAgg t).run P w=.ok true w∧(sizeOf t).run P w=.ok n w:=by
 simp only [GI,Bool.and_eq_true] at h
 refine ⟨?_,run_sizeOf h.2 w⟩
 have h1:=h.1
 unfold U4 at h1
 split at h1<;>simp at h1
 all_goals
  rename_i hd
  unfold isAgg
  rw [Sem.run_bind,run_underlying hd w]
  simp
theorem NZ {t:TypeId} (h:GI P t none=true) {b o:Nat} {u:Value} (hc:w.cell? ⟨b,o,none⟩=some u):
  (Instr.loadAt t (.pointer (some ⟨b,o,none⟩))).run P w=.ok u w:=by
 simp [Instr.loadAt,Instr.sureAddr,loadVar,Sem.run_bind,QN h w,hc]
theorem N7 {t:TypeId} {n:Nat} (h:GI P t (some n)=true) {b o:Nat} {us:List Value} (hl:us.length=n) (hc:jF w b o us):
  (Instr.loadAt t (.pointer (some ⟨b,o,none⟩))).run P w=.ok (.agg us.toArray) w:=by
 have hr:(loadCells ⟨b,o,none⟩ n).run P w=.ok us.toArray w:=by
  rw [←hl]
  exact run_loadCells_list (P:=P) w ⟨b,o,none⟩ us (fun j v hv=>by
   rw [Addr.add_lit]
   obtain ⟨hj,rfl⟩:=List.getElem?_eq_some_iff.1 hv
   exact hc j hj)
 simp [Instr.loadAt,Instr.sureAddr,loadVar,Sem.run_bind,(Gf h w).1,(Gf h w).2,hr]
theorem AZ {t:TypeId} {n:Option Nat} (h:GI P t n=true) {b o off:Nat} {us:List Value} {cs:List AV} {N:Nat} {v:AV} (hc:jF w b o us) (hr:aB g N us cs) (h1:bH us)
  (hp:part cs off n=some v):∃u,(Instr.loadAt t (.pointer (some ⟨b,o+off,none⟩))).run P w=.ok u w∧Rep g N u v:=by
 cases n with
 | none=>
  simp only [part] at hp
  obtain ⟨hlt,rfl⟩:=List.getElem?_eq_some_iff.1 hp
  have hlt':off<us.length:=by rw [hr.1];exact hlt
  exact ⟨us[off],NZ h (hc off hlt'),hr.2 off hlt' hlt⟩
 | some n=>
  simp only [part] at hp
  split at hp
  ·rename_i hle
   cases hp
   have hl:((us.drop off).take n).length=n:=by simp [hr.1];omega
   refine ⟨.agg ((us.drop off).take n).toArray,N7 h hl ((hc.drop off).take n),I4 ?_ ?_⟩
   ·simpa using (hr.drop off).take n
   ·simpa using (h1.drop off).take n
  ·cases hp
theorem WQ {k:Nat} {tip:Bool} {t sz:Nat} {es:List AV} {tm:Nat→Value} (h:dH g s.length B w tm env) (hk:lk env k=some (.own tip t sz es)) {b len cap:Nat}
  (hv:tm k=.slice (some ⟨b,0,none⟩) len cap) {i:Nat} {e:AV} (he:es[i]?=some e):
  ∃us,jF w b (i * sz) us∧aB g s.length us e.cells∧bH us:=by
 obtain ⟨xs,h1,h2,h3,h4,h5,_⟩:=h.rel k _ hk
 obtain ⟨hi,rfl⟩:=List.getElem?_eq_some_iff.1 he
 rcases h1.2 with ⟨hn,_⟩|⟨gb,cap',cur,hv',_,hg,hcap,_,hsize,htake⟩
 ·rw [hv] at hn;cases hn
 ·rw [hv] at hv'
  simp only [Value.slice.injEq,Option.some.injEq,Addr.mk.injEq] at hv'
  obtain ⟨⟨rfl,_⟩,_,rfl⟩:=hv'
  have hxl:xs.length=es.length * sz:=h1.1
  have hlt:i * sz+sz≤xs.length:=by
   rw [hxl]
   have:=Nat.mul_le_mul_right sz (show i+1≤es.length from hi)
   rw [Nat.succ_mul] at this;exact this
  have hall:jF w b 0 xs:=by
   rw [←htake];exact (jA hg.choose_spec.1).take _
  refine ⟨(xs.drop (i * sz)).take sz, ?_, ?_,(h3.drop _).take _⟩
  ·simpa using (hall.drop (i * sz)).take sz
  ·have hsz:(AV.cells es[i]).length=sz:=h4 _ (List.getElem_mem hi)
   have e2:((es.flatMap AV.cells).drop (i * sz)).take sz=AV.cells es[i]:=by
    apply List.ext_getElem?
    intro j
    by_cases hj:j<sz
    ·rw [List.getElem?_take_of_lt hj,List.getElem?_drop]
     exact flat_get h4 i hi j hj
    ·rw [List.getElem?_eq_none (by simp;omega),List.getElem?_eq_none (by rw [hsz];omega)]
   rw [←e2]
   exact (h2.drop _).take _
theorem LV {t:TypeId} {n:Option Nat} (hn:GI P t n=true) {x:Operand} {ix:IX} (hc:aS x ix=true) (h:Sim P glob g s B w (Act.tm a) env) {v:AV} (hl:dQ glob env s n ix=some v):
  ∃u,(Instr.loadAt t (a.eval x)).run P w=.ok u w∧Rep g s.length u v:=by
 unfold dQ at hl
 split at hl
 ·rename_i cs hv
  rcases dF (n:=s.length) hc h.base.glob hv with ⟨k,_,hk,hx⟩|⟨v',hv',_,_⟩
  ·obtain ⟨b,arr,ty,h1,h2,h3,h4,_⟩:=h.env.rel k _ hk
   rw [hx,h1]
   simpa using AZ hn (jA h2) h3 h4 hl
  ·cases hv'
 ·rename_i k o hv
  split at hl
  ·rename_i cs hk'
   rcases dF (n:=s.length) hc h.base.glob hv with ⟨j,_,hj,hx⟩|⟨v',hv',_,_⟩
   ·obtain ⟨b,h1,h2⟩:=h.env.rel j _ hj
    obtain ⟨b',arr,ty,q1,q2,q3,q4,_⟩:=h.env.rel k _ hk'
    rw [h1] at q1
    simp only [Value.pointer.injEq,Option.some.injEq,Addr.mk.injEq] at q1
    obtain ⟨rfl,_⟩:=q1
    rw [hx,h2]
    simpa using AZ hn (jA q2) q3 q4 hl
   ·cases hv'
  ·cases hl
 ·rename_i k sz i o hv
  split at hl
  ·rename_i tip t' sz' es hk'
   split at hl
   ·rename_i hsz;subst hsz
    cases he:es[i]? with
    | none=>simp [he] at hl
    | some e=>
     simp only [he,Option.bind_some] at hl
     rcases dF (n:=s.length) hc h.base.glob hv with ⟨j,_,hj,hx⟩|⟨v',hv',_,_⟩
     ·obtain ⟨b,len,cap,h1,h2⟩:=h.env.rel j _ hj
      obtain ⟨us,u1,u2,u3⟩:=WQ h.env hk' h1 he
      rw [hx,h2]
      exact AZ hn u1 u2 u3 hl
     ·cases hv'
   ·cases hl
  ·cases hl
 ·rename_i cs hv
  have hr:=ai (a:=a) hc h.env h.base.glob (v:=.ip cs) (by simp [rd,hv])
  generalize a.eval x=ax at hr
  cases hr with
  | ip b o _ c hm hrr=>
   have hca:jF w b o ((List.range cs.length).map c):=by
    intro j hj
    simp at hj
    simpa using h.base.imm.m b (o+j) _ (hm j hj).1
   have hrl:aB g s.length ((List.range cs.length).map c) cs:=⟨by simp,fun i hi hi'=>by simpa using hrr i hi'⟩
   have h1:bH ((List.range cs.length).map c):=by
    intro v hv
    simp at hv
    obtain ⟨j,hj,rfl⟩:=hv
    exact (hm j hj).2
   simpa using AZ hn hca hrl h1 hl
 ·rename_i l o hv
  have hr:=ai (a:=a) hc h.env h.base.glob (v:=.pt l o) (by simp [rd,hv])
  generalize a.eval x=ax at hr
  cases hr with
  | pt _ _ hlt=>
   split at hl
   ·rename_i cs hs
    obtain ⟨arr,ty,q1,q2,q3⟩:=h.base.heap.cells l cs hs
    simpa using AZ hn (jA q1) q2 q3 hl
   ·cases hl
 ·rename_i l ver o hv
  have hr:=ai (a:=a) hc h.env h.base.glob (v:=.sp l ver o) (by simp [rd,hv])
  generalize a.eval x=ax at hr
  split at hl
  ·rename_i t2 sz2 ver2 cs hs
   split at hl
   ·rename_i hver
    subst hver
    obtain ⟨b,off,len,cap,cur,h1,h2,h3,h4,h5,h6,h7,h8,h9,h10,h11⟩:=h.base.heap.obj l _ hs
    cases hr with
    | sp _ _ _ b' off' len' cap' hlt hh=>
     rw [h1] at hh
     cases hh
     have hca:jF w b off ((cur.toList.drop off).take cs.length):=by
      have:=((jA h8).drop off).take cs.length
      simpa using this
     exact AZ hn hca h10 h11 hl
   ·cases hl
  ·cases hl
 ·cases hl
end Go.Ai
