/-
 Abstract values (pure data without addresses) and what it means that a Go value represents one.
-/
import Derived.RangeFuncIn
import Derived.OrdersIn
import Derived.Laws.AppendOwn
import Derived.Sort.Defs
import Derived.Lib.BitFns
set_option maxRecDepth 100000
set_option linter.unusedSimpArgs false
set_option linter.unusedVariables false
set_option linter.unusedSectionVars false
namespace Go.Ai
inductive AV where
 | u
 | i (k:IntKind) (n:Int)
 | b (x:Bool)
 | s (l:List UInt8)
 | np|nm|ns|nf|ni
 | sl (es:List AV)
 | ag (cs:List AV)
 | tu (cs:List AV)
 | ip (cs:List AV)
 | pt (l off:Nat)
 | im (es:List (AV×AV))
 | mp (l:Nat)
 | fn (f:Fn) (as cs:List AV)
 | yl (l:Nat)
 | ifc (t:Nat) (v:AV)
 | st (l:Nat) (es:List AV)
 | sk (l ver sz o n:Nat)
 | sp (l ver o:Nat)
 | se
 | sz
 | kb (m:AV)
 deriving Inhabited
def AV.cells:AV→List AV
 | .ag cs=>cs
 | a=>[a]
def AV.plain1:AV→AV
 | .st _ es=>.sl es
 | a=>a
def AV.plain:AV→AV
 | .st _ es=>.sl es
 | .ag cs=>.ag (cs.map AV.plain1)
 | a=>a
@[simp] theorem AV.plain_u:AV.plain .u=.u:=rfl
@[simp] theorem AV.plain_i (k:IntKind) (n:Int):AV.plain (.i k n)=.i k n:=rfl
@[simp] theorem AV.plain_b (x:Bool):AV.plain (.b x)=.b x:=rfl
@[simp] theorem AV.plain_s (l:List UInt8):AV.plain (.s l)=.s l:=rfl
@[simp] theorem AV.plain_np:AV.plain .np=.np:=rfl
@[simp] theorem AV.plain_nm:AV.plain .nm=.nm:=rfl
@[simp] theorem AV.plain_ns:AV.plain .ns=.ns:=rfl
@[simp] theorem AV.plain_nf:AV.plain .nf=.nf:=rfl
@[simp] theorem AV.plain_ni:AV.plain .ni=.ni:=rfl
@[simp] theorem AV.plain_sl (es:List AV):AV.plain (.sl es)=.sl es:=rfl
@[simp] theorem AV.plain_tu (cs:List AV):AV.plain (.tu cs)=.tu cs:=rfl
@[simp] theorem AV.plain_ip (cs:List AV):AV.plain (.ip cs)=.ip cs:=rfl
@[simp] theorem AV.plain_pt (l off:Nat):AV.plain (.pt l off)=.pt l off:=rfl
@[simp] theorem AV.plain_im (es:List (AV×AV)):AV.plain (.im es)=.im es:=rfl
@[simp] theorem AV.plain_mp (l:Nat):AV.plain (.mp l)=.mp l:=rfl
@[simp] theorem AV.plain_fn (f:Fn) (as cs:List AV):AV.plain (.fn f as cs)=.fn f as cs:=rfl
@[simp] theorem AV.plain_yl (l:Nat):AV.plain (.yl l)=.yl l:=rfl
@[simp] theorem AV.plain_ifc (t:Nat) (v:AV):AV.plain (.ifc t v)=.ifc t v:=rfl
@[simp] theorem AV.plain_kb (m:AV):AV.plain (.kb m)=.kb m:=rfl
@[simp] theorem AV.plain1_kb (m:AV):AV.plain1 (.kb m)=.kb m:=rfl
@[simp] theorem AV.plain_se:AV.plain .se=.se:=rfl
@[simp] theorem AV.plain_sz:AV.plain .sz=.sz:=rfl
@[simp] theorem AV.plain1_sz:AV.plain1 .sz=.sz:=rfl
@[simp] theorem AV.plain1_se:AV.plain1 .se=.se:=rfl
@[simp] theorem AV.plain_sk (l ver sz o n:Nat):AV.plain (.sk l ver sz o n)=.sk l ver sz o n:=rfl
@[simp] theorem AV.plain_sp (l ver o:Nat):AV.plain (.sp l ver o)=.sp l ver o:=rfl
@[simp] theorem AV.plain_st (l:Nat) (es:List AV):AV.plain (.st l es)=.sl es:=rfl
@[simp] theorem AV.plain1_u:AV.plain1 .u=.u:=rfl
@[simp] theorem AV.plain1_i (k:IntKind) (n:Int):AV.plain1 (.i k n)=.i k n:=rfl
@[simp] theorem AV.plain1_b (x:Bool):AV.plain1 (.b x)=.b x:=rfl
@[simp] theorem AV.plain1_s (l:List UInt8):AV.plain1 (.s l)=.s l:=rfl
@[simp] theorem AV.plain1_np:AV.plain1 .np=.np:=rfl
@[simp] theorem AV.plain1_nm:AV.plain1 .nm=.nm:=rfl
@[simp] theorem AV.plain1_ns:AV.plain1 .ns=.ns:=rfl
@[simp] theorem AV.plain1_nf:AV.plain1 .nf=.nf:=rfl
@[simp] theorem AV.plain1_ni:AV.plain1 .ni=.ni:=rfl
@[simp] theorem AV.plain1_sl (es:List AV):AV.plain1 (.sl es)=.sl es:=rfl
@[simp] theorem AV.plain1_tu (cs:List AV):AV.plain1 (.tu cs)=.tu cs:=rfl
@[simp] theorem AV.plain1_ip (cs:List AV):AV.plain1 (.ip cs)=.ip cs:=rfl
@[simp] theorem AV.plain1_pt (l off:Nat):AV.plain1 (.pt l off)=.pt l off:=rfl
@[simp] theorem AV.plain1_im (es:List (AV×AV)):AV.plain1 (.im es)=.im es:=rfl
@[simp] theorem AV.plain1_mp (l:Nat):AV.plain1 (.mp l)=.mp l:=rfl
@[simp] theorem AV.plain1_fn (f:Fn) (as cs:List AV):AV.plain1 (.fn f as cs)=.fn f as cs:=rfl
@[simp] theorem AV.plain1_yl (l:Nat):AV.plain1 (.yl l)=.yl l:=rfl
@[simp] theorem AV.plain1_ifc (t:Nat) (v:AV):AV.plain1 (.ifc t v)=.ifc t v:=rfl
@[simp] theorem AV.plain1_ag (cs:List AV):AV.plain1 (.ag cs)=.ag cs:=rfl
@[simp] theorem AV.plain1_sk (l ver sz o n:Nat):AV.plain1 (.sk l ver sz o n)=.sk l ver sz o n:=rfl
@[simp] theorem AV.plain1_sp (l ver o:Nat):AV.plain1 (.sp l ver o)=.sp l ver o:=rfl
@[simp] theorem AV.plain1_st (l:Nat) (es:List AV):AV.plain1 (.st l es)=.sl es:=rfl
@[simp] theorem AV.plain_ag (cs:List AV):AV.plain (.ag cs)=.ag (cs.map AV.plain1):=rfl
structure af where
 m:Nat→Nat→Option Value
 mm:Nat→Option (Sum (List (Value×Value)) (Array Value))
 L:Nat→Nat
 hist:Nat→Nat→Option Value
inductive Rep (g:af) (n:Nat):Value→AV→Prop where
 | u (v:Value):Rep g n v .u
 | i (k:IntKind) (x:Int):Rep g n (.int k x) (.i k x)
 | b (x:Bool):Rep g n (.bool x) (.b x)
 | s (l:List UInt8):Rep g n (.string ⟨l.toArray⟩) (.s l)
 | np:Rep g n (.pointer none) .np
 | nm:Rep g n (.map none) .nm
 | ns:Rep g n (.slice none 0 0) .ns
 | nf:Rep g n .nilFunc .nf
 | ni:Rep g n .nilIface .ni
 | slNil:Rep g n (.slice none 0 0) (.sl [])
 | slE (a:Addr):Rep g n (.slice (some a) 0 0) (.sl [])
 | sl (bk off cap sz:Nat) (es:List AV) (c:Nat→Nat→Value) (hc:es.length≤cap)
   (hsz:∀i (h:i<es.length),(AV.cells es[i]).length=sz)
   (hm:∀i j,i<es.length→j<sz→g.m bk (off+i * sz+j)=some (c i j)∧(c i j).oneCell'=true)
   (hr:∀i (h:i<es.length) j (h':j<(AV.cells es[i]).length),Rep g n (c i j) (AV.cells es[i])[j]):
   Rep g n (.slice (some ⟨bk,off,none⟩) es.length cap) (.sl es)
 | ag (vs:Array Value) (cs:List AV) (hl:vs.size=cs.length) (h1:∀i (h:i<vs.size),vs[i].oneCell'=true)
   (hr:∀i (h:i<vs.size) (h':i<cs.length),Rep g n vs[i] cs[i]):Rep g n (.agg vs) (.ag cs)
 | tu (vs:Array Value) (cs:List AV) (hl:vs.size=cs.length)
   (hr:∀i (h:i<vs.size) (h':i<cs.length),Rep g n vs[i] cs[i]):Rep g n (.tuple vs) (.tu cs)
 | ip (bk off:Nat) (cs:List AV) (c:Nat→Value)
   (hm:∀j,j<cs.length→g.m bk (off+j)=some (c j)∧(c j).oneCell'=true)
   (hr:∀j (h:j<cs.length),Rep g n (c j) cs[j]):Rep g n (.pointer (some ⟨bk,off,none⟩)) (.ip cs)
 | pt (l off:Nat) (h:l<n):Rep g n (.pointer (some ⟨g.L l,off,none⟩)) (.pt l off)
 | im (bk:Nat) (es:List (AV×AV)) (vs:List (Value×Value)) (hm:g.mm bk=some (.inl vs)) (hl:vs.length=es.length)
   (hk:∀i (h:i<vs.length) (h':i<es.length),Rep g n vs[i].1 es[i].1)
   (hv:∀i (h:i<vs.length) (h':i<es.length),Rep g n vs[i].2 es[i].2):Rep g n (.map (some bk)) (.im es)
 | mp (l:Nat) (h:l<n):Rep g n (.map (some (g.L l))) (.mp l)
 | fn (f:Fn) (vs ws:Array Value) (as cs:List AV) (hl:vs.size=as.length) (hl':ws.size=cs.length)
   (hr:∀i (h:i<vs.size) (h':i<as.length),Rep g n vs[i] as[i])
   (hr':∀i (h:i<ws.size) (h':i<cs.length),Rep g n ws[i] cs[i]):Rep g n (.func f vs ws) (.fn f as cs)
 | yl (l:Nat) (h:l<n):Rep g n (.func (.yield (g.L l)) #[] #[]) (.yl l)
 | ifc (t:Nat) (v:Value) (a:AV) (h:Rep g n v a):Rep g n (.iface t v) (.ifc t a)
 | st (l:Nat) (v:Value) (es:List AV) (h:l<n) (hh:g.hist l es.length=some v) (hr:Rep g n v (.sl es)):Rep g n v (.st l es)
 | sk (l ver sz o m b off len cap c:Nat) (h:l<n) (hh:g.hist l ver=some (.slice (some ⟨b,off,none⟩) len cap)) (ho:o+m * sz≤len * sz) (hc:m≤c) (hcc:o+c * sz≤cap * sz):
   Rep g n (.slice (some ⟨b,off+o,none⟩) m c) (.sk l ver sz o m)
 | skE (l ver sz o:Nat) (ad:Addr) (h:l<n):Rep g n (.slice (some ad) 0 0) (.sk l ver sz o 0)
 | se (ad:Addr):Rep g n (.slice (some ad) 0 0) .se
 | sz (ad:Addr) (c:Nat):Rep g n (.slice (some ad) 0 c) .sz
 | kb (bk:Nat) (c:Value) (m:AV) (hm:g.m bk 0=some c) (h:Rep g n c m):Rep g n (.pointer (some ⟨bk,0,none⟩)) (.kb m)
 | sp (l ver o b off len cap:Nat) (h:l<n) (hh:g.hist l ver=some (.slice (some ⟨b,off,none⟩) len cap)):Rep g n (.pointer (some ⟨b,off+o,none⟩)) (.sp l ver o)
structure af.le (g:af) (n:Nat) (g':af) (n':Nat):Prop where
 m:∀b o v,g.m b o=some v→g'.m b o=some v
 mm:∀b es,g.mm b=some es→g'.mm b=some es
 L:∀l,l<n→g'.L l=g.L l
 hist:∀l,l<n→∀k v,g.hist l k=some v→g'.hist l k=some v
 n:n≤n'
theorem af.le.refl (g:af) (n:Nat):g.le n g n:=⟨fun _ _ _ h=>h,fun _ _ h=>h,fun _ _=>rfl,fun _ _ _ _ h=>h,Nat.le_refl _⟩
theorem af.le.trans {g g' g'':af} {n n' n'':Nat} (h:g.le n g' n') (h':g'.le n' g'' n''):g.le n g'' n'':=
 ⟨fun b o v x=>h'.m b o v (h.m b o v x),fun b es x=>h'.mm b es (h.mm b es x),fun l x=>(h'.L l (Nat.lt_of_lt_of_le x h.n)).trans (h.L l x),fun l x k v y=>h'.hist l (Nat.lt_of_lt_of_le x h.n) k v (h.hist l x k v y),Nat.le_trans h.n h'.n⟩
theorem Rep.mono {g g':af} {n n':Nat} (h:g.le n g' n') {v:Value} {a:AV} (r:Rep g n v a):Rep g' n' v a:=by
 induction r with
 | u v=>exact .u v
 | i k x=>exact .i k x
 | b x=>exact .b x
 | s l=>exact .s l
 | np=>exact .np
 | nm=>exact .nm
 | ns=>exact .ns
 | nf=>exact .nf
 | ni=>exact .ni
 | se ad=>exact .se ad
 | sz ad c=>exact .sz ad c
 | slNil=>exact .slNil
 | slE a=>exact .slE a
 | sl bk off cap sz es c hc hsz hm hr ih=>exact .sl bk off cap sz es c hc hsz (fun i j hi hj=>⟨h.m _ _ _ (hm i j hi hj).1,(hm i j hi hj).2⟩) ih
 | ag vs cs hl h1 hr ih=>exact .ag vs cs hl h1 ih
 | tu vs cs hl hr ih=>exact .tu vs cs hl ih
 | ip bk off cs c hm hr ih=>exact .ip bk off cs c (fun j hj=>⟨h.m _ _ _ (hm j hj).1,(hm j hj).2⟩) ih
 | pt l off hl=>rw [←h.L l hl];exact .pt l off (Nat.lt_of_lt_of_le hl h.n)
 | im bk es vs hm hl hk hv ihk ihv=>exact .im bk es vs (h.mm _ _ hm) hl ihk ihv
 | mp l hl=>rw [←h.L l hl];exact .mp l (Nat.lt_of_lt_of_le hl h.n)
 | fn f vs ws as cs hl hl' hr hr' ih ih'=>exact .fn f vs ws as cs hl hl' ih ih'
 | yl l hl=>rw [←h.L l hl];exact .yl l (Nat.lt_of_lt_of_le hl h.n)
 | ifc t v a hr ih=>exact .ifc t v a ih
 | st l v es hl hh hr ih=>exact .st l v es (Nat.lt_of_lt_of_le hl h.n) (h.hist l hl _ _ hh) ih
 | kb bk c m hm hr ih=>exact .kb bk c m (h.m _ _ _ hm) ih
 | sk l ver sz o m b off len cap c hl hh ho hc hcc=>exact .sk l ver sz o m b off len cap c (Nat.lt_of_lt_of_le hl h.n) (h.hist l hl _ _ hh) ho hc hcc
 | skE l ver sz o ad hl=>exact .skE l ver sz o ad (Nat.lt_of_lt_of_le hl h.n)
 | sp l ver o b off len cap hl hh=>exact .sp l ver o b off len cap (Nat.lt_of_lt_of_le hl h.n) (h.hist l hl _ _ hh)
theorem Rep.plain1 {g:af} {n:Nat} {v:Value} {a:AV} (h:Rep g n v a):Rep g n v a.plain1:=by
 cases h with
 | st l v es hl hh hr=>exact hr
 | u=>exact .u _
 | i k x=>exact .i k x
 | b x=>exact .b x
 | s l=>exact .s l
 | np=>exact .np
 | nm=>exact .nm
 | ns=>exact .ns
 | nf=>exact .nf
 | ni=>exact .ni
 | se ad=>exact .se ad
 | sz ad c=>exact .sz ad c
 | slNil=>exact .slNil
 | slE a=>exact .slE a
 | sl bk off cap sz es c hc hsz hm hr=>exact .sl bk off cap sz es c hc hsz hm hr
 | ag vs cs hl h1 hr=>exact .ag vs cs hl h1 hr
 | tu vs cs hl hr=>exact .tu vs cs hl hr
 | ip bk off cs c hm hr=>exact .ip bk off cs c hm hr
 | pt l off hl=>exact .pt l off hl
 | im bk es vs hm hl hk hv=>exact .im bk es vs hm hl hk hv
 | mp l hl=>exact .mp l hl
 | fn f vs ws as cs hl hl' hr hr'=>exact .fn f vs ws as cs hl hl' hr hr'
 | yl l hl=>exact .yl l hl
 | ifc t v a hr=>exact .ifc t v a hr
 | kb bk c m hm hr=>exact .kb bk c m hm hr
 | sk l ver sz o m b off len cap c hl hh ho hc hcc=>exact .sk l ver sz o m b off len cap c hl hh ho hc hcc
 | skE l ver sz o ad hl=>exact .skE l ver sz o ad hl
 | sp l ver o b off len cap hl hh=>exact .sp l ver o b off len cap hl hh
theorem Rep.plain {g:af} {n:Nat} {v:Value} {a:AV} (h:Rep g n v a):Rep g n v a.plain:=by
 cases h with
 | st l v es hl hh hr=>exact hr
 | u=>exact .u _
 | i k x=>exact .i k x
 | b x=>exact .b x
 | s l=>exact .s l
 | np=>exact .np
 | nm=>exact .nm
 | ns=>exact .ns
 | nf=>exact .nf
 | ni=>exact .ni
 | se ad=>exact .se ad
 | sz ad c=>exact .sz ad c
 | slNil=>exact .slNil
 | slE a=>exact .slE a
 | sl bk off cap sz es c hc hsz hm hr=>exact .sl bk off cap sz es c hc hsz hm hr
 | ag vs cs hl h1 hr=>exact .ag vs _ (by simpa using hl) h1 (fun i hi hi'=>by simpa using (hr i hi (by simpa using hi')).plain1)
 | tu vs cs hl hr=>exact .tu vs cs hl hr
 | ip bk off cs c hm hr=>exact .ip bk off cs c hm hr
 | pt l off hl=>exact .pt l off hl
 | im bk es vs hm hl hk hv=>exact .im bk es vs hm hl hk hv
 | mp l hl=>exact .mp l hl
 | fn f vs ws as cs hl hl' hr hr'=>exact .fn f vs ws as cs hl hl' hr hr'
 | yl l hl=>exact .yl l hl
 | ifc t v a hr=>exact .ifc t v a hr
 | kb bk c m hm hr=>exact .kb bk c m hm hr
 | sk l ver sz o m b off len cap c hl hh ho hc hcc=>exact .sk l ver sz o m b off len cap c hl hh ho hc hcc
 | skE l ver sz o ad hl=>exact .skE l ver sz o ad hl
 | sp l ver o b off len cap hl hh=>exact .sp l ver o b off len cap hl hh
def aB (g:af) (n:Nat) (vs:List Value) (as:List AV):Prop:=
 vs.length=as.length∧∀i (h:i<vs.length) (h':i<as.length),Rep g n vs[i] as[i]
theorem aB.mono {g g':af} {n n':Nat} (h:g.le n g' n') {vs:List Value} {as:List AV} (r:aB g n vs as):aB g' n' vs as:=
 ⟨r.1,fun i hi hi'=>(r.2 i hi hi').mono h⟩
theorem aB.nil (g:af) (n:Nat):aB g n [] []:=⟨rfl,fun i h=>absurd h (Nat.not_lt_zero i)⟩
theorem aB.cons {g:af} {n:Nat} {v:Value} {a:AV} {vs:List Value} {as:List AV} (h:Rep g n v a) (r:aB g n vs as):aB g n (v::vs) (a::as):=by
 refine ⟨by simp [r.1],fun i hi hi'=>?_⟩
 cases i with
 | zero=>exact h
 | succ i=>exact r.2 i (by simpa using hi) (by simpa using hi')
theorem aB.head {g:af} {n:Nat} {v:Value} {a:AV} {vs:List Value} {as:List AV} (r:aB g n (v::vs) (a::as)):Rep g n v a:=r.2 0 (by simp) (by simp)
theorem aB.tail {g:af} {n:Nat} {v:Value} {a:AV} {vs:List Value} {as:List AV} (r:aB g n (v::vs) (a::as)):aB g n vs as:=
 ⟨by simpa using r.1,fun i hi hi'=>r.2 (i+1) (by simpa using hi) (by simpa using hi')⟩
theorem aB.append {g:af} {n:Nat} {vs vs':List Value} {as as':List AV} (h:aB g n vs as) (h':aB g n vs' as'):aB g n (vs++vs') (as++as'):=by
 induction vs generalizing as with
 | nil=>cases as with
  | nil=>simpa using h'
  | cons a as=>exact absurd h.1 (by simp)
 | cons v vs ih=>cases as with
  | nil=>exact absurd h.1 (by simp)
  | cons a as=>exact .cons h.head (ih h.tail)
theorem aB.take {g:af} {n:Nat} {vs:List Value} {as:List AV} (k:Nat) (h:aB g n vs as):aB g n (vs.take k) (as.take k):=by
 refine ⟨by simp [h.1],fun i hi hi'=>?_⟩
 simp only [List.length_take] at hi hi'
 rw [List.getElem_take,List.getElem_take]
 exact h.2 i (by omega) (by omega)
theorem aB.drop {g:af} {n:Nat} {vs:List Value} {as:List AV} (k:Nat) (h:aB g n vs as):aB g n (vs.drop k) (as.drop k):=by
 refine ⟨by simp [h.1],fun i hi hi'=>?_⟩
 simp only [List.length_drop] at hi hi'
 rw [List.getElem_drop,List.getElem_drop]
 exact h.2 (k+i) (by omega) (by omega)
def bH (vs:List Value):Prop:=∀v∈vs,v.oneCell'=true
end Go.Ai
namespace Go.Ai
inductive EV where
 | v (a:AV)
 | bx (cs:List AV)
 | lp (k off:Nat)
 | own (tip:Bool) (t sz:Nat) (es:List AV)
 | al (k:Nat)
 | ep (k sz i off:Nat)
 | om (es:List (AV×AV))
 deriving Inhabited
abbrev Env:=List (Nat×EV)
def lk:Env→Nat→Option EV
 | [],_=>none
 | (j,e)::r,k=>if j=k then some e else lk r k
def EV.owns:EV→Bool
 | .bx _ | .own _ _ _ _ | .om _=>true
 | _=>false
def EV.refers (k:Nat):EV→Bool
 | .lp j _ | .al j | .ep j _ _ _=>j == k
 | _=>false
def jL (env:Env) (k:Nat):Env:=env.map fun p=>if p.2.refers k then (p.1,.v .u) else p
def put (env:Env) (k:Nat) (e:EV):Env:=
 match lk env k with
 | some o=>if o.owns then (k,e)::jL env k else (k,e)::env
 | none=>(k,e)::env
def EV.isRef:EV→Bool
 | .lp _ _ | .al _ | .ep _ _ _ _=>true
 | _=>false
def ig (env:Env):List Nat→Env
 | []=>[]
 | k::r=>match lk env k with
  | some e=>if e.isRef then ig env r else (k,e)::ig env r
  | none=>ig env r
def mX (env:Env):Env:=env.map fun p=>match p.2 with
 | .v a=>(p.1,.v a)
 | _=>(p.1,.v .u)
inductive IX where
 | t (k:Nat)
 | c (a:AV)
 | g (k:Nat)
 deriving Inhabited
inductive AOp where
 | mov (x:IX)
 | asg (x:IX)
 | cpy (x:IX)
 | nbuf (t sz:Nat)
 | pick (c a b:IX)
 | lbox (x:IX)
 | lalloc (zs:List AV)
 | hbox (x:IX)
 | halloc (zs:List AV)
 | load (n:Option Nat) (a:IX)
 | loadp (d:Nat) (n:Option Nat) (a:IX)
 | store (n:Nat) (a x:IX)
 | fld (off:Nat) (a:IX)
 | idx (sz:Nat) (x i:IX)
 | idxa (len sz:Nat) (x i:IX)
 | getf (off:Nat) (n:Option Nat) (x:IX)
 | idxv (len sz:Nat) (n:Option Nat) (x i:IX)
 | idxs (x i:IX)
 | bin (op:BinOp) (x y:IX)
 | beq (neg:Bool) (x y:IX)
 | ieq (neg:Bool) (ks:List Nat) (x y:IX)
 | nileq (neg:Bool) (k:Nat) (x:IX)
 | un (op:UnOp) (x:IX)
 | toInt (k:IntKind) (x:IX)
 | s2b (x:IX)
 | b2s (x:IX)
 | same (x:IX)
 | mark (x:IX)
 | markk (x:IX)
 | build (zs:List AV) (ps:List (Nat×Nat×IX))
 | bsl (own:Bool) (t sz len:Nat) (zs:List AV) (ps:List (Nat×IX))
 | app (t sz:Nat) (x y:IX)
 | apps (t:Nat) (x y:IX)
 | appr (t sz:Nat) (x y:IX)
 | apprp (d:Nat) (t sz:Nat) (x y:IX)
 | appk (t sz:Nat) (x y:IX)
 | mks (t sz:Nat) (zs:List AV) (x:IX)
 | appz (t sz:Nat) (zs:List AV) (x n:IX)
 | appe (t sz:Nat) (x y:IX)
 | capn (x:IX)
 | lallocp (d:Nat) (zs:List AV)
 /-- a new box in the heap,in a region whose order is open -/
 | hallocp (d:Nat) (zs:List AV)
 | storep (n:Nat) (a x:IX)
 /-- A call that may change the heap,in a region whose order is open. -/
 | callh (d:Nat) (f:IX) (args:List IX) (k:Option (Nat×Nat))
 /-- The map in a cell of what a slot points to,which a call keeps. -/
 | loadv (a:IX) (k off:Nat)
 /-- A load of what lies in another object than these slots point to. -/
 | loadw (n:Option Nat) (a:IX) (bs:List Nat)
 /-- append to a made,empty slice;what is appended may lie in a row of the heap -/
 | appv (t sz:Nat) (x y:IX)
 /-- append of a string to a slice in the heap -/
 | appks (t:Nat) (x y:IX)
 | loadl (n:Option Nat) (a:IX)
 | storel (n k:Nat) (x:IX)
 | umap (d:Nat)
 | uins (m k v:IX)
 | bse
 | clrk (zs:List AV) (x:IX)
 | asgk (t sz:Nat) (x:IX)
 | len (k:Nat) (x:IX)
 | lenA (n:Nat)
 | minmax (isMin:Bool) (x y:IX)
 | slc (sz:Nat) (x:IX) (lo hi:Option IX)
 | slcs (x:IX) (lo hi:Option IX)
 | slc3 (sz:Nat) (x hi mx:IX)
 | ext (x:IX) (i:Nat)
 | mkfn (f:Fn) (as cs:List IX)
 | mkif (t:Nat) (x:IX)
 | look (kk:Nat) (z:AV) (ok:Bool) (m k:IX)
 | mkmap
 | ins (kk:Nat) (m k v:IX)
 | hmap
 /-- a map whose entries' stamps are known: nothing is deleted -/
 | hmapo
 | hins (kk:Nat) (m k v:IX)
 /-- an entry is made ready;its value and its stamp -/
 | ment (kk:Nat) (z:AV) (m k:IX)
 /-- the entry with a stamp is written -/
 | msto (m i v:IX)
 | hdel (kk:Nat) (m k:IX)
 | call (f:IX) (args:List IX)
 | callp (f:IX) (args:List IX)
 | nilchk (x:IX)
 | panic (x:IX)
 deriving Inhabited
structure ak where
 dst:Option Nat
 guard:Option (Nat×Bool)
 op:AOp
 deriving Inhabited
inductive ah where
 | skip
 | ret
 | exit (id:Nat)
 | region (ops:List ak) (ord:Option (List Nat×List Nat)) (keep:List Nat)
 | seq (a b:ah)
 | cond (c:IX) (a b:ah)
 | block (id:Nat) (b:ah)
 | loop (keep:List Nat) (b:ah)
 | range (f:IX) (ps:List Nat) (asg body:ah)
 | label (l:Nat)
 | goto (l:Nat)
 | scope (l:Nat) (keep:List Nat) (a b:ah)
 /-- Code that is not told: nothing is known of it. -/
 | cut
 deriving Inhabited
inductive PU where
 | ready|busy|ret
 | exit (id:Nat)
 deriving Inhabited
inductive eH where
 | cells (cs:List AV)
 | loop (env:Env) (ps:List Nat) (asg body:ah) (pend:PU)
 | dfr
 | dead
 | row (t sz n:Nat)
 | map (es:List (AV×AV))
 | mapo (es:List (AV×AV))
 | buf (t sz ver:Nat) (cs:List AV)
 | umap (es:List (List UInt8×AV))
 deriving Inhabited
abbrev St:=List eH
structure Ctx where
 lim:Nat
 base:Nat
inductive RO where
 | fail
 | ok (e:EV) (env:Env) (s:St)
 | pan (v:AV) (s:St)
 deriving Inhabited
inductive CO where
 | fail
 | ret (r:AV) (s:St)
 | pan (v:AV) (s:St)
 deriving Inhabited
inductive Out where
 | fail
 | norm (env:Env) (s:St)
 | exit (id:Nat) (env:Env) (s:St)
 | ret (env:Env) (s:St)
 | pan (v:AV) (s:St)
 | goto (l:Nat) (env:Env) (s:St)
 deriving Inhabited
def AV.one:AV→Bool
 | .u | .tu _ | .ag _=>false
 | _=>true
def AV.QK:AV→Bool
 | .i _ _ | .b _ | .s _ | .ns=>true
 | _=>false
def AV.flat2:AV→Bool
 | .ag cs=>cs.all AV.QK
 | a=>a.QK
def AV.flat:AV→Bool
 | .i _ _ | .b _ | .s _ | .ns=>true
 | .sl es=>es.all AV.flat2
 | _=>false
def splice (cs:List AV) (o:Nat) (new:List AV):List AV:=cs.take o++new++cs.drop (o+new.length)
def part (cs:List AV) (o:Nat):Option Nat→Option AV
 | none=>cs[o]?
 | some n=>if o+n≤cs.length then some (.ag ((cs.drop o).take n)) else none
def Rt (op:BinOp) (k:IntKind) (a b:Int):Option AV:=
 match op with
 | .add=>some (.i k (k.wrap (a+b)))
 | .sub=>some (.i k (k.wrap (a - b)))
 | .mul=>some (.i k (k.wrap (a * b)))
 | .quo=>if b=0 then none else some (.i k (k.wrap (a.tdiv b)))
 | .rem=>if b=0 then none else some (.i k (a.tmod b))
 | .eql=>some (.b (a == b))
 | .neq=>some (.b (a != b))
 | .lss=>some (.b (decide (a<b)))
 | .leq=>some (.b (decide (a≤b)))
 | .gtr=>some (.b (decide (a > b)))
 | .geq=>some (.b (decide (a ≥ b)))
 | .and=>some (.i k (k.wrap (BitVec.ofInt k.bits a &&& BitVec.ofInt k.bits b).toNat))
 | .shl=>if 0≤b then some (.i k (k.wrap (a * 2 ^ (min b.toNat k.bits)))) else none
 | .shr=>if 0≤b then some (.i k (a.fdiv (2 ^ (min b.toNat k.bits)))) else none
 | _=>none
def QY (op:BinOp) (x y:List UInt8):Option AV:=
 match op with
 | .add=>if (x++y).length≤4611686018427387904 then some (.s (x++y)) else none
 | .eql=>some (.b (x == y))
 | .neq=>some (.b (!(x == y)))
 | .lss=>some (.b (Op.bytesLess x y))
 | .leq=>some (.b (Op.bytesLess x y || x == y))
 | .gtr=>some (.b (!(Op.bytesLess x y || x == y)))
 | .geq=>some (.b (!Op.bytesLess x y))
 | _=>none
def SH (k:Nat) (x:AV):Option Bool:=
 match k,x with
 | 0,.ns=>some true
 | 0,.sl (_::_)=>some false
 | 1,.nm=>some true
 | 1,.im _=>some false
 | 1,.mp _=>some false
 | 2,.nf=>some true
 | 2,.fn _ _ _=>some false
 | 3,.np=>some true
 | 3,.pt _ _=>some false
 | 3,.ip _=>some false
 | 3,.sp _ _ _=>some false
 | 0,.sk _ _ _ _ (_+1)=>some false
 | 4,.ni=>some true
 | 4,.ifc _ _=>some false
 | 0,.se=>some false
 | 0,.sz=>some false
 | _,_=>none
def U1 (op:BinOp):AV→AV→Option AV
 | .i k a,.i k' b=>if k=k' then Rt op k a b else none
 | .s a,.s b=>QY op a b
 | _,_=>none
def XV (op:UnOp):AV→Option AV
 | .b x=>match op with
  | .not=>some (.b (!x))
  | _=>none
 | .i k a=>match op with
  | .neg=>some (.i k (k.wrap (0 - a)))
  | _=>none
 | _=>none
def nO:List Nat→List AV→List AV→Option Bool
 | [],[],[]=>some true
 | 0::ks,.i k a::x,.i k' b::y=>if k=k' then (match nO ks x y with
  | some r=>some (a == b && r)
  | none=>none) else none
 | 1::ks,.s a::x,.s b::y=>(match nO ks x y with
  | some r=>some (a == b && r)
  | none=>none)
 | 2::ks,.b a::x,.b b::y=>(match nO ks x y with
  | some r=>some (a == b && r)
  | none=>none)
 | _,_,_=>none
def fB:List AV→List AV→Option Bool
 | [],[]=>some true
 | .s a::x,.s b::y=>match fB x y with
  | some r=>some (a == b && r)
  | none=>none
 | _,_=>none
def RP:List AV→Bool
 | []=>true
 | .s _::x=>RP x
 | _=>false
def abq:Nat→Nat→List Nat
 | 0,_=>[]
 | f+1,n=>if n≤1 then [] else (n % 4)::abq f (n / 4)
def kds (n:Nat):List Nat:=abq 40 (n - 50)
def Aj:List Nat→List AV→Bool
 | [],[]=>true
 | 0::ks,.i _ _::x=>Aj ks x
 | 1::ks,.s _::x=>Aj ks x
 | 2::ks,.b _::x=>Aj ks x
 | _,_=>false
def oK (kk:Nat) (x y:AV):Option Bool:=
 match kk,x,y with
 | 0,.i k a,.i k' b=>if k=k' then some (a == b) else none
 | 1,.s a,.s b=>some (a == b)
 | 2,.b a,.b b=>some (a == b)
 | n+3,.ag a,.ag b=>if n<50 then (if a.length=n then fB a b else none) else nO (kds n) a b
 | _,_,_=>none
def find (kk:Nat) (k:AV):List (AV×AV)→Option (Option AV)
 | []=>some none
 | (k',v)::r=>match oK kk k k' with
  | some true=>some (some v)
  | some false=>find kk k r
  | none=>none
def Eo (kk:Nat) (k v:AV):List (AV×AV)→Option (List (AV×AV))
 | []=>some [(k,v)]
 | (k',v')::r=>match oK kk k k' with
  | some true=>some ((k,v)::r)
  | some false=>(Eo kk k v r).map ((k',v')::·)
  | none=>none
def OH (kk:Nat) (k:AV):List (AV×AV)→Nat→Option (Option (Nat×AV))
 | [],_=>some none
 | (k',v)::r,i=>match oK kk k k' with
  | some true=>some (some (i,v))
  | some false=>OH kk k r (i+1)
  | none=>none
def Nk (kk:Nat) (k:AV):List (AV×AV)→Option (List (AV×AV))
 | []=>some []
 | (k',v')::r=>match oK kk k k' with
  | some true=>some r
  | some false=>(Nk kk k r).map ((k',v')::·)
  | none=>none
def YI (k:List UInt8) (v:AV):List (List UInt8×AV)→List (List UInt8×AV)
 | []=>[(k,v)]
 | (k',v')::r=>if k=k' then (k,v)::r else if k<k' then (k,v)::(k',v')::r else (k',v')::YI k v r
def qj (kk:Nat) (x:AV):Bool:=
 match kk,x with
 | 0,.i _ _=>true
 | 1,.s _=>true
 | 2,.b _=>true
 | n+3,.ag cs=>if n<50 then cs.length == n && RP cs else Aj (kds n) cs
 | _,_=>false
def iD (l:List UInt8):List AV:=l.map fun x=>.i .u8 x.toNat
def byteOf:AV→Option UInt8
 | .i .u8 n=>some (UInt8.ofNat n.toNat)
 | _=>none
def xB (cells:List AV):List (Nat×List AV)→Option (List AV)
 | []=>some cells
 | (o,new)::r=>if o+new.length≤cells.length then xB (splice cells o new) r else none
section
variable (glob:Nat→Option (List AV))
def ev (env:Env):IX→Option EV
 | .t k=>lk env k
 | .c a=>some (.v a)
 | .g k=>(glob k).map fun cs=>.v (.ip cs)
def rd (env:Env) (x:IX):Option AV:=
 match ev glob env x with
 | some (.v a)=>some a.plain
 | _=>none
def gZ (env:Env):IX→Option Nat
 | .t k=>match lk env k with
  | some (.own _ _ _ _)=>some k
  | some (.al j)=>some j
  | _=>none
 | _=>none
def esc (env:Env) (x:IX):Option (AV×Env):=
 match ev glob env x with
 | some (.v a)=>some (a.plain,env)
 | some (.al j)=>match lk env j with
  | some (.own _ t sz es)=>some (.sl es,(j,.own true t sz es)::env)
  | _=>none
 | some (.own _ t sz es)=>match x with
  | .t k=>some (.sl es,(k,.own true t sz es)::env)
  | _=>none
 | some (.om es)=>match x with
  | .t k=>some (.im es,(k,.v (.im es))::(k,.v .u)::jL env k)
  | _=>none
 | _=>none
def wF (env:Env):List IX→Option (List AV×Env)
 | []=>some ([],env)
 | x::r=>match esc glob env x with
  | none=>none
  | some (a,env)=>match wF env r with
   | none=>none
   | some (as,env)=>some (a::as,env)
def rds (env:Env):List IX→Option (List AV)
 | []=>some []
 | x::r=>match rd glob env x with
  | none=>none
  | some a=>match rds env r with
   | none=>none
   | some as=>some (a::as)
def FH (env:Env) (x:IX):Option (AV×Env):=
 match ev glob env x with
 | some (.v a)=>some (a,env)
 | _=>esc glob env x
def elems (env:Env) (x:IX):Option (List AV):=
 match ev glob env x with
 | some (.v (.sl es))=>some es
 | some (.v (.st _ es))=>some es
 | some (.v .ns)=>some []
 | some (.v .se)=>some []
 | some (.v .sz)=>some []
 | some (.own _ _ _ es)=>some es
 | some (.al j)=>match lk env j with
  | some (.own _ _ _ es)=>some es
  | _=>none
 | _=>none
def Jl (env:Env) (x:IX):Option EV:=
 match ev glob env x,x with
 | some (.v a),_=>some (.v a)
 | some (.bx _),.t k=>some (.lp k 0)
 | some (.lp k o),_=>some (.lp k o)
 | some (.own _ _ _ _),.t k=>some (.al k)
 | some (.al k),_=>some (.al k)
 | some (.ep k sz i o),_=>some (.ep k sz i o)
 | _,_=>none
def dQ (env:Env) (s:St) (n:Option Nat) (a:IX):Option AV:=
 match ev glob env a with
 | some (.bx cs)=>part cs 0 n
 | some (.lp k o)=>match lk env k with
  | some (.bx cs)=>part cs o n
  | _=>none
 | some (.ep k sz i o)=>match lk env k with
  | some (.own _ _ sz' es)=>if sz=sz' then (es[i]?).bind fun e=>part e.cells o n else none
  | _=>none
 | some (.v (.ip cs))=>part cs 0 n
 | some (.v (.pt l o))=>match s[l]? with
  | some (.cells cs)=>part cs o n
  | _=>none
 | some (.v (.sp l ver o))=>match s[l]? with
  | some (.buf _ _ ver' cs)=>if ver=ver' then part cs o n else none
  | _=>none
 | _=>none
def Ci (a:AV) (o:Nat) (new:List AV):AV:=
 match a with
 | .ag cs=>.ag (splice cs o new)
 | a=>new.headD a
def Ui (s:St) (l i:Nat):Option Nat:=
 match s[l]? with
 | some (.cells cs)=>(match cs[i]? with|some (.mp m)=>some m | _=>none)
 | _=>none
def Pv (env:Env) (l:Nat) (bs:List Nat):Bool:=
 bs.all fun b=>match lk env b with
  | some (.v (.pt l' _))=>l' != l
  | _=>false
def Bl (env:Env) (s s1:St):Option (Nat×Nat)→Bool
 | none=>true
 | some (k,off)=>match lk env k with
  | some (.v (.pt l o))=>(match Ui s l (o+off),Ui s1 l (o+off) with|some m,some m'=>m == m' | _,_=>false)
  | _=>false
def lS (cx:Ctx) (env:Env) (s:St) (n:Nat) (a:IX) (v:AV):Option (Env×St):=
 if v.cells.length=n∧n≠0∧v.cells.all AV.one=true then
  match ev glob env a,a with
  | some (.bx cs),.t k=>if n≤cs.length then some ((k,.bx (splice cs 0 v.cells))::env,s) else none
  | some (.lp k o),_=>match lk env k with
   | some (.bx cs)=>if o+n≤cs.length then some ((k,.bx (splice cs o v.cells))::env,s) else none
   | _=>none
  | some (.ep k sz i o),_=>match lk env k with
   | some (.own false t sz' es)=>match es[i]? with
    | some e=>if sz=sz'∧o+n≤e.cells.length then some ((k,.own false t sz' (es.set i (Ci e o v.cells)))::env,s) else none
    | none=>none
   | _=>none
  | some (.v (.pt l o)),_=>match s[l]? with
   | some (.cells cs)=>if cx.lim≤l∧(cx.base≤l∨v.cells.all AV.flat=true)∧o+n≤cs.length then some (env,s.set l (.cells (splice cs o v.cells))) else none
   | _=>none
  | some (.v (.sp l ver o)),_=>match s[l]? with
   | some (.buf t sz ver' cs)=>if ver=ver'∧cx.lim≤l∧(cx.base≤l∨v.cells.all AV.flat=true)∧o+n≤cs.length then some (env,s.set l (.buf t sz ver (splice cs o v.cells))) else none
   | _=>none
  | _,_=>none
 else none
def addr (env:Env) (off:Nat) (a:IX):Option EV:=
 match ev glob env a,a with
 | some (.bx _),.t k=>some (.lp k off)
 | some (.lp k o),_=>some (.lp k (o+off))
 | some (.ep k sz i o),_=>some (.ep k sz i (o+off))
 | some (.v (.ip cs)),_=>some (.v (.ip (cs.drop off)))
 | some (.v (.pt l o)),_=>some (.v (.pt l (o+off)))
 | some (.v (.sp l ver o)),_=>some (.v (.sp l ver (o+off)))
 | _,_=>none
def EI (env:Env) (s:St) (sz:Nat) (y:IX):Option (Nat×List AV):=
 match elems glob env y with
 | some ys=>if (ys.all fun e=>e.cells.length == sz)=true then some (ys.length,ys.flatMap AV.cells) else none
 | none=>match ev glob env y with
  | some (.v (.sk l ver sz' o m))=>match s[l]? with
   | some (.buf _ sz'' ver' cs)=>if ver=ver'∧sz=sz'∧sz'=sz''∧o+m * sz≤cs.length then some (m,(cs.drop o).take (m * sz)) else none
   | _=>none
  | _=>none
def bound (env:Env) (d:Nat):Option IX→Option Nat
 | none=>some d
 | some x=>match rd glob env x with
  | some (.i _ n)=>if 0≤n then some n.toNat else none
  | _=>none
def dK:Nat:=1073741824
def okv (env:Env) (s:St):Option AV→RO
 | some a=>.ok (.v a) env s
 | none=>.fail
def aop (call:AV→List AV→St→Ctx→CO) (cx:Ctx) (env:Env) (s:St):AOp→RO
 | .mov x=>match ev glob env x,x with
  | some (.om es),.t k=>.ok (.v (.im es)) ((k,.v (.im es))::(k,.v .u)::jL env k) s
  | _,_=>match Jl glob env x with
   | some e=>.ok e env s
   | none=>.fail
 | .asg x=>match ev glob env x,x with
  | some (.own tip t sz es),.t k=>.ok (.own tip t sz es) ((k,.v .u)::jL env k) s
  | _,_=>match FH glob env x with
   | some (a,env)=>.ok (.v a) env s
   | none=>match Jl glob env x with
    | some e=>.ok e env s
    | none=>.fail
 | .cpy x=>match esc glob env x with
  | some (a,env)=>.ok (.v a) env s
  | none=>.fail
 | .nbuf t sz=>if 0<sz then .ok (.own false t sz []) env s else .fail
 | .pick c a b=>match rd glob env c with
  | some (.b x)=>okv env s (rd glob env (if x then a else b))
  | _=>.fail
 | .lbox x=>match esc glob env x with
  | some (a,env)=>if a.cells.all AV.one then .ok (.bx a.cells) env s else .fail
  | none=>.fail
 | .lalloc zs=>.ok (.bx zs) env s
 | .hbox x=>match esc glob env x with
  | some (a,env)=>if a.cells.all AV.one then .ok (.v (.pt s.length 0)) env (s++[.cells a.cells]) else .fail
  | none=>.fail
 | .halloc zs=>.ok (.v (.pt s.length 0)) env (s++[.cells zs])
 | .load n a=>okv env s (dQ glob env s n a)
 | .loadp d n a=>match lk env d,ev glob env a with
  | none,some (.v _)=>okv env s (dQ glob env s n a)
  | _,_=>.fail
 | .store n a x=>match FH glob env x with
  | some (v,env)=>match lS glob cx env s n a v with
   | some (env,s)=>.ok (.v (.tu [])) env s
   | none=>.fail
  | none=>.fail
 | .fld off a=>match addr glob env off a with
  | some e=>.ok e env s
  | none=>.fail
 | .idx sz x i=>match rd glob env i with
  | some (.i _ n)=>match gZ env x with
   | some k=>match lk env k with
    | some (.own _ _ sz' es)=>if sz=sz'∧0≤n∧n.toNat<es.length then .ok (.ep k sz n.toNat 0) env s else .fail
    | _=>.fail
   | none=>match rd glob env x with
    | some (.sl es)=>match es[n.toNat]? with
     | some e=>if 0≤n∧e.cells.length=sz then .ok (.v (.ip e.cells)) env s else .fail
     | none=>.fail
    | some (.sk l ver sz' o m)=>if sz=sz'∧0≤n∧n.toNat<m then .ok (.v (.sp l ver (o+n.toNat * sz))) env s else .fail
    | _=>.fail
  | _=>.fail
 | .idxa len sz x i=>match rd glob env i with
  | some (.i _ n)=>if 0≤n∧n.toNat<len then
    (match addr glob env (n.toNat * sz) x with
     | some e=>.ok e env s
     | none=>.fail) else .fail
  | _=>.fail
 | .getf off n x=>match rd glob env x with
  | some (.ag cs)=>okv env s (part cs off n)
  | _=>.fail
 | .idxv len sz n x i=>match rd glob env x,rd glob env i with
  | some (.ag cs),some (.i _ j)=>if 0≤j∧j.toNat<len then okv env s (part cs (j.toNat * sz) n) else .fail
  | _,_=>.fail
 | .idxs x i=>match rd glob env x,rd glob env i with
  | some (.s l),some (.i _ j)=>match l[j.toNat]? with
   | some c=>if 0≤j then .ok (.v (.i .u8 c.toNat)) env s else .fail
   | none=>.fail
  | _,_=>.fail
 | .bin op x y=>match rd glob env x,rd glob env y with
  | some a,some b=>okv env s (U1 op a b)
  | _,_=>.fail
 | .beq neg x y=>match rd glob env x,rd glob env y with
  | some (.b a),some (.b b)=>.ok (.v (.b (if neg then !(a == b) else a == b))) env s
  | _,_=>.fail
 | .ieq neg ks x y=>match rd glob env x,rd glob env y with
  | some (.ag a),some (.ag b)=>match nO ks a b with
   | some r=>.ok (.v (.b (if neg then !r else r))) env s
   | none=>.fail
  | _,_=>.fail
 | .nileq neg k x=>match rd glob env x with
  | some a=>match SH k a with
   | some n=>.ok (.v (.b (if neg then !n else n))) env s
   | none=>.fail
  | none=>.fail
 | .un op x=>match rd glob env x with
  | some a=>okv env s (XV op a)
  | _=>.fail
 | .toInt k x=>match rd glob env x with
  | some (.i _ n)=>.ok (.v (.i k (k.wrap n))) env s
  | _=>.fail
 | .s2b x=>match rd glob env x with
  | some (.s l)=>.ok (.v (.sl (iD l))) env s
  | _=>.fail
 | .b2s x=>match elems glob env x with
  | some es=>okv env s ((es.mapM byteOf).map .s)
  | none=>.fail
 | .same x=>match rd glob env x with
  | some (.s l)=>.ok (.v (.s l)) env s
  | _=>.fail
 | .mark x=>match x with
  | .t k=>match lk env k with
   | some (.own _ _ _ es)=>if 0<es.length then .ok (.v (.sl es)) ((k,.v .u)::jL env k) s else .fail
   | _=>.fail
  | _=>.fail
 | .markk x=>match x with
  | .t k=>match lk env k with
   | some (.own _ t sz es)=>if 0<es.length then .ok (.al k) ((k,.own true t sz es)::env) s else .fail
   | _=>.fail
  | _=>.fail
 | .build zs ps=>match wF glob env (ps.map (·.2.2)) with
  | some (vs,env)=>
   if (ps.zip vs).all (fun p=>p.2.cells.length == p.1.2.1 && p.2.cells.all AV.one) then
    okv env s ((xB zs ((ps.zip vs).map fun p=>(p.1.1,p.2.cells))).map .ag) else .fail
  | none=>.fail
 | .bsl own t sz len zs ps=>match wF glob env (ps.map (·.2)) with
  | some (vs,env)=>
   if len * sz≤16777216∧ps.map (·.1)=List.range len∧vs.all (fun v=>v.cells.length == sz && v.cells.all AV.one)∧zs.length=sz then
    (if own then (if 0<sz then .ok (.own false t sz vs) env s else .fail) else .ok (.v (.sl vs)) env s) else .fail
  | none=>.fail
 | .app t sz x y=>match elems glob env y,gZ env x with
  | some ys,some k=>match lk env k with
   | some (.own tip t' sz' es)=>
    if t=t'∧sz=sz'∧(ys.all fun e=>e.cells.length == sz)∧es.length+ys.length≤dK∧gZ env y≠some k then
     .ok (.own tip t sz (es++ys)) ((k,.v .u)::jL env k) s else .fail
   | _=>.fail
  | some ys,none=>match rd glob env x with
   | some .ns=>if 0<sz∧(ys.all fun e=>e.cells.length == sz)∧ys.length≤dK then .ok (.own false t sz ys) env s else .fail
   | _=>.fail
  | _,_=>.fail
 | .apps t x y=>match rd glob env y,gZ env x with
  | some (.s l),some k=>match lk env k with
   | some (.own tip t' sz' es)=>if t=t'∧sz'=1∧es.length+l.length≤dK then .ok (.own tip t 1 (es++iD l)) ((k,.v .u)::jL env k) s else .fail
   | _=>.fail
  | _,_=>.fail
 | .appr t sz x y=>match elems glob env y,ev glob env x with
  | some ys,some (.v .ns)=>
   if 0<sz∧0<ys.length∧(ys.all fun e=>e.cells.length == sz)∧ys.length≤dK then .ok (.v (.st s.length ys)) env (s++[.row t sz ys.length]) else .fail
  | some ys,some (.v .se)=>
   if 0<sz∧0<ys.length∧(ys.all fun e=>e.cells.length == sz)∧ys.length≤dK then .ok (.v (.st s.length ys)) env (s++[.row t sz ys.length]) else .fail
  | some ys,some (.v (.st l es))=>match s[l]? with
   | some (.row t' sz' k)=>
    if t=t'∧sz=sz'∧k=es.length∧0<sz∧0<ys.length∧(ys.all fun e=>e.cells.length == sz)∧(es.all fun e=>e.cells.length == sz)∧es.length+ys.length≤dK∧cx.lim≤l then
     .ok (.v (.st l (es++ys))) env (s.set l (.row t sz (es.length+ys.length))) else .fail
   | _=>.fail
  | _,_=>.fail
 | .apprp d t sz x y=>match lk env d with
  | some _=>.fail
  | none=>match elems glob env y,ev glob env x with
   | some ys,some (.v .ns)=>
    if 0<sz∧0<ys.length∧(ys.all fun e=>e.cells.length == sz)∧ys.length≤dK then .ok (.v (.st s.length ys)) env (s++[.row t sz ys.length]) else if ys.length=0 then .ok (.v .ns) env s else .fail
   | some ys,some (.v .se)=>
    if 0<sz∧0<ys.length∧(ys.all fun e=>e.cells.length == sz)∧ys.length≤dK then .ok (.v (.st s.length ys)) env (s++[.row t sz ys.length]) else if ys.length=0 then .ok (.v .se) env s else .fail
   | some ys,some (.v (.st l es))=>match s[l]? with
    | some (.row t' sz' k)=>
     if t=t'∧sz=sz'∧k=es.length∧0<sz∧0<ys.length∧(ys.all fun e=>e.cells.length == sz)∧(es.all fun e=>e.cells.length == sz)∧es.length+ys.length≤dK∧cx.lim≤l then
      .ok (.v (.st l (es++ys))) env (s.set l (.row t sz (es.length+ys.length))) else if ys.length=0 then .ok (.v (.st l es)) env s else .fail
    | _=>.fail
   | _,_=>.fail
 | .appk t sz x y=>match elems glob env y,ev glob env x with
  | some ys,some (.v .ns)=>
   if 0<sz∧0<ys.length∧(ys.all fun e=>e.cells.length == sz)∧ys.length≤dK then .ok (.v (.sk s.length 0 sz 0 ys.length)) env (s++[.buf t sz 0 (ys.flatMap AV.cells)]) else .fail
  | some ys,some (.v .se)=>
   if 0<sz∧0<ys.length∧(ys.all fun e=>e.cells.length == sz)∧ys.length≤dK then .ok (.v (.sk s.length 0 sz 0 ys.length)) env (s++[.buf t sz 0 (ys.flatMap AV.cells)]) else .fail
  | some ys,some (.v (.sk l ver sz2 o m))=>match s[l]? with
   | some (.buf t' sz' ver' cs)=>
    if t=t'∧sz=sz'∧sz2=sz∧ver=ver'∧0<ys.length∧(ys.all fun e=>e.cells.length == sz)∧m+ys.length≤dK∧o+m * sz≤cs.length∧cx.lim≤l∧(cx.base≤l∨(ys.flatMap AV.cells).all AV.flat=true) then
     .ok (.v (.sk l (ver+1) sz 0 (m+ys.length))) env (s.set l (.buf t sz (ver+1) ((cs.drop o).take (m * sz)++ys.flatMap AV.cells))) else .fail
   | _=>.fail
  | _,_=>.fail
 | .appv t sz x y=>match EI glob env s sz y,ev glob env x with
  | some (0,_),some (.v .se)=>.ok (.v .se) env s
  | some (m+1,cs),some (.v .se)=>if 0<sz∧m+1≤dK then .ok (.v (.sk s.length 0 sz 0 (m+1))) env (s++[.buf t sz 0 cs]) else .fail
  | _,_=>.fail
 | .appks t x y=>match rd glob env y,ev glob env x with
  | some (.s b),some (.v .ns)=>if 0<b.length∧b.length≤dK then .ok (.v (.sk s.length 0 1 0 b.length)) env (s++[.buf t 1 0 (iD b)]) else .fail
  | some (.s b),some (.v (.sk l ver sz2 o m))=>match s[l]? with
   | some (.buf t' sz' ver' cs)=>if t=t'∧sz'=1∧sz2=1∧ver=ver'∧0<b.length∧m+b.length≤dK∧o+m≤cs.length∧cx.lim≤l then
     .ok (.v (.sk l (ver+1) 1 0 (m+b.length))) env (s.set l (.buf t 1 (ver+1) ((cs.drop o).take m++iD b))) else .fail
   | _=>.fail
  | _,_=>.fail
 | .appz t sz zs x y=>match ev glob env x,rd glob env y with
  | some (.v .ns),some (.i .i64 n)=>if 0<sz∧zs.length=sz∧0<n∧n.toNat≤16777216 then .ok (.v (.sk s.length 0 sz 0 n.toNat)) env (s++[.buf t sz 0 (List.replicate n.toNat zs).flatten]) else .fail
  | _,_=>.fail
 | .capn x=>match ev glob env x with
  | some (.v .ns)=>.ok (.v (.i .i64 0)) env s
  | _=>.fail
 | .appe t sz x y=>match elems glob env y with
  | some []=>(match ev glob env x with
   | some (.v .ns)=>.ok (.v .ns) env s
   | some (.v (.sk l ver sz2 o m))=>.ok (.v (.sk l ver sz2 o m)) env s
   | _=>.fail)
  | _=>match elems glob env y,ev glob env x with
   | some ys,some (.v .ns)=>
    if 0<sz∧0<ys.length∧(ys.all fun e=>e.cells.length == sz)∧ys.length≤dK then .ok (.v (.sk s.length 0 sz 0 ys.length)) env (s++[.buf t sz 0 (ys.flatMap AV.cells)]) else .fail
   | some ys,some (.v .se)=>
    if 0<sz∧0<ys.length∧(ys.all fun e=>e.cells.length == sz)∧ys.length≤dK then .ok (.v (.sk s.length 0 sz 0 ys.length)) env (s++[.buf t sz 0 (ys.flatMap AV.cells)]) else .fail
   | some ys,some (.v (.sk l ver sz2 o m))=>match s[l]? with
    | some (.buf t' sz' ver' cs)=>
     if t=t'∧sz=sz'∧sz2=sz∧ver=ver'∧0<ys.length∧(ys.all fun e=>e.cells.length == sz)∧m+ys.length≤dK∧o+m * sz≤cs.length∧cx.lim≤l∧(cx.base≤l∨(ys.flatMap AV.cells).all AV.flat=true) then
      .ok (.v (.sk l (ver+1) sz 0 (m+ys.length))) env (s.set l (.buf t sz (ver+1) ((cs.drop o).take (m * sz)++ys.flatMap AV.cells))) else .fail
    | _=>.fail
   | _,_=>.fail
 | .mks t sz zs x=>match rd glob env x with
  | some (.i _ n)=>if 0<sz∧zs.length=sz∧0≤n∧n.toNat≤16777216 then .ok (.v (.sk s.length 0 sz 0 n.toNat)) env (s++[.buf t sz 0 (List.replicate n.toNat zs).flatten]) else .fail
  | _=>.fail
 | .asgk t sz x=>match ev glob env x,x with
  | some (.own false t' sz' es),.t k=>if t=t'∧sz=sz'∧0<es.length then .ok (.v (.sk s.length 0 sz 0 es.length)) ((k,.v .u)::jL env k) (s++[.buf t sz 0 (es.flatMap AV.cells)]) else .fail
  | _,_=>.fail
 | .lallocp d zs=>match lk env d with
  | some _=>.fail
  | none=>.ok (.bx zs) env s
 | .hallocp d zs=>match lk env d with
  | some _=>.fail
  | none=>.ok (.v (.pt s.length 0)) env (s++[.cells zs])
 | .storep n a x=>match ev glob env a,ev glob env x with
  | some (.v av),some (.v xv)=>match lS glob cx env s n a xv with
   | some (_,s)=>.ok (.v (.tu [])) env s
   | none=>.fail
  | _,_=>.fail
 | .loadl n a=>match ev glob env a with
  | some (.bx _)=>okv env s (dQ glob env s n a)
  | some (.lp _ _)=>okv env s (dQ glob env s n a)
  | some (.v (.ip _))=>okv env s (dQ glob env s n a)
  | _=>.fail
 | .storel n k x=>match lk env k,ev glob env x with
  | some (.bx cs),some (.v xv)=>if xv.cells.length=n∧n≠0∧xv.cells.all AV.one=true∧n≤cs.length then .ok (.v (.tu [])) ((k,.bx (splice cs 0 xv.cells))::env) s else .fail
  | _,_=>.fail
 | .umap d=>match lk env d with
  | some _=>.fail
  | none=>.ok (.v (.mp s.length)) env (s++[.umap []])
 | .uins m k v=>match ev glob env m,ev glob env k,ev glob env v with
  | some (.v (.mp l)),some (.v (.s key)),some (.v val)=>match s[l]? with
   | some (.umap es)=>if val.one∧val.flat=true∧cx.lim≤l then .ok (.v (.tu [])) env (s.set l (.umap (YI key val es))) else .fail
   | _=>.fail
  | _,_,_=>.fail
 | .bse=>.ok (.v .se) env s
 | .clrk zs x=>match rd glob env x with
  | some (.sk l ver sz o m)=>match m,s[l]? with
   | 0,_=>.ok (.v (.tu [])) env s
   | n+1,some (.buf t sz' ver' cs)=>if ver=ver'∧sz=sz'∧0<sz∧zs.length=sz∧o+(n+1) * sz≤cs.length∧cx.lim≤l∧cx.base≤l then
     .ok (.v (.tu [])) env (s.set l (.buf t sz ver (splice cs o (List.replicate (n+1) zs).flatten))) else .fail
   | _,_=>.fail
  | _=>.fail
 | .len 0 x=>match elems glob env x with
  | some es=>.ok (.v (.i .i64 es.length)) env s
  | none=>match rd glob env x with
   | some (.sk _ _ _ _ m)=>.ok (.v (.i .i64 m)) env s
   | _=>.fail
 | .len 1 x=>match rd glob env x with
  | some (.s l)=>.ok (.v (.i .i64 l.length)) env s
  | _=>.fail
 | .len 2 x=>match rd glob env x with
  | some (.im es)=>.ok (.v (.i .i64 es.length)) env s
  | some (.mp l)=>match s[l]? with
   | some (.map es)=>.ok (.v (.i .i64 es.length)) env s
   | some (.mapo es)=>.ok (.v (.i .i64 es.length)) env s
   | _=>.fail
  | some .nm=>.ok (.v (.i .i64 0)) env s
  | _=>.fail
 | .len _ _=>.fail
 | .lenA n=>.ok (.v (.i .i64 n)) env s
 | .minmax isMin x y=>match rd glob env x,rd glob env y with
  | some (.i k a),some (.i k' b)=>if k=k' then .ok (.v (.i k (if isMin then (if b<a then b else a) else (if b > a then b else a)))) env s else .fail
  | _,_=>.fail
 | .slc sz x lo hi=>match esc glob env x with
  | some (.sl es,env)=>match bound glob env 0 lo,bound glob env es.length hi with
   | some l,some h=>if l≤h∧h≤es.length∧(es.all fun e=>e.cells.length == sz) then .ok (.v (.sl ((es.drop l).take (h - l)))) env s else .fail
   | _,_=>.fail
  | some (.ns,env)=>match bound glob env 0 lo,bound glob env 0 hi with
   | some 0,some 0=>.ok (.v .ns) env s
   | _,_=>.fail
  | some (.sk k ver sz' o m,env)=>match bound glob env 0 lo,bound glob env m hi with
   | some l,some h=>if sz=sz'∧l≤h∧h≤m then .ok (.v (.sk k ver sz (o+l * sz) (h - l))) env s else .fail
   | _,_=>.fail
  | _=>.fail
 | .slc3 sz x hi mx=>match esc glob env x with
  | some (.sl es,env)=>match bound glob env 0 (some hi),bound glob env 0 (some mx) with
   | some h,some m=>if h≤m∧m≤es.length∧(es.all fun e=>e.cells.length == sz) then .ok (.v (.sl (es.take h))) env s else .fail
   | _,_=>.fail
  | _=>.fail
 | .slcs x lo hi=>match rd glob env x with
  | some (.s cs)=>match bound glob env 0 lo,bound glob env cs.length hi with
   | some l,some h=>if l≤h∧h≤cs.length then .ok (.v (.s ((cs.drop l).take (h - l)))) env s else .fail
   | _,_=>.fail
  | _=>.fail
 | .ext x i=>match rd glob env x with
  | some (.tu cs)=>okv env s (cs[i]?)
  | _=>.fail
 | .mkfn f as cs=>match wF glob env as with
  | some (vs,env)=>match wF glob env cs with
   | some (ws,env)=>.ok (.v (.fn f vs ws)) env s
   | none=>.fail
  | none=>.fail
 | .mkif t x=>match esc glob env x with
  | some (a,env)=>.ok (.v (.ifc t a)) env s
  | none=>.fail
 | .look kk z ok m k=>match rd glob env k with
  | some key=>if 3≤kk∧qj kk key=false then .fail else match (match rd glob env m with
    | some (.im es)=>find kk key es
    | some .nm=>if qj kk key then some none else none
    | some (.mp l)=>match s[l]? with
     | some (.map es)=>find kk key es
     | some (.mapo es)=>find kk key es
     | _=>none
    | _=>none) with
   | some r=>if ok then .ok (.v (.tu [r.getD z,.b r.isSome])) env s else .ok (.v (r.getD z)) env s
   | none=>.fail
  | none=>.fail
 | .mkmap=>.ok (.om []) env s
 | .ins kk m k v=>match m,wF glob env [k,v] with
  | .t j,some ([key,val],env)=>match lk env j with
   | some (.om es)=>match find kk key es with
    | some none=>if val.one∧qj kk key then .ok (.v (.tu [])) ((j,.om (es++[(key,val)]))::env) s else .fail
    | _=>.fail
   | _=>.fail
  | _,_=>.fail
 | .hmap=>.ok (.v (.mp s.length)) env (s++[.map []])
 | .hins kk m k v=>match rd glob env m,rd glob env k,FH glob env v with
  | some (.mp l),some key,some (val,env)=>match s[l]? with
   | some (.map es)=>match Eo kk key val es with
    | some es'=>if val.one∧qj kk key∧cx.lim≤l∧(cx.base≤l∨val.flat=true) then .ok (.v (.tu [])) env (s.set l (.map es')) else .fail
    | none=>.fail
   | some (.mapo es)=>match Eo kk key val es with
    | some es'=>if val.one∧qj kk key∧cx.lim≤l∧(cx.base≤l∨val.flat=true) then .ok (.v (.tu [])) env (s.set l (.mapo es')) else .fail
    | none=>.fail
   | _=>.fail
  | _,_,_=>.fail
 | .hmapo=>.ok (.v (.mp s.length)) env (s++[.mapo []])
 | .ment kk z m k=>match rd glob env m,rd glob env k with
  | some (.mp l),some key=>match s[l]? with
   | some (.mapo es)=>if qj kk key∧cx.lim≤l∧z.one∧z.flat=true then (match OH kk key es 0 with
    | some (some (i,v))=>.ok (.v (.tu [v,.i .i64 i])) env s
    | some none=>.ok (.v (.tu [z,.i .i64 es.length])) env (s.set l (.mapo (es++[(key,z)])))
    | none=>.fail) else .fail
   | _=>.fail
  | _,_=>.fail
 | .msto m i v=>match rd glob env m,rd glob env i,FH glob env v with
  | some (.mp l),some (.i .i64 n),some (val,env)=>match s[l]? with
   | some (.mapo es)=>match es[n.toNat]? with
    | some (key,_)=>if 0≤n∧val.one∧cx.lim≤l∧(cx.base≤l∨val.flat=true) then .ok (.v (.tu [])) env (s.set l (.mapo (es.set n.toNat (key,val)))) else .fail
    | none=>.fail
   | _=>.fail
  | _,_,_=>.fail
 | .hdel kk m k=>match rd glob env m,rd glob env k with
  | some (.mp l),some key=>match s[l]? with
   | some (.map es)=>match Nk kk key es with
    | some es'=>if qj kk key∧cx.lim≤l then .ok (.v (.tu [])) env (s.set l (.map es')) else .fail
    | none=>.fail
   | _=>.fail
  | _,_=>.fail
 | .call f args=>match rd glob env f,wF glob env args with
  | some fv,some (as,env)=>match call fv as s cx with
   | .ret r s=>.ok (.v r) env s
   | .pan v s=>.pan v s
   | .fail=>.fail
  | _,_=>.fail
 | .callp f args=>match rd glob env f,wF glob env args with
  | some fv,some (as,env)=>match call fv as s cx with
   | .ret r s=>.ok (.v r) env s
   | .pan v s=>.pan v s
   | .fail=>.fail
  | _,_=>.fail
 | .loadw n a bs=>match ev glob env a with
  | some (.v (.pt l _))=>if Pv env l bs=true then okv env s (dQ glob env s n a) else .fail
  | _=>.fail
 | .loadv a k off=>match ev glob env a,lk env k with
  | some (.v (.pt l o)),some (.v (.pt l' o'))=>if l=l'∧o=o'+off then (match Ui s l o with|some m=>.ok (.v (.mp m)) env s|none=>.fail) else .fail
  | _,_=>.fail
 | .callh d f args k=>match lk env d with
  | some _=>.fail
  | none=>match rd glob env f,rds glob env args with
   | some fv,some as=>match call fv as s cx with
    | .ret r s1=>if Bl env s s1 k=true then .ok (.v r) env s1 else .fail
    | .pan v s=>.pan v s
    | .fail=>.fail
   | _,_=>.fail
 | .nilchk x=>match rd glob env x with
  | some (.ip cs)=>.ok (.v (.ip cs)) env s
  | some (.pt l o)=>.ok (.v (.pt l o)) env s
  | _=>.fail
 | .panic x=>match esc glob env x with
  | some (.ifc t a,_)=>.pan (.ifc t a) s
  | _=>.fail
def aZ (env:Env):Option (Nat×Bool)→Option Bool
 | none=>some true
 | some (k,want)=>match lk env k with
  | some (.v (.b x))=>some (x == want)
  | some (.v (.tu []))=>some false
  | _=>none
def bD (call:AV→List AV→St→Ctx→CO) (cx:Ctx) (o:ak) (env:Env) (s:St):Out:=
 match aZ env o.guard with
 | none=>.fail
 | some false=>match o.dst with
  | some d=>.norm (put env d (.v (.tu []))) s
  | none=>.norm env s
 | some true=>match aop glob call cx env s o.op with
  | .fail=>.fail
  | .pan v s=>.pan v s
  | .ok e env s=>match o.dst with
   | some d=>if e.refers d then .fail else .norm (put env d e) s
   | none=>.norm env s
def gq (call:AV→List AV→St→Ctx→CO) (cx:Ctx):List ak→Env→St→Out
 | [],env,s=>.norm env s
 | o::r,env,s=>match bD glob call cx o env s with
  | .norm env s=>gq call cx r env s
  | out=>out
end
end Go.Ai
namespace Go.Ai
def IX.slots:IX→List Nat
 | .t k=>[k]
 | _=>[]
def oxs:Option IX→List IX
 | some x=>[x]
 | none=>[]
def AOp.quiet:AOp→Option (List IX×List IX)
 | .mov x=>some ([x],[])
 | .pick c a b=>some ([c,a,b],[])
 | .load _ a=>some ([a],[])
 | .loadp d _ a=>some ([a,.t d],[])
 | .loadl _ a=>some ([a],[])
 | .fld _ a=>some ([a],[])
 | .idx _ x i=>some ([x,i],[])
 | .idxa _ _ x i=>some ([x,i],[])
 | .getf _ _ x=>some ([x],[])
 | .idxv _ _ _ x i=>some ([x,i],[])
 | .idxs x i=>some ([x,i],[])
 | .bin _ x y=>some ([x,y],[])
 | .beq _ x y=>some ([x,y],[])
 | .ieq _ _ x y=>some ([x,y],[])
 | .nileq _ _ x=>some ([x],[])
 | .un _ x=>some ([x],[])
 | .toInt _ x=>some ([x],[])
 | .s2b x=>some ([x],[])
 | .b2s x=>some ([x],[])
 | .same x=>some ([x],[])
 | .len _ x=>some ([x],[])
 | .lenA _=>some ([],[])
 | .minmax _ x y=>some ([x,y],[])
 | .slcs x lo hi=>some (x::(oxs lo++oxs hi),[])
 | .ext x _=>some ([x],[])
 | .bse=>some ([],[])
 | .look _ _ _ m k=>some ([m,k],[])
 | .nilchk x=>some ([x],[])
 | .loadv a k _=>some ([a,.t k],[])
 | .loadw _ a bs=>some (a::bs.map .t,[])
 | .cpy x=>some ([],[x])
 | .build _ ps=>some ([],ps.map (·.2.2))
 | .bsl false _ _ _ _ ps=>some ([],ps.map (·.2))
 | .slc _ x lo hi=>some (oxs lo++oxs hi,[x])
 | .mkfn _ as cs=>some ([],as++cs)
 | .mkif _ x=>some ([],[x])
 | .call f as=>some ([f],as)
 | _=>none
section
variable (glob:Nat→Option (List AV))
def OC (env:Env) (x:IX):Bool:=
 match ev glob env x with
 | some (.om _)=>false
 | _=>true
def G9 (env:Env) (x:IX):Bool:=
 match ev glob env x with
 | some (.v _)=>true
 | some (.al j)=>(match lk env j with|some (.own tip _ _ _)=>tip | _=>false)
 | some (.own tip _ _ _)=>tip
 | _=>false
def okQ (env:Env) (op:AOp):Bool:=
 match op.quiet with
 | some (rs,es)=>rs.all (OC glob env) && es.all (G9 glob env)
 | none=>false
def iC (env:Env) (d:Nat):Bool:=
 match lk env d with
 | some e=>e.owns
 | none=>false
def o7 (call:AV→List AV→St→Ctx→CO) (o:ak) (env:Env) (s:St):Option EV:=
 match aZ env o.guard with
 | none=>none
 | some false=>some (.v (.tu []))
 | some true=>if okQ glob env o.op then
   (match aop glob call ⟨s.length,s.length⟩ env s o.op with
   | .ok e _ s1=>if s1.length=s.length∧e.owns=false then some e else none
   | _=>none) else none
def xE (call:AV→List AV→St→Ctx→CO) (o:ak) (env:Env) (s:St):Out:=
 match o7 glob call o env s with
 | none=>.fail
 | some e=>match o.dst with
  | none=>.norm env s
  | some d=>if e.refers d=false∧iC env d=false then .norm ((d,e)::env) s else .fail
def bV (call:AV→List AV→St→Ctx→CO) (cx:Ctx) (o:ak) (env:Env) (s:St):Out:=
 if o.op.quiet.isSome then xE glob call o env s else bD glob call cx o env s
def dX (call:AV→List AV→St→Ctx→CO) (cx:Ctx) (aops:List ak):List Nat→Env→St→Out
 | [],env,s=>.norm env s
 | i::r,env,s=>match aops[i]? with
  | none=>.fail
  | some o=>match bV glob call cx o env s with
   | .norm env s=>dX call cx aops r env s
   | out=>out
def AX (env:Env):List Nat→Env
 | []=>env
 | k::r=>match lk env k with
  | some (.own _ t sz es)=>AX ((k,.own true t sz es)::env) r
  | _=>AX env r
end
def ak.reads (o:ak):List Nat:=
 (match o.op.quiet with
 | some (rs,es)=>(rs++es).flatMap IX.slots
 | none=>[])++(match o.guard with|some (k,_)=>[k] | none=>[])
def mZ (d:Option Nat) (l:List Nat):Bool:=
 match d with
 | some d=>l.all fun k=>k != d
 | none=>true
def PL (o p:ak):Bool:=
 o.op.quiet.isSome && p.op.quiet.isSome && mZ o.dst p.reads && mZ p.dst o.reads && (match o.dst,p.dst with|some d,some d'=>d != d' | _,_=>true)
def AOp.calm:AOp→Bool
 | .mov _ | .fld _ _ | .load _ _ | .loadp _ _ _ | .idx _ _ _ | .idxa _ _ _ _ | .getf _ _ _ | .bin _ _ _ | .ext _ _ | .pick _ _ _ | .look _ _ _ _ _ | .nilchk _ | .un _ _ | .beq _ _ _ | .bsl false _ _ _ _ _ | .len 0 _ | .len 1 _ | .lenA _ | .slc _ _ _ _=>true
 | _=>false
def Pz (o p:ak):Bool:=
 (match o.op,o.dst with
  | .apprp d _ _ x y,some d'=>d == d' && mZ p.dst (x.slots++y.slots)
  | _,_=>false) && o.guard.isNone && p.op.calm && p.op.quiet.isSome && mZ o.dst p.reads && (match o.dst,p.dst with|some d,some d'=>d != d' | _,_=>true)
def AOp.heapy:AOp→Option (List Nat)
 | .umap _=>some []
 | .uins m k v=>some (m.slots++k.slots++v.slots)
 | .storep _ a x=>some (a.slots++x.slots)
 | _=>none
def Tq (op:AOp) (od:Option Nat):Bool:=
 match op,od with
 | .umap d,some d'=>d == d'
 | .umap _,none=>false
 | _,some _=>false
 | _,none=>true
def AOp.free:AOp→Bool
 | .mov _ | .ext _ _ | .idxa _ _ _ _ | .fld _ _ | .bin _ _ _ | .build _ _ | .idx _ _ _ | .loadl _ _ | .slc _ _ _ _ | .b2s _ | .nilchk _ | .len 0 _ | .len 1 _ | .lenA _ | .un _ _ | .toInt _ _ | .getf _ _ _ | .mkfn _ _ _=>true
 | _=>false
def XH (_ _:ak):Bool:=false
def PI (o p:ak):Bool:=
 (match o.op.heapy with|some l=>mZ p.dst l|none=>false) && Tq o.op o.dst && o.guard.isNone &&
  p.op.free && mZ o.dst p.reads && (match o.dst,p.dst with|some d,some d'=>d != d' | _,_=>true)
def PG (o p:ak):Bool:=
 o.op.free && (match p.op.heapy with|some l=>mZ o.dst l|none=>false) && p.guard.isNone && p.dst.isNone && Tq p.op none
def XG (_ _:ak):Bool:=false
def PE (o p:ak):Bool:=
 (match p.op,p.dst with | .lallocp d _,some d'=>d == d' | _,_=>false) && p.guard.isNone && (match o.dst with|some d=>some d != p.dst|none=>true) &&
  (if o.op.quiet.isSome then mZ p.dst o.reads else match o.op,o.dst with
   | .apprp d _ _ x y,some d'=>d == d' && mZ p.dst (x.slots++y.slots) && o.guard.isNone
   | _,_=>false)
def AOp.isApp:AOp→Bool
 | .app _ _ _ _ | .apps _ _ _=>true
 | _=>false
def PD (o p:ak):Bool:=
 o.op.isApp && o.guard.isNone && p.guard.isNone && (match p.op,p.dst with
  | .loadp d _ _,some d'=>d == d'
  | _,_=>false)
def ak.callS (o:ak):Option (Nat×List Nat):=
 match o with
 | ⟨some d',none,.callh d f as k⟩=>if d=d' then some (d,(f.slots++as.flatMap IX.slots)++(k.map (·.1)).toList) else none
 | _=>none
def yR (o p:ak):Bool:=
 o.op.free && (match p.callS with|some (d,l)=>mZ o.dst (d::l) && o.reads.all (fun j=>j != d)|none=>false)
def PK (o p:ak):Bool:=
 p.op.free && (match o.callS with|some (d,l)=>mZ p.dst (d::l) && p.reads.all (fun j=>j != d)|none=>false)
def Aw (o p:ak):Bool:=
 (match o.op,p.op with
  | .loadv _ k off,.callh _ _ _ (some (k',off'))=>k == k' && off == off'
  | _,_=>false) && o.guard.isNone && (match p.callS with|some (d,l)=>mZ o.dst (d::l) && o.reads.all (fun j=>j != d)|none=>false)
def Py (o p:ak):Bool:=
 (match o.op,p.op with
  | .loadw _ _ bs,.storep _ (.t b) x=>bs.contains b && mZ o.dst (b::x.slots)
  | _,_=>false) && o.guard.isNone && p.guard.isNone && p.dst.isNone
def XI (_ _:ak):Bool:=false
def apart (o p:ak):Bool:=PL o p || PD o p || Pz o p || PI o p || XG o p || PE o p || PG o p || XH o p || yR o p || PK o p || Aw o p || Py o p || XI o p
def AOp.pre:AOp→Bool
 | .loadv _ _ _=>true
 | op=>op.free
def vz (aops:List ak) (c:Nat):List ak→List Nat→List Nat
 | _,[]=>[]
 | ds,i::r=>match aops[i]? with
  | some o=>if i=c then vz aops c (o::ds) r else if (ds.any fun d=>!apart d o)=true then vz aops c (o::ds) r else i::vz aops c ds r
  | none=>vz aops c ds r
def HY (aops:List ak) (c:Nat) (oc:ak) (seen:Bool) (l:List Nat):List Nat:=vz aops c (if seen=true then [oc] else []) l
def Vl (aops:List ak):List Nat→Option (Nat×ak)
 | []=>none
 | i::r=>match aops[i]? with
  | some o=>if o.callS.isSome then some (i,o) else Vl aops r
  | none=>Vl aops r
section
variable (glob:Nat→Option (List AV))
def yj (call:AV→List AV→St→Ctx→CO) (cx:Ctx) (ops:List ak) (π:List Nat) (env:Env) (s:St):Out:=
 match Vl ops π with
 | none=>.fail
 | some (c,oc)=>if ((HY ops c oc false π).all fun j=>match ops[j]? with|some o=>o.op.pre && (yR o oc || Aw o oc || (π.takeWhile fun x=>x != c).contains j)|none=>false)=true then
   (match dX glob call cx ops (HY ops c oc false π) env s with
   | .norm env1 s1=>match bD glob call cx oc env1 s1 with
    | .pan v' s2=>.pan v' s2
    | _=>.fail
   | _=>.fail) else .fail
def Out.orPan (o k:Out):Out:=
 match o with
 | .pan _ _=>k
 | o=>o
def kP (call:AV→List AV→St→Ctx→CO) (cx:Ctx) (ops:List ak) (env:Env) (s:St):Option (List Nat×List Nat)→Out
 | none=>gq glob call cx ops env s
 | some (π,ts)=>(dX glob call cx ops π (AX env ts) s).orPan (yj glob call cx ops π (AX env ts) s)
end
end Go.Ai
namespace Go.Ai
mutual
def AV.under (n:Nat):AV→Bool
 | .pt l _ | .mp l | .yl l | .sk l _ _ _ _ | .sp l _ _=>decide (l<n)
 | .sl es | .ag es | .tu es | .ip es=>cu n es
 | .im es=>mV n es
 | .fn _ as cs=>cu n as && cu n cs
 | .ifc _ v=>v.under n
 | .kb m=>m.under n
 | .st l es=>decide (l<n) && cu n es
 | _=>true
def cu (n:Nat):List AV→Bool
 | []=>true
 | a::r=>a.under n && cu n r
def mV (n:Nat):List (AV×AV)→Bool
 | []=>true
 | (a,b)::r=>a.under n && b.under n && mV n r
end
def chunk (sz:Nat):Nat→List AV→List AV
 | 0,_=>[]
 | n+1,cs=>(if sz=1 then cs.headD .u else .ag (cs.take sz))::chunk sz n (cs.drop sz)
def Tj (F:AV→Option AV) (p:AV×AV):Option (AV×AV):=
 match F p.1,F p.2 with
 | some k,some v=>some (k,v)
 | _,_=>none
def DC (s:St) (n:Nat):Nat→AV→Option AV
 | 0,a=>if a.under n then some a else none
 | f+1,a=>if a.under n then some a else
  match a with
  | .pt l o=>
   match s[l]? with
   | some (.cells cs)=>(cs.mapM (DC s n f)).map fun cs=>.ip (cs.drop o)
   | _=>none
  | .mp l=>
   match s[l]? with
   | some (.map es)=>(es.mapM (Tj (DC s n f))).map .im
   | some (.mapo es)=>(es.mapM (Tj (DC s n f))).map .im
   | _=>none
  | .sk l ver sz o m=>
   match s[l]? with
   | some (.buf _ sz' ver' cs)=>if ver=ver'∧sz=sz'∧o+m * sz≤cs.length then
     (((cs.drop o).take (m * sz)).mapM (DC s n f)).bind fun cs=>if 0<sz∧cs.all AV.one=true then some (.sl (chunk sz m cs)) else none
    else none
   | _=>none
  | .ag cs=>(cs.mapM (DC s n f)).map .ag
  | .tu cs=>(cs.mapM (DC s n f)).map .tu
  | .st _ es=>if cu n es then some (.sl es) else none
  | .sl es=>if cu n (es.map AV.plain) then some (.sl (es.map AV.plain)) else none
  | .fn g as cs=>match as.mapM (DC s n f),cs.mapM (DC s n f) with
   | some as,some cs=>some (.fn g as cs)
   | _,_=>none
  | _=>none
def frz (s:St) (n:Nat) (a:AV):Option AV:=if a.under n then some a else DC s n 6 a
inductive RV where
 | tmp (t:Nat)
 | cell (a:Nat) (n:Option Nat)
 deriving Inhabited
structure aC where
 np:Nat
 res:List RV
 pure:Bool
 keep:Bool:=false
 code:ah
 deriving Inhabited
@[simp] def WN (h:List AV→Option AV) (args:List AV) (_:St):Option AV:=h args
inductive HiK where
 | tryK (r:AV) (t:Nat)
 | sortK (k:Nat)
 | sortS
 | readK (f t:Nat) (z:AV)
structure Ny where
 np:Nat
 lo:Nat
 pre:List ak
 mkc:ak
 ct:Nat
 clo:Nat
 pins:List Nat
 code:ah
 res:List RV
 hnd:AV→Option (List (List AV))
 /-- What comes ahead of the deferral,and may return. -/
 mid:Option ah:=none
structure nX where
 fns:Nat→Option aC
 glob:Nat→Option (List AV)
 intr:Nat→Option (List AV→St→Option AV)
 hi:Nat→Option HiK:=fun _=>none
 /-- The known functions of which a comparison may make use. -/
 intrQ:Nat→Option (List AV→St→Option AV):=fun _=>none
 dfr:Nat→Option Ny:=fun _=>none
def nX.quiet (A:nX):nX:=⟨A.fns,A.glob,A.intrQ,fun _=>none,A.intrQ,fun _=>none⟩
section
variable (glob:Nat→Option (List AV))
def qR (body:Env→St→Out) (keep:List Nat):Nat→Env→St→Out
 | 0,_,_=>.fail
 | n+1,env,s=>match body (ig env keep) s with
  | .norm env s=>qR body keep n env s
  | out=>out
def jQ (body:Env→St→Out) (l:Nat) (keep:List Nat):Nat→Env→St→Out
 | 0,_,_=>.fail
 | n+1,env,s=>match body (ig env keep) s with
  | .goto l' env s=>if l'=l then jQ body l keep n env s else .fail
  | out=>out
def Oh (env:Env) (s:St) (l:Nat):Out:=
 match s[l]? with
 | some (.loop _ _ _ _ .ready)=>.norm env (s.set l .dead)
 | some (.loop _ _ _ _ .ret)=>.ret env (s.set l .dead)
 | some (.loop _ _ _ _ (.exit id))=>.exit id env (s.set l .dead)
 | _=>.fail
def aI (call:AV→List AV→St→Ctx→CO) (cx:Ctx) (ro:Bool) (N:Nat):ah→Env→St→Out
 | .skip,env,s=>.norm env s
 | .ret,env,s=>.ret env s
 | .exit id,env,s=>.exit id env s
 | .region ops ord keep,env,s=>match kP glob call cx ops env s ord with
  | .norm env s=>.norm (ig env keep) s
  | out=>out
 | .seq a b,env,s=>match aI call cx ro N a env s with
  | .norm env s=>aI call cx ro N b env s
  | out=>out
 | .cond c a b,env,s=>match rd glob env c with
  | some (.b true)=>aI call cx ro N a env s
  | some (.b false)=>aI call cx ro N b env s
  | _=>.fail
 | .block id b,env,s=>match aI call cx ro N b env s with
  | .exit id' env s=>if id'=id then .norm env s else .exit id' env s
  | out=>out
 | .loop keep b,env,s=>qR (aI call cx ro N b) keep N env s
 | .range f ps asg body,env,s=>if ro then .fail else match rd glob env f with
  | some (.fn ff as cs)=>match call (.fn ff as cs) [.yl (s.length+1)] (s++[.dfr,.loop (mX env) ps asg body .ready]) cx with
   | .ret _ s'=>Oh env s' (s.length+1)
   | _=>.fail
  | _=>.fail
 | .label _,env,s=>.norm env s
 | .cut,_,_=>.fail
 | .goto l,env,s=>.goto l env s
 | .scope l keep a b,env,s=>match aI call cx ro N a env s with
  | .goto l' env s=>if l'=l then jQ (aI call cx ro N b) l keep N env s else .fail
  | out=>out
def iM (env:Env) (s:St):List RV→Option (List AV)
 | []=>some []
 | .tmp t::r=>match esc glob env (.t t) with
  | some (a,env)=>(iM env s r).map (a::·)
  | none=>none
 | .cell a n::r=>match dQ glob env s n (.t a) with
  | some v=>(iM env s r).map (v.plain::·)
  | none=>none
def lQ:List AV→AV
 | [a]=>a
 | l=>.tu l
def finish (pure keep:Bool) (s s1:St) (r:AV):CO:=
 if keep then .ret r s1 else
 if s1.length=s.length then .ret r (if pure then s else s1) else
 match frz s1 s.length r with
 | some r=>.ret r (if pure then s else s1.take s.length)
 | none=>.fail
def CO.toPan (c:CO):CO:=
 match c with
 | .ret r s=>.pan r s
 | _=>.fail
def sH (args:List AV):Nat→Env
 | i=>match args with
  | []=>[]
  | a::r=>(i,.v a)::sH r (i+1)
def qC (call:AV→List AV→St→Ctx→CO) (N:Nat) (fn:aC) (args:List AV) (s:St) (cx:Ctx):CO:=
 if args.length=fn.np then
  match aI glob call ⟨if fn.pure then s.length else cx.lim,if fn.keep then cx.base else s.length⟩ fn.keep N fn.code (sH args 0) s with
  | .norm env s1 | .ret env s1=>match iM glob env s1 fn.res with
   | some rs=>finish fn.pure fn.keep s s1 (lQ rs)
   | none=>.fail
  | .pan v s1=>(finish fn.pure fn.keep s s1 v).toPan
  | _=>.fail
 else .fail
def placeOf (env:Env) (k:Nat):Option Nat:=
 match lk env k with
 | some (.v (.pt l 0))=>some l
 | _=>none
def JX:List AV→List Nat→Bool
 | [],[]=>true
 | .pt l 0::r,l'::r'=>l == l' && JX r r'
 | _,_=>false
def jh (s:St):List Nat→List (List AV)→St
 | l::ls,c::cs=>jh (s.set l (.cells c)) ls cs
 | _,_=>s
def rH (n:Nat) (s:St):List Nat→List (List AV)→Bool
 | [],[]=>true
 | l::ls,c::cs=>decide (n≤l) && !ls.contains l && (match s[l]? with|some (.cells old)=>old.length == c.length | _=>false) && c.all AV.flat && rH n s ls cs
 | _,_=>false
def CJ:List Nat→List Nat→Env
 | k::ks,l::ls=>(k,.v (.pt l 0))::CJ ks ls
 | _,_=>[]
def Ag (call:AV→List AV→St→Ctx→CO) (cx:Ctx) (N:Nat) (m:Option ah) (env:Env) (s:St):Out:=
 match m with
 | none=>.norm env s
 | some c=>aI glob call cx true N c env s
def mD (call:AV→List AV→St→Ctx→CO) (N:Nat) (d:Ny) (args:List AV) (s:St) (cx:Ctx):CO:=
 if args.length=d.np then
  match gq glob call ⟨cx.lim,s.length⟩ d.pre (sH args 0) s with
  | .norm envm sm=>match Ag glob call ⟨cx.lim,s.length⟩ N d.mid envm sm with
   | .ret env2 s2=>(match iM glob env2 s2 d.res with
    | some rs=>finish false false s s2 (lQ rs)
    | none=>.fail)
   | .norm sH s0=>(match bD glob call ⟨cx.lim,s.length⟩ d.mkc sH s0 with
    | .norm env1 s1=>match lk env1 d.ct,d.pins.mapM (placeOf env1) with
     | some (.v (.fn (.func f) [] caps)),some ls=>
      if f=d.clo∧JX caps ls=true then
       match aI glob call ⟨cx.lim,s.length⟩ true N d.code env1 s1 with
       | .norm env2 s2 | .ret env2 s2=>match iM glob env2 s2 d.res with
        | some rs=>finish false false s s2 (lQ rs)
        | none=>.fail
       | .pan v s2=>match d.hnd v with
        | some news=>if rH s.length s2 ls news=true then
          (match iM glob (CJ d.pins ls) (jh s2 ls news) d.res with
          | some rs=>finish false false s (jh s2 ls news) (lQ rs)
          | none=>.fail) else .fail
        | none=>.fail
       | _=>.fail
      else .fail
     | _,_=>.fail
    | _=>.fail)
   | _=>.fail
  | _=>.fail
 else .fail
def GN (env:Env):List Nat→List AV→Env
 | k::ks,a::as=>GN (put env k (.v a)) ks as
 | _,_=>env
def oU (s:St) (l:Nat) (p:PU) (r:Bool):CO:=
 match s[l]? with
 | some (.loop env ps asg body .busy)=>.ret (.b r) (s.set l (.loop env ps asg body p))
 | _=>.fail
def yh (call:AV→List AV→St→Ctx→CO) (N:Nat) (l:Nat) (args:List AV) (s:St) (cx:Ctx):CO:=
 match s[l]? with
 | some (.loop env ps asg body .ready)=>
  if ps.length=args.length∧cx.lim≤l then
   match aI glob call cx true N asg (GN env ps args) s with
   | .norm env1 s1=>match s1[l]? with
    | some (.loop e1 p1 a1 b1 .ready)=>match aI glob call cx true N body env1 (s1.set l (.loop e1 p1 a1 b1 .busy)) with
     | .norm _ s2=>oU s2 l .ready true
     | .ret _ s2=>oU s2 l .ret false
     | .exit id _ s2=>oU s2 l (.exit id) false
     | _=>.fail
    | _=>.fail
   | _=>.fail
  else .fail
 | _=>.fail
end
def V6 (call:AV→List AV→St→Ctx→CO) (g:Nat) (x y:AV):Option Int:=
 match call (.fn (.func g) [] []) [x,y] [] ⟨0,0⟩ with
 | .ret (.i .i64 r) _=>some r
 | _=>none
def RG (call:AV→List AV→St→Ctx→CO) (g:Nat) (es:List AV):Option (List (List Int)):=es.mapM fun x=>es.mapM fun y=>V6 call g x y
def Yr (tab:List (List Int)) (i j:Nat):Int:=((tab[i]?).getD [])[j]?.getD 0
def ac3 (n:Nat) (lt:Nat→Nat→Bool):Bool:=
 (List.range n).all fun x=>!lt x x && (List.range n).all fun y=>(List.range n).all fun z=>(!(lt x y && lt y z) || lt x z) && (lt x y || lt y z || !lt x z)
def YT (n:Nat) (lt:Nat→Nat→Bool):List Nat:=
 ((Go.Sort.pdq (fun (i j:Fin (n+1))=>lt i.1 j.1) (Array.ofFn fun i=>i) 0 (n+1) (Go.Lib.bitLen (n+1)) true true).toList).map (·.1)
def Vx (x:List UInt8):List (List UInt8)→List (List UInt8)
 | []=>[x]
 | y::r=>if Op.bytesLess y x=true then y::Vx x r else x::y::r
def sortStr:List (List UInt8)→List (List UInt8)
 | []=>[]
 | x::r=>Vx x (sortStr r)
def strOf:AV→Option (List UInt8)
 | .s l=>some l
 | _=>none
def iP (call qcall:AV→List AV→St→Ctx→CO) (k:HiK) (args:List AV) (s:St) (cx:Ctx):CO:=
 match k,args with
 | .tryK r t,[.fn (.func f) as cs]=>match call (.fn (.func f) as cs) [] s cx with
  | .ret _ s'=>.ret r s'
  | .pan (.ifc t' (.ag [.i .i64 x,.i .i64 y])) s'=>if t'=t then .ret (.tu [.ag [.i .i64 x,.i .i64 y],.b true]) s' else .fail
  | _=>.fail
 | .sortK _,[.ns,.fn (.func _) [] []]=>.ret (.tu []) s
 | .sortK _,[.se,.fn (.func _) [] []]=>.ret (.tu []) s
 | .sortK k0,[.sk l ver sz o m,.fn (.func g) [] []]=>match m,s[l]? with
  | 0,_=>.ret (.tu []) s
  | n+1,some (.buf t sz' ver' cs)=>
   if ver=ver'∧sz=sz'∧sz=k0∧2≤sz∧o+(n+1) * sz≤cs.length∧n<dK∧cx.lim≤l∧cx.base≤l∧cu 0 ((cs.drop o).take ((n+1) * sz))=true then
    (match RG qcall g (chunk sz (n+1) (cs.drop o)) with
    | some tab=>if ac3 (n+1) (fun i j=>decide (Yr tab i j<0)) then
      .ret (.tu []) (s.set l (.buf t sz ver (splice cs o ((YT n fun i j=>decide (Yr tab i j<0)).flatMap fun i=>(cs.drop (o+i * sz)).take sz)))) else .fail
    | none=>.fail)
   else .fail
  | _,_=>.fail
 | .sortS,[.ns]=>.ret (.tu []) s
 | .sortS,[.sk l ver sz o m]=>match m,s[l]? with
  | 0,_=>.ret (.tu []) s
  | n+1,some (.buf t sz' ver' cs)=>
   if ver=ver'∧sz=1∧sz'=1∧o+(n+1)≤cs.length∧n<dK∧cx.lim≤l∧cx.base≤l then
    (match ((cs.drop o).take (n+1)).mapM strOf with
    | some ss=>.ret (.tu []) (s.set l (.buf t 1 ver (splice cs o ((sortStr ss).map .s))))
    | none=>.fail)
   else .fail
  | _,_=>.fail
 | .readK f t z,[.sl (e::es)]=>match call (.fn (.func f) [] []) [.pt s.length 0] (s++[.cells [.sl (e::es)]]) cx with
  | .ret (.ag [a,b]) s'=>.ret (.tu [.ag [a,b],.i .i64 0,.i .i64 0]) s'
  | .pan (.ifc t' (.ag [.i .i64 x])) s'=>if t'=t then .ret (.tu [z,.i .i64 x,.i .i64 30]) s' else .fail
  | _=>.fail
 | _,_=>.fail
def bM (A:nX):Nat→AV→List AV→St→Ctx→CO
 | 0,_,_,_,_=>.fail
 | n+1,.fn (.func f) as cs,args,s,cx=>
  match A.intr f with
  | some h=>match h (as++args++cs) s with
   | some r=>.ret r s
   | none=>.fail
  | none=>match A.hi f with
   | some k=>iP (bM A n) (bM A.quiet n) k (as++args++cs) s cx
   | none=>match A.dfr f with
    | some d=>mD A.glob (bM A n) n d (as++args++cs) s cx
    | none=>match A.fns f with
     | some fn=>qC A.glob (bM A n) n fn (as++args++cs) s cx
     | none=>.fail
 | n+1,.yl l,args,s,cx=>yh A.glob (bM A n) n l args s cx
 | _,_,_,_,_=>.fail
end Go.Ai
