/-
 Abstract values (pure data without addresses) and what it means that a Go value represents one.
-/
import Derived.RangeFuncIn
import Derived.OrdersIn
import Derived.Laws.AppendOwn
import Derived.Sort.Defs
import Derived.Lib.BitFns
import Derived.Laws.CopyRow
set_option maxRecDepth 100000
set_option linter.unusedSimpArgs false
set_option linter.unusedVariables false
set_option linter.unusedSectionVars false
namespace Go.Ai
abbrev Rl:=List UInt8
@[simp] abbrev wA0:Rl:=[120,115,100,58,109,105,110,73,110,99,108,117,115,105,118,101]
@[simp] abbrev wA1:Rl:=[120,115,100,58,105,110,116,101,103,101,114]
@[simp] abbrev wA2:Rl:=[79,98,106,101,99,116,80,114,111,112,101,114,116,121,67,104,97,105,110]
@[simp] abbrev wA3:Rl:=[120,115,100,58,109,97,120,73,110,99,108,117,115,105,118,101]
@[simp] abbrev wA4:Rl:=[83,117,98,79,98,106,101,99,116,80,114,111,112,101,114,116,121,79,102]
@[simp] abbrev wA5:Rl:=[68,97,116,97,116,121,112,101,82,101,115,116,114,105,99,116,105,111,110]
@[simp] abbrev wA6:Rl:=[79,98,106,101,99,116,73,110,116,101,114,115,101,99,116,105,111,110,79,102]
@[simp] abbrev wA7:Rl:=[79,98,106,101,99,116,83,111,109,101,86,97,108,117,101,115,70,114,111,109]
@[simp] abbrev wA8:Rl:=[68,97,116,97,83,111,109,101,86,97,108,117,101,115,70,114,111,109]
@[simp] abbrev wA9:Rl:=[82,101,102,108,101,120,105,118,101,79,98,106,101,99,116,80,114,111,112,101,114,116,121]
@[simp] abbrev wB0:Rl:=[79,98,106,101,99,116,80,114,111,112,101,114,116,121,65,115,115,101,114,116,105,111,110]
@[simp] abbrev wB1:Rl:=[111,119,108,58,78,111,116,104,105,110,103]
@[simp] abbrev wB2:Rl:=[79,98,106,101,99,116,80,114,111,112,101,114,116,121,68,111,109,97,105,110]
@[simp] abbrev wB3:Rl:=[69,113,117,105,118,97,108,101,110,116,67,108,97,115,115,101,115]
@[simp] abbrev wB4:Rl:=[111,119,108,58,84,104,105,110,103]
@[simp] abbrev wB5:Rl:=[79,110,116,111,108,111,103,121]
@[simp] abbrev wB6:Rl:=[68,105,115,106,111,105,110,116,67,108,97,115,115,101,115]
@[simp] abbrev wB7:Rl:=[80,114,101,102,105,120]
@[simp] abbrev wB8:Rl:=[79,98,106,101,99,116,79,110,101,79,102]
@[simp] abbrev wB9:Rl:=[67,108,97,115,115,65,115,115,101,114,116,105,111,110]
@[simp] abbrev wC0:Rl:=[60,104,116,116,112,58,47,47,119,119,119,46,119,51,46,111,114,103,47,50,48,48,49,47,88,77,76,83,99,104,101,109,97,35,62]
@[simp] abbrev wC1:Rl:=[65,110,110,111,116,97,116,105,111,110]
@[simp] abbrev wC2:Rl:=[60,104,116,116,112,58,47,47,119,119,119,46,119,51,46,111,114,103,47,50,48,48,50,47,48,55,47,111,119,108,35,62]
@[simp] abbrev wC3:Rl:=[83,117,98,67,108,97,115,115,79,102]
@[simp] abbrev wC4:Rl:=[78,97,109,101,100,73,110,100,105,118,105,100,117,97,108]
@[simp] abbrev wC5:Rl:=[104,116,116,112,58,47,47,119,119,119,46,119,51,46,111,114,103,47,50,48,48,49,47,88,77,76,83,99,104,101,109,97,35]
@[simp] abbrev wC6:Rl:=[80,114,101,102,105,120,40]
@[simp] abbrev wC7:Rl:=[79,98,106,101,99,116,80,114,111,112,101,114,116,121]
@[simp] abbrev wC8:Rl:=[104,116,116,112,58,47,47,119,119,119,46,119,51,46,111,114,103,47,50,48,48,50,47,48,55,47,111,119,108,35]
@[simp] abbrev wC9:Rl:=[68,101,99,108,97,114,97,116,105,111,110]
@[simp] abbrev wD0:Rl:=[34,116,114,117,101,34]
@[simp] abbrev wD1:Rl:=[68,97,116,97,80,114,111,112,101,114,116,121]
@[simp] abbrev wD2:Rl:=[65,110,110,111,116,97,116,105,111,110,40,58,111,112,101,110,32,34,116,114,117,101,34,41]
@[simp] abbrev wD3:Rl:=[101,118,101,114,121,116,104,105,110,103]
inductive AV where
 | u
 | i (k:IntKind) (n:Int)
 | b (x:Bool)
 | s (l:Rl)
 | np|nm|ns|nf|ni
 | sl (es:List AV)
 | ag (cs:List AV)
 | tu (cs:List AV)
 | ip (cs:List AV)
 | pt (l off:Nat)
 | im (es:List (AV×AV))
 | mp (l:Nat)
 | fn (f:Fn) (as cs:List AV)
 | yl (l:Nat)
 | ifc (t:Nat) (v:AV)
 | st (l:Nat) (es:List AV)
 | sk (l ver sz o n:Nat)
 | sp (l ver o:Nat)
 | se
 | sz
 | kb (m:AV)
 deriving Inhabited
def AV.cells:AV→List AV
 | .ag cs=>cs
 | a=>[a]
def AV.plain1:AV→AV
 | .st _ es=>.sl es
 | a=>a
def AV.plain:AV→AV
 | .st _ es=>.sl es
 | .ag cs=>.ag (cs.map AV.plain1)
 | a=>a
@[simp] theorem AV.plain_u:AV.plain .u=.u:=rfl
@[simp] theorem AV.plain_i (k:IntKind) (n:Int):AV.plain (.i k n)=.i k n:=rfl
@[simp] theorem AV.plain_b (x:Bool):AV.plain (.b x)=.b x:=rfl
@[simp] theorem AV.plain_s (l:Rl):AV.plain (.s l)=.s l:=rfl
@[simp] theorem AV.plain_np:AV.plain .np=.np:=rfl
@[simp] theorem AV.plain_nm:AV.plain .nm=.nm:=rfl
@[simp] theorem AV.plain_ns:AV.plain .ns=.ns:=rfl
@[simp] theorem AV.plain_nf:AV.plain .nf=.nf:=rfl
@[simp] theorem AV.plain_ni:AV.plain .ni=.ni:=rfl
@[simp] theorem AV.plain_sl (es:List AV):AV.plain (.sl es)=.sl es:=rfl
@[simp] theorem AV.plain_tu (cs:List AV):AV.plain (.tu cs)=.tu cs:=rfl
@[simp] theorem AV.plain_ip (cs:List AV):AV.plain (.ip cs)=.ip cs:=rfl
@[simp] theorem AV.plain_pt (l off:Nat):AV.plain (.pt l off)=.pt l off:=rfl
@[simp] theorem AV.plain_im (es:List (AV×AV)):AV.plain (.im es)=.im es:=rfl
@[simp] theorem AV.plain_mp (l:Nat):AV.plain (.mp l)=.mp l:=rfl
@[simp] theorem AV.plain_fn (f:Fn) (as cs:List AV):AV.plain (.fn f as cs)=.fn f as cs:=rfl
@[simp] theorem AV.plain_yl (l:Nat):AV.plain (.yl l)=.yl l:=rfl
@[simp] theorem AV.plain_ifc (t:Nat) (v:AV):AV.plain (.ifc t v)=.ifc t v:=rfl
@[simp] theorem AV.plain_kb (m:AV):AV.plain (.kb m)=.kb m:=rfl
@[simp] theorem AV.plain1_kb (m:AV):AV.plain1 (.kb m)=.kb m:=rfl
@[simp] theorem AV.plain_se:AV.plain .se=.se:=rfl
@[simp] theorem AV.plain_sz:AV.plain .sz=.sz:=rfl
@[simp] theorem AV.plain1_sz:AV.plain1 .sz=.sz:=rfl
@[simp] theorem AV.plain1_se:AV.plain1 .se=.se:=rfl
@[simp] theorem AV.plain_sk (l ver sz o n:Nat):AV.plain (.sk l ver sz o n)=.sk l ver sz o n:=rfl
@[simp] theorem AV.plain_sp (l ver o:Nat):AV.plain (.sp l ver o)=.sp l ver o:=rfl
@[simp] theorem AV.plain_st (l:Nat) (es:List AV):AV.plain (.st l es)=.sl es:=rfl
@[simp] theorem AV.plain1_u:AV.plain1 .u=.u:=rfl
@[simp] theorem AV.plain1_i (k:IntKind) (n:Int):AV.plain1 (.i k n)=.i k n:=rfl
@[simp] theorem AV.plain1_b (x:Bool):AV.plain1 (.b x)=.b x:=rfl
@[simp] theorem AV.plain1_s (l:Rl):AV.plain1 (.s l)=.s l:=rfl
@[simp] theorem AV.plain1_np:AV.plain1 .np=.np:=rfl
@[simp] theorem AV.plain1_nm:AV.plain1 .nm=.nm:=rfl
@[simp] theorem AV.plain1_ns:AV.plain1 .ns=.ns:=rfl
@[simp] theorem AV.plain1_nf:AV.plain1 .nf=.nf:=rfl
@[simp] theorem AV.plain1_ni:AV.plain1 .ni=.ni:=rfl
@[simp] theorem AV.plain1_sl (es:List AV):AV.plain1 (.sl es)=.sl es:=rfl
@[simp] theorem AV.plain1_tu (cs:List AV):AV.plain1 (.tu cs)=.tu cs:=rfl
@[simp] theorem AV.plain1_ip (cs:List AV):AV.plain1 (.ip cs)=.ip cs:=rfl
@[simp] theorem AV.plain1_pt (l off:Nat):AV.plain1 (.pt l off)=.pt l off:=rfl
@[simp] theorem AV.plain1_im (es:List (AV×AV)):AV.plain1 (.im es)=.im es:=rfl
@[simp] theorem AV.plain1_mp (l:Nat):AV.plain1 (.mp l)=.mp l:=rfl
@[simp] theorem AV.plain1_fn (f:Fn) (as cs:List AV):AV.plain1 (.fn f as cs)=.fn f as cs:=rfl
@[simp] theorem AV.plain1_yl (l:Nat):AV.plain1 (.yl l)=.yl l:=rfl
@[simp] theorem AV.plain1_ifc (t:Nat) (v:AV):AV.plain1 (.ifc t v)=.ifc t v:=rfl
@[simp] theorem AV.plain1_ag (cs:List AV):AV.plain1 (.ag cs)=.ag cs:=rfl
@[simp] theorem AV.plain1_sk (l ver sz o n:Nat):AV.plain1 (.sk l ver sz o n)=.sk l ver sz o n:=rfl
@[simp] theorem AV.plain1_sp (l ver o:Nat):AV.plain1 (.sp l ver o)=.sp l ver o:=rfl
@[simp] theorem AV.plain1_st (l:Nat) (es:List AV):AV.plain1 (.st l es)=.sl es:=rfl
@[simp] theorem AV.plain_ag (cs:List AV):AV.plain (.ag cs)=.ag (cs.map AV.plain1):=rfl
structure ai where
 m:Nat→Nat→Option Value
 mm:Nat→Option (Sum (List (Value×Value)) (Array Value))
 L:Nat→Nat
 hist:Nat→Nat→Option Value
inductive Rep (g:ai) (n:Nat):Value→AV→Prop where
 | u (v:Value):Rep g n v .u
 | i (k:IntKind) (x:Int):Rep g n (.int k x) (.i k x)
 | b (x:Bool):Rep g n (.bool x) (.b x)
 | s (l:Rl):Rep g n (.string ⟨l.toArray⟩) (.s l)
 | np:Rep g n (.pointer none) .np
 | nm:Rep g n (.map none) .nm
 | ns:Rep g n (.slice none 0 0) .ns
 | nf:Rep g n .nilFunc .nf
 | ni:Rep g n .nilIface .ni
 | slNil:Rep g n (.slice none 0 0) (.sl [])
 | slE (a:Addr):Rep g n (.slice (some a) 0 0) (.sl [])
 | sl (bk off cap sz:Nat) (es:List AV) (c:Nat→Nat→Value) (hc:es.length≤cap)
   (hsz:∀i (h:i<es.length),(AV.cells es[i]).length=sz)
   (hm:∀i j,i<es.length→j<sz→g.m bk (off+i * sz+j)=some (c i j)∧(c i j).oneCell'=true)
   (hr:∀i (h:i<es.length) j (h':j<(AV.cells es[i]).length),Rep g n (c i j) (AV.cells es[i])[j]):
   Rep g n (.slice (some ⟨bk,off,none⟩) es.length cap) (.sl es)
 | ag (vs:Array Value) (cs:List AV) (hl:vs.size=cs.length) (h1:∀i (h:i<vs.size),vs[i].oneCell'=true)
   (hr:∀i (h:i<vs.size) (h':i<cs.length),Rep g n vs[i] cs[i]):Rep g n (.agg vs) (.ag cs)
 | tu (vs:Array Value) (cs:List AV) (hl:vs.size=cs.length)
   (hr:∀i (h:i<vs.size) (h':i<cs.length),Rep g n vs[i] cs[i]):Rep g n (.tuple vs) (.tu cs)
 | ip (bk off:Nat) (cs:List AV) (c:Nat→Value)
   (hm:∀j,j<cs.length→g.m bk (off+j)=some (c j)∧(c j).oneCell'=true)
   (hr:∀j (h:j<cs.length),Rep g n (c j) cs[j]):Rep g n (.pointer (some ⟨bk,off,none⟩)) (.ip cs)
 | pt (l off:Nat) (h:l<n):Rep g n (.pointer (some ⟨g.L l,off,none⟩)) (.pt l off)
 | im (bk:Nat) (es:List (AV×AV)) (vs:List (Value×Value)) (hm:g.mm bk=some (.inl vs)) (hl:vs.length=es.length)
   (hk:∀i (h:i<vs.length) (h':i<es.length),Rep g n vs[i].1 es[i].1)
   (hv:∀i (h:i<vs.length) (h':i<es.length),Rep g n vs[i].2 es[i].2):Rep g n (.map (some bk)) (.im es)
 | mp (l:Nat) (h:l<n):Rep g n (.map (some (g.L l))) (.mp l)
 | fn (f:Fn) (vs ws:Array Value) (as cs:List AV) (hl:vs.size=as.length) (hl':ws.size=cs.length)
   (hr:∀i (h:i<vs.size) (h':i<as.length),Rep g n vs[i] as[i])
   (hr':∀i (h:i<ws.size) (h':i<cs.length),Rep g n ws[i] cs[i]):Rep g n (.func f vs ws) (.fn f as cs)
 | yl (l:Nat) (h:l<n):Rep g n (.func (.yield (g.L l)) #[] #[]) (.yl l)
 | ifc (t:Nat) (v:Value) (a:AV) (h:Rep g n v a):Rep g n (.iface t v) (.ifc t a)
 | st (l:Nat) (v:Value) (es:List AV) (h:l<n) (hh:g.hist l es.length=some v) (hr:Rep g n v (.sl es)):Rep g n v (.st l es)
 | sk (l ver sz o m b off len cap c:Nat) (h:l<n) (hh:g.hist l ver=some (.slice (some ⟨b,off,none⟩) len cap)) (ho:o+m * sz≤len * sz) (hc:m≤c) (hcc:o+c * sz≤cap * sz):
   Rep g n (.slice (some ⟨b,off+o,none⟩) m c) (.sk l ver sz o m)
 | skE (l ver sz o:Nat) (ad:Addr) (h:l<n):Rep g n (.slice (some ad) 0 0) (.sk l ver sz o 0)
 | se (ad:Addr):Rep g n (.slice (some ad) 0 0) .se
 | sz (ad:Addr) (c:Nat):Rep g n (.slice (some ad) 0 c) .sz
 | kb (bk:Nat) (c:Value) (m:AV) (hm:g.m bk 0=some c) (h:Rep g n c m):Rep g n (.pointer (some ⟨bk,0,none⟩)) (.kb m)
 | sp (l ver o b off len cap:Nat) (h:l<n) (hh:g.hist l ver=some (.slice (some ⟨b,off,none⟩) len cap)):Rep g n (.pointer (some ⟨b,off+o,none⟩)) (.sp l ver o)
structure ai.le (g:ai) (n:Nat) (g':ai) (n':Nat):Prop where
 m:∀b o v,g.m b o=some v→g'.m b o=some v
 mm:∀b es,g.mm b=some es→g'.mm b=some es
 L:∀l,l<n→g'.L l=g.L l
 hist:∀l,l<n→∀k v,g.hist l k=some v→g'.hist l k=some v
 n:n≤n'
theorem ai.le.refl (g:ai) (n:Nat):g.le n g n:=⟨fun _ _ _ h=>h,fun _ _ h=>h,fun _ _=>rfl,fun _ _ _ _ h=>h,Nat.le_refl _⟩
theorem ai.le.trans {g g' p:ai} {n n' A:Nat} (h:g.le n g' n') (h':g'.le n' p A):g.le n p A:=
 ⟨fun b o v x=>h'.m b o v (h.m b o v x),fun b es x=>h'.mm b es (h.mm b es x),fun l x=>(h'.L l (Nat.lt_of_lt_of_le x h.n)).trans (h.L l x),fun l x k v y=>h'.hist l (Nat.lt_of_lt_of_le x h.n) k v (h.hist l x k v y),Nat.le_trans h.n h'.n⟩
theorem Rep.mono {g g':ai} {n n':Nat} (h:g.le n g' n') {v:Value} {a:AV} (r:Rep g n v a):Rep g' n' v a:=by
 induction r with
 | u v=>exact .u v
 | i k x=>exact .i k x
 | b x=>exact .b x
 | s l=>exact .s l
 | np=>exact .np
 | nm=>exact .nm
 | ns=>exact .ns
 | nf=>exact .nf
 | ni=>exact .ni
 | se ad=>exact .se ad
 | sz ad c=>exact .sz ad c
 | slNil=>exact .slNil
 | slE a=>exact .slE a
 | sl bk off cap sz es c hc hsz hm hr ih=>exact .sl bk off cap sz es c hc hsz (fun i j hi hj=>⟨h.m _ _ _ (hm i j hi hj).1,(hm i j hi hj).2⟩) ih
 | ag vs cs hl h1 hr ih=>exact .ag vs cs hl h1 ih
 | tu vs cs hl hr ih=>exact .tu vs cs hl ih
 | ip bk off cs c hm hr ih=>exact .ip bk off cs c (fun j hj=>⟨h.m _ _ _ (hm j hj).1,(hm j hj).2⟩) ih
 | pt l off hl=>rw [←h.L l hl];exact .pt l off (Nat.lt_of_lt_of_le hl h.n)
 | im bk es vs hm hl hk hv ihk ihv=>exact .im bk es vs (h.mm _ _ hm) hl ihk ihv
 | mp l hl=>rw [←h.L l hl];exact .mp l (Nat.lt_of_lt_of_le hl h.n)
 | fn f vs ws as cs hl hl' hr hr' ih ih'=>exact .fn f vs ws as cs hl hl' ih ih'
 | yl l hl=>rw [←h.L l hl];exact .yl l (Nat.lt_of_lt_of_le hl h.n)
 | ifc t v a hr ih=>exact .ifc t v a ih
 | st l v es hl hh hr ih=>exact .st l v es (Nat.lt_of_lt_of_le hl h.n) (h.hist l hl _ _ hh) ih
 | kb bk c m hm hr ih=>exact .kb bk c m (h.m _ _ _ hm) ih
 | sk l ver sz o m b off len cap c hl hh ho hc hcc=>exact .sk l ver sz o m b off len cap c (Nat.lt_of_lt_of_le hl h.n) (h.hist l hl _ _ hh) ho hc hcc
 | skE l ver sz o ad hl=>exact .skE l ver sz o ad (Nat.lt_of_lt_of_le hl h.n)
 | sp l ver o b off len cap hl hh=>exact .sp l ver o b off len cap (Nat.lt_of_lt_of_le hl h.n) (h.hist l hl _ _ hh)
theorem Rep.plain1 {g:ai} {n:Nat} {v:Value} {a:AV} (h:Rep g n v a):Rep g n v a.plain1:=by
 cases h with
 | st l v es hl hh hr=>exact hr
 | u=>exact .u _
 | i k x=>exact .i k x
 | b x=>exact .b x
 | s l=>exact .s l
 | np=>exact .np
 | nm=>exact .nm
 | ns=>exact .ns
 | nf=>exact .nf
 | ni=>exact .ni
 | se ad=>exact .se ad
 | sz ad c=>exact .sz ad c
 | slNil=>exact .slNil
 | slE a=>exact .slE a
 | sl bk off cap sz es c hc hsz hm hr=>exact .sl bk off cap sz es c hc hsz hm hr
 | ag vs cs hl h1 hr=>exact .ag vs cs hl h1 hr
 | tu vs cs hl hr=>exact .tu vs cs hl hr
 | ip bk off cs c hm hr=>exact .ip bk off cs c hm hr
 | pt l off hl=>exact .pt l off hl
 | im bk es vs hm hl hk hv=>exact .im bk es vs hm hl hk hv
 | mp l hl=>exact .mp l hl
 | fn f vs ws as cs hl hl' hr hr'=>exact .fn f vs ws as cs hl hl' hr hr'
 | yl l hl=>exact .yl l hl
 | ifc t v a hr=>exact .ifc t v a hr
 | kb bk c m hm hr=>exact .kb bk c m hm hr
 | sk l ver sz o m b off len cap c hl hh ho hc hcc=>exact .sk l ver sz o m b off len cap c hl hh ho hc hcc
 | skE l ver sz o ad hl=>exact .skE l ver sz o ad hl
 | sp l ver o b off len cap hl hh=>exact .sp l ver o b off len cap hl hh
theorem Rep.plain {g:ai} {n:Nat} {v:Value} {a:AV} (h:Rep g n v a):Rep g n v a.plain:=by
 cases h with
 | st l v es hl hh hr=>exact hr
 | u=>exact .u _
 | i k x=>exact .i k x
 | b x=>exact .b x
 | s l=>exact .s l
 | np=>exact .np
 | nm=>exact .nm
 | ns=>exact .ns
 | nf=>exact .nf
 | ni=>exact .ni
 | se ad=>exact .se ad
 | sz ad c=>exact .sz ad c
 | slNil=>exact .slNil
 | slE a=>exact .slE a
 | sl bk off cap sz es c hc hsz hm hr=>exact .sl bk off cap sz es c hc hsz hm hr
 | ag vs cs hl h1 hr=>exact .ag vs _ (by simpa using hl) h1 (fun i hi p=>by simpa using (hr i hi (by simpa using p)).plain1)
 | tu vs cs hl hr=>exact .tu vs cs hl hr
 | ip bk off cs c hm hr=>exact .ip bk off cs c hm hr
 | pt l off hl=>exact .pt l off hl
 | im bk es vs hm hl hk hv=>exact .im bk es vs hm hl hk hv
 | mp l hl=>exact .mp l hl
 | fn f vs ws as cs hl hl' hr hr'=>exact .fn f vs ws as cs hl hl' hr hr'
 | yl l hl=>exact .yl l hl
 | ifc t v a hr=>exact .ifc t v a hr
 | kb bk c m hm hr=>exact .kb bk c m hm hr
 | sk l ver sz o m b off len cap c hl hh ho hc hcc=>exact .sk l ver sz o m b off len cap c hl hh ho hc hcc
 | skE l ver sz o ad hl=>exact .skE l ver sz o ad hl
 | sp l ver o b off len cap hl hh=>exact .sp l ver o b off len cap hl hh
def aX (g:ai) (n:Nat) (vs:List Value) (as:List AV):Prop:=
 vs.length=as.length∧∀i (h:i<vs.length) (h':i<as.length),Rep g n vs[i] as[i]
theorem aX.mono {g g':ai} {n n':Nat} (h:g.le n g' n') {vs:List Value} {as:List AV} (r:aX g n vs as):aX g' n' vs as:=
 ⟨r.1,fun i hi p=>(r.2 i hi p).mono h⟩
theorem aX.nil (g:ai) (n:Nat):aX g n [] []:=⟨rfl,fun i h=>absurd h (Nat.not_lt_zero i)⟩
theorem aX.cons {g:ai} {n:Nat} {v:Value} {a:AV} {vs:List Value} {as:List AV} (h:Rep g n v a) (r:aX g n vs as):aX g n (v::vs) (a::as):=by
 refine ⟨by simp [r.1],fun i hi p=>?_⟩
 cases i with
 | zero=>exact h
 | succ i=>exact r.2 i (by simpa using hi) (by simpa using p)
theorem aX.head {g:ai} {n:Nat} {v:Value} {a:AV} {vs:List Value} {as:List AV} (r:aX g n (v::vs) (a::as)):Rep g n v a:=r.2 0 (by simp) (by simp)
theorem aX.tail {g:ai} {n:Nat} {v:Value} {a:AV} {vs:List Value} {as:List AV} (r:aX g n (v::vs) (a::as)):aX g n vs as:=
 ⟨by simpa using r.1,fun i hi p=>r.2 (i+1) (by simpa using hi) (by simpa using p)⟩
theorem aX.append {g:ai} {n:Nat} {vs p:List Value} {as x:List AV} (h:aX g n vs as) (h':aX g n p x):aX g n (vs++p) (as++x):=by
 induction vs generalizing as with
 | nil=>cases as with
  | nil=>simpa using h'
  | cons a as=>exact absurd h.1 (by simp)
 | cons v vs ih=>cases as with
  | nil=>exact absurd h.1 (by simp)
  | cons a as=>exact .cons h.head (ih h.tail)
theorem aX.take {g:ai} {n:Nat} {vs:List Value} {as:List AV} (k:Nat) (h:aX g n vs as):aX g n (vs.take k) (as.take k):=by
 refine ⟨by simp [h.1],fun i hi p=>?_⟩;simp only [List.length_take] at hi p;rw [List.getElem_take,List.getElem_take];exact h.2 i (by omega) (by omega)
theorem aX.drop {g:ai} {n:Nat} {vs:List Value} {as:List AV} (k:Nat) (h:aX g n vs as):aX g n (vs.drop k) (as.drop k):=by
 refine ⟨by simp [h.1],fun i hi p=>?_⟩;simp only [List.length_drop] at hi p;rw [List.getElem_drop,List.getElem_drop];exact h.2 (k+i) (by omega) (by omega)
def fC (vs:List Value):Prop:=∀v∈vs,v.oneCell'=true
inductive EV where
 | v (a:AV)
 | bx (cs:List AV)
 | lp (k off:Nat)
 | own (tip:Bool) (t sz:Nat) (es:List AV)
 | al (k:Nat)
 | ep (k sz i off:Nat)
 | om (es:List (AV×AV))
 deriving Inhabited
abbrev Env:=List (Nat×EV)
def lk:Env→Nat→Option EV
 | [],_=>none
 | (j,e)::r,k=>if j=k then some e else lk r k
def EV.owns:EV→Bool
 | .bx _ | .own _ _ _ _ | .om _=>true
 | _=>false
def EV.refers (k:Nat):EV→Bool
 | .lp j _ | .al j | .ep j _ _ _=>j == k
 | _=>false
def tC (env:Env) (k:Nat):Env:=env.map fun p=>if p.2.refers k then (p.1,.v .u) else p
def put (env:Env) (k:Nat) (e:EV):Env:=
 match lk env k with
 | some o=>if o.owns then (k,e)::tC env k else (k,e)::env
 | none=>(k,e)::env
def EV.isRef:EV→Bool
 | .lp _ _ | .al _ | .ep _ _ _ _=>true
 | _=>false
def je (env:Env):List Nat→Env
 | []=>[]
 | k::r=>match lk env k with
  | some e=>if e.isRef then je env r else (k,e)::je env r
  | none=>je env r
def su (env:Env):Env:=env.map fun p=>match p.2 with
 | .v a=>(p.1,.v a)
 | _=>(p.1,.v .u)
inductive IX where
 | t (k:Nat)
 | c (a:AV)
 | g (k:Nat)
 deriving Inhabited
inductive AOp where
 | mov (x:IX)
 | asg (x:IX)
 | cpy (x:IX)
 | nbuf (t sz:Nat)
 | pick (c a b:IX)
 | lbox (x:IX)
 | lalloc (zs:List AV)
 | hbox (x:IX)
 | halloc (zs:List AV)
 | load (n:Option Nat) (a:IX)
 | loadp (d:Nat) (n:Option Nat) (a:IX)
 | store (n:Nat) (a x:IX)
 | fld (off:Nat) (a:IX)
 | idx (sz:Nat) (x i:IX)
 | idxa (len sz:Nat) (x i:IX)
 | getf (off:Nat) (n:Option Nat) (x:IX)
 | idxv (len sz:Nat) (n:Option Nat) (x i:IX)
 | idxs (x i:IX)
 | bin (op:BinOp) (x y:IX)
 | beq (neg:Bool) (x y:IX)
 | ieq (neg:Bool) (ks:List Nat) (x y:IX)
 | nileq (neg:Bool) (k:Nat) (x:IX)
 | un (op:UnOp) (x:IX)
 | toInt (k:IntKind) (x:IX)
 | s2b (x:IX)
 | b2s (x:IX)
 | same (x:IX)
 | mark (x:IX)
 | markk (x:IX)
 | build (zs:List AV) (ps:List (Nat×Nat×IX))
 | bsl (own:Bool) (t sz len:Nat) (zs:List AV) (ps:List (Nat×IX))
 | app (t sz:Nat) (x y:IX)
 | apps (t:Nat) (x y:IX)
 | appr (t sz:Nat) (x y:IX)
 | apprp (d:Nat) (t sz:Nat) (x y:IX)
 | appk (t sz:Nat) (x y:IX)
 | mks (t sz:Nat) (zs:List AV) (x:IX)
 | appz (t sz:Nat) (zs:List AV) (x n:IX)
 | appe (t sz:Nat) (x y:IX)
 | capn (x:IX)
 | lallocp (d:Nat) (zs:List AV)
 | storep (n:Nat) (a x:IX)
 /-- A call that may change the heap,in a region whose order is open. -/
 | callh (d:Nat) (f:IX) (args:List IX) (k:Option (Nat×Nat))
 /-- The map in a cell of what a slot points to,which a call keeps. -/
 | loadv (a:IX) (k off:Nat)
 /-- A load of what lies in another object than these slots point to. -/
 | loadw (n:Option Nat) (a:IX) (bs:List Nat)
 /-- append to a made,empty slice;what is appended may lie in a row of the heap -/
 | appv (t sz:Nat) (x y:IX)
 /-- append of a string to a slice in the heap -/
 | appks (t:Nat) (x y:IX)
 | loadl (n:Option Nat) (a:IX)
 | storel (n k:Nat) (x:IX)
 | umap (d:Nat)
 | uins (m k v:IX)
 | bse
 | clrk (zs:List AV) (x:IX)
 | asgk (t sz:Nat) (x:IX)
 | len (k:Nat) (x:IX)
 | lenA (n:Nat)
 | minmax (isMin:Bool) (x y:IX)
 | slc (sz:Nat) (x:IX) (lo hi:Option IX)
 | slcs (x:IX) (lo hi:Option IX)
 | slc3 (sz:Nat) (x hi mx:IX)
 | ext (x:IX) (i:Nat)
 | mkfn (f:Fn) (as cs:List IX)
 | mkif (t:Nat) (x:IX)
 | look (kk:Nat) (z:AV) (ok:Bool) (m k:IX)
 | mkmap
 | ins (kk:Nat) (m k v:IX)
 | hmap
 | hins (kk:Nat) (m k v:IX)
 | hdel (kk:Nat) (m k:IX)
 | call (f:IX) (args:List IX)
 | callp (f:IX) (args:List IX)
 | nilchk (x:IX)
 | panic (x:IX)
 deriving Inhabited
structure aI where
 dst:Option Nat
 guard:Option (Nat×Bool)
 op:AOp
 deriving Inhabited
inductive bF where
 | skip
 | ret
 | exit (id:Nat)
 | region (ops:List aI) (ord:Option (List Nat×List Nat)) (keep:List Nat)
 | seq (a b:bF)
 | cond (c:IX) (a b:bF)
 | block (id:Nat) (b:bF)
 | loop (keep:List Nat) (b:bF)
 | range (f:IX) (ps:List Nat) (asg body:bF)
 | label (l:Nat)
 | goto (l:Nat)
 | scope (l:Nat) (keep:List Nat) (a b:bF)
 deriving Inhabited
inductive OB where
 | ready|busy|ret
 | exit (id:Nat)
 deriving Inhabited
inductive gq where
 | cells (cs:List AV)
 | loop (env:Env) (ps:List Nat) (asg body:bF) (pend:OB)
 | dfr
 | dead
 | row (t sz n:Nat)
 | map (es:List (AV×AV))
 | buf (t sz ver:Nat) (cs:List AV)
 | umap (es:List (Rl×AV))
 deriving Inhabited
abbrev St:=List gq
structure Ctx where
 lim:Nat
 base:Nat
inductive RO where
 | fail
 | ok (e:EV) (env:Env) (s:St)
 | pan (v:AV) (s:St)
 deriving Inhabited
inductive CO where
 | fail
 | ret (r:AV) (s:St)
 | pan (v:AV) (s:St)
 deriving Inhabited
inductive Out where
 | fail
 | norm (env:Env) (s:St)
 | exit (id:Nat) (env:Env) (s:St)
 | ret (env:Env) (s:St)
 | pan (v:AV) (s:St)
 | goto (l:Nat) (env:Env) (s:St)
 deriving Inhabited
def AV.one:AV→Bool
 | .u | .tu _ | .ag _=>false
 | _=>true
def AV.VL:AV→Bool
 | .i _ _ | .b _ | .s _ | .ns=>true
 | _=>false
def AV.flat2:AV→Bool
 | .ag cs=>cs.all AV.VL
 | a=>a.VL
def AV.flat:AV→Bool
 | .i _ _ | .b _ | .s _ | .ns=>true
 | .sl es=>es.all AV.flat2
 | _=>false
def splice (cs:List AV) (o:Nat) (new:List AV):List AV:=cs.take o++new++cs.drop (o+new.length)
def part (cs:List AV) (o:Nat):Option Nat→Option AV
 | none=>cs[o]?
 | some n=>if o+n≤cs.length then some (.ag ((cs.drop o).take n)) else none
def Xb (op:BinOp) (k:IntKind) (a b:Int):Option AV:=
 match op with
 | .add=>some (.i k (k.wrap (a+b)))
 | .sub=>some (.i k (k.wrap (a - b)))
 | .mul=>some (.i k (k.wrap (a * b)))
 | .quo=>if b=0 then none else some (.i k (k.wrap (a.tdiv b)))
 | .rem=>if b=0 then none else some (.i k (a.tmod b))
 | .eql=>some (.b (a == b))
 | .neq=>some (.b (a != b))
 | .lss=>some (.b (decide (a<b)))
 | .leq=>some (.b (decide (a≤b)))
 | .gtr=>some (.b (decide (a > b)))
 | .geq=>some (.b (decide (a ≥ b)))
 | .and=>some (.i k (k.wrap (BitVec.ofInt k.bits a &&& BitVec.ofInt k.bits b).toNat))
 | .shl=>if 0≤b then some (.i k (k.wrap (a * 2 ^ (min b.toNat k.bits)))) else none
 | .shr=>if 0≤b then some (.i k (a.fdiv (2 ^ (min b.toNat k.bits)))) else none
 | _=>none
def Wn (op:BinOp) (x y:Rl):Option AV:=
 match op with
 | .add=>if (x++y).length≤4611686018427387904 then some (.s (x++y)) else none
 | .eql=>some (.b (x == y))
 | .neq=>some (.b (!(x == y)))
 | .lss=>some (.b (Op.bytesLess x y))
 | .leq=>some (.b (Op.bytesLess x y || x == y))
 | .gtr=>some (.b (!(Op.bytesLess x y || x == y)))
 | .geq=>some (.b (!Op.bytesLess x y))
 | _=>none
def UD (k:Nat) (x:AV):Option Bool:=
 match k,x with
 | 0,.ns=>some true
 | 0,.sl (_::_)=>some false
 | 1,.nm=>some true
 | 1,.im _=>some false
 | 1,.mp _=>some false
 | 2,.nf=>some true
 | 2,.fn _ _ _=>some false
 | 3,.np=>some true
 | 3,.pt _ _=>some false
 | 3,.ip _=>some false
 | 3,.sp _ _ _=>some false
 | 0,.sk _ _ _ _ (_+1)=>some false
 | 4,.ni=>some true
 | 4,.ifc _ _=>some false
 | 0,.se=>some false
 | 0,.sz=>some false
 | _,_=>none
def abU (op:BinOp):AV→AV→Option AV
 | .i k a,.i k' b=>if k=k' then Xb op k a b else none
 | .s a,.s b=>Wn op a b
 | _,_=>none
def agN (op:UnOp):AV→Option AV
 | .b x=>match op with
  | .not=>some (.b (!x))
  | _=>none
 | .i k a=>match op with
  | .neg=>some (.i k (k.wrap (0 - a)))
  | _=>none
 | _=>none
def SV:List Nat→List AV→List AV→Option Bool
 | [],[],[]=>some true
 | 0::ks,.i k a::x,.i k' b::y=>if k=k' then (match SV ks x y with
  | some r=>some (a == b && r)
  | none=>none) else none
 | 1::ks,.s a::x,.s b::y=>(match SV ks x y with
  | some r=>some (a == b && r)
  | none=>none)
 | 2::ks,.b a::x,.b b::y=>(match SV ks x y with
  | some r=>some (a == b && r)
  | none=>none)
 | _,_,_=>none
def oC:List AV→List AV→Option Bool
 | [],[]=>some true
 | .s a::x,.s b::y=>match oC x y with
  | some r=>some (a == b && r)
  | none=>none
 | _,_=>none
def XE:List AV→Bool
 | []=>true
 | .s _::x=>XE x
 | _=>false
def jH (kk:Nat) (x y:AV):Option Bool:=
 match kk,x,y with
 | 0,.i k a,.i k' b=>if k=k' then some (a == b) else none
 | 1,.s a,.s b=>some (a == b)
 | 2,.b a,.b b=>some (a == b)
 | n+3,.ag a,.ag b=>if a.length=n then oC a b else none
 | _,_,_=>none
def find (kk:Nat) (k:AV):List (AV×AV)→Option (Option AV)
 | []=>some none
 | (k',v)::r=>match jH kk k k' with
  | some true=>some (some v)
  | some false=>find kk k r
  | none=>none
def DV (kk:Nat) (k v:AV):List (AV×AV)→Option (List (AV×AV))
 | []=>some [(k,v)]
 | (k',v')::r=>match jH kk k k' with
  | some true=>some ((k,v)::r)
  | some false=>(DV kk k v r).map ((k',v')::·)
  | none=>none
def JQ (kk:Nat) (k:AV):List (AV×AV)→Option (List (AV×AV))
 | []=>some []
 | (k',v')::r=>match jH kk k k' with
  | some true=>some r
  | some false=>(JQ kk k r).map ((k',v')::·)
  | none=>none
def aiz (k:Rl) (v:AV):List (Rl×AV)→List (Rl×AV)
 | []=>[(k,v)]
 | (k',v')::r=>if k=k' then (k,v)::r else if k<k' then (k,v)::(k',v')::r else (k',v')::aiz k v r
def uN (kk:Nat) (x:AV):Bool:=
 match kk,x with
 | 0,.i _ _=>true
 | 1,.s _=>true
 | 2,.b _=>true
 | n+3,.ag cs=>cs.length == n && XE cs
 | _,_=>false
def aC (l:Rl):List AV:=l.map fun x=>.i .u8 x.toNat
def byteOf:AV→Option UInt8
 | .i .u8 n=>some (UInt8.ofNat n.toNat)
 | _=>none
def dU (cells:List AV):List (Nat×List AV)→Option (List AV)
 | []=>some cells
 | (o,new)::r=>if o+new.length≤cells.length then dU (splice cells o new) r else none
section
variable (glob:Nat→Option (List AV))
def ev (env:Env):IX→Option EV
 | .t k=>lk env k
 | .c a=>some (.v a)
 | .g k=>(glob k).map fun cs=>.v (.ip cs)
def rd (env:Env) (x:IX):Option AV:=
 match ev glob env x with
 | some (.v a)=>some a.plain
 | _=>none
def wz (env:Env):IX→Option Nat
 | .t k=>match lk env k with
  | some (.own _ _ _ _)=>some k
  | some (.al j)=>some j
  | _=>none
 | _=>none
def esc (env:Env) (x:IX):Option (AV×Env):=
 match ev glob env x with
 | some (.v a)=>some (a.plain,env)
 | some (.al j)=>match lk env j with
  | some (.own _ t sz es)=>some (.sl es,(j,.own true t sz es)::env)
  | _=>none
 | some (.own _ t sz es)=>match x with
  | .t k=>some (.sl es,(k,.own true t sz es)::env)
  | _=>none
 | some (.om es)=>match x with
  | .t k=>some (.im es,(k,.v (.im es))::(k,.v .u)::tC env k)
  | _=>none
 | _=>none
def zW (env:Env):List IX→Option (List AV×Env)
 | []=>some ([],env)
 | x::r=>match esc glob env x with
  | none=>none
  | some (a,env)=>match zW env r with
   | none=>none
   | some (as,env)=>some (a::as,env)
def rds (env:Env):List IX→Option (List AV)
 | []=>some []
 | x::r=>match rd glob env x with
  | none=>none
  | some a=>match rds env r with
   | none=>none
   | some as=>some (a::as)
def MK (env:Env) (x:IX):Option (AV×Env):=
 match ev glob env x with
 | some (.v a)=>some (a,env)
 | _=>esc glob env x
def elems (env:Env) (x:IX):Option (List AV):=
 match ev glob env x with
 | some (.v (.sl es))=>some es
 | some (.v (.st _ es))=>some es
 | some (.v .ns)=>some []
 | some (.v .se)=>some []
 | some (.v .sz)=>some []
 | some (.own _ _ _ es)=>some es
 | some (.al j)=>match lk env j with
  | some (.own _ _ _ es)=>some es
  | _=>none
 | _=>none
def LH (env:Env) (x:IX):Option EV:=
 match ev glob env x,x with
 | some (.v a),_=>some (.v a)
 | some (.bx _),.t k=>some (.lp k 0)
 | some (.lp k o),_=>some (.lp k o)
 | some (.own _ _ _ _),.t k=>some (.al k)
 | some (.al k),_=>some (.al k)
 | some (.ep k sz i o),_=>some (.ep k sz i o)
 | _,_=>none
def kV (env:Env) (s:St) (n:Option Nat) (a:IX):Option AV:=
 match ev glob env a with
 | some (.bx cs)=>part cs 0 n
 | some (.lp k o)=>match lk env k with
  | some (.bx cs)=>part cs o n
  | _=>none
 | some (.ep k sz i o)=>match lk env k with
  | some (.own _ _ sz' es)=>if sz=sz' then (es[i]?).bind fun e=>part e.cells o n else none
  | _=>none
 | some (.v (.ip cs))=>part cs 0 n
 | some (.v (.pt l o))=>match s[l]? with
  | some (.cells cs)=>part cs o n
  | _=>none
 | some (.v (.sp l ver o))=>match s[l]? with
  | some (.buf _ _ ver' cs)=>if ver=ver' then part cs o n else none
  | _=>none
 | _=>none
def ED (a:AV) (o:Nat) (new:List AV):AV:=
 match a with
 | .ag cs=>.ag (splice cs o new)
 | a=>new.headD a
def NR (s:St) (l i:Nat):Option Nat:=
 match s[l]? with
 | some (.cells cs)=>(match cs[i]? with|some (.mp m)=>some m | _=>none)
 | _=>none
def MZ (env:Env) (l:Nat) (bs:List Nat):Bool:=
 bs.all fun b=>match lk env b with
  | some (.v (.pt l' _))=>l' != l
  | _=>false
def yj (env:Env) (s s1:St):Option (Nat×Nat)→Bool
 | none=>true
 | some (k,off)=>match lk env k with
  | some (.v (.pt l o))=>(match NR s l (o+off),NR s1 l (o+off) with|some m,some m'=>m == m' | _,_=>false)
  | _=>false
def uo (cx:Ctx) (env:Env) (s:St) (n:Nat) (a:IX) (v:AV):Option (Env×St):=
 if v.cells.length=n∧n≠0∧v.cells.all AV.one=true then
  match ev glob env a,a with
  | some (.bx cs),.t k=>if n≤cs.length then some ((k,.bx (splice cs 0 v.cells))::env,s) else none
  | some (.lp k o),_=>match lk env k with
   | some (.bx cs)=>if o+n≤cs.length then some ((k,.bx (splice cs o v.cells))::env,s) else none
   | _=>none
  | some (.ep k sz i o),_=>match lk env k with
   | some (.own false t sz' es)=>match es[i]? with
    | some e=>if sz=sz'∧o+n≤e.cells.length then some ((k,.own false t sz' (es.set i (ED e o v.cells)))::env,s) else none
    | none=>none
   | _=>none
  | some (.v (.pt l o)),_=>match s[l]? with
   | some (.cells cs)=>if cx.lim≤l∧(cx.base≤l∨v.cells.all AV.flat=true)∧o+n≤cs.length then some (env,s.set l (.cells (splice cs o v.cells))) else none
   | _=>none
  | some (.v (.sp l ver o)),_=>match s[l]? with
   | some (.buf t sz ver' cs)=>if ver=ver'∧cx.lim≤l∧(cx.base≤l∨v.cells.all AV.flat=true)∧o+n≤cs.length then some (env,s.set l (.buf t sz ver (splice cs o v.cells))) else none
   | _=>none
  | _,_=>none
 else none
def addr (env:Env) (off:Nat) (a:IX):Option EV:=
 match ev glob env a,a with
 | some (.bx _),.t k=>some (.lp k off)
 | some (.lp k o),_=>some (.lp k (o+off))
 | some (.ep k sz i o),_=>some (.ep k sz i (o+off))
 | some (.v (.ip cs)),_=>some (.v (.ip (cs.drop off)))
 | some (.v (.pt l o)),_=>some (.v (.pt l (o+off)))
 | some (.v (.sp l ver o)),_=>some (.v (.sp l ver (o+off)))
 | _,_=>none
def XT (env:Env) (s:St) (sz:Nat) (y:IX):Option (Nat×List AV):=
 match elems glob env y with
 | some ys=>if (ys.all fun e=>e.cells.length == sz)=true then some (ys.length,ys.flatMap AV.cells) else none
 | none=>match ev glob env y with
  | some (.v (.sk l ver sz' o m))=>match s[l]? with
   | some (.buf _ sz'' ver' cs)=>if ver=ver'∧sz=sz'∧sz'=sz''∧o+m * sz≤cs.length then some (m,(cs.drop o).take (m * sz)) else none
   | _=>none
  | _=>none
def bound (env:Env) (d:Nat):Option IX→Option Nat
 | none=>some d
 | some x=>match rd glob env x with
  | some (.i _ n)=>if 0≤n then some n.toNat else none
  | _=>none
def aS:Nat:=1073741824
def okv (env:Env) (s:St):Option AV→RO
 | some a=>.ok (.v a) env s
 | none=>.fail
def aop (call:AV→List AV→St→Ctx→CO) (cx:Ctx) (env:Env) (s:St):AOp→RO
 | .mov x=>match ev glob env x,x with
  | some (.om es),.t k=>.ok (.v (.im es)) ((k,.v (.im es))::(k,.v .u)::tC env k) s
  | _,_=>match LH glob env x with
   | some e=>.ok e env s
   | none=>.fail
 | .asg x=>match ev glob env x,x with
  | some (.own tip t sz es),.t k=>.ok (.own tip t sz es) ((k,.v .u)::tC env k) s
  | _,_=>match MK glob env x with
   | some (a,env)=>.ok (.v a) env s
   | none=>match LH glob env x with
    | some e=>.ok e env s
    | none=>.fail
 | .cpy x=>match esc glob env x with
  | some (a,env)=>.ok (.v a) env s
  | none=>.fail
 | .nbuf t sz=>if 0<sz then .ok (.own false t sz []) env s else .fail
 | .pick c a b=>match rd glob env c with
  | some (.b x)=>okv env s (rd glob env (if x then a else b))
  | _=>.fail
 | .lbox x=>match esc glob env x with
  | some (a,env)=>if a.cells.all AV.one then .ok (.bx a.cells) env s else .fail
  | none=>.fail
 | .lalloc zs=>.ok (.bx zs) env s
 | .hbox x=>match esc glob env x with
  | some (a,env)=>if a.cells.all AV.one then .ok (.v (.pt s.length 0)) env (s++[.cells a.cells]) else .fail
  | none=>.fail
 | .halloc zs=>.ok (.v (.pt s.length 0)) env (s++[.cells zs])
 | .load n a=>okv env s (kV glob env s n a)
 | .loadp d n a=>match lk env d,ev glob env a with
  | none,some (.v _)=>okv env s (kV glob env s n a)
  | _,_=>.fail
 | .store n a x=>match MK glob env x with
  | some (v,env)=>match uo glob cx env s n a v with
   | some (env,s)=>.ok (.v (.tu [])) env s
   | none=>.fail
  | none=>.fail
 | .fld off a=>match addr glob env off a with
  | some e=>.ok e env s
  | none=>.fail
 | .idx sz x i=>match rd glob env i with
  | some (.i _ n)=>match wz env x with
   | some k=>match lk env k with
    | some (.own _ _ sz' es)=>if sz=sz'∧0≤n∧n.toNat<es.length then .ok (.ep k sz n.toNat 0) env s else .fail
    | _=>.fail
   | none=>match rd glob env x with
    | some (.sl es)=>match es[n.toNat]? with
     | some e=>if 0≤n∧e.cells.length=sz then .ok (.v (.ip e.cells)) env s else .fail
     | none=>.fail
    | some (.sk l ver sz' o m)=>if sz=sz'∧0≤n∧n.toNat<m then .ok (.v (.sp l ver (o+n.toNat * sz))) env s else .fail
    | _=>.fail
  | _=>.fail
 | .idxa len sz x i=>match rd glob env i with
  | some (.i _ n)=>if 0≤n∧n.toNat<len then
    (match addr glob env (n.toNat * sz) x with
     | some e=>.ok e env s
     | none=>.fail) else .fail
  | _=>.fail
 | .getf off n x=>match rd glob env x with
  | some (.ag cs)=>okv env s (part cs off n)
  | _=>.fail
 | .idxv len sz n x i=>match rd glob env x,rd glob env i with
  | some (.ag cs),some (.i _ j)=>if 0≤j∧j.toNat<len then okv env s (part cs (j.toNat * sz) n) else .fail
  | _,_=>.fail
 | .idxs x i=>match rd glob env x,rd glob env i with
  | some (.s l),some (.i _ j)=>match l[j.toNat]? with
   | some c=>if 0≤j then .ok (.v (.i .u8 c.toNat)) env s else .fail
   | none=>.fail
  | _,_=>.fail
 | .bin op x y=>match rd glob env x,rd glob env y with
  | some a,some b=>okv env s (abU op a b)
  | _,_=>.fail
 | .beq neg x y=>match rd glob env x,rd glob env y with
  | some (.b a),some (.b b)=>.ok (.v (.b (if neg then !(a == b) else a == b))) env s
  | _,_=>.fail
 | .ieq neg ks x y=>match rd glob env x,rd glob env y with
  | some (.ag a),some (.ag b)=>match SV ks a b with
   | some r=>.ok (.v (.b (if neg then !r else r))) env s
   | none=>.fail
  | _,_=>.fail
 | .nileq neg k x=>match rd glob env x with
  | some a=>match UD k a with
   | some n=>.ok (.v (.b (if neg then !n else n))) env s
   | none=>.fail
  | none=>.fail
 | .un op x=>match rd glob env x with
  | some a=>okv env s (agN op a)
  | _=>.fail
 | .toInt k x=>match rd glob env x with
  | some (.i _ n)=>.ok (.v (.i k (k.wrap n))) env s
  | _=>.fail
 | .s2b x=>match rd glob env x with
  | some (.s l)=>.ok (.v (.sl (aC l))) env s
  | _=>.fail
 | .b2s x=>match elems glob env x with
  | some es=>okv env s ((es.mapM byteOf).map .s)
  | none=>.fail
 | .same x=>match rd glob env x with
  | some (.s l)=>.ok (.v (.s l)) env s
  | _=>.fail
 | .mark x=>match x with
  | .t k=>match lk env k with
   | some (.own _ _ _ es)=>if 0<es.length then .ok (.v (.sl es)) ((k,.v .u)::tC env k) s else .fail
   | _=>.fail
  | _=>.fail
 | .markk x=>match x with
  | .t k=>match lk env k with
   | some (.own _ t sz es)=>if 0<es.length then .ok (.al k) ((k,.own true t sz es)::env) s else .fail
   | _=>.fail
  | _=>.fail
 | .build zs ps=>match zW glob env (ps.map (·.2.2)) with
  | some (vs,env)=>
   if (ps.zip vs).all (fun p=>p.2.cells.length == p.1.2.1 && p.2.cells.all AV.one) then
    okv env s ((dU zs ((ps.zip vs).map fun p=>(p.1.1,p.2.cells))).map .ag) else .fail
  | none=>.fail
 | .bsl own t sz len zs ps=>match zW glob env (ps.map (·.2)) with
  | some (vs,env)=>
   if len * sz≤16777216∧ps.map (·.1)=List.range len∧vs.all (fun v=>v.cells.length == sz && v.cells.all AV.one)∧zs.length=sz then
    (if own then (if 0<sz then .ok (.own false t sz vs) env s else .fail) else .ok (.v (.sl vs)) env s) else .fail
  | none=>.fail
 | .app t sz x y=>match elems glob env y,wz env x with
  | some ys,some k=>match lk env k with
   | some (.own tip t' sz' es)=>
    if t=t'∧sz=sz'∧(ys.all fun e=>e.cells.length == sz)∧es.length+ys.length≤aS∧wz env y≠some k then
     .ok (.own tip t sz (es++ys)) ((k,.v .u)::tC env k) s else .fail
   | _=>.fail
  | some ys,none=>match rd glob env x with
   | some .ns=>if 0<sz∧(ys.all fun e=>e.cells.length == sz)∧ys.length≤aS then .ok (.own false t sz ys) env s else .fail
   | _=>.fail
  | _,_=>.fail
 | .apps t x y=>match rd glob env y,wz env x with
  | some (.s l),some k=>match lk env k with
   | some (.own tip t' sz' es)=>if t=t'∧sz'=1∧es.length+l.length≤aS then .ok (.own tip t 1 (es++aC l)) ((k,.v .u)::tC env k) s else .fail
   | _=>.fail
  | _,_=>.fail
 | .appr t sz x y=>match elems glob env y,ev glob env x with
  | some ys,some (.v .ns)=>
   if 0<sz∧0<ys.length∧(ys.all fun e=>e.cells.length == sz)∧ys.length≤aS then .ok (.v (.st s.length ys)) env (s++[.row t sz ys.length]) else .fail
  | some ys,some (.v .se)=>
   if 0<sz∧0<ys.length∧(ys.all fun e=>e.cells.length == sz)∧ys.length≤aS then .ok (.v (.st s.length ys)) env (s++[.row t sz ys.length]) else .fail
  | some ys,some (.v (.st l es))=>match s[l]? with
   | some (.row t' sz' k)=>
    if t=t'∧sz=sz'∧k=es.length∧0<sz∧0<ys.length∧(ys.all fun e=>e.cells.length == sz)∧(es.all fun e=>e.cells.length == sz)∧es.length+ys.length≤aS∧cx.lim≤l then
     .ok (.v (.st l (es++ys))) env (s.set l (.row t sz (es.length+ys.length))) else .fail
   | _=>.fail
  | _,_=>.fail
 | .apprp d t sz x y=>match lk env d with
  | some _=>.fail
  | none=>match elems glob env y,ev glob env x with
   | some ys,some (.v .ns)=>
    if 0<sz∧0<ys.length∧(ys.all fun e=>e.cells.length == sz)∧ys.length≤aS then .ok (.v (.st s.length ys)) env (s++[.row t sz ys.length]) else if ys.length=0 then .ok (.v .ns) env s else .fail
   | some ys,some (.v .se)=>
    if 0<sz∧0<ys.length∧(ys.all fun e=>e.cells.length == sz)∧ys.length≤aS then .ok (.v (.st s.length ys)) env (s++[.row t sz ys.length]) else if ys.length=0 then .ok (.v .se) env s else .fail
   | some ys,some (.v (.st l es))=>match s[l]? with
    | some (.row t' sz' k)=>
     if t=t'∧sz=sz'∧k=es.length∧0<sz∧0<ys.length∧(ys.all fun e=>e.cells.length == sz)∧(es.all fun e=>e.cells.length == sz)∧es.length+ys.length≤aS∧cx.lim≤l then
      .ok (.v (.st l (es++ys))) env (s.set l (.row t sz (es.length+ys.length))) else if ys.length=0 then .ok (.v (.st l es)) env s else .fail
    | _=>.fail
   | _,_=>.fail
 | .appk t sz x y=>match elems glob env y,ev glob env x with
  | some ys,some (.v .ns)=>
   if 0<sz∧0<ys.length∧(ys.all fun e=>e.cells.length == sz)∧ys.length≤aS then .ok (.v (.sk s.length 0 sz 0 ys.length)) env (s++[.buf t sz 0 (ys.flatMap AV.cells)]) else .fail
  | some ys,some (.v .se)=>
   if 0<sz∧0<ys.length∧(ys.all fun e=>e.cells.length == sz)∧ys.length≤aS then .ok (.v (.sk s.length 0 sz 0 ys.length)) env (s++[.buf t sz 0 (ys.flatMap AV.cells)]) else .fail
  | some ys,some (.v (.sk l ver sz2 o m))=>match s[l]? with
   | some (.buf t' sz' ver' cs)=>
    if t=t'∧sz=sz'∧sz2=sz∧ver=ver'∧0<ys.length∧(ys.all fun e=>e.cells.length == sz)∧m+ys.length≤aS∧o+m * sz≤cs.length∧cx.lim≤l∧(cx.base≤l∨(ys.flatMap AV.cells).all AV.flat=true) then
     .ok (.v (.sk l (ver+1) sz 0 (m+ys.length))) env (s.set l (.buf t sz (ver+1) ((cs.drop o).take (m * sz)++ys.flatMap AV.cells))) else .fail
   | _=>.fail
  | _,_=>.fail
 | .appv t sz x y=>match XT glob env s sz y,ev glob env x with
  | some (0,_),some (.v .se)=>.ok (.v .se) env s
  | some (m+1,cs),some (.v .se)=>if 0<sz∧m+1≤aS then .ok (.v (.sk s.length 0 sz 0 (m+1))) env (s++[.buf t sz 0 cs]) else .fail
  | _,_=>.fail
 | .appks t x y=>match rd glob env y,ev glob env x with
  | some (.s b),some (.v .ns)=>if 0<b.length∧b.length≤aS then .ok (.v (.sk s.length 0 1 0 b.length)) env (s++[.buf t 1 0 (aC b)]) else .fail
  | some (.s b),some (.v (.sk l ver sz2 o m))=>match s[l]? with
   | some (.buf t' sz' ver' cs)=>if t=t'∧sz'=1∧sz2=1∧ver=ver'∧0<b.length∧m+b.length≤aS∧o+m≤cs.length∧cx.lim≤l then
     .ok (.v (.sk l (ver+1) 1 0 (m+b.length))) env (s.set l (.buf t 1 (ver+1) ((cs.drop o).take m++aC b))) else .fail
   | _=>.fail
  | _,_=>.fail
 | .appz t sz zs x y=>match ev glob env x,rd glob env y with
  | some (.v .ns),some (.i .i64 n)=>if 0<sz∧zs.length=sz∧0<n∧n.toNat≤16777216 then .ok (.v (.sk s.length 0 sz 0 n.toNat)) env (s++[.buf t sz 0 (List.replicate n.toNat zs).flatten]) else .fail
  | _,_=>.fail
 | .capn x=>match ev glob env x with
  | some (.v .ns)=>.ok (.v (.i .i64 0)) env s
  | _=>.fail
 | .appe t sz x y=>match elems glob env y with
  | some []=>(match ev glob env x with
   | some (.v .ns)=>.ok (.v .ns) env s
   | some (.v (.sk l ver sz2 o m))=>.ok (.v (.sk l ver sz2 o m)) env s
   | _=>.fail)
  | _=>match elems glob env y,ev glob env x with
   | some ys,some (.v .ns)=>
    if 0<sz∧0<ys.length∧(ys.all fun e=>e.cells.length == sz)∧ys.length≤aS then .ok (.v (.sk s.length 0 sz 0 ys.length)) env (s++[.buf t sz 0 (ys.flatMap AV.cells)]) else .fail
   | some ys,some (.v .se)=>
    if 0<sz∧0<ys.length∧(ys.all fun e=>e.cells.length == sz)∧ys.length≤aS then .ok (.v (.sk s.length 0 sz 0 ys.length)) env (s++[.buf t sz 0 (ys.flatMap AV.cells)]) else .fail
   | some ys,some (.v (.sk l ver sz2 o m))=>match s[l]? with
    | some (.buf t' sz' ver' cs)=>
     if t=t'∧sz=sz'∧sz2=sz∧ver=ver'∧0<ys.length∧(ys.all fun e=>e.cells.length == sz)∧m+ys.length≤aS∧o+m * sz≤cs.length∧cx.lim≤l∧(cx.base≤l∨(ys.flatMap AV.cells).all AV.flat=true) then
      .ok (.v (.sk l (ver+1) sz 0 (m+ys.length))) env (s.set l (.buf t sz (ver+1) ((cs.drop o).take (m * sz)++ys.flatMap AV.cells))) else .fail
    | _=>.fail
   | _,_=>.fail
 | .mks t sz zs x=>match rd glob env x with
  | some (.i _ n)=>if 0<sz∧zs.length=sz∧0≤n∧n.toNat≤16777216 then .ok (.v (.sk s.length 0 sz 0 n.toNat)) env (s++[.buf t sz 0 (List.replicate n.toNat zs).flatten]) else .fail
  | _=>.fail
 | .asgk t sz x=>match ev glob env x,x with
  | some (.own false t' sz' es),.t k=>if t=t'∧sz=sz'∧0<es.length then .ok (.v (.sk s.length 0 sz 0 es.length)) ((k,.v .u)::tC env k) (s++[.buf t sz 0 (es.flatMap AV.cells)]) else .fail
  | _,_=>.fail
 | .lallocp d zs=>match lk env d with
  | some _=>.fail
  | none=>.ok (.bx zs) env s
 | .storep n a x=>match ev glob env a,ev glob env x with
  | some (.v av),some (.v xv)=>match uo glob cx env s n a xv with
   | some (_,s)=>.ok (.v (.tu [])) env s
   | none=>.fail
  | _,_=>.fail
 | .loadl n a=>match ev glob env a with
  | some (.bx _)=>okv env s (kV glob env s n a)
  | some (.lp _ _)=>okv env s (kV glob env s n a)
  | some (.v (.ip _))=>okv env s (kV glob env s n a)
  | _=>.fail
 | .storel n k x=>match lk env k,ev glob env x with
  | some (.bx cs),some (.v xv)=>if xv.cells.length=n∧n≠0∧xv.cells.all AV.one=true∧n≤cs.length then .ok (.v (.tu [])) ((k,.bx (splice cs 0 xv.cells))::env) s else .fail
  | _,_=>.fail
 | .umap d=>match lk env d with
  | some _=>.fail
  | none=>.ok (.v (.mp s.length)) env (s++[.umap []])
 | .uins m k v=>match ev glob env m,ev glob env k,ev glob env v with
  | some (.v (.mp l)),some (.v (.s key)),some (.v val)=>match s[l]? with
   | some (.umap es)=>if val.one∧val.flat=true∧cx.lim≤l then .ok (.v (.tu [])) env (s.set l (.umap (aiz key val es))) else .fail
   | _=>.fail
  | _,_,_=>.fail
 | .bse=>.ok (.v .se) env s
 | .clrk zs x=>match rd glob env x with
  | some (.sk l ver sz o m)=>match m,s[l]? with
   | 0,_=>.ok (.v (.tu [])) env s
   | n+1,some (.buf t sz' ver' cs)=>if ver=ver'∧sz=sz'∧0<sz∧zs.length=sz∧o+(n+1) * sz≤cs.length∧cx.lim≤l∧cx.base≤l then
     .ok (.v (.tu [])) env (s.set l (.buf t sz ver (splice cs o (List.replicate (n+1) zs).flatten))) else .fail
   | _,_=>.fail
  | _=>.fail
 | .len 0 x=>match elems glob env x with
  | some es=>.ok (.v (.i .i64 es.length)) env s
  | none=>match rd glob env x with
   | some (.sk _ _ _ _ m)=>.ok (.v (.i .i64 m)) env s
   | _=>.fail
 | .len 1 x=>match rd glob env x with
  | some (.s l)=>.ok (.v (.i .i64 l.length)) env s
  | _=>.fail
 | .len 2 x=>match rd glob env x with
  | some (.im es)=>.ok (.v (.i .i64 es.length)) env s
  | some (.mp l)=>match s[l]? with
   | some (.map es)=>.ok (.v (.i .i64 es.length)) env s
   | _=>.fail
  | some .nm=>.ok (.v (.i .i64 0)) env s
  | _=>.fail
 | .len _ _=>.fail
 | .lenA n=>.ok (.v (.i .i64 n)) env s
 | .minmax isMin x y=>match rd glob env x,rd glob env y with
  | some (.i k a),some (.i k' b)=>if k=k' then .ok (.v (.i k (if isMin then (if b<a then b else a) else (if b > a then b else a)))) env s else .fail
  | _,_=>.fail
 | .slc sz x lo hi=>match esc glob env x with
  | some (.sl es,env)=>match bound glob env 0 lo,bound glob env es.length hi with
   | some l,some h=>if l≤h∧h≤es.length∧(es.all fun e=>e.cells.length == sz) then .ok (.v (.sl ((es.drop l).take (h - l)))) env s else .fail
   | _,_=>.fail
  | some (.ns,env)=>match bound glob env 0 lo,bound glob env 0 hi with
   | some 0,some 0=>.ok (.v .ns) env s
   | _,_=>.fail
  | some (.sk k ver sz' o m,env)=>match bound glob env 0 lo,bound glob env m hi with
   | some l,some h=>if sz=sz'∧l≤h∧h≤m then .ok (.v (.sk k ver sz (o+l * sz) (h - l))) env s else .fail
   | _,_=>.fail
  | _=>.fail
 | .slc3 sz x hi mx=>match esc glob env x with
  | some (.sl es,env)=>match bound glob env 0 (some hi),bound glob env 0 (some mx) with
   | some h,some m=>if h≤m∧m≤es.length∧(es.all fun e=>e.cells.length == sz) then .ok (.v (.sl (es.take h))) env s else .fail
   | _,_=>.fail
  | _=>.fail
 | .slcs x lo hi=>match rd glob env x with
  | some (.s cs)=>match bound glob env 0 lo,bound glob env cs.length hi with
   | some l,some h=>if l≤h∧h≤cs.length then .ok (.v (.s ((cs.drop l).take (h - l)))) env s else .fail
   | _,_=>.fail
  | _=>.fail
 | .ext x i=>match rd glob env x with
  | some (.tu cs)=>okv env s (cs[i]?)
  | _=>.fail
 | .mkfn f as cs=>match zW glob env as with
  | some (vs,env)=>match zW glob env cs with
   | some (ws,env)=>.ok (.v (.fn f vs ws)) env s
   | none=>.fail
  | none=>.fail
 | .mkif t x=>match esc glob env x with
  | some (a,env)=>.ok (.v (.ifc t a)) env s
  | none=>.fail
 | .look kk z ok m k=>match rd glob env k with
  | some key=>if 3≤kk∧uN kk key=false then .fail else match (match rd glob env m with
    | some (.im es)=>find kk key es
    | some .nm=>if uN kk key then some none else none
    | some (.mp l)=>match s[l]? with
     | some (.map es)=>find kk key es
     | _=>none
    | _=>none) with
   | some r=>if ok then .ok (.v (.tu [r.getD z,.b r.isSome])) env s else .ok (.v (r.getD z)) env s
   | none=>.fail
  | none=>.fail
 | .mkmap=>.ok (.om []) env s
 | .ins kk m k v=>match m,zW glob env [k,v] with
  | .t j,some ([key,val],env)=>match lk env j with
   | some (.om es)=>match find kk key es with
    | some none=>if val.one∧uN kk key then .ok (.v (.tu [])) ((j,.om (es++[(key,val)]))::env) s else .fail
    | _=>.fail
   | _=>.fail
  | _,_=>.fail
 | .hmap=>.ok (.v (.mp s.length)) env (s++[.map []])
 | .hins kk m k v=>match rd glob env m,rd glob env k,MK glob env v with
  | some (.mp l),some key,some (val,env)=>match s[l]? with
   | some (.map es)=>match DV kk key val es with
    | some es'=>if val.one∧uN kk key∧cx.lim≤l∧(cx.base≤l∨val.flat=true) then .ok (.v (.tu [])) env (s.set l (.map es')) else .fail
    | none=>.fail
   | _=>.fail
  | _,_,_=>.fail
 | .hdel kk m k=>match rd glob env m,rd glob env k with
  | some (.mp l),some key=>match s[l]? with
   | some (.map es)=>match JQ kk key es with
    | some es'=>if uN kk key∧cx.lim≤l then .ok (.v (.tu [])) env (s.set l (.map es')) else .fail
    | none=>.fail
   | _=>.fail
  | _,_=>.fail
 | .call f args=>match rd glob env f,zW glob env args with
  | some fv,some (as,env)=>match call fv as s cx with
   | .ret r s=>.ok (.v r) env s
   | .pan v s=>.pan v s
   | .fail=>.fail
  | _,_=>.fail
 | .callp f args=>match rd glob env f,zW glob env args with
  | some fv,some (as,env)=>match call fv as s cx with
   | .ret r s=>.ok (.v r) env s
   | .pan v s=>.pan v s
   | .fail=>.fail
  | _,_=>.fail
 | .loadw n a bs=>match ev glob env a with
  | some (.v (.pt l _))=>if MZ env l bs=true then okv env s (kV glob env s n a) else .fail
  | _=>.fail
 | .loadv a k off=>match ev glob env a,lk env k with
  | some (.v (.pt l o)),some (.v (.pt l' o'))=>if l=l'∧o=o'+off then (match NR s l o with|some m=>.ok (.v (.mp m)) env s|none=>.fail) else .fail
  | _,_=>.fail
 | .callh d f args k=>match lk env d with
  | some _=>.fail
  | none=>match rd glob env f,rds glob env args with
   | some fv,some as=>match call fv as s cx with
    | .ret r s1=>if yj env s s1 k=true then .ok (.v r) env s1 else .fail
    | .pan v s=>.pan v s
    | .fail=>.fail
   | _,_=>.fail
 | .nilchk x=>match rd glob env x with
  | some (.ip cs)=>.ok (.v (.ip cs)) env s
  | some (.pt l o)=>.ok (.v (.pt l o)) env s
  | _=>.fail
 | .panic x=>match esc glob env x with
  | some (.ifc t a,_)=>.pan (.ifc t a) s
  | _=>.fail
def gW (env:Env):Option (Nat×Bool)→Option Bool
 | none=>some true
 | some (k,want)=>match lk env k with
  | some (.v (.b x))=>some (x == want)
  | some (.v (.tu []))=>some false
  | _=>none
def fK (call:AV→List AV→St→Ctx→CO) (cx:Ctx) (o:aI) (env:Env) (s:St):Out:=
 match gW env o.guard with
 | none=>.fail
 | some false=>match o.dst with
  | some d=>.norm (put env d (.v (.tu []))) s
  | none=>.norm env s
 | some true=>match aop glob call cx env s o.op with
  | .fail=>.fail
  | .pan v s=>.pan v s
  | .ok e env s=>match o.dst with
   | some d=>if e.refers d then .fail else .norm (put env d e) s
   | none=>.norm env s
def mM (call:AV→List AV→St→Ctx→CO) (cx:Ctx):List aI→Env→St→Out
 | [],env,s=>.norm env s
 | o::r,env,s=>match fK glob call cx o env s with
  | .norm env s=>mM call cx r env s
  | out=>out
end
def IX.slots:IX→List Nat
 | .t k=>[k]
 | _=>[]
def oxs:Option IX→List IX
 | some x=>[x]
 | none=>[]
def AOp.quiet:AOp→Option (List IX×List IX)
 | .mov x=>some ([x],[])
 | .pick c a b=>some ([c,a,b],[])
 | .load _ a=>some ([a],[])
 | .loadp d _ a=>some ([a,.t d],[])
 | .loadl _ a=>some ([a],[])
 | .fld _ a=>some ([a],[])
 | .idx _ x i=>some ([x,i],[])
 | .idxa _ _ x i=>some ([x,i],[])
 | .getf _ _ x=>some ([x],[])
 | .idxv _ _ _ x i=>some ([x,i],[])
 | .idxs x i=>some ([x,i],[])
 | .bin _ x y=>some ([x,y],[])
 | .beq _ x y=>some ([x,y],[])
 | .ieq _ _ x y=>some ([x,y],[])
 | .nileq _ _ x=>some ([x],[])
 | .un _ x=>some ([x],[])
 | .toInt _ x=>some ([x],[])
 | .s2b x=>some ([x],[])
 | .b2s x=>some ([x],[])
 | .same x=>some ([x],[])
 | .len _ x=>some ([x],[])
 | .lenA _=>some ([],[])
 | .minmax _ x y=>some ([x,y],[])
 | .slcs x lo hi=>some (x::(oxs lo++oxs hi),[])
 | .ext x _=>some ([x],[])
 | .bse=>some ([],[])
 | .look _ _ _ m k=>some ([m,k],[])
 | .nilchk x=>some ([x],[])
 | .loadv a k _=>some ([a,.t k],[])
 | .loadw _ a bs=>some (a::bs.map .t,[])
 | .cpy x=>some ([],[x])
 | .build _ ps=>some ([],ps.map (·.2.2))
 | .bsl false _ _ _ _ ps=>some ([],ps.map (·.2))
 | .slc _ x lo hi=>some (oxs lo++oxs hi,[x])
 | .mkfn _ as cs=>some ([],as++cs)
 | .mkif _ x=>some ([],[x])
 | .call f as=>some ([f],as)
 | _=>none
section
variable (glob:Nat→Option (List AV))
def UC (env:Env) (x:IX):Bool:=
 match ev glob env x with
 | some (.om _)=>false
 | _=>true
def Jh (env:Env) (x:IX):Bool:=
 match ev glob env x with
 | some (.v _)=>true
 | some (.al j)=>(match lk env j with|some (.own tip _ _ _)=>tip | _=>false)
 | some (.own tip _ _ _)=>tip
 | _=>false
def okQ (env:Env) (op:AOp):Bool:=
 match op.quiet with
 | some (rs,es)=>rs.all (UC glob env) && es.all (Jh glob env)
 | none=>false
def sD (env:Env) (d:Nat):Bool:=
 match lk env d with
 | some e=>e.owns
 | none=>false
def xW (call:AV→List AV→St→Ctx→CO) (o:aI) (env:Env) (s:St):Option EV:=
 match gW env o.guard with
 | none=>none
 | some false=>some (.v (.tu []))
 | some true=>if okQ glob env o.op then
   (match aop glob call ⟨s.length,s.length⟩ env s o.op with
   | .ok e _ s1=>if s1.length=s.length∧e.owns=false then some e else none
   | _=>none) else none
def BM (call:AV→List AV→St→Ctx→CO) (o:aI) (env:Env) (s:St):Out:=
 match xW glob call o env s with
 | none=>.fail
 | some e=>match o.dst with
  | none=>.norm env s
  | some d=>if e.refers d=false∧sD env d=false then .norm ((d,e)::env) s else .fail
def iw (call:AV→List AV→St→Ctx→CO) (cx:Ctx) (o:aI) (env:Env) (s:St):Out:=
 if o.op.quiet.isSome then BM glob call o env s else fK glob call cx o env s
def jC (call:AV→List AV→St→Ctx→CO) (cx:Ctx) (aops:List aI):List Nat→Env→St→Out
 | [],env,s=>.norm env s
 | i::r,env,s=>match aops[i]? with
  | none=>.fail
  | some o=>match iw glob call cx o env s with
   | .norm env s=>jC call cx aops r env s
   | out=>out
def Dz (env:Env):List Nat→Env
 | []=>env
 | k::r=>match lk env k with
  | some (.own _ t sz es)=>Dz ((k,.own true t sz es)::env) r
  | _=>Dz env r
end
def aI.reads (o:aI):List Nat:=
 (match o.op.quiet with
 | some (rs,es)=>(rs++es).flatMap IX.slots
 | none=>[])++(match o.guard with|some (k,_)=>[k] | none=>[])
def xJ (d:Option Nat) (l:List Nat):Bool:=
 match d with
 | some d=>l.all fun k=>k != d
 | none=>true
def Ul (o p:aI):Bool:=
 o.op.quiet.isSome && p.op.quiet.isSome && xJ o.dst p.reads && xJ p.dst o.reads && (match o.dst,p.dst with|some d,some d'=>d != d' | _,_=>true)
def AOp.calm:AOp→Bool
 | .mov _ | .fld _ _ | .load _ _ | .loadp _ _ _ | .idx _ _ _ | .idxa _ _ _ _ | .getf _ _ _ | .bin _ _ _ | .ext _ _ | .pick _ _ _ | .look _ _ _ _ _ | .nilchk _ | .un _ _ | .beq _ _ _ | .bsl false _ _ _ _ _ | .len 0 _ | .len 1 _ | .lenA _ | .slc _ _ _ _=>true
 | _=>false
def Uh (o p:aI):Bool:=
 (match o.op,o.dst with
  | .apprp d _ _ x y,some d'=>d == d' && xJ p.dst (x.slots++y.slots)
  | _,_=>false) && o.guard.isNone && p.op.calm && p.op.quiet.isSome && xJ o.dst p.reads && (match o.dst,p.dst with|some d,some d'=>d != d' | _,_=>true)
def AOp.heapy:AOp→Option (List Nat)
 | .umap _=>some []
 | .uins m k v=>some (m.slots++k.slots++v.slots)
 | .storep _ a x=>some (a.slots++x.slots)
 | _=>none
def Y0 (op:AOp) (od:Option Nat):Bool:=
 match op,od with
 | .umap d,some d'=>d == d'
 | .umap _,none=>false
 | _,some _=>false
 | _,none=>true
def AOp.free:AOp→Bool
 | .mov _ | .ext _ _ | .idxa _ _ _ _ | .fld _ _ | .bin _ _ _ | .build _ _ | .idx _ _ _ | .loadl _ _ | .slc _ _ _ _ | .b2s _ | .nilchk _=>true
 | _=>false
def agf (_ _:aI):Bool:=false
def Uj (o p:aI):Bool:=
 (match o.op.heapy with|some l=>xJ p.dst l|none=>false) && Y0 o.op o.dst && o.guard.isNone &&
  p.op.free && xJ o.dst p.reads && (match o.dst,p.dst with|some d,some d'=>d != d' | _,_=>true)
def Ui (o p:aI):Bool:=
 o.op.free && (match p.op.heapy with|some l=>xJ o.dst l|none=>false) && p.guard.isNone && p.dst.isNone && Y0 p.op none
def agd (_ _:aI):Bool:=false
def agi (_ _:aI):Bool:=false
def agh (_ _:aI):Bool:=false
def aI.callS (o:aI):Option (Nat×List Nat):=
 match o with
 | ⟨some d',none,.callh d f as k⟩=>if d=d' then some (d,(f.slots++as.flatMap IX.slots)++(k.map (·.1)).toList) else none
 | _=>none
def zY (o p:aI):Bool:=
 o.op.free && (match p.callS with|some (d,l)=>xJ o.dst (d::l) && o.reads.all (fun j=>j != d)|none=>false)
def Uk (o p:aI):Bool:=
 p.op.free && (match o.callS with|some (d,l)=>xJ p.dst (d::l) && p.reads.all (fun j=>j != d)|none=>false)
def BI (o p:aI):Bool:=
 (match o.op,p.op with
  | .loadv _ k off,.callh _ _ _ (some (k',off'))=>k == k' && off == off'
  | _,_=>false) && o.guard.isNone && (match p.callS with|some (d,l)=>xJ o.dst (d::l) && o.reads.all (fun j=>j != d)|none=>false)
def Ug (o p:aI):Bool:=
 (match o.op,p.op with
  | .loadw _ _ bs,.storep _ (.t b) x=>bs.contains b && xJ o.dst (b::x.slots)
  | _,_=>false) && o.guard.isNone && p.guard.isNone && p.dst.isNone
def apart (o p:aI):Bool:=Ul o p || agh o p || Uh o p || Uj o p || agd o p || agi o p || Ui o p || agf o p || zY o p || Uk o p || BI o p || Ug o p
def AOp.pre:AOp→Bool
 | .loadv _ _ _=>true
 | op=>op.free
def zq (aops:List aI) (c:Nat):List aI→List Nat→List Nat
 | _,[]=>[]
 | ds,i::r=>match aops[i]? with
  | some o=>if i=c then zq aops c (o::ds) r else if (ds.any fun d=>!apart d o)=true then zq aops c (o::ds) r else i::zq aops c ds r
  | none=>zq aops c ds r
def Gj (aops:List aI) (c:Nat) (oc:aI) (seen:Bool) (l:List Nat):List Nat:=zq aops c (if seen=true then [oc] else []) l
def Z5 (aops:List aI):List Nat→Option (Nat×aI)
 | []=>none
 | i::r=>match aops[i]? with
  | some o=>if o.callS.isSome then some (i,o) else Z5 aops r
  | none=>Z5 aops r
section
variable (glob:Nat→Option (List AV))
def yV (call:AV→List AV→St→Ctx→CO) (cx:Ctx) (ops:List aI) (π:List Nat) (env:Env) (s:St):Out:=
 match Z5 ops π with
 | none=>.fail
 | some (c,oc)=>if ((Gj ops c oc false π).all fun j=>match ops[j]? with|some o=>o.op.pre && (zY o oc || BI o oc || (π.takeWhile fun x=>x != c).contains j)|none=>false)=true then
   (match jC glob call cx ops (Gj ops c oc false π) env s with
   | .norm env1 s1=>match fK glob call cx oc env1 s1 with
    | .pan v' s2=>.pan v' s2
    | _=>.fail
   | _=>.fail) else .fail
def Out.orPan (o k:Out):Out:=
 match o with
 | .pan _ _=>k
 | o=>o
def rY (call:AV→List AV→St→Ctx→CO) (cx:Ctx) (ops:List aI) (env:Env) (s:St):Option (List Nat×List Nat)→Out
 | none=>mM glob call cx ops env s
 | some (π,ts)=>(jC glob call cx ops π (Dz env ts) s).orPan (yV glob call cx ops π (Dz env ts) s)
end
mutual
def AV.under (n:Nat):AV→Bool
 | .pt l _ | .mp l | .yl l | .sk l _ _ _ _ | .sp l _ _=>decide (l<n)
 | .sl es | .ag es | .tu es | .ip es=>bY n es
 | .im es=>wo n es
 | .fn _ as cs=>bY n as && bY n cs
 | .ifc _ v=>v.under n
 | .kb m=>m.under n
 | .st l es=>decide (l<n) && bY n es
 | _=>true
def bY (n:Nat):List AV→Bool
 | []=>true
 | a::r=>a.under n && bY n r
def wo (n:Nat):List (AV×AV)→Bool
 | []=>true
 | (a,b)::r=>a.under n && b.under n && wo n r
end
def chunk (sz:Nat):Nat→List AV→List AV
 | 0,_=>[]
 | n+1,cs=>(if sz=1 then cs.headD .u else .ag (cs.take sz))::chunk sz n (cs.drop sz)
def ads (F:AV→Option AV) (p:AV×AV):Option (AV×AV):=
 match F p.1,F p.2 with
 | some k,some v=>some (k,v)
 | _,_=>none
def AL (s:St) (n:Nat):Nat→AV→Option AV
 | 0,a=>if a.under n then some a else none
 | f+1,a=>if a.under n then some a else
  match a with
  | .pt l o=>
   match s[l]? with
   | some (.cells cs)=>(cs.mapM (AL s n f)).map fun cs=>.ip (cs.drop o)
   | _=>none
  | .mp l=>
   match s[l]? with
   | some (.map es)=>(es.mapM (ads (AL s n f))).map .im
   | _=>none
  | .sk l ver sz o m=>
   match s[l]? with
   | some (.buf _ sz' ver' cs)=>if ver=ver'∧sz=sz'∧o+m * sz≤cs.length then
     (((cs.drop o).take (m * sz)).mapM (AL s n f)).bind fun cs=>if 0<sz∧cs.all AV.one=true then some (.sl (chunk sz m cs)) else none
    else none
   | _=>none
  | .ag cs=>(cs.mapM (AL s n f)).map .ag
  | .tu cs=>(cs.mapM (AL s n f)).map .tu
  | .st _ es=>if bY n es then some (.sl es) else none
  | .sl es=>if bY n (es.map AV.plain) then some (.sl (es.map AV.plain)) else none
  | .fn g as cs=>match as.mapM (AL s n f),cs.mapM (AL s n f) with
   | some as,some cs=>some (.fn g as cs)
   | _,_=>none
  | _=>none
def frz (s:St) (n:Nat) (a:AV):Option AV:=if a.under n then some a else AL s n 6 a
inductive RV where
 | tmp (t:Nat)
 | cell (a:Nat) (n:Option Nat)
 deriving Inhabited
structure bM where
 np:Nat
 res:List RV
 pure:Bool
 keep:Bool:=false
 code:bF
 deriving Inhabited
@[simp] def I9 (h:List AV→Option AV) (args:List AV) (_:St):Option AV:=h args
inductive HiK where
 | tryK (r:AV) (t:Nat)
 | sortK (k:Nat)
 | sortS
 | readK (f t:Nat) (z:AV)
structure Hz where
 np:Nat
 lo:Nat
 pre:List aI
 mkc:aI
 ct:Nat
 clo:Nat
 pins:List Nat
 code:bF
 res:List RV
 hnd:AV→Option (List (List AV))
 /-- What comes ahead of the deferral,and may return. -/
 mid:Option bF:=none
structure vJ where
 fns:Nat→Option bM
 glob:Nat→Option (List AV)
 intr:Nat→Option (List AV→St→Option AV)
 hi:Nat→Option HiK:=fun _=>none
 /-- The known functions of which a comparison may make use. -/
 intrQ:Nat→Option (List AV→St→Option AV):=fun _=>none
 dfr:Nat→Option Hz:=fun _=>none
def vJ.quiet (A:vJ):vJ:=⟨A.fns,A.glob,A.intrQ,fun _=>none,A.intrQ,fun _=>none⟩
section
variable (glob:Nat→Option (List AV))
def xK (body:Env→St→Out) (keep:List Nat):Nat→Env→St→Out
 | 0,_,_=>.fail
 | n+1,env,s=>match body (je env keep) s with
  | .norm env s=>xK body keep n env s
  | out=>out
def qO (body:Env→St→Out) (l:Nat) (keep:List Nat):Nat→Env→St→Out
 | 0,_,_=>.fail
 | n+1,env,s=>match body (je env keep) s with
  | .goto l' env s=>if l'=l then qO body l keep n env s else .fail
  | out=>out
def EJ (env:Env) (s:St) (l:Nat):Out:=
 match s[l]? with
 | some (.loop _ _ _ _ .ready)=>.norm env (s.set l .dead)
 | some (.loop _ _ _ _ .ret)=>.ret env (s.set l .dead)
 | some (.loop _ _ _ _ (.exit id))=>.exit id env (s.set l .dead)
 | _=>.fail
def bG (call:AV→List AV→St→Ctx→CO) (cx:Ctx) (ro:Bool) (N:Nat):bF→Env→St→Out
 | .skip,env,s=>.norm env s
 | .ret,env,s=>.ret env s
 | .exit id,env,s=>.exit id env s
 | .region ops ord keep,env,s=>match rY glob call cx ops env s ord with
  | .norm env s=>.norm (je env keep) s
  | out=>out
 | .seq a b,env,s=>match bG call cx ro N a env s with
  | .norm env s=>bG call cx ro N b env s
  | out=>out
 | .cond c a b,env,s=>match rd glob env c with
  | some (.b true)=>bG call cx ro N a env s
  | some (.b false)=>bG call cx ro N b env s
  | _=>.fail
 | .block id b,env,s=>match bG call cx ro N b env s with
  | .exit id' env s=>if id'=id then .norm env s else .exit id' env s
  | out=>out
 | .loop keep b,env,s=>xK (bG call cx ro N b) keep N env s
 | .range f ps asg body,env,s=>if ro then .fail else match rd glob env f with
  | some (.fn ff as cs)=>match call (.fn ff as cs) [.yl (s.length+1)] (s++[.dfr,.loop (su env) ps asg body .ready]) cx with
   | .ret _ s'=>EJ env s' (s.length+1)
   | _=>.fail
  | _=>.fail
 | .label _,env,s=>.norm env s
 | .goto l,env,s=>.goto l env s
 | .scope l keep a b,env,s=>match bG call cx ro N a env s with
  | .goto l' env s=>if l'=l then qO (bG call cx ro N b) l keep N env s else .fail
  | out=>out
def oG (env:Env) (s:St):List RV→Option (List AV)
 | []=>some []
 | .tmp t::r=>match esc glob env (.t t) with
  | some (a,env)=>(oG env s r).map (a::·)
  | none=>none
 | .cell a n::r=>match kV glob env s n (.t a) with
  | some v=>(oG env s r).map (v.plain::·)
  | none=>none
def um:List AV→AV
 | [a]=>a
 | l=>.tu l
def finish (pure keep:Bool) (s s1:St) (r:AV):CO:=
 if keep then .ret r s1 else
 if s1.length=s.length then .ret r (if pure then s else s1) else
 match frz s1 s.length r with
 | some r=>.ret r (if pure then s else s1.take s.length)
 | none=>.fail
def CO.toPan (c:CO):CO:=
 match c with
 | .ret r s=>.pan r s
 | _=>.fail
def yB (args:List AV):Nat→Env
 | i=>match args with
  | []=>[]
  | a::r=>(i,.v a)::yB r (i+1)
def xG (call:AV→List AV→St→Ctx→CO) (N:Nat) (fn:bM) (args:List AV) (s:St) (cx:Ctx):CO:=
 if args.length=fn.np then
  match bG glob call ⟨if fn.pure then s.length else cx.lim,if fn.keep then cx.base else s.length⟩ fn.keep N fn.code (yB args 0) s with
  | .norm env s1 | .ret env s1=>match oG glob env s1 fn.res with
   | some rs=>finish fn.pure fn.keep s s1 (um rs)
   | none=>.fail
  | .pan v s1=>(finish fn.pure fn.keep s s1 v).toPan
  | _=>.fail
 else .fail
def placeOf (env:Env) (k:Nat):Option Nat:=
 match lk env k with
 | some (.v (.pt l 0))=>some l
 | _=>none
def FM:List AV→List Nat→Bool
 | [],[]=>true
 | .pt l 0::r,l'::r'=>l == l' && FM r r'
 | _,_=>false
def ng (s:St):List Nat→List (List AV)→St
 | l::ls,c::cs=>ng (s.set l (.cells c)) ls cs
 | _,_=>s
def wB (n:Nat) (s:St):List Nat→List (List AV)→Bool
 | [],[]=>true
 | l::ls,c::cs=>decide (n≤l) && !ls.contains l && (match s[l]? with|some (.cells old)=>old.length == c.length | _=>false) && c.all AV.flat && wB n s ls cs
 | _,_=>false
def zU:List Nat→List Nat→Env
 | k::ks,l::ls=>(k,.v (.pt l 0))::zU ks ls
 | _,_=>[]
def Dn (call:AV→List AV→St→Ctx→CO) (cx:Ctx) (N:Nat) (m:Option bF) (env:Env) (s:St):Out:=
 match m with
 | none=>.norm env s
 | some c=>bG glob call cx true N c env s
def uK (call:AV→List AV→St→Ctx→CO) (N:Nat) (d:Hz) (args:List AV) (s:St) (cx:Ctx):CO:=
 if args.length=d.np then
  match mM glob call ⟨cx.lim,s.length⟩ d.pre (yB args 0) s with
  | .norm envm sm=>match Dn glob call ⟨cx.lim,s.length⟩ N d.mid envm sm with
   | .ret env2 s2=>(match oG glob env2 s2 d.res with
    | some rs=>finish false false s s2 (um rs)
    | none=>.fail)
   | .norm yB s0=>(match fK glob call ⟨cx.lim,s.length⟩ d.mkc yB s0 with
    | .norm env1 s1=>match lk env1 d.ct,d.pins.mapM (placeOf env1) with
     | some (.v (.fn (.func f) [] caps)),some ls=>
      if f=d.clo∧FM caps ls=true then
       match bG glob call ⟨cx.lim,s.length⟩ true N d.code env1 s1 with
       | .norm env2 s2 | .ret env2 s2=>match oG glob env2 s2 d.res with
        | some rs=>finish false false s s2 (um rs)
        | none=>.fail
       | .pan v s2=>match d.hnd v with
        | some news=>if wB s.length s2 ls news=true then
          (match oG glob (zU d.pins ls) (ng s2 ls news) d.res with
          | some rs=>finish false false s (ng s2 ls news) (um rs)
          | none=>.fail) else .fail
        | none=>.fail
       | _=>.fail
      else .fail
     | _,_=>.fail
    | _=>.fail)
   | _=>.fail
  | _=>.fail
 else .fail
def DF (env:Env):List Nat→List AV→Env
 | k::ks,a::as=>DF (put env k (.v a)) ks as
 | _,_=>env
def sS (s:St) (l:Nat) (p:OB) (r:Bool):CO:=
 match s[l]? with
 | some (.loop env ps asg body .busy)=>.ret (.b r) (s.set l (.loop env ps asg body p))
 | _=>.fail
def A8 (call:AV→List AV→St→Ctx→CO) (N:Nat) (l:Nat) (args:List AV) (s:St) (cx:Ctx):CO:=
 match s[l]? with
 | some (.loop env ps asg body .ready)=>
  if ps.length=args.length∧cx.lim≤l then
   match bG glob call cx true N asg (DF env ps args) s with
   | .norm env1 s1=>match s1[l]? with
    | some (.loop e1 p1 a1 b1 .ready)=>match bG glob call cx true N body env1 (s1.set l (.loop e1 p1 a1 b1 .busy)) with
     | .norm _ s2=>sS s2 l .ready true
     | .ret _ s2=>sS s2 l .ret false
     | .exit id _ s2=>sS s2 l (.exit id) false
     | _=>.fail
    | _=>.fail
   | _=>.fail
  else .fail
 | _=>.fail
end
def adB (call:AV→List AV→St→Ctx→CO) (g:Nat) (x y:AV):Option Int:=
 match call (.fn (.func g) [] []) [x,y] [] ⟨0,0⟩ with
 | .ret (.i .i64 r) _=>some r
 | _=>none
def Xq (call:AV→List AV→St→Ctx→CO) (g:Nat) (es:List AV):Option (List (List Int)):=es.mapM fun x=>es.mapM fun y=>adB call g x y
def aib (tab:List (List Int)) (i j:Nat):Int:=((tab[i]?).getD [])[j]?.getD 0
def ana (n:Nat) (lt:Nat→Nat→Bool):Bool:=
 (List.range n).all fun x=>!lt x x && (List.range n).all fun y=>(List.range n).all fun z=>(!(lt x y && lt y z) || lt x z) && (lt x y || lt y z || !lt x z)
def aiK (n:Nat) (lt:Nat→Nat→Bool):List Nat:=
 ((Go.Sort.pdq (fun (i j:Fin (n+1))=>lt i.1 j.1) (Array.ofFn fun i=>i) 0 (n+1) (Go.Lib.bitLen (n+1)) true true).toList).map (·.1)
def acY (x:Rl):List Rl→List Rl
 | []=>[x]
 | y::r=>if Op.bytesLess y x=true then y::acY x r else x::y::r
def sortStr:List Rl→List Rl
 | []=>[]
 | x::r=>acY x (sortStr r)
def strOf:AV→Option Rl
 | .s l=>some l
 | _=>none
def lU (call qcall:AV→List AV→St→Ctx→CO) (k:HiK) (args:List AV) (s:St) (cx:Ctx):CO:=
 match k,args with
 | .tryK r t,[.fn (.func f) as cs]=>match call (.fn (.func f) as cs) [] s cx with
  | .ret _ s'=>.ret r s'
  | .pan (.ifc t' (.ag [.i .i64 x,.i .i64 y])) s'=>if t'=t then .ret (.tu [.ag [.i .i64 x,.i .i64 y],.b true]) s' else .fail
  | _=>.fail
 | .sortK _,[.ns,.fn (.func _) [] []]=>.ret (.tu []) s
 | .sortK _,[.se,.fn (.func _) [] []]=>.ret (.tu []) s
 | .sortK k0,[.sk l ver sz o m,.fn (.func g) [] []]=>match m,s[l]? with
  | 0,_=>.ret (.tu []) s
  | n+1,some (.buf t sz' ver' cs)=>
   if ver=ver'∧sz=sz'∧sz=k0∧2≤sz∧o+(n+1) * sz≤cs.length∧n<aS∧cx.lim≤l∧cx.base≤l∧bY 0 ((cs.drop o).take ((n+1) * sz))=true then
    (match Xq qcall g (chunk sz (n+1) (cs.drop o)) with
    | some tab=>if ana (n+1) (fun i j=>decide (aib tab i j<0)) then
      .ret (.tu []) (s.set l (.buf t sz ver (splice cs o ((aiK n fun i j=>decide (aib tab i j<0)).flatMap fun i=>(cs.drop (o+i * sz)).take sz)))) else .fail
    | none=>.fail)
   else .fail
  | _,_=>.fail
 | .sortS,[.ns]=>.ret (.tu []) s
 | .sortS,[.sk l ver sz o m]=>match m,s[l]? with
  | 0,_=>.ret (.tu []) s
  | n+1,some (.buf t sz' ver' cs)=>
   if ver=ver'∧sz=1∧sz'=1∧o+(n+1)≤cs.length∧n<aS∧cx.lim≤l∧cx.base≤l then
    (match ((cs.drop o).take (n+1)).mapM strOf with
    | some ss=>.ret (.tu []) (s.set l (.buf t 1 ver (splice cs o ((sortStr ss).map .s))))
    | none=>.fail)
   else .fail
  | _,_=>.fail
 | .readK f t z,[.sl (e::es)]=>match call (.fn (.func f) [] []) [.pt s.length 0] (s++[.cells [.sl (e::es)]]) cx with
  | .ret (.ag [a,b]) s'=>.ret (.tu [.ag [a,b],.i .i64 0,.i .i64 0]) s'
  | .pan (.ifc t' (.ag [.i .i64 x])) s'=>if t'=t then .ret (.tu [z,.i .i64 x,.i .i64 30]) s' else .fail
  | _=>.fail
 | _,_=>.fail
def jB (A:vJ):Nat→AV→List AV→St→Ctx→CO
 | 0,_,_,_,_=>.fail
 | n+1,.fn (.func f) as cs,args,s,cx=>
  match A.intr f with
  | some h=>match h (as++args++cs) s with
   | some r=>.ret r s
   | none=>.fail
  | none=>match A.hi f with
   | some k=>lU (jB A n) (jB A.quiet n) k (as++args++cs) s cx
   | none=>match A.dfr f with
    | some d=>uK A.glob (jB A n) n d (as++args++cs) s cx
    | none=>match A.fns f with
     | some fn=>xG A.glob (jB A n) n fn (as++args++cs) s cx
     | none=>.fail
 | n+1,.yl l,args,s,cx=>A8 A.glob (jB A n) n l args s cx
 | _,_,_,_,_=>.fail
def dn:Value→Option Nat
 | .pointer (some a)=>some a.block
 | .slice (some a) _ _=>some a.block
 | .map (some r)=>some r
 | _=>none
def ai.bl (g:ai) (l b:Nat):Prop:=g.L l=b∨∃k v,g.hist l k=some v∧dn v=some b
def ai.taken (g:ai) (n b:Nat):Prop:=∃l,l<n∧g.bl l b
theorem ai.taken.L {g:ai} {n l:Nat} (h:l<n):g.taken n (g.L l):=⟨l,h,.inl rfl⟩
theorem ai.le.bl {g g':ai} {n n':Nat} (h:g.le n g' n') {l b:Nat} (hl:l<n) (hb:g.bl l b):g'.bl l b:=by
 rcases hb with hb|⟨k,v,hk,hv⟩
 ·exact .inl ((h.L l hl).trans hb)
 ·exact .inr ⟨k,v,h.hist l hl k v hk,hv⟩
theorem ai.le.taken {g g':ai} {n n':Nat} (h:g.le n g' n') {b:Nat} (hb:g.taken n b):g'.taken n' b:=
 let ⟨l,hl,hb⟩:=hb;⟨l,Nat.lt_of_lt_of_le hl h.n,h.bl hl hb⟩
structure nX (g:ai) (b:Nat):Prop where
 m:∀o,g.m b o=none
 mm:g.mm b=none
def Born (ents:Array MapEntry) (clock:Nat):Prop:=(∀x∈ents.toList,x.born<clock)∧(ents.toList.map (·.born)).Nodup
theorem Born.nil:Born #[] 0:=⟨fun x hx=>by simp at hx,by simp⟩
theorem Born.push {p:Array MapEntry} {A:Nat} (h:Born p A) (k v:Value):Born (p.push { key:=k,val:=v,born:=A }) (A+1):=by
 refine ⟨fun x hx=>?_, ?_⟩
 ·simp at hx;rcases hx with hx|rfl
  ·have:=h.1 x (by simpa using hx);omega
  ·simp
 ·simp only [Array.toList_push,List.map_append,List.map_cons,List.map_nil];refine List.nodup_append.2 ⟨h.2,by simp,fun a ha b hb=>?_⟩;simp at hb;subst hb;obtain ⟨x,hx,rfl⟩:=List.mem_map.1 ha
  have:=h.1 x hx;omega
theorem Born.modify {p:Array MapEntry} {A:Nat} (h:Born p A) (j:Nat) (k v:Value):Born (p.modify j fun e=>{ e with key:=k,val:=v }) A:=by
 have hm:(p.modify j fun e=>{ e with key:=k,val:=v }).toList.map (·.born)=p.toList.map (·.born):=by
  apply List.ext_getElem?;intro i;simp only [Array.toList_modify,List.getElem?_map,List.getElem?_modify]
  cases p.toList[i]? with
  | none=>simp
  | some e=>by_cases hj:j=i<;>simp [hj]
 refine ⟨fun x hx=>?_,by rw [hm];exact h.2⟩
 have:x.born∈(p.modify j fun e=>{ e with key:=k,val:=v }).toList.map (·.born):=List.mem_map.2 ⟨x,hx,rfl⟩
 rw [hm] at this;obtain ⟨y,hy,he⟩:=List.mem_map.1 this;rw [←he];exact h.1 y hy
theorem Born.erase {p:Array MapEntry} {A:Nat} (h:Born p A) (j:Nat):Born (p.eraseIdxIfInBounds j) A:=by
 have he:(p.eraseIdxIfInBounds j).toList=p.toList.eraseIdx j:=by simp
 have hs:=List.eraseIdx_sublist p.toList j;refine ⟨fun x hx=>h.1 x ?_, ?_⟩
 ·rw [he] at hx;exact hs.subset hx
 ·rw [he];exact h.2.sublist (hs.map _)
def rowT (w:World) (tip:Bool) (b:Nat) (cur:Array Value) (e:TypeId):Prop:=∃fz:Nat×Nat,w.heap[b]?=some (.cells cur e fz)∧(fz=(0,0)∨tip=true∧cur.size≤fz.1)
def Ja (w:World) (tip:Bool) (base:Nat) (e:TypeId) (size:Nat) (v:Value) (n:Nat) (xs:List Value):Prop:=
 xs.length=n * size∧
 ((v=.slice none 0 0∧n=0)∨
  ∃g cap cur,v=.slice (some ⟨g,0,none⟩) n cap∧base≤g∧rowT w tip g cur e∧n≤cap∧cap≤maxLen∧cur.size=cap * size∧cur.toList.take (n * size)=xs)
theorem rowT.z {w:World} {b:Nat} {p:Array Value} {e:TypeId} (h:rowT w false b p e):w.heap[b]?=some (.cells p e (0,0)):=by
 obtain ⟨fz,h1,rfl|⟨h2,_⟩⟩:=h
 ·exact h1
 ·cases h2
theorem rowT.of {w:World} {tip:Bool} {b:Nat} {p:Array Value} {e:TypeId} (h:w.heap[b]?=some (.cells p e (0,0))):rowT w tip b p e:=⟨(0,0),h,.inl rfl⟩
theorem rowT.up {w:World} {tip:Bool} {b:Nat} {p:Array Value} {e:TypeId} (h:rowT w tip b p e):rowT w true b p e:=by
 obtain ⟨fz,h1,h2|⟨_,h2⟩⟩:=h
 ·exact ⟨fz,h1,.inl h2⟩
 ·exact ⟨fz,h1,.inr ⟨rfl,h2⟩⟩
theorem rowT.lt {w:World} {tip:Bool} {b:Nat} {p:Array Value} {e:TypeId} (h:rowT w tip b p e):b<w.heap.size:=by
 obtain ⟨fz,h1,_⟩:=h;exact (Array.getElem?_eq_some_iff.1 h1).1
theorem rowT.cell {w:World} {tip:Bool} {b:Nat} {p:Array Value} {e:TypeId} (h:rowT w tip b p e) (o:Nat):w.cell? ⟨b,o,none⟩=p[o]?:=by
 obtain ⟨fz,h1,_⟩:=h;exact cell_of_row w b o p e fz h1
theorem rowT.keep {w w':World} {tip:Bool} {b:Nat} {p:Array Value} {e:TypeId} (h:rowT w tip b p e) (hw:w'.heap[b]?=w.heap[b]?):rowT w' tip b p e:=by
 obtain ⟨fz,h1,h2⟩:=h;exact ⟨fz,hw.trans h1,h2⟩
theorem Rz {w:World} {tip:Bool} {I:Nat} {e:TypeId} {A:Nat} {v:Value} {n:Nat} {xs:List Value} (h:w.ownsRow I e A v n xs):Ja w tip I e A v n xs:=by
 refine ⟨h.1, ?_⟩;rcases h.2 with hn|⟨g,cap,x,hv,hb,hg,p⟩
 ·exact .inl hn
 ·exact .inr ⟨g,cap,x,hv,hb,.of hg,p⟩
theorem Ja.z {w:World} {I:Nat} {e:TypeId} {A:Nat} {v:Value} {n:Nat} {xs:List Value} (h:Ja w false I e A v n xs):w.ownsRow I e A v n xs:=by
 refine ⟨h.1, ?_⟩;rcases h.2 with hn|⟨g,cap,x,hv,hb,hg,p⟩
 ·exact .inl hn
 ·exact .inr ⟨g,cap,x,hv,hb,hg.z,p⟩
theorem Ja.up {w:World} {tip:Bool} {I:Nat} {e:TypeId} {A:Nat} {v:Value} {n:Nat} {xs:List Value} (h:Ja w tip I e A v n xs):Ja w true I e A v n xs:=by
 refine ⟨h.1, ?_⟩;rcases h.2 with hn|⟨g,cap,x,hv,hb,hg,p⟩
 ·exact .inl hn
 ·exact .inr ⟨g,cap,x,hv,hb,hg.up,p⟩
def vZ (g:ai) (n B:Nat) (w:World) (tm:Nat→Value) (k:Nat):EV→Prop
 | .v a=>Rep g n (tm k) a
 | .bx cs=>∃b arr ty,tm k=.pointer (some ⟨b,0,none⟩)∧w.heap[b]?=some (.cells arr ty (0,0))∧aX g n arr.toList cs∧fC arr.toList∧nX g b∧B≤b
 | .lp j off=>∃b,tm j=.pointer (some ⟨b,0,none⟩)∧tm k=.pointer (some ⟨b,off,none⟩)
 | .own tip t sz es=>∃xs,Ja w tip B t sz (tm k) es.length xs∧aX g n xs (es.flatMap AV.cells)∧fC xs∧(∀a∈es,a.cells.length=sz)∧0<sz∧
   ∀b,dn (tm k)=some b→g.mm b=none∧(∀j,xs.length≤j→g.m b j=none)∧∀j (h:j<xs.length),g.m b j=if tip then some xs[j] else none
 | .al j=>tm k=tm j
 | .ep j sz i off=>∃b len cap,tm j=.slice (some ⟨b,0,none⟩) len cap∧tm k=.pointer (some ⟨b,i * sz+off,none⟩)
 | .om es=>∃b ents clock,tm k=.map (some b)∧w.heap[b]?=some (.map ents clock)∧aX g n (ents.toList.map (·.key)) (es.map (·.1))∧aX g n (ents.toList.map (·.val)) (es.map (·.2))∧nX g b∧B≤b∧Born ents clock
structure iT (g:ai) (n B:Nat) (w:World) (tm:Nat→Value) (env:Env):Prop where
 rel:∀k e,lk env k=some e→vZ g n B w tm k e
 apart:∀k k' e e',lk env k=some e→lk env k'=some e'→e.owns=true→e'.owns=true→k≠k'→∀b,dn (tm k)=some b→dn (tm k')≠some b
 off:∀k e,lk env k=some e→e.owns=true→∀b,dn (tm k)=some b→¬g.taken n b
 refs:∀k e j,lk env k=some e→e.refers j=true→∃o,lk env j=some o∧o.owns=true
def OD (w:World) (b:Nat):Sum (List (Value×Value)) (Array Value)→Prop
 | .inl es=>∃ents clock,w.heap[b]?=some (.map ents clock)∧ents.toList.map (fun e=>(e.key,e.val))=es∧Born ents clock
 | .inr arr=>∃t f,w.heap[b]?=some (.cells arr t f)
theorem OD.keep {w w':World} {b:Nat} {es:Sum (List (Value×Value)) (Array Value)} (h:OD w b es) (hb:w'.heap[b]?=w.heap[b]?):OD w' b es:=by
 cases es with
 | inl es=>obtain ⟨x,p,h1,h2⟩:=h;exact ⟨x,p,hb.trans h1,h2⟩
 | inr arr=>obtain ⟨t,f,h1⟩:=h;exact ⟨t,f,hb.trans h1⟩
theorem OD.lt {w:World} {b:Nat} {es:Sum (List (Value×Value)) (Array Value)} (h:OD w b es):b<w.heap.size:=by
 cases es with
 | inl es=>obtain ⟨x,p,h1,h2⟩:=h;exact (Array.getElem?_eq_some_iff.1 h1).1
 | inr arr=>obtain ⟨t,f,h1⟩:=h;exact (Array.getElem?_eq_some_iff.1 h1).1
structure Imm (g:ai) (w:World):Prop where
 m:∀b o v,g.m b o=some v→w.cell? ⟨b,o,none⟩=some v
 mm:∀b es,g.mm b=some es→OD w b es
theorem jO (j:Nat) (e:EV) (r:Env) (k:Nat):lk ((j,e)::r) k=if j=k then some e else lk r k:=rfl
theorem kY (j:Nat) (e:EV) (r:Env):lk ((j,e)::r) j=some e:=by simp [lk]
theorem gJ {j k:Nat} (e:EV) (r:Env) (h:j≠k):lk ((j,e)::r) k=lk r k:=by simp [lk,h]
theorem wG (env:Env) (j k:Nat):lk (tC env j) k=(lk env k).map fun e=>if e.refers j then .v .u else e:=by
 induction env with
 | nil=>rfl
 | cons p r ih=>
  obtain ⟨i,e⟩:=p;simp only [tC,List.map_cons];by_cases hr:e.refers j=true
  ·rw [if_pos hr,jO,jO];by_cases h:i=k
   ·simp [h,hr]
   ·rw [if_neg h,if_neg h];exact ih
  ·rw [if_neg hr,jO,jO];by_cases h:i=k
   ·simp [h,hr]
   ·rw [if_neg h,if_neg h];exact ih
theorem xM (env:Env) (k:Nat) (e:EV):lk (put env k e) k=some e:=by
 unfold put;split<;>(try split)<;>simp [kY]
theorem NT {env:Env} {k j:Nat} (e:EV) (h:k≠j):lk (put env k e) j=lk env j∨(∃o,lk env k=some o∧o.owns=true∧lk (put env k e) j=(lk env j).map fun e=>if e.refers k then .v .u else e):=by
 unfold put;split
 ·rename_i o ho;split
  ·rename_i p;right;exact ⟨o,ho,p,by rw [gJ _ _ h,wG]⟩
  ·left;rw [gJ _ _ h]
 ·left;rw [gJ _ _ h]
theorem Gz {env:Env} {ks:List Nat} {k:Nat} {e:EV} (h:lk (je env ks) k=some e):lk env k=some e∧e.isRef=false:=by
 induction ks with
 | nil=>simp [je,lk] at h
 | cons j r ih=>
  unfold je at h
  split at h
  ·rename_i o ho
   split at h
   ·exact ih h
   ·rename_i hr;rw [jO] at h
    split at h
    ·rename_i p;subst p;cases h;exact ⟨ho,by simpa using hr⟩
    ·exact ih h
  ·exact ih h
theorem acO {env:Env} {k:Nat} {e:EV} (h:lk (su env) k=some e):(∃a,e=.v a∧lk env k=some (.v a))∨e=.v .u:=by
 induction env with
 | nil=>simp [su,lk] at h
 | cons p r ih=>
  obtain ⟨j,x⟩:=p;simp only [su,List.map_cons] at h;by_cases hj:j=k
  ·subst hj
   cases x<;>simp [lk] at h<;>subst h<;>first|exact .inr rfl|exact .inl ⟨_,rfl,by simp [lk]⟩
  ·have h':lk (su r) k=some e:=by
    cases x<;>simpa [lk,hj,su] using h
   rcases ih h' with ⟨a,he,hl⟩|he
   ·exact .inl ⟨a,he,by simpa [lk,hj] using hl⟩
   ·exact .inr he
theorem WH {e:EV} {j:Nat} (h:e.refers j=true):e.isRef=true:=by cases e<;>simp_all [EV.refers,EV.isRef]
theorem iT.keep {g:ai} {n B:Nat} {w:World} {tm:Nat→Value} {env:Env} (h:iT g n B w tm env) (ks:List Nat):iT g n B w tm (je env ks) where
 rel k e hk:=h.rel k e (Gz hk).1
 apart k k' e e' hk hk':=h.apart k k' e e' (Gz hk).1 (Gz hk').1
 off k e hk:=h.off k e (Gz hk).1
 refs k e j hk hr:=absurd (WH hr) (by simp [(Gz hk).2])
theorem iT.nil (g:ai) (n B:Nat) (w:World) (tm:Nat→Value):iT g n B w tm [] where
 rel k e hk:=by simp [lk] at hk
 apart k k' e e' hk:=by simp [lk] at hk
 off k e hk:=by simp [lk] at hk
 refs k e j hk:=by simp [lk] at hk
theorem vZ.next {g g':ai} {n n' B:Nat} {w w':World} {tm:Nat→Value} {k:Nat} {e:EV} (h:vZ g n B w tm k e) (p:g.le n g' n')
  (hb:e.owns=true→∀b,dn (tm k)=some b→w'.heap[b]?=w.heap[b]?∧g'.m b=g.m b∧g'.mm b=g.mm b):vZ g' n' B w' tm k e:=by
 cases e with
 | v a=>exact Rep.mono p h
 | bx cs=>
  obtain ⟨b,O,ty,h1,h2,h3,h4,h5,h6⟩:=h;obtain ⟨q1,q2,q3⟩:=hb rfl b (by simp [h1,dn]);exact ⟨b,O,ty,h1,q1.trans h2,h3.mono p,h4,⟨fun o=>by rw [q2];exact h5.m o,by rw [q3];exact h5.mm⟩,h6⟩
 | lp j off=>exact h
 | own tip t sz es=>
  obtain ⟨xs,h1,h2,h3,h4,h5,h6⟩:=h;refine ⟨xs,⟨h1.1, ?_⟩,h2.mono p,h3,h4,h5,fun b A=>?_⟩
  ·rcases h1.2 with hn|⟨gb,cap,K,hv,hB,hg,I⟩
   ·exact .inl hn
   ·exact .inr ⟨gb,cap,K,hv,hB,hg.keep (hb rfl gb (by simp [hv,dn])).1,I⟩
  ·obtain ⟨_,q2,q3⟩:=hb rfl b A;rw [q2,q3];exact h6 b A
 | al j=>exact h
 | ep j sz i off=>exact h
 | om es=>
  obtain ⟨b,J,x,h1,h2,h3,h4,h5,h6⟩:=h;obtain ⟨q1,q2,q3⟩:=hb rfl b (by simp [h1,dn]);exact ⟨b,J,x,h1,q1.trans h2,h3.mono p,h4.mono p,⟨fun o=>by rw [q2];exact h5.m o,by rw [q3];exact h5.mm⟩,h6⟩
theorem iT.next {g g':ai} {n n' B:Nat} {w w':World} {tm:Nat→Value} {env:Env} (h:iT g n B w tm env) (x:g.le n g' n')
  (hb:∀k e,lk env k=some e→e.owns=true→∀b,dn (tm k)=some b→w'.heap[b]?=w.heap[b]?∧g'.m b=g.m b∧g'.mm b=g.mm b∧(g'.taken n' b→g.taken n b)):
  iT g' n' B w' tm env where
 rel k e hk:=(h.rel k e hk).next x fun ho b p=>let ⟨a,b,c,_⟩:=hb k e hk ho b p;⟨a,b,c⟩
 apart:=h.apart
 off k e hk ho b p ht:=h.off k e hk ho b p ((hb k e hk ho b p).2.2.2 ht)
 refs:=h.refs
def upd (tm:Nat→Value) (d:Nat) (v:Value):Nat→Value:=fun k=>if k=d then v else tm k
theorem upd_same (tm:Nat→Value) (d:Nat) (v:Value):upd tm d v d=v:=by simp [upd]
theorem upd_ne (tm:Nat→Value) {d k:Nat} (v:Value) (h:k≠d):upd tm d v k=tm k:=by simp [upd,h]
theorem vZ.upd {g:ai} {n B:Nat} {w:World} {tm:Nat→Value} {k d:Nat} {v:Value} {e:EV} (h:vZ g n B w tm k e) (hk:k≠d) (hr:∀j,e.refers j=true→j≠d):
  vZ g n B w (upd tm d v) k e:=by
 cases e with
 | v a=>simpa [vZ,upd_ne tm v hk] using h
 | bx cs=>simpa [vZ,upd_ne tm v hk] using h
 | lp j off=>have:=hr j (by simp [EV.refers]);simpa [vZ,upd_ne tm v hk,upd_ne tm v this] using h
 | own tip t sz es=>simpa only [vZ,upd_ne tm v hk] using h
 | al j=>have:=hr j (by simp [EV.refers]);simpa [vZ,upd_ne tm v hk,upd_ne tm v this] using h
 | ep j sz i off=>have:=hr j (by simp [EV.refers]);simpa [vZ,upd_ne tm v hk,upd_ne tm v this] using h
 | om es=>simpa only [vZ,upd_ne tm v hk] using h
theorem WZ {env:Env} {d k:Nat} {e e':EV} (h:lk (put env d e) k=some e') (hk:k≠d):
  (lk env k=some e'∧((∃o,lk env d=some o∧o.owns=true)→e'.refers d=false))∨e'=.v .u:=by
 rcases NT e (Ne.symm hk) (env:=env) with h1|⟨o,ho,p,h1⟩
 ·rw [h1] at h;by_cases hx:∃o,lk env d=some o∧o.owns=true
  ·obtain ⟨o,ho,p⟩:=hx
   have h2:lk (put env d e) k=(lk env k).map fun e=>if e.refers d then .v .u else e:=by
    unfold put;rw [ho];simp only [p,if_true];rw [gJ _ _ (Ne.symm hk),wG]
   rw [h1,h] at h2;simp only [Option.map_some,Option.some.injEq] at h2;by_cases hr:e'.refers d=true
   ·right;rw [if_pos hr] at h2;exact h2
   ·left;exact ⟨h,fun _=>by simpa using hr⟩
  ·left;exact ⟨h,fun hc=>absurd hc hx⟩
 ·rw [h1] at h
  cases hk':lk env k with
  | none=>rw [hk'] at h;simp at h
  | some x=>
   rw [hk'] at h;simp only [Option.map_some,Option.some.injEq] at h;by_cases hr:x.refers d=true
   ·rw [if_pos hr] at h;exact .inr h.symm
   ·rw [if_neg hr] at h;subst h;exact .inl ⟨rfl,fun _=>by simpa using hr⟩
theorem iT.put {g:ai} {n B:Nat} {w:World} {tm:Nat→Value} {env:Env} (h:iT g n B w tm env) (d:Nat) (v:Value) (e:EV)
  (hv:vZ g n B w (upd tm d v) d e) (R:∀j,e.refers j=true→j≠d∧∃o,lk env j=some o∧o.owns=true)
  (P:e.owns=true→∀b,dn v=some b→(∀k e',lk env k=some e'→e'.owns=true→k≠d→dn (tm k)≠some b)∧¬g.taken n b):
  iT g n B w (upd tm d v) (put env d e):=by
 have x:∀k e',lk (Ai.put env d e) k=some e'→k≠d→(lk env k=some e'∧(∀j,e'.refers j=true→j≠d))∨e'=.v .u:=by
  intro k e' hk p;rcases WZ hk p with ⟨h1,h2⟩|h1
  ·refine .inl ⟨h1,fun j hj A=>?_⟩;subst A
   have:=h2 (h.refs k e' j h1 hj)
   simp [this] at hj
  ·exact .inr h1
 refine ⟨fun k e' hk=>?_,fun k k' e1 e2 hk O ho I K b hb=>?_,fun k e' hk ho b hb=>?_,fun k e' j hk hr=>?_⟩
 ·by_cases p:k=d
  ·subst p;rw [xM] at hk;cases hk;exact hv
  ·rcases x k e' hk p with ⟨h1,h2⟩|h1
   ·exact (h.rel k e' h1).upd p h2
   ·subst h1;exact Rep.u _
 ·by_cases p:k=d
  ·subst p;rw [xM] at hk;cases hk;rw [upd_same] at hb;rw [upd_ne tm v (Ne.symm K)];rcases x k' e2 O (Ne.symm K) with ⟨h1,_⟩|h1
   ·exact (P ho b hb).1 k' e2 h1 I (Ne.symm K)
   ·subst h1;simp [EV.owns] at I
  ·rcases x k e1 hk p with ⟨h1,_⟩|h1
   ·rw [upd_ne tm v p] at hb;by_cases hkd':k'=d
    ·subst hkd';rw [xM] at O;cases O;rw [upd_same];intro Q;exact (P I b Q).1 k e1 h1 ho p hb
    ·rcases x k' e2 O hkd' with ⟨h2,_⟩|h2
     ·rw [upd_ne tm v hkd'];exact h.apart k k' e1 e2 h1 h2 ho I K b hb
     ·subst h2;simp [EV.owns] at I
   ·subst h1;simp [EV.owns] at ho
 ·by_cases p:k=d
  ·subst p;rw [xM] at hk;cases hk;rw [upd_same] at hb;exact (P ho b hb).2
  ·rcases x k e' hk p with ⟨h1,_⟩|h1
   ·rw [upd_ne tm v p] at hb;exact h.off k e' h1 ho b hb
   ·subst h1;simp [EV.owns] at ho
 ·by_cases p:k=d
  ·subst p;rw [xM] at hk;cases hk;obtain ⟨A,o,ho,J⟩:=R j hr;rcases NT e (Ne.symm A) (env:=env) with h1|⟨_,_,_,h1⟩
   ·exact ⟨o,h1.trans ho,J⟩
   ·refine ⟨o, ?_,J⟩;rw [h1,ho]
    have:o.refers k=false:=by cases o<;>simp_all [EV.owns,EV.refers]
    simp [this]
  ·rcases x k e' hk p with ⟨h1,h2⟩|h1
   ·have A:=h2 j hr;obtain ⟨o,ho,J⟩:=h.refs k e' j h1 hr;rcases NT e (Ne.symm A) (env:=env) with h3|⟨_,_,_,h3⟩
    ·exact ⟨o,h3.trans ho,J⟩
    ·refine ⟨o, ?_,J⟩;rw [h3,ho]
     have:o.refers d=false:=by cases o<;>simp_all [EV.owns,EV.refers]
     simp [this]
   ·subst h1;simp [EV.refers] at hr
theorem iT.aer {g:ai} {n B:Nat} {w:World} {tm:Nat→Value} {env:Env} (h:iT g n B w tm env) (d:Nat) (v:Value) (a:AV) (hv:Rep g n v a):
  iT g n B w (Ai.upd tm d v) (Ai.put env d (.v a)):=
 h.put d v (.v a) (by simpa [vZ,upd_same] using hv) (fun j hj=>by simp [EV.refers] at hj) (fun ho=>by simp [EV.owns] at ho)
theorem iT.turn {g:ai} {n B:Nat} {w:World} {tm:Nat→Value} {env:Env} (h:iT g n B w tm env) (d:Nat) (e e':EV) (hd:lk env d=some e) (ho:e.owns=true)
  (hv:vZ g n B w tm d e') (P:e'.owns=true):iT g n B w tm ((d,e')::env) where
 rel k x hk:=by
  rw [jO] at hk
  split at hk
  ·rename_i p;subst p;cases hk;exact hv
  ·exact h.rel k x hk
 apart k k' x x' hk hk' hx hx' hne b hb:=by
  have f:∀k x,lk ((d,e')::env) k=some x→x.owns=true→∃y,lk env k=some y∧y.owns=true:=by
   intro k x hk hx;rw [jO] at hk
   split at hk
   ·rename_i p;subst p;exact ⟨e,hd,ho⟩
   ·exact ⟨x,hk,hx⟩
  obtain ⟨y,hy,K⟩:=f k x hk hx;obtain ⟨y',J,A⟩:=f k' x' hk' hx';exact h.apart k k' y y' hy J K A hne b hb
 off k x hk hx b hb:=by
  rw [jO] at hk
  split at hk
  ·rename_i p;subst p;exact h.off d e hd ho b hb
  ·exact h.off k x hk hx b hb
 refs k x j hk hr:=by
  rw [jO] at hk
  have hx:lk env k=some x:=by
   split at hk
   ·rename_i p;subst p;cases hk;cases e'<;>simp_all [EV.owns,EV.refers]
   ·exact hk
  obtain ⟨o,O,I⟩:=h.refs k x j hx hr;rw [jO];by_cases hdj:d=j
  ·exact ⟨e',by simp [hdj],P⟩
  ·exact ⟨o,by simp [hdj,O],I⟩
theorem iT.turnNext {g g':ai} {n n' B:Nat} {w w':World} {tm:Nat→Value} {env:Env} (h:iT g n B w tm env) (d:Nat) (e e':EV) (hd:lk env d=some e) (ho:e.owns=true)
  (Y:e'.owns=true) (W:g.le n g' n') (hv:vZ g' n' B w' tm d e')
  (hb:∀k x,lk env k=some x→x.owns=true→k≠d→∀b,dn (tm k)=some b→w'.heap[b]?=w.heap[b]?∧g'.m b=g.m b∧g'.mm b=g.mm b)
  (hL:∀k x,lk env k=some x→x.owns=true→∀b,dn (tm k)=some b→g'.taken n' b→g.taken n b):iT g' n' B w' tm ((d,e')::env):=by
 have f:∀k x,lk ((d,e')::env) k=some x→x.owns=true→∃y,lk env k=some y∧y.owns=true:=by
  intro k x hk hx;rw [jO] at hk
  split at hk
  ·rename_i p;subst p;exact ⟨e,hd,ho⟩
  ·exact ⟨x,hk,hx⟩
 refine ⟨fun k x hk=>?_,fun k k' x x' hk S hx K O b A=>?_,fun k x hk hx b A hl=>?_,fun k x j hk hr=>?_⟩
 ·rw [jO] at hk
  split at hk
  ·rename_i p;subst p;cases hk;exact hv
  ·rename_i p;exact (h.rel k x hk).next W (fun hx b A=>hb k x hk hx (Ne.symm p) b A)
 ·obtain ⟨y,hy,I⟩:=f k x hk hx;obtain ⟨y',Q,J⟩:=f k' x' S K;exact h.apart k k' y y' hy Q I J O b A
 ·obtain ⟨y,hy,I⟩:=f k x hk hx;exact h.off k y hy I b A (hL k y hy I b A hl)
 ·rw [jO] at hk
  have hx:lk env k=some x:=by
   split at hk
   ·rename_i p;subst p;cases hk;cases e'<;>simp_all [EV.owns,EV.refers]
   ·exact hk
  obtain ⟨o,R,P⟩:=h.refs k x j hx hr;rw [jO];by_cases hdj:d=j
  ·exact ⟨e',by simp [hdj],Y⟩
  ·exact ⟨o,by simp [hdj,R],P⟩
theorem iT.dropNext {g g':ai} {n n' B:Nat} {w w':World} {tm:Nat→Value} {env:Env} (h:iT g n B w tm env) (d:Nat) (W:g.le n g' n')
  (hb:∀k x,lk env k=some x→x.owns=true→k≠d→∀b,dn (tm k)=some b→w'.heap[b]?=w.heap[b]?∧g'.m b=g.m b∧g'.mm b=g.mm b∧(g'.taken n' b→g.taken n b)):
  iT g' n' B w' tm ((d,.v .u)::tC env d):=by
 have f:∀k x,lk ((d,.v .u)::tC env d) k=some x→(x=.v .u)∨(k≠d∧lk env k=some x∧x.refers d=false):=by
  intro k x hk;rw [jO] at hk
  split at hk
  ·cases hk;exact .inl rfl
  ·rename_i Q;rw [wG] at hk
   cases hx:lk env k with
   | none=>rw [hx] at hk;simp at hk
   | some y=>
    rw [hx] at hk;simp only [Option.map_some,Option.some.injEq] at hk;by_cases hr:y.refers d=true
    ·rw [if_pos hr] at hk;exact .inl hk.symm
    ·rw [if_neg hr] at hk;subst hk;exact .inr ⟨Ne.symm Q,rfl,by simpa using hr⟩
 refine ⟨fun k x hk=>?_,fun k k' x x' hk A hx K P b p=>?_,fun k x hk hx b p hl=>?_,fun k x j hk hr=>?_⟩
 ·rcases f k x hk with rfl|⟨J,A,_⟩
  ·exact Rep.u _
  ·exact (h.rel k x A).next W (fun hx b p=>let ⟨a,b,c,_⟩:=hb k x A hx J b p;⟨a,b,c⟩)
 ·rcases f k x hk with rfl|⟨_,hy,_⟩
  ·simp [EV.owns] at hx
  ·rcases f k' x' A with rfl|⟨_,S,_⟩
   ·simp [EV.owns] at K
   ·exact h.apart k k' x x' hy S hx K P b p
 ·rcases f k x hk with rfl|⟨J,hy,_⟩
  ·simp [EV.owns] at hx
  ·exact h.off k x hy hx b p ((hb k x hy hx J b p).2.2.2 hl)
 ·rcases f k x hk with rfl|⟨_,hy,O⟩
  ·simp [EV.refers] at hr
  ·obtain ⟨o,ho,R⟩:=h.refs k x j hy hr;have I:j≠d:=fun I=>by subst I;simp [O] at hr
   refine ⟨o, ?_,R⟩;rw [jO,if_neg (Ne.symm I),wG,ho]
   have:o.refers d=false:=by cases o<;>simp_all [EV.owns,EV.refers]
   simp [this]
def QF (v:Value) (a:AV):Bool:=
 match a,v with
 | .u,_=>true
 | .i k' n',.int k n=>k == k' && n == n'
 | .b y,.bool x=>x == y
 | .s l,.string s=>s.data.toList == l
 | .np,.pointer none=>true
 | .nm,.map none=>true
 | .ns,.slice none 0 0=>true
 | .sl [],.slice none 0 0=>true
 | .nf,.nilFunc=>true
 | .ni,.nilIface=>true
 | .tu [],.tuple vs=>vs.isEmpty
 | .fn f' [] [],.func f vs ws=>f == f' && vs.isEmpty && ws.isEmpty && (match f with | .yield _=>false | _=>true)
 | _,_=>false
def vw:List Value→List AV→Bool
 | [],[]=>true
 | v::vs,a::as=>QF v a && vw vs as
 | _,_=>false
def QI (v:Value) (zs:List AV):Bool:=v.cells.toList.all Value.oneCell' && vw v.cells.toList zs
def Xo:Value→AV→Bool
 | .agg vs,.ag as=>vs.toList.all Value.oneCell' && vw vs.toList as
 | v,a=>QF v a
def dR:Operand→IX→Bool
 | .tmp t,.t k=>t == k
 | .const v,.c a=>Xo v a
 | .global g,.g k=>g == k
 | .func f,.c (.fn (.func f') [] [])=>f == f'
 | _,_=>false
def Ag:List Operand→List IX→Bool
 | [],[]=>true
 | x::xs,y::ys=>dR x y && Ag xs ys
 | _,_=>false
def Zd:Option Operand→Option IX→Bool
 | none,none=>true
 | some x,some y=>dR x y
 | _,_=>false
def ab2 (P:Program) (t:TypeId):Option Bool:=
 match P.underlying t with
 | some (.struct _)|some (.array _ _)=>some true
 | some _=>some false
 | none=>none
def qx (P:Program) (t:TypeId) (n:Nat):Bool:=(P.info? t).any fun i=>i.size == n
def IU (P:Program) (t:TypeId):Option Nat→Bool
 | none=>ab2 P t == some false
 | some n=>ab2 P t == some true && qx P t n
def CZ (P:Program) (t:TypeId) (zs:List AV):Bool:=(P.info? t).any fun i=>i.zero.any fun z=>QI z zs
def ah6 (P:Program) (t:TypeId) (z:AV):Bool:=(P.info? t).any fun i=>i.zero.any fun v=>Xo v z
def sliceOf (P:Program) (t:TypeId) (e:TypeId) (sz:Nat):Bool:=
 match P.underlying t with
 | some (.slice e')=>e' == e && qx P e sz
 | _=>false
def Et (P:Program) (t:TypeId) (sz:Nat):Bool:=
 match P.underlying t with
 | some (.slice e)=>qx P e sz
 | _=>false
def A7 (P:Program) (t:TypeId):Bool:=
 match P.underlying t with
 | some (.slice e)=>(match P.underlying e with|some (.int .u8)=>qx P e 1 | _=>false)
 | _=>false
def arrayOf (P:Program) (t:TypeId) (len sz:Nat):Option TypeId:=
 match P.underlying t with
 | some (.array n e)=>if n == len && qx P e sz then some e else none
 | _=>none
def isStr (P:Program) (t:TypeId):Bool:=match P.underlying t with|some .string=>true | _=>false
def isInt (P:Program) (t:TypeId) (k:IntKind):Bool:=match P.underlying t with|some (.int k')=>k == k' | _=>false
def QC (P:Program) (s:TypeId) (f:Nat):Option Field:=
 match P.underlying s with
 | some (.struct fs)=>fs[f]?
 | _=>none
def Ep (P:Program) (fs:Array Field):List (Nat×Operand)→List (Nat×Nat×IX)→Bool
 | [],[]=>true
 | (i,x)::r,(o,n,y)::r'=>(match fs[i]? with|some f=>f.offset == o && qx P f.type n|none=>false) && dR x y && Ep P fs r r'
 | _,_=>false
def AZ (n:Nat):List (Nat×Operand)→List (Nat×Nat×IX)→Bool
 | [],[]=>true
 | (i,x)::r,(o,m,y)::r'=>i * n == o && m == n && dR x y && AZ n r r'
 | _,_=>false
def Eo:List (Nat×Operand)→List (Nat×IX)→Bool
 | [],[]=>true
 | (i,x)::r,(j,y)::r'=>i == j && dR x y && Eo r r'
 | _,_=>false
def aaK (P:Program) (k:Nat) (t:TypeId) (y:Operand):Bool:=
 match k,P.underlying t,y with
 | 0,some (.slice _),.const (.slice none 0 0)=>true
 | 1,some (.map _ _),.const (.map none)=>true
 | 2,some (.func _ _ _),.const .nilFunc=>true
 | 3,some (.pointer _),.const (.pointer none)=>true
 | 4,some (.interface _),.const .nilIface=>true
 | _,_,_=>false
def isBool (P:Program) (t:TypeId):Bool:=match P.underlying t with|some .bool=>true | _=>false
def vK (P:Program):Nat→List Field→Bool
 | _,[]=>true
 | i,f::r=>f.offset == i && f.name != "_" && isStr P f.type && vK P (i+1) r
def LX (P:Program) (kk:Nat) (kt:TypeId):Bool:=
 match kk,P.underlying kt with
  | 0,some (.int _)=>true
  | 1,some .string=>true
  | 2,some .bool=>true
  | n+3,some (.struct fs)=>fs.size == n && vK P 0 fs.toList && !P.stoodInHeld kt
  | _,_=>false
def Om (P:Program) (kk:Nat) (t:TypeId):Bool:=
 match P.underlying t with
 | some (.map kt _)=>LX P kk kt
 | _=>false
def aO (P:Program) (op:Op):AOp→Bool
 | .mov ix=>match op with | .move x | .assign x=>dR x ix | _=>false
 | .asg ix=>match op with | .move x | .assign x=>dR x ix | _=>false
 | .cpy ix=>match op with | .move x | .assign x=>dR x ix | _=>false
 | .nbuf _ _=>match op with | .move (.const (.slice none 0 0)) | .assign (.const (.slice none 0 0))=>true | _=>false
 | .pick c a b=>match op with | .pick c' a' b'=>dR c' c && dR a' a && dR b' b | _=>false
 | .lbox ix=>match op with | .box _ x=>dR x ix | _=>false
 | .hbox ix=>match op with | .box _ x=>dR x ix | _=>false
 | .lalloc zs=>match op with | .alloc t=>CZ P t zs | _=>false
 | .halloc zs=>match op with | .alloc t=>CZ P t zs | _=>false
 | .load n ia=>match op with | .load t a=>dR a ia && IU P t n | _=>false
 | .loadp _ n ia=>match op with | .load t a=>dR a ia && IU P t n | _=>false
 | .store n ia ix=>match op with | .store t a x=>dR a ia && dR x ix && qx P t n | _=>false
 | .fld off ix=>match op with
  | .fieldAddr s x f=>dR x ix && (match QC P s f with|some fd=>fd.offset == off && (P.info? fd.type).any (fun i=>i.size != 0)|none=>false)
  | _=>false
 | .idx sz ix ii=>match op with | .indexAddr t x i=>dR x ix && dR i ii && Et P t sz | _=>false
 | .idxa len sz ix ii=>match op with | .indexAddr t x i=>dR x ix && dR i ii && (arrayOf P t len sz).isSome | _=>false
 | .getf off n ix=>match op with
  | .field t x f=>dR x ix && (match QC P t f with|some fd=>fd.offset == off && IU P fd.type n|none=>false)
  | _=>false
 | .idxv ..=>false
 | .idxs ix ii=>match op with | .index t x i=>dR x ix && dR i ii && isStr P t | _=>false
 | .bin b ix iy=>match op with | .binOp b' _ x y _=>b == b' && dR x ix && dR y iy | _=>false
 | .ieq ..=>false
 | .beq neg ix iy=>match op with | .binOp b' t x y _=>(if neg then b' == .neq else b' == .eql) && dR x ix && dR y iy && isBool P t | _=>false
 | .nileq neg k ix=>match op with | .binOp b' t x y _=>(if neg then b' == .neq else b' == .eql) && dR x ix && aaK P k t y | _=>false
 | .un u ix=>match op with | .unOp u' _ x=>u == u' && dR x ix | _=>false
 | .toInt k ix=>match op with | .convert s d x=>dR x ix && isInt P d k && (P.underlying s).isSome | _=>false
 | .s2b ix=>match op with | .convert s d x=>dR x ix && isStr P s && A7 P d | _=>false
 | .b2s ix=>match op with | .convert s d x=>dR x ix && A7 P s && isStr P d | _=>false
 | .same ..=>false
 | .mark ix=>match op with | .convert s d x=>dR x ix && s == d && A7 P d | _=>false
 | .markk ..=>false
 | .build zs ps=>match op with
  | .build t qs=>(match P.underlying t with
   | some (.struct fs)=>CZ P t zs && (fs.toList.all fun f=>(P.info? f.type).isSome) && Ep P fs qs.toList ps
   | some (.array _ e)=>CZ P t zs && (match P.info? e with|some i=>AZ i.size qs.toList ps|none=>false)
   | _=>false)
  | _=>false
 | .bsl _ e sz len zs ps=>match op with
  | .buildSlice t n qs=>n == len && sliceOf P t e sz && CZ P e zs && Eo qs.toList ps
  | _=>false
 | .app e sz ix iy=>match op with
  | .call c=>(match c.callee,c.args.toList,c.argTypes with
   | .builtin .append,[x,y],ts=>(match ts.toList with
    | [t,t']=>t == t' && dR x ix && dR y iy && sliceOf P t e sz && (P.info? e).any (fun i=>i.bytes≤65536 && i.zero.any fun z=>z.cells.size == sz)
    | _=>false)
   | _,_,_=>false)
  | _=>false
 | .appr e sz ix iy=>match op with
  | .call c=>(match c.callee,c.args.toList,c.argTypes with
   | .builtin .append,[x,y],ts=>(match ts.toList with
    | [t,t']=>t == t' && dR x ix && dR y iy && sliceOf P t e sz && (P.info? e).any (fun i=>i.bytes≤65536 && i.zero.any fun z=>z.cells.size == sz)
    | _=>false)
   | _,_,_=>false)
  | _=>false
 | .apprp _ e sz ix iy=>match op with
  | .call c=>(match c.callee,c.args.toList,c.argTypes with
   | .builtin .append,[x,y],ts=>(match ts.toList with
    | [t,t']=>t == t' && dR x ix && dR y iy && sliceOf P t e sz && (P.info? e).any (fun i=>i.bytes≤65536 && i.zero.any fun z=>z.cells.size == sz)
    | _=>false)
   | _,_,_=>false)
  | _=>false
 | .appk e sz ix iy=>match op with
  | .call c=>(match c.callee,c.args.toList,c.argTypes with
   | .builtin .append,[x,y],ts=>(match ts.toList with
    | [t,t']=>t == t' && dR x ix && dR y iy && sliceOf P t e sz && (P.info? e).any (fun i=>i.bytes≤65536 && i.zero.any fun z=>z.cells.size == sz)
    | _=>false)
   | _,_,_=>false)
  | _=>false
 | .appe e sz ix iy=>match op with
  | .call c=>(match c.callee,c.args.toList,c.argTypes with
   | .builtin .append,[x,y],ts=>(match ts.toList with
    | [t,t']=>t == t' && dR x ix && dR y iy && sliceOf P t e sz && (P.info? e).any (fun i=>i.bytes≤65536 && i.zero.any fun z=>z.cells.size == sz)
    | _=>false)
   | _,_,_=>false)
  | _=>false
 | .appv ..=>false
 | .appz e sz zs ix iy=>match op with
  | .call c=>(match c.callee,c.args.toList,c.argTypes with
   | .builtin .append,[x,y],ts=>(match ts.toList with
    | [t,t']=>isInt P t' .i64 && dR x ix && dR y iy && sliceOf P t e sz && CZ P e zs && (P.info? e).any (fun i=>i.bytes≤65536)
    | _=>false)
   | _,_,_=>false)
  | _=>false
 | .capn ix=>match op with
  | .call c=>(match c.callee,c.args.toList,c.argTypes.toList with
   | .builtin .cap,[x],[t]=>dR x ix && (match P.underlying t with|some (.slice _)=>true | _=>false)
   | _,_,_=>false)
  | _=>false
 | .mks ..=>false
 | .asgk ..=>false
 | .lallocp _ zs=>match op with | .alloc t=>CZ P t zs | _=>false
 | .storep n ia ix=>match op with | .store t a x=>dR a ia && dR x ix && qx P t n | _=>false
 | .loadl n ia=>match op with | .load t a=>dR a ia && IU P t n | _=>false
 | .storel n k ix=>match op with | .store t a x=>dR a (.t k) && dR x ix && qx P t n | _=>false
 | .umap ..=>false
 | .uins ..=>false
 | .bse ..=>false
 | .apps ..=>false
 | .appks ..=>false
 | .clrk zs ix=>match op with
  | .call c=>(match c.callee,c.args.toList,c.argTypes.toList with
   | .builtin .clear,[x],[t]=>dR x ix && (match P.underlying t with|some (.slice e)=>CZ P e zs | _=>false)
   | _,_,_=>false)
  | _=>false
 | .len k ix=>match op with
  | .call c=>(match c.callee,c.args.toList,c.argTypes.toList with
   | .builtin .len,[x],[t]=>dR x ix && (match k,P.underlying t with | 0,some (.slice _)=>true | 1,some .string=>true | 2,some (.map _ _)=>true | _,_=>false)
   | _,_,_=>false)
  | _=>false
 | .lenA ..=>false
 | .minmax ..=>false
 | .slc sz ix lo hi=>match op with | .slice t x l h none=>dR x ix && Zd l lo && Zd h hi && Et P t sz | _=>false
 | .slc3 sz ix ih im=>match op with | .slice t x none (some h) (some m)=>dR x ix && dR h ih && dR m im && Et P t sz | _=>false
 | .slcs ix lo hi=>match op with | .slice t x l h none=>dR x ix && Zd l lo && Zd h hi && isStr P t | _=>false
 | .ext ix i=>match op with | .extract x j=>i == j && dR x ix | _=>false
 | .mkfn f as cs=>match op with | .makeFunc f' vs ws=>(f == f' && (match f with | .yield _=>false | _=>true)) && Ag vs.toList as && Ag ws.toList cs | _=>false
 | .mkif t ix=>match op with | .makeInterface t' x=>t == t' && dR x ix && (match P.underlying t with|some (.interface _)|none=>false | _=>true) | _=>false
 | .look kk z ok im ik=>match op with
  | .lookup t m k ok'=>ok == ok' && dR m im && dR k ik && Om P kk t && (match P.underlying t with|some (.map _ et)=>ah6 P et z | _=>false)
  | _=>false
 | .mkmap ..=>false
 | .ins ..=>false
 | .hmap=>match op with | .makeMap _ none=>true | _=>false
 | .hins kk im ik iv=>match op with
  | .insert t m k v | .mapUpdate t m k v=>dR m im && dR k ik && dR v iv && Om P kk t
  | _=>false
 | .hdel kk im ik=>match op with
  | .call c=>(match c.callee,c.args.toList,c.argTypes.toList with
   | .builtin .delete,[m,k],[t,_]=>dR m im && dR k ik && Om P kk t
   | _,_,_=>false)
  | _=>false
 | .call jf as=>match op with
  | .call c=>(match c.callee with | .value f=>dR f jf && Ag c.args.toList as | _=>false)
  | _=>false
 | .callp jf as=>match op with
  | .call c=>(match c.callee with | .value f=>dR f jf && Ag c.args.toList as | _=>false)
  | _=>false
 | .loadw n ia _=>match op with | .load t a=>dR a ia && IU P t n | _=>false
 | .loadv ia _ _=>match op with | .load t a=>dR a ia && IU P t none | _=>false
 | .callh _ jf as _=>match op with
  | .call c=>(match c.callee with | .value f=>dR f jf && Ag c.args.toList as | _=>false)
  | _=>false
 | .nilchk ix=>match op with | .nilCheck x=>dR x ix | _=>false
 | .panic ix=>match op with | .panic x=>dR x ix | _=>false
def GN (ops:Array Oper):Option (Nat×Bool)→Option (Nat×Bool)→Bool
 | none,none=>true
 | some (j,want),some (k,want')=>want == want' && ((ops[j]?).bind (·.dst)) == some k
 | _,_=>false
structure Wd where
 n:Nat
 lo:Nat
 pn:List (Nat×Nat)
 dd:List Deferred
def Wd.std (n:Nat):Wd:=⟨n,0,[],[]⟩
@[simp] theorem Wd.std_n (n:Nat):(Wd.std n).n=n:=rfl
@[simp] theorem Wd.std_lo (n:Nat):(Wd.std n).lo=0:=rfl
@[simp] theorem Wd.std_pn (n:Nat):(Wd.std n).pn=[]:=rfl
@[simp] theorem Wd.std_dd (n:Nat):(Wd.std n).dd=[]:=rfl
def xk (P:Program) (N:Wd) (ops:Array Oper) (o:Oper) (ao:aI):Bool:=
 o.dst == ao.dst && (match o.dst with|some d=>decide (d<N.n) && decide (N.lo≤d)|none=>true) && GN ops o.guard ao.guard && aO P o.op ao.op
def mV (P:Program) (N:Wd) (ops:Array Oper):List Oper→List aI→Bool
 | [],[]=>true
 | o::r,ao::r'=>xk P N ops o ao && mV P N ops r r'
 | _,_=>false
def wS (ops:Array Oper) (i:Nat):List Nat:=
 match ops[i]? with
 | some o=>(o.after.toList.filter fun e=>Region.binds .any e).map (·.on)
 | none=>[]
def JR (acc:List (Nat×Nat)) (e:Nat):Nat:=
 match acc with
 | []=>0
 | (i,m)::r=>if i == e then m else JR r e
def SA (acc:List (Nat×Nat)):List Nat→Nat
 | []=>0
 | e::r=>(2 ^ e ||| JR acc e) ||| SA acc r
def masks (ops:Array Oper):List Nat→List (Nat×Nat)→List (Nat×Nat)
 | [],acc=>acc
 | i::r,acc=>masks ops r ((i,SA acc (wS ops i))::acc)
def QG (ops:Array Oper):List Nat→List Nat→Bool
 | [],_=>true
 | i::r,seen=>decide (i<ops.size) && !(seen.contains i) && (wS ops i).all (fun e=>seen.contains e) && QG ops r (i::seen)
def abR (aops:List aI) (ms:List (Nat×Nat)) (j i:Nat):Bool:=
 (JR ms i).testBit j || (match aops[j]?,aops[i]? with|some o,some p=>apart o p | _,_=>false)
def MQ (aops:List aI) (ms:List (Nat×Nat)):List Nat→Bool
 | []=>true
 | j::r=>r.all (abR aops ms j) && MQ aops ms r
def MR (ops:Array Oper) (aops:List aI) (π:List Nat):Bool:=
 π.length == ops.size && (List.range ops.size).all (fun i=>π.contains i) && QG ops π [] && MQ aops (masks ops π []) π
def xE (P:Program) (N:Wd):Code→bF→Bool
 | .skip,.skip=>true
 | .ret,.ret=>true
 | .exit i,.exit j=>i == j
 | .region _ ops draw,.region aops ord _=>mV P N ops ops.toList aops && (match draw,ord with
  | false,none=>true
  | true,some (π,_)=>MR ops aops π
  | _,_=>false)
 | .seq a b,.seq a' b'=>xE P N a a' && xE P N b b'
 | .cond c a b,.cond c' a' b'=>dR c c' && xE P N a a' && xE P N b b'
 | .block i b,.block j b'=>i == j && xE P N b b'
 | .loop b,.loop _ b'=>xE P N b b'
 | .rangeFunc f ps a b,.range f' ps' a' b'=>dR f f' && ps.toList == ps' && (ps.toList.all fun p=>decide (p<N.n)) && xE P (.std N.n) a a' && xE P (.std N.n) b b'
 | .label i,.label j=>i == j
 | .goto i,.goto j=>i == j
 | .scope c,.scope l _ a b=>xE P N c a && (match findLabel c l with|some r=>xE P N r b|none=>false)
 | _,_=>false
def Fj (P:Program) (g:ai) (n:Nat) (r:Loop) (env:Env) (ps:List Nat) (asg body:bF) (pend:OB):Prop:=
 r.params.toList=ps∧xE P (.std r.tmps.size) r.assign asg=true∧xE P (.std r.tmps.size) r.body body=true∧
 (∀k e,lk env k=some e→∃a,e=.v a∧Rep g n (r.tmps.getD k undef) a)∧(∀p∈ps,p<r.tmps.size)∧
 (match pend with
  | .ready=>r.state=.ready∧r.pending=none
  | .busy=>r.state=.busy
  | .ret=>r.state=.done∧r.pending=some .ret
  | .exit id=>r.state=.done∧r.pending=some (.exit id))
def agt (g:ai) (w:World) (l t sz k:Nat):Prop:=
 ∃v xs,g.hist l k=some v∧(∀k',k<k'→g.hist l k'=none)∧w.ownsRow 0 t sz v k xs∧fC xs∧(0<sz∧0<k)∧
  ∀b,dn v=some b→g.mm b=none∧(∀j,xs.length≤j→g.m b j=none)∧∀j (h:j<xs.length),g.m b j=some xs[j]
def ajI (g:ai) (n:Nat) (w:World) (l t sz ver:Nat) (cs:List AV):Prop:=
 ∃b off len cap cur,g.hist l ver=some (.slice (some ⟨b,off,none⟩) len cap)∧(∀k,ver<k→g.hist l k=none)∧nX g b∧cs.length=len * sz∧len≤cap∧cap≤maxLen∧0<sz∧
  w.heap[b]?=some (.cells cur t (0,0))∧off+cap * sz≤cur.size∧aX g n ((cur.toList.drop off).take cs.length) cs∧fC ((cur.toList.drop off).take cs.length)
def OC (P:Program) (g:ai) (n:Nat) (w:World) (l:Nat):gq→Prop
 | .cells cs=>nX g (g.L l)∧∃arr ty,w.heap[g.L l]?=some (.cells arr ty (0,0))∧aX g n arr.toList cs∧fC arr.toList
 | .loop env ps asg body pend=>nX g (g.L l)∧∃r,w.heap[g.L l]?=some (.loop r)∧Fj P g n r env ps asg body pend
 | .dfr=>nX g (g.L l)∧w.heap[g.L l]?=some (.deferred (some []))
 | .row t sz k=>agt g w l t sz k
 | .map es=>nX g (g.L l)∧∃ents clock,w.heap[g.L l]?=some (.map ents clock)∧aX g n (ents.toList.map (·.key)) (es.map (·.1))∧aX g n (ents.toList.map (·.val)) (es.map (·.2))∧Born ents clock
 | .buf t sz ver cs=>ajI g n w l t sz ver cs
 | .umap es=>nX g (g.L l)∧∃ents clock,∃ents':List MapEntry,w.heap[g.L l]?=some (.map ents clock)∧ents'.Perm ents.toList∧ents'.map (·.key)=es.map (fun p=>Value.string ⟨p.1.toArray⟩)∧aX g n (ents'.map (·.val)) (es.map (·.2))∧(es.Pairwise fun a b=>a.1<b.1)∧(∀p∈es,p.2.flat=true)∧Born ents clock
 | .dead=>True
theorem Fj.mono {P:Program} {g g':ai} {n n':Nat} (p:g.le n g' n') {r:Loop} {env:Env} {ps:List Nat} {x body:bF} {A:OB}
  (h:Fj P g n r env ps x body A):Fj P g' n' r env ps x body A:=by
 obtain ⟨h1,h2,h3,h4,h5⟩:=h
 exact ⟨h1,h2,h3,fun k e hk=>let ⟨a,ha,hr⟩:=h4 k e hk;⟨a,ha,hr.mono p⟩,h5⟩
theorem OC.next {P:Program} {g g':ai} {n n':Nat} {w w':World} {l:Nat} {o:gq} (h:OC P g n w l o) (x:g.le n g' n') (hl:l<n) (hh:g'.hist l=g.hist l)
  (hb:∀b,g.bl l b→w'.heap[b]?=w.heap[b]?∧g'.m b=g.m b∧g'.mm b=g.mm b):OC P g' n' w' l o:=by
 have hL:=x.L l hl;obtain ⟨e1,e2,e3⟩:=hb (g.L l) (.inl rfl);have I:nX g (g.L l)→nX g' (g'.L l):=fun h=>by rw [hL];exact ⟨fun o=>by rw [e2];exact h.m o,by rw [e3];exact h.mm⟩
 cases o with
 | cells cs=>obtain ⟨h0,W,ty,h1,h2,h3⟩:=h;exact ⟨I h0,W,ty,by rw [hL];exact e1.trans h1,h2.mono x,h3⟩
 | loop env ps asg body pend=>obtain ⟨h0,r,h1,h2⟩:=h;exact ⟨I h0,r,by rw [hL];exact e1.trans h1,h2.mono x⟩
 | dfr=>exact ⟨I h.1,by rw [hL];exact e1.trans h.2⟩
 | dead=>trivial
 | umap es=>obtain ⟨h0,A,p,K,h1,h2,h3,h4,h5,h6⟩:=h;exact ⟨I h0,A,p,K,by rw [hL];exact e1.trans h1,h2,h3,h4.mono x,h5,h6⟩
 | map es=>obtain ⟨h0,A,p,h1,h2,h3⟩:=h;exact ⟨I h0,A,p,by rw [hL];exact e1.trans h1,h2.mono x,h3.1.mono x,h3.2⟩
 | buf t sz ver cs=>
  obtain ⟨b,off,len,cap,J,h1,h2,h3,h4,h5,h6,h7,h8,h9,S,R⟩:=h;obtain ⟨q1,q2,q3⟩:=hb b (.inr ⟨ver,_,h1,rfl⟩);exact ⟨b,off,len,cap,J,by rw [hh];exact h1,fun k hk=>by rw [hh];exact h2 k hk,⟨fun o=>by rw [q2];exact h3.m o,by rw [q3];exact h3.mm⟩,h4,h5,h6,h7,q1.trans h8,h9,S.mono x,R⟩
 | row t sz k=>
  obtain ⟨v,xs,h1,h2,h3,h4,h5,h6⟩:=h;refine ⟨v,xs,by rw [hh];exact h1,fun k' hk=>by rw [hh];exact h2 k' hk,⟨h3.1, ?_⟩,h4,h5,fun b O=>?_⟩
  ·rcases h3.2 with hn|⟨gb,cap,J,hv,hB,hg,Q⟩
   ·exact .inl hn
   ·exact .inr ⟨gb,cap,J,hv,hB,(hb gb (.inr ⟨k,v,h1,by simp [hv,dn]⟩)).1.trans hg,Q⟩
  ·obtain ⟨_,q2,q3⟩:=hb b (.inr ⟨k,v,h1,O⟩);rw [q2,q3];exact h6 b O
structure sZ (P:Program) (g:ai) (s:St) (w:World):Prop where
 inj:∀l l' b,l<s.length→l'<s.length→g.bl l b→g.bl l' b→l=l'
 lt:∀l b,l<s.length→g.bl l b→b<w.heap.size
 obj:∀l o,s[l]?=some o→OC P g s.length w l o
theorem sZ.cells {P:Program} {g:ai} {s:St} {w:World} (h:sZ P g s w) (l:Nat) (cs:List AV) (hs:s[l]?=some (.cells cs)):
  ∃arr ty,w.heap[g.L l]?=some (.cells arr ty (0,0))∧aX g s.length arr.toList cs∧fC arr.toList:=(h.obj l _ hs).2
theorem sZ.loop {P:Program} {g:ai} {s:St} {w:World} (h:sZ P g s w) (l:Nat) (env:Env) (ps:List Nat) (p body:bF) (x:OB) (hs:s[l]?=some (.loop env ps p body x)):
  ∃r,w.heap[g.L l]?=some (.loop r)∧Fj P g s.length r env ps p body x:=(h.obj l _ hs).2
theorem sZ.dfr {P:Program} {g:ai} {s:St} {w:World} (h:sZ P g s w) (l:Nat) (hs:s[l]?=some .dfr):w.heap[g.L l]?=some (.deferred (some [])):=(h.obj l _ hs).2
theorem sZ.setAt {P:Program} {g g':ai} {s:St} {w w':World} (h:sZ P g s w) {l0:Nat} (K:l0<s.length) {o':gq} (Q:g.le s.length g' s.length)
  (hh:∀l,l<s.length→l≠l0→g'.hist l=g.hist l) (R:∀b,g'.bl l0 b→g.bl l0 b∨w.heap.size≤b) (W:∀b,g'.bl l0 b→b<w'.heap.size) (S:w.heap.size≤w'.heap.size)
  (hb:∀b,b<w.heap.size→¬g.bl l0 b→w'.heap[b]?=w.heap[b]?∧g'.m b=g.m b∧g'.mm b=g.mm b) (ho:OC P g' s.length w' l0 o'):sZ P g' (s.set l0 o') w':=by
 have x:∀l,l<s.length→l≠l0→∀b,g'.bl l b→g.bl l b:=by
  intro l hl I b p;rcases p with p | ⟨k,v,hk,hv⟩
  ·exact .inl ((Q.L l hl).symm.trans p)
  ·rw [hh l hl I] at hk;exact .inr ⟨k,v,hk,hv⟩
 have mixed:∀l b,l<s.length→l≠l0→g'.bl l b→g'.bl l0 b→False:=by
  intro l b hl I h1 h2;have J:=x l hl I b h1;rcases R b h2 with h3|h3
  ·exact I (h.inj l l0 b hl K J h3)
  ·have:=h.lt l b hl J;omega
 refine ⟨fun l l' b hl A h1 h2=>?_,fun l b hl p=>?_,fun l o hs=>?_⟩
 ·simp only [List.length_set] at hl A;by_cases e:l=l0
  ·by_cases e':l'=l0
   ·rw [e,e']
   ·subst e;exact (mixed l' b A e' h2 h1).elim
  ·by_cases e':l'=l0
   ·subst e';exact (mixed l b hl e h1 h2).elim
   ·exact h.inj l l' b hl A (x l hl e b h1) (x l' A e' b h2)
 ·simp only [List.length_set] at hl;by_cases e:l=l0
  ·subst e;exact W b p
  ·exact Nat.lt_of_lt_of_le (h.lt l b hl (x l hl e b p)) S
 ·rw [List.length_set];by_cases e:l0=l
  ·subst e;rw [List.getElem?_set_self K] at hs;cases hs;exact ho
  ·rw [List.getElem?_set_ne e] at hs;have hl:l<s.length:=(List.getElem?_eq_some_iff.1 hs).1;refine (h.obj l o hs).next Q hl (hh l hl (Ne.symm e)) (fun b p=>hb b (h.lt l b hl p) (fun O=>e (h.inj l0 l b K hl O p)))
theorem sZ.next {P:Program} {g g':ai} {s:St} {w w':World} (h:sZ P g s w) (I:g.le s.length g' s.length) (hh:∀l,l<s.length→g'.hist l=g.hist l) (J:w.heap.size≤w'.heap.size)
  (hb:∀b,g.taken s.length b→w'.heap[b]?=w.heap[b]?∧g'.m b=g.m b∧g'.mm b=g.mm b):sZ P g' s w':=by
 have x:∀l,l<s.length→∀b,g'.bl l b→g.bl l b:=by
  intro l hl b p;rcases p with p | ⟨k,v,hk,hv⟩
  ·exact .inl ((I.L l hl).symm.trans p)
  ·rw [hh l hl] at hk;exact .inr ⟨k,v,hk,hv⟩
 refine ⟨fun l l' b hl A h1 h2=>h.inj l l' b hl A (x l hl b h1) (x l' A b h2),fun l b hl p=>Nat.lt_of_lt_of_le (h.lt l b hl (x l hl b p)) J,fun l o hs=>?_⟩;have hl:l<s.length:=(List.getElem?_eq_some_iff.1 hs).1;exact (h.obj l o hs).next I hl (hh l hl) (fun b p=>hb b ⟨l,hl,p⟩)
theorem sZ.taken_lt {P:Program} {g:ai} {s:St} {w:World} (h:sZ P g s w) {b:Nat} (hb:g.taken s.length b):b<w.heap.size:=
 let ⟨l,hl,hb⟩:=hb;h.lt l b hl hb
def uM (glob:Nat→Option (List AV)) (g:ai):Prop:=∀k cs,glob k=some cs→Rep g 0 (.pointer (some ⟨k,0,none⟩)) (.ip cs)∧∃arr,g.mm k=some (.inr arr)∧arr.size=cs.length
structure Base (P:Program) (glob:Nat→Option (List AV)) (g:ai) (s:St) (w:World):Prop where
 imm:Imm g w
 heap:sZ P g s w
 glob:uM glob g
structure TD (w w':World):Prop where
 tape:w'.tape=w.tape
 drawn:w.drawn≤w'.drawn
theorem TD.trans {a b c:World} (h:TD a b) (h':TD b c):TD a c:=⟨h'.tape.trans h.tape,Nat.le_trans h.drawn h'.drawn⟩
structure Step (qt:Prop) (g:ai) (n B:Nat) (w:World) (g':ai) (n':Nat) (w':World):Prop where
 le:g.le n g' n'
 size:w.heap.size≤w'.heap.size
 keep:∀b,b<B→¬g.taken n b→w'.heap[b]?=w.heap[b]?
 m:∀b,b<B→¬g.taken n b→g'.m b=g.m b
 mm:∀b,b<B→g'.mm b=g.mm b
 new:∀b,g'.taken n' b→g.taken n b∨B≤b
 io:w'.os=w.os∧w'.output=w.output∧(qt→TD w w')
theorem Step.weak {qt:Prop} {g g':ai} {n n' B:Nat} {w w':World} (h:Step True g n B w g' n' w'):Step qt g n B w g' n' w':=
 ⟨h.le,h.size,h.keep,h.m,h.mm,h.new,h.io.1,h.io.2.1,fun _=>h.io.2.2 trivial⟩
theorem Step.refl {qt:Prop} (g:ai) (n B:Nat) (w:World):Step qt g n B w g n w:=
 ⟨.refl _ _,Nat.le_refl _,fun _ _ _=>rfl,fun _ _ _=>rfl,fun _ _=>rfl,fun b h=>.inl h,rfl,rfl,fun _=>⟨rfl,Nat.le_refl _⟩⟩
theorem Step.trans {qt:Prop} {g g' p:ai} {n n' x B:Nat} {w w' A:World} (h:Step qt g n B w g' n' w') (h':Step qt g' n' B w' p x A):Step qt g n B w p x A:=by
 have ht:∀b,b<B→¬g.taken n b→¬g'.taken n' b:=fun b hb hn ht=>by
  rcases h.new b ht with h1|h1
  ·exact hn h1
  ·omega
 refine ⟨h.le.trans h'.le,Nat.le_trans h.size h'.size,fun b hb hn=>(h'.keep b hb (ht b hb hn)).trans (h.keep b hb hn),fun b hb hn=>(h'.m b hb (ht b hb hn)).trans (h.m b hb hn),
  fun b hb=>(h'.mm b hb).trans (h.mm b hb),fun b hb=>?_,h'.io.1.trans h.io.1,h'.io.2.1.trans h.io.2.1,fun hq=>(h.io.2.2 hq).trans (h'.io.2.2 hq)⟩
 rcases h'.new b hb with h1|h1
 ·exact h.new b h1
 ·exact .inr h1
theorem Py (g:ai) (n:Nat) (v:Value) (a:AV) (h:QF v a=true):Rep g n v a:=by
 unfold QF at h
 split at h
 ·exact .u v
 ·simp at h;obtain ⟨rfl,rfl⟩:=h;exact .i _ _
 ·simp at h;subst h;exact .b _
 ·rename_i s;obtain ⟨d⟩:=s;simp at h;subst h;exact Rep.s (g:=g) (n:=n) d.toList
 ·exact .np
 ·exact .nm
 ·exact .ns
 ·exact .slNil
 ·exact .nf
 ·exact .ni
 ·simp at h;subst h;exact .tu _ _ rfl (fun i hi=>by simp at hi)
 ·simp at h;obtain ⟨⟨⟨rfl,rfl⟩,rfl⟩,_⟩:=h;exact .fn _ _ _ _ _ rfl rfl (fun i hi=>by simp at hi) (fun i hi=>by simp at hi)
 ·cases h
theorem AP (g:ai) (n:Nat):∀(vs:List Value) (as:List AV),vw vs as=true→aX g n vs as
 | [],[],_=>.nil g n
 | [],_::_,h=>by simp [vw] at h
 | _::_,[],h=>by simp [vw] at h
 | v::vs,a::as,h=>by
   simp [vw] at h;exact .cons (Py g n v a h.1) (AP g n vs as h.2)
theorem KX {g:ai} {n:Nat} {vs:Array Value} {as:List AV} (h:aX g n vs.toList as) (h1:fC vs.toList):Rep g n (.agg vs) (.ag as):=
 .ag vs as (by simpa using h.1) (fun i hi=>h1 _ (by simp)) (fun i hi p=>by have:=h.2 i (by simpa using hi) p;rwa [Array.getElem_toList] at this)
theorem TP (g:ai) (n:Nat) (v:Value) (a:AV) (h:Xo v a=true):Rep g n v a:=by
 unfold Xo at h
 split at h
 ·simp only [Bool.and_eq_true] at h;exact KX (AP g n _ _ h.2) (fun x hx=>List.all_eq_true.1 h.1 x hx)
 ·exact Py g n v a h
section
variable {P:Program} {glob:Nat→Option (List AV)} {g:ai} {n B:Nat} {w:World} {env:Env} {a:Act}
def Act.tm (a:Act) (k:Nat):Value:=a.tmps.getD k undef
theorem ZU (hg:uM glob g) {k:Nat} {cs:List AV} (h:glob k=some cs):Rep g n (.pointer (some ⟨k,0,none⟩)) (.ip cs):=
 (hg k cs h).1.mono ⟨fun _ _ _ h=>h,fun _ _ h=>h,fun l h=>absurd h (Nat.not_lt_zero l),fun l h=>absurd h (Nat.not_lt_zero l),Nat.zero_le n⟩
theorem iQ {x:Operand} {ix:IX} (hc:dR x ix=true) (hg:uM glob g) {e:EV} (h:ev glob env ix=some e):
  (∃k,ix=.t k∧lk env k=some e∧a.eval x=Act.tm a k)∨(∃v,e=.v v∧Rep g n (a.eval x) v∧∀k,ix≠.t k):=by
 unfold dR at hc
 split at hc
 ·simp at hc;subst hc;exact .inl ⟨_,rfl,h,rfl⟩
 ·simp [ev] at h;subst h;exact .inr ⟨_,rfl,TP g n _ _ hc,by simp⟩
 ·simp at hc;subst hc;simp [ev] at h;obtain ⟨cs,p,rfl⟩:=h;exact .inr ⟨_,rfl,ZU hg p,by simp⟩
 ·simp at hc;subst hc;simp [ev] at h;subst h;exact .inr ⟨_,rfl,.fn _ _ _ _ _ rfl rfl (fun i hi=>by simp at hi) (fun i hi=>by simp at hi),by simp⟩
 ·cases hc
theorem oh {x:Operand} {ix:IX} (hc:dR x ix=true) (he:iT g n B w (Act.tm a) env) (hg:uM glob g) {v:AV} (h:ev glob env ix=some (.v v)):Rep g n (a.eval x) v:=by
 rcases iQ hc hg h with ⟨k,_,hk,hx⟩|⟨v',p,hr,_⟩
 ·rw [hx];exact he.rel k _ hk
 ·cases p;exact hr
theorem aK {x:Operand} {ix:IX} (hc:dR x ix=true) (he:iT g n B w (Act.tm a) env) (hg:uM glob g) {v:AV} (h:rd glob env ix=some v):Rep g n (a.eval x) v:=by
 unfold rd at h
 split at h
 ·rename_i x1 hu;cases h;rcases iQ hc hg hu with ⟨k,_,hk,hx⟩|⟨v',p,hr,_⟩
  ·rw [hx];exact Rep.plain (he.rel k _ hk)
  ·cases p;exact hr.plain
 ·cases h
end
end Go.Ai
namespace Go.Ai
structure Sim (P:Program) (glob:Nat→Option (List AV)) (g:ai) (s:St) (B:Nat) (w:World) (tm:Nat→Value) (env:Env):Prop where
 base:Base P glob g s w
 env:iT g s.length B w tm env
 B:B≤w.heap.size
structure New (g:ai) (n B:Nat) (w:World) (tm:Nat→Value) (env:Env) (e:EV) (v:Value):Prop where
 rel:∀d,e.refers d=false→vZ g n B w (upd tm d v) d e
 refs:∀j,e.refers j=true→∃o,lk env j=some o∧o.owns=true
 own:e.owns=true→∀b,dn v=some b→(∀k e',lk env k=some e'→e'.owns=true→dn (tm k)≠some b)∧¬g.taken n b
theorem New.v {g:ai} {n B:Nat} {w:World} {tm:Nat→Value} {env:Env} {a:AV} {v:Value} (h:Rep g n v a):New g n B w tm env (.v a) v:=
 ⟨fun d _=>by simpa [vZ,upd_same] using h,fun j hj=>by simp [EV.refers] at hj,fun ho=>by simp [EV.owns] at ho⟩
theorem Sim.put {P:Program} {glob:Nat→Option (List AV)} {g:ai} {s:St} {B:Nat} {w:World} {tm:Nat→Value} {env:Env} (h:Sim P glob g s B w tm env) {e:EV} {v:Value}
  (hn:New g s.length B w tm env e v) (d:Nat) (hd:e.refers d=false):Sim P glob g s B w (upd tm d v) (Ai.put env d e):=
 ⟨h.base,h.env.put d v e (hn.rel d hd) (fun j hj=>⟨fun p=>by subst p;simp [hd] at hj,hn.refs j hj⟩)
  (fun ho b hb=>⟨fun k e' hk x _=>(hn.own ho b hb).1 k e' hk x,(hn.own ho b hb).2⟩),h.B⟩
theorem uM.mono {glob:Nat→Option (List AV)} {g g':ai} {n n':Nat} (p:g.le n g' n') (h:uM glob g):uM glob g':=
 fun k cs hk=>⟨(h k cs hk).1.mono ⟨p.m,p.mm,fun l hl=>absurd hl (Nat.not_lt_zero l),fun l hl=>absurd hl (Nat.not_lt_zero l),Nat.le_refl 0⟩,let ⟨arr,h1,h2⟩:=(h k cs hk).2;⟨arr,p.mm _ _ h1,h2⟩⟩
theorem Base.fix {P:Program} {glob:Nat→Option (List AV)} {g g':ai} {s:St} {w:World} (h:Base P glob g s w) (p:g.le s.length g' s.length) (x:Imm g' w) (hh:g'.hist=g.hist)
  (hf:∀b,g.taken s.length b→g'.m b=g.m b∧g'.mm b=g.mm b):Base P glob g' s w:=
 ⟨x,h.heap.next p (fun l _=>by rw [hh]) (Nat.le_refl _) (fun b hb=>⟨rfl,hf b hb⟩),h.glob.mono p⟩
def ai.claim (g:ai) (b:Nat) (xs:List Value):ai:={ g with m:=fun b' j=>if b'=b∧j<xs.length then xs[j]? else g.m b' j }
theorem flat_get {es:List AV} {sz:Nat} (h:∀a∈es,a.cells.length=sz):∀i (hi:i<es.length) j,j<sz→(es.flatMap AV.cells)[i * sz+j]?=(AV.cells es[i])[j]?:=by
 induction es with
 | nil=>intro i hi;simp at hi
 | cons e es ih=>
  intro i hi j hj;have he:e.cells.length=sz:=h e (by simp)
  cases i with
  | zero=>simp only [List.flatMap_cons,Nat.zero_mul,Nat.zero_add,List.getElem_cons_zero];rw [List.getElem?_append_left (by omega)]
  | succ i=>
   simp only [List.flatMap_cons,List.getElem_cons_succ];rw [List.getElem?_append_right (by rw [he,Nat.succ_mul];omega)];rw [show (i+1) * sz+j - e.cells.length=i * sz+j by rw [he,Nat.succ_mul];omega];exact ih (fun a ha=>h a (by simp [ha])) i (by simpa using hi) j hj
theorem yu {es:List AV} {sz:Nat} (h:∀a∈es,a.cells.length=sz):(es.flatMap AV.cells).length=es.length * sz:=by
 induction es with
 | nil=>simp
 | cons e es ih=>
  simp only [List.flatMap_cons,List.length_append,List.length_cons,ih (fun a ha=>h a (by simp [ha])),h e (by simp),Nat.succ_mul];omega
theorem afg {i len sz j:Nat} (hi:i<len) (hj:j<sz):i * sz+j<len * sz:=by
 have:(i+1) * sz≤len * sz:=Nat.mul_le_mul_right sz hi
 rw [Nat.succ_mul] at this;omega
theorem F9 {g:ai} {n:Nat} {b off cap sz:Nat} {es:List AV} {xs:List Value} (hc:es.length≤cap) (A:∀a∈es,a.cells.length=sz)
  (hx:aX g n xs (es.flatMap AV.cells)) (h1:fC xs) (hm:∀j (h:j<xs.length),g.m b (off+j)=some xs[j]):Rep g n (.slice (some ⟨b,off,none⟩) es.length cap) (.sl es):=by
 have hl:xs.length=es.length * sz:=by rw [hx.1,yu A]
 refine .sl b off cap sz es (fun i j=>xs.getD (i * sz+j) undef) hc (fun i hi=>A _ (List.getElem_mem hi)) (fun i j hi hj=>?_) (fun i hi j hj=>?_)
 ·have p:i * sz+j<xs.length:=by rw [hl];exact afg hi hj
  have e:xs.getD (i * sz+j) undef=xs[i * sz+j]:=by simp [List.getD,p]
  rw [e,Nat.add_assoc];exact ⟨hm _ p,h1 _ (List.getElem_mem p)⟩
 ·have I:j<sz:=by rw [A _ (List.getElem_mem hi)] at hj;exact hj
  have p:i * sz+j<xs.length:=by rw [hl];exact afg hi I
  have x:i * sz+j<(es.flatMap AV.cells).length:=by rw [←hx.1];exact p
  have e:xs.getD (i * sz+j) undef=xs[i * sz+j]:=by simp [List.getD,p]
  have e2:(es.flatMap AV.cells)[i * sz+j]=(AV.cells es[i])[j]:=by
   have:=flat_get A i hi j I
   rw [List.getElem?_eq_getElem x,List.getElem?_eq_getElem hj] at this;exact Option.some.inj this
  rw [e,←e2];exact hx.2 _ p x
variable {P:Program} {glob:Nat→Option (List AV)} {g:ai} {s:St} {B:Nat} {w:World} {tm:Nat→Value} {env:Env}
theorem Ig (h:Sim P glob g s B w tm env) {k:Nat} {tip:Bool} {t sz:Nat} {es:List AV} (hk:lk env k=some (.own tip t sz es)):
  ∃g',Step True g s.length B w g' s.length w∧Sim P glob g' s B w tm ((k,.own true t sz es)::env)∧Rep g' s.length (tm k) (.sl es):=by
 obtain ⟨xs,h1,h2,h3,h4,h5,h6⟩:=h.env.rel k _ hk;rcases h1.2 with ⟨hv,hn⟩|⟨gb,cap,W,hv,hB,hg,J,a1,Q,O⟩
 ·have Z:es=[]:=List.eq_nil_of_length_eq_zero hn;subst Z;refine ⟨g,.refl _ _ _ _,⟨h.base,h.env.turn k _ _ hk rfl ⟨xs,h1.up,h2,h3,h4,h5,fun b hb=>?_⟩ rfl,h.B⟩, ?_⟩
  ·rw [hv] at hb;simp [dn] at hb
  ·rw [hv];exact .slNil
 ·have A:dn (tm k)=some gb:=by rw [hv];rfl
  obtain ⟨q1,q2,q3⟩:=h6 gb A;have a2:xs.length≤W.size:=by rw [h1.1,Q];exact Nat.mul_le_mul_right sz J
  have I:g.le s.length (g.claim gb xs) s.length:=by
   refine ⟨fun b o v hm=>?_,fun _ _ h=>h,fun _ _=>rfl,fun _ _ _ _ h=>h,Nat.le_refl _⟩;unfold ai.claim;dsimp only;split
   ·rename_i hc;obtain ⟨rfl,ho⟩:=hc;rw [q3 o ho] at hm
    split at hm
    ·rw [List.getElem?_eq_getElem ho];exact hm
    ·cases hm
   ·exact hm
  have R:∀j (hj:j<xs.length),(g.claim gb xs).m gb j=some xs[j]:=by
   intro j hj;simp [ai.claim,hj]
  have a0:Imm (g.claim gb xs) w:=by
   refine ⟨fun b o v hm=>?_,h.base.imm.mm⟩;unfold ai.claim at hm;dsimp only at hm
   split at hm
   ·rename_i hc;obtain ⟨rfl,ho⟩:=hc;rw [hg.cell o];rw [←O,List.getElem?_take] at hm
    split at hm
    ·simpa using hm
    ·cases hm
   ·exact h.base.imm.m b o v hm
  have p:∀b,b≠gb→(g.claim gb xs).m b=g.m b:=by
   intro b hb;funext j;simp [ai.claim,hb]
  refine ⟨g.claim gb xs,⟨I,Nat.le_refl _,fun _ _ _=>rfl,fun b hb _=>p b (by omega),fun _ _=>rfl,fun b hb=>.inl hb,rfl,rfl,fun _=>⟨rfl,Nat.le_refl _⟩⟩,
   ⟨h.base.fix I a0 rfl (fun b hb=>⟨p b (fun K=>?_),rfl⟩), ?_,h.B⟩, ?_⟩
  ·subst K;exact h.env.off k _ hk rfl b A hb
  ·refine h.env.turnNext k _ _ hk rfl rfl I ⟨xs,h1.up,h2.mono I,h3,h4,h5,fun b hb=>?_⟩ (fun k' x S hx Y b hb=>?_) (fun k' x S hx b hb ht=>ht)
   ·rw [A] at hb;cases hb;refine ⟨q1,fun j hj=>?_,fun j hj=>by simpa using R j hj⟩
    have:¬j<xs.length:=by omega
    simp only [ai.claim,this,and_false,if_false];exact q2 j hj
   ·refine ⟨rfl,p b (fun K=>?_),rfl⟩;subst K;exact h.env.apart k' k x _ S hk hx rfl Y b hb A
  ·rw [hv];exact F9 J h4 (h2.mono I) h3 (fun j hj=>by simpa using R j hj)
def ai.claimM (g:ai) (b:Nat) (es:List (Value×Value)):ai:={ g with mm:=fun b'=>if b'=b then some (.inl es) else g.mm b' }
theorem adZ (tm:Nat→Value) (k:Nat):upd tm k (tm k)=tm:=by
 funext j;unfold upd;split
 ·rename_i h;rw [h]
 ·rfl
theorem iT.setV {g:ai} {n B:Nat} {w:World} {tm:Nat→Value} {env:Env} {k:Nat} {a:AV} (h:iT g n B w tm ((k,.v .u)::env)) (hr:Rep g n (tm k) a):
  iT g n B w tm ((k,.v a)::(k,.v .u)::env):=by
 have:=h.aer k (tm k) a hr
 rw [adZ] at this
 simpa [Ai.put,lk,EV.owns] using this
theorem Zc (h:Sim P glob g s B w tm env) {k:Nat} {es:List (AV×AV)} (hk:lk env k=some (.om es)):
  ∃g',Step True g s.length B w g' s.length w∧Sim P glob g' s B w tm ((k,.v (.im es))::(k,.v .u)::tC env k)∧Rep g' s.length (tm k) (.im es):=by
 obtain ⟨b,J,O,h1,h2,h3,h4,h5,h6,Y⟩:=h.env.rel k _ hk;have K:dn (tm k)=some b:=by rw [h1];rfl
 let vs:=J.toList.map fun e=>(e.key,e.val)
 have A:g.le s.length (g.claimM b vs) s.length:=by
  refine ⟨fun _ _ _ h=>h,fun b' S hm=>?_,fun _ _=>rfl,fun _ _ _ _ h=>h,Nat.le_refl _⟩;unfold ai.claimM;dsimp only;split
  ·rename_i hb;subst hb;rw [h5.mm] at hm;cases hm
  ·exact hm
 have p:∀b',b'≠b→(g.claimM b vs).mm b'=g.mm b':=fun b' hb=>by simp [ai.claimM,hb]
 have a0:Imm (g.claimM b vs) w:=by
  refine ⟨h.base.imm.m,fun b' S hm=>?_⟩;unfold ai.claimM at hm;dsimp only at hm
  split at hm
  ·rename_i hb;subst hb;cases hm;exact ⟨J,O,h2,rfl,Y⟩
  ·exact h.base.imm.mm b' S hm
 have hl:vs.length=es.length:=by have:=h3.1;simpa [vs] using this
 have I:Rep (g.claimM b vs) s.length (tm k) (.im es):=by
  rw [h1];refine .im b es vs (by simp [ai.claimM]) hl (fun i hi R=>?_) (fun i hi R=>?_)
  ·have:=(h3.mono A).2 i (by simpa [vs] using hi) (by simpa using R)
   simpa [vs] using this
  ·have:=(h4.mono A).2 i (by simpa [vs] using hi) (by simpa using R)
   simpa [vs] using this
 refine ⟨g.claimM b vs,⟨A,Nat.le_refl _,fun _ _ _=>rfl,fun _ _ _=>rfl,fun b' hb=>p b' (by omega),fun b hb=>.inl hb,rfl,rfl,fun _=>⟨rfl,Nat.le_refl _⟩⟩,
  ⟨h.base.fix A a0 rfl (fun b' hb=>⟨rfl,p b' (fun Q=>?_)⟩), ?_,h.B⟩,I⟩
 ·subst Q;exact h.env.off k _ hk rfl b' K hb
 ·refine iT.setV (h.env.dropNext k A (fun k' x Z hx W b' hb=>⟨rfl,rfl,p b' (fun Q=>?_),fun ht=>ht⟩)) I;subst Q;exact h.env.apart k' k x _ Z hk hx rfl W b' hb K
variable {a:Act}
theorem pq {x:Operand} {ix:IX} (hc:dR x ix=true) (h:Sim P glob g s B w (Act.tm a) env) {v:AV} {I:Env} (he:esc glob env ix=some (v,I)):
  ∃g',Step True g s.length B w g' s.length w∧Sim P glob g' s B w (Act.tm a) I∧Rep g' s.length (a.eval x) v:=by
 unfold esc at he
 split at he
 ·rename_i v' hv;cases he;refine ⟨g,.refl _ _ _ _,h, ?_⟩;exact aK hc h.env h.base.glob (by simp [rd,hv])
 ·rename_i j hv
  split at he
  ·rename_i tip t sz es hj;cases he;obtain ⟨g',h1,h2,h3⟩:=Ig h hj;refine ⟨g',h1,h2, ?_⟩;rcases iQ (n:=s.length) hc h.base.glob hv with ⟨k,_,hk,hx⟩|⟨v',p,_,_⟩
   ·have:Act.tm a k=Act.tm a j:=h.env.rel k _ hk
    rw [hx,this];exact h3
   ·cases p
  ·cases he
 ·rename_i tip t sz es hv
  split at he
  ·rename_i k;cases he;rcases iQ (n:=s.length) hc h.base.glob hv with ⟨k',A,hk,hx⟩|⟨v',p,_,_⟩
   ·cases A;obtain ⟨g',h1,h2,h3⟩:=Ig h hk;exact ⟨g',h1,h2,by rw [hx];exact h3⟩
   ·cases p
  ·cases he
 ·rename_i es hv
  split at he
  ·rename_i k;cases he;rcases iQ (n:=s.length) hc h.base.glob hv with ⟨k',A,hk,hx⟩|⟨v',p,_,_⟩
   ·cases A;obtain ⟨g',h1,h2,h3⟩:=Zc h hk;exact ⟨g',h1,h2,by rw [hx];exact h3⟩
   ·cases p
  ·cases he
 ·cases he
theorem Ku {x:Operand} {ix:IX} (hc:dR x ix=true) (h:Sim P glob g s B w (Act.tm a) env) {v:AV} {p:Env} (he:MK glob env ix=some (v,p)):
  ∃g',Step True g s.length B w g' s.length w∧Sim P glob g' s B w (Act.tm a) p∧Rep g' s.length (a.eval x) v:=by
 unfold MK at he
 split at he
 ·rename_i v' hv;cases he;exact ⟨g,.refl _ _ _ _,h,oh hc h.env h.base.glob hv⟩
 ·exact pq hc h he
theorem xB {xs:List Operand} {p:List IX} (hc:Ag xs p=true):∀{g:ai} {env:Env},Sim P glob g s B w (Act.tm a) env→∀{vs:List AV} {A:Env},zW glob env p=some (vs,A)→
  ∃g',Step True g s.length B w g' s.length w∧Sim P glob g' s B w (Act.tm a) A∧aX g' s.length (xs.map a.eval) vs:=by
 induction xs generalizing p with
 | nil=>
  intro g env h vs A he
  cases p with
  | nil=>simp [zW] at he;obtain ⟨rfl,rfl⟩:=he;exact ⟨g,.refl _ _ _ _,h,.nil _ _⟩
  | cons y ys=>simp [Ag] at hc
 | cons x xs ih=>
  intro g env h vs A he
  cases p with
  | nil=>simp [Ag] at hc
  | cons y ys=>
   simp only [Ag,Bool.and_eq_true] at hc;unfold zW at he
   split at he
   ·cases he
   ·rename_i v env1 hv
    split at he
    ·cases he
    ·rename_i J env2 I;cases he;obtain ⟨g1,s1,h1,r1⟩:=pq hc.1 h hv;obtain ⟨g2,s2,h2,r2⟩:=ih hc.2 h1 I;exact ⟨g2,s1.trans s2,h2,.cons (r1.mono s2.le) r2⟩
end Go.Ai
namespace Go.Ai
def qm (w:World) (b o:Nat) (us:List Value):Prop:=∀j (h:j<us.length),w.cell? ⟨b,o+j,none⟩=some us[j]
theorem qm.drop {w:World} {b o:Nat} {us:List Value} (h:qm w b o us) (k:Nat):qm w b (o+k) (us.drop k):=by
 intro j hj;simp only [List.length_drop] at hj;rw [List.getElem_drop,Nat.add_assoc];exact h (k+j) (by omega)
theorem qm.take {w:World} {b o:Nat} {us:List Value} (h:qm w b o us) (k:Nat):qm w b o (us.take k):=by
 intro j hj;simp only [List.length_take] at hj;rw [List.getElem_take];exact h j (by omega)
theorem fC.drop {us:List Value} (h:fC us) (k:Nat):fC (us.drop k):=fun v hv=>h v (List.mem_of_mem_drop hv)
theorem fC.take {us:List Value} (h:fC us) (k:Nat):fC (us.take k):=fun v hv=>h v (List.mem_of_mem_take hv)
theorem rU {w:World} {b:Nat} {p:Array Value} {ty:TypeId} {fr:Nat×Nat} (h:w.heap[b]?=some (.cells p ty fr)):qm w b 0 p.toList:=by
 intro j hj;rw [Nat.zero_add,cell_of_row w b j p ty fr h];simp at hj;simp [hj]
variable {P:Program} {glob:Nat→Option (List AV)} {g:ai} {s:St} {B:Nat} {w:World} {env:Env} {a:Act}
theorem VW {t:TypeId} (h:IU P t none=true) (w:World):(isAgg t).run P w=.ok false w:=by
 simp only [IU,beq_iff_eq] at h;unfold ab2 at h
 cases hd:P.underlying t with
 | none=>simp [hd] at h
 | some d=>
  unfold isAgg;rw [Sem.run_bind,run_underlying hd w]
  cases d<;>simp_all
theorem pI {t:TypeId} {n:Nat} (h:qx P t n=true):∃i,P.info? t=some i∧i.size=n:=by
 unfold qx at h
 cases hi:P.info? t with
 | none=>simp [hi] at h
 | some i=>simp [hi] at h;exact ⟨i,rfl,h⟩
theorem run_sizeOf {t:TypeId} {n:Nat} (h:qx P t n=true) (w:World):(sizeOf t).run P w=.ok n w:=by
 obtain ⟨i,hi,rfl⟩:=pI h;simp [sizeOf,typeInfo,hi]
theorem Ih {t:TypeId} {n:Nat} (h:IU P t (some n)=true) (w:World):(isAgg t).run P w=.ok true w∧(sizeOf t).run P w=.ok n w:=by
 simp only [IU,Bool.and_eq_true] at h;refine ⟨?_,run_sizeOf h.2 w⟩;have h1:=h.1;unfold ab2 at h1
 split at h1<;>simp at h1
 all_goals
  rename_i hd;unfold isAgg;rw [Sem.run_bind,run_underlying hd w];simp
theorem Ri {t:TypeId} (h:IU P t none=true) {b o:Nat} {u:Value} (hc:w.cell? ⟨b,o,none⟩=some u):
  (Instr.loadAt t (.pointer (some ⟨b,o,none⟩))).run P w=.ok u w:=by
 simp [Instr.loadAt,Instr.sureAddr,loadVar,Sem.run_bind,VW h w,hc]
theorem Rj {t:TypeId} {n:Nat} (h:IU P t (some n)=true) {b o:Nat} {us:List Value} (hl:us.length=n) (hc:qm w b o us):
  (Instr.loadAt t (.pointer (some ⟨b,o,none⟩))).run P w=.ok (.agg us.toArray) w:=by
 have hr:(loadCells ⟨b,o,none⟩ n).run P w=.ok us.toArray w:=by
  rw [←hl]
  exact run_loadCells_list (P:=P) w ⟨b,o,none⟩ us (fun j v hv=>by
   rw [Addr.add_lit];obtain ⟨hj,rfl⟩:=List.getElem?_eq_some_iff.1 hv
   exact hc j hj)
 simp [Instr.loadAt,Instr.sureAddr,loadVar,Sem.run_bind,(Ih h w).1,(Ih h w).2,hr]
theorem DJ {t:TypeId} {n:Option Nat} (h:IU P t n=true) {b o off:Nat} {us:List Value} {cs:List AV} {N:Nat} {v:AV} (hc:qm w b o us) (hr:aX g N us cs) (h1:fC us)
  (hp:part cs off n=some v):∃u,(Instr.loadAt t (.pointer (some ⟨b,o+off,none⟩))).run P w=.ok u w∧Rep g N u v:=by
 cases n with
 | none=>
  simp only [part] at hp;obtain ⟨x,rfl⟩:=List.getElem?_eq_some_iff.1 hp;have p:off<us.length:=by rw [hr.1];exact x
  exact ⟨us[off],Ri h (hc off p),hr.2 off p x⟩
 | some n=>
  simp only [part] at hp
  split at hp
  ·rename_i A;cases hp;have hl:((us.drop off).take n).length=n:=by simp [hr.1];omega
   refine ⟨.agg ((us.drop off).take n).toArray,Rj h hl ((hc.drop off).take n),KX ?_ ?_⟩
   ·simpa using (hr.drop off).take n
   ·simpa using (h1.drop off).take n
  ·cases hp
theorem aez {k:Nat} {tip:Bool} {t sz:Nat} {es:List AV} {tm:Nat→Value} (h:iT g s.length B w tm env) (hk:lk env k=some (.own tip t sz es)) {b len cap:Nat}
  (hv:tm k=.slice (some ⟨b,0,none⟩) len cap) {i:Nat} {e:AV} (he:es[i]?=some e):
  ∃us,qm w b (i * sz) us∧aX g s.length us e.cells∧fC us:=by
 obtain ⟨xs,h1,h2,h3,h4,h5,_⟩:=h.rel k _ hk;obtain ⟨hi,rfl⟩:=List.getElem?_eq_some_iff.1 he;rcases h1.2 with ⟨hn,_⟩|⟨gb,P,Q,x,_,hg,O,_,K,p⟩
 ·rw [hv] at hn;cases hn
 ·rw [hv] at x;simp only [Value.slice.injEq,Option.some.injEq,Addr.mk.injEq] at x;obtain ⟨⟨rfl,_⟩,_,rfl⟩:=x;have I:xs.length=es.length * sz:=h1.1
  have R:i * sz+sz≤xs.length:=by
   rw [I]
   have:=Nat.mul_le_mul_right sz (show i+1≤es.length from hi)
   rw [Nat.succ_mul] at this;exact this
  have A:qm w b 0 xs:=by
   rw [←p];exact (rU hg.choose_spec.1).take _
  refine ⟨(xs.drop (i * sz)).take sz, ?_, ?_,(h3.drop _).take _⟩
  ·simpa using (A.drop (i * sz)).take sz
  ·have J:(AV.cells es[i]).length=sz:=h4 _ (List.getElem_mem hi)
   have e2:((es.flatMap AV.cells).drop (i * sz)).take sz=AV.cells es[i]:=by
    apply List.ext_getElem?;intro j;by_cases hj:j<sz
    ·rw [List.getElem?_take_of_lt hj,List.getElem?_drop];exact flat_get h4 i hi j hj
    ·rw [List.getElem?_eq_none (by simp;omega),List.getElem?_eq_none (by rw [J];omega)]
   rw [←e2];exact (h2.drop _).take _
theorem OZ {t:TypeId} {n:Option Nat} (hn:IU P t n=true) {x:Operand} {ix:IX} (hc:dR x ix=true) (h:Sim P glob g s B w (Act.tm a) env) {v:AV} (hl:kV glob env s n ix=some v):
  ∃u,(Instr.loadAt t (a.eval x)).run P w=.ok u w∧Rep g s.length u v:=by
 unfold kV at hl
 split at hl
 ·rename_i cs hv;rcases iQ (n:=s.length) hc h.base.glob hv with ⟨k,_,hk,hx⟩|⟨v',p,_,_⟩
  ·obtain ⟨b,K,ty,h1,h2,h3,h4,_⟩:=h.env.rel k _ hk;rw [hx,h1]
   simpa using DJ hn (rU h2) h3 h4 hl
  ·cases p
 ·rename_i k o hv
  split at hl
  ·rename_i cs A;rcases iQ (n:=s.length) hc h.base.glob hv with ⟨j,_,hj,hx⟩|⟨v',p,_,_⟩
   ·obtain ⟨b,h1,h2⟩:=h.env.rel j _ hj;obtain ⟨b',K,ty,q1,q2,q3,q4,_⟩:=h.env.rel k _ A;rw [h1] at q1;simp only [Value.pointer.injEq,Option.some.injEq,Addr.mk.injEq] at q1;obtain ⟨rfl,_⟩:=q1;rw [hx,h2]
    simpa using DJ hn (rU q2) q3 q4 hl
   ·cases p
  ·cases hl
 ·rename_i k sz i o hv
  split at hl
  ·rename_i tip t' sz' es A
   split at hl
   ·rename_i W;subst W
    cases he:es[i]? with
    | none=>simp [he] at hl
    | some e=>
     simp only [he,Option.bind_some] at hl;rcases iQ (n:=s.length) hc h.base.glob hv with ⟨j,_,hj,hx⟩|⟨v',p,_,_⟩
     ·obtain ⟨b,len,cap,h1,h2⟩:=h.env.rel j _ hj;obtain ⟨us,u1,u2,u3⟩:=aez h.env A h1 he;rw [hx,h2];exact DJ hn u1 u2 u3 hl
     ·cases p
   ·cases hl
  ·cases hl
 ·rename_i cs hv;have hr:=aK (a:=a) hc h.env h.base.glob (v:=.ip cs) (by simp [rd,hv]);generalize a.eval x=ax at hr
  cases hr with
  | ip b o _ c hm hrr=>
   have I:qm w b o ((List.range cs.length).map c):=by
    intro j hj;simp at hj
    simpa using h.base.imm.m b (o+j) _ (hm j hj).1
   have Q:aX g s.length ((List.range cs.length).map c) cs:=⟨by simp,fun i hi Y=>by simpa using hrr i Y⟩
   have h1:fC ((List.range cs.length).map c):=by
    intro v hv;simp at hv;obtain ⟨j,hj,rfl⟩:=hv;exact (hm j hj).2
   simpa using DJ hn I Q h1 hl
 ·rename_i l o hv;have hr:=aK (a:=a) hc h.env h.base.glob (v:=.pt l o) (by simp [rd,hv]);generalize a.eval x=ax at hr
  cases hr with
  | pt _ _ hlt=>
   split at hl
   ·rename_i cs hs;obtain ⟨K,ty,q1,q2,q3⟩:=h.base.heap.cells l cs hs
    simpa using DJ hn (rU q1) q2 q3 hl
   ·cases hl
 ·rename_i l ver o hv;have hr:=aK (a:=a) hc h.env h.base.glob (v:=.sp l ver o) (by simp [rd,hv]);generalize a.eval x=ax at hr
  split at hl
  ·rename_i t2 a0 Z cs hs
   split at hl
   ·rename_i J;subst J;obtain ⟨b,off,len,cap,O,h1,h2,h3,h4,h5,h6,h7,h8,h9,S,R⟩:=h.base.heap.obj l _ hs
    cases hr with
    | sp _ _ _ b' off' len' cap' hlt hh=>
     rw [h1] at hh;cases hh
     have I:qm w b off ((O.toList.drop off).take cs.length):=by
      have:=((rU h8).drop off).take cs.length
      simpa using this
     exact DJ hn I S R hl
   ·cases hl
  ·cases hl
 ·cases hl
end Go.Ai
