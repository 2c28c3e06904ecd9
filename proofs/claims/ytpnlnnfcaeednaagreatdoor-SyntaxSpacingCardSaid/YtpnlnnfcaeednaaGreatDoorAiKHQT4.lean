/-
 The order of trees, in the program that comparisons run in: written by program out of KH.
-/
import Derived.Test.YtpnlnnfcaeednaaGreatDoorAiKGKH
import Derived.Test.YtpnlnnfcaeednaaGreatDoorAiT1T2T3
import Derived.Sort.AssemblyPlain
set_option maxRecDepth 100000
set_option linter.unusedSimpArgs false
set_option linter.unusedVariables false
set_option linter.unusedSectionVars false
namespace Go.Ai.Z
open Go.Lib (compareBytes)
@[simp] theorem ab2 (a:Int) (s:St) (cx:Ctx):ah Pq (.fn (.func lJ) [] []) [.i .i64 a] s cx=.ret (.b false) s:=by
 refine J8 (by simp) ?_
 simp [af,oK]
@[simp] theorem ZW (a b:Int) (s:St) (cx:Ctx):ah Pq (.fn (.func iG) [] []) [.i .i64 a,.i .i64 b] s cx=.ret (.i .i64 (yL a b)) s:=by
 refine Hz (by simp) ?_
 unfold yL
 by_cases h1:a<b
 ·simp [af,gX,h1]
 ·by_cases h2:b<a
  ·simp [af,gX,h1,h2]
  ·simp [af,gX,h1,h2]
theorem Uh (l:List Int) (hl:l.length≤100000) (s:St) (cx:Ctx):∀(rest:List Int) (i:Nat),l.drop i=rest→
  ∃j:Int,eX (aC Pq.glob (ah Pq) cx false jD) [3,6,7,8] [(3,.v (.i .i64 0)),(6,.v (.sl (l.map (AV.i .i64)))),(7,.v (.i .i64 l.length)),(8,.v (.i .i64 i))] s=
   if orI rest=0 then .exit 0 [(3,.v (.i .i64 0)),(6,.v (.sl (l.map (AV.i .i64)))),(7,.v (.i .i64 l.length)),(8,.v (.i .i64 j)),(9,.v (.b false))] s
   else .ret [(2,.v (.i .i64 (orI rest)))] s
 | [],i,h=>by
  have h1:¬i<l.length:=Nat.not_lt.2 (drop_nil h)
  refine ⟨i,ak fun K hK=>?_⟩
  simp [jD,h1,orI]
 | p::r,i,h=>by
  obtain ⟨h1,h2,h3,h4⟩:=drop_cons h
  have h5:=h4 h3
  have hwi:=wI (i:=i) (by omega)
  obtain ⟨j,ih⟩:=Uh l hl s cx r (i+1) h2
  refine ⟨j,ak fun K hK=>?_⟩
  rw [←hK] at ih
  clear hK h4
  simp at ih
  by_cases hp:p=0
  ·simp [jD,h3,h5,hwi,ih,orI,hp]
  ·simp [jD,h3,h5,hwi,orI,hp]
theorem Ve (l:List Int) (hl:l.length≤100000) (s:St) (cx:Ctx):ah Pq (.fn (.func sV) [] []) [.sl (l.map (AV.i .i64))] s cx=.ret (.i .i64 (orI l)) s:=by
 refine Rh (by simp) ?_
 obtain ⟨j,h⟩:=Uh l hl s ⟨s.length,s.length⟩ l 0 rfl
 simp at h
 by_cases h0:orI l=0
 ·simp [h0] at h
  simp [af,oD,h,h0]
 ·simp [h0] at h
  simp [af,oD,h]
@[simp] theorem ZV (a b:List UInt8) (s:St) (cx:Ctx):ah Pq (.fn (.func qF) [] []) [.s a,.s b] s cx=.ret (.i .i64 (compareBytes a b)) s:=
 xX (h:=Ig y8) (A:=Pq) rfl (by simp [y8])
theorem FN (x y:List C) (hx:x.length≤100000) (hy:y.length≤100000) (s:St) (cx:Ctx)
  (ih:∀p∈x,∀q∈y,∀(s:St) (cx:Ctx),ah Pq (.fn (.func aH) [] []) [kE p,kE q] s cx=.ret (.i .i64 (kS p q)) s):∀(rest:List C) (i:Nat),x.drop i=rest→
  ∃j:Int,eX (aC Pq.glob (ah Pq) cx false au) [0,1,2,11,12,13]
   [(0,.v (slf true (x.map kE))),(1,.v (slf true (y.map kE))),(2,.v (.fn (.func aH) [] [])),(11,.v (slf true (x.map kE))),(12,.v (.i .i64 x.length)),(13,.v (.i .i64 i))] s=
   match oz rest (y.drop i) with
   | none=>.exit 0 [(0,.v (slf true (x.map kE))),(1,.v (slf true (y.map kE))),(2,.v (.fn (.func aH) [] [])),(11,.v (slf true (x.map kE))),(12,.v (.i .i64 x.length)),(13,.v (.i .i64 j)),(14,.v (.b false))] s
   | some v=>.ret [(6,.v (.i .i64 v))] s
 | [],i,h=>by
  have h1:¬i<x.length:=Nat.not_lt.2 (drop_nil h)
  refine ⟨i,ak fun K hK=>?_⟩
  simp [au,h1,oz]
 | p::r,i,h=>by
  obtain ⟨h1,h2,h3,h4⟩:=drop_cons h
  have h5:=h4 h3
  have hp:p∈x:=by rw [←h5];exact List.getElem_mem h3
  have hwi:=wI (i:=i) (by omega)
  cases hq:y.drop i with
  | nil=>
   have h6:y.length≤i:=drop_nil hq
   refine ⟨0,ak fun K hK=>?_⟩
   clear hK h4 ih
   simp [au,h3,h5,h6,oz]
  | cons q t=>
   obtain ⟨g1,g2,g3,g4⟩:=drop_cons hq
   have g5:=g4 g3
   have g6:¬y.length≤i:=by omega
   have hqm:q∈y:=by rw [←g5];exact List.getElem_mem g3
   obtain ⟨j,ih2⟩:=FN x y hx hy s cx ih r (i+1) h2
   have e1:=ih p hp q hqm
   refine ⟨j,ak fun K hK=>?_⟩
   rw [←hK] at ih2
   clear hK h4 g4 ih
   rw [g2] at ih2
   simp at ih2
   by_cases hz:kS p q=0
   ·simp [au,h3,h5,hwi,g3,g5,g6,e1,ih2,oz,hz]
   ·simp [au,h3,h5,hwi,g3,g5,g6,e1,oz,hz]
theorem SA (x y:List C) (hx:x.length≤100000) (hy:y.length≤100000)
  (ih:∀p∈x,∀q∈y,∀(s:St) (cx:Ctx),ah Pq (.fn (.func aH) [] []) [kE p,kE q] s cx=.ret (.i .i64 (kS p q)) s) (s:St) (cx:Ctx):
  ah Pq (.fn (.func aG) [] []) [slf true (x.map kE),slf true (y.map kE),.fn (.func aH) [] []] s cx=.ret (.i .i64 (nY x y)) s:=by
 refine kD (by simp) ?_
 obtain ⟨j,h⟩:=FN x y hx hy s ⟨cx.lim,s.length⟩ ih x 0 rfl
 rw [Jl]
 simp at h
 clear ih
 cases hc:oz x y with
 | none=>
  simp [hc] at h
  by_cases hl:x.length<y.length
  ·simp [af,ay,h,hl]
  ·simp [af,ay,h,hl]
 | some v=>
  simp [hc] at h
  simp [af,ay,h]
theorem Qs:∀(c:C),wC c≤1000→∀(d:C),wC d≤1000→∀(s:St) (cx:Ctx),ah Pq (.fn (.func aH) [] []) [kE c,kE d] s cx=.ret (.i .i64 (kS c d)) s:=by
 refine C.ind' fun c ih hw d hd s cx=>?_
 have hwc:=qm c
 have hwd:=qm d
 have hlc:=yE c.parts
 have hld:=yE d.parts
 have e1:=SA c.parts d.parts (by omega) (by omega) (fun p hp q hq=>ih p hp (by have:=wM hp;omega) q (by have:=wM hq;omega))
 have e2:=Ve [yL (dR c:Int) (dR d:Int),yL c.kind d.kind,compareBytes c.name d.name,yL c.lo d.lo,yL c.hi d.hi] (by simp)
 refine D8 (by simp) ?_
 rw [xR]
 clear ih
 change ∀(s:St) (cx:Ctx),_=CO.ret (.i .i64 (CZ c d)) s at e2
 simp at e2
 by_cases hz:CZ c d=0
 ·simp [af,iq,e1,e2,hz,List.range_succ]
 ·simp [af,iq,e2,hz,List.range_succ]
end Go.Ai.Z
namespace Go.Ai.Z
open Go.Sort (SWO PermIn SortedIn pdq pdq_sorts)
theorem QN {β:Type} {f:AV→Option β} {g:C→β}:∀(l:List C),(∀x∈l,f (kE x)=some (g x))→(l.map kE).mapM f=some (l.map g)
 | [],_=>by simp
 | x::l,h=>by
  simp only [List.map_cons,List.mapM_cons,Option.bind_eq_bind,Option.pure_def,h x (by simp),QN l (fun y hy=>h y (by simp [hy]))]
  rfl
theorem TF:∀L:List C,dA 0 (flT L)=true
 | []=>by simp [flT]
 | c::r=>by
  simp [flT,TF r]
theorem UG:∀(L:List C) (z:List AV),chunk 7 L.length (flT L++z)=L.map kE
 | [],z=>rfl
 | c::r,z=>by
  have h:=UG r z
  simp only [List.length_cons,chunk,flT,List.append_assoc,List.cons_append,List.nil_append,List.map_cons]
  rw [Eg]
  simp [h]
theorem acs (L:List C) (f:C→C→Int) {i j:Nat} (hi:i<L.length) (hj:j<L.length):Ju (L.map fun x=>L.map fun y=>f x y) i j=f L[i] L[j]:=by
 simp [Ju,hi,hj]
theorem N9 (L:List C) (z:List AV):∀(ix:List Nat) (hx:∀i∈ix,i<L.length),
  (ix.flatMap fun i=>((flT L++z).drop (i * 7)).take 7)=flT (ix.attach.map fun i=>L[i.1]'(hx i.1 i.2))
 | [],_=>rfl
 | i::ix,hx=>by
  have hi:=hx i (by simp)
  have h:=Ed L z i hi
  rw [Eg] at h
  simp only [AV.ag.injEq] at h
  have ih:=N9 L z ix (fun j hj=>hx j (by simp [hj]))
  simp only [List.flatMap_cons,h,ih,List.attach_cons,List.map_cons,List.map_map,flT]
  rfl
theorem agF (L:List C) (hL:L.length≤100000) (hw:∀c∈L,wC c≤1000):∃M:List C,M.Perm L∧zS M∧
  (∀(s:St) (cx:Ctx) (l t ver:Nat) (z:List AV),s[l]?=some (.buf t 7 ver (flT L++z))→cx.lim≤l→cx.base≤l→
   ah P0 (.fn (.func dB) [] []) [.sk l ver 7 0 L.length,.fn (.func aH) [] []] s cx=.ret (.tu []) (s.set l (.buf t 7 ver (flT M++z))))∧
  (L=[]→∀(s:St) (cx:Ctx),ah P0 (.fn (.func dB) [] []) [.ns,.fn (.func aH) [] []] s cx=.ret (.tu []) s):=by
 have hns:∀(s:St) (cx:Ctx),ah P0 (.fn (.func dB) [] []) [.ns,.fn (.func aH) [] []] s cx=.ret (.tu []) s:=
  fun s cx=>Ad (A:=P0) (k:=.sortK 7) rfl rfl (by simp) (by simp [l7])
 match L,hL,hw with
 | [],_,_=>
  refine ⟨[],.refl _,.nil,fun s cx l t ver z hs hlim hbase=>?_,fun _=>hns⟩
  have hset:s.set l (.buf t 7 ver (flT []++z))=s:=by
   apply List.ext_getElem?
   intro i
   by_cases hi:l=i
   ·subst hi;rw [List.getElem?_set_self (List.getElem?_eq_some_iff.1 hs).1,hs]
   ·rw [List.getElem?_set_ne hi]
  rw [hset]
  exact Ad (A:=P0) (k:=.sortK 7) rfl rfl (by simp) (by simp [l7])
 | c::r,hL,hw=>
  generalize hX:c::r=X at *
  obtain ⟨n,hn⟩:∃n,X.length=n+1:=⟨r.length,by rw [←hX];rfl⟩
  let lt:Nat→Nat→Bool:=fun i j=>decide (Ju (X.map fun x=>X.map fun y=>kS x y) i j<0)
  have hlt:∀i j (hi:i<X.length) (hj:j<X.length),lt i j=decide (kS X[i] X[j]<0):=fun i j hi hj=>by simp only [lt,acs X kS hi hj]
  let ltF:Fin (n+1)→Fin (n+1)→Bool:=fun i j=>lt i.1 j.1
  have hltF:∀i j:Fin (n+1),ltF i j=decide (kS (X[i.1]'(by omega)) (X[j.1]'(by omega))<0):=fun i j=>hlt _ _ _ _
  have hO:SWO ltF:=by
   refine ⟨fun x=>?_,fun x y z h1 h2=>?_,fun x y z h1 h2=>?_⟩
   ·rw [hltF,mX.refl _ trivial];rfl
   ·rw [hltF] at h1 h2 ⊢
    simp only [decide_eq_true_eq] at h1 h2 ⊢
    exact mX.lt_trans trivial trivial trivial h1 (by omega)
   ·rw [hltF] at h1 h2 ⊢
    simp only [decide_eq_false_iff_not] at h1 h2 ⊢
    intro h3
    have a1:=mX.anti (X[x.1]'(by omega)) (X[y.1]'(by omega)) trivial trivial
    have a2:=mX.anti (X[y.1]'(by omega)) (X[z.1]'(by omega)) trivial trivial
    have a3:=mX.anti (X[y.1]'(by omega)) (X[x.1]'(by omega)) trivial trivial
    have a4:=mX.anti (X[z.1]'(by omega)) (X[y.1]'(by omega)) trivial trivial
    have a5:=mX.anti (X[x.1]'(by omega)) (X[z.1]'(by omega)) trivial trivial
    have:=mX.trans (X[z.1]'(by omega)) (X[y.1]'(by omega)) (X[x.1]'(by omega)) trivial trivial trivial (by omega) (by omega)
    omega
  have hswo:aek (n+1) lt=true:=by
   have h1:∀x y z,x<n+1→y<n+1→z<n+1→lt x x=false∧((lt x y=true→lt y z=true→lt x z=true)∧(lt x y=false→lt y z=false→lt x z=false)):=
    fun x y z hx hy hz=>⟨hO.irrefl ⟨x,hx⟩,fun a b=>hO.trans ⟨x,hx⟩ ⟨y,hy⟩ ⟨z,hz⟩ a b,fun a b=>hO.ntrans ⟨x,hx⟩ ⟨y,hy⟩ ⟨z,hz⟩ a b⟩
   unfold aek
   refine List.all_eq_true.2 fun x hx=>?_
   simp only [List.mem_range] at hx
   rw [Bool.and_eq_true]
   refine ⟨by rw [(h1 x x x hx hx hx).1];rfl,List.all_eq_true.2 fun y hy=>List.all_eq_true.2 fun z hz=>?_⟩
   simp only [List.mem_range] at hy hz
   obtain ⟨_,h2,h3⟩:=h1 x y z hx hy hz
   cases hxy:lt x y<;>cases hyz:lt y z<;>cases hxz:lt x z<;>simp [hxy,hyz,hxz] at h2 h3 ⊢
  let d:Array (Fin (n+1)):=Array.ofFn fun i=>i
  have hd:d.size=n+1:=by simp [d]
  let d':=pdq ltF d 0 (n+1) (Go.Lib.bitLen (n+1)) true true
  have hsorts:=pdq_sorts ltF hO d 0 (n+1) (Go.Lib.bitLen (n+1)) true true (Nat.zero_le _) (by rw [hd];exact Nat.le_refl _) (Or.inl rfl)
  obtain ⟨⟨hsz,_,hperm⟩,hsort⟩:=hsorts
  have hd':d'.size=n+1:=hsz.trans hd
  have key:∀(a:Array (Fin (n+1))) (k:Nat),a.size=k→a.extract 0 k=a:=fun a k h=>by subst h;exact Array.extract_size
  have e1:d'.extract 0 (n+1)=d':=key _ _ hd'
  have e2:d.extract 0 (n+1)=d:=key _ _ hd
  have hpl:d'.toList.Perm (List.finRange (n+1)):=by
   have h1:(d'.extract 0 (n+1)).toList.Perm (d.extract 0 (n+1)).toList:=hperm
   rw [e1,e2] at h1
   have h2:d.toList=List.finRange (n+1):=by
    apply List.ext_getElem
    ·rw [Array.length_toList,hd,List.length_finRange]
    ·intro i h1 h2
     simp only [d,Array.getElem_toList,Array.getElem_ofFn,List.getElem_finRange]
     rfl
   rwa [h2] at h1
  let M:List C:=d'.toList.map fun i=>X[i.1]'(by omega)
  have hfin:(List.finRange (n+1)).map (fun i=>X[i.1]'(by omega))=X:=by
   apply List.ext_getElem
   ·simp [hn]
   ·intro i h1 h2;simp
  have hM:M.Perm X:=by
   have:=hpl.map fun i:Fin (n+1)=>X[i.1]'(by omega)
   rwa [hfin] at this
  have hS:zS M:=by
   refine List.Pairwise.map _ (R:=fun i j:Fin (n+1)=>kS (X[i.1]'(by omega)) (X[j.1]'(by omega))≤0) (fun _ _ h=>h) ?_
   rw [List.pairwise_iff_getElem]
   intro i j hi hj hij
   have hi':i<d'.size:=by simpa using hi
   have hj':j<d'.size:=by simpa using hj
   have h1:=hsort i j (Nat.zero_le _) hij (by omega)
   have h2:ltF d'[j] d'[i]=false:=by
    rw [←getElem!_pos d' j hj',←getElem!_pos d' i hi'];exact h1
   rw [hltF] at h2
   simp only [decide_eq_false_iff_not] at h2
   have a1:=mX.anti (X[d'[i].1]'(by omega)) (X[d'[j].1]'(by omega)) trivial trivial
   have a2:=mX.anti (X[d'[j].1]'(by omega)) (X[d'[i].1]'(by omega)) trivial trivial
   simp only [Array.getElem_toList]
   omega
  refine ⟨M,hM,hS,fun s cx l t ver z hs hlim hbase=>?_,fun h0=>by rw [h0] at hn;simp at hn⟩
  refine Ad (A:=P0) (k:=.sortK 7) rfl rfl (by simp) ?_
  have htab:MR (ah P0.quiet) aH (chunk 7 (n+1) ((flT X++z).drop 0))=some (X.map fun x=>X.map fun y=>kS x y):=by
   rw [List.drop_zero,←hn,UG]
   exact QN X (fun x hx=>QN X (fun y hy=>by
    have:=Qs x (hw x hx) y (hw y hy) [] ⟨0,0⟩
    simp only [Tm]
    rw [show ah P0.quiet=ah Pq from rfl,this]))
  have hlen:X.length * 7=(n+1) * 7:=by rw [hn]
  have hund:dA 0 (((flT X++z).drop 0).take ((n+1) * 7))=true:=by
   rw [List.drop_zero,←hn,Kv _ _ _ (Nat.le_refl _),List.take_of_length_le (Nat.le_refl _)]
   exact TF X
  have hcond:ver=ver∧7=7∧7=7∧2≤7∧0+(n+1) * 7≤(flT X++z).length∧n<eu∧cx.lim≤l∧cx.base≤l∧dA 0 (((flT X++z).drop 0).take ((n+1) * 7))=true:=
   ⟨rfl,rfl,rfl,by omega,by rw [List.length_append,Bl];omega,by unfold eu;omega,hlim,hbase,hund⟩
  have hspl:splice (flT X++z) 0 ((DC n lt).flatMap fun i=>((flT X++z).drop (0+i * 7)).take 7)=flT M++z:=by
   have hix:∀i∈DC n lt,i<X.length:=fun i hi=>by
    simp only [DC,List.mem_map] at hi
    obtain ⟨j,_,rfl⟩:=hi
    omega
   have h1:((DC n lt).flatMap fun i=>((flT X++z).drop (0+i * 7)).take 7)=flT M:=by
    simp only [Nat.zero_add]
    rw [N9 X z _ hix]
    congr 1
    apply List.ext_getElem
    ·simp [DC,M,d',ltF,d]
    ·intro i h1 h2
     simp [DC,M,d',ltF,d]
   have hMl:M.length=n+1:=hM.length_eq.trans hn
   rw [h1]
   unfold splice
   rw [Bl,hMl,Nat.zero_add,List.take_zero,List.nil_append]
   congr 1
   have h2:=F6 X (n+1) z (by omega)
   rw [h2,List.drop_of_length_le (by omega)];rfl
  show l7 (ah P0) (ah P0.quiet) (.sortK 7) [.sk l ver 7 0 X.length,.fn (.func aH) [] []] s cx=_
  rw [hn]
  unfold l7
  dsimp only
  rw [hs]
  dsimp only
  rw [if_pos hcond,htab]
  dsimp only
  rw [if_pos hswo,hspl]
end Go.Ai.Z
