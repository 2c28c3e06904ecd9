/-
 The reading of atoms of queries, and of parts.
-/
import Derived.Test.YtdjjghikaijfpaaGreatDoorAiB2
import Derived.Test.YtdjjghikaijfpaaGreatDoorAiQA1QA0QA2QA3QA4
import Derived.Test.YtdjjghikaijfpaaGreatDoorAiQB7QB8QB9
import Derived.Test.YtdjjghikaijfpaaGreatDoorAiDat
import Derived.Test.YtdjjghikaijfpaaGreatDoorAiRQ6RQ7
set_option maxRecDepth 100000
set_option linter.unusedSimpArgs false
set_option linter.unusedVariables false
set_option linter.unusedSectionVars false
namespace Go.Ai
open Go.Ai.Z Go.ChangeShapes Go.WideShapes Go.WideElems
structure Z.At.Ok (a:At):Prop where
 n:a.name.length≤1125899906842624
 x:a.x.length≤1125899906842624
 y:a.y.length≤1125899906842624
@[simp] theorem Z.plain_encAt (a:At):(bG a).plain=bG a:=rfl
@[simp] theorem Z.cells_encAt (a:At):(bG a).cells=[.i .i64 a.kind,.s a.name,.s a.x,.s a.y,.i .i64 a.lo,.i .i64 a.hi]:=rfl
section
variable {H:Type} {enc:TypeId×Value→H} {P:Program} {W:World}
structure QTy (P:Program) (A L Q I Z:TypeId):Prop where
 uA:∃f0 f1 f2 f3 f4 f5:Field,P.underlying A=some (.struct #[f0,f1,f2,f3,f4,f5])∧(f0.type=I∧f0.offset=0)∧(f1.type=Z∧f1.offset=1)∧(f2.type=Z∧f2.offset=2)∧(f3.type=Z∧f3.offset=3)∧(f4.type=I∧f4.offset=4)∧(f5.type=I∧f5.offset=5)
 uL:P.underlying L=some (.slice A)
 uQ:∃f0:Field,P.underlying Q=some (.struct #[f0])∧(f0.type=L∧f0.offset=0)
 uI:P.underlying I=some (.int .i64)
 uZ:P.underlying Z=some .string
 cA:P.cellsOf A=6
 cL:P.cellsOf L=1
 cQ:P.cellsOf Q=1
 cI:P.cellsOf I=1
 cZ:P.cellsOf Z=1
 bA:0<P.bytesOf A
theorem agJ {A L Q I Z:TypeId} (ty:QTy P A L Q I Z) (fuel:Nat) (cs:List Value) (x:DataW H×List MemPlace) (h:DataW.trod enc P W 0 (fun _=>true) true fuel A cs=some x) (hl:Light P A x.1):
  ∃c:At,c.Ok∧vO W cs (bG c).cells:=by
 obtain ⟨f0,f1,f2,f3,f4,f5,hu,⟨t0,o0⟩,⟨t1,o1⟩,⟨t2,o2⟩,⟨t3,o3⟩,⟨t4,o4⟩,⟨t5,o5⟩⟩:=ty.uA
 obtain ⟨xs,n,rfl,rfl,hlen,hxl,hfs⟩:=DataW.trod_struct hu h
 rw [ty.cA] at hlen
 obtain ⟨v0,v1,v2,v3,v4,v5,rfl⟩:∃v0 v1 v2 v3 v4 v5,cs=[v0,v1,v2,v3,v4,v5]:=by
  match cs,hlen with
  | [v0,v1,v2,v3,v4,v5],_=>exact ⟨v0,v1,v2,v3,v4,v5,rfl⟩
 obtain ⟨x0,x1,x2,x3,x4,x5,rfl⟩:∃x0 x1 x2 x3 x4 x5,xs=[x0,x1,x2,x3,x4,x5]:=by
  match xs,hxl with
  | [v0,v1,v2,v3,v4,v5],_=>exact ⟨v0,v1,v2,v3,v4,v5,rfl⟩
 have h0:=hfs 0 f0 rfl
 have h1:=hfs 1 f1 rfl
 have h2:=hfs 2 f2 rfl
 have h3:=hfs 3 f3 rfl
 have h4:=hfs 4 f4 rfl
 have h5:=hfs 5 f5 rfl
 simp [t0,o0,ty.cI] at h0
 simp [t1,o1,ty.cZ] at h1
 simp [t2,o2,ty.cZ] at h2
 simp [t3,o3,ty.cZ] at h3
 simp [t4,o4,ty.cI] at h4
 simp [t5,o5,ty.cI] at h5
 have hw:∀y,(y∈x1.1.weights P Z∨y∈x2.1.weights P Z∨y∈x3.1.weights P Z)→y≤reachBytes:=by
  intro y hy
  apply hl y
  simp only [DataW.weights,hu,List.map_cons,List.map_nil,DataW.weightsEach,t0,t1,t2,t3,t4,t5,List.mem_append]
  rcases hy with hy|hy|hy<;>simp [DataW.weightsEach,t1,t2,t3,hy]
 obtain ⟨k,k1,k2,⟨r0,a0⟩⟩:=UJ ty.uI h0
 obtain ⟨nm,nm1,⟨r1,a1⟩⟩:=Ls ty.uZ h1 (fun y hy=>hw y (.inl hy))
 obtain ⟨xx,xx1,⟨r2,a2⟩⟩:=Ls ty.uZ h2 (fun y hy=>hw y (.inr (.inl hy)))
 obtain ⟨yy,yy1,⟨r3,a3⟩⟩:=Ls ty.uZ h3 (fun y hy=>hw y (.inr (.inr hy)))
 obtain ⟨lo,lo1,lo2,⟨r4,a4⟩⟩:=UJ ty.uI h4
 obtain ⟨hi,hi1,hi2,⟨r5,a5⟩⟩:=UJ ty.uI h5
 have hb:reachBytes≤1125899906842624:=by decide
 refine ⟨⟨k,nm,xx,yy,lo,hi⟩,⟨by simp;omega,by simp;omega,by simp;omega⟩, ?_,fun v hv=>?_⟩
 ·have e:(bG ⟨k,nm,xx,yy,lo,hi⟩).cells=[.i .i64 k]++([.s nm]++([.s xx]++([.s yy]++([.i .i64 lo]++[.i .i64 hi])))):=rfl
  rw [e]
  exact r0.append (r1.append (r2.append (r3.append (r4.append r5))))
 ·simp only [List.mem_cons,List.not_mem_nil,or_false] at hv
  rcases hv with rfl|rfl|rfl|rfl|rfl|rfl
  ·exact a0 _ (by simp)
  ·exact a1 _ (by simp)
  ·exact a2 _ (by simp)
  ·exact a3 _ (by simp)
  ·exact a4 _ (by simp)
  ·exact a5 _ (by simp)
theorem agI {A L Q I Z:TypeId} (ty:QTy P A L Q I Z) (fuel:Nat) (cs:List Value) (x:DataW H×List MemPlace) (h:DataW.trod enc P W 0 (fun _=>true) true fuel Q cs=some x) (hl:Light P Q x.1):
  ∃(z:Bool) (l:List At),l.length≤1125899906842624∧(∀a∈l,a.Ok)∧vO W cs [rowA z l]:=by
 obtain ⟨f0,hu,⟨t0,o0⟩⟩:=ty.uQ
 obtain ⟨xs,n,rfl,rfl,hlen,hxl,hfs⟩:=DataW.trod_struct hu h
 rw [ty.cQ] at hlen
 obtain ⟨v0,rfl⟩:∃v0,cs=[v0]:=by
  match cs,hlen with
  | [v0],_=>exact ⟨v0,rfl⟩
 obtain ⟨x0,rfl⟩:∃x0,xs=[x0]:=by
  match xs,hxl with
  | [v0],_=>exact ⟨v0,rfl⟩
 have h0:=hfs 0 f0 rfl
 simp [t0,o0,ty.cL] at h0
 have hw:∀y,y∈x0.1.weights P L→y≤reachBytes:=by
  intro y hy
  apply hl y
  simp only [DataW.weights,hu,List.map_cons,List.map_nil,DataW.weightsEach,t0,List.mem_append]
  simp [DataW.weightsEach,t0,hy]
 obtain ⟨es,q1,q2,⟨r4,a4⟩⟩:=Nr ty.uL ty.cA (by omega) ty.bA (fun a=>∃c,a=bG c∧c.Ok) h0 hw (fun m hm cs y hy hly=>by
  obtain ⟨c,hc,hr⟩:=agJ ty m cs y hy hly
  exact ⟨bG c,⟨c,rfl,hc⟩,by simp,hr⟩)
 obtain ⟨l,rfl,hx⟩:=HY q1
 have hb:reachBytes≤1125899906842624:=by decide
 simp only [List.length_map] at q2
 cases l with
 | cons a r=>exact ⟨true,a::r,by simp at q2 ⊢;omega,hx,⟨r4,a4⟩⟩
 | nil=>
  have h1:=r4.head
  simp only [List.map_nil] at h1
  have key:∃z,Rep (g0 W) 0 v0 (rowA z []):=by
   generalize he:([]:List AV)=e at h1
   cases h1 with
   | slNil=>exact ⟨true,.ns⟩
   | slE a=>exact ⟨false,.sz a 0⟩
   | sl bk off cap sz _ c hc hsz hm hr=>subst he;exact ⟨false,.sz _ cap⟩
  obtain ⟨z,hz⟩:=key
  exact ⟨z,[],by simp,by simp,⟨.cons hz (.nil _ _),a4⟩⟩
end
end Go.Ai
namespace Go.Ai
open Go.Ai.Z Go.ChangeShapes Go.WideShapes Go.WideElems
section
variable {H:Type} {enc:TypeId×Value→H} {P:Program} {W:World}
structure QQTy (P:Program) (A L Q I Z R S QQ:TypeId):Prop extends QTy P A L Q I Z where
 uR:P.underlying R=some (.slice Z)
 uS:P.underlying S=some (.slice Q)
 uQQ:∃f0 f1:Field,P.underlying QQ=some (.struct #[f0,f1])∧(f0.type=R∧f0.offset=0)∧(f1.type=S∧f1.offset=1)
 cR:P.cellsOf R=1
 cS:P.cellsOf S=1
 cQQ:P.cellsOf QQ=2
 bZ:0<P.bytesOf Z
 bQ:0<P.bytesOf Q
theorem afy {A L Q I Z R S QQ:TypeId} (ty:QQTy P A L Q I Z R S QQ) (fuel:Nat) (cs:List Value) (x:DataW H×List MemPlace) (h:DataW.trod enc P W 0 (fun _=>true) true fuel QQ cs=some x) (hl:Light P QQ x.1):
  ∃(T:List (List UInt8)) (ps:List (Bool×List At)),QOk T ps∧vO W cs [.sl (T.map .s),.sl (ps.map encPt)]:=by
 obtain ⟨f0,f1,hu,⟨t0,o0⟩,⟨t1,o1⟩⟩:=ty.uQQ
 obtain ⟨xs,n,rfl,rfl,hlen,hxl,hfs⟩:=DataW.trod_struct hu h
 rw [ty.cQQ] at hlen
 obtain ⟨v0,v1,rfl⟩:∃v0 v1,cs=[v0,v1]:=by
  match cs,hlen with
  | [v0,v1],_=>exact ⟨v0,v1,rfl⟩
 obtain ⟨x0,x1,rfl⟩:∃x0 x1,xs=[x0,x1]:=by
  match xs,hxl with
  | [v0,v1],_=>exact ⟨v0,v1,rfl⟩
 have h0:=hfs 0 f0 rfl
 have h1:=hfs 1 f1 rfl
 simp [t0,o0,ty.cR] at h0
 simp [t1,o1,ty.cS] at h1
 have hw:∀y,(y∈x0.1.weights P R∨y∈x1.1.weights P S)→y≤reachBytes:=by
  intro y hy
  apply hl y
  simp only [DataW.weights,hu,List.map_cons,List.map_nil,DataW.weightsEach,t0,t1,List.mem_append]
  rcases hy with hy|hy<;>simp [DataW.weightsEach,t0,t1,hy]
 obtain ⟨es,q1,q2,⟨r4,a4⟩⟩:=Nr ty.uR ty.cZ (by omega) ty.bZ (fun a=>∃l:List UInt8,a=.s l∧l.length≤reachBytes) h0 (fun y hy=>hw y (.inl hy)) (fun m hm cs y hy hly=>by
  obtain ⟨l,hl1,hr⟩:=Ls ty.uZ hy hly
  exact ⟨.s l,⟨l,rfl,hl1⟩,rfl,hr⟩)
 obtain ⟨es2,q3,q4,⟨r5,a5⟩⟩:=Nr ty.uS ty.cQ (by omega) ty.bQ (fun a=>∃c:Bool×List At,a=encPt c∧(c.2.length≤1125899906842624∧∀b∈c.2,b.Ok)) h1 (fun y hy=>hw y (.inr hy)) (fun m hm cs y hy hly=>by
  obtain ⟨z,l,b1,b2,hr⟩:=agI ty.toQTy m cs y hy hly
  exact ⟨encPt (z,l),⟨(z,l),rfl,b1,b2⟩,by simp,hr⟩)
 obtain ⟨T,rfl,hT⟩:=HY q1
 obtain ⟨ps,rfl,hps⟩:=HY q3
 have hb:reachBytes≤1125899906842624:=by decide
 simp only [List.length_map] at q2 q4
 refine ⟨T,ps,⟨by omega,by omega,fun p hp=>(hps p hp).1,fun p hp a ha=>?_⟩, ?_,fun v hv=>?_⟩
 ·have:=(hps p hp).2 a ha
  exact ⟨this.n,this.x,this.y⟩
 ·exact r4.append r5
 ·simp only [List.mem_cons,List.not_mem_nil,or_false] at hv
  rcases hv with rfl|rfl
  ·exact a4 _ (by simp)
  ·exact a5 _ (by simp)
end
end Go.Ai
namespace Go.Ai
open Go.ChangeShapes Go.WideShapes Go.WideElems
section
variable {H:Type} {enc:TypeId×Value→H} {P:Program} {W:World}
theorem aar {R Z:TypeId} (uR:P.underlying R=some (.slice Z)) (uZ:P.underlying Z=some (.int .u8)) (cZ:P.cellsOf Z=1) (bZ:0<P.bytesOf Z)
  {r:Go.Reach} {b0:Nat} {v:Value} {d:DataW H} {p:List MemPlace} (hok:Value.okWide P W r b0 R v) (h:DataW.Trod enc P W 0 (fun _=>true) true R v d p) (hl:Light P R d):
  ∃l:List UInt8,l.length≤1125899906842624∧Rep (g0 W) 0 v (.sl (ai l)):=by
 obtain ⟨a,len,cap,rfl⟩:=okWide_slice uR hok
 obtain ⟨fuel,hf⟩:=h
 simp only [Value.cells] at hf
 obtain ⟨es,q1,q2,⟨r4,a4⟩⟩:=Nr uR cZ (by omega) bZ (fun a=>∃b:UInt8,a=.i .u8 b.toNat∧True) hf hl (fun m hm cs y hy hly=>by
  obtain ⟨n,h1,h2,hr⟩:=UJ uZ hy
  have e1:(0:Int)≤n:=h1
  have e2:n≤255:=h2
  refine ⟨.i .u8 n,⟨UInt8.ofNat n.toNat, ?_,trivial⟩,rfl,hr⟩
  congr 1
  simp
  omega)
 obtain ⟨l,rfl,_⟩:=HY q1
 have hb:reachBytes≤1125899906842624:=by decide
 simp only [List.length_map] at q2
 exact ⟨l,by omega,r4.head⟩
end
end Go.Ai
namespace Go.Ai
open Go.Ai.Z Go.ChangeShapes Go.WideShapes Go.WideElems
section
variable {H:Type} {enc:TypeId×Value→H} {P:Program} {W:World}
structure aiM (P:Program) (A L Q I Z R S QQ RQ:TypeId):Prop extends QQTy P A L Q I Z R S QQ where
 uRQ:∃f0 f1 f2 f3 f4:Field,P.underlying RQ=some (.struct #[f0,f1,f2,f3,f4])∧(f0.type=I∧f0.offset=0)∧(f1.type=Z∧f1.offset=1)∧(f2.type=Z∧f2.offset=2)∧(f3.type=Z∧f3.offset=3)∧(f4.type=QQ∧f4.offset=4)
 cRQ:P.cellsOf RQ=6
theorem ais {A L Q I Z R S QQ RQ:TypeId} (ty:aiM P A L Q I Z R S QQ RQ) (fuel:Nat) (cs:List Value) (x:DataW H×List MemPlace) (h:DataW.trod enc P W 0 (fun _=>true) true fuel RQ cs=some x) (hl:Light P RQ x.1):
  ∃(k:Int) (rd v o:List UInt8) (T:List (List UInt8)) (ps:List (Bool×List At)),QOk T ps∧vO W cs [.i .i64 k,.s rd,.s v,.s o,.sl (T.map .s),.sl (ps.map encPt)]:=by
 obtain ⟨f0,f1,f2,f3,f4,hu,⟨t0,o0⟩,⟨t1,o1⟩,⟨t2,o2⟩,⟨t3,o3⟩,⟨t4,o4⟩⟩:=ty.uRQ
 obtain ⟨xs,n,rfl,rfl,hlen,hxl,hfs⟩:=DataW.trod_struct hu h
 rw [ty.cRQ] at hlen
 obtain ⟨v0,v1,v2,v3,v4,v5,rfl⟩:∃v0 v1 v2 v3 v4 v5,cs=[v0,v1,v2,v3,v4,v5]:=by
  match cs,hlen with
  | [v0,v1,v2,v3,v4,v5],_=>exact ⟨v0,v1,v2,v3,v4,v5,rfl⟩
 obtain ⟨x0,x1,x2,x3,x4,rfl⟩:∃x0 x1 x2 x3 x4,xs=[x0,x1,x2,x3,x4]:=by
  match xs,hxl with
  | [v0,v1,v2,v3,v4],_=>exact ⟨v0,v1,v2,v3,v4,rfl⟩
 have h0:=hfs 0 f0 rfl
 have h1:=hfs 1 f1 rfl
 have h2:=hfs 2 f2 rfl
 have h3:=hfs 3 f3 rfl
 have h4:=hfs 4 f4 rfl
 simp [t0,o0,ty.cI] at h0
 simp [t1,o1,ty.cZ] at h1
 simp [t2,o2,ty.cZ] at h2
 simp [t3,o3,ty.cZ] at h3
 simp [t4,o4,ty.cQQ] at h4
 have hw:∀y,(y∈x1.1.weights P Z∨y∈x2.1.weights P Z∨y∈x3.1.weights P Z∨y∈x4.1.weights P QQ)→y≤reachBytes:=by
  intro y hy
  apply hl y
  simp only [DataW.weights,hu,List.map_cons,List.map_nil,DataW.weightsEach,t0,t1,t2,t3,t4,List.mem_append]
  rcases hy with hy|hy|hy|hy<;>simp [DataW.weightsEach,t1,t2,t3,t4,hy]
 obtain ⟨k,k1,k2,⟨r0,a0⟩⟩:=UJ ty.uI h0
 obtain ⟨rd,l1,⟨r1,a1⟩⟩:=Ls ty.uZ h1 (fun y hy=>hw y (.inl hy))
 obtain ⟨v,l2,⟨r2,a2⟩⟩:=Ls ty.uZ h2 (fun y hy=>hw y (.inr (.inl hy)))
 obtain ⟨o,l3,⟨r3,a3⟩⟩:=Ls ty.uZ h3 (fun y hy=>hw y (.inr (.inr (.inl hy))))
 obtain ⟨T,ps,hq,⟨r4,a4⟩⟩:=afy ty.toQQTy _ _ _ h4 (fun y hy=>hw y (.inr (.inr (.inr hy))))
 refine ⟨k,rd,v,o,T,ps,hq, ?_,fun u hu=>?_⟩
 ·exact r0.append (r1.append (r2.append (r3.append r4)))
 ·simp only [List.mem_cons,List.not_mem_nil,or_false] at hu
  rcases hu with rfl|rfl|rfl|rfl|rfl|rfl
  ·exact a0 _ (by simp)
  ·exact a1 _ (by simp)
  ·exact a2 _ (by simp)
  ·exact a3 _ (by simp)
  ·exact a4 _ (by simp)
  ·exact a4 _ (by simp)
theorem af5 {A L Q I Z R S QQ RQ:TypeId} (ty:aiM P A L Q I Z R S QQ RQ) {r:Go.Reach} {b0:Nat} {v:Value} {d:DataW H} {p:List MemPlace} (hok:Value.okWide P W r b0 RQ v) (h:DataW.Trod enc P W 0 (fun _=>true) true RQ v d p) (hl:Light P RQ d):
  ∃(k:Int) (rd vv o:List UInt8) (T:List (List UInt8)) (ps:List (Bool×List At)),QOk T ps∧Rep (g0 W) 0 v (encR k rd vv o [slf false (T.map .s),slf false (ps.map encPt)]):=by
 obtain ⟨f0,f1,f2,f3,f4,hu,_⟩:=ty.uRQ
 unfold Value.okWide at hok
 rw [hu] at hok
 obtain ⟨cs,rfl,_⟩:=hok
 obtain ⟨fuel,hf⟩:=h
 obtain ⟨k,rd,vv,o,T,ps,h1,hr,h3⟩:=ais ty fuel _ _ hf hl
 refine ⟨k,rd,vv,o,T,ps,h1, ?_⟩
 unfold encR
 simp only [Value.cells] at hr h3
 rw [VZ,VZ]
 refine .ag cs _ (by simpa using hr.1) (fun i hi=>h3 _ (by simp)) (fun i hi hi'=>?_)
 have:=hr.2 i (by simpa using hi) (by simpa using hi')
 simpa using this
end
end Go.Ai
