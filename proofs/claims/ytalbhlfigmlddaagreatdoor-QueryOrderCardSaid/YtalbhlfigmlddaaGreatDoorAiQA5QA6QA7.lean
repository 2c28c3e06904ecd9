/-
 The reference's comparison of atoms and of parts.
-/
import Derived.Test.YtalbhlfigmlddaaGreatDoorAiQA4
import Derived.Test.YtalbhlfigmlddaaGreatDoorAiQS
set_option maxRecDepth 100000
set_option linter.unusedSimpArgs false
set_option linter.unusedVariables false
set_option linter.unusedSectionVars false
namespace Go.Ai.Z
open Go.Lib (compareBytes)
theorem Lj {a b:Int} (h:a≠b):lQ a b=if a<b then -1 else 1:=by unfold lQ;(repeat' split)<;>omega
theorem Ll {a b:List UInt8} (h:a≠b):compareBytes a b=if Op.bytesLess a b=true then -1 else 1:=by
 have h1:=QN a b
 split at h1
 ·rename_i h2;rw [if_pos h2];exact h1
 ·rename_i h2
  rw [if_neg h2]
  split at h1
  ·exact h1
  ·exact absurd ((fE a b).1 h1) h
theorem wM (a:List UInt8):compareBytes a a=0:=(fE a a).2 rfl
theorem wK (a:Int):lQ a a=0:=Kv.2 rfl
theorem oK (b:Bool) (s:St) (cx:Ctx):aH P0 (.fn (.func gq) [] []) [.b b] s cx=.ret (.i .i64 (if b=true then -1 else 1)) s:=by
 refine Jz (by simp) ?_
 cases b<;>simp [au,oU]
theorem JF (a b:At) (s:St) (cx:Ctx):aH P0 (.fn (.func jW) [] []) [aK a,aK b] s cx=.ret (.i .i64 (fP a b)) s:=by
 obtain ⟨k,n,x,y,lo,hi⟩:=a
 obtain ⟨k',n',x',y',lo',hi'⟩:=b
 refine Ey (by simp) ?_
 by_cases h1:k=k'
 ·subst h1
  by_cases h2:n=n'
  ·subst h2
   by_cases h3:x=x'
   ·subst h3
    by_cases h4:y=y'
    ·subst h4
     by_cases h5:lo=lo'
     ·subst h5
      by_cases h6:hi=hi'
      ·subst h6
       simp [au,dG,aK,fP,wK,wM]
      ·simp [au,dG,aK,fP,wK,wM,h6,Lj h6,oK]
     ·have h:¬((if lo<lo' then (-1:Int) else 1)=0):=by split<;>omega
      simp [au,dG,aK,fP,wK,wM,h5,Lj h5,oK,h]
    ·have h:¬((if Op.bytesLess y y'=true then (-1:Int) else 1)=0):=by split<;>omega
     simp [au,dG,aK,fP,wK,wM,h4,Ll h4,oK,h]
   ·have h:¬((if Op.bytesLess x x'=true then (-1:Int) else 1)=0):=by split<;>omega
    simp [au,dG,aK,fP,wK,wM,h3,Ll h3,oK,h]
  ·have h:¬((if Op.bytesLess n n'=true then (-1:Int) else 1)=0):=by split<;>omega
   simp [au,dG,aK,fP,wK,wM,h2,Ll h2,oK,h]
 ·have h:¬((if k<k' then (-1:Int) else 1)=0):=by split<;>omega
  simp [au,dG,aK,fP,wK,wM,h1,Lj h1,oK,h]
theorem Sv (M:List At) (hM:M.length≤100000) (s:St) (cx:Ctx):∀(rest:List At) (i:Nat),M.drop i=rest→
  ∃j:Int,rQ (aA P0.glob (aH P0) cx false iT) [2,3,5] [(2,.bx [.sl (M.map aK)]),(3,.bx [.sl (M.map aK)]),(5,.v (.i .i64 i))] s=
   .exit 0 [(2,.bx [.sl (M.map aK)]),(3,.bx [.sl (M.map aK)]),(5,.v (.i .i64 j)),(17,.v (.b false))] s
 | [],i,h=>by
  have h1:¬i<M.length:=Nat.not_lt.2 (drop_nil h)
  refine ⟨i,gG fun K hK=>?_⟩
  simp [iT,h1]
 | p::r,i,h=>by
  obtain ⟨h1,h2,h3,h4⟩:=drop_cons h
  have h5:=h4 h3
  have hwi:=wI (i:=i) (by omega)
  obtain ⟨j,ih⟩:=Sv M hM s cx r (i+1) h2
  refine ⟨j,gG fun K hK=>?_⟩
  rw [←hK] at ih
  clear hK h4
  simp at ih
  have hq:=Oi p p
  rw [(oH (a:=p) (b:=p)).2 rfl] at hq
  simp [iT,h3,h5,hwi,ih,aK,hq]
theorem V8 (M:List At) (hM:M.length≤100000) (s:St) (cx:Ctx):aH P0 (.fn (.func iG) [] []) [.ag [.sl (M.map aK)],.ag [.sl (M.map aK)]] s cx=.ret (.b true) s:=by
 refine Di (by simp) ?_
 obtain ⟨j,h⟩:=Sv M hM s ⟨s.length,s.length⟩ M 0 rfl
 simp at h
 simp [au,kC,h]
end Go.Ai.Z
namespace Go.Ai.Z
theorem Pn (a:Int):∃m:Nat,m≤1023∧IntKind.i64.wrap (((BitVec.ofInt IntKind.i64.bits a &&& BitVec.ofInt IntKind.i64.bits 1023).toNat:Nat):Int)=(m:Int):=by
 refine ⟨(BitVec.ofInt IntKind.i64.bits a &&& BitVec.ofInt IntKind.i64.bits 1023).toNat, ?_, ?_⟩
 ·rw [BitVec.toNat_and]
  exact Nat.le_trans Nat.and_le_right (by decide)
 ·have h:(BitVec.ofInt IntKind.i64.bits a &&& BitVec.ofInt IntKind.i64.bits 1023).toNat≤1023:=by
   rw [BitVec.toNat_and]
   exact Nat.le_trans Nat.and_le_right (by decide)
  exact w64 (by omega) (by omega)
theorem O3 (R:List At) (hR:R.length≤100000) (hlt:LtA R) (q:AV) (s:St) (cx:Ctx):∀(d i:Nat),i+1+d=R.length→
  rQ (aA P0.glob (aH P0) cx false gX) [9,10,11] [(9,.bx [q]),(10,.bx [.sl (R.map aK)]),(11,.v (.i .i64 ((i+1:Nat):Int)))] s=
   .exit 0 [(9,.bx [q]),(10,.bx [.sl (R.map aK)]),(11,.v (.i .i64 (R.length:Int))),(72,.v (.b false))] s
 | 0,i,hd=>by
  have h1:¬((i:Int)+1<(R.length:Int)):=by omega
  have h2:(i:Int)+1=(R.length:Int):=by omega
  refine gG fun K hK=>?_
  simp [gX,h1]
  exact h2
 | d+1,i,hd=>by
  have ih:=O3 R hR hlt q s cx d (i+1) (by omega)
  refine gG fun K hK=>?_
  rw [←hK] at ih
  clear hK
  have h1:((i:Int)+1<(R.length:Int)):=by omega
  have h2:i+1<R.length:=by omega
  have h3:i<R.length:=by omega
  have hc:fP R[i] R[i+1]<0:=List.pairwise_iff_getElem.1 hlt i (i+1) h3 h2 (by omega)
  have hc':¬(0≤fP R[i] R[i+1]):=by omega
  have e1:=JF R[i] R[i+1]
  have hw1:IntKind.i64.wrap (i:Int)=(i:Int):=by rw [w64]<;>omega
  have hw2:IntKind.i64.wrap ((i:Int)+1+1)=(i:Int)+1+1:=by rw [w64]<;>omega
  have h00:(0:Int)≤(i:Int)+1:=by omega
  simp at ih
  simp only [aK] at e1
  simp [gX,h1,h2,h3,hw1,hw2,h00,e1,hc',ih,aK]
theorem LD {L:List At} (h0:L≠[]) (hL:L.length≤100000):∃M:List At,M≠[]∧TdR L M∧M.length≤L.length∧∀(s:St) (cx:Ctx),aH P0 (.fn (.func fF) [] []) [.ag [.sl (L.map aK)]] s cx=.ret (.ag [.sl (M.map aK)]) s:=by
 obtain ⟨r,h1,h2⟩:=TR true L hL
 rcases h2 with ⟨h3,_⟩|⟨M,_,h4,h5,h6,rfl⟩
 ·exact absurd h3 h0
 ·refine ⟨M,h4,h5,h6,fun s cx=>?_⟩
  have:=h1 s cx
  cases L with
  | nil=>exact absurd rfl h0
  | cons a q=>exact this
end Go.Ai.Z
namespace Go.Ai.Z
theorem Ls (hS:aH P0 (.fn (.func iZ) [] []) [] [] ⟨0,0⟩=.ret (.b true) []) (z:Bool) (t1 t2:Int) (cx:Ctx):
  aH P0 (.fn (.func eU) [] []) [Gh z [],.i .i64 t1,.i .i64 t2] [] cx=.ret (.b true) []:=by
 obtain ⟨r,e1,hr⟩:=TR z [] (by simp)
 refine lG (by simp) ?_
 rcases hr with ⟨_,rfl|rfl⟩|⟨M,h0,_⟩
 ·cases z<;>simp [Gh,rowA] at e1<;>simp [au,dI,Gh,rowA,hS,e1,AV.one]
 ·cases z<;>simp [Gh,rowA] at e1<;>simp [au,dI,Gh,rowA,hS,e1,AV.one]
 ·exact absurd rfl h0
theorem Lr (hS:aH P0 (.fn (.func iZ) [] []) [] [] ⟨0,0⟩=.ret (.b true) []) (L:List At) (h:20<L.length) (t1 t2:Int) (cx:Ctx):
  aH P0 (.fn (.func eU) [] []) [.ag [.sl (L.map aK)],.i .i64 t1,.i .i64 t2] [] cx=.ret (.b true) []:=by
 have h1:¬((L.length:Int)=0):=by omega
 have h1':¬(L=[]):=by intro h2;subst h2;simp at h
 have h2:(20:Int)<L.length:=by omega
 have h3:0<L.length:=by omega
 refine lG (by simp) ?_
 simp [au,dI,hS,h1,h1',h2,h3]
theorem Lp (hS:aH P0 (.fn (.func iZ) [] []) [] [] ⟨0,0⟩=.ret (.b true) []) (L:List At) (h0:0<L.length) (h20:L.length≤20) (t1 t2:Int) (cx:Ctx):
  aH P0 (.fn (.func eU) [] []) [.ag [.sl (L.map aK)],.i .i64 t1,.i .i64 t2] [] cx=.ret (.b true) []:=by
 obtain ⟨m1,_,hm1⟩:=Pn t1
 obtain ⟨m2,_,hm2⟩:=Pn t2
 have h1:¬((L.length:Int)=0):=by omega
 have h1':¬(L=[]):=by intro h2;subst h2;simp at h0
 have h2:¬((20:Int)<L.length):=by omega
 have hk1:(m1:Int).tmod (L.length:Int)=((m1 % L.length:Nat):Int):=rfl
 have hk2:(m2:Int).tmod (L.length:Int)=((m2 % L.length:Nat):Int):=rfl
 have hl1:m1 % L.length<L.length:=Nat.mod_lt _ h0
 have hl2:m2 % L.length<L.length:=Nat.mod_lt _ h0
 generalize m1 % L.length=k at hk1 hl1
 generalize m2 % L.length=n at hk2 hl2
 -- the other part
 let Q:List At:=L.drop k++L.take k++[L[n]]
 have hQ0:Q≠[]:=by simp [Q]
 have hQl:Q.length≤100000:=by simp [Q];omega
 obtain ⟨R,hR0,hR,hRl,eR⟩:=LD h1' (by omega)
 obtain ⟨R1,_,hR1,_,eQ⟩:=LD hQ0 hQl
 obtain ⟨R2,_,hR2,_,eRR⟩:=LD hR0 (by omega)
 have hmem:∀a,a∈L ↔ a∈Q:=by
  intro a
  have h3:a∈L ↔ a∈L.drop k∨a∈L.take k:=by
   conv=>lhs;rw [←List.take_append_drop k L]
   rw [List.mem_append];exact Or.comm
  simp only [Q,List.mem_append,List.mem_singleton]
  constructor
  ·intro h;exact .inl (h3.1 h)
  ·rintro (h|rfl)
   ·exact h3.2 h
   ·exact List.getElem_mem hl2
 have e12:R1=R:=(hR.same hR1 hmem).symm
 have e22:R2=R:=(hR.same hR2 fun a=>by rw [hR.2]).symm
 subst e12 e22
 have eS:=V8 R2 (by omega)
 have hj:=fun s=>O3 R2 (by omega) hR.1 (.sl (Q.map aK)) s ⟨0,0⟩ (R2.length - 1) 0 (by have:=List.length_pos_iff.2 hR0;omega)
 simp at hj hm1 hm2
 have hc6:∀x:At,(aK x).cells.length=6:=fun _=>rfl
 have hkm:k≤L.length:=by omega
 have hdl:0<L.length - k:=by omega
 have hmx:L.length - k≤bK:=by unfold bK;omega
 have hd6:(∀x:AV,x∈List.drop k (L.map aK)→x.cells.length=6)=True:=eq_true fun x hx=>by
  obtain ⟨a,_,rfl⟩:=List.mem_map.1 (List.mem_of_mem_drop hx);rfl
 have ht6:(∀x:AV,x∈List.take k (L.map aK)→x.cells.length=6)=True:=eq_true fun x hx=>by
  obtain ⟨a,_,rfl⟩:=List.mem_map.1 (List.mem_of_mem_take hx);rfl
 have ht0:List.take L.length (L.map aK)=L.map aK:=List.take_of_length_le (by simp)
 have htk:List.take (L.length - k) (List.drop k (L.map aK))=List.drop k (L.map aK):=List.take_of_length_le (by simp)
 have hmx2:L.length≤bK+k:=by unfold bK;omega
 have hQm:List.drop k (L.map aK)++(List.take k (L.map aK)++[aK L[n]])=Q.map aK:=by simp [Q]
 have hmx3:L.length - k+k≤bK:=by unfold bK;omega
 have hmx4:L.length - k+k+1≤bK:=by unfold bK;omega
 refine lG (by simp) ?_
 have f1:∀a:At,List.take 6 (List.map AV.plain1 (aK a).cells)=(aK a).cells:=fun _=>rfl
 have f2:∀a:At,List.take 6 (aK a).cells=(aK a).cells:=fun _=>rfl
 have f3:∀a:At,AV.ag (aK a).cells=aK a:=fun _=>rfl
 have f4:∀a:At,(∀x:AV,x∈(aK a).cells→x.one=true)=True:=fun a=>eq_true fun x hx=>by
  rw [Nr] at hx
  simp only [List.mem_cons,List.not_mem_nil,or_false] at hx
  rcases hx with rfl|rfl|rfl|rfl|rfl|rfl<;>rfl
 have f5:∀a:At,(aK a).plain=aK a:=fun a=>by simp [aK]
 have hmx5:L.length≤bK:=by unfold bK;omega
 have hmx6:L.length+1≤bK:=by unfold bK;omega
 by_cases hk0:k=0
 ·have hQ1:L.map aK++[aK L[n]]=Q.map aK:=by rw [←hQm,hk0];simp
  subst hk0
  simp [au,dI,hS,h1,h1',h2,h0,hm1,hm2,hk1,hk2,hl1,hl2,eR,eQ,eRR,eS,hj,hc6,hmx5,hmx6,hQ1,ht0,f1,f2,f3,f4,f5,pV,splice]
 ·have hkp:0<k:=Nat.pos_of_ne_zero hk0
  simp [au,dI,hS,h1,h1',h2,h0,hm1,hm2,hk1,hk2,hl1,hl2,eR,eQ,eRR,eS,hj,hc6,hkm,hdl,hmx2,hmx3,hmx4,hd6,ht6,hkp,hQm,htk,hmx5,hmx6,f1,f2,f3,f4,f5,pV,splice]
theorem Nu (z:Bool) (L:List At) (t1 t2:Int) (cx:Ctx):aH P0 (.fn (.func eU) [] []) [Gh z L,.i .i64 t1,.i .i64 t2] [] cx=.ret (.b true) []:=by
 match L with
 | []=>exact Ls GN z t1 t2 cx
 | a::r=>
  by_cases h:20<(a::r).length
  ·exact Lr GN (a::r) h t1 t2 cx
  ·exact Lp GN (a::r) (by simp) (by omega) t1 t2 cx
end Go.Ai.Z
