/-
 Names, numbers and calls in ontology documents.
-/
import Derived.Test.YtcofenimejmoeaaGreatDoorAiK5K6K7
set_option maxRecDepth 100000
set_option linter.unusedSimpArgs false
set_option linter.unusedVariables false
set_option linter.unusedSectionVars false
namespace Go.Ai.Z
open Go.Lib (itoa decDigits nDigits)
theorem I7 (l:List UInt8) (b:UInt8) (s:St) (cx:Ctx):ai P0 (.fn (.func lN) [] []) [.s l,.s [b]] s cx=.ret (.i .i64 (Go.Lib.indexByte l b)) s:=by
 refine KO (by simp) ?_
 simp [af,rC,UN]
theorem Uh (l:List UInt8) (b:UInt8) (s:St) (cx:Ctx):ai P0 (.fn (.func jy) [] []) [.s l,.s [b]] s cx=.ret (.b (decide (b∈l))) s:=by
 have e1:=I7 l b
 refine Gm (by simp) ?_
 cases hc:kZ b l with
 | none=>
  have hm:=Cb.1 hc
  rw [index_none hc] at e1
  simp [af,jW,e1,hm]
 | some p=>
  obtain ⟨x,y⟩:=p
  have hm:b∈l:=by rw [yg hc];simp
  rw [Iq hc] at e1
  simp [af,jW,e1,hm]
def owN (n:List UInt8):List UInt8:=if (58:UInt8)∈n then n else 58::n
def dL (w:List UInt8) (args:List (List UInt8)):List UInt8:=w++[40]++joinL [32] args++[41]
def ttI:List UInt8:=[34,94,94,120,115,100,58,105,110,116,101,103,101,114]
def Gq (w:List UInt8) (n:Int):List UInt8:=w++[32,34]++itoa n++ttI
theorem bK (n:List UInt8) (hn:n.length≤1000000) (s:St) (cx:Ctx):ai P0 (.fn (.func gq) [] []) [.s n] s cx=.ret (.s (owN n)) s:=by
 have e1:=Uh n 58
 have l1:n.length+1≤4611686018427387904:=by omega
 refine VR (by simp) ?_
 by_cases h:(58:UInt8)∈n<;>simp [af,AQ,e1,h,owN,l1]
theorem dK (w:List UInt8) (args:List (List UInt8)) (hw:w.length≤1000) (hj:(joinL [32] args).length≤1000000) (ha:args.length≤1000000) (s:St) (cx:Ctx):
  ai P0 (.fn (.func lC) [] []) [.s w,.sl (args.map .s)] s cx=.ret (.s (dL w args)) s:=by
 have e1:=Fh args [32] (by omega) (by omega)
 refine VS (by simp) ?_
 unfold dL
 simp [af,AU,e1]
 repeat' (first | (split<;>(try simp only [ay,aA,aB,aI,aJ])<;>(try simp [*])) | (simp only [ay,aA,aB,aI,aJ]<;>(try simp [*]))|omega)
theorem MR (w:List UInt8) (n:Int) (hw:w.length≤1000) (h1:-1099511627776≤n) (h2:n≤1099511627776) (s:St) (cx:Ctx):
  ai P0 (.fn (.func uQ) [] []) [.s w,.i .i64 n] s cx=.ret (.s (Gq w n)) s:=by
 have e1:=Qm n (by omega) (by omega)
 have l1:=Go.Lib.itoa_length_le n (by omega) (by omega)
 refine Uz (by simp) ?_
 unfold Gq ttI
 simp [af,yU,e1]
 repeat' (first | (split<;>(try simp only [ay,aA,aB,aI,aJ])<;>(try simp [*])) | (simp only [ay,aA,aB,aI,aJ]<;>(try simp [*]))|omega)
theorem EI (s:St) (cx:Ctx) (l:List UInt8) (hl:l.length≤1000000):∀(rest:List UInt8) (i:Nat),l.drop i=rest→
  ∃j:Int,eX (au P0.glob (ai P0) cx false jo) [0,3] [(0,.v (.s l)),(3,.v (.i .i64 i))] s=
   match kZ 58 rest with
   | some (x,_)=>.ret [(2,.v (.s (l.take (i+x.length))))] s
   | none=>.exit 0 [(0,.v (.s l)),(3,.v (.i .i64 j)),(7,.v (.b false))] s
 | [],i,h=>by
  have h1:¬i<l.length:=Nat.not_lt.2 (drop_nil h)
  refine ⟨i,aj fun K hK=>?_⟩
  simp [jo,h1,kZ]
 | b::r,i,h=>by
  obtain ⟨h1,h2,h3,h4⟩:=drop_cons h
  have h5:=h4 h3
  have hw:=wI (i:=i) (by omega)
  obtain ⟨j,ih⟩:=EI s cx l hl r (i+1) h2
  refine ⟨j,aj fun K hK=>?_⟩
  rw [←hK] at ih
  clear hK h4
  by_cases hb:b=58
  ·have hi:i≤l.length:=by omega
   simp [jo,h3,h5,hb,kZ,hi]
  ·have hbi:¬((b.toNat:Int)=58):=fun he=>hb (UInt8.toNat_inj.1 (by have:(58:UInt8).toNat=58:=rfl;omega))
   simp at ih
   cases hc:kZ 58 r with
   | none=>
    rw [hc] at ih
    simp at ih
    simp [jo,h3,h5,hb,hbi,kZ,hc,hw,ih]
   | some p=>
    obtain ⟨x,y⟩:=p
    rw [hc] at ih
    simp at ih
    simp [jo,h3,h5,hb,hbi,kZ,hc,hw,ih]
    congr 1
    simp [Nat.add_comm,Nat.add_left_comm]
def nK (n:List UInt8):List UInt8:=match kZ 58 n with|some (x,_)=>x|none=>[]
theorem Fj (n:List UInt8) (hn:n.length≤1000000) (s:St) (cx:Ctx):ai P0 (.fn (.func nP) [] []) [.s n] s cx=.ret (.s (nK n)) s:=by
 obtain ⟨j,h⟩:=EI s ⟨s.length,s.length⟩ n hn n 0 rfl
 refine NG (by simp) ?_
 unfold nK
 cases hc:kZ 58 n with
 | none=>
  rw [hc] at h
  simp at h
  simp [af,pF,h]
 | some p=>
  obtain ⟨x,y⟩:=p
  have hx:n.take x.length=x:=by rw [yg hc];simp
  rw [hc] at h
  simp [hx] at h
  simp [af,pF,h]
theorem Dc {n:List UInt8} (h:kC n=true∨En n=true):(nK n=[] ↔ (58:UInt8) ∉ n)∧n.length≤24:=by
 unfold nK
 rcases h with h|h
 ·unfold kC at h
  rw [Bool.and_eq_true,decide_eq_true_eq] at h
  refine ⟨?_,h.1⟩
  cases hc:kZ 58 n with
  | none=>simp [Cb.1 hc]
  | some p=>
   obtain ⟨x,y⟩:=p
   rw [hc] at h
   have h2:=h.2
   simp only [Bool.and_eq_true] at h2
   have hx:x≠[]:=fun e=>by rw [e] at h2;simp [DN] at h2
   have hm:(58:UInt8)∈n:=by rw [yg hc];simp
   simp [hx,hm]
 ·unfold En at h
  simp only [Bool.and_eq_true,decide_eq_true_eq] at h
  obtain ⟨⟨⟨h1,h2⟩,h3⟩,h4⟩:=h
  refine ⟨?_,h2⟩
  have hno:(58:UInt8) ∉ n:=by
   have ht:∀l:List UInt8,BD l=true→(58:UInt8) ∉ l:=by
    intro l
    induction l with
    | nil=>simp
    | cons b r ih=>
     intro hl
     rw [zk,Bool.and_eq_true] at hl
     simp only [List.mem_cons,not_or]
     refine ⟨?_,ih hl.2⟩
     rintro rfl
     have:Pz 58=false:=by decide
     rw [this] at hl
     exact absurd hl.1 (by decide)
   exact ht n h4
  rw [Cb.2 hno]
  simp [hno]
theorem fK (n:List UInt8) (hn:n.length≤1000000) (hb:nK n=[] ↔ (58:UInt8) ∉ n) (s:St) (cx:Ctx):ai P0 (.fn (.func dU) [] []) [.s n] s cx=.ret (.s (owN n)) s:=by
 have e1:=Fj n hn
 have l1:n.length+1≤4611686018427387904:=by omega
 refine Q7 (by simp) ?_
 unfold owN
 by_cases h:(58:UInt8)∈n
 ·have hne:¬nK n=[]:=fun he=>hb.1 he h
  have hne2:(nK n).isEmpty=false:=by cases hh:nK n<;>simp_all
  simp [af,sO,e1,h,hne,hne2]
 ·have he:=hb.2 h
  rw [he] at e1
  simp [af,sO,e1,h,l1]
theorem TJ:∀(u:Nat),u<9223372036854775808→∀(s:St) (cx:Ctx),ai P0 (.fn (.func l9) [] []) [.i .i64 u] s cx=.ret (.s (decDigits u)) s:=by
 intro u
 induction u using Nat.strongRecOn with
 | ind u ih=>
  intro hu s cx
  refine JA (by simp) ?_
  have h0:¬((u:Int)<0):=by omega
  by_cases h10:u<10
  ·have h1:((u:Int)<10):=by omega
   have w1:IntKind.i64.wrap (48+(u:Int))=48+(u:Int):=w64 (by omega) (by omega)
   have w2:IntKind.u8.wrap (48+(u:Int))=48+(u:Int):=w8 (by omega) (by omega)
   have hn:(48+(u:Int)).toNat=48+u:=by omega
   simp [af,rD,h0,h1,w1,w2,Zr h10,byteOf,hn,List.range_succ]
  ·have h1:¬((u:Int)<10):=by omega
   have q1:IntKind.i64.wrap ((u:Int) / 10)=(u:Int) / 10:=w64 (by omega) (by omega)
   have q2:(u:Int).tmod 10=(u:Int) % 10:=Int.tmod_eq_emod_of_nonneg (by omega)
   have w1:IntKind.i64.wrap (48+(u:Int) % 10)=48+(u:Int) % 10:=w64 (by omega) (by omega)
   have w2:IntKind.u8.wrap (48+(u:Int) % 10)=48+(u:Int) % 10:=w8 (by omega) (by omega)
   have hn:(48+(u:Int) % 10).toNat=48+u % 10:=by omega
   have e1:=ih (u / 10) (by omega) (by omega)
   have l1:=Yi (u:=u / 10) (by omega)
   rw [acs h10]
   have hlen:(decDigits (u / 10)).length+1≤4611686018427387904:=by omega
   simp only [show ((u / 10:Nat):Int)=(u:Int) / 10 from by omega] at e1
   simp [af,rD,h0,h1,q1,q2,w1,w2,hn,e1,hlen,byteOf,List.range_succ]
theorem MP (n:Int) (h0:-9223372036854775807≤n) (h1:n≤9223372036854775807) (s:St) (cx:Ctx):ai P0 (.fn (.func l9) [] []) [.i .i64 n] s cx=.ret (.s (itoa n)) s:=by
 by_cases hneg:n<0
 ·obtain ⟨u,rfl⟩:∃u:Nat,n=-(u:Int):=⟨n.natAbs,by omega⟩
  rw [Go.Lib.itoa_neg u (by omega)]
  refine JA (by simp) ?_
  have hpos:0<u:=by omega
  have w1:IntKind.i64.wrap (u:Int)=(u:Int):=by rw [w64]<;>omega
  have e1:=TJ u (by omega)
  have l1:=Yi (u:=u) (by omega)
  have hlen:(decDigits u).length+1≤4611686018427387904:=by omega
  simp [af,rD,hpos,w1,e1,hlen]
 ·obtain ⟨u,rfl⟩:∃u:Nat,n=u:=⟨n.toNat,by omega⟩
  rw [Go.Lib.itoa_nonneg]
  exact TJ u (by omega) s cx
end Go.Ai.Z
namespace Go.Ai.Z
open Go.Lib (itoa)
mutual
def owC:C→List UInt8
 | .mk k n lo hi _ ps=>
  if k=1 then [111,119,108,58,84,104,105,110,103]
  else if k=2 then [111,119,108,58,78,111,116,104,105,110,103]
  else if k=4 then dL [79,98,106,101,99,116,79,110,101,79,102] [owN n]
  else if k=5 then dL [79,98,106,101,99,116,73,110,116,101,114,115,101,99,116,105,111,110,79,102] (YK ps)
  else if k=6 then dL [79,98,106,101,99,116,83,111,109,101,86,97,108,117,101,115,70,114,111,109] [owN n,(YK ps).headD []]
  else if k=7 then dL [68,97,116,97,83,111,109,101,86,97,108,117,101,115,70,114,111,109] [owN n,dL [68,97,116,97,116,121,112,101,82,101,115,116,114,105,99,116,105,111,110] [[120,115,100,58,105,110,116,101,103,101,114],Gq [120,115,100,58,109,105,110,73,110,99,108,117,115,105,118,101] lo,Gq [120,115,100,58,109,97,120,73,110,99,108,117,115,105,118,101] hi]]
  else owN n
def YK:List C→List (List UInt8)
 | []=>[]
 | c::r=>owC c::YK r
end
theorem X4:∀l:List C,YK l=l.map owC
 | []=>by simp [YK]
 | c::r=>by simp [YK,X4 r]
theorem ug (c:C):owC c=if c.kind=1 then [111,119,108,58,84,104,105,110,103]
  else if c.kind=2 then [111,119,108,58,78,111,116,104,105,110,103]
  else if c.kind=4 then dL [79,98,106,101,99,116,79,110,101,79,102] [owN c.name]
  else if c.kind=5 then dL [79,98,106,101,99,116,73,110,116,101,114,115,101,99,116,105,111,110,79,102] (c.parts.map owC)
  else if c.kind=6 then dL [79,98,106,101,99,116,83,111,109,101,86,97,108,117,101,115,70,114,111,109] [owN c.name,(c.parts.map owC).headD []]
  else if c.kind=7 then dL [68,97,116,97,83,111,109,101,86,97,108,117,101,115,70,114,111,109] [owN c.name,dL [68,97,116,97,116,121,112,101,82,101,115,116,114,105,99,116,105,111,110] [[120,115,100,58,105,110,116,101,103,101,114],Gq [120,115,100,58,109,105,110,73,110,99,108,117,115,105,118,101] c.lo,Gq [120,115,100,58,109,97,120,73,110,99,108,117,115,105,118,101] c.hi]]
  else owN c.name:=by cases c;simp only [owC,X4];rfl
theorem aK (n:List UInt8):(owN n).length≤n.length+1:=by unfold owN;split<;>simp
theorem I8:∀(c:C),ji c=0→(owC c).length+10≤300 * wC c:=by
 refine C.ind' fun c ih hv=>?_
 obtain ⟨v1,v2,v3⟩:=FH hv
 have hw:=nY c
 have hq:c.name.length≤40 * (c.name.length / 40)+39:=by omega
 have hn:=aK c.name
 have hop:∀p∈c.parts,(owC p).length+10≤300 * wC p:=fun p hp=>ih p hp (v3 p hp)
 have hsum:((c.parts.map owC).map fun x=>x.length+([32]:List UInt8).length).sum≤300 * wL c.parts:=by
  clear ih v3 hw
  generalize c.parts=l at hop
  induction l with
  | nil=>simp [wL]
  | cons a r ih=>
   have h1:=hop a (by simp)
   have h2:=ih (fun p hp=>hop p (by simp [hp]))
   simp [wL] at h2 ⊢
   omega
 rw [ug]
 unfold dL Gq ttI
 rcases Hr v1 with k|k|k|k|⟨k,k1,k2,k3⟩|⟨k,k1⟩|⟨k,k1⟩
 ·simp [k];omega
 ·simp [k];omega
 ·simp [k];omega
 ·simp [k,joinL];omega
 ·have l1:=Go.Lib.itoa_length_le c.lo (by omega) (by omega)
  have l2:=Go.Lib.itoa_length_le c.hi (by omega) (by omega)
  simp [k,joinL];omega
 ·rcases hps:c.parts with _|⟨a,r⟩
  ·simp [hps] at k1
  ·have:=hop a (by simp [hps])
   rw [hps] at hw
   simp only [wL] at hw
   simp [k,joinL];omega
 ·have:=EK (c.parts.map owC) [32]
  simp [k]
  simp at this hsum
  omega
theorem GY (s:St) (cx:Ctx) (c:C) (hps:c.parts.length≤100000)
  (ih:∀p∈c.parts,∀(s:St) (cx:Ctx),ai P0 (.fn (.func dZ) [] []) [bn p] s cx=.ret (.s (owC p)) s):
  ∀(rest:List C) (i:Nat) (t:List (List UInt8)),c.parts.drop i=rest→t.length=i→
  ∃j:Int,eX (au P0.glob (ai P0) cx false qC) [3,23,24,25] [(3,.own false ak 1 (t.map .s)),(23,.v (slf c.z (c.parts.map bn))),(24,.v (.i .i64 c.parts.length)),(25,.v (.i .i64 i))] s=
   .exit 1 [(3,.own false ak 1 ((t++rest.map owC).map .s)),(23,.v (slf c.z (c.parts.map bn))),(24,.v (.i .i64 c.parts.length)),(25,.v (.i .i64 j)),(26,.v (.b false))] s
 | [],i,t,h,ht=>by
  have h1:¬i<c.parts.length:=Nat.not_lt.2 (drop_nil h)
  refine ⟨i,aj fun K hK=>?_⟩
  simp [qC,h1]
 | p::r,i,t,h,ht=>by
  obtain ⟨h1,h2,h3,h4⟩:=drop_cons h
  have h5:=h4 h3
  have hp:p∈c.parts:=by rw [←h5];exact List.getElem_mem h3
  have hwi:=wI (i:=i) (by omega)
  obtain ⟨j,ih2⟩:=GY s cx c hps ih r (i+1) (t++[owC p]) h2 (by simp [ht])
  refine ⟨j,aj fun K hK=>?_⟩
  rw [←hK] at ih2
  have e1:=ih p hp
  clear hK h4 ih
  simp at ih2
  have hm:t.length+1≤aP:=by unfold aP;omega
  simp [qC,h3,h5,hwi,e1,hm,ih2,List.range_succ,splice]
theorem kL:∀(c:C),wC c≤1000→ji c=0→∀(s:St) (cx:Ctx),ai P0 (.fn (.func dZ) [] []) [bn c] s cx=.ret (.s (owC c)) s:=by
 refine C.ind' fun c ih hw hv s cx=>?_
 obtain ⟨v1,v2,v3⟩:=FH hv
 have hw':=hw
 rw [nY] at hw'
 have hO:∀p∈c.parts,∀(s:St) (cx:Ctx),ai P0 (.fn (.func dZ) [] []) [bn p] s cx=.ret (.s (owC p)) s:=fun p hp=>
  ih p hp (by have:=wS hp;omega) (v3 p hp)
 have hl:∀p∈c.parts,(owC p).length+10≤300 * wC p:=fun p hp=>I8 p (v3 p hp)
 have hlen:=Ba c.parts
 have htl:=I8 c hv
 have hnl:c.name.length≤100000:=by omega
 have hN:=aK c.name
 have eN:=bK c.name (by omega)
 clear ih
 refine PY (by simp) ?_
 rcases Hr v1 with k|k|k|k|⟨k,k1,k2,k3⟩|⟨k,k1⟩|⟨k,k1⟩
 ·rw [show owC c=_ from by rw [ug,if_pos k]]
  simp [af,iH,kd k]
 ·rw [show owC c=_ from by rw [ug,if_neg (by omega),if_pos k]]
  simp [af,iH,kd k,kn 1 k rfl]
 ·rw [show owC c=owN c.name from by rw [ug,if_neg (by omega),if_neg (by omega),if_neg (by omega),if_neg (by omega),if_neg (by omega),if_neg (by omega)]]
  simp [af,iH,kn 1 k rfl,kn 2 k rfl,kn 4 k rfl,kn 5 k rfl,kn 6 k rfl,kn 7 k rfl,eN]
 ·rw [show owC c=_ from by rw [ug,if_neg (by omega),if_neg (by omega),if_pos k]]
  have e1:=dK [79,98,106,101,99,116,79,110,101,79,102] [owN c.name] (by decide) (by simp [joinL];omega) (by simp)
  simp at e1
  simp [af,iH,kd k,kn 1 k rfl,kn 2 k rfl,eN,e1]
 ·rw [show owC c=_ from by rw [ug,if_neg (by omega),if_neg (by omega),if_neg (by omega),if_neg (by omega),if_neg (by omega),if_pos k]]
  have l1:=Go.Lib.itoa_length_le c.lo (by omega) (by omega)
  have l2:=Go.Lib.itoa_length_le c.hi (by omega) (by omega)
  have e1:=MR [120,115,100,58,109,105,110,73,110,99,108,117,115,105,118,101] c.lo (by decide) (by omega) (by omega)
  have e2:=MR [120,115,100,58,109,97,120,73,110,99,108,117,115,105,118,101] c.hi (by decide) (by omega) (by omega)
  have e3:=dK [68,97,116,97,116,121,112,101,82,101,115,116,114,105,99,116,105,111,110] [[120,115,100,58,105,110,116,101,103,101,114],Gq [120,115,100,58,109,105,110,73,110,99,108,117,115,105,118,101] c.lo,Gq [120,115,100,58,109,97,120,73,110,99,108,117,115,105,118,101] c.hi] (by decide) (by simp [joinL,Gq,ttI];omega) (by simp)
  have e4:=dK [68,97,116,97,83,111,109,101,86,97,108,117,101,115,70,114,111,109] [owN c.name,dL [68,97,116,97,116,121,112,101,82,101,115,116,114,105,99,116,105,111,110] [[120,115,100,58,105,110,116,101,103,101,114],Gq [120,115,100,58,109,105,110,73,110,99,108,117,115,105,118,101] c.lo,Gq [120,115,100,58,109,97,120,73,110,99,108,117,115,105,118,101] c.hi]] (by decide) (by simp [joinL,dL,Gq,ttI];omega) (by simp)
  generalize dL [68,97,116,97,116,121,112,101,82,101,115,116,114,105,99,116,105,111,110] [[120,115,100,58,105,110,116,101,103,101,114],Gq [120,115,100,58,109,105,110,73,110,99,108,117,115,105,118,101] c.lo,Gq [120,115,100,58,109,97,120,73,110,99,108,117,115,105,118,101] c.hi]=Z at *
  simp at e3 e4
  simp [af,iH,kd k,kn 1 k rfl,kn 2 k rfl,kn 4 k rfl,kn 5 k rfl,kn 6 k rfl,eN,e1,e2,e3,e4,List.range_succ]
 ·rcases hps:c.parts with _|⟨a,r⟩
  ·simp [hps] at k1
  ·have e1:=hO a (by simp [hps])
   have l1:=hl a (by simp [hps])
   have hwa:wC a≤1000:=by have:=wS (p:=a) (l:=c.parts) (by simp [hps]);omega
   rw [show owC c=_ from by rw [ug,if_neg (by omega),if_neg (by omega),if_neg (by omega),if_neg (by omega),if_pos k]]
   have e4:=dK [79,98,106,101,99,116,83,111,109,101,86,97,108,117,101,115,70,114,111,109] [owN c.name,owC a] (by decide) (by simp [joinL];omega) (by simp)
   simp at e4
   simp [af,iH,kd k,kn 1 k rfl,kn 2 k rfl,kn 4 k rfl,kn 5 k rfl,eN,e1,e4,hps,List.range_succ]
 ·rw [show owC c=_ from by rw [ug,if_neg (by omega),if_neg (by omega),if_neg (by omega),if_pos k]]
  obtain ⟨j,h⟩:=GY s ⟨s.length,s.length⟩ c (by omega) hO c.parts 0 [] rfl rfl
  have hj:=EK (c.parts.map owC) [32]
  have hs:((c.parts.map owC).map fun x=>x.length+([32]:List UInt8).length).sum≤300 * wL c.parts:=by
   clear hO h hlen htl hN eN hnl hw' hw hj v3 k1
   generalize c.parts=l at hl
   induction l with
   | nil=>simp [wL]
   | cons a r ih=>
    have h1:=hl a (by simp)
    have h2:=ih (fun p hp=>hl p (by simp [hp]))
    simp [wL] at h2 ⊢
    omega
  have e1:=dK [79,98,106,101,99,116,73,110,116,101,114,115,101,99,116,105,111,110,79,102] (c.parts.map owC) (by decide) (by omega) (by simp;omega)
  simp at h e1
  simp [af,iH,kd k,kn 1 k rfl,kn 2 k rfl,kn 4 k rfl,h,e1]
end Go.Ai.Z
namespace Go.Ai.Z
open Go.Lib (itoa)
theorem X6 {c:C} (h:uj c=true) (hk:c.kind=3∨c.kind=4∨c.kind=6∨c.kind=7):(nK c.name=[] ↔ (58:UInt8) ∉ c.name)∧c.name.length≤24:=by
 refine Dc ?_
 unfold uj at h
 rcases hk with k|k|k|k<;>simp [k] at h
 ·exact .inl h
 ·exact h
 ·exact .inl h
 ·exact .inl h
theorem DU (s:St) (cx:Ctx) (c:C) (hps:c.parts.length≤100000)
  (ih:∀p∈c.parts,∀(s:St) (cx:Ctx),ai P0 (.fn (.func dh) [] []) [bn p] s cx=.ret (.s (owC p)) s):
  ∀(rest:List C) (i:Nat) (t:List UInt8),c.parts.drop i=rest→0<i→t.length+(rest.map fun p=>(owC p).length+1).sum≤1000000→
  ∃j:Int,eX (au P0.glob (ai P0) cx false jg) [1,3,4] [(1,.bx (bn c).cells),(3,.v (.s t)),(4,.v (.i .i64 i))] s=
   .exit 1 [(1,.bx (bn c).cells),(3,.v (.s (t++(rest.map owC).flatMap fun y=>[32]++y))),(4,.v (.i .i64 j)),(24,.v (.b false))] s
 | [],i,t,h,hi,ht=>by
  have h1:¬i<c.parts.length:=Nat.not_lt.2 (drop_nil h)
  refine ⟨i,aj fun K hK=>?_⟩
  simp [jg,h1]
 | p::r,i,t,h,hi,ht=>by
  obtain ⟨h1,h2,h3,h4⟩:=drop_cons h
  have h5:=h4 h3
  have hp:p∈c.parts:=by rw [←h5];exact List.getElem_mem h3
  have hwi:=wI (i:=i) (by omega)
  simp only [List.map_cons,List.sum_cons] at ht
  obtain ⟨j,ih2⟩:=DU s cx c hps ih r (i+1) (t++[32]++owC p) h2 (by omega) (by simp;omega)
  refine ⟨j,aj fun K hK=>?_⟩
  rw [←hK] at ih2
  have e1:=ih p hp
  clear hK h4 ih
  simp at ih2
  have l1:t.length+1≤4611686018427387904:=by omega
  have l2:t.length+(1+(owC p).length)≤4611686018427387904:=by omega
  have l3:t.length+((owC p).length+1)≤4611686018427387904:=by omega
  simp [jg,h3,h5,hwi,hi,e1,l1,l2,l3,ih2]
theorem adk {l:List C} (h:∀p∈l,(owC p).length+10≤300 * wC p):(l.map fun p=>(owC p).length+1).sum≤300 * wL l:=by
 induction l with
 | nil=>simp
 | cons a r ih=>
  have h1:=h a (by simp)
  have h2:=ih (fun p hp=>h p (by simp [hp]))
  simp [wL];omega
theorem jk:∀(c:C),wC c≤1000→ji c=0→∀(s:St) (cx:Ctx),ai P0 (.fn (.func dh) [] []) [bn c] s cx=.ret (.s (owC c)) s:=by
 refine C.ind' fun c ih hw hv s cx=>?_
 obtain ⟨v1,v2,v3⟩:=FH hv
 have hw':=hw
 rw [nY] at hw'
 have hO:∀p∈c.parts,∀(s:St) (cx:Ctx),ai P0 (.fn (.func dh) [] []) [bn p] s cx=.ret (.s (owC p)) s:=fun p hp=>
  ih p hp (by have:=wS hp;omega) (v3 p hp)
 have hl:∀p∈c.parts,(owC p).length+10≤300 * wC p:=fun p hp=>I8 p (v3 p hp)
 have hlen:=Ba c.parts
 have hnl:c.name.length≤100000:=by omega
 have hN:=aK c.name
 clear ih
 refine KP (by simp) ?_
 rcases Hr v1 with k|k|k|k|⟨k,k1,k2,k3⟩|⟨k,k1⟩|⟨k,k1⟩
 ·rw [show owC c=_ from by rw [ug,if_pos k]]
  simp [af,fV,kd k]
 ·rw [show owC c=_ from by rw [ug,if_neg (by omega),if_pos k]]
  simp [af,fV,kd k,kn 1 k rfl]
 ·rw [show owC c=owN c.name from by rw [ug,if_neg (by omega),if_neg (by omega),if_neg (by omega),if_neg (by omega),if_neg (by omega),if_neg (by omega)]]
  have eN:=fK c.name (by omega) (X6 v2 (by simp [k])).1
  simp [af,fV,kn 1 k rfl,kn 2 k rfl,kn 4 k rfl,kn 5 k rfl,kn 6 k rfl,kn 7 k rfl,eN]
 ·rw [show owC c=_ from by rw [ug,if_neg (by omega),if_neg (by omega),if_pos k]]
  have eN:=fK c.name (by omega) (X6 v2 (by simp [k])).1
  generalize owN c.name=N at *
  simp [af,fV,kd k,kn 1 k rfl,kn 2 k rfl,eN,dL,joinL]
  clear hO hl v3
  repeat' (first | (split<;>(try simp only [ay,aA,aB,aI,aJ])<;>(try simp [*])) | (simp only [ay,aA,aB,aI,aJ]<;>(try simp [*]))|omega)
 ·rw [show owC c=_ from by rw [ug,if_neg (by omega),if_neg (by omega),if_neg (by omega),if_neg (by omega),if_neg (by omega),if_pos k]]
  have eN:=fK c.name (by omega) (X6 v2 (by simp [k])).1
  have l1:=Go.Lib.itoa_length_le c.lo (by omega) (by omega)
  have l2:=Go.Lib.itoa_length_le c.hi (by omega) (by omega)
  have e1:=MP c.lo (by omega) (by omega)
  have e2:=MP c.hi (by omega) (by omega)
  generalize owN c.name=N at *
  simp [af,fV,kd k,kn 1 k rfl,kn 2 k rfl,kn 4 k rfl,kn 5 k rfl,kn 6 k rfl,eN,e1,e2,dL,Gq,ttI,joinL]
  clear hO hl v3
  repeat' (first | (split<;>(try simp only [ay,aA,aB,aI,aJ])<;>(try simp [*])) | (simp only [ay,aA,aB,aI,aJ]<;>(try simp [*]))|omega)
 ·rcases hps:c.parts with _|⟨a,r⟩
  ·simp [hps] at k1
  ·have e1:=hO a (by simp [hps])
   have l1:=hl a (by simp [hps])
   have hwa:wC a≤1000:=by have:=wS (p:=a) (l:=c.parts) (by simp [hps]);omega
   rw [show owC c=_ from by rw [ug,if_neg (by omega),if_neg (by omega),if_neg (by omega),if_neg (by omega),if_pos k]]
   have eN:=fK c.name (by omega) (X6 v2 (by simp [k])).1
   generalize owN c.name=N at *
   simp [af,fV,kd k,kn 1 k rfl,kn 2 k rfl,kn 4 k rfl,kn 5 k rfl,eN,e1,hps,dL,joinL]
   clear hO hl v3
   repeat' (first | (split<;>(try simp only [ay,aA,aB,aI,aJ])<;>(try simp [*])) | (simp only [ay,aA,aB,aI,aJ]<;>(try simp [*]))|omega)
 ·rcases hps:c.parts with _|⟨a,r⟩
  ·simp [hps] at k1
  ·have hs:=adk hl
   rw [hps] at hs
   simp only [List.map_cons,List.sum_cons] at hs
   rw [show owC c=_ from by rw [ug,if_neg (by omega),if_neg (by omega),if_neg (by omega),if_pos k]]
   obtain ⟨j,h⟩:=DU s ⟨s.length,s.length⟩ c (by omega) hO r 1 ([79,98,106,101,99,116,73,110,116,101,114,115,101,99,116,105,111,110,79,102,40]++owC a) (by rw [hps];rfl) (by omega) (by rw [←hps] at hs;simp;omega)
   have e1:=hO a (by simp [hps])
   have l1:21+(owC a).length≤4611686018427387904:=by rw [←hps] at hs;omega
   have hw1:IntKind.i64.wrap 1=1:=by decide
   have h0:eX (au P0.glob (ai P0) ⟨s.length,s.length⟩ false jg) [1,3,4] [(1,.bx (bn c).cells),(3,.v (.s [79,98,106,101,99,116,73,110,116,101,114,115,101,99,116,105,111,110,79,102,40])),(4,.v (.i .i64 0))] s=
     .exit 1 [(1,.bx (bn c).cells),(3,.v (.s (([79,98,106,101,99,116,73,110,116,101,114,115,101,99,116,105,111,110,79,102,40]++owC a)++(r.map owC).flatMap fun y=>[32]++y))),(4,.v (.i .i64 j)),(24,.v (.b false))] s:=by
    refine aj fun K hK=>?_
    rw [←hK] at h
    clear hK
    simp [hps,k] at h
    simp [jg,hps,e1,hw1,h,k]
    repeat' (first | (split<;>(try simp only [ay,aA,aB,aI,aJ])<;>(try simp [*])) | (simp only [ay,aA,aB,aI,aJ]<;>(try simp [*]))|omega)
   clear h
   have hfl:((r.map owC).flatMap fun y=>([32]:List UInt8)++y).length≤1000000:=by
    have:((r.map owC).flatMap fun y=>([32]:List UInt8)++y).length=(r.map fun p=>(owC p).length+1).sum:=by
     simp [List.length_flatMap,Function.comp_def,Nat.add_comm]
    rw [this];rw [←hps] at hs;omega
   have hla:(owC a).length≤1000000:=by rw [←hps] at hs;omega
   simp [hps] at h0 hfl
   simp [af,fV,kd k,kn 1 k rfl,kn 2 k rfl,kn 4 k rfl,h0,dL,joinL,hps]
   repeat' (first | (split<;>(try simp only [ay,aA,aB,aI,aJ])<;>(try simp [*])) | (simp only [ay,aA,aB,aI,aJ]<;>(try simp [*]))|omega)
end Go.Ai.Z
