/-
 The fields of a line: strings.Split at one byte; readers, labels and the words of requests.
-/
import Derived.Test.YtdjjghikaijfpaaGreatDoorAiK8K9K10K11K12
import Derived.Test.YtdjjghikaijfpaaGreatDoorAiQA5QA6QA7QB1QB2
import Derived.Test.YtdjjghikaijfpaaGreatDoorAiQE0QE1QE2
import Derived.Test.YtdjjghikaijfpaaGreatDoorAiQB3QB4QB5QB6
import Derived.Test.YtdjjghikaijfpaaGreatDoorAiKGKHK5K6K7InjInj2Inj3Inj4KIT1KHQ
import Derived.Test.YtdjjghikaijfpaaGreatDoorAiQE10QE11
set_option maxRecDepth 100000
set_option linter.unusedSimpArgs false
set_option linter.unusedVariables false
set_option linter.unusedSectionVars false
namespace Go.Ai.Z
open Go.Ai
def splitB (b:UInt8):List UInt8→List (List UInt8)
 | []=>[[]]
 | c::r=>if c=b then []::splitB b r else (match splitB b r with|h::t=>(c::h)::t | []=>[[c]])
theorem wQ {b:UInt8}:∀{l:List UInt8},mJ b l=none→splitB b l=[l]
 | [],_=>rfl
 | c::r,h=>by
  by_cases hc:c=b
  ·simp [mJ,hc] at h
  ·simp [mJ,hc] at h
   simp [splitB,hc,wQ h]
theorem wP {b:UInt8}:∀{l x y:List UInt8},mJ b l=some (x,y)→splitB b l=x::splitB b y
 | [],_,_,h=>by simp [mJ] at h
 | c::r,x,y,h=>by
  by_cases hc:c=b
  ·simp [mJ,hc] at h
   obtain ⟨rfl,rfl⟩:=h
   simp [splitB,hc]
  ·simp [mJ,hc] at h
   obtain ⟨p,h1,rfl⟩:=h
   simp [splitB,hc,wP h1]
theorem wu {b:UInt8}:∀(l:List UInt8),(splitB b l).length=Lib.countByte l b+1
 | []=>rfl
 | c::r=>by
  have ih:=wu (b:=b) r
  by_cases hc:c=b
  ·simp [splitB,hc,ih,Lib.countByte]
  ·have h1:Lib.countByte (c::r) b=Lib.countByte r b:=by simp [Lib.countByte,List.count_cons,hc]
   rw [h1,←ih]
   cases hs:splitB b r with
   | nil=>rw [hs] at ih;simp at ih
   | cons h t=>simp [splitB,hc,hs]
theorem LM {b:UInt8}:∀(l:List UInt8),(splitB b l).length≤l.length+1:=fun l=>by
 rw [wu]
 have:Lib.countByte l b≤l.length:=List.count_le_length
 omega
def Dh (l:List UInt8):Bool:=(jc l || Gg l) && !decide ((58:UInt8)∈l) && !headB 95 l
theorem FH (l:List UInt8) (hl:l.length≤1152921504606846976) (s:St) (cx:Ctx):aj P0 (.fn (.func kQ) [] []) [.s l] s cx=.ret (.b (Dh l)) s:=by
 have e1:=o7 l hl
 refine MS (by simp) ?_
 cases h:(jc l || Gg l)
 ·rw [h] at e1
  simp at e1
  simp [af,oN,e1,Dh,h]
 ·rw [h] at e1
  simp at e1
  by_cases h2:(58:UInt8)∈l<;>simp [af,oN,e1,Dh,h,FI,IW,h2]
def Oc (l:List UInt8):Bool:=decide (l=[]) || decide (l=[49]) || decide (l=[50])
def Xe (l:List UInt8):Bool:=(splitB 94 l).all Oc
def labS (l:List UInt8):Bool:=match splitB 94 l with
 | h::t=>Dh h && t.all Oc
 | []=>false
theorem YV (s:St) (cx:Ctx) (u:List UInt8) (E:Env) (hE:E=[(15,.v (.b false))]∨E=[(32,.v (.b false))]):
  bF (ay P0.glob (aj P0) cx false bW) [4,5] ((4,.v (.s u))::(5,.v (.b false))::E) s=.exit 0 [(4,.v (.s u)),(16,.v (.b false))] s:=by
 rcases hE with rfl|rfl<;>exact ak fun K hK=>by
  clear hK
  simp [bW]
theorem agn (s:St) (cx:Ctx):∀(n:Nat) (r:List UInt8),r.length=n→r.length≤1152921504606846976→∀E:Env,E=[(15,.v (.b false))]∨E=[(32,.v (.b false))]→
  ∃u,bF (ay P0.glob (aj P0) cx false bW) [4,5] ((4,.v (.s r))::(5,.v (.b true))::E) s=
   if Xe r=true then .exit 0 [(4,.v (.s u)),(16,.v (.b false))] s else .ret [(2,.v (.b false))] s:=by
 intro n
 induction n using Nat.strongRecOn with
 | _ n ih=>
  intro r hn hl E hE
  have e1:=zh r 94 hl
  cases hc:mJ 94 r with
  | none=>
   rw [hc] at e1
   have hs:Xe r=Oc r:=by simp [Xe,wQ hc]
   have e2:=YV s cx [] [(32,.v (.b false))] (.inr rfl)
   rw [hs]
   refine ⟨[], ?_⟩
   clear hs hc hl hn ih
   rcases hE with rfl|rfl
   all_goals
    refine ak fun K hK=>?_
    rw [←hK] at e2
    clear hK
    by_cases h1:r=[]
    ·subst h1;simp [bW,e1,e2,Oc]
    by_cases h2:r=[49]
    ·subst h2;simp [bW,e1,e2,Oc]
    by_cases h3:r=[50]
    ·subst h3;simp [bW,e1,e2,Oc]
    have h4:r.isEmpty=false:=by cases r<;>simp_all
    simp [bW,e1,h1,h2,h3,h4,Oc]
  | some p=>
   obtain ⟨x,y⟩:=p
   rw [hc] at e1
   have hxy:=nM hc
   have hs:Xe r=(Oc x && Xe y):=by simp [Xe,wP hc]
   obtain ⟨u,e2⟩:=ih y.length (by rw [←hn,hxy];simp;omega) y rfl (by rw [hxy] at hl;simp at hl;omega) [(32,.v (.b false))] (.inr rfl)
   rw [hs]
   refine ⟨u, ?_⟩
   clear hs hc hl hn ih hxy
   rcases hE with rfl|rfl
   all_goals
    refine ak fun K hK=>?_
    rw [←hK] at e2
    clear hK
    by_cases h1:x=[]
    ·subst h1;simp [bW,e1,e2,Oc]
    by_cases h2:x=[49]
    ·subst h2;simp [bW,e1,e2,Oc]
    by_cases h3:x=[50]
    ·subst h3;simp [bW,e1,e2,Oc]
    have h4:x.isEmpty=false:=by cases x<;>simp_all
    simp [bW,e1,h1,h2,h3,h4,Oc]
theorem Pg (l:List UInt8) (hl:l.length≤1152921504606846976) (s:St) (cx:Ctx):aj P0 (.fn (.func lX) [] []) [.s l] s cx=.ret (.b (labS l)) s:=by
 have e1:=zh l 94 hl
 refine OZ (by simp) ?_
 cases hc:mJ 94 l with
 | none=>
  rw [hc] at e1
  have hs:labS l=Dh l:=by simp [labS,wQ hc]
  have e2:=FH l hl
  have e0:=fun s cx u=>YV s cx u _ (.inl rfl)
  cases h:Dh l<;>simp [h] at e2<;>simp [af,ny,e1,e2,hs,h,e0]
 | some p=>
  obtain ⟨x,y⟩:=p
  rw [hc] at e1
  have hxy:=nM hc
  have hx:x.length≤1152921504606846976:=by rw [hxy] at hl;simp at hl;omega
  have hs:labS l=(Dh x && Xe y):=by simp [labS,Xe,wP hc]
  have e2:=FH x hx
  obtain ⟨u,e3⟩:=agn s ⟨s.length,s.length⟩ y.length y rfl (by rw [hxy] at hl;simp at hl;omega) _ (.inl rfl)
  cases h:Dh x<;>simp [h] at e2
  ·simp [af,ny,e1,e2,hs,h]
  ·cases h2:Xe y<;>simp [h2] at e3<;>simp [af,ny,e1,e2,hs,h,h2,e3]
end Go.Ai.Z
namespace Go.Ai.Z
open Go.Ai
theorem afD (l:List UInt8) (b:UInt8) (s:St) (cx:Ctx):aj P0 (.fn (.func jV) [] []) [.s l,.s [b]] s cx=.ret (.i .i64 (Go.Lib.indexByte l b)) s:=by
 refine Eg (by simp) ?_
 simp [af,qA,RH]
theorem afE (l:List UInt8) (b:UInt8) (s:St) (cx:Ctx):aj P0 (.fn (.func zW) [] []) [.s l,.s [b]] s cx=.ret (.i .i64 (Lib.countByte l b)) s:=
 rE (h:=Bj XH) rfl rfl
theorem LP (A:List AV) (Z:List AV) (x:List UInt8) (z:AV):splice (A++z::Z) A.length [.s x]=A++.s x::Z:=by
 simp [splice]
theorem abC (b:UInt8) (s:St) (cx:Ctx) (hlim:cx.lim≤s.length):∀(k:Nat) (r:List UInt8) (D:List (List UInt8)),(splitB b r).length=k+1→D.length+r.length≤70000→
  ∃(I:List (List UInt8)) (u:List UInt8),splitB b r=I++[u]∧
  bF (ay P0.glob (aj P0) cx false mD) [0,1,2,3,9,10]
   [(0,.v (.s r)),(1,.v (.s [b])),(2,.v (.i .i64 0)),(3,.v (.i .i64 ((D.length+k:Nat):Int))),(9,.v (.sk s.length 0 1 0 (D.length+k+1))),(10,.v (.i .i64 D.length))]
   (s++[.buf au 1 0 (D.map .s++List.replicate (k+1) (.s []))])=
   .exit 0 [(0,.v (.s u)),(1,.v (.s [b])),(2,.v (.i .i64 0)),(3,.v (.i .i64 ((D.length+k:Nat):Int))),(9,.v (.sk s.length 0 1 0 (D.length+k+1))),(10,.v (.i .i64 ((D.length+k:Nat):Int))),(36,.v (.b false))]
   (s++[.buf au 1 0 ((D++I).map .s++[.s []])])
 | 0,r,D,hk,hl=>by
  have hc:mJ b r=none:=by
   cases hc:mJ b r with
   | none=>rfl
   | some p=>
    obtain ⟨x,y⟩:=p
    rw [wP hc,List.length_cons,wu] at hk
    omega
  refine ⟨[],r,by rw [wQ hc];rfl,ak fun K hK=>?_⟩
  have h1:¬(D.length:Int)<D.length:=by omega
  simp [mD,h1]
 | k+1,r,D,hk,hl=>by
  cases hc:mJ b r with
  | none=>rw [wQ hc] at hk;simp at hk
  | some p=>
   obtain ⟨x,y⟩:=p
   have hxy:=nM hc
   have hsp:=wP hc
   rw [hsp] at hk
   have hk':(splitB b y).length=k+1:=by simpa using hk
   have hl2:D.length+x.length+y.length+1≤70000:=by rw [hxy] at hl;simp at hl;omega
   obtain ⟨I,u,h1,ih⟩:=abC b s cx hlim k y (D++[x]) hk' (by simp;omega)
   refine ⟨x::I,u,by rw [hsp,h1];rfl,ak fun K hK=>?_⟩
   rw [←hK] at ih
   clear hK
   have hw1:IntKind.i64.wrap (x.length:Int)=x.length:=w64 (by omega) (by omega)
   have hw2:IntKind.i64.wrap ((x.length:Int)+1)=x.length+1:=w64 (by omega) (by omega)
   have hw3:=wI (i:=D.length) (by omega)
   have hi:∀s cx,aj P0 (.fn (.func jV) [] []) [.s r,.s [b]] s cx=.ret (.i .i64 x.length) s:=fun s cx=>by
    rw [afD,BA hc]
   have h3:(D.length:Int)<(D.length:Int)+((k:Int)+1):=by omega
   have hneg:¬(x.length:Int)<0:=by omega
   have hsp2:splice (D.map AV.s++List.replicate (k+1+1) (AV.s [])) D.length [.s x]=D.map .s++.s x::List.replicate (k+1) (AV.s []):=by
    have:=LP (D.map .s) (List.replicate (k+1) (AV.s [])) x (.s [])
    rw [List.length_map] at this
    exact this
   have hdz:(D.map AV.s++List.replicate (k+1+1) (AV.s [])).drop (D.length+1)=List.replicate (k+1) (AV.s []):=by
    rw [List.drop_append]
    simp [List.drop_eq_nil_of_le]
   have hd:D.length+(k+1)=(D++[x]).length+k:=by simp;omega
   have ht:r.take x.length=x:=by rw [hxy];simp
   have hdr:r.drop (x.length+1)=y:=by rw [hxy];simp
   have hrl:x.length+1≤r.length:=by rw [hxy];simp
   have hrl2:x.length≤r.length:=by omega
   have hrl3:(0:Int)≤(x.length:Int)+1:=by omega
   have htk:y.take (r.length - (x.length+1))=y:=List.take_of_length_le (by rw [hxy];simp;omega)
   have hD1:D.length<D.length+(k+1)+1:=by omega
   clear hxy hsp hk hl hc
   rw [←hd] at ih
   simp at ih
   simp [mD,h3,hi,hneg,hw1,hw2,hw3,ht,hdr,hrl,hrl2,hrl3,htk,hD1,hdz,hsp2,hlim,ih]
theorem aaZ (l:List UInt8) (b:UInt8) (hl:l.length≤65536) (s:St) (cx:Ctx):
  aj P0 (.fn (.func nO) [] []) [.s l,.s [b],.i .i64 0,.i .i64 (-1)] s cx=.ret (.sl ((splitB b l).map .s)) s:=by
 refine JO (by simp) ?_
 have hn:=wu (b:=b) l
 have ht:=LM (b:=b) l
 generalize hN:Lib.countByte l b=N at hn
 have e1:=afE l b s ⟨s.length,s.length⟩
 rw [hN] at e1
 obtain ⟨I,u,h1,h2⟩:=abC b s ⟨s.length,s.length⟩ (Nat.le_refl _) N l [] hn (by simp;omega)
 have hw1:IntKind.i64.wrap ((N:Int)+1)=N+1:=w64 (by omega) (by omega)
 have hw2:IntKind.i64.wrap ((l.length:Int)+1)=l.length+1:=w64 (by omega) (by omega)
 have hfr:=XK (s:=s) (t:=au) (ver:=0) (I++[u]) (by simp) []
 have hI:I.length=N:=by rw [h1] at hn;simpa using hn
 have hsp2:splice (I.map AV.s++[AV.s []]) N [.s u]=I.map .s++[.s u]:=by
  have:=LP (I.map .s) [] u (.s [])
  rw [List.length_map,hI] at this
  exact this
 rw [h1]
 simp at h2 hfr
 have h3:¬l.length<N:=by omega
 have h4:((N:Int)+1).toNat=N+1:=by omega
 have h5:(0:Int)≤(N:Int)+1:=by omega
 have h6:(N:Int)+1≤16777216:=by omega
 have hw3:IntKind.i64.wrap (N:Int)=N:=w64 (by omega) (by omega)
 have h7:N≤16777215:=by omega
 have h8:(I.map AV.s++[AV.s []]).drop (N+1)=[]:=List.drop_eq_nil_of_le (by simp [hI])
 rw [hI] at hfr
 simp [af,qc,e1,hw1,hw2,hw3,h2,h3,h4,h5,h6,h7,h8,hsp2,hI,hfr]
theorem agQ (l:List UInt8) (b:UInt8) (hl:l.length≤65536) (s:St) (cx:Ctx):
  aj P0 (.fn (.func oG) [] []) [.s l,.s [b]] s cx=.ret (.sl ((splitB b l).map .s)) s:=by
 have e1:=aaZ l b hl s ⟨s.length,s.length⟩
 refine OX (by simp) ?_
 simp [af,uM,e1]
def wdL:List (List UInt8):=[[97,115,107],[99,111,117,110,116],[119,104,121],[100,105,102,102,101,114],[109,101,114,103,101]]
theorem Uy:P0.glob zi=some (wdL.map .s):=rfl
def kwI (w:List UInt8):Int:=if [97,115,107]=w then 1 else if [99,111,117,110,116]=w then 2 else if [119,104,121]=w then 3 else if [100,105,102,102,101,114]=w then 4 else if [109,101,114,103,101]=w then 5 else 0
theorem afC (w:List UInt8) (s:St) (cx:Ctx):aj P0 (.fn (.func uD) [] []) [.s w] s cx=.ret (.i .i64 (kwI w)) s:=by
 have e5:∀s cx,bF (ay P0.glob (aj P0) cx false je) [0,5,6] [(0,.v (.s w)),(5,.v (.ag (wdL.map .s))),(6,.v (.i .i64 5))] s=.exit 0 [(0,.v (.s w)),(5,.v (.ag (wdL.map .s))),(6,.v (.i .i64 5)),(7,.v (.b false))] s:=
  fun s cx=>ak fun K hK=>by simp [je]
 refine QX (by simp) ?_
 have st:∀(i:Nat) (hi:i<5) (x:List UInt8) (hx:wdL[i]?=some x) (s:St) (cx:Ctx) (o:Out)
   (h:bF (ay P0.glob (aj P0) cx false je) [0,5,6] [(0,.v (.s w)),(5,.v (.ag (wdL.map .s))),(6,.v (.i .i64 ((i:Int)+1)))] s=o),
   bF (ay P0.glob (aj P0) cx false je) [0,5,6] [(0,.v (.s w)),(5,.v (.ag (wdL.map .s))),(6,.v (.i .i64 i))] s=if x=w then .ret [(2,.v (.i .i64 ((i:Int)+1)))] s else o:=by
  intro i hi x hx s cx o h
  have h1:(i:Int)<5:=by omega
  have hw:=wI (i:=i) (by omega)
  refine ak fun K hK=>?_
  rw [←hK] at h
  clear hK
  by_cases c:x=w
  ·simp [je,h1,hx,hi,hw,c]
  ·simp [je,h1,hx,hi,hw,c,h]
 have q4:=fun s cx=>st 4 (by omega) _ rfl s cx _ (e5 s cx)
 have q3:=fun s cx=>st 3 (by omega) _ rfl s cx _ (q4 s cx)
 have q2:=fun s cx=>st 2 (by omega) _ rfl s cx _ (q3 s cx)
 have q1:=fun s cx=>st 1 (by omega) _ rfl s cx _ (q2 s cx)
 have q0:=fun s cx=>st 0 (by omega) _ rfl s cx _ (q1 s cx)
 clear st q1 q2 q3 q4 e5
 have l5:wdL.length=5:=rfl
 have t5:(wdL.map AV.s).take 5=wdL.map .s:=rfl
 simp only [Int.natCast_zero] at q0
 simp [af,vU,Uy,l5,t5,q0,kwI]
 repeat' (first | (split<;>(try simp only [dG,dH,dI,gQ,gU])<;>(try simp [*])) | (simp only [dG,dH,dI,gQ,gU]<;>(try simp [*]))|omega)
theorem afB (F:List (List UInt8)) (hF:F≠[]) (hl:(joinL [32] F).length≤60000) (h0:joinL [32] F≠[]) (hn:F.length≤1000) (s:St) (cx:Ctx) (hlim:cx.lim≤s.length):
  aj P0 (.fn (.func kX) [] []) [.ns,.sl (F.map .s)] s cx=.ret (.sk s.length 1 1 0 ((joinL [32] F).length+1)) (s++[.buf sJ 1 1 (ai (joinL [32] F++[10]))]):=by
 refine VF (by simp) ?_
 have e1:=xW F [32] (by omega) (by omega)
 have h1:0<(joinL [32] F).length:=List.length_pos_iff.2 h0
 have h2:(joinL [32] F).length≤aW:=by unfold aW;omega
 have h3:(joinL [32] F).length+1≤aW:=by unfold aW;omega
 have h4:ai (joinL [32] F++[10])=ai (joinL [32] F)++[.i .u8 10]:=by simp [ai]
 have h5:=dM (joinL [32] F)
 rw [h4]
 generalize joinL [32] F=J at *
 simp [af,zf,e1,h1,h2,h3,h5,hlim]
 exact List.take_of_length_le (by rw [h5];exact Nat.le_refl _)
end Go.Ai.Z
namespace Go.Ai.Z
open Go.Ai
def zC:List AV:=[.i .i64 0,.s [],.s [],.s [],.ns,.ns]
def Cj:Nat→Int→List (List UInt8)→Option Int
 | _,_,[]=>none
 | i,a,f::r=>if (if i=0 then Dh f else labS f)=true then Cj (i+1) (a+f.length+1) r else some a
theorem abE (V0 V5 V6 V7:AV) (G:List (List UInt8)) (hG:∀f∈G,f.length≤65536) (hGl:G.length≤10) (s:St) (cx:Ctx):
  ∀(rest:List (List UInt8)) (i:Nat) (a:Int),G.drop i=rest→0≤a→a+65537 * rest.length≤2000000→
  ∃a' j:Int,bF (ay P0.glob (aj P0) cx false fF) [0,2,3,5,6,7,50,51,52]
   [(0,.v V0),(2,.bx zC),(3,.v (.i .i64 a)),(5,.v V5),(6,.v V6),(7,.v V7),(50,.v (.sl (G.map .s))),(51,.v (.i .i64 G.length)),(52,.v (.i .i64 i))] s=
   match Cj i a rest with
   | none=>.exit 0 [(0,.v V0),(2,.bx zC),(3,.v (.i .i64 a')),(5,.v V5),(6,.v V6),(7,.v V7),(50,.v (.sl (G.map .s))),(51,.v (.i .i64 G.length)),(52,.v (.i .i64 j)),(53,.v (.b false))] s
   | some e=>.ret [(2,.bx zC),(3,.v (.i .i64 e)),(4,.v (.i .i64 20))] s
 | [],i,a,h,ha,hb=>by
  have h1:¬i<G.length:=Nat.not_lt.2 (drop_nil h)
  refine ⟨a,i,ak fun K hK=>?_⟩
  simp [fF,h1,Cj]
 | f::r,i,a,h,ha,hb=>by
  obtain ⟨h1,h2,h3,h4⟩:=drop_cons h
  have h5:=h4 h3
  have hfl:=hG f (by rw [←h5];exact List.getElem_mem h3)
  have hwi:=wI (i:=i) (by omega)
  simp only [List.length_cons] at hb
  have hw1:IntKind.i64.wrap ((f.length:Int)+1)=f.length+1:=w64 (by omega) (by omega)
  have hw2:IntKind.i64.wrap (a+((f.length:Int)+1))=a+f.length+1:=by rw [w64 (by omega) (by omega)];omega
  obtain ⟨a',j,ih⟩:=abE V0 V5 V6 V7 G hG hGl s cx r (i+1) (a+f.length+1) h2 (by omega) (by omega)
  have e1:=FH f (by omega)
  have e2:=Pg f (by omega)
  refine ⟨a',j,ak fun K hK=>?_⟩
  rw [←hK] at ih
  clear hK h4
  simp at ih
  by_cases hi:i=0
  ·subst hi
   have hw0:IntKind.i64.wrap 1=1:=by decide
   cases hr:Dh f<;>simp [hr] at e1
   ·simp [fF,h3,h5,hwi,e1,Cj,hr,zC,splice,iI]
   ·simp at ih
    simp [fF,h3,h5,hw0,e1,hw1,hw2,Cj,hr,ih]
  ·have hi1:0<i:=by omega
   cases hr:labS f<;>simp [hr] at e2
   ·simp [fF,h3,h5,hwi,e2,Cj,hr,zC,splice,hi,hi1,iI]
   ·simp [fF,h3,h5,hwi,e2,hw1,hw2,Cj,hr,ih,hi,hi1]
theorem Qp (l:List UInt8) (b:UInt8) (s:St) (cx:Ctx):aj P0 (.fn (.func tC) [] []) [.sl (ai l),.i .u8 b.toNat] s cx=.ret (.i .i64 (Lib.indexByte l b)) s:=
 rE (h:=Bj BB) rfl (by simp [Bj,BB,Js])
def Vo (k:Int) (rd v o:List UInt8) (q:List (List UInt8)×List (List At)):AV:=.ag [.i .i64 k,.s rd,.s v,.s o,slf true (q.1.map .s),.sl (q.2.map jT)]
def ZM:AV:=.tu [.ag zC,.i .i64 0,.i .i64 400]
def Zh (k:Int) (rd v o:List UInt8) (n:Nat) (y:List UInt8):AV:=
 match Tm y with
 | .inl q=>.tu [Vo k rd v o q,.i .i64 0,.i .i64 0]
 | .inr (a,e)=>.tu [.ag zC,.i .i64 (IntKind.i64.wrap ((n:Int)+1+a)),.i .i64 e]
def aao (src:List UInt8):AV:=
 match mJ 10 src with
 | none=>.tu [.ag zC,.i .i64 src.length,.i .i64 400]
 | some (x,y)=>
  match splitB 32 x with
  | [f0,f1,f2]=>
   if kwI f0=0∨kwI f0=4 then ZM
   else (match Cj 0 ((f0.length:Int)+1) [f1,f2] with
    | some e=>.tu [.ag zC,.i .i64 e,.i .i64 20]
    | none=>Zh (kwI f0) f1 f2 [] x.length y)
  | [f0,f1,f2,f3]=>
   if kwI f0=4 then (match Cj 0 ((f0.length:Int)+1) [f1,f2,f3] with
    | some e=>.tu [.ag zC,.i .i64 e,.i .i64 20]
    | none=>Zh 4 f1 f2 f3 x.length y)
   else ZM
  | _=>ZM
theorem Bf {b:UInt8}:∀{l:List UInt8} {f:List UInt8},f∈splitB b l→f.length≤l.length
 | [],f,h=>by simp [splitB] at h;simp [h]
 | c::r,f,h=>by
  by_cases hc:c=b
  ·simp [splitB,hc] at h
   rcases h with rfl|h
   ·simp
   ·have:=Bf h;simp;omega
  ·cases hs:splitB b r with
   | nil=>have:=wu (b:=b) r;rw [hs] at this;simp at this
   | cons g t=>
    simp [splitB,hc,hs] at h
    rcases h with rfl|h
    ·have:=Bf (b:=b) (l:=r) (f:=g) (by rw [hs];simp);simp;omega
    ·have:=Bf (b:=b) (l:=r) (f:=f) (by rw [hs];simp [h]);simp;omega
theorem aeV (w:List UInt8):kwI w=0∨kwI w=1∨kwI w=2∨kwI w=3∨kwI w=4∨kwI w=5:=by
 unfold kwI
 repeat' split
 all_goals simp
theorem Uz (X:St) (n:Nat) (a e:Int):frz X n (.tu [.ag zC,.i .i64 a,.i .i64 e])=some (.tu [.ag zC,.i .i64 a,.i .i64 e]):=by simp [frz,AV.under,zC]
theorem afp (X:St) (n:Nat) (k:Int) (rd v o:List UInt8) (q:List (List UInt8)×List (List At)) (a e:Int):frz X n (.tu [Vo k rd v o q,.i .i64 a,.i .i64 e])=some (.tu [Vo k rd v o q,.i .i64 a,.i .i64 e]):=by
 have h1:=Et n q.1
 have h2:=Eu n q.2
 have h3:(slf true (q.1.map AV.s)).under n=true:=by
  cases hq:q.1 with
  | nil=>rfl
  | cons a V=>rw [hq] at h1;simpa [slf,AV.under] using h1
 simp [frz,AV.under,Vo,h2,h3]
end Go.Ai.Z
