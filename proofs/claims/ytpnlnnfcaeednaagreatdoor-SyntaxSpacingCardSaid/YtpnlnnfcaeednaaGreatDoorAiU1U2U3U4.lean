/-
 The tokens of a printed axiom.
-/
import Derived.Test.YtpnlnnfcaeednaaGreatDoorAiLex1Lex2Q1Q2
import Derived.Test.YtpnlnnfcaeednaaGreatDoorAiK10K11K12K13K14KJKLKM
import Derived.Test.YtpnlnnfcaeednaaGreatDoorAiT7T8
import Derived.Test.YtpnlnnfcaeednaaGreatDoorAiQ3Q4Q5
set_option maxRecDepth 100000
set_option linter.unusedSimpArgs false
set_option linter.unusedVariables false
set_option linter.unusedSectionVars false
namespace Go.Ai.Z
def G9:List UInt8:=[115,117,98]
def ZR:List UInt8:=[115,97,109,101]
def aar:List UInt8:=[100,105,115,106,111,105,110,116]
def RG:List UInt8:=[100,111,109,97,105,110]
def Fv:List UInt8:=[114,111,108,101]
def AQ:List UInt8:=[99,104,97,105,110]
def FB:List UInt8:=[114,101,102,108,101,120,105,118,101]
def Fb:List UInt8:=[116,121,112,101]
def FP:List UInt8:=[108,105,110,107]
def JI:List UInt8:=[111,112,101,110]
def JF:List UInt8:=[112,114,105,118,97,116,101]
structure Ax.Named (x:Ax):Prop where
 hr:x.kind=4∨x.kind=5∨x.kind=6∨x.kind=7∨x.kind=9→lm x.role=true
 ha:x.kind=8∨x.kind=9→Bd x.a=true
 hb:x.kind=9→Bd x.b=true
 hs:∀r∈x.roles,lm r=true
structure Ax.Bare (x:Ax):Prop where
 l:¬(x.kind=1∨x.kind=2∨x.kind=3)→emptyS x.left=true
 r:¬(x.kind=1∨x.kind=2∨x.kind=3∨x.kind=4∨x.kind=8)→emptyS x.right=true
 s:¬(x.kind=5∨x.kind=6)→x.roles=[]
 role:¬(x.kind=4∨x.kind=5∨x.kind=6∨x.kind=7∨x.kind=9)→x.role=[]
 a:¬(x.kind=8∨x.kind=9)→x.a=[]
 b:x.kind≠9→x.b=[]
end Go.Ai.Z
namespace Go.Ai.Z
def BX (b:Bool) (c:C):Option C:=if b=true then mF c else some (nz c)
def zk (x:Ax):Option Ax:=
 match BX (iE x.kind).l x.left,BX (iE x.kind).r x.right with
 | some p,some q=>if (x.kind=2∨x.kind=3)∧0<kS p q then some { x with left:=q,right:=p,z:=false } else some { x with left:=p,right:=q,z:=false }
 | _,_=>none
def nzA (y:Ax):Ax:={ y with left:=nz y.left,right:=nz y.right,z:=false }
def zn (x:Ax) (y:Ax) (e:Int):Prop:=match zk x with
 | some t=>nzA y=t∧e=0
 | none=>e=2
def zC:C:=.mk 0 [] 0 0 true []
def zA:Ax:=⟨0,false,zC,zC,true,[],[],[],[]⟩
def yu:List AV:=[.i .i64 0,.b false,.i .i64 0,.s [],.i .i64 0,.i .i64 0,.ns,.i .i64 0,.s [],.i .i64 0,.i .i64 0,.ns,.ns,.s [],.s [],.s []]
theorem VG:fO zA=.ag [.i .i64 0,.b false,.i .i64 0,.s [],.i .i64 0,.i .i64 0,.ns,.i .i64 0,.s [],.i .i64 0,.i .i64 0,.ns,.ns,.s [],.s [],.s []]:=rfl
theorem adU (b:Bool) (c:C) (hv:b=true→iH c=0) (hw:wC c≤1000):∃(p:C) (e:Int),BD (BX b c) p e∧wC p≤1000∧(b=false→p=c∧e=0)∧
  (b=true→∀(s:St) (cx:Ctx),ah P0 (.fn (.func iM) [] []) [bD c] s cx=.ret (.tu [bD p,.i .i64 e]) s):=by
 cases b with
 | false=>exact ⟨c,0,by simp [BX,BD],hw,fun _=>⟨rfl,rfl⟩,fun h=>by cases h⟩
 | true=>
  obtain ⟨p,e,h1,_,h2,h3⟩:=VR c (hv rfl) hw
  exact ⟨p,e,by simpa [BX] using h1,h2,(fun h=>by cases h),fun _=>h3⟩
set_option maxHeartbeats 4000000 in
theorem KN (x:Ax) (hx:x.Few) (h0:jV x=0):∃(y:Ax) (e:Int),zn x y e∧wC y.left≤1000∧wC y.right≤1000∧y.roles.length≤600∧
  ∀(s:St) (cx:Ctx),ah P0 (.fn (.func jM) [] []) [fO x] s cx=.ret (.tu [fO y,.i .i64 e]) s:=by
 have hg:=good h0
 have e0:=Jm x hx
 rw [h0] at e0
 have hk:1≤x.kind∧x.kind≤9:=by have:=hg.k;omega
 have b1:0≤x.kind:=by omega
 have b2:x.kind.toNat<10:=by omega
 have b3:7≤70 - x.kind.toNat * 7:=by omega
 have hu:=UU (k:=x.kind) (by omega) (by omega)
 have hvl:(iE x.kind).l=true→iH x.left=0:=fun h=>hg.l (by
  rcases hg.k with k|k|k|k|k|k|k|k|k<;>rw [k] at h<;>simp [iE] at h<;>omega)
 have hvr:(iE x.kind).r=true→iH x.right=0:=fun h=>hg.r (by
  rcases hg.k with k|k|k|k|k|k|k|k|k<;>rw [k] at h<;>simp [iE] at h<;>omega)
 obtain ⟨p,ep,p1,p2,p3,p4⟩:=adU (iE x.kind).l x.left hvl (by have:=hx.l;omega)
 obtain ⟨q,eq,q1,q2,q3,q4⟩:=adU (iE x.kind).r x.right hvr (by have:=hx.r;omega)
 have hro:=hx.roles
 have hcmp:=OY p q p2 q2
 by_cases hel:ep=0
 ·by_cases her:eq=0
  ·by_cases hsw:(x.kind=2∨x.kind=3)∧0<kS p q
   ·refine ⟨{ x with left:=q,right:=p },0, ?_,q2,p2,hro,fun s cx=>?_⟩
    ·simp only [zn,zk,p1.zero hel,q1.zero her];rw [if_pos ⟨hsw.1,by rw [Pz];exact hsw.2⟩];exact ⟨rfl,trivial⟩
    ·refine o9 (by simp) ?_
     clear p1 q1 hvl hvr
     obtain ⟨h23,hc⟩:=hsw
     have hul:(iE x.kind).l=true:=by rcases h23 with k|k<;>rw [k]<;>rfl
     have hur:(iE x.kind).r=true:=by rcases h23 with k|k<;>rw [k]<;>rfl
     have p5:=p4 hul
     have q5:=q4 hur
     rw [hul,hur] at hu
     rw [hel] at p5
     rw [her] at q5
     rcases h23 with k|k<;>have d2:=dk 2 k<;>have d3:=dk 3 k <;>
      simp [af,dS,e0,b1,b2,b3,qf,sW,hu,hcmp,hc,p5,q5,splice,d2,d3]<;>rfl
   ·refine ⟨{ x with left:=p,right:=q },0, ?_,p2,q2,hro,fun s cx=>?_⟩
    ·simp only [zn,zk,p1.zero hel,q1.zero her];rw [if_neg (fun h=>hsw ⟨h.1,by have:=h.2;rwa [Pz] at this⟩)];exact ⟨rfl,trivial⟩
    ·refine o9 (by simp) ?_
     clear p1 q1 hvl hvr
     by_cases h23:x.kind=2∨x.kind=3
     ·have hc:¬0<kS p q:=fun h=>hsw ⟨h23,h⟩
      have hul:(iE x.kind).l=true:=by rcases h23 with k|k<;>rw [k]<;>rfl
      have hur:(iE x.kind).r=true:=by rcases h23 with k|k<;>rw [k]<;>rfl
      have p5:=p4 hul
      have q5:=q4 hur
      rw [hul,hur] at hu
      rw [hel] at p5
      rw [her] at q5
      rcases h23 with k|k<;>have d2:=dk 2 k<;>have d3:=dk 3 k <;>
       simp [af,dS,e0,b1,b2,b3,qf,sW,hu,hcmp,hc,p5,q5,splice,d2,d3]<;>rfl
     ·have d2:decide (x.kind=2)=false:=by simp;omega
      have d3:decide (x.kind=3)=false:=by simp;omega
      rcases hbl:(iE x.kind).l with _ | _<;>rcases hbr:(iE x.kind).r with _ | _<;>rw [hbl,hbr] at hu
      ·obtain ⟨rfl,-⟩:=p3 hbl
       obtain ⟨rfl,-⟩:=q3 hbr
       simp [af,dS,e0,b1,b2,b3,qf,sW,hu,splice,d2,d3]<;>rfl
      ·obtain ⟨rfl,-⟩:=p3 hbl
       have q5:=q4 hbr
       rw [her] at q5
       simp [af,dS,e0,b1,b2,b3,qf,sW,hu,splice,d2,d3,q5]<;>rfl
      ·obtain ⟨rfl,-⟩:=q3 hbr
       have p5:=p4 hbl
       rw [hel] at p5
       simp [af,dS,e0,b1,b2,b3,qf,sW,hu,splice,d2,d3,p5]<;>rfl
      ·have p5:=p4 hbl
       have q5:=q4 hbr
       rw [hel] at p5
       rw [her] at q5
       simp [af,dS,e0,b1,b2,b3,qf,sW,hu,splice,d2,d3,p5,q5]<;>rfl
  ·obtain ⟨n1,n2⟩:=q1.two her
   refine ⟨zA,2,by simp only [zn,zk,p1.zero hel,n1],by decide,by decide,by decide,fun s cx=>?_⟩
   refine o9 (by simp) ?_
   clear p1 q1 hvl hvr
   rw [VG]
   have hbr:(iE x.kind).r=true:=by
    rcases h:(iE x.kind).r with _ | _
    ·exact absurd (q3 h).2 her
    ·rfl
   have q5:=q4 hbr
   rw [n2] at q5
   rcases hbl:(iE x.kind).l with _ | _<;>rw [hbl,hbr] at hu
   ·obtain ⟨rfl,-⟩:=p3 hbl
    simp [af,dS,e0,b1,b2,b3,qf,sW,hu,splice,dX,q5]<;>rfl
   ·have p5:=p4 hbl
    rw [hel] at p5
    simp [af,dS,e0,b1,b2,b3,qf,sW,hu,splice,dX,p5,q5]<;>rfl
 ·obtain ⟨n1,n2⟩:=p1.two hel
  refine ⟨zA,2,by simp only [zn,zk,n1],by decide,by decide,by decide,fun s cx=>?_⟩
  refine o9 (by simp) ?_
  clear p1 q1 hvl hvr
  rw [VG]
  have hbl:(iE x.kind).l=true:=by
   rcases h:(iE x.kind).l with _ | _
   ·exact absurd (p3 h).2 hel
   ·rfl
  have p5:=p4 hbl
  rw [n2] at p5
  rw [hbl] at hu
  simp [af,dS,e0,b1,b2,b3,qf,sW,hu,splice,dX,p5]<;>rfl
theorem zn.same {x y y':Ax} {e e':Int} (h:zn x y e) (h':zn x y' e'):e=e'∧(e=0→nzA y=nzA y'):=by
 unfold zn at h h'
 cases hx:zk x with
 | none=>rw [hx] at h h';simp only at h h';exact ⟨by omega,fun h0=>by omega⟩
 | some t=>rw [hx] at h h';exact ⟨by rw [h.2,h'.2],fun _=>by rw [h.1,h'.1]⟩
end Go.Ai.Z
namespace Go.Ai.Z
section
variable {T:List Tok} {m:AV} {S:Nat→St} {l N:Nat} (hE:BN T m S l N)
include hE
end
end Go.Ai.Z
namespace Go.Ai.Z
def akG (w:List UInt8) (f:Nat) (k:Int):Prop:=(w=RG∧f=iP∧k=4)∨(w=Fv∧f=jo∧k=5)∨(w=AQ∧f=jb∧k=6)∨(w=FB∧f=gm∧k=7)∨
 (w=Fb∧f=iO∧k=8)∨(w=FP∧f=jq∧k=9)
def adY:List (List UInt8):=[RG,Fv,AQ,FB,Fb,FP]
section
variable {T:List Tok} {l:Nat} {S:Nat→St} {N:Nat}
variable (hE:BN T (CV l) S l N)
include hE
theorem Xh {i i1 i2 j:Nat} {bo bp:Bool} (y:Ax) (hk:y.kind=1∨y.kind=2∨y.kind=3) (cx:Ctx) (hl:cx.lim≤l)
  (e1:ah P0 (.fn (.func aF) [] []) [.pt l 0,.s JI] (S i) ⟨cx.lim,N⟩=.ret (.b bo) (S i1))
  (e2:bo=false→ah P0 (.fn (.func aF) [] []) [.pt l 0,.s JF] (S i1) ⟨cx.lim,N⟩=.ret (.b bp) (S i2)) (e2':bo=true→i2=i1∧bp=false)
  {k:Int} {t:List UInt8} {a:Nat} (ht:T[i2]?=some (k,t,a)) (hn:t ∉ adY)
  (e3:ah P0 (.fn (.func gu) [] []) [.pt l 0] (S i2) ⟨cx.lim,N⟩=.ret (fO y) (S j)):
  ah P0 (.fn (.func fA) [] []) [.pt l 0] (S i) cx=.ret (fO { y with op:=bo }) (S j):=by
 have e4:=Eh T hE.len i2 _ (S i2) l (hE.cell i2) k t a ht
 have h1:=hE.cell i2
 have hN:=hE.n
 simp [adY,RG,Fv,AQ,FB,Fb,FP] at hn
 obtain ⟨n1,n2,n3,n4,n5,n6⟩:=hn
 simp only [JI,JF] at e1 e2
 refine sH (by simp) ?_
 unfold psO CV at h1
 have d5:decide (y.kind=5)=false:=by simp;omega
 have d6:decide (y.kind=6)=false:=by simp;omega
 have d7:decide (y.kind=7)=false:=by simp;omega
 cases bo with
 | false=>
  have e2:=e2 rfl
  cases bp<;>simp [af,dM,hN,e1,e2,e3,e4,h1,dN,find,wQ,y5,n1,n2,n3,n4,n5,n6,d5,d6,d7,splice]<;>(try rfl)
 | true=>
  obtain ⟨rfl,rfl⟩:=e2' rfl
  simp [af,dM,hN,e1,e3,e4,h1,dN,find,wQ,y5,n1,n2,n3,n4,n5,n6,d5,d6,d7,splice]
  try rfl
end
end Go.Ai.Z
