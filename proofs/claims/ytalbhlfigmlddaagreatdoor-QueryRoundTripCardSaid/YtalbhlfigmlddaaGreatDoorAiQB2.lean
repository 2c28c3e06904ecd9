/-
 query.checkAtom.
-/
import Derived.Test.YtalbhlfigmlddaaGreatDoorAiQA5QA6QA7QB1
set_option maxRecDepth 100000
set_option linter.unusedSimpArgs false
set_option linter.unusedVariables false
set_option linter.unusedSectionVars false
namespace Go.Ai.Z
structure At.Ok0 (a:At):Prop where
 n:a.name.length≤1125899906842624
 x:a.x.length≤1125899906842624
 y:a.y.length≤1125899906842624
def BD (a:At):List (List UInt8):=if a.kind=2 then [a.x,a.y] else [a.x]
theorem Ob (a:At) (s:St) (cx:Ctx):aj P0 (.fn (.func qJ) [] []) [aX a] s cx=.ret (.sl ((BD a).map .s)) s:=by
 have hr:List.range 2=[0,1]:=rfl
 refine Lj (by simp) ?_
 by_cases h:a.kind=2
 ·simp [af,oU,aX,BD,h,hr]
 ·simp [af,oU,aX,BD,h]
theorem dn (s:St) (cx:Ctx):aj P0 (.fn (.func uj) [] []) [] s cx=.ret (.ag [.b false,.b false,.b false,.b false,.b true,.b false,.b false,.b true]) s:=by
 refine Qr (by simp) ?_
 simp [af,vJ,jS,splice]
theorem MP (T:List (List UInt8)) (hT:T.length≤10) (hl:∀t∈T,t.length≤1152921504606846976) (s:St) (cx:Ctx):∀(rest:List (List UInt8)) (i:Nat),T.drop i=rest→
  ∃j:Int,bg (au P0.glob (aj P0) cx false jQ) [61,62,63] [(61,.v (.sl (T.map .s))),(62,.v (.i .i64 T.length)),(63,.v (.i .i64 i))] s=
   if rest.all oK=true then .exit 0 [(61,.v (.sl (T.map .s))),(62,.v (.i .i64 T.length)),(63,.v (.i .i64 j)),(64,.v (.b false))] s else .ret [(2,.v (.i .i64 20))] s
 | [],i,h=>by
  have h1:¬i<T.length:=Nat.not_lt.2 (drop_nil h)
  refine ⟨i,ai fun K hK=>?_⟩
  simp [jQ,h1]
 | p::r,i,h=>by
  obtain ⟨h1,h2,h3,h4⟩:=drop_cons h
  have h5:=h4 h3
  have hw:=wI (i:=i) (by omega)
  have hp:p∈T:=by rw [←List.take_append_drop i T,h];simp
  have e1:=QT p (hl p hp)
  obtain ⟨j,ih⟩:=MP T hT hl s cx r (i+1) h2
  refine ⟨j,ai fun K hK=>?_⟩
  rw [←hK,show ((i+1:Nat):Int)=(i:Int)+1 from rfl] at ih
  clear hK
  cases ht:oK p
  ·simp [jQ,h3,h5,hw,e1,ht]
  ·simp only [List.all_cons,ht,Bool.true_and]
   simp [jQ,h3,h5,hw,e1,ht,ih]
def atE (a:At):Int:=
 if a.kind<1∨3<a.kind then 210
 else if (a.kind≠2∧a.y≠[])∨(a.kind≠3∧(a.lo≠0∨a.hi≠0)) then 210
 else if a.lo < -1099511627776∨a.hi<a.lo∨1099511627776<a.hi then 210
 else if yc a.name=false then 20
 else if (BD a).all oK=true then 0 else 20
theorem JR (a:At) (h:a.Ok0) (s:St) (cx:Ctx):aj P0 (.fn (.func nY) [] []) [aX a] s cx=.ret (.i .i64 (atE a)) s:=by
 have e1:=Ob a
 have e2:=xO a.name (by have:=h.n;omega)
 have hT:(BD a).length≤10:=by unfold BD;split<;>simp
 have hTl:∀t∈BD a,t.length≤1152921504606846976:=by
  intro t ht
  have hx:=h.x
  have hy:=h.y
  unfold BD at ht
  split at ht
  ·simp at ht;rcases ht with rfl|rfl<;>omega
  ·simp at ht;subst ht;omega
 obtain ⟨j,hL⟩:=MP (BD a) hT hTl s ⟨s.length,s.length⟩ (BD a) 0 rfl
 rw [show ((0:Nat):Int)=0 from rfl] at hL
 refine Iq (by simp) ?_
 obtain ⟨k,n,x,y,lo,hi⟩:=a
 simp only [aX] at e1
 by_cases k0:k<1
 ·simp [af,aI,aX,atE,k0]
 by_cases k3:3<k
 ·simp [af,aI,aX,atE,k0,k3]
 have hk:k=1∨k=2∨k=3:=by omega
 rcases hk with rfl|rfl|rfl
 ·cases y with
  | cons c y=>simp [af,aI,aX,atE,dn]
  | nil=>
   by_cases h2:lo=0
   ·by_cases h3:hi=0
    ·subst h2 h3
     cases h4:yc n
     ·simp [af,aI,aX,atE,dn,e1,e2,h4]
     ·cases h5:(BD ⟨1,n,x,[],0,0⟩).all oK
      ·simp [h5] at hL;simp [af,aI,aX,atE,dn,e1,e2,h4,h5,hL]
      ·simp [h5] at hL;simp [af,aI,aX,atE,dn,e1,e2,h4,h5,hL]
    ·simp [af,aI,aX,atE,dn,h2,h3]
   ·simp [af,aI,aX,atE,dn,h2]
 ·by_cases h2:lo=0
  ·by_cases h3:hi=0
   ·subst h2 h3
    cases h4:yc n
    ·simp [af,aI,aX,atE,dn,e1,e2,h4]
    ·cases h5:(BD ⟨2,n,x,y,0,0⟩).all oK
     ·simp [h5] at hL;simp [af,aI,aX,atE,dn,e1,e2,h4,h5,hL]
     ·simp [h5] at hL;simp [af,aI,aX,atE,dn,e1,e2,h4,h5,hL]
   ·simp [af,aI,aX,atE,dn,h2,h3]
  ·simp [af,aI,aX,atE,dn,h2]
 ·cases y with
  | cons c y=>simp [af,aI,aX,atE,dn]
  | nil=>
   by_cases h6:lo < -1099511627776
   ·simp [af,aI,aX,atE,dn,h6]
   ·by_cases h7:hi<lo
    ·simp [af,aI,aX,atE,dn,h6,h7]
    ·by_cases h8:1099511627776<hi
     ·simp [af,aI,aX,atE,dn,h6,h7,h8]
     ·cases h4:yc n
      ·simp [af,aI,aX,atE,dn,e1,e2,h4,h6,h7,h8]
      ·cases h5:(BD ⟨3,n,x,[],lo,hi⟩).all oK
       ·simp [h5] at hL;simp [af,aI,aX,atE,dn,e1,e2,h4,h5,hL,h6,h7,h8]
       ·simp [h5] at hL;simp [af,aI,aX,atE,dn,e1,e2,h4,h5,hL,h6,h7,h8]
end Go.Ai.Z
