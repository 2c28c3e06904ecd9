/-
 The parser of queries: parts and queries, at all tokens.
-/
import Derived.Test.YtalbhlfigmlddaaGreatDoorAiQE0QE1QE2
import Derived.Test.YtalbhlfigmlddaaGreatDoorAiQB7QB8QB9Top8
set_option maxRecDepth 100000
set_option linter.unusedSimpArgs false
set_option linter.unusedVariables false
set_option linter.unusedSectionVars false
namespace Go.Ai.Z
open Go.Ai
theorem AX {glob:Nat→Option (List AV)} {call:AV→List AV→St→Ctx→CO} {cx:Ctx} {ops:List aH} {π:List Nat} {env:Env} {s:St} (c:Nat) (pre:List Nat) {oc:aH}
  (h1:XV ops π=some (c,oc)) (h2:wO ops c oc false π=pre)
  (h3:(pre.all fun j=>match ops[j]? with|some o=>o.op.free && (yu o oc || (π.takeWhile fun x=>x != c).contains j)|none=>false)=true):
  wM glob call cx ops π env s=match gY glob call cx ops pre env s with
   | .norm env1 s1=>(match eF glob call cx oc env1 s1 with
    | .pan v' s2=>.pan v' s2
    | _=>.fail)
   | _=>.fail:=by
 unfold wM
 rw [h1]
 simp only [h2]
 exact if_pos h3
def xX:Nat→List Tok→List At→PR (List At)
 | 0,l,_=>qEr l
 | n+1,l,acc=>if isQ He l=true then (DX l.tail).bind fun a l1=>xX n l1 (acc++[a]) else .ok acc l
def DW (l:List Tok):PR (List At):=(DX l).bind fun a l1=>xX l1.length l1 [a]
theorem MV:∀(n:Nat) (l:List Tok) (acc:List At),WT l→Aa l (xX n l acc)
 | 0,l,acc,h=>(xG h).zero
 | n+1,l,acc,h=>by
  unfold xX
  split
  ·rename_i h1
   exact (Good'.isQ h h1 ((wS (h.isQ_tail h1).1).bind fun a l1 _ h2=>MV n l1 _ h2).zero).zero
  ·exact FB _ h
theorem zB {l:List Tok} (h:WT l):Good' l (DW l):=(wS h).bind fun a l1 _ h1=>MV _ _ _ h1
theorem WT.pos {l:List Tok} (h:WT l):0<l.length:=by
 have:=h.ne
 cases l with
 | nil=>exact absurd rfl this
 | cons=>simp
theorem Kq (n:Nat):∀L:List At,bM n (L.map aX)=true
 | []=>rfl
 | a::r=>by simp [bM,aX,AV.under,Kq n r]
theorem aaZ (L:List At):(L.map aX).all (fun e=>e.cells.length == 6)=true:=by simp [aX]
section
variable {S:List Tok→St} {l N:Nat} (hE:Sr S l N)
include hE
theorem acs (cx:Ctx) (hl:cx.lim≤l) (hb:cx.base=N):∀(n:Nat) (r:List Tok) (acc:List At),WT r→r.length≤n→acc.length+r.length≤1000000→acc≠[]→
  ∃m:Nat,bg (au P0.glob (aj P0) cx false jc) [0,2] [(0,.v (.pt l 0)),(2,.bx [.st N (acc.map aX)])] (S r++[.row fA 6 acc.length])=
   match xX n r acc with
   | .ok zs r'=>.exit 0 [(0,.v (.pt l 0)),(2,.bx [.st N (zs.map aX)]),(11,.v (.b false))] (S r'++[.row fA 6 zs.length])
   | .er a _ r'=>.pan (wrg a) (S r'++[.row fA 6 m])
 | 0,r,acc,h,hn,_,_=>by have:=h.pos;omega
 | n+1,r,acc,h,hn,hlen,hne=>by
  have hN:=hE.n
  have hlt:=hE.lt
  have hA:=hE.app [.row fA 6 acc.length]
  unfold xX
  by_cases c1:isQ He r=true
  ·have e1:=uG hA h c1 cx hl
   obtain ⟨w1,w2⟩:=h.isQ_tail c1
   have e2:=abW hA w1 cx hl
   rw [if_pos c1]
   simp only [He] at e1
   cases x2:DX r.tail with
   | er a e r'=>
    rw [x2] at e2
    refine ⟨acc.length,ai fun K hK=>?_⟩
    simp only [CX] at e2
    simp [jc,e1,e2]
    rw [AX 3 [0,1,2,6]]
    rotate_left
    ·rfl
    ·rfl
    ·rfl
    simp [e2]
   | ok a l1=>
    rw [x2] at e2
    obtain ⟨w3,w4⟩:=(wS w1).ok x2
    obtain ⟨m,ih⟩:=acs cx hl hb n l1 (acc++[a]) w3 (by omega) (by simp;omega) (by simp)
    simp only [PR.bind_ok]
    refine ⟨m,ai fun K hK=>?_⟩
    rw [←hK] at ih
    clear hK
    rw [←ih]
    have hcl:=aaZ acc
    have hm:acc.length+1≤1073741824:=by omega
    have hlim:cx.lim≤N:=by omega
    have hg:(S l1++[dA.row fA 6 acc.length])[N]?=some (.row fA 6 acc.length):=by
     rw [List.getElem?_append_right (by rw [hN];omega),hN];simp
    have hst:(S l1++[dA.row fA 6 acc.length]).set N (.row fA 6 (acc.length+1))=S l1++[.row fA 6 (acc.length+1)]:=by
     rw [List.set_append_right _ _ (by rw [hN];omega),hN];simp
    simp [jc,e1,e2,hN,hcl,hm,hlim,hst,aU,aX]
  ·have e1:=wK hA h (by simpa using c1) cx
   rw [if_neg c1]
   simp only [He] at e1
   refine ⟨0,ai fun K hK=>?_⟩
   simp [jc,e1]
theorem abU {r:List Tok} (h:WT r) (hr:r.length≤900000) (cx:Ctx) (hl:cx.lim≤l):aj P0 (.fn (.func jF) [] []) [.pt l 0] (S r) cx=Ro (fun zs=>.ag [.sl (zs.map aX)]) S (DW r):=by
 refine ED (Ad _ _ _) ?_
 have hN:=hE.n
 unfold DW
 have e1:=abW hE h ⟨cx.lim,N⟩ hl
 cases x1:DX r with
 | er a e r'=>rw [x1] at e1;simp only [CX] at e1;simp [af,jd,hN,e1];rw [AX 3 [0,1,2,6]];rotate_left;exact rfl;exact rfl;exact rfl;simp [hN,e1]
 | ok a l1=>
  rw [x1] at e1
  obtain ⟨w1,w2⟩:=(wS h).ok x1
  obtain ⟨m,e2⟩:=acs hE ⟨cx.lim,N⟩ hl rfl l1.length l1 [a] w1 (Nat.le_refl _) (by simp;omega) (by simp)
  simp only [PR.bind_ok]
  have ht:∀q X,(S q++X).take N=S q:=fun q X=>by rw [List.take_append_of_le_length (by rw [hN];omega),List.take_of_length_le (by rw [hN];omega)]
  cases x2:xX l1.length l1 [a] with
  | er b e r'=>
   rw [x2] at e2
   simp [aX] at e2
   simp [af,jd,hN,e1,e2,aX,aU,ht]
  | ok zs r'=>
   rw [x2] at e2
   simp [aX] at e2
   have hu:=Kq N zs
   simp [af,jd,hN,e1,e2,aX,aU,ht,hu,frz,AV.under]
end
end Go.Ai.Z
namespace Go.Ai.Z
open Go.Ai
def xU:Nat→List Tok→List (List UInt8)→PR (List (List UInt8))
 | 0,l,_=>qEr l
 | n+1,l,acc=>if isQ [63] l=true then (Kw l.tail).bind fun a l1=>xU n l1 (acc++[a]) else .ok acc l
def xW:Nat→List Tok→List (List At)→PR (List (List At))
 | 0,l,_=>qEr l
 | n+1,l,acc=>if isQ qOr l=true then (DW l.tail).bind fun a l1=>xW n l1 (acc++[a]) else .ok acc l
def Ag (l:List Tok):PR (List (List UInt8)×List (List At)):=
 (wo BN l).bind fun _ l1=>(xU l1.length l1 []).bind fun V l2=>(wo Ru l2).bind fun _ l3=>(DW l3).bind fun p l4=>(xW l4.length l4 [p]).bind fun ps l5=>
  if (hT l5).1=4 then .ok (V,ps) l5 else qEr l5
theorem Eu:∀(n:Nat) (l:List Tok) (acc:List (List UInt8)),WT l→Aa l (xU n l acc)
 | 0,l,acc,h=>(xG h).zero
 | n+1,l,acc,h=>by
  unfold xU
  split
  ·rename_i h1
   exact (Good'.isQ h h1 ((Fz (h.isQ_tail h1).1).bind fun a l1 _ h2=>Eu n l1 _ h2).zero).zero
  ·exact FB _ h
theorem MS:∀(n:Nat) (l:List Tok) (acc:List (List At)),WT l→Aa l (xW n l acc)
 | 0,l,acc,h=>(xG h).zero
 | n+1,l,acc,h=>by
  unfold xW
  split
  ·rename_i h1
   exact (Good'.isQ h h1 ((zB (h.isQ_tail h1).1).bind fun a l1 _ h2=>MS n l1 _ h2).zero).zero
  ·exact FB _ h
theorem Aa.ok {α:Type} {l r:List Tok} {x:PR α} {v:α} (h:Aa l x) (hx:x=.ok v r):WT r∧r.length≤l.length:=by
 rw [hx] at h
 obtain ⟨h1,p,h3⟩:=h
 refine ⟨h1, ?_⟩
 rw [h3];simp
def tV (n:Nat):List (List UInt8)→AV
 | []=>.ns
 | V=>.st n (V.map .s)
def tR:List (List UInt8)→St
 | []=>[]
 | V=>[.row ak 1 V.length]
@[simp] theorem ahg (n:Nat) (V:List (List UInt8)):(tV n V).cells=[tV n V]:=by cases V<;>rfl
@[simp] theorem ajG (n:Nat) (V:List (List UInt8)):(tV n V).one=true:=by cases V<;>rfl
theorem afh (n:Nat) (V:List (List UInt8)) (v:List UInt8):tV n (V++[v])=.st n ((V++[v]).map .s):=by cases V<;>rfl
theorem afi (V:List (List UInt8)) (v:List UInt8):tR (V++[v])=[.row ak 1 (V++[v]).length]:=by cases V<;>rfl
def jT (zs:List At):AV:=.ag [.sl (zs.map aX)]
@[simp] theorem ae0 (zs:List At):(jT zs).cells=[.sl (zs.map aX)]:=rfl
@[simp] theorem aeZ (zs:List At):(jT zs).plain=jT zs:=rfl
theorem LH (V:List (List UInt8)):(V.map AV.s).all (fun e=>e.cells.length == 1)=true:=by simp
theorem aa0 (L:List (List At)):(L.map jT).all (fun e=>e.cells.length == 1)=true:=by simp
theorem GZ (n:Nat):∀L:List (List UInt8),bM n (L.map AV.s)=true
 | []=>rfl
 | a::r=>by simp [bM,AV.under,GZ n r]
theorem G5 (n:Nat):∀L:List (List At),bM n (L.map jT)=true
 | []=>rfl
 | a::r=>by simp [bM,jT,AV.under,G5 n r,Kq]
section
variable {S:List Tok→St} {l N:Nat} (hE:Sr S l N)
include hE
theorem Y0 (cx:Ctx) (hl:cx.lim≤l) (hb:cx.base=N):∀(n:Nat) (r:List Tok) (acc:List (List UInt8)),WT r→r.length≤n→acc.length+r.length≤1000000→
  ∃X:St,bg (au P0.glob (aj P0) cx false fQ) [0,2] [(0,.v (.pt l 0)),(2,.bx [tV N acc,.ns])] (S r++tR acc)=
   match xU n r acc with
   | .ok V r'=>.exit 0 [(0,.v (.pt l 0)),(2,.bx [tV N V,.ns]),(6,.v (.b false))] (S r'++tR V)
   | .er a _ r'=>.pan (wrg a) (S r'++X)
 | 0,r,acc,h,hn,_=>by have:=h.pos;omega
 | n+1,r,acc,h,hn,hlen=>by
  have hN:=hE.n
  have hlt:=hE.lt
  have hA:=hE.app (tR acc)
  unfold xU
  by_cases c1:isQ [63] r=true
  ·have e1:=uG hA h c1 cx hl
   obtain ⟨w1,w2⟩:=h.isQ_tail c1
   have e2:=aeO hA w1 cx hl
   rw [if_pos c1]
   cases x2:Kw r.tail with
   | er a e r'=>
    rw [x2] at e2
    refine ⟨tR acc,ai fun K hK=>?_⟩
    simp only [CX] at e2
    simp [fQ,e1,e2]
    rw [AX 3 [0,1,2,6]]
    rotate_left
    ·rfl
    ·rfl
    ·rfl
    simp [e2]
   | ok v l1=>
    rw [x2] at e2
    obtain ⟨w3,w4⟩:=(Fz w1).ok x2
    obtain ⟨X,ih⟩:=Y0 cx hl hb n l1 (acc++[v]) w3 (by omega) (by simp;omega)
    simp only [PR.bind_ok]
    refine ⟨X,ai fun K hK=>?_⟩
    rw [←hK,afh,afi] at ih
    clear hK
    rw [←ih]
    have hcl:=LH acc
    have hm:acc.length+1≤1073741824:=by omega
    have hlim:cx.lim≤N:=by omega
    cases acc with
    | nil=>
     simp only [tR,tV,List.append_nil] at e1 e2 ⊢
     simp [fQ,e1,e2,hN,aU]
    | cons a0 acc=>
     simp only [tR,tV] at e1 e2 ⊢
     have hg:(S l1++[dA.row ak 1 (a0::acc).length])[N]?=some (.row ak 1 (a0::acc).length):=by
      rw [List.getElem?_append_right (by rw [hN];omega),hN];simp
     have hst:(S l1++[dA.row ak 1 (a0::acc).length]).set N (.row ak 1 ((a0::acc).length+1))=S l1++[.row ak 1 ((a0::acc).length+1)]:=by
      rw [List.set_append_right _ _ (by rw [hN];omega),hN];simp
     simp only [List.length_cons] at hm hg hst e1 e2
     simp [fQ,e1,e2,hN,hm,hlim,hst,aU]
  ·have e1:=wK hA h (by simpa using c1) cx
   rw [if_neg c1]
   refine ⟨[],ai fun K hK=>?_⟩
   simp [fQ,e1]
theorem Y5 (cx:Ctx) (hl:cx.lim≤l) (hb:cx.base=N) (V:List (List UInt8)):∀(n:Nat) (r:List Tok) (acc:List (List At)),WT r→r.length≤n→acc.length+r.length≤900000→acc≠[]→
  ∃X:St,bg (au P0.glob (aj P0) cx false iO) [0,2] [(0,.v (.pt l 0)),(2,.bx [tV N V,.st (N+(tR V).length) (acc.map jT)])] (S r++(tR V++[.row eY 1 acc.length]))=
   match xW n r acc with
   | .ok ps r'=>.exit 2 [(0,.v (.pt l 0)),(2,.bx [tV N V,.st (N+(tR V).length) (ps.map jT)]),(24,.v (.b false))] (S r'++(tR V++[.row eY 1 ps.length]))
   | .er a _ r'=>.pan (wrg a) (S r'++X)
 | 0,r,acc,h,hn,_,_=>by have:=h.pos;omega
 | n+1,r,acc,h,hn,hlen,hne=>by
  have hN:=hE.n
  have hlt:=hE.lt
  have hA:=hE.app (tR V++[.row eY 1 acc.length])
  unfold xW
  by_cases c1:isQ qOr r=true
  ·have e1:=uG hA h c1 cx hl
   obtain ⟨w1,w2⟩:=h.isQ_tail c1
   have e2:=abU hA w1 (by omega) cx hl
   rw [if_pos c1]
   simp only [qOr] at e1
   cases x2:DW r.tail with
   | er a e r'=>
    rw [x2] at e2
    refine ⟨tR V++[.row eY 1 acc.length],ai fun K hK=>?_⟩
    simp only [CX] at e2
    simp [iO,e1,e2]
    rw [AX 3 [0,1,2,6]]
    rotate_left
    ·rfl
    ·rfl
    ·rfl
    simp [e2]
   | ok p l1=>
    rw [x2] at e2
    obtain ⟨w3,w4⟩:=(zB w1).ok x2
    obtain ⟨X,ih⟩:=Y5 cx hl hb V n l1 (acc++[p]) w3 (by omega) (by simp;omega) (by simp)
    simp only [PR.bind_ok]
    refine ⟨X,ai fun K hK=>?_⟩
    rw [←hK] at ih
    clear hK
    rw [←ih]
    have hcl:=aa0 acc
    have hm:acc.length+1≤1073741824:=by omega
    have hlim:cx.lim≤N+(tR V).length:=by omega
    have hg:(S l1++(tR V++[dA.row eY 1 acc.length]))[N+(tR V).length]?=some (.row eY 1 acc.length):=by
     rw [←List.append_assoc,List.getElem?_append_right (by simp [hN]),List.length_append,hN];simp
    have hst:(S l1++(tR V++[dA.row eY 1 acc.length])).set (N+(tR V).length) (.row eY 1 (acc.length+1))=S l1++(tR V++[.row eY 1 (acc.length+1)]):=by
     rw [←List.append_assoc,List.set_append_right _ _ (by simp [hN]),List.length_append,hN];simp
    have ha:AV.ag [.sl (p.map aX)]=jT p:=rfl
    simp [iO,e1,e2,hN,hm,hlim,hst,aU,ha]
  ·have e1:=wK hA h (by simpa using c1) cx
   rw [if_neg c1]
   simp only [qOr] at e1
   refine ⟨[],ai fun K hK=>?_⟩
   simp [iO,e1]
def yC (q:List (List UInt8)×List (List At)):AV:=.ag [slf true (q.1.map .s),.sl (q.2.map jT)]
theorem adK {r:List Tok} (h:WT r) (hr:r.length≤800000) (cx:Ctx) (hl:cx.lim≤l):aj P0 (.fn (.func dY) [] []) [.pt l 0] (S r) cx=Ro yC S (Ag r):=by
 refine Dz (Ad _ _ _) ?_
 have hN:=hE.n
 have hlt:=hE.lt
 have ht:∀q X,(S q++X).take N=S q:=fun q X=>by rw [List.take_append_of_le_length (by rw [hN];omega),List.take_of_length_le (by rw [hN];omega)]
 have hfin:∀q (X:St) v,(if X=[] then CO.ret v (S q++X) else CO.ret v (S q))=CO.ret v (S q):=fun q X v=>by split<;>simp [*]
 unfold Ag
 have e1:=Kv hE h BN ⟨cx.lim,N⟩ hl
 simp only [BN] at e1
 cases x1:wo BN r with
 | er a e r'=>simp only [BN] at x1;rw [x1] at e1;simp [af,cu,hN,e1]
 | ok _ l1=>
  obtain ⟨w1,n1⟩:=(lu h).ok x1
  simp only [BN] at x1
  rw [x1] at e1
  obtain ⟨X,e2⟩:=Y0 hE ⟨cx.lim,N⟩ hl rfl l1.length l1 [] w1 (Nat.le_refl _) (by simp;omega)
  simp only [PR.bind_ok]
  rw [show tV N []=.ns from rfl,show tR []=[] from rfl,List.append_nil] at e2
  cases x2:xU l1.length l1 [] with
  | er a e r'=>
   rw [x2] at e2
   simp [af,cu,hN,e1,e2,ht,hfin]
  | ok V l2=>
   rw [x2] at e2
   obtain ⟨w2,n2⟩:=(Eu _ _ _ w1).ok x2
   have hA:=hE.app (tR V)
   have e3:=Kv hA w2 Ru ⟨cx.lim,N⟩ hl
   simp only [PR.bind_ok]
   cases x3:wo Ru l2 with
   | er a e r'=>
    rw [x3] at e3
    simp only [Ru,CX] at e3
    simp [af,cu,hN,e1,e2,e3,ht,hfin]
   | ok _ l3=>
    rw [x3] at e3
    obtain ⟨w3,n3⟩:=(lu w2).ok x3
    simp only [Ru,Vb] at e3
    have e4:=abU hA w3 (by omega) ⟨cx.lim,N⟩ hl
    simp only [PR.bind_ok]
    cases x4:DW l3 with
    | er a e r'=>
     rw [x4] at e4
     simp only [CX] at e4
     simp [af,cu,hN,e1,e2,e3,e4]
     rw [AX 3 [0,1,2,6]]
     rotate_left
     ·rfl
     ·rfl
     ·rfl
     simp [e4,hN,ht,hfin]
    | ok p l4=>
     rw [x4] at e4
     obtain ⟨w4,n4⟩:=(zB w3).ok x4
     simp only [Vb] at e4
     have ha:AV.ag [.sl (p.map aX)]=jT p:=rfl
     rw [ha] at e4
     obtain ⟨Y,e5⟩:=Y5 hE ⟨cx.lim,N⟩ hl rfl V l4.length l4 [p] w4 (Nat.le_refl _) (by simp;omega) (by simp)
     simp only [PR.bind_ok]
     simp only [List.map_cons,List.map_nil,List.length_cons,List.length_nil] at e5
     cases x5:xW l4.length l4 [p] with
     | er a e r'=>
      rw [x5] at e5
      simp [af,cu,hN,e1,e2,e3,e4,e5,ht,hfin,aU]
     | ok ps l5=>
      rw [x5] at e5
      obtain ⟨w5,n5⟩:=(MS _ _ _ w4).ok x5
      have hB:=hE.app (tR V++[.row eY 1 ps.length])
      have hc:=hB.cell l5
      have e6:=Pj hB w5
      obtain ⟨t,u,rfl⟩:∃t u,l5=t::u:=by cases w5 with|fin a=>exact ⟨_,_,rfl⟩|cons t u=>exact ⟨t,u,rfl⟩
      unfold qO at hc
      simp only [PR.bind_ok]
      by_cases c6:(Z.hT (t::u)).1=4
      ·have hu1:=GZ N V
       have hu2:=G5 N ps
       rw [if_pos c6]
       simp only [zY] at c6
       have hVp:(tV N V).plain1=slf true (V.map .s):=by cases V<;>rfl
       have hVu:(slf true (V.map AV.s)).under N=true:=by
        cases V with
        | nil=>rfl
        | cons a V=>simpa [slf,AV.under] using hu1
       simp [af,cu,hN,e1,e2,e3,e4,e5,ht,hfin,aU,hc,fM,c6,hVp,frz,AV.under,hVu,hu2,yC]
      ·rw [if_neg c6]
       simp only [zY] at e6 c6
       simp [af,cu,hN,e1,e2,e3,e4,e5,ht,hfin,aU,hc,fM,c6,e6,qEr]
end
end Go.Ai.Z
namespace Go.Ai.Z
open Go.Ai
theorem WT.txt_len {l:List Tok} (h:WT l):(txt l).length≤65536:=by
 cases h with
 | fin a=>simp
 | cons t r h1 h2=>exact h1.len
theorem Xi {l r:List Tok} {v:List UInt8} (h:WT l) (hx:CZ l=.ok v r):v.length≤65536:=by
 unfold CZ at hx
 split at hx
 ·cases hx;exact h.txt_len
 ·cases hx
theorem aew {l r:List Tok} {v:List UInt8} (h:WT l) (hx:Kw l=.ok v r):v.length≤65537:=by
 unfold Kw at hx
 split at hx
 ·cases hx;have:=h.txt_len;simp;omega
 ·cases hx
theorem Xg {l r:List Tok} {v:List UInt8} (h:WT l) (hx:AU l=.ok v r):v.length≤65537:=by
 unfold AU at hx
 split at hx
 ·rename_i h1;exact aew (h.isQ_tail h1).1 hx
 ·have:=Xi h hx;omega
theorem PR.ok_bind {α β:Type} {x:PR α} {f:α→List Tok→PR β} {v:β} {r:List Tok} (h:x.bind f=.ok v r):∃u r1,x=.ok u r1∧f u r1=.ok v r:=by
 cases x with
 | ok u r1=>exact ⟨u,r1,rfl,h⟩
 | er a e r1=>cases h
def At.Sh (a:At):Prop:=a.name.length≤65537∧a.x.length≤65537∧a.y.length≤65537
theorem Xj {l r:List Tok} {a:At} (h:WT l) (hx:DX l=.ok a r):a.Sh:=by
 unfold DX at hx
 obtain ⟨nm,l1,h1,hx⟩:=PR.ok_bind hx
 obtain ⟨_,l2,h2,hx⟩:=PR.ok_bind hx
 obtain ⟨x,l3,h3,hx⟩:=PR.ok_bind hx
 have w1:=((Cb h).ok h1).1
 have w2:=((lu w1).ok h2).1
 have w3:=((zA w2).ok h3).1
 have b1:=Xi h h1
 have b3:=Xg w2 h3
 split at hx
 ·rename_i c4
  obtain ⟨y,l4,h4,hx⟩:=PR.ok_bind hx
  obtain ⟨_,l5,h5,hx⟩:=PR.ok_bind hx
  have b4:=Xg (w3.isQ_tail c4).1 h4
  cases hx
  exact ⟨by simp;omega,b3,b4⟩
 ·obtain ⟨_,l4,h4,hx⟩:=PR.ok_bind hx
  split at hx
  ·unfold abX at hx
   obtain ⟨lo,l5,h5,hx⟩:=PR.ok_bind hx
   obtain ⟨_,l6,h6,hx⟩:=PR.ok_bind hx
   obtain ⟨hi,l7,h7,hx⟩:=PR.ok_bind hx
   cases hx
   exact ⟨by simp;omega,b3,by simp⟩
  ·cases hx
   exact ⟨by simp;omega,b3,by simp⟩
def ShP (n:Nat) (zs:List At):Prop:=zs≠[]∧zs.length≤n∧∀a∈zs,a.Sh
theorem TT:∀(n:Nat) {l r:List Tok} {acc zs:List At},WT l→xX n l acc=.ok zs r→∀m,ShP m acc→ShP (m+l.length) zs
 | 0,l,r,acc,zs,_,hx,_,_=>by cases hx
 | n+1,l,r,acc,zs,h,hx,m,hp=>by
  unfold xX at hx
  split at hx
  ·rename_i c1
   obtain ⟨w1,n1⟩:=h.isQ_tail c1
   obtain ⟨a,l1,h1,hx⟩:=PR.ok_bind hx
   obtain ⟨w2,n2⟩:=(wS w1).ok h1
   have ba:=Xj w1 h1
   have:=TT n w2 hx (m+1) ⟨by simp,by have:=hp.2.1;simp;omega,fun b hb=>by
    rcases List.mem_append.1 hb with hb|hb
    ·exact hp.2.2 b hb
    ·simp at hb;rw [hb];exact ba⟩
   exact ⟨this.1,by have:=this.2.1;omega,this.2.2⟩
  ·cases hx
   exact ⟨hp.1,by have:=hp.2.1;omega,hp.2.2⟩
theorem Xh {l r:List Tok} {zs:List At} (h:WT l) (hx:DW l=.ok zs r):ShP (1+l.length) zs:=by
 unfold DW at hx
 obtain ⟨a,l1,h1,hx⟩:=PR.ok_bind hx
 obtain ⟨w2,n2⟩:=(wS h).ok h1
 have ba:=Xj h h1
 have:=TT _ w2 hx 1 ⟨by simp,by simp,by simpa using ba⟩
 exact ⟨this.1,by have:=this.2.1;omega,this.2.2⟩
theorem TS:∀(n:Nat) {l r:List Tok} {acc ps:List (List At)} (K:Nat),WT l→l.length≤K→xW n l acc=.ok ps r→∀m,(acc.length≤m∧acc≠[]∧∀p∈acc,ShP (1+K) p)→ps.length≤m+l.length∧ps≠[]∧∀p∈ps,ShP (1+K) p
 | 0,l,r,acc,zs,_,_,_,hx,_,_=>by cases hx
 | n+1,l,r,acc,zs,K,h,hK,hx,m,hp=>by
  unfold xW at hx
  split at hx
  ·rename_i c1
   obtain ⟨w1,n1⟩:=h.isQ_tail c1
   obtain ⟨a,l1,h1,hx⟩:=PR.ok_bind hx
   obtain ⟨w2,n2⟩:=(zB w1).ok h1
   have ba:=Xh w1 h1
   have:=TS n K w2 (by omega) hx (m+1) ⟨by have:=hp.1;simp;omega,by simp,fun b hb=>by
    rcases List.mem_append.1 hb with hb|hb
    ·exact hp.2.2 b hb
    ·simp at hb;rw [hb];exact ⟨ba.1,by have:=ba.2.1;omega,ba.2.2⟩⟩
   exact ⟨by have:=this.1;omega,this.2⟩
  ·cases hx
   exact ⟨by have:=hp.1;omega,hp.2⟩
theorem TQ:∀(n:Nat) {l r:List Tok} {acc V:List (List UInt8)},WT l→xU n l acc=.ok V r→V.length≤acc.length+l.length
 | 0,l,r,acc,V,_,hx=>by cases hx
 | n+1,l,r,acc,V,h,hx=>by
  unfold xU at hx
  split at hx
  ·rename_i c1
   obtain ⟨w1,n1⟩:=h.isQ_tail c1
   obtain ⟨a,l1,h1,hx⟩:=PR.ok_bind hx
   obtain ⟨w2,n2⟩:=(Fz w1).ok h1
   have:=TQ n w2 hx
   simp at this;omega
  ·cases hx;omega
def pts (ps:List (List At)):List (Bool×List At):=ps.map fun p=>(false,p)
theorem TR {l r:List Tok} {q:List (List UInt8)×List (List At)} (h:WT l) (hl:l.length≤800000) (hx:Ag l=.ok q r):QOk q.1 (pts q.2)∧q.2≠[]∧∀p∈q.2,p≠[]:=by
 unfold Ag at hx
 obtain ⟨_,l1,h1,hx⟩:=PR.ok_bind hx
 obtain ⟨V,l2,h2,hx⟩:=PR.ok_bind hx
 obtain ⟨_,l3,h3,hx⟩:=PR.ok_bind hx
 obtain ⟨p,l4,h4,hx⟩:=PR.ok_bind hx
 obtain ⟨ps,l5,h5,hx⟩:=PR.ok_bind hx
 obtain ⟨w1,n1⟩:=(lu h).ok h1
 obtain ⟨w2,n2⟩:=(Eu _ _ _ w1).ok h2
 obtain ⟨w3,n3⟩:=(lu w2).ok h3
 obtain ⟨w4,n4⟩:=(zB w3).ok h4
 have b2:=TQ _ w1 h2
 have b4:=Xh w3 h4
 have b5:=TS _ l3.length w4 (by omega) h5 1 ⟨by simp,by simp,by simpa using b4⟩
 split at hx
 ·cases hx
  refine ⟨⟨?_, ?_, ?_, ?_⟩,b5.2.1,fun p hp=>(b5.2.2 p hp).1⟩
  ·simp at b2;simp only [];omega
  ·have:=b5.1;simp only [pts,List.length_map];omega
  ·intro p hp
   obtain ⟨p,hp',rfl⟩:=List.mem_map.1 hp
   have:=(b5.2.2 p hp').2.1;simp only [];omega
  ·intro p hp a ha
   obtain ⟨p,hp',rfl⟩:=List.mem_map.1 hp
   have:=(b5.2.2 p hp').2.2 a ha
   exact ⟨by have:=this.1;omega,by have:=this.2.1;omega,by have:=this.2.2;omega⟩
 ·cases hx
theorem WN {q:List (List UInt8)×List (List At)} (h:q.2≠[]) (hp:∀p∈q.2,p≠[]):yC q=pK true q.1 false (pts q.2):=by
 unfold yC pK pts
 have e:(q.2.map fun p=>(false,p)).map encPt=q.2.map jT:=by
  rw [List.map_map]
  refine List.map_congr_left fun p hpm=>?_
  show encPt (false,p)=jT p
  unfold encPt jT
  rw [yR (hp p hpm)]
 rw [e]
 cases hq:q.2 with
 | nil=>exact absurd hq h
 | cons a r=>rfl
theorem agc (T:List Tok) (h:WT T) (hT:T.length≤800000) (s:St) (cx:Ctx) (hcx:cx.lim≤s.length):
  ∃X:St,aj P0 (.fn (.func CW) [] []) [.sl (T.map fM)] s cx=.ret (match Ag T with
   | .ok q _=>.tu [yC q,.i .i64 0,.i .i64 0]
   | .er a _ _=>.tu [.ag [.ns,.ns],.i .i64 a,.i .i64 30]) (s++X):=by
 have hE:Sr (fun r=>s++[qO r]) s.length (s.length+1):=⟨fun r=>by simp,fun r q=>by simp,fun r=>by simp⟩
 have e1:=adK hE h hT cx hcx
 obtain ⟨t,u,rfl⟩:∃t u,T=t::u:=by cases h with|fin a=>exact ⟨_,_,rfl⟩|cons t u=>exact ⟨t,u,rfl⟩
 cases x:Ag (t::u) with
 | ok q r=>
  rw [x] at e1
  refine ⟨[qO r],Bv (A:=P0) (k:=.readK dY oD (.ag [.ns,.ns])) rfl rfl (by simp) ?_⟩
  simp only [Vb,yC] at e1
  have e2:aj P0 (.fn (.func dY) [] []) [.pt s.length 0] (s++[.cells [.sl (fM t::u.map fM)]]) cx=.ret (.ag [slf true (q.1.map .s),.sl (q.2.map jT)]) (s++[qO r]):=e1
  simp [iY,e2,yC]
 | er a e r=>
  rw [x] at e1
  refine ⟨[qO r],Bv (A:=P0) (k:=.readK dY oD (.ag [.ns,.ns])) rfl rfl (by simp) ?_⟩
  simp only [CX,wrg] at e1
  have e2:aj P0 (.fn (.func dY) [] []) [.pt s.length 0] (s++[.cells [.sl (fM t::u.map fM)]]) cx=.pan (.ifc oD (.ag [.i .i64 a])) (s++[qO r]):=e1
  simp [iY,e2]
def VK (src:List UInt8):Sum (List (List UInt8)×List (List At)) (Int×Int):=
 match (lexB src).2 with
 | p::_=>.inr (p.1,10)
 | []=>match Ag (lexB src).1 with
  | .er a _ _=>.inr (a,30)
  | .ok q _=>if chB q.1 (pts q.2)=0 then .inl q else .inr (0,chB q.1 (pts q.2))
def ab4 (src:List UInt8):AV:=
 match VK src with
 | .inl q=>.tu [yC q,.i .i64 0,.i .i64 0]
 | .inr (a,e)=>.tu [.ag [.ns,.ns],.i .i64 a,.i .i64 e]
theorem aaL (X:St) (n:Nat) (q:List (List UInt8)×List (List At)) (a e:Int):frz X n (.tu [yC q,.i .i64 a,.i .i64 e])=some (.tu [yC q,.i .i64 a,.i .i64 e]):=by
 have h1:=GZ n q.1
 have h2:=G5 n q.2
 have h3:(slf true (q.1.map AV.s)).under n=true:=by
  cases hq:q.1 with
  | nil=>rfl
  | cons a V=>rw [hq] at h1;simpa [slf,AV.under] using h1
 simp [frz,AV.under,yC,h2,h3]
theorem WI (X:St) (n:Nat) (a e:Int):frz X n (.tu [.ag [.ns,.ns],.i .i64 a,.i .i64 e])=some (.tu [.ag [.ns,.ns],.i .i64 a,.i .i64 e]):=by simp [frz,AV.under]
theorem Zm (src:List UInt8) (hl:src.length≤65536) (s:St) (cx:Ctx):
  aj P0 (.fn (.func gU) [] []) [.sl (aB src)] s cx=.ret (ab4 src) s:=by
 refine Qu (by simp) ?_
 have hbl:=kz src
 have e1:=abl src hl s ⟨s.length,s.length⟩ (Nat.le_refl _)
 have hs:¬(65536:Int)<src.length:=by omega
 obtain ⟨hw,htw⟩:=YZ hl
 have htl:(lexB src).1.length≤800000:=by
  have:∀l:List Tok,l.length≤tw l:=fun l=>by
   induction l with
   | nil=>exact Nat.le_refl _
   | cons t r ih=>simp only [List.length_cons,tw];omega
  have:=this (lexB src).1
  omega
 unfold ab4 VK
 cases hb:(lexB src).2 with
 | cons p q=>
  rw [hb] at e1
  simp [af,lZ,hbl,hs,e1,zC,splice,jS]
 | nil=>
  rw [hb] at e1
  obtain ⟨X,e2⟩:=agc (lexB src).1 hw htl s ⟨s.length,s.length⟩ (Nat.le_refl _)
  simp only []
  cases x:Ag (lexB src).1 with
  | er a e r=>
   rw [x] at e2
   simp [af,lZ,hbl,hs,e1,e2,splice,jS,WI]
  | ok q r=>
   rw [x] at e2
   obtain ⟨hq,hne,hpe⟩:=TR hw htl x
   have e3:=JV true q.1 false (pts q.2) hq
   rw [←WN hne hpe] at e3
   have hz:=aaL
   simp only [yC] at e2 e3 hz ⊢
   by_cases c:chB q.1 (pts q.2)=0
   ·rw [c] at e3
    simp [af,lZ,hbl,hs,e1,e2,e3,splice,jS,c,hz]
   ·simp [af,lZ,hbl,hs,e1,e2,e3,splice,jS,c,WI]
end Go.Ai.Z
