/-
 The parser of queries: parts and queries, at all tokens.
-/
import Derived.Test.YtdjjghikaijfpaaGreatDoorAiQE0QE1QE2
import Derived.Test.YtdjjghikaijfpaaGreatDoorAiQB7QB8QB9
set_option maxRecDepth 100000
set_option linter.unusedSimpArgs false
set_option linter.unusedVariables false
set_option linter.unusedSectionVars false
namespace Go.Ai.Z
open Go.Ai
theorem DU {glob:Nat→Option (List AV)} {call:AV→List AV→St→Ctx→CO} {cx:Ctx} {ops:List aG} {π:List Nat} {env:Env} {s:St} (c:Nat) (pre:List Nat) {oc:aG}
  (h1:aav ops π=some (c,oc)) (h2:yL ops c oc false π=pre)
  (h3:(pre.all fun j=>match ops[j]? with|some o=>o.op.free && (zV o oc || (π.takeWhile fun x=>x != c).contains j)|none=>false)=true):
  yK glob call cx ops π env s=match iC glob call cx ops pre env s with
   | .norm env1 s1=>(match dQ glob call cx oc env1 s1 with
    | .pan v' s2=>.pan v' s2
    | _=>.fail)
   | _=>.fail:=by
 unfold yK
 rw [h1]
 simp only [h2]
 exact if_pos h3
def zM:Nat→List Tok→List At→PR (List At)
 | 0,l,_=>qEr l
 | n+1,l,acc=>if isQ KG l=true then (G5 l.tail).bind fun a l1=>zM n l1 (acc++[a]) else .ok acc l
def GZ (l:List Tok):PR (List At):=(G5 l).bind fun a l1=>zM l1.length l1 [a]
theorem Qe:∀(n:Nat) (l:List Tok) (acc:List At),WT l→CX l (zM n l acc)
 | 0,l,acc,h=>(zD h).zero
 | n+1,l,acc,h=>by
  unfold zM
  split
  ·rename_i h1
   exact (Good'.isQ h h1 ((yS (h.isQ_tail h1).1).bind fun a l1 _ h2=>Qe n l1 _ h2).zero).zero
  ·exact Jl _ h
theorem BG {l:List Tok} (h:WT l):Good' l (GZ l):=(yS h).bind fun a l1 _ h1=>Qe _ _ _ h1
theorem WT.pos {l:List Tok} (h:WT l):0<l.length:=by
 have:=h.ne
 cases l with
 | nil=>exact absurd rfl this
 | cons=>simp
theorem N9 (n:Nat):∀L:List At,dF n (L.map bG)=true
 | []=>rfl
 | a::r=>by simp [dF,bG,AV.under,N9 n r]
theorem adA (L:List At):(L.map bG).all (fun e=>e.cells.length == 6)=true:=by simp [bG]
section
variable {S:List Tok→St} {l N:Nat} (hE:VQ S l N)
include hE
theorem aeS (cx:Ctx) (hl:cx.lim≤l) (hb:cx.base=N):∀(n:Nat) (r:List Tok) (acc:List At),WT r→r.length≤n→acc.length+r.length≤1000000→acc≠[]→
  ∃m:Nat,bF (ay P0.glob (aj P0) cx false ji) [0,2] [(0,.v (.pt l 0)),(2,.bx [.st N (acc.map bG)])] (S r++[.row iG 6 acc.length])=
   match zM n r acc with
   | .ok zs r'=>.exit 0 [(0,.v (.pt l 0)),(2,.bx [.st N (zs.map bG)]),(11,.v (.b false))] (S r'++[.row iG 6 zs.length])
   | .er a _ r'=>.pan (wrg a) (S r'++[.row iG 6 m])
 | 0,r,acc,h,hn,_,_=>by have:=h.pos;omega
 | n+1,r,acc,h,hn,hlen,hne=>by
  have hN:=hE.n
  have hlt:=hE.lt
  have hA:=hE.app [.row iG 6 acc.length]
  unfold zM
  by_cases c1:isQ KG r=true
  ·have e1:=wB hA h c1 cx hl
   obtain ⟨w1,w2⟩:=h.isQ_tail c1
   have e2:=aeu hA w1 cx hl
   rw [if_pos c1]
   simp only [KG] at e1
   cases x2:G5 r.tail with
   | er a e r'=>
    rw [x2] at e2
    refine ⟨acc.length,ak fun K hK=>?_⟩
    simp only [FU] at e2
    simp [ji,e1,e2]
    rw [DU 3 [0,1,2,6]]
    rotate_left
    ·rfl
    ·rfl
    ·rfl
    simp [e2]
   | ok a l1=>
    rw [x2] at e2
    obtain ⟨w3,w4⟩:=(yS w1).ok x2
    obtain ⟨m,ih⟩:=aeS cx hl hb n l1 (acc++[a]) w3 (by omega) (by simp;omega) (by simp)
    simp only [PR.bind_ok]
    refine ⟨m,ak fun K hK=>?_⟩
    rw [←hK] at ih
    clear hK
    rw [←ih]
    have hcl:=adA acc
    have hm:acc.length+1≤1073741824:=by omega
    have hlim:cx.lim≤N:=by omega
    have hg:(S l1++[dJ.row iG 6 acc.length])[N]?=some (.row iG 6 acc.length):=by
     rw [List.getElem?_append_right (by rw [hN];omega),hN];simp
    have hst:(S l1++[dJ.row iG 6 acc.length]).set N (.row iG 6 (acc.length+1))=S l1++[.row iG 6 (acc.length+1)]:=by
     rw [List.set_append_right _ _ (by rw [hN];omega),hN];simp
    simp [ji,e1,e2,hN,hcl,hm,hlim,hst,aW,bG]
  ·have e1:=yJ hA h (by simpa using c1) cx
   rw [if_neg c1]
   simp only [KG] at e1
   refine ⟨0,ak fun K hK=>?_⟩
   simp [ji,e1]
theorem aer {r:List Tok} (h:WT r) (hr:r.length≤900000) (cx:Ctx) (hl:cx.lim≤l):aj P0 (.fn (.func jO) [] []) [.pt l 0] (S r) cx=Vk (fun zs=>.ag [.sl (zs.map bG)]) S (GZ r):=by
 refine Il (CZ _ _ _) ?_
 have hN:=hE.n
 unfold GZ
 have e1:=aeu hE h ⟨cx.lim,N⟩ hl
 cases x1:G5 r with
 | er a e r'=>rw [x1] at e1;simp only [FU] at e1;simp [af,jk,hN,e1];rw [DU 3 [0,1,2,6]];rotate_left;exact rfl;exact rfl;exact rfl;simp [hN,e1]
 | ok a l1=>
  rw [x1] at e1
  obtain ⟨w1,w2⟩:=(yS h).ok x1
  obtain ⟨m,e2⟩:=aeS hE ⟨cx.lim,N⟩ hl rfl l1.length l1 [a] w1 (Nat.le_refl _) (by simp;omega) (by simp)
  simp only [PR.bind_ok]
  have ht:∀q X,(S q++X).take N=S q:=fun q X=>by rw [List.take_append_of_le_length (by rw [hN];omega),List.take_of_length_le (by rw [hN];omega)]
  cases x2:zM l1.length l1 [a] with
  | er b e r'=>
   rw [x2] at e2
   simp [bG] at e2
   simp [af,jk,hN,e1,e2,bG,aW,ht]
  | ok zs r'=>
   rw [x2] at e2
   simp [bG] at e2
   have hu:=N9 N zs
   simp [af,jk,hN,e1,e2,bG,aW,ht,hu,frz,AV.under]
end
end Go.Ai.Z
namespace Go.Ai.Z
open Go.Ai
def zK:Nat→List Tok→List (List UInt8)→PR (List (List UInt8))
 | 0,l,_=>qEr l
 | n+1,l,acc=>if isQ [63] l=true then (Oj l.tail).bind fun a l1=>zK n l1 (acc++[a]) else .ok acc l
def zL:Nat→List Tok→List (List At)→PR (List (List At))
 | 0,l,_=>qEr l
 | n+1,l,acc=>if isQ qOr l=true then (GZ l.tail).bind fun a l1=>zL n l1 (acc++[a]) else .ok acc l
def Di (l:List Tok):PR (List (List UInt8)×List (List At)):=
 (yw EM l).bind fun _ l1=>(zK l1.length l1 []).bind fun V l2=>(yw Vp l2).bind fun _ l3=>(GZ l3).bind fun p l4=>(zL l4.length l4 [p]).bind fun ps l5=>
  if (hT l5).1=4 then .ok (V,ps) l5 else qEr l5
theorem Ie:∀(n:Nat) (l:List Tok) (acc:List (List UInt8)),WT l→CX l (zK n l acc)
 | 0,l,acc,h=>(zD h).zero
 | n+1,l,acc,h=>by
  unfold zK
  split
  ·rename_i h1
   exact (Good'.isQ h h1 ((Jk (h.isQ_tail h1).1).bind fun a l1 _ h2=>Ie n l1 _ h2).zero).zero
  ·exact Jl _ h
theorem Qd:∀(n:Nat) (l:List Tok) (acc:List (List At)),WT l→CX l (zL n l acc)
 | 0,l,acc,h=>(zD h).zero
 | n+1,l,acc,h=>by
  unfold zL
  split
  ·rename_i h1
   exact (Good'.isQ h h1 ((BG (h.isQ_tail h1).1).bind fun a l1 _ h2=>Qd n l1 _ h2).zero).zero
  ·exact Jl _ h
theorem CX.ok {α:Type} {l r:List Tok} {x:PR α} {v:α} (h:CX l x) (hx:x=.ok v r):WT r∧r.length≤l.length:=by
 rw [hx] at h
 obtain ⟨h1,p,h3⟩:=h
 refine ⟨h1, ?_⟩
 rw [h3];simp
def tV (n:Nat):List (List UInt8)→AV
 | []=>.ns
 | V=>.st n (V.map .s)
def tR:List (List UInt8)→St
 | []=>[]
 | V=>[.row au 1 V.length]
@[simp] theorem ajF (n:Nat) (V:List (List UInt8)):(tV n V).cells=[tV n V]:=by cases V<;>rfl
@[simp] theorem amh (n:Nat) (V:List (List UInt8)):(tV n V).one=true:=by cases V<;>rfl
theorem ahK (n:Nat) (V:List (List UInt8)) (v:List UInt8):tV n (V++[v])=.st n ((V++[v]).map .s):=by cases V<;>rfl
theorem ahL (V:List (List UInt8)) (v:List UInt8):tR (V++[v])=[.row au 1 (V++[v]).length]:=by cases V<;>rfl
def jT (zs:List At):AV:=.ag [.sl (zs.map bG)]
@[simp] theorem ahp (zs:List At):(jT zs).cells=[.sl (zs.map bG)]:=rfl
@[simp] theorem aho (zs:List At):(jT zs).plain=jT zs:=rfl
theorem O9 (V:List (List UInt8)):(V.map AV.s).all (fun e=>e.cells.length == 1)=true:=by simp
theorem adB (L:List (List At)):(L.map jT).all (fun e=>e.cells.length == 1)=true:=by simp
theorem Et (n:Nat):∀L:List (List UInt8),dF n (L.map AV.s)=true
 | []=>rfl
 | a::r=>by simp [dF,AV.under,Et n r]
theorem Eu (n:Nat):∀L:List (List At),dF n (L.map jT)=true
 | []=>rfl
 | a::r=>by simp [dF,jT,AV.under,Eu n r,N9]
section
variable {S:List Tok→St} {l N:Nat} (hE:VQ S l N)
include hE
theorem aby (cx:Ctx) (hl:cx.lim≤l) (hb:cx.base=N):∀(n:Nat) (r:List Tok) (acc:List (List UInt8)),WT r→r.length≤n→acc.length+r.length≤1000000→
  ∃X:St,bF (ay P0.glob (aj P0) cx false fV) [0,2] [(0,.v (.pt l 0)),(2,.bx [tV N acc,.ns])] (S r++tR acc)=
   match zK n r acc with
   | .ok V r'=>.exit 0 [(0,.v (.pt l 0)),(2,.bx [tV N V,.ns]),(6,.v (.b false))] (S r'++tR V)
   | .er a _ r'=>.pan (wrg a) (S r'++X)
 | 0,r,acc,h,hn,_=>by have:=h.pos;omega
 | n+1,r,acc,h,hn,hlen=>by
  have hN:=hE.n
  have hlt:=hE.lt
  have hA:=hE.app (tR acc)
  unfold zK
  by_cases c1:isQ [63] r=true
  ·have e1:=wB hA h c1 cx hl
   obtain ⟨w1,w2⟩:=h.isQ_tail c1
   have e2:=ahe hA w1 cx hl
   rw [if_pos c1]
   cases x2:Oj r.tail with
   | er a e r'=>
    rw [x2] at e2
    refine ⟨tR acc,ak fun K hK=>?_⟩
    simp only [FU] at e2
    simp [fV,e1,e2]
    rw [DU 3 [0,1,2,6]]
    rotate_left
    ·rfl
    ·rfl
    ·rfl
    simp [e2]
   | ok v l1=>
    rw [x2] at e2
    obtain ⟨w3,w4⟩:=(Jk w1).ok x2
    obtain ⟨X,ih⟩:=aby cx hl hb n l1 (acc++[v]) w3 (by omega) (by simp;omega)
    simp only [PR.bind_ok]
    refine ⟨X,ak fun K hK=>?_⟩
    rw [←hK,ahK,ahL] at ih
    clear hK
    rw [←ih]
    have hcl:=O9 acc
    have hm:acc.length+1≤1073741824:=by omega
    have hlim:cx.lim≤N:=by omega
    cases acc with
    | nil=>
     simp only [tR,tV,List.append_nil] at e1 e2 ⊢
     simp [fV,e1,e2,hN,aW]
    | cons a0 acc=>
     simp only [tR,tV] at e1 e2 ⊢
     have hg:(S l1++[dJ.row au 1 (a0::acc).length])[N]?=some (.row au 1 (a0::acc).length):=by
      rw [List.getElem?_append_right (by rw [hN];omega),hN];simp
     have hst:(S l1++[dJ.row au 1 (a0::acc).length]).set N (.row au 1 ((a0::acc).length+1))=S l1++[.row au 1 ((a0::acc).length+1)]:=by
      rw [List.set_append_right _ _ (by rw [hN];omega),hN];simp
     simp only [List.length_cons] at hm hg hst e1 e2
     simp [fV,e1,e2,hN,hm,hlim,hst,aW]
  ·have e1:=yJ hA h (by simpa using c1) cx
   rw [if_neg c1]
   refine ⟨[],ak fun K hK=>?_⟩
   simp [fV,e1]
theorem abD (cx:Ctx) (hl:cx.lim≤l) (hb:cx.base=N) (V:List (List UInt8)):∀(n:Nat) (r:List Tok) (acc:List (List At)),WT r→r.length≤n→acc.length+r.length≤900000→acc≠[]→
  ∃X:St,bF (ay P0.glob (aj P0) cx false iW) [0,2] [(0,.v (.pt l 0)),(2,.bx [tV N V,.st (N+(tR V).length) (acc.map jT)])] (S r++(tR V++[.row gJ 1 acc.length]))=
   match zL n r acc with
   | .ok ps r'=>.exit 2 [(0,.v (.pt l 0)),(2,.bx [tV N V,.st (N+(tR V).length) (ps.map jT)]),(24,.v (.b false))] (S r'++(tR V++[.row gJ 1 ps.length]))
   | .er a _ r'=>.pan (wrg a) (S r'++X)
 | 0,r,acc,h,hn,_,_=>by have:=h.pos;omega
 | n+1,r,acc,h,hn,hlen,hne=>by
  have hN:=hE.n
  have hlt:=hE.lt
  have hA:=hE.app (tR V++[.row gJ 1 acc.length])
  unfold zL
  by_cases c1:isQ qOr r=true
  ·have e1:=wB hA h c1 cx hl
   obtain ⟨w1,w2⟩:=h.isQ_tail c1
   have e2:=aer hA w1 (by omega) cx hl
   rw [if_pos c1]
   simp only [qOr] at e1
   cases x2:GZ r.tail with
   | er a e r'=>
    rw [x2] at e2
    refine ⟨tR V++[.row gJ 1 acc.length],ak fun K hK=>?_⟩
    simp only [FU] at e2
    simp [iW,e1,e2]
    rw [DU 3 [0,1,2,6]]
    rotate_left
    ·rfl
    ·rfl
    ·rfl
    simp [e2]
   | ok p l1=>
    rw [x2] at e2
    obtain ⟨w3,w4⟩:=(BG w1).ok x2
    obtain ⟨X,ih⟩:=abD cx hl hb V n l1 (acc++[p]) w3 (by omega) (by simp;omega) (by simp)
    simp only [PR.bind_ok]
    refine ⟨X,ak fun K hK=>?_⟩
    rw [←hK] at ih
    clear hK
    rw [←ih]
    have hcl:=adB acc
    have hm:acc.length+1≤1073741824:=by omega
    have hlim:cx.lim≤N+(tR V).length:=by omega
    have hg:(S l1++(tR V++[dJ.row gJ 1 acc.length]))[N+(tR V).length]?=some (.row gJ 1 acc.length):=by
     rw [←List.append_assoc,List.getElem?_append_right (by simp [hN]),List.length_append,hN];simp
    have hst:(S l1++(tR V++[dJ.row gJ 1 acc.length])).set (N+(tR V).length) (.row gJ 1 (acc.length+1))=S l1++(tR V++[.row gJ 1 (acc.length+1)]):=by
     rw [←List.append_assoc,List.set_append_right _ _ (by simp [hN]),List.length_append,hN];simp
    have ha:AV.ag [.sl (p.map bG)]=jT p:=rfl
    simp [iW,e1,e2,hN,hm,hlim,hst,aW,ha]
  ·have e1:=yJ hA h (by simpa using c1) cx
   rw [if_neg c1]
   simp only [qOr] at e1
   refine ⟨[],ak fun K hK=>?_⟩
   simp [iW,e1]
def zG (q:List (List UInt8)×List (List At)):AV:=.ag [slf true (q.1.map .s),.sl (q.2.map jT)]
theorem af7 {r:List Tok} (h:WT r) (hr:r.length≤800000) (cx:Ctx) (hl:cx.lim≤l):aj P0 (.fn (.func fC) [] []) [.pt l 0] (S r) cx=Vk zG S (Di r):=by
 refine Gz (CZ _ _ _) ?_
 have hN:=hE.n
 have hlt:=hE.lt
 have ht:∀q X,(S q++X).take N=S q:=fun q X=>by rw [List.take_append_of_le_length (by rw [hN];omega),List.take_of_length_le (by rw [hN];omega)]
 have hfin:∀q (X:St) v,(if X=[] then CO.ret v (S q++X) else CO.ret v (S q))=CO.ret v (S q):=fun q X v=>by split<;>simp [*]
 unfold Di
 have e1:=Oi hE h EM ⟨cx.lim,N⟩ hl
 simp only [EM] at e1
 cases x1:yw EM r with
 | er a e r'=>simp only [EM] at x1;rw [x1] at e1;simp [af,dw,hN,e1]
 | ok _ l1=>
  obtain ⟨w1,n1⟩:=(lW h).ok x1
  simp only [EM] at x1
  rw [x1] at e1
  obtain ⟨X,e2⟩:=aby hE ⟨cx.lim,N⟩ hl rfl l1.length l1 [] w1 (Nat.le_refl _) (by simp;omega)
  simp only [PR.bind_ok]
  rw [show tV N []=.ns from rfl,show tR []=[] from rfl,List.append_nil] at e2
  cases x2:zK l1.length l1 [] with
  | er a e r'=>
   rw [x2] at e2
   simp [af,dw,hN,e1,e2,ht,hfin]
  | ok V l2=>
   rw [x2] at e2
   obtain ⟨w2,n2⟩:=(Ie _ _ _ w1).ok x2
   have hA:=hE.app (tR V)
   have e3:=Oi hA w2 Vp ⟨cx.lim,N⟩ hl
   simp only [PR.bind_ok]
   cases x3:yw Vp l2 with
   | er a e r'=>
    rw [x3] at e3
    simp only [Vp,FU] at e3
    simp [af,dw,hN,e1,e2,e3,ht,hfin]
   | ok _ l3=>
    rw [x3] at e3
    obtain ⟨w3,n3⟩:=(lW w2).ok x3
    simp only [Vp,Yd] at e3
    have e4:=aer hA w3 (by omega) ⟨cx.lim,N⟩ hl
    simp only [PR.bind_ok]
    cases x4:GZ l3 with
    | er a e r'=>
     rw [x4] at e4
     simp only [FU] at e4
     simp [af,dw,hN,e1,e2,e3,e4]
     rw [DU 3 [0,1,2,6]]
     rotate_left
     ·rfl
     ·rfl
     ·rfl
     simp [e4,hN,ht,hfin]
    | ok p l4=>
     rw [x4] at e4
     obtain ⟨w4,n4⟩:=(BG w3).ok x4
     simp only [Yd] at e4
     have ha:AV.ag [.sl (p.map bG)]=jT p:=rfl
     rw [ha] at e4
     obtain ⟨Y,e5⟩:=abD hE ⟨cx.lim,N⟩ hl rfl V l4.length l4 [p] w4 (Nat.le_refl _) (by simp;omega) (by simp)
     simp only [PR.bind_ok]
     simp only [List.map_cons,List.map_nil,List.length_cons,List.length_nil] at e5
     cases x5:zL l4.length l4 [p] with
     | er a e r'=>
      rw [x5] at e5
      simp [af,dw,hN,e1,e2,e3,e4,e5,ht,hfin,aW]
     | ok ps l5=>
      rw [x5] at e5
      obtain ⟨w5,n5⟩:=(Qd _ _ _ w4).ok x5
      have hB:=hE.app (tR V++[.row gJ 1 ps.length])
      have hc:=hB.cell l5
      have e6:=S9 hB w5
      obtain ⟨t,u,rfl⟩:∃t u,l5=t::u:=by cases w5 with|fin a=>exact ⟨_,_,rfl⟩|cons t u=>exact ⟨t,u,rfl⟩
      unfold qO at hc
      simp only [PR.bind_ok]
      by_cases c6:(Z.hT (t::u)).1=4
      ·have hu1:=Et N V
       have hu2:=Eu N ps
       rw [if_pos c6]
       simp only [CV] at c6
       have hVp:(tV N V).plain1=slf true (V.map .s):=by cases V<;>rfl
       have hVu:(slf true (V.map AV.s)).under N=true:=by
        cases V with
        | nil=>rfl
        | cons a V=>simpa [slf,AV.under] using hu1
       simp [af,dw,hN,e1,e2,e3,e4,e5,ht,hfin,aW,hc,fO,c6,hVp,frz,AV.under,hVu,hu2,zG]
      ·rw [if_neg c6]
       simp only [CV] at e6 c6
       simp [af,dw,hN,e1,e2,e3,e4,e5,ht,hfin,aW,hc,fO,c6,e6,qEr]
end
end Go.Ai.Z
namespace Go.Ai.Z
open Go.Ai
theorem WT.txt_len {l:List Tok} (h:WT l):(txt l).length≤65536:=by
 cases h with
 | fin a=>simp
 | cons t r h1 h2=>exact h1.len
theorem ZH {l r:List Tok} {v:List UInt8} (h:WT l) (hx:FX l=.ok v r):v.length≤65536:=by
 unfold FX at hx
 split at hx
 ·cases hx;exact h.txt_len
 ·cases hx
theorem agT {l r:List Tok} {v:List UInt8} (h:WT l) (hx:Oj l=.ok v r):v.length≤65537:=by
 unfold Oj at hx
 split at hx
 ·cases hx;have:=h.txt_len;simp;omega
 ·cases hx
theorem ZF {l r:List Tok} {v:List UInt8} (h:WT l) (hx:DT l=.ok v r):v.length≤65537:=by
 unfold DT at hx
 split at hx
 ·rename_i h1;exact agT (h.isQ_tail h1).1 hx
 ·have:=ZH h hx;omega
theorem PR.ok_bind {α β:Type} {x:PR α} {f:α→List Tok→PR β} {v:β} {r:List Tok} (h:x.bind f=.ok v r):∃u r1,x=.ok u r1∧f u r1=.ok v r:=by
 cases x with
 | ok u r1=>exact ⟨u,r1,rfl,h⟩
 | er a e r1=>cases h
def At.Sh (a:At):Prop:=a.name.length≤65537∧a.x.length≤65537∧a.y.length≤65537
theorem ZI {l r:List Tok} {a:At} (h:WT l) (hx:G5 l=.ok a r):a.Sh:=by
 unfold G5 at hx
 obtain ⟨nm,l1,h1,hx⟩:=PR.ok_bind hx
 obtain ⟨_,l2,h2,hx⟩:=PR.ok_bind hx
 obtain ⟨x,l3,h3,hx⟩:=PR.ok_bind hx
 have w1:=((Fg h).ok h1).1
 have w2:=((lW w1).ok h2).1
 have w3:=((BF w2).ok h3).1
 have b1:=ZH h h1
 have b3:=ZF w2 h3
 split at hx
 ·rename_i c4
  obtain ⟨y,l4,h4,hx⟩:=PR.ok_bind hx
  obtain ⟨_,l5,h5,hx⟩:=PR.ok_bind hx
  have b4:=ZF (w3.isQ_tail c4).1 h4
  cases hx
  exact ⟨by simp;omega,b3,b4⟩
 ·obtain ⟨_,l4,h4,hx⟩:=PR.ok_bind hx
  split at hx
  ·unfold aev at hx
   obtain ⟨lo,l5,h5,hx⟩:=PR.ok_bind hx
   obtain ⟨_,l6,h6,hx⟩:=PR.ok_bind hx
   obtain ⟨hi,l7,h7,hx⟩:=PR.ok_bind hx
   cases hx
   exact ⟨by simp;omega,b3,by simp⟩
  ·cases hx
   exact ⟨by simp;omega,b3,by simp⟩
def ShP (n:Nat) (zs:List At):Prop:=zs≠[]∧zs.length≤n∧∀a∈zs,a.Sh
theorem WS:∀(n:Nat) {l r:List Tok} {acc zs:List At},WT l→zM n l acc=.ok zs r→∀m,ShP m acc→ShP (m+l.length) zs
 | 0,l,r,acc,zs,_,hx,_,_=>by cases hx
 | n+1,l,r,acc,zs,h,hx,m,hp=>by
  unfold zM at hx
  split at hx
  ·rename_i c1
   obtain ⟨w1,n1⟩:=h.isQ_tail c1
   obtain ⟨a,l1,h1,hx⟩:=PR.ok_bind hx
   obtain ⟨w2,n2⟩:=(yS w1).ok h1
   have ba:=ZI w1 h1
   have:=WS n w2 hx (m+1) ⟨by simp,by have:=hp.2.1;simp;omega,fun b hb=>by
    rcases List.mem_append.1 hb with hb|hb
    ·exact hp.2.2 b hb
    ·simp at hb;rw [hb];exact ba⟩
   exact ⟨this.1,by have:=this.2.1;omega,this.2.2⟩
  ·cases hx
   exact ⟨hp.1,by have:=hp.2.1;omega,hp.2.2⟩
theorem ZG {l r:List Tok} {zs:List At} (h:WT l) (hx:GZ l=.ok zs r):ShP (1+l.length) zs:=by
 unfold GZ at hx
 obtain ⟨a,l1,h1,hx⟩:=PR.ok_bind hx
 obtain ⟨w2,n2⟩:=(yS h).ok h1
 have ba:=ZI h h1
 have:=WS _ w2 hx 1 ⟨by simp,by simp,by simpa using ba⟩
 exact ⟨this.1,by have:=this.2.1;omega,this.2.2⟩
theorem WR:∀(n:Nat) {l r:List Tok} {acc ps:List (List At)} (K:Nat),WT l→l.length≤K→zL n l acc=.ok ps r→∀m,(acc.length≤m∧acc≠[]∧∀p∈acc,ShP (1+K) p)→ps.length≤m+l.length∧ps≠[]∧∀p∈ps,ShP (1+K) p
 | 0,l,r,acc,zs,_,_,_,hx,_,_=>by cases hx
 | n+1,l,r,acc,zs,K,h,hK,hx,m,hp=>by
  unfold zL at hx
  split at hx
  ·rename_i c1
   obtain ⟨w1,n1⟩:=h.isQ_tail c1
   obtain ⟨a,l1,h1,hx⟩:=PR.ok_bind hx
   obtain ⟨w2,n2⟩:=(BG w1).ok h1
   have ba:=ZG w1 h1
   have:=WR n K w2 (by omega) hx (m+1) ⟨by have:=hp.1;simp;omega,by simp,fun b hb=>by
    rcases List.mem_append.1 hb with hb|hb
    ·exact hp.2.2 b hb
    ·simp at hb;rw [hb];exact ⟨ba.1,by have:=ba.2.1;omega,ba.2.2⟩⟩
   exact ⟨by have:=this.1;omega,this.2⟩
  ·cases hx
   exact ⟨by have:=hp.1;omega,hp.2⟩
theorem WO:∀(n:Nat) {l r:List Tok} {acc V:List (List UInt8)},WT l→zK n l acc=.ok V r→V.length≤acc.length+l.length
 | 0,l,r,acc,V,_,hx=>by cases hx
 | n+1,l,r,acc,V,h,hx=>by
  unfold zK at hx
  split at hx
  ·rename_i c1
   obtain ⟨w1,n1⟩:=h.isQ_tail c1
   obtain ⟨a,l1,h1,hx⟩:=PR.ok_bind hx
   obtain ⟨w2,n2⟩:=(Jk w1).ok h1
   have:=WO n w2 hx
   simp at this;omega
  ·cases hx;omega
def pts (ps:List (List At)):List (Bool×List At):=ps.map fun p=>(false,p)
theorem WQ {l r:List Tok} {q:List (List UInt8)×List (List At)} (h:WT l) (hl:l.length≤800000) (hx:Di l=.ok q r):QOk q.1 (pts q.2)∧q.2≠[]∧∀p∈q.2,p≠[]:=by
 unfold Di at hx
 obtain ⟨_,l1,h1,hx⟩:=PR.ok_bind hx
 obtain ⟨V,l2,h2,hx⟩:=PR.ok_bind hx
 obtain ⟨_,l3,h3,hx⟩:=PR.ok_bind hx
 obtain ⟨p,l4,h4,hx⟩:=PR.ok_bind hx
 obtain ⟨ps,l5,h5,hx⟩:=PR.ok_bind hx
 obtain ⟨w1,n1⟩:=(lW h).ok h1
 obtain ⟨w2,n2⟩:=(Ie _ _ _ w1).ok h2
 obtain ⟨w3,n3⟩:=(lW w2).ok h3
 obtain ⟨w4,n4⟩:=(BG w3).ok h4
 have b2:=WO _ w1 h2
 have b4:=ZG w3 h4
 have b5:=WR _ l3.length w4 (by omega) h5 1 ⟨by simp,by simp,by simpa using b4⟩
 split at hx
 ·cases hx
  refine ⟨⟨?_, ?_, ?_, ?_⟩,b5.2.1,fun p hp=>(b5.2.2 p hp).1⟩
  ·simp at b2;simp only [];omega
  ·have:=b5.1;simp only [pts,List.length_map];omega
  ·intro p hp
   obtain ⟨p,hp',rfl⟩:=List.mem_map.1 hp
   have:=(b5.2.2 p hp').2.1;simp only [];omega
  ·intro p hp a ha
   obtain ⟨p,hp',rfl⟩:=List.mem_map.1 hp
   have:=(b5.2.2 p hp').2.2 a ha
   exact ⟨by have:=this.1;omega,by have:=this.2.1;omega,by have:=this.2.2;omega⟩
 ·cases hx
theorem Zk {q:List (List UInt8)×List (List At)} (h:q.2≠[]) (hp:∀p∈q.2,p≠[]):zG q=xQ true q.1 false (pts q.2):=by
 unfold zG xQ pts
 have e:(q.2.map fun p=>(false,p)).map encPt=q.2.map jT:=by
  rw [List.map_map]
  refine List.map_congr_left fun p hpm=>?_
  show encPt (false,p)=jT p
  unfold encPt jT
  rw [DK (hp p hpm)]
 rw [e]
 cases hq:q.2 with
 | nil=>exact absurd hq h
 | cons a r=>rfl
theorem aiF (T:List Tok) (h:WT T) (hT:T.length≤800000) (s:St) (cx:Ctx) (hcx:cx.lim≤s.length):
  ∃X:St,aj P0 (.fn (.func FQ) [] []) [.sl (T.map fO)] s cx=.ret (match Di T with
   | .ok q _=>.tu [zG q,.i .i64 0,.i .i64 0]
   | .er a _ _=>.tu [.ag [.ns,.ns],.i .i64 a,.i .i64 30]) (s++X):=by
 have hE:VQ (fun r=>s++[qO r]) s.length (s.length+1):=⟨fun r=>by simp,fun r q=>by simp,fun r=>by simp⟩
 have e1:=af7 hE h hT cx hcx
 obtain ⟨t,u,rfl⟩:∃t u,T=t::u:=by cases h with|fin a=>exact ⟨_,_,rfl⟩|cons t u=>exact ⟨t,u,rfl⟩
 cases x:Di (t::u) with
 | ok q r=>
  rw [x] at e1
  refine ⟨[qO r],Eo (A:=P0) (k:=.readK fC pO (.ag [.ns,.ns])) rfl rfl (by simp) ?_⟩
  simp only [Yd,zG] at e1
  have e2:aj P0 (.fn (.func fC) [] []) [.pt s.length 0] (s++[.cells [.sl (fO t::u.map fO)]]) cx=.ret (.ag [slf true (q.1.map .s),.sl (q.2.map jT)]) (s++[qO r]):=e1
  simp [jy,e2,zG]
 | er a e r=>
  rw [x] at e1
  refine ⟨[qO r],Eo (A:=P0) (k:=.readK fC pO (.ag [.ns,.ns])) rfl rfl (by simp) ?_⟩
  simp only [FU,wrg] at e1
  have e2:aj P0 (.fn (.func fC) [] []) [.pt s.length 0] (s++[.cells [.sl (fO t::u.map fO)]]) cx=.pan (.ifc pO (.ag [.i .i64 a])) (s++[qO r]):=e1
  simp [jy,e2]
def Tm (src:List UInt8):Sum (List (List UInt8)×List (List At)) (Int×Int):=
 match (lexB src).2 with
 | p::_=>.inr (p.1,10)
 | []=>match Di (lexB src).1 with
  | .er a _ _=>.inr (a,30)
  | .ok q _=>if chB q.1 (pts q.2)=0 then .inl q else .inr (0,chB q.1 (pts q.2))
def aia (src:List UInt8):AV:=
 match Tm src with
 | .inl q=>.tu [zG q,.i .i64 0,.i .i64 0]
 | .inr (a,e)=>.tu [.ag [.ns,.ns],.i .i64 a,.i .i64 e]
theorem adh (X:St) (n:Nat) (q:List (List UInt8)×List (List At)) (a e:Int):frz X n (.tu [zG q,.i .i64 a,.i .i64 e])=some (.tu [zG q,.i .i64 a,.i .i64 e]):=by
 have h1:=Et n q.1
 have h2:=Eu n q.2
 have h3:(slf true (q.1.map AV.s)).under n=true:=by
  cases hq:q.1 with
  | nil=>rfl
  | cons a V=>rw [hq] at h1;simpa [slf,AV.under] using h1
 simp [frz,AV.under,zG,h2,h3]
theorem Zd (X:St) (n:Nat) (a e:Int):frz X n (.tu [.ag [.ns,.ns],.i .i64 a,.i .i64 e])=some (.tu [.ag [.ns,.ns],.i .i64 a,.i .i64 e]):=by simp [frz,AV.under]
theorem agR (src:List UInt8) (hl:src.length≤65536) (s:St) (cx:Ctx):
  aj P0 (.fn (.func vN) [] []) [.sl (ai src)] s cx=.ret (aia src) s:=by
 refine Uw (by simp) ?_
 have hbl:=dM src
 have e1:=adR src hl s ⟨s.length,s.length⟩ (Nat.le_refl _)
 have hs:¬(65536:Int)<src.length:=by omega
 obtain ⟨hw,htw⟩:=abx hl
 have htl:(lexB src).1.length≤800000:=by
  have:∀l:List Tok,l.length≤tw l:=fun l=>by
   induction l with
   | nil=>exact Nat.le_refl _
   | cons t r ih=>simp only [List.length_cons,tw];omega
  have:=this (lexB src).1
  omega
 unfold aia Tm
 cases hb:(lexB src).2 with
 | cons p q=>
  rw [hb] at e1
  simp [af,nI,hbl,hs,e1,BH,splice,iI]
 | nil=>
  rw [hb] at e1
  obtain ⟨X,e2⟩:=aiF (lexB src).1 hw htl s ⟨s.length,s.length⟩ (Nat.le_refl _)
  simp only []
  cases x:Di (lexB src).1 with
  | er a e r=>
   rw [x] at e2
   simp [af,nI,hbl,hs,e1,e2,splice,iI,Zd]
  | ok q r=>
   rw [x] at e2
   obtain ⟨hq,hne,hpe⟩:=WQ hw htl x
   have e3:=UZ true q.1 false (pts q.2) hq
   rw [←Zk hne hpe] at e3
   have hz:=adh
   simp only [zG] at e2 e3 hz ⊢
   by_cases c:chB q.1 (pts q.2)=0
   ·rw [c] at e3
    simp [af,nI,hbl,hs,e1,e2,e3,splice,iI,c,hz]
   ·simp [af,nI,hbl,hs,e1,e2,e3,splice,iI,c,Zd]
end Go.Ai.Z
