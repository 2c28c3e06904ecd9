/-
 The parser's items at all tokens.
-/
import Derived.Test.YtpnlnnfcaeednaaGreatDoorAiY12X3X4
import Derived.Test.YtpnlnnfcaeednaaGreatDoorAiV4V5V6V7
set_option maxRecDepth 100000
set_option linter.unusedSimpArgs false
set_option linter.unusedVariables false
set_option linter.unusedSectionVars false
namespace Go.Ai.Z
theorem Ba (n:Nat):∀l:List (List UInt8),dA n (l.map AV.s)=true
 | []=>by simp
 | a::r=>by simp [Ba n r]
@[simp] theorem aha (S:St) (n:Nat) (d:Ax) (a e:Int):frz S n (.tu [fO d,.i .i64 a,.i .i64 e])=some (.tu [fO d,.i .i64 a,.i .i64 e]):=by
 have hu:(AV.tu [fO d,.i .i64 a,.i .i64 e]).under n=true:=by rw [show fO d=.ag (cellsA d) from rfl,cellsA];simp [-MN,Ba]
 rw [frz,if_pos hu]
@[simp] theorem aiE (S:St) (n:Nat) (d:Ax) (a e:Int) (b:Bool):frz S n (.tu [fO d,.ag [.i .i64 a,.i .i64 e],.b b])=some (.tu [fO d,.ag [.i .i64 a,.i .i64 e],.b b]):=by
 have hu:(AV.tu [fO d,.ag [.i .i64 a,.i .i64 e],.b b]).under n=true:=by rw [show fO d=.ag (cellsA d) from rfl,cellsA];simp [-MN,Ba]
 rw [frz,if_pos hu]
theorem agl (S:St) (n:Nat) (a e:Int) (b:Bool):frz S n (.tu [.ag [.i .i64 0,.b false,.i .i64 0,.s [],.i .i64 0,.i .i64 0,.ns,.i .i64 0,.s [],.i .i64 0,.i .i64 0,.ns,.ns,.s [],.s [],.s []],.ag [.i .i64 a,.i .i64 e],.b b])=some (.tu [.ag [.i .i64 0,.b false,.i .i64 0,.s [],.i .i64 0,.i .i64 0,.ns,.i .i64 0,.s [],.i .i64 0,.i .i64 0,.ns,.ns,.s [],.s [],.s []],.ag [.i .i64 a,.i .i64 e],.b b]):=by
 have hu:(AV.tu [.ag [.i .i64 0,.b false,.i .i64 0,.s [],.i .i64 0,.i .i64 0,.ns,.i .i64 0,.s [],.i .i64 0,.i .i64 0,.ns,.ns,.s [],.s [],.s []],.ag [.i .i64 a,.i .i64 e],.b b]).under n=true:=by simp [AV.under]
 rw [frz,if_pos hu]
section
variable {T:List Tok} {l:Nat} {S:Nat→St} {N:Nat}
variable (hE:BN T (CV l) S l N)
include hE
theorem BN.lt':l<N:=by
 have:=hE.cell 0
 rw [←hE.n 0]
 exact (List.getElem?_eq_some_iff.1 this).1
theorem BN.app' (X:St):BN T (CV l) (fun j=>S j++X) l (N+X.length):=
 ⟨hE.len,fun j=>by
  have h1:=hE.cell j
  have h2:=hE.lt'
  show (S j++X)[l]?=_
  rw [List.getElem?_append_left (by rw [hE.n];exact h2)];exact h1,fun j k=>by
  have h2:=hE.lt'
  show (S j++X).set l _=_
  rw [List.set_append_left _ _ (by rw [hE.n];exact h2),hE.sets],fun j=>by simp [hE.n]⟩
theorem aeb {r:List Tok} (h:Suf T r) (cx:Ctx) (hl:cx.lim≤l) (hb:cx.base≤N):
  ∃x0:Ax,ah P0 (.fn (.func lD) [] [.pt N 0,.pt (N+1) 0]) [] (S (idx T r)++[dZ.cells [.pt l 0],dZ.cells yu]) cx=
   match vV r with
   | .ok x q=>.ret (.tu []) (S (idx T q)++[dZ.cells [.pt l 0],dZ.cells (fO x).cells])
   | .er a c q=>.pan (flt a c) (S (idx T q)++[dZ.cells [.pt l 0],dZ.cells (fO x0).cells]):=by
 have hlt:=hE.lt'
 have hE1:BN T (CV l) (fun j=>S j++[dZ.cells [.pt l 0],dZ.cells yu]) l (N+2):=hE.app' _
 have e1:=aed hE1 h ⟨cx.lim,cx.base⟩ hl
 have g0:∀j,(S j++[dZ.cells [.pt l 0],dZ.cells yu])[N]?=some (dZ.cells [.pt l 0]):=fun j=>by rw [←hE.n j];simp
 have g1:∀j,(S j++[dZ.cells [.pt l 0],dZ.cells yu])[N+1]?=some (dZ.cells yu):=fun j=>by rw [←hE.n j];simp
 have g2:∀j cs,(S j++[dZ.cells [.pt l 0],dZ.cells cs])[N]?=some (dZ.cells [.pt l 0]):=fun j cs=>by rw [←hE.n j];simp
 have g3:∀j cs,(S j++[dZ.cells [.pt l 0],dZ.cells yu]).set (N+1) (dZ.cells cs)=S j++[dZ.cells [.pt l 0],dZ.cells cs]:=fun j cs=>by rw [←hE.n j];simp
 have hl2:cx.lim≤N+1:=by omega
 have hb2:cx.base≤N+1:=by omega
 cases hp:BG r with
 | er a c q=>
  rw [hp] at e1
  simp only [jc] at e1
  have hd:vV r=.er a c q:=by unfold vV;rw [hp,PR.bind_er]
  refine ⟨zA, ?_⟩
  rw [hd,show (fO zA).cells=yu from rfl]
  refine rG (by simp) ?_
  simp only [yu] at g0 g1 g2 g3 e1
  simp [af,ji,g0,g1,g2,e1,g3,hl2,hb2,yu,splice]
 | ok x q=>
  rw [hp] at e1
  simp only [eU] at e1
  have hE2:BN T (CV l) (fun j=>S j++[dZ.cells [.pt l 0],dZ.cells (fO x).cells]) l (N+2):=hE.app' _
  have hs:Suf T q:=h.ok (D9 h.w).zero hp
  have e2:=KZ hE2 hs (w:=[46]) (by decide) ⟨cx.lim,cx.base⟩ hl
  refine ⟨x, ?_⟩
  cases hw:kH [46] q with
  | er a c q2=>
   rw [hw] at e2
   simp only [jc] at e2
   have hd:vV r=.er a c q2:=by unfold vV;rw [hp,PR.bind_ok,hw,PR.bind_er]
   rw [hd]
   refine rG (by simp) ?_
   simp only [yu] at g0 g1 g2 g3 e1
   simp at e2
   simp [af,ji,g0,g1,g2,e1,g3,hl2,hb2,yu,splice,e2]
  | ok u q2=>
   rw [hw] at e2
   simp only [eU] at e2
   have hd:vV r=.ok x q2:=by unfold vV;rw [hp,PR.bind_ok,hw,PR.bind_ok]
   rw [hd]
   refine rG (by simp) ?_
   simp only [yu] at g0 g1 g2 g3 e1
   simp at e2
   simp [af,ji,g0,g1,g2,e1,g3,hl2,hb2,yu,splice,e2]
theorem Um (X:dZ) (cs:List AV) (cx:Ctx) (hl:cx.lim≤l):∀(r:List Tok),Suf T r→
  eX (aC P0.glob (ah P0) cx false gU) [1,2,3] [(1,.v (.pt N 0)),(2,.v (.pt (N+1) 0)),(3,.bx cs)] (S (idx T r)++[dZ.cells [.pt l 0],X])=
   .exit 0 [(1,.v (.pt N 0)),(2,.v (.pt (N+1) 0)),(3,.bx cs),(23,.v (.b false))] (S (idx T (lN r))++[dZ.cells [.pt l 0],X])
 | [],h=>absurd rfl h.w.ne
 | t::q,h=>by
  have hlt:=hE.lt'
  have hE1:BN T (CV l) (fun j=>S j++[dZ.cells [.pt l 0],X]) l (N+2):=hE.app' _
  have e1:=Gu hE1 h
  have g0:∀j,(S j++[dZ.cells [.pt l 0],X])[N]?=some (dZ.cells [.pt l 0]):=fun j=>by rw [←hE.n j];simp
  simp only [D7] at e1
  by_cases hk:t.1=4
  ·rw [lN,if_pos hk]
   refine ak fun K hK=>?_
   clear hK
   simp [gU,g0,e1,dN,hk]
  ·by_cases hd:t.2.1=[46]
   ·have e2:=kX hE1 h (w:=[46]) hd (by decide) cx hl
    rw [lN,if_neg hk,if_pos hd]
    simp only [List.tail_cons] at e2
    refine ak fun K hK=>?_
    clear hK
    simp [gU,g0,e1,e2,dN,hk]
   ·have e2:=lV hE1 h (w:=[46]) hd cx
    have htl:=h.tail (.inr hk)
    rw [List.tail_cons] at htl
    have ih:=Um X cs cx hl q htl.1
    rw [lN,if_neg hk,if_neg hd]
    rw [htl.2] at ih
    have h1:=hE1.cell (idx T (t::q))
    have hs:=hE1.sets (idx T (t::q)) (idx T (t::q)+1)
    have hwi:=wI (i:=idx T (t::q)) (by have:=h.lt;have:=hE.len;omega)
    generalize idx T (t::q)=i at *
    unfold psO CV at h1 hs
    rw [show ((i+1:Nat):Int)=(i:Int)+1 by omega] at hs
    refine ak fun K hK=>?_
    rw [←hK] at ih
    clear hK
    try dsimp only at h1 hs
    simp [gU,g0,e1,e2,dN,hk,h1,hs,hwi,hl,splice]
    exact ih
noncomputable def nI (r:List Tok):(Ax×Int×Int×Bool)×List Tok:=
 match vV r with
 | .er a c q=>((zA,a,c,true),lN q)
 | .ok x q=>(((tyA x).1,((hT r).2.2:Int),(tyA x).2,decide ((tyA x).2≠0)),q)
theorem afA {r:List Tok} (h:Suf T r) (htw:tw r≤99999) (cx:Ctx) (hl:cx.lim≤l):
  ah P0 (.fn (.func nC) [] []) [.pt l 0] (S (idx T r)) cx=.ret (.tu [fO (nI r).1.1,.ag [.i .i64 (nI r).1.2.1,.i .i64 (nI r).1.2.2.1],.b (nI r).1.2.2.2]) (S (idx T (nI r).2)):=by
 have hlt:=hE.lt'
 have hN:∀j,(S j).length=N:=hE.n
 have hE1:BN T (CV l) (fun j=>S j++[dZ.cells [.pt l 0],dZ.cells yu]) l (N+2):=hE.app' _
 have e0:=Gu hE1 h ⟨cx.lim,N⟩
 obtain ⟨x0,e1⟩:=aeb hE h ⟨cx.lim,N⟩ hl (Nat.le_refl _)
 have hl2:cx.lim≤N+1:=by omega
 have g0:∀j cs,(S j++[dZ.cells [.pt l 0],dZ.cells cs])[N]?=some (dZ.cells [.pt l 0]):=fun j cs=>by rw [←hE.n j];simp
 have g1:∀j cs,(S j++[dZ.cells [.pt l 0],dZ.cells cs])[N+1]?=some (dZ.cells cs):=fun j cs=>by rw [←hE.n j];simp
 have g3:∀j cs cs',(S j++[dZ.cells [.pt l 0],dZ.cells cs]).set (N+1) (dZ.cells cs')=S j++[dZ.cells [.pt l 0],dZ.cells cs']:=fun j cs cs'=>by rw [←hE.n j];simp
 have g4:∀j X,(S j++X).take N=S j:=fun j X=>by rw [←hE.n j];simp
 unfold nI
 obtain ⟨t0,ht0⟩:∃t0,t0=Z.hT r:=⟨_,rfl⟩
 rw [←ht0] at e0 ⊢
 obtain ⟨k0,w0,a0⟩:=t0
 cases hp:vV r with
 | er a c q=>
  rw [hp] at e1
  simp only [] at e1 ⊢
  have hs:Suf T q:=h.er (FX h.w).zero hp
  have e2:=agE _ _ _ _ _ _ _ _ e1
  have e3:=Um hE (.cells (fO x0).cells) [.i .i64 a,.i .i64 c] ⟨cx.lim,N⟩ hl q hs
  have e4:eX (aC P0.glob (ah P0) ⟨cx.lim,N⟩ false gU) [1,2,3] [(1,.v (.pt N 0)),(2,.v (.pt (N+1) 0)),(3,.bx [.i .i64 a,.i .i64 c]),(5,.bx [.i .i64 k0,.s w0,.i .i64 a0]),(14,.v (.b true))] (S (idx T q)++[dZ.cells [.pt l 0],dZ.cells (fO x0).cells])=
    eX (aC P0.glob (ah P0) ⟨cx.lim,N⟩ false gU) [1,2,3] [(1,.v (.pt N 0)),(2,.v (.pt (N+1) 0)),(3,.bx [.i .i64 a,.i .i64 c])] (S (idx T q)++[dZ.cells [.pt l 0],dZ.cells (fO x0).cells]):=QO rfl
  rw [e3] at e4
  have hcl:(fO x0).cells.length=16:=rfl
  refine yC (by simp) ?_
  rw [VG]
  have hdr:(fO x0).cells.drop 16=[]:=rfl
  generalize (fO x0).cells=X0 at *
  simp only [yu] at e0 e2
  try simp at e2
  try simp at e4
  simp [af,jQ,hN,g0,g1,g3,e0,e2,e4,hl2,splice,dN,dX,g4,hcl,hdr,agl]
 | ok x q=>
  rw [hp] at e1
  simp only [] at e1 ⊢
  have hx:x.Parsed 99999:=by
   unfold vV at hp
   obtain ⟨y,q1,p1,hp⟩:=aB.1 hp
   obtain ⟨u,q2,p2,hp⟩:=aB.1 hp
   cases hp
   exact (JH h.w p1).mono htw
  have hy:=(PU hx).c
  generalize tyA x=y at *
  have e2:=ai2 _ _ _ _ rfl _ _ _ _ e1
  refine yC (by simp) ?_
  simp only [yu] at e0 e2
  simp at e2
  by_cases he:y.2=0
  ·simp [af,jQ,hN,g0,g1,g3,e0,e2,hl2,splice,dN,hy,dX,g4,he]
  ·simp [af,jQ,hN,g0,g1,g3,e0,e2,hl2,splice,dN,hy,dX,g4,he]
end
end Go.Ai.Z
namespace Go.Ai.Z
theorem agt {l q:List Tok} {a c:Int} (h:WT l) (hp:vV l=.er a c q):a=((hT q).2.2:Int)∧c≠0:=by
 unfold vV at hp
 cases hx:BG l with
 | er a1 c1 q1=>
  rw [hx,PR.bind_er] at hp
  cases hp
  have:=Qn l l h h rfl
  rw [hx] at this
  exact ⟨this.2.2.2.2.2.1,(Xm h).ne hx⟩
 | ok x q1=>
  rw [hx,PR.bind_ok] at hp
  unfold kH at hp
  split at hp
  ·cases hp
  ·cases hp;exact ⟨rfl,by decide⟩
theorem yK (n:Nat) {r:List Tok} (hk:(hT r).1≠4):rY (n+1) r=if (nI r).1.2.2.2=true then ((rY n (nI r).2).1,((nI r).1.2.1,(nI r).1.2.2.1)::(rY n (nI r).2).2) else ((nI r).1.1::(rY n (nI r).2).1,(rY n (nI r).2).2):=by
 unfold nI
 cases hp:vV r with
 | er a c q=>rw [aeR hk hp];simp
 | ok x q=>
  rw [aeQ hk hp]
  by_cases he:(tyA x).2=0
  ·simp [he]
  ·simp [he]
theorem J7 {T r:List Tok} (h:Suf T r) (hk:(hT r).1≠4):Suf T (nI r).2∧(nI r).2.length<r.length:=by
 unfold nI
 cases hp:vV r with
 | er a c q=>
  have hs:Suf T q:=h.er (FX h.w).zero hp
  refine ⟨hs.lN, ?_⟩
  obtain ⟨p,hpq⟩:=Je (FX h.w).zero hp
  obtain ⟨_,_,h3,h4⟩:=Nu hs.w
  have hl:=congrArg List.length hpq
  simp only [List.length_append] at hl
  show (lN q).length<r.length
  by_cases hq:(hT q).1=4
  ·cases p with
   | nil=>simp at hpq;rw [hpq] at hk;exact absurd hq hk
   | cons a p=>simp only [List.length_cons] at hl;omega
  ·have:=h3 hq;omega
 | ok x q=>
  have hg:=FX h.w
  exact ⟨h.ok hg.zero hp,(kY hg hp).2⟩
theorem ZN {T r:List Tok} (h:Suf T r):hT r∈T:=List.mem_of_getElem? h.get
theorem aey {T r:List Tok} (h:Suf T r) {M:Nat} (hM:∀t∈T,t.2.2≤M):0≤(nI r).1.2.1∧(nI r).1.2.1≤M:=by
 unfold nI
 cases hp:vV r with
 | er a c q=>
  have hs:Suf T q:=h.er (FX h.w).zero hp
  have:=(agt h.w hp).1
  have:=hM _ (ZN hs)
  show 0≤a∧a≤M
  omega
 | ok x q=>
  have:=hM _ (ZN h)
  show (0:Int)≤((hT r).2.2:Int)∧((hT r).2.2:Int)≤M
  omega
theorem XU {T:List Tok} {M:Nat} (hM:∀t∈T,t.2.2≤M):∀(n:Nat) {r:List Tok},Suf T r→∀p∈(rY n r).2,0≤p.1∧p.1≤M
 | 0,r,h=>fun p hp=>by simp [rY] at hp
 | n+1,r,h=>by
  by_cases hk:(hT r).1=4
  ·rw [AO hk];intro p hp;simp at hp
  ·rw [yK n hk]
   have ih:=XU hM n (J7 h hk).1
   split
   ·intro p hp
    rcases List.mem_cons.1 hp with rfl|hp
    ·exact aey h hM
    ·exact ih p hp
   ·exact ih
theorem XV:∀(n:Nat) (r:List Tok),(rY n r).1.length+(rY n r).2.length≤n
 | 0,r=>by simp [rY]
 | n+1,r=>by
  by_cases hk:(hT r).1=4
  ·rw [AO hk];simp
  ·rw [yK n hk]
   have ih:=XV n (nI r).2
   split<;>simp only [List.length_cons]<;>omega
def SkR (S:Nat→St) (n0 l t sz:Nat) (es:List AV) (v:AV) (P:Nat):Prop:=
 (es=[]∧v=.ns)∨(es≠[]∧∃ver,v=.sk P ver sz 0 es.length∧n0≤P∧P≠l∧∀j,(S j)[P]?=some (.buf t sz ver (es.flatMap AV.cells)))
theorem SkR.app {S:Nat→St} {n0 l t sz:Nat} {es:List AV} {v:AV} {P:Nat} (h:SkR S n0 l t sz es v P) (X:St):SkR (fun j=>S j++X) n0 l t sz es v P:=by
 rcases h with h|⟨h1,ver,h2,h3,h4,h5⟩
 ·exact .inl h
 ·refine .inr ⟨h1,ver,h2,h3,h4,fun j=>?_⟩
  have:=h5 j
  show (S j++X)[P]?=_
  rw [List.getElem?_append_left (List.getElem?_eq_some_iff.1 this).1];exact this
theorem SkR.set {S:Nat→St} {n0 l t sz:Nat} {es:List AV} {v:AV} {P Q:Nat} (h:SkR S n0 l t sz es v P) (hQ:es≠[]→Q≠P) (o:dZ):SkR (fun j=>(S j).set Q o) n0 l t sz es v P:=by
 rcases h with h|⟨h1,ver,h2,h3,h4,h5⟩
 ·exact .inl h
 ·refine .inr ⟨h1,ver,h2,h3,h4,fun j=>?_⟩
  show ((S j).set Q o)[P]?=_
  rw [List.getElem?_set_ne (hQ h1)];exact h5 j
theorem SkR.lt {S:Nat→St} {n0 l t sz:Nat} {es:List AV} {v:AV} {P:Nat} (h:SkR S n0 l t sz es v P) (hne:es≠[]) (j:Nat):P<(S j).length:=by
 rcases h with h|⟨h1,ver,h2,h3,h4,h5⟩
 ·exact absurd h.1 hne
 ·exact (List.getElem?_eq_some_iff.1 (h5 j)).1
theorem BN.setAt {T:List Tok} {l:Nat} {S:Nat→St} {N:Nat} (hE:BN T (CV l) S l N) {Q:Nat} (hQ:Q≠l) (o:dZ):BN T (CV l) (fun j=>(S j).set Q o) l N:=
 ⟨hE.len,fun j=>by show ((S j).set Q o)[l]?=_;rw [List.getElem?_set_ne hQ];exact hE.cell j,fun j k=>by
  show ((S j).set Q o).set l _=_
  rw [List.set_comm _ _ hQ,hE.sets],fun j=>by simp [hE.n]⟩
theorem rH {es:List AV} {sz:Nat} (h:∀e∈es,e.cells.length=sz):(es.flatMap AV.cells).length=es.length * sz:=by
 induction es with
 | nil=>simp
 | cons e r ih=>
  rw [List.flatMap_cons,List.length_append,ih fun x hx=>h x (by simp [hx]),h e (by simp),List.length_cons,Nat.add_mul];omega
set_option maxHeartbeats 4000000 in
theorem ait {T:List Tok} {l n0:Nat} {base:St} (hn0:n0≤l) (htw:tw T≤99999) (cx:Ctx) (hl:cx.lim≤n0) (hbs:cx.base≤n0):∀(n:Nat) (r:List Tok) (S:Nat→St) (N:Nat) (L:List Ax) (B:List Pb) (vL vB:AV) (pL pB:Nat),
  BN T (CV l) S l N→(∀j,(S j).take n0=base)→SkR S n0 l tY 16 (L.map fO) vL pL→SkR S n0 l aK 2 (B.map fZ) vB pB→(L≠[]→B≠[]→pL≠pB)→Suf T r→r.length≤n→L.length+n≤200000→B.length+n≤200000→
  ∃(vL' vB':AV) (pL' pB':Nat) (H:St),eX (aC P0.glob (ah P0) cx false ja) [2,3,6] [(2,.v vL),(3,.v vB),(6,.v (.pt l 0))] (S (idx T r))=
    .exit 0 [(2,.v vL'),(3,.v vB'),(6,.v (.pt l 0)),(26,.v (.b false))] H∧H.take n0=base∧SkR (fun _=>H) n0 l tY 16 ((L++(rY n r).1).map fO) vL' pL'∧SkR (fun _=>H) n0 l aK 2 ((B++(rY n r).2).map fZ) vB' pB'∧
    (L++(rY n r).1≠[]→B++(rY n r).2≠[]→pL'≠pB')∧l<H.length:=by
 intro n
 induction n with
 | zero=>intro r S N L B vL vB pL pB hE hb0 hL hB hne h hn hm1 hm2;have:=PN h.w;omega
 | succ n ih=>
  intro r S N L B vL vB pL pB hE hb0 hL hB hne h hn hm1 hm2
  have e0:=Gu hE h cx
  obtain ⟨t0,ht0⟩:∃t0,t0=hT r:=⟨_,rfl⟩
  by_cases hk:(hT r).1=4
  ·rw [AO hk]
   refine ⟨vL,vB,pL,pB,S (idx T r),ak fun K hK=>?_,hb0 _, ?_, ?_,by simpa using hne,by rw [hE.n];exact hE.lt'⟩
   ·clear hK
    rw [←ht0] at e0 hk
    simp [ja,e0,dN,hk]
   ·simp only [List.append_nil]
    rcases hL with h|⟨h1,ver,h2,h3,h4,h5⟩
    ·exact .inl h
    ·exact .inr ⟨h1,ver,h2,h3,h4,fun _=>h5 _⟩
   ·simp only [List.append_nil]
    rcases hB with h|⟨h1,ver,h2,h3,h4,h5⟩
    ·exact .inl h
    ·exact .inr ⟨h1,ver,h2,h3,h4,fun _=>h5 _⟩
  ·have htr:tw r≤99999:=by
    obtain ⟨⟨p,hp⟩,_⟩:=h
    have:=Yv p r
    rw [←hp] at this;omega
   have e1:=afA hE h htr cx (by omega)
   obtain ⟨hq1,hq2⟩:=J7 h hk
   rw [yK n hk]
   generalize nI r=it at *
   obtain ⟨⟨x,a,e,b⟩,q⟩:=it
   simp only [] at e1 hq1 hq2 ⊢
   have hlt:=hE.lt'
   have hNj:=hE.n
   cases b with
   | true=>
    simp only [if_true]
    rcases hB with ⟨h1,h2⟩|⟨h1,ver,h2,h3,h4,h5⟩
    ·have hB0:B=[]:=by simpa using h1
     subst hB0 h2
     obtain ⟨vL',vB',pL',pB',H,i1,i2,i3,i4,i5,i6⟩:=ih q (fun j=>S j++[.buf aK 2 0 [.i .i64 a,.i .i64 e]]) (N+1) L [(a,e)] vL (.sk N 0 2 0 1) pL N (hE.app' _) (fun j=>by
       show (S j++_).take n0=base
       rw [List.take_append_of_le_length (by rw [hNj];omega)];exact hb0 j) (hL.app _) (.inr ⟨by simp,0,rfl,by omega,by omega,fun j=>by
       show (S j++_)[N]?=_
       rw [←hNj j];simp [fZ]⟩) (fun hh _=>by have:=hL.lt (by simpa using hh) 0;rw [hNj] at this;omega) hq1 (by omega) (by omega) (by simp;omega)
     refine ⟨vL',vB',pL',pB',H,ak fun K hK=>?_,i2,by simpa using i3,by simpa using i4,by simpa using i5,i6⟩
     rw [←hK] at i1
     clear hK ih hb0 hL i3 i4 i5 hne
     rw [←ht0] at e0 hk
     have hNq:=hNj (idx T q)
     try dsimp only at i1
     have m1:1≤eu:=by decide
     generalize S (idx T q)=Sq at *
     simp [ja,e0,dN,hk,e1,splice,m1,hNq]
     exact i1
    ·have hlB:(B.map fZ).length=B.length:=by simp
     have hfl:=rH (es:=B.map fZ) (sz:=2) (fun y hy=>by obtain ⟨p,_,rfl⟩:=List.mem_map.1 hy;rfl)
     rw [hlB] at hfl h2
     have hBne:B≠[]:=by simpa using h1
     obtain ⟨vL',vB',pL',pB',H,i1,i2,i3,i4,i5,i6⟩:=ih q (fun j=>(S j).set pB (.buf aK 2 (ver+1) ((B++[(a,e)]).map fZ |>.flatMap AV.cells))) N L (B++[(a,e)]) vL (.sk pB (ver+1) 2 0 (B.length+1)) pL pB (hE.setAt h4 _) (fun j=>by
       show ((S j).set pB _).take n0=base
       rw [List.take_set_of_le h3];exact hb0 j) (hL.set (fun hh=>(hne (by simpa using hh) hBne).symm) _) (.inr ⟨by simp,ver+1,by simp,h3,h4,fun j=>by
       show ((S j).set pB _)[pB]?=_
       rw [List.getElem?_set_self (List.getElem?_eq_some_iff.1 (h5 j)).1]⟩) (fun hh _=>hne hh hBne) hq1 (by omega) (by omega) (by simp;omega)
     refine ⟨vL',vB',pL',pB',H,ak fun K hK=>?_,i2,by simpa using i3,by simpa using i4,by simpa using i5,i6⟩
     rw [←hK] at i1
     clear hK ih hb0 hL i3 i4 i5 hne
     rw [←ht0] at e0 hk
     have h5q:=h5 (idx T q)
     have m1:B.length+1≤eu:=by unfold eu;omega
     have c1:B.length * 2≤((B.map fZ).flatMap AV.cells).length:=by omega
     have c2:((B.map fZ).flatMap AV.cells).take (B.length * 2)=(B.map fZ).flatMap AV.cells:=List.take_of_length_le (by omega)
     have c3:cx.lim≤pB:=by omega
     have c4:cx.base≤pB:=by omega
     rw [List.map_append,List.flatMap_append] at i1
     have c5:([(a,e)].map fZ).flatMap AV.cells=[.i .i64 a,.i .i64 e]:=rfl
     rw [c5] at i1
     generalize (B.map fZ).flatMap AV.cells=F at *
     generalize S (idx T q)=Sq at *
     subst h2
     simp [ja,e0,dN,hk,e1,splice,m1,h5q,c1,c2,c3,c4]
     exact i1
   | false=>
    simp only [Bool.false_eq_true,if_false]
    rcases hL with ⟨h1,h2⟩|⟨h1,ver,h2,h3,h4,h5⟩
    ·have hL0:L=[]:=by simpa using h1
     subst hL0 h2
     obtain ⟨vL',vB',pL',pB',H,i1,i2,i3,i4,i5,i6⟩:=ih q (fun j=>S j++[.buf tY 16 0 (fO x).cells]) (N+1) [x] B (.sk N 0 16 0 1) vB N pB (hE.app' _) (fun j=>by
       show (S j++_).take n0=base
       rw [List.take_append_of_le_length (by rw [hNj];omega)];exact hb0 j) (.inr ⟨by simp,0,rfl,by omega,by omega,fun j=>by
       show (S j++_)[N]?=_
       rw [←hNj j];simp⟩) (hB.app _) (fun _ hh=>by have:=hB.lt (by simpa using hh) 0;rw [hNj] at this;omega) hq1 (by omega) (by simp;omega) (by omega)
     refine ⟨vL',vB',pL',pB',H,ak fun K hK=>?_,i2,by simpa using i3,by simpa using i4,by simpa using i5,i6⟩
     rw [←hK] at i1
     clear hK ih hb0 hB i3 i4 i5 hne
     rw [←ht0] at e0 hk
     have hNq:=hNj (idx T q)
     try dsimp only at i1
     have m1:1≤eu:=by decide
     generalize S (idx T q)=Sq at *
     simp at i1
     simp [ja,e0,dN,hk,e1,splice,m1,hNq]
     exact i1
    ·have hlB:(L.map fO).length=L.length:=by simp
     have hfl:=rH (es:=L.map fO) (sz:=16) (fun y hy=>by obtain ⟨p,_,rfl⟩:=List.mem_map.1 hy;rfl)
     rw [hlB] at hfl h2
     have hLne:L≠[]:=by simpa using h1
     obtain ⟨vL',vB',pL',pB',H,i1,i2,i3,i4,i5,i6⟩:=ih q (fun j=>(S j).set pL (.buf tY 16 (ver+1) ((L++[x]).map fO |>.flatMap AV.cells))) N (L++[x]) B (.sk pL (ver+1) 16 0 (L.length+1)) vB pL pB (hE.setAt h4 _) (fun j=>by
       show ((S j).set pL _).take n0=base
       rw [List.take_set_of_le h3];exact hb0 j) (.inr ⟨by simp,ver+1,by simp,h3,h4,fun j=>by
       show ((S j).set pL _)[pL]?=_
       rw [List.getElem?_set_self (List.getElem?_eq_some_iff.1 (h5 j)).1]⟩) (hB.set (fun hh=>hne hLne (by simpa using hh)) _) (fun _ hh=>hne hLne hh) hq1 (by omega) (by simp;omega) (by omega)
     refine ⟨vL',vB',pL',pB',H,ak fun K hK=>?_,i2,by simpa using i3,by simpa using i4,by simpa using i5,i6⟩
     rw [←hK] at i1
     clear hK ih hb0 hB i3 i4 i5 hne
     rw [←ht0] at e0 hk
     have h5q:=h5 (idx T q)
     have m1:L.length+1≤eu:=by unfold eu;omega
     have c1:L.length * 16≤((L.map fO).flatMap AV.cells).length:=by omega
     have c2:((L.map fO).flatMap AV.cells).take (L.length * 16)=(L.map fO).flatMap AV.cells:=List.take_of_length_le (by omega)
     have c3:cx.lim≤pL:=by omega
     have c4:cx.base≤pL:=by omega
     rw [List.map_append,List.flatMap_append] at i1
     have c5:([x].map fO).flatMap AV.cells=(fO x).cells:=by simp
     rw [c5] at i1
     generalize (L.map fO).flatMap AV.cells=F at *
     generalize S (idx T q)=Sq at *
     subst h2
     simp at i1
     simp [ja,e0,dN,hk,e1,splice,m1,h5q,c1,c2,c3,c4]
     exact i1
end Go.Ai.Z
namespace Go.Ai.Z
theorem Tz (s:St) (cx:Ctx):ah P0 (.fn (.func bn) [] []) [.ns,.i .i64 0,.i .i64 0,(.fn (.func ai) [] [])] s cx=.ret (.tu []) s:=by
 refine iL (by simp) ?_
 have w1:IntKind.i64.wrap 1=1:=rfl
 have hL:eX (aC P0.glob (ah P0) ⟨cx.lim,s.length⟩ false aN) [0,1,2,3,8] [(0,.v .ns),(1,.v (.i .i64 0)),(2,.v (.i .i64 0)),(3,.v (.fn (.func ai) [] [])),(8,.v (.i .i64 1))] s=
   .exit 0 [(0,.v .ns),(1,.v (.i .i64 0)),(2,.v (.i .i64 0)),(3,.v (.fn (.func ai) [] [])),(8,.v (.i .i64 1)),(14,.v (.b false))] s:=by
  refine ak fun K hK=>?_
  simp [aN]
 simp [af,bQ,w1,hL]
theorem Zv (s:St) (cx:Ctx):ah P0 (.fn (.func bf) [] []) [.ns,(.fn (.func ai) [] [])] s cx=.ret (.tu []) s:=by
 have h1:∀(s:St) (cx:Ctx),ah P0 (.fn (.func dU) [] []) [.ns,.i .i64 0,(.fn (.func ai) [] [])] s cx=.ret (.tu []) s:=by
  intro s cx
  have e1:=Tz s ⟨cx.lim,s.length⟩
  refine oG (by simp) ?_
  have hL0:eX (aC P0.glob (ah P0) ⟨cx.lim,s.length⟩ false bK) [0,1,2,6,7,8] [(0,.v .ns),(1,.v (.i .i64 0)),(2,.v (.fn (.func ai) [] [])),(6,.v (.i .i64 20)),(7,.v (.i .i64 0)),(8,.v (.i .i64 20))] s=
    .exit 0 [(0,.v .ns),(1,.v (.i .i64 0)),(2,.v (.fn (.func ai) [] [])),(6,.v (.i .i64 20)),(7,.v (.i .i64 0)),(8,.v (.i .i64 20)),(13,.v (.b false))] s:=by
   refine ak fun K hK=>?_
   simp [bK]
  have hL1:eX (aC P0.glob (ah P0) ⟨cx.lim,s.length⟩ false aT) [0,1,2,6] [(0,.v .ns),(1,.v (.i .i64 0)),(2,.v (.fn (.func ai) [] [])),(6,.v (.i .i64 20))] s=
    .exit 2 [(0,.v .ns),(1,.v (.i .i64 0)),(2,.v (.fn (.func ai) [] [])),(6,.v (.i .i64 20)),(30,.v (.b false))] s:=by
   refine ak fun K hK=>?_
   simp [aT]
  simp [af,fJ,hL0,hL1,e1]
 refine jI (by simp) ?_
 simp [af,bV,h1]
theorem abU (s:St) (cx:Ctx):ah P0 (.fn (.func bM) [] []) [.ns] s cx=.ret .ns s:=by
 refine mG (by simp) ?_
 simp [af,dW,LQ]
theorem adW (p:Pb) (q:List Pb) (hlen:q.length≤100000) (s:St) (cx:Ctx):ah P0 (.fn (.func bM) [] []) [.sl ((p::q).map fZ)] s cx=
  .ret (.sk s.length 0 2 0 (p::q).length) (s++[.buf aK 2 0 (((p::q).map fZ).flatMap AV.cells)]):=by
 have hQ:(q.map fZ).length=q.length:=by simp
 have hc1:(fZ p).cells.length=2:=rfl
 have hc2:∀y∈q.map fZ,y.cells.length=2:=fun y hy=>by obtain ⟨z,_,rfl⟩:=List.mem_map.1 hy;rfl
 have m1:q.length+1≤eu:=by unfold eu;omega
 refine mG (by simp) ?_
 simp only [List.map_cons,List.length_cons]
 generalize q.map fZ=Q at *
 rw [←hQ] at m1 ⊢
 have hc3:(∀y∈Q,y.cells.length=2)=True:=eq_true hc2
 simp [af,dW,LQ,hc1,hc3,m1]
theorem Kr {S:St} {n m:Nat} {a:AV} (h:a.under n=true):qB S n m a=some a:=by
 cases m<;>simp [qB,h]
theorem aac {F:AV→Option AV}:∀{l:List AV},(∀a∈l,F a=some a)→l.mapM F=some l
 | [],_=>rfl
 | a::r,h=>by
  rw [List.mapM_cons,h a (by simp),aac fun b hb=>h b (by simp [hb])]
  rfl
theorem PS {n:Nat}:∀{l:List AV},dA n l=true→∀a∈l,a.under n=true
 | [],_,a,h=>by simp at h
 | b::r,h,a,ha=>by
  rw [dA,Bool.and_eq_true] at h
  rcases List.mem_cons.1 ha with rfl|ha
  ·exact h.1
  ·exact PS h.2 a ha
theorem RQ {sz:Nat} (hsz:2≤sz):∀{es:List AV},(∀e∈es,∃cs,e=.ag cs∧cs.length=sz)→chunk sz es.length (es.flatMap AV.cells)=es
 | [],_=>rfl
 | e::r,h=>by
  obtain ⟨cs,rfl,h1⟩:=h e (by simp)
  have ih:=RQ hsz (es:=r) fun x hx=>h x (by simp [hx])
  have hc:(AV.ag cs).cells=cs:=rfl
  rw [List.length_cons,chunk,List.flatMap_cons,hc,if_neg (by omega),←h1,List.take_left,List.drop_left,h1,ih]
theorem XI {S:St} {n P ver t sz k f:Nat} {es:List AV} (h:S[P]?=some (.buf t sz ver (es.flatMap AV.cells))) (hn:n≤P) (hsz:2≤sz) (he:∀e∈es,∃cs,e=.ag cs∧cs.length=sz∧dA n cs=true∧cs.all AV.one=true) (hk:k≤es.length):
  qB S n (f+1) (.sk P ver sz 0 k)=some (.sl (es.take k)):=by
 have hu:(AV.sk P ver sz 0 k).under n=false:=by simp [AV.under];omega
 have hlen:∀(l:List AV),(∀e∈l,∃cs,e=.ag cs∧cs.length=sz∧dA n cs=true∧cs.all AV.one=true)→(l.flatMap AV.cells).length=l.length * sz:=fun l hl=>rH fun e hh=>by
  obtain ⟨cs,rfl,h1,_⟩:=hl e hh;exact h1
 have hek:∀e∈es.take k,∃cs,e=.ag cs∧cs.length=sz∧dA n cs=true∧cs.all AV.one=true:=fun e hh=>he e (List.mem_of_mem_take hh)
 have htk:(es.flatMap AV.cells).take (k * sz)=(es.take k).flatMap AV.cells:=by
  have h1:es.flatMap AV.cells=(es.take k).flatMap AV.cells++(es.drop k).flatMap AV.cells:=by rw [←List.flatMap_append,List.take_append_drop]
  have h2:=hlen _ hek
  rw [List.length_take,Nat.min_eq_left hk] at h2
  rw [h1,←h2,List.take_left]
 have hmem:∀a∈(es.take k).flatMap AV.cells,a.under n=true∧a.one=true:=by
  intro a ha
  obtain ⟨e,he1,he2⟩:=List.mem_flatMap.1 ha
  obtain ⟨cs,rfl,_,h3,h4⟩:=hek e he1
  exact ⟨PS h3 a he2,List.all_eq_true.1 h4 a he2⟩
 rw [qB,if_neg (by rw [hu];exact Bool.false_ne_true)]
 simp only [h]
 have hle:0+k * sz≤(es.flatMap AV.cells).length:=by rw [hlen _ he,Nat.zero_add];exact Nat.mul_le_mul_right _ hk
 rw [if_pos ⟨trivial,trivial,hle⟩]
 simp only [List.drop_zero,htk]
 rw [aac fun a ha=>Kr (hmem a ha).1]
 have hone:((es.take k).flatMap AV.cells).all AV.one=true:=List.all_eq_true.2 fun a ha=>(hmem a ha).2
 simp only [Option.bind_some,if_pos (show 0<sz∧((es.take k).flatMap AV.cells).all AV.one=true from ⟨by omega,hone⟩)]
 have:=RQ hsz (es:=es.take k) fun e hh=>by obtain ⟨cs,h1,h2,_⟩:=hek e hh;exact ⟨cs,h1,h2⟩
 rw [List.length_take,Nat.min_eq_left hk] at this
 rw [this]
theorem VE {S:St} {n:Nat} {a b a' b':AV} (ha:qB S n 5 a=some a') (hb:qB S n 5 b=some b'):frz S n (.tu [a,b,.i .i64 0])=some (.tu [a',b',.i .i64 0]):=by
 unfold frz
 split
 ·rename_i hu
  simp only [AV.under,dA,Bool.and_eq_true] at hu
  rw [Kr hu.1] at ha
  rw [Kr hu.2.1] at hb
  cases ha;cases hb;rfl
 ·rename_i hu
  rw [qB,if_neg hu]
  have hi:qB S n 5 (.i .i64 0)=some (.i .i64 0):=by simp [qB]
  simp only [List.mapM_cons,List.mapM_nil,ha,hb,hi]
  rfl
theorem aeM (n:Nat) (x:Ax):∃cs,fO x=.ag cs∧cs.length=16∧dA n cs=true∧cs.all AV.one=true:=by
 refine ⟨cellsA x,rfl,rfl, ?_, ?_⟩
 ·have hu:(fO x).under n=true:=by rw [show fO x=.ag (cellsA x) from rfl,cellsA];simp [-MN,Ba]
  exact hu
 ·have h1:∀(k:IntKind) (n:Int),(AV.i k n).one=true:=fun _ _=>rfl
  have h2:∀l:List UInt8,(AV.s l).one=true:=fun _=>rfl
  have h3:∀b:Bool,(AV.b b).one=true:=fun _=>rfl
  simp only [cellsA,List.all_cons,List.all_nil,h1,h2,h3,Z5,Bool.and_self]
theorem adN (n:Nat) (p:Pb):∃cs,fZ p=.ag cs∧cs.length=2∧dA n cs=true∧cs.all AV.one=true:=⟨_,rfl,rfl,rfl,rfl⟩
theorem BR {es:List AV} (h:es≠[]):slf true es=.sl es:=by
 cases es with
 | nil=>exact absurd rfl h
 | cons a r=>rfl
theorem UL (D:List Pb):(D.map fZ).flatMap AV.cells=VY D:=by
 induction D with
 | nil=>rfl
 | cons p D ih=>rw [List.map_cons,List.flatMap_cons,ih];rfl
theorem aaP {α:Type} {l:List α} {i:Nat} {a:α} (h:l[i]?=some a):l.set i a=l:=by
 obtain ⟨h1,h2⟩:=List.getElem?_eq_some_iff.1 h
 rw [←h2];exact List.set_getElem_self h1
end Go.Ai.Z
namespace Go.Ai.Z
theorem afL {src:List UInt8}:∀t∈(jA src).1,t.2.2≤src.length:=by
 have h:=zH src []
 intro t ht
 rw [h.x1] at ht
 rcases List.mem_append.1 ht with ht|ht
 ·have:=h.bd t ht;omega
 ·simp at ht;subst ht;exact Nat.le_refl _
theorem aeY {src:List UInt8} (hl:src.length≤60000):yO ((lexB src).2++(wu src).2):=by
 intro p hp
 rcases List.mem_append.1 hp with hp|hp
 ·rw [LW] at hp
  have:=(zH src []).x2 p (List.mem_of_mem_take hp)
  omega
 ·have hw:WT (jA src).1:=by rw [←DZ];exact (zI (by omega)).1
  have:=XU (T:=(jA src).1) (M:=src.length) afL (jA src).1.length (Jw hw).1 p hp
  omega
set_option maxHeartbeats 4000000 in
theorem ace (src:List UInt8) (hl:src.length≤40000) (hmax:(wu src).1.length≤1024) (s:St) (cx:Ctx) (hcx:cx.lim≤s.length) {S:Nat→St} {l N pB:Nat} {vB:AV} {sC:St}
  (hE:BN (lexB src).1 (CV l) S l N) (hb0:∀j,(S j).take s.length=s) (hB:SkR S s.length l aK 2 ((lexB src).2.map fZ) vB pB) (hl0:s.length≤l)
  (eC:ah P0 (.fn (.func bM) [] []) [slf true ((lexB src).2.map fZ)] s ⟨cx.lim,s.length⟩=.ret vB sC)
  (eP:ah P0 (.fn (.func kG) [] []) [.sl ((lexB src).1.map dN)] sC ⟨cx.lim,s.length⟩=.ret (.pt l 0) (S 0)):
  ∃Z:List Pb,Z.Perm ((lexB src).2++(wu src).2)∧lM Z∧ah P0 (.fn (.func jO) [] []) [.sl (aA src)] s cx=.ret (.tu [slf true ((wu src).1.map fO),slf true ((Z.take 64).map fZ),.i .i64 0]) s:=by
 obtain ⟨hw,htw⟩:=zI (src:=src) (by omega)
 have e1:=Wy src (by omega) s ⟨cx.lim,s.length⟩ hcx
 obtain ⟨hs0,hi0⟩:=Jw hw
 have hTl:=UY (lexB src).1
 have hbl:(lexB src).2.length≤64:=by rw [LW];simp only [List.length_take];omega
 obtain ⟨vL',vB',pL',pB',H,h1,h2,h3,h4,h5,h6⟩:=ait hl0 (by omega) ⟨cx.lim,s.length⟩ hcx (Nat.le_refl _) (lexB src).1.length (lexB src).1 S N [] (lexB src).2 .ns vB 0 pB hE hb0 (.inl ⟨rfl,rfl⟩) hB (fun h=>absurd rfl h) hs0 (Nat.le_refl _) (by simp;omega) (by omega)
 rw [hi0] at h1
 have hR:=aeY (src:=src) (by omega)
 have hdl:=XV (lexB src).1.length (lexB src).1
 have hd:rY (lexB src).1.length (lexB src).1=wu src:=by unfold wu;rw [DZ]
 rw [hd] at h3 h4 h5 hdl
 simp only [List.nil_append] at h3 h5
 have hBl:((lexB src).2++(wu src).2).length≤1000000:=by rw [List.length_append];omega
 clear hd hdl hB hE hb0 hw hs0 hi0 htw
 generalize (wu src).1=L at *
 generalize (lexB src).2++(wu src).2=B at *
 have pvb:(slf true ((lexB src).2.map fZ)).plain=slf true ((lexB src).2.map fZ):=by
  cases (lexB src).2<;>simp [slf,AV.plain]
 generalize slf true ((lexB src).2.map fZ)=vb0 at *
 generalize (lexB src).1.map dN=tks at *
 generalize S 0=S0 at *
 have fzL:∀H2:St,(L≠[]→H2[pL']?=H[pL']?)→qB H2 s.length 5 vL'=some (slf true (L.map fO)):=by
  intro H2 hH
  rcases h3 with ⟨g1,g2⟩|⟨g1,ver,g2,g3,g4,g5⟩
  ·rw [g1,g2];exact Kr rfl
  ·have hne:L≠[]:=by simpa using g1
   have g6:H2[pL']?=_:=(hH hne).trans (g5 0)
   rw [BR g1,g2,XI g6 g3 (by omega) (fun e he=>by obtain ⟨x,_,rfl⟩:=List.mem_map.1 he;exact aeM _ x) (Nat.le_refl _),List.take_length]
 have hHl:¬H.length=s.length:=by omega
 have hcmp:¬(1024:Int)<(L.length:Int):=by omega
 rcases h4 with ⟨g1,g2⟩|⟨g1,ver,g2,g3,g4,g5⟩
 ·have hB0:B=[]:=by simpa using g1
  subst hB0 g2
  have e4:=Zv H ⟨cx.lim,s.length⟩
  have fz:=VE (fzL H fun _=>rfl) (show qB H s.length 5 .ns=some .ns from Kr rfl)
  refine ⟨[],.refl _,List.Pairwise.nil, ?_⟩
  refine AA (by simp) ?_
  rcases h3 with ⟨q1,q2⟩|⟨q1,verL,q2,q3,q4,q5⟩
  ·subst q2
   clear fzL
   generalize slf true (L.map fO)=vl at *
   try simp at h1
   simp [af,iJ,e1,pvb,eC,eP,h1,e4,fz,h2,hHl]
  ·rw [List.length_map] at q2
   subst q2
   clear fzL
   generalize slf true (L.map fO)=vl at *
   try simp at h1
   simp [af,iJ,e1,pvb,eC,eP,h1,e4,fz,h2,hHl,hcmp]
 ·rw [List.length_map] at g2
  have hne:B≠[]:=by simpa using g1
  have g6:=g5 0
  rw [UL] at g6
  have hlt:pB'<H.length:=(List.getElem?_eq_some_iff.1 g6).1
  obtain ⟨Z,z1,z2,z3⟩:=adT (s:=H) (l:=pB') (t:=aK) (ver:=ver) hlt (cx:=⟨cx.lim,s.length⟩) (by show cx.lim≤pB';omega) B.length hBl B rfl hR
  rw [show H.set pB' (obP aK ver B)=H from aaP g6] at z3
  have hZl:=z1.length_eq
  have hZne:Z≠[]:=by intro h;rw [h] at hZl;exact hne (List.eq_nil_of_length_eq_zero hZl.symm)
  have hH2:(H.set pB' (obP aK ver Z))[pB']?=some (.buf aK 2 ver ((Z.map fZ).flatMap AV.cells)):=by rw [List.getElem?_set_self hlt,UL];rfl
  have hta:(H.set pB' (obP aK ver Z)).take s.length=s:=by rw [List.take_set_of_le g3];exact h2
  have fzB:∀k,0<k→k≤Z.length→qB (H.set pB' (obP aK ver Z)) s.length 5 (.sk pB' ver 2 0 k)=some (slf true ((Z.take k).map fZ)):=by
   intro k k0 k1
   have hne':(Z.take k).map fZ≠[]:=by
    intro h
    have:=congrArg List.length h
    simp only [List.length_map,List.length_take,List.length_nil] at this
    omega
   rw [BR hne',XI hH2 g3 (by omega) (fun e he=>by obtain ⟨x,_,rfl⟩:=List.mem_map.1 he;exact adN _ x) (by simpa using k1),List.map_take]
  have fzL2:=fzL (H.set pB' (obP aK ver Z)) fun hh=>by rw [List.getElem?_set_ne (fun he=>h5 hh hne he.symm)]
  have hHl2:¬(H.set pB' (obP aK ver Z)).length=s.length:=by rw [List.length_set];exact hHl
  have hBpos:0<B.length:=List.length_pos_iff.2 hne
  refine ⟨Z,z1,z2, ?_⟩
  refine AA (by simp) ?_
  subst g2
  by_cases hk:64<B.length
  ·have hk':(64:Int)<(B.length:Int):=by omega
   have hk2:64≤B.length:=by omega
   have fz:=VE fzL2 (fzB 64 (by omega) (by omega))
   generalize slf true ((Z.take 64).map fZ)=vz at *
   generalize H.set pB' (obP aK ver Z)=H2 at *
   rcases h3 with ⟨q1,q2⟩|⟨q1,verL,q2,q3,q4,q5⟩
   ·subst q2
    clear fzL fzL2 fzB
    generalize slf true (L.map fO)=vl at *
    try simp at h1
    simp [af,iJ,e1,pvb,eC,eP,h1,z3,fz,hta,hHl2,hk',hk2]
   ·rw [List.length_map] at q2
    subst q2
    clear fzL fzL2 fzB
    generalize slf true (L.map fO)=vl at *
    try simp at h1
    simp [af,iJ,e1,pvb,eC,eP,h1,z3,fz,hta,hHl2,hk',hk2,hcmp]
  ·have hk':¬(64:Int)<(B.length:Int):=by omega
   have fz:=VE fzL2 (fzB B.length (by omega) (by omega))
   rw [show Z.take B.length=Z.take 64 by rw [←hZl,List.take_length,List.take_of_length_le (by omega)]] at fz
   generalize slf true ((Z.take 64).map fZ)=vz at *
   generalize H.set pB' (obP aK ver Z)=H2 at *
   rcases h3 with ⟨q1,q2⟩|⟨q1,verL,q2,q3,q4,q5⟩
   ·subst q2
    clear fzL fzL2 fzB
    generalize slf true (L.map fO)=vl at *
    try simp at h1
    simp [af,iJ,e1,pvb,eC,eP,h1,z3,fz,hta,hHl2,hk']
   ·rw [List.length_map] at q2
    subst q2
    clear fzL fzL2 fzB
    generalize slf true (L.map fO)=vl at *
    try simp at h1
    simp [af,iJ,e1,pvb,eC,eP,h1,z3,fz,hta,hHl2,hk',hcmp]
theorem PI (src:List UInt8) (hl:src.length≤40000) (hmax:(wu src).1.length≤1024) (s:St) (cx:Ctx) (hcx:cx.lim≤s.length):
  ∃Z:List Pb,Z.Perm ((lexB src).2++(wu src).2)∧lM Z∧ah P0 (.fn (.func jO) [] []) [.sl (aA src)] s cx=.ret (.tu [slf true ((wu src).1.map fO),slf true ((Z.take 64).map fZ),.i .i64 0]) s:=by
 obtain ⟨hw,htw⟩:=zI (src:=src) (by omega)
 have hTl:=UY (lexB src).1
 have hbl:(lexB src).2.length≤64:=by rw [LW];simp only [List.length_take];omega
 cases hb:(lexB src).2 with
 | nil=>
  have h:=ace src hl hmax s cx hcx (S:=fun j=>s++[psO (lexB src).1 j (CV s.length)]) (l:=s.length) (N:=s.length+1) (pB:=0) (vB:=.ns) (sC:=s)
   ⟨by omega,fun j=>by simp,fun j k=>by simp,fun j=>by simp⟩ (fun j=>by simp) (.inl ⟨by rw [hb];rfl,rfl⟩) (Nat.le_refl _) (by rw [hb];exact abU s _) (Ol _ s _ hcx (Nat.le_refl _))
  rwa [hb] at h
 | cons p q=>
  have h:=ace src hl hmax s cx hcx (S:=fun j=>s++[.buf aK 2 0 (((p::q).map fZ).flatMap AV.cells),psO (lexB src).1 j (CV (s.length+1))]) (l:=s.length+1) (N:=s.length+2) (pB:=s.length) (vB:=.sk s.length 0 2 0 (p::q).length) (sC:=s++[.buf aK 2 0 (((p::q).map fZ).flatMap AV.cells)])
   ⟨by omega,fun j=>by simp,fun j k=>by simp,fun j=>by simp⟩ (fun j=>by simp) (.inr ⟨by rw [hb];simp,0,by rw [hb];simp,Nat.le_refl _,by omega,fun j=>by rw [hb];simp⟩) (by omega)
   (by rw [hb];exact adW p q (by rw [hb] at hbl;simp at hbl;omega) s _)
   (by
    have:=Ol (lexB src).1 (s++[.buf aK 2 0 (((p::q).map fZ).flatMap AV.cells)]) ⟨cx.lim,s.length⟩ (by simp;omega) (by simp)
    simpa using this)
  rwa [hb] at h
end Go.Ai.Z
namespace Go.Ai.Z
end Go.Ai.Z
