/-
 Conjunctions: what syntax.Concept answers of "(x)" and of "(x) and (y)".
-/
import Derived.Test.YtpnlnnfcaeednaaGreatDoorAiY6Y7Y8
import Derived.Test.YtpnlnnfcaeednaaGreatDoorAiY9Y10Y11
import Derived.Test.YtpnlnnfcaeednaaGreatDoorAiK5K6K7InjInj2Inj3Inj4KI
import Derived.Test.YtpnlnnfcaeednaaGreatDoorAiX1X2
set_option maxRecDepth 100000
set_option linter.unusedSimpArgs false
set_option linter.unusedVariables false
set_option linter.unusedSectionVars false
namespace Go.Ai.Z
def NZ {α:Type} (x:PR α):Prop:=∀a e r,x=.er a e r→e=30∨e=20∨e=21
theorem NZ.ne {α:Type} {x:PR α} {a e:Int} {r:List Tok} (h:NZ x) (h1:x=.er a e r):e≠0:=by rcases h a e r h1 with h|h|h<;>omega
theorem NZ.ok {α:Type} (v:α) (r:List Tok):NZ (PR.ok v r):=fun a e r h=>by cases h
theorem NZ.er {α:Type} (a e:Int) (r:List Tok) (h:e=30∨e=20∨e=21):NZ (PR.er a e r:PR α):=fun a' e' r' h'=>by cases h';exact h
theorem NZ.bind {α β:Type} {x:PR α} {f:α→List Tok→PR β} (h:NZ x) (hf:∀v r,x=.ok v r→NZ (f v r)):NZ (x.bind f):=by
 cases x with
 | ok v r=>exact hf v r rfl
 | er a e r=>exact NZ.er a e r (h a e r rfl)
theorem o5 (l:List Tok):NZ (ig l):=by
 unfold ig;split
 ·split
  ·exact NZ.ok _ _
  ·exact NZ.er _ _ _ (by decide)
 ·exact NZ.er _ _ _ (by decide)
theorem CQ (w:List UInt8) (l:List Tok):NZ (kH w l):=by
 unfold kH;split
 ·exact NZ.ok _ _
 ·exact NZ.er _ _ _ (by decide)
theorem Z8 (n:Int) (l:List Tok):NZ (yw n l):=by
 unfold yw;split
 ·split
  ·split
   ·exact NZ.er _ _ _ (by decide)
   ·exact NZ.ok _ _
  ·exact NZ.er _ _ _ (by decide)
 ·exact NZ.er _ _ _ (by decide)
theorem PN {l:List Tok} (h:WT l):1≤l.length:=by have:=h.ne;cases l with|nil=>exact absurd rfl this|cons a b=>simp
theorem kY {α:Type} {l r:List Tok} {x:PR α} {v:α} (hg:Good' l x) (e:x=.ok v r):WT r∧r.length<l.length:=by
 rw [e] at hg
 obtain ⟨h1,p,h2,h3⟩:=hg
 refine ⟨h1, ?_⟩
 rw [h3]
 cases p with
 | nil=>exact absurd rfl h2
 | cons a p=>simp;omega
theorem Af {l:List Tok} {w:List UInt8} (h:WT l) (h1:txt l=w) (h2:w≠[]):WT l.tail∧l.tail.length+1=l.length:=by
 obtain ⟨t,r,rfl,_,h3⟩:=h.tl (.inl (by rw [h1];exact h2))
 exact ⟨h3,rfl⟩
theorem Xk:∀n:Nat,(∀l,WT l→2 * l.length≤n→NZ (gZ n l))∧(∀l,WT l→2 * l.length+1≤n→NZ (uV n l))∧∀l cs,WT l→2 * l.length+1≤n→NZ (jK n l cs)
 | 0=>⟨fun l h h1=>by have:=PN h;omega,fun l h h1=>by omega,fun l cs h h1=>by omega⟩
 | n+1=>by
  obtain ⟨i1,i2,i3⟩:=Xk n
  refine ⟨fun l h h1=>?_,fun l h h1=>?_,fun l cs h h1=>?_⟩
  ·unfold gZ
   split
   ·exact NZ.ok _ _
   split
   ·exact NZ.ok _ _
   split
   ·exact (o5 _).bind fun _ _ _=>(CQ _ _).bind fun _ _ _=>NZ.ok _ _
   split
   ·rename_i h3
    obtain ⟨t1,t2⟩:=Af h h3 (by decide)
    refine (o5 _).bind fun nm l1 e=>?_
    obtain ⟨q1,q2⟩:=kY (bF t1) e
    exact (i1 l1 q1 (by omega)).bind fun _ _ _=>NZ.ok _ _
   split
   ·rename_i h3
    obtain ⟨t1,t2⟩:=Af h h3 (by decide)
    exact (i2 l.tail t1 (by omega)).bind fun _ _ _=>(CQ _ _).bind fun _ _ _=>NZ.ok _ _
   ·refine (o5 _).bind fun nm l1 e=>?_
    split
    ·exact (Z8 _ _).bind fun _ _ _=>(CQ _ _).bind fun _ _ _=>(Z8 _ _).bind fun _ _ _=>NZ.ok _ _
    ·exact NZ.ok _ _
  ·unfold uV
   refine (i1 l h (by omega)).bind fun c l1 e=>?_
   obtain ⟨q1,q2⟩:=kY ((iK n).1 l h) e
   exact i3 l1 _ q1 (by omega)
  ·unfold jK
   split
   ·rename_i h3
    obtain ⟨t1,t2⟩:=Af h h3 (by decide)
    refine (i1 l.tail t1 (by omega)).bind fun c l1 e=>?_
    obtain ⟨q1,q2⟩:=kY ((iK n).1 l.tail t1) e
    exact i3 l1 _ q1 (by omega)
   ·exact NZ.ok _ _
theorem DZ (x:List UInt8):(lexB x).1=(jA x).1:=by rw [LW]
theorem ac5 (x:List UInt8):(lexB x).2=[] ↔ (jA x).2=[]:=by
 rw [LW]
 cases (jA x).2 with
 | nil=>simp
 | cons a b=>simp
structure ZF (x:List UInt8) (c:C):Prop where
 bad:(jA x).2=[]
 wt:WT (jA x).1
 con:kJ (jA x).1=.ok c [(4,[],x.length)]
theorem ZF.single {x:List UInt8} {c:C} (h:ZF x c) {n:Nat} (hn:2 * (jA x).1.length+1≤n) {p':List Tok} (hp':p'.map jZ=(body x).map jZ) (k1 k2:Int) (a1 a2:Nat) (q:List Tok):
  gZ (n+1) ((k1,[40],a1)::(p'++(k2,[41],a2)::q))=.ok c q:=by
 have h1:uV n (jA x).1=.ok c [(4,[],x.length)]:=by rw [xu h.wt hn];exact h.con
 obtain ⟨p,e1,e2⟩:=(Ru n).2.1 _ h.wt c _ h1
 have hx1:=(zH x []).x1
 have hpb:p=body x:=by rw [e1] at hx1;exact (List.append_inj' hx1 rfl).1
 have h2:=e2 p' ((k2,[41],a2)::q) (by rw [hp',hpb]) (by rw [dL];show ([41]:List UInt8) ∉ [inB,Jq];decide)
 have t1:¬([40]:List UInt8)=evW:=by decide
 have t2:¬([40]:List UInt8)=YL:=by decide
 have t3:¬([40]:List UInt8)=P9:=by decide
 simp only [gZ,dL,t1,t2,t3,if_false,if_true,List.tail_cons,h2,PR.bind_ok,kH,List.cons.injEq,reduceCtorEq]
 simp
theorem acp (k:Nat) (l:List Tok):(l.map (shT k)).map jZ=l.map jZ:=by
 rw [List.map_map];rfl
theorem ac3 (z:List UInt8):(jA (32::z)).1=(jA z).1.map (shT 1)∧(jA (32::z)).2=(jA z).2.map (shP 1):=by
 have h2:=um (32::z) (n:=z.length+2) (by simp)
 have h3:=DX (n:=z.length+2) [32] z (a:=0) (la:=-1) (by decide)
 have h4:=wP 1 (z.length+2) z 0 (-1) (-1) (.inr ⟨by decide,by decide⟩)
 rw [um z (by omega)] at h4
 rw [show (32::z)=[32]++z from rfl,h3] at h2
 simp only [List.length_cons,List.length_nil,Nat.zero_add] at h2 h4
 rw [h4] at h2
 have h5:=Option.some.inj h2
 exact ⟨by rw [show (32::z)=[32]++z from rfl,←h5],by rw [show (32::z)=[32]++z from rfl,←h5]⟩
theorem acD (z:List UInt8):dJ (97::110::100::32::z)=(1,3):=by
 have hr:dV (97::110::100::32::z)=3:=by
  rw [oI,if_pos (by decide),oI,if_pos (by decide),oI,if_pos (by decide),oI,if_neg (by decide)]
 rw [pX,if_pos (by decide),hr]
 simp only [List.drop_succ_cons,List.drop_zero]
 cases z with
 | nil=>rfl
 | cons e q=>simp
theorem aev (z:List UInt8):(jA (97::110::100::32::z)).1=(1,Jq,0)::(jA (32::z)).1.map (shT 3)∧(jA (97::110::100::32::z)).2=(jA (32::z)).2.map (shP 3):=by
 have h2:=um (97::110::100::32::z) (n:=z.length+5) (by simp)
 have hdw:(97::110::100::32::z).dropWhile mY=97::110::100::32::z:=by rw [List.dropWhile_cons];simp [show mY 97=false by decide]
 rw [nO,hdw] at h2
 simp only [show ¬nR 97=2 by decide,if_false,acD,Nat.sub_self,Nat.add_zero,Nat.zero_add,List.drop_succ_cons,List.drop_zero] at h2
 rw [if_neg (by decide)] at h2
 have h3:=wP 3 (z.length+4) (32::z) 0 (-1) (-1) (.inr ⟨by decide,by decide⟩)
 rw [Nat.zero_add] at h3
 rw [h3,um (32::z) (by simp)] at h2
 simp only [Option.map_some] at h2
 have h4:=Option.some.inj h2
 exact ⟨by rw [←h4];rfl,by rw [←h4]⟩
def SB (x:List UInt8):List UInt8:=40::(x++[10,41])
def UW (x y:List UInt8):List UInt8:=40::(x++10::41::32::97::110::100::32::40::(y++[10,41]))
theorem Xv (x:List UInt8):∃p a1 a2,p.map jZ=(body x).map jZ∧(jA (SB x)).1=(3,[40],0)::(p++(3,[41],a1)::[(4,[],a2)])∧((jA x).2=[]→(jA (SB x)).2=[]):=by
 obtain ⟨h1,h2⟩:=JV (c:=40) (by decide) (x++[10,41])
 obtain ⟨h3,h4⟩:=JV (c:=41) (by decide) []
 have hc:=zH x [41]
 refine ⟨(body x).map (shT 1),0+(x.length+1)+1,0+1+(x.length+1)+1,acp 1 _, ?_,fun hb=>?_⟩
 ·unfold SB
  rw [h1,hc.t,h3]
  simp only [List.map_append,List.map_cons,List.map_nil,lex_nil,shT]
 ·unfold SB
  rw [h2,hc.p,hb,h4,lex_nil];rfl
theorem ac2 (x y:List UInt8):∃p q a1 a2 a3 a4 a5,p.map jZ=(body x).map jZ∧q.map jZ=(body y).map jZ∧
  (jA (UW x y)).1=(3,[40],0)::(p++(3,[41],a1)::(1,Jq,a2)::(3,[40],a3)::(q++(3,[41],a4)::[(4,[],a5)]))∧((jA x).2=[]→(jA y).2=[]→(jA (UW x y)).2=[]):=by
 obtain ⟨r,b1,b2,g1,g2,g3⟩:=Xv y
 obtain ⟨h1,h2⟩:=JV (c:=40) (by decide) (x++10::41::32::97::110::100::32::40::(y++[10,41]))
 obtain ⟨h3,h4⟩:=JV (c:=41) (by decide) (32::97::110::100::32::40::(y++[10,41]))
 obtain ⟨h5,h6⟩:=ac3 (97::110::100::32::40::(y++[10,41]))
 obtain ⟨h7,h8⟩:=aev (40::(y++[10,41]))
 obtain ⟨h9,h10⟩:=ac3 (40::(y++[10,41]))
 have hc:=zH x (41::32::97::110::100::32::40::(y++[10,41]))
 unfold SB at g2 g3
 refine ⟨(body x).map (shT 1),(((((r.map (shT 1)).map (shT 3)).map (shT 1)).map (shT 1)).map (shT (x.length+1))).map (shT 1),0+(x.length+1)+1,0+1+1+(x.length+1)+1,0+1+3+1+1+(x.length+1)+1,b1+1+3+1+1+(x.length+1)+1,b2+1+3+1+1+(x.length+1)+1,acp 1 _, ?_, ?_,fun hb hb'=>?_⟩
 ·simp only [acp,g1]
 ·unfold UW
  rw [h1,hc.t,h3,h5,h7,h9,g2]
  simp only [List.map_append,List.map_cons,List.map_nil,shT]
 ·unfold UW
  rw [h2,hc.p,hb,h4,h6,h8,h10,g3 hb'];rfl
theorem ZF.one {x:List UInt8} {c:C} (h:ZF x c) (hl:(SB x).length≤60000):(lexB (SB x)).2=[]∧∃r,kJ (lexB (SB x)).1=.ok c r∧(hT r).1=4:=by
 obtain ⟨p,a1,a2,e1,e2,e3⟩:=Xv x
 obtain ⟨hw,_⟩:=zI (src:=SB x) (by omega)
 refine ⟨(ac5 _).2 (e3 h.bad),[(4,[],a2)], ?_,rfl⟩
 rw [DZ] at hw ⊢
 generalize hN:2 * (jA x).1.length+1+2 * (jA (SB x)).1.length+1=N
 rw [←xu hw (n:=N+2) (by omega),e2]
 have hs:=h.single (n:=N) (by omega) e1 3 3 0 a1 [(4,[],a2)]
 have h2:¬([]:List UInt8)=Jq:=by decide
 rw [uV,hs,PR.bind_ok,jK,dL,if_neg h2]
 rfl
theorem ZF.two {x y:List UInt8} {c d:C} (h:ZF x c) (h':ZF y d) (hl:(UW x y).length≤60000):(lexB (UW x y)).2=[]∧∃r,kJ (lexB (UW x y)).1=.ok (.mk 5 [] 0 0 false [c,d]) r∧(hT r).1=4:=by
 obtain ⟨p,q,a1,a2,a3,a4,a5,e1,e1',e2,e3⟩:=ac2 x y
 obtain ⟨hw,_⟩:=zI (src:=UW x y) (by omega)
 refine ⟨(ac5 _).2 (e3 h.bad h'.bad),[(4,[],a5)], ?_,rfl⟩
 rw [DZ] at hw ⊢
 generalize hN:2 * (jA x).1.length+1+2 * (jA y).1.length+1+2 * (jA (UW x y)).1.length+1=N
 rw [←xu hw (n:=N+3) (by omega),e2]
 have hs:=h.single (n:=N+1) (by omega) e1 3 3 0 a1 ((1,Jq,a2)::(3,[40],a3)::(q++(3,[41],a4)::[(4,[],a5)]))
 have hs':=h'.single (n:=N) (by omega) e1' 3 3 a3 a4 [(4,[],a5)]
 have h2:¬([]:List UInt8)=Jq:=by decide
 rw [uV,hs,PR.bind_ok,jK,dL,if_pos rfl,List.tail_cons,hs',PR.bind_ok,jK,dL,if_neg h2]
 rfl
end Go.Ai.Z
namespace Go.Ai.Z
theorem TN {x:Ax} (h:jV x=0):((iE x.kind).l=true→jg x.left=0)∧((iE x.kind).r=true→jg x.right=0):=by
 unfold jV at h
 split at h
 ·cases h
 split at h
 ·cases h
 unfold Np at h
 split at h
 ·rename_i hc;exact absurd h hc.2
 split at h
 ·rename_i hc;exact absurd h hc.2
 rename_i h1 h2
 exact ⟨fun hl=>by by_cases hz:jg x.left=0;exact hz;exact absurd ⟨hl,hz⟩ h1,fun hr=>by by_cases hz:jg x.right=0;exact hz;exact absurd ⟨hr,hz⟩ h2⟩
theorem Ax.Parsed.few {x:Ax} {w:Nat} (h:x.Parsed w) (h0:jV x=0):x.Few:=by
 obtain ⟨hl,hr⟩:=TN h0
 have hz:=afc
 refine ⟨?_, ?_,by have:=h.roles;omega,fun r hr=>by have:=h.rs r hr;omega,by have:=h.role;omega,by have:=h.a;omega,by have:=h.b;omega⟩
 ·cases hu:(iE x.kind).l with
  | true=>have:=IE (hl hu);omega
  | false=>rw [h.ul hu];omega
 ·cases hu:(iE x.kind).r with
  | true=>have:=IE (hr hu);omega
  | false=>rw [h.ur hu];omega
theorem MS (x:Ax) (hx:x.Mid) (h0:jV x≠0) (s:St) (cx:Ctx):ah P0 (.fn (.func jM) [] []) [fO x] s cx=.ret (.tu [fO zA,.i .i64 (jV x)]) s:=by
 have e0:=zx x hx
 refine o9 (by simp) ?_
 rw [VG]
 simp [af,dS,e0,h0,dX,splice]
def Sm (x y:Ax) (e:Int):Prop:=if jV x=0 then zn x y e else y=zA∧e=jV x
structure ad4 (x:Ax) (p:Ax×Int):Prop where
 a:Sm x p.1 p.2
 l:wC p.1.left≤1000
 r:wC p.1.right≤1000
 roles:p.1.roles.length≤600
 c:∀(s:St) (cx:Ctx),ah P0 (.fn (.func jM) [] []) [fO x] s cx=.ret (.tu [fO p.1,.i .i64 p.2]) s
theorem acn (x:Ax):∃p:Ax×Int,x.Parsed 99999→ad4 x p:=by
 by_cases h:x.Parsed 99999
 ·by_cases h0:jV x=0
  ·obtain ⟨y,e,h1,h2,h3,h4,h5⟩:=KN x (h.few h0) h0
   exact ⟨(y,e),fun _=>⟨by unfold Sm;rw [if_pos h0];exact h1,h2,h3,h4,h5⟩⟩
  ·exact ⟨(zA,jV x),fun _=>⟨by unfold Sm;rw [if_neg h0];exact ⟨rfl,rfl⟩,(by decide:wC zA.left≤1000),(by decide:wC zA.right≤1000),(by decide:zA.roles.length≤600),fun s cx=>MS x (h.mid (by omega)) h0 s cx⟩⟩
 ·exact ⟨(zA,0),fun h'=>absurd h' h⟩
noncomputable def tyA (x:Ax):Ax×Int:=Classical.choose (acn x)
theorem PU {x:Ax} (h:x.Parsed 99999):ad4 x (tyA x):=Classical.choose_spec (acn x) h
def vV (l:List Tok):PR Ax:=(BG l).bind fun x r=>(kH [46] r).bind fun _ q=>.ok x q
theorem FX {l:List Tok} (h:WT l):Good' l (vV l):=(D9 h).bind fun _ _ _ h1=>((oL (by decide) h1).bind fun _ _ _ h2=>nK _ h2).zero
def lN:List Tok→List Tok
 | []=>[]
 | t::r=>if t.1=4 then t::r else if t.2.1=[46] then r else lN r
theorem Nu {l:List Tok} (h:WT l):WT (lN l)∧(∃p,l=p++lN l)∧((hT l).1≠4→(lN l).length<l.length)∧(lN l).length≤l.length:=by
 induction h with
 | fin a=>exact ⟨.fin a,⟨[],rfl⟩,fun h=>absurd rfl h,Nat.le_refl _⟩
 | cons t r h1 h2 ih=>
  obtain ⟨i1,⟨p,i2⟩,_,i3⟩:=ih
  have hk:t.1≠4:=by rcases h1.k with k|k|k<;>omega
  rw [lN,if_neg hk]
  split
  ·exact ⟨h2,⟨[t],rfl⟩,fun _=>by simp,by simp⟩
  ·exact ⟨i1,⟨t::p,by rw [List.cons_append,←i2]⟩,fun _=>by simp only [List.length_cons];omega,by simp only [List.length_cons];omega⟩
theorem Suf.lN {T r:List Tok} (h:Suf T r):Suf T (Z.lN r):=by
 obtain ⟨h1,⟨p,h2⟩,_⟩:=Nu h.w
 exact h.app h2 h1
end Go.Ai.Z
namespace Go.Ai.Z
noncomputable def rY:Nat→List Tok→List Ax×List Pb
 | 0,_=>([],[])
 | n+1,l=>if (hT l).1=4 then ([],[]) else match vV l with
  | .er a c q=>((rY n (lN q)).1,(a,c)::(rY n (lN q)).2)
  | .ok x q=>if (tyA x).2=0 then ((tyA x).1::(rY n q).1,(rY n q).2) else ((rY n q).1,(((hT l).2.2:Int),(tyA x).2)::(rY n q).2)
noncomputable def wu (src:List UInt8):List Ax×List Pb:=rY (jA src).1.length (jA src).1
theorem AO {n:Nat} {l:List Tok} (h:(hT l).1=4):rY n l=([],[]):=by
 cases n with
 | zero=>rfl
 | succ n=>unfold rY;rw [if_pos h]
theorem Ap {w:List UInt8} {f g:List Tok→PR Ax} {l:List Tok} (hn:w≠[]) (hw:WT l) (hf:WT l.tail→NZ (f l.tail)) (hg:NZ (g l)):NZ (ifw w f g l):=by
 unfold ifw
 split
 ·rename_i h;exact hf (Af hw h hn).1
 ·exact hg
theorem DV {l:List Tok} (h:WT l):NZ (kJ l):=by
 rw [←xu h (Nat.le_refl _)]
 exact (Xk _).2.1 l h (Nat.le_refl _)
theorem Xl:∀(n:Nat) (acc:List (List UInt8)) (l:List Tok),NZ (tZ n acc l)
 | 0,acc,l=>NZ.ok _ _
 | n+1,acc,l=>by
  unfold tZ
  split
  ·exact (o5 l).bind fun r l1 _=>Xl n _ l1
  ·exact NZ.ok _ _
theorem Vj (k:Int) (c:C) {l:List Tok} (h:WT l):NZ (Ih k c l):=(DV h).bind fun _ _ _=>NZ.ok _ _
theorem agc {l:List Tok} (h:WT l):NZ (Xi l):=(DV h).bind fun c l1 e=>by
 have h1:=(kY (mP h) e).1
 exact Ap (by decide) h1 (fun h=>Vj _ _ h) (Ap (by decide) h1 (fun h=>Vj _ _ h) (Ap (by decide) h1 (fun h=>Vj _ _ h) (NZ.er _ _ _ (by decide))))
theorem aes {l:List Tok} (h:WT l):NZ (xq l):=by
 refine Ap (by decide) h (fun h=>?_) (Ap (by decide) h (fun h=>?_) (Ap (by decide) h (fun h=>?_) (Ap (by decide) h (fun h=>?_) (Ap (by decide) h (fun h=>?_) (Ap (by decide) h (fun h=>?_) (agc h))))))
 ·exact (o5 _).bind fun r l1 e=>(DV (kY (bF h) e).1).bind fun _ _ _=>NZ.ok _ _
 ·exact (o5 _).bind fun r l1 e=>(CQ _ _).bind fun _ _ _=>(o5 _).bind fun _ _ _=>NZ.ok _ _
 ·exact (o5 _).bind fun r l1 e=>(o5 _).bind fun _ _ _=>(Xl _ _ _).bind fun _ _ _=>(CQ _ _).bind fun _ _ _=>(o5 _).bind fun _ _ _=>NZ.ok _ _
 ·exact (o5 _).bind fun _ _ _=>NZ.ok _ _
 ·exact (o5 _).bind fun r l1 e=>(DV (kY (bF h) e).1).bind fun _ _ _=>NZ.ok _ _
 ·exact (o5 _).bind fun _ _ _=>(o5 _).bind fun _ _ _=>(o5 _).bind fun _ _ _=>NZ.ok _ _
theorem Xm {l:List Tok} (h:WT l):NZ (BG l):=by
 have st:∀{o p:Bool} {l:List Tok},WT l→NZ (pSt o p l):=fun h=>(aes h).bind fun _ _ _=>NZ.ok _ _
 exact Ap (by decide) h (fun h=>st h) (Ap (by decide) h (fun h=>st h) (st h))
theorem acC {b:List UInt8} (ht:b.take (dJ b).2=[46]):(dJ b).1=3:=by
 cases b with
 | nil=>simp at ht
 | cons c r=>
  have hc:c=46:=by
   cases hw:(dJ (c::r)).2 with
   | zero=>rw [hw] at ht;simp at ht
   | succ n=>rw [hw,List.take_succ_cons] at ht;exact (List.cons.inj ht).1
  subst hc
  have hk:nR 46=6:=by decide
  rw [pX,if_neg (by rw [hk];decide),if_neg (by rw [hk];decide),if_neg (by rw [hk];decide),if_pos hk]
theorem JX:∀(n:Nat) (b:List UInt8) (a:Nat) (la:Int) {p:List Tok×List Pb},nO n b a la=some p→∀t∈p.1,t.2.1=[46]→t.1=3
 | 0,b,a,la,p,h=>by simp [nO] at h
 | n+1,b,a,la,p,h=>by
  unfold nO at h
  cases hx:b.dropWhile mY with
  | nil=>
   rw [hx] at h
   simp only [Option.some.injEq] at h
   subst h
   intro t ht h1
   simp only [List.mem_singleton] at ht
   subst ht;cases h1
  | cons c r=>
   rw [hx] at h
   simp only [] at h
   split at h
   ·exact JX n _ _ _ h
   ·split at h
    ·obtain ⟨q,hq,rfl⟩:=Option.map_eq_some_iff.1 h
     intro t ht
     exact JX n _ _ _ hq t ht
    ·obtain ⟨q,hq,rfl⟩:=Option.map_eq_some_iff.1 h
     intro t ht h1
     rcases List.mem_cons.1 ht with rfl|ht
     ·exact acC h1
     ·exact JX n _ _ _ hq t ht h1
theorem Xw (src:List UInt8):∀t∈(jA src).1,t.2.1=[46]→t.1=3:=JX _ _ _ _ (um src (Nat.lt_succ_self _))
theorem Uu {α:Type} {l r:List Tok} {x:PR α} {v:α} (hg:AZ l x) (e:x=.ok v r):∃p,l=p++r:=by
 rw [e] at hg;exact hg.2
theorem Je {α:Type} {l r:List Tok} {x:PR α} {a c:Int} (hg:AZ l x) (e:x=.er a c r):∃p,l=p++r:=by
 rw [e] at hg;exact hg.2
structure AxT (src:List UInt8) (b:List Tok) (a d e:Nat):Prop where
 t:(jA src).1=b++[(4,[],a)]
 t':(jA (src++[10,46])).1=b++[(3,[46],d),(4,[],e)]
 p:(jA (src++[10,46])).2=(jA src).2
 k:∀t∈b,t.1≠4
 dot:∀t∈b,t.2.1=[46]→t.1=3
theorem aeQ {n:Nat} {l q:List Tok} {x:Ax} (hk:(hT l).1≠4) (h:vV l=.ok x q):rY (n+1) l=if (tyA x).2=0 then ((tyA x).1::(rY n q).1,(rY n q).2) else ((rY n q).1,(((hT l).2.2:Int),(tyA x).2)::(rY n q).2):=by
 rw [rY,if_neg hk,h]
theorem aeR {n:Nat} {l q:List Tok} {a c:Int} (hk:(hT l).1≠4) (h:vV l=.er a c q):rY (n+1) l=((rY n (lN q)).1,(a,c)::(rY n (lN q)).2):=by
 rw [rY,if_neg hk,h]
end Go.Ai.Z
