/-
 Conjunctions: what syntax.Concept answers of "(x)" and of "(x) and (y)".
-/
import Derived.Test.YtpnlnnfcaeednaaGreatDoorAiY6Y7Y8
import Derived.Test.YtpnlnnfcaeednaaGreatDoorAiY9Y10Y11
import Derived.Test.YtpnlnnfcaeednaaGreatDoorAiK5K6K7InjInj2Inj3Inj4KI
import Derived.Test.YtpnlnnfcaeednaaGreatDoorAiX1X2
set_option maxRecDepth 100000
set_option linter.unusedSimpArgs false
set_option linter.unusedVariables false
set_option linter.unusedSectionVars false
namespace Go.Ai.Z
def NZ {α:Type} (x:PR α):Prop:=∀a e r,x=.er a e r→e=30∨e=20∨e=21
theorem NZ.ne {α:Type} {x:PR α} {a e:Int} {r:List Tok} (h:NZ x) (h1:x=.er a e r):e≠0:=by rcases h a e r h1 with h|h|h<;>omega
theorem NZ.ok {α:Type} (v:α) (r:List Tok):NZ (PR.ok v r):=fun a e r h=>by cases h
theorem NZ.er {α:Type} (a e:Int) (r:List Tok) (h:e=30∨e=20∨e=21):NZ (PR.er a e r:PR α):=fun a' e' r' h'=>by cases h';exact h
theorem NZ.bind {α β:Type} {x:PR α} {f:α→List Tok→PR β} (h:NZ x) (hf:∀v r,x=.ok v r→NZ (f v r)):NZ (x.bind f):=by
 cases x with
 | ok v r=>exact hf v r rfl
 | er a e r=>exact NZ.er a e r (h a e r rfl)
theorem oO (l:List Tok):NZ (iC l):=by
 unfold iC;split
 ·split
  ·exact NZ.ok _ _
  ·exact NZ.er _ _ _ (by decide)
 ·exact NZ.er _ _ _ (by decide)
theorem Fv (w:List UInt8) (l:List Tok):NZ (kT w l):=by
 unfold kT;split
 ·exact NZ.ok _ _
 ·exact NZ.er _ _ _ (by decide)
theorem Zb (n:Int) (l:List Tok):NZ (xW n l):=by
 unfold xW;split
 ·split
  ·split
   ·exact NZ.er _ _ _ (by decide)
   ·exact NZ.ok _ _
  ·exact NZ.er _ _ _ (by decide)
 ·exact NZ.er _ _ _ (by decide)
theorem O5 {l:List Tok} (h:WT l):1≤l.length:=by have:=h.ne;cases l with|nil=>exact absurd rfl this|cons a b=>simp
theorem kZ {α:Type} {l r:List Tok} {x:PR α} {v:α} (hg:Good' l x) (e:x=.ok v r):WT r∧r.length<l.length:=by
 rw [e] at hg
 obtain ⟨h1,p,h2,h3⟩:=hg
 refine ⟨h1, ?_⟩
 rw [h3]
 cases p with
 | nil=>exact absurd rfl h2
 | cons a p=>simp;omega
theorem zX {l:List Tok} {w:List UInt8} (h:WT l) (h1:txt l=w) (h2:w≠[]):WT l.tail∧l.tail.length+1=l.length:=by
 obtain ⟨t,r,rfl,_,h3⟩:=h.tl (.inl (by rw [h1];exact h2))
 exact ⟨h3,rfl⟩
theorem WH:∀n:Nat,(∀l,WT l→2 * l.length≤n→NZ (iw n l))∧(∀l,WT l→2 * l.length+1≤n→NZ (uN n l))∧∀l cs,WT l→2 * l.length+1≤n→NZ (jI n l cs)
 | 0=>⟨fun l h h1=>by have:=O5 h;omega,fun l h h1=>by omega,fun l cs h h1=>by omega⟩
 | n+1=>by
  obtain ⟨i1,i2,i3⟩:=WH n
  refine ⟨fun l h h1=>?_,fun l h h1=>?_,fun l cs h h1=>?_⟩
  ·unfold iw
   split
   ·exact NZ.ok _ _
   split
   ·exact NZ.ok _ _
   split
   ·exact (oO _).bind fun _ _ _=>(Fv _ _).bind fun _ _ _=>NZ.ok _ _
   split
   ·rename_i h3
    obtain ⟨t1,t2⟩:=zX h h3 (by decide)
    refine (oO _).bind fun nm l1 e=>?_
    obtain ⟨q1,q2⟩:=kZ (bF t1) e
    exact (i1 l1 q1 (by omega)).bind fun _ _ _=>NZ.ok _ _
   split
   ·rename_i h3
    obtain ⟨t1,t2⟩:=zX h h3 (by decide)
    exact (i2 l.tail t1 (by omega)).bind fun _ _ _=>(Fv _ _).bind fun _ _ _=>NZ.ok _ _
   ·refine (oO _).bind fun nm l1 e=>?_
    split
    ·exact (Zb _ _).bind fun _ _ _=>(Fv _ _).bind fun _ _ _=>(Zb _ _).bind fun _ _ _=>NZ.ok _ _
    ·exact NZ.ok _ _
  ·unfold uN
   refine (i1 l h (by omega)).bind fun c l1 e=>?_
   obtain ⟨q1,q2⟩:=kZ ((iM n).1 l h) e
   exact i3 l1 _ q1 (by omega)
  ·unfold jI
   split
   ·rename_i h3
    obtain ⟨t1,t2⟩:=zX h h3 (by decide)
    refine (i1 l.tail t1 (by omega)).bind fun c l1 e=>?_
    obtain ⟨q1,q2⟩:=kZ ((iM n).1 l.tail t1) e
    exact i3 l1 _ q1 (by omega)
   ·exact NZ.ok _ _
theorem FK (x:List UInt8):(lexB x).1=(kC x).1:=by rw [Lu]
theorem FI (x:List UInt8):(lexB x).2=[] ↔ (kC x).2=[]:=by
 rw [Lu]
 cases (kC x).2 with
 | nil=>simp
 | cons a b=>simp
theorem aeE {r:List Tok} (h:WT r) (hk:(hT r).1=4):∃a,r=[(4,[],a)]:=by
 cases h with
 | fin a=>exact ⟨a,rfl⟩
 | cons t q h1 h2=>rw [Bd] at hk;rcases h1.k with k|k|k<;>rw [k] at hk<;>cases hk
structure YR (x:List UInt8) (c:C):Prop where
 bad:(kC x).2=[]
 wt:WT (kC x).1
 con:kG (kC x).1=.ok c [(4,[],x.length)]
theorem YR.single {x:List UInt8} {c:C} (h:YR x c) {n:Nat} (hn:2 * (kC x).1.length+1≤n) {p':List Tok} (hp':p'.map Dk=(body x).map Dk) (k1 k2:Int) (a1 a2:Nat) (q:List Tok):
  iw (n+1) ((k1,[40],a1)::(p'++(k2,[41],a2)::q))=.ok c q:=by
 have h1:uN n (kC x).1=.ok c [(4,[],x.length)]:=by rw [wV h.wt hn];exact h.con
 obtain ⟨p,e1,e2⟩:=(QN n).2.1 _ h.wt c _ h1
 have hx1:=(DJ x []).x1
 have hpb:p=body x:=by rw [e1] at hx1;exact (List.append_inj' hx1 rfl).1
 have h2:=e2 p' ((k2,[41],a2)::q) (by rw [hp',hpb]) (by rw [dR];show ([41]:List UInt8) ∉ [inB,Jl];decide)
 have t1:¬([40]:List UInt8)=evW:=by decide
 have t2:¬([40]:List UInt8)=Yb:=by decide
 have t3:¬([40]:List UInt8)=Po:=by decide
 simp only [iw,dR,t1,t2,t3,if_false,if_true,List.tail_cons,h2,PR.bind_ok,kT,List.cons.injEq,reduceCtorEq]
 simp
theorem abk (k:Nat) (l:List Tok):(l.map (shT k)).map Dk=l.map Dk:=by
 rw [List.map_map];rfl
theorem abW (z:List UInt8):(kC (32::z)).1=(kC z).1.map (shT 1)∧(kC (32::z)).2=(kC z).2.map (shP 1):=by
 have h2:=xE (32::z) (n:=z.length+2) (by simp)
 have h3:=IY (n:=z.length+2) [32] z (a:=0) (la:=-1) (by decide)
 have h4:=wE 1 (z.length+2) z 0 (-1) (-1) (.inr ⟨by decide,by decide⟩)
 rw [xE z (by omega)] at h4
 rw [show (32::z)=[32]++z from rfl,h3] at h2
 simp only [List.length_cons,List.length_nil,Nat.zero_add] at h2 h4
 rw [h4] at h2
 have h5:=Option.some.inj h2
 exact ⟨by rw [show (32::z)=[32]++z from rfl,←h5],by rw [show (32::z)=[32]++z from rfl,←h5]⟩
theorem abw (z:List UInt8):eG (97::110::100::32::z)=(1,3):=by
 have hr:iI (97::110::100::32::z)=3:=by
  rw [uK,if_pos (by decide),uK,if_pos (by decide),uK,if_pos (by decide),uK,if_neg (by decide)]
 rw [qI,if_pos (by decide),hr]
 simp only [List.drop_succ_cons,List.drop_zero]
 cases z with
 | nil=>rfl
 | cons e q=>simp
theorem adu (z:List UInt8):(kC (97::110::100::32::z)).1=(1,Jl,0)::(kC (32::z)).1.map (shT 3)∧(kC (97::110::100::32::z)).2=(kC (32::z)).2.map (shP 3):=by
 have h2:=xE (97::110::100::32::z) (n:=z.length+5) (by simp)
 have hdw:(97::110::100::32::z).dropWhile pO=97::110::100::32::z:=by rw [List.dropWhile_cons];simp [show pO 97=false by decide]
 rw [rJ,hdw] at h2
 simp only [show ¬o5 97=2 by decide,if_false,abw,Nat.sub_self,Nat.add_zero,Nat.zero_add,List.drop_succ_cons,List.drop_zero] at h2
 rw [if_neg (by decide)] at h2
 have h3:=wE 3 (z.length+4) (32::z) 0 (-1) (-1) (.inr ⟨by decide,by decide⟩)
 rw [Nat.zero_add] at h3
 rw [h3,xE (32::z) (by simp)] at h2
 simp only [Option.map_some] at h2
 have h4:=Option.some.inj h2
 exact ⟨by rw [←h4];rfl,by rw [←h4]⟩
def Rw (x:List UInt8):List UInt8:=40::(x++[10,41])
def Uk (x y:List UInt8):List UInt8:=40::(x++10::41::32::97::110::100::32::40::(y++[10,41]))
theorem WU (x:List UInt8):∃p a1 a2,p.map Dk=(body x).map Dk∧(kC (Rw x)).1=(3,[40],0)::(p++(3,[41],a1)::[(4,[],a2)])∧((kC x).2=[]→(kC (Rw x)).2=[]):=by
 obtain ⟨h1,h2⟩:=FH (c:=40) (by decide) (x++[10,41])
 obtain ⟨h3,h4⟩:=FH (c:=41) (by decide) []
 have hc:=DJ x [41]
 refine ⟨(body x).map (shT 1),0+(x.length+1)+1,0+1+(x.length+1)+1,abk 1 _, ?_,fun hb=>?_⟩
 ·unfold Rw
  rw [h1,hc.t,h3]
  simp only [List.map_append,List.map_cons,List.map_nil,lex_nil,shT]
 ·unfold Rw
  rw [h2,hc.p,hb,h4,lex_nil];rfl
theorem abV (x y:List UInt8):∃p q a1 a2 a3 a4 a5,p.map Dk=(body x).map Dk∧q.map Dk=(body y).map Dk∧
  (kC (Uk x y)).1=(3,[40],0)::(p++(3,[41],a1)::(1,Jl,a2)::(3,[40],a3)::(q++(3,[41],a4)::[(4,[],a5)]))∧((kC x).2=[]→(kC y).2=[]→(kC (Uk x y)).2=[]):=by
 obtain ⟨r,b1,b2,g1,g2,g3⟩:=WU y
 obtain ⟨h1,h2⟩:=FH (c:=40) (by decide) (x++10::41::32::97::110::100::32::40::(y++[10,41]))
 obtain ⟨h3,h4⟩:=FH (c:=41) (by decide) (32::97::110::100::32::40::(y++[10,41]))
 obtain ⟨h5,h6⟩:=abW (97::110::100::32::40::(y++[10,41]))
 obtain ⟨h7,h8⟩:=adu (40::(y++[10,41]))
 obtain ⟨h9,h10⟩:=abW (40::(y++[10,41]))
 have hc:=DJ x (41::32::97::110::100::32::40::(y++[10,41]))
 unfold Rw at g2 g3
 refine ⟨(body x).map (shT 1),(((((r.map (shT 1)).map (shT 3)).map (shT 1)).map (shT 1)).map (shT (x.length+1))).map (shT 1),0+(x.length+1)+1,0+1+1+(x.length+1)+1,0+1+3+1+1+(x.length+1)+1,b1+1+3+1+1+(x.length+1)+1,b2+1+3+1+1+(x.length+1)+1,abk 1 _, ?_, ?_,fun hb hb'=>?_⟩
 ·simp only [abk,g1]
 ·unfold Uk
  rw [h1,hc.t,h3,h5,h7,h9,g2]
  simp only [List.map_append,List.map_cons,List.map_nil,shT]
 ·unfold Uk
  rw [h2,hc.p,hb,h4,h6,h8,h10,g3 hb'];rfl
theorem YR.one {x:List UInt8} {c:C} (h:YR x c) (hl:(Rw x).length≤60000):(lexB (Rw x)).2=[]∧∃r,kG (lexB (Rw x)).1=.ok c r∧(hT r).1=4:=by
 obtain ⟨p,a1,a2,e1,e2,e3⟩:=WU x
 obtain ⟨hw,_⟩:=yI (src:=Rw x) (by omega)
 refine ⟨(FI _).2 (e3 h.bad),[(4,[],a2)], ?_,rfl⟩
 rw [FK] at hw ⊢
 generalize hN:2 * (kC x).1.length+1+2 * (kC (Rw x)).1.length+1=N
 rw [←wV hw (n:=N+2) (by omega),e2]
 have hs:=h.single (n:=N) (by omega) e1 3 3 0 a1 [(4,[],a2)]
 have h2:¬([]:List UInt8)=Jl:=by decide
 rw [uN,hs,PR.bind_ok,jI,dR,if_neg h2]
 rfl
theorem YR.two {x y:List UInt8} {c d:C} (h:YR x c) (h':YR y d) (hl:(Uk x y).length≤60000):(lexB (Uk x y)).2=[]∧∃r,kG (lexB (Uk x y)).1=.ok (.mk 5 [] 0 0 false [c,d]) r∧(hT r).1=4:=by
 obtain ⟨p,q,a1,a2,a3,a4,a5,e1,e1',e2,e3⟩:=abV x y
 obtain ⟨hw,_⟩:=yI (src:=Uk x y) (by omega)
 refine ⟨(FI _).2 (e3 h.bad h'.bad),[(4,[],a5)], ?_,rfl⟩
 rw [FK] at hw ⊢
 generalize hN:2 * (kC x).1.length+1+2 * (kC y).1.length+1+2 * (kC (Uk x y)).1.length+1=N
 rw [←wV hw (n:=N+3) (by omega),e2]
 have hs:=h.single (n:=N+1) (by omega) e1 3 3 0 a1 ((1,Jl,a2)::(3,[40],a3)::(q++(3,[41],a4)::[(4,[],a5)]))
 have hs':=h'.single (n:=N) (by omega) e1' 3 3 a3 a4 [(4,[],a5)]
 have h2:¬([]:List UInt8)=Jl:=by decide
 rw [uN,hs,PR.bind_ok,jI,dR,if_pos rfl,List.tail_cons,hs',PR.bind_ok,jI,dR,if_neg h2]
 rfl
end Go.Ai.Z
namespace Go.Ai.Z
theorem ZM {x:Ax} (h:rX x=0):((kV x.kind).l=true→uD x.left=0)∧((kV x.kind).r=true→uD x.right=0):=by
 unfold rX at h
 split at h
 ·cases h
 split at h
 ·cases h
 unfold VY at h
 split at h
 ·rename_i hc;exact absurd h hc.2
 split at h
 ·rename_i hc;exact absurd h hc.2
 rename_i h1 h2
 exact ⟨fun hl=>by by_cases hz:uD x.left=0;exact hz;exact absurd ⟨hl,hz⟩ h1,fun hr=>by by_cases hz:uD x.right=0;exact hz;exact absurd ⟨hr,hz⟩ h2⟩
theorem Ax.Parsed.few {x:Ax} {w:Nat} (h:x.Parsed w) (h0:rX x=0):x.Few:=by
 obtain ⟨hl,hr⟩:=ZM h0
 have hz:=ad8
 refine ⟨?_, ?_,by have:=h.roles;omega,fun r hr=>by have:=h.rs r hr;omega,by have:=h.role;omega,by have:=h.a;omega,by have:=h.b;omega⟩
 ·cases hu:(kV x.kind).l with
  | true=>have:=O7 (hl hu);omega
  | false=>rw [h.ul hu];omega
 ·cases hu:(kV x.kind).r with
  | true=>have:=O7 (hr hu);omega
  | false=>rw [h.ur hu];omega
theorem Me (x:Ax) (hx:x.Mid) (h0:rX x≠0) (s:St) (cx:Ctx):ah P0 (.fn (.func jL) [] []) [gG x] s cx=.ret (.tu [gG zA,.i .i64 (rX x)]) s:=by
 have e0:=zn x hx
 refine oZ (by simp) ?_
 rw [Jg]
 simp [af,dU,e0,h0,dZ,splice]
def YO (x y:Ax) (e:Int):Prop:=if rX x=0 then BK x y e else y=zA∧e=rX x
structure ac1 (x:Ax) (p:Ax×Int):Prop where
 a:YO x p.1 p.2
 l:wC p.1.left≤1000
 r:wC p.1.right≤1000
 roles:p.1.roles.length≤600
 c:∀(s:St) (cx:Ctx),ah P0 (.fn (.func jL) [] []) [gG x] s cx=.ret (.tu [gG p.1,.i .i64 p.2]) s
theorem abh (x:Ax):∃p:Ax×Int,x.Parsed 99999→ac1 x p:=by
 by_cases h:x.Parsed 99999
 ·by_cases h0:rX x=0
  ·obtain ⟨y,e,h1,h2,h3,h4,h5⟩:=KE x (h.few h0) h0
   exact ⟨(y,e),fun _=>⟨by unfold YO;rw [if_pos h0];exact h1,h2,h3,h4,h5⟩⟩
  ·exact ⟨(zA,rX x),fun _=>⟨by unfold YO;rw [if_neg h0];exact ⟨rfl,rfl⟩,(by decide:wC zA.left≤1000),(by decide:wC zA.right≤1000),(by decide:zA.roles.length≤600),fun s cx=>Me x (h.mid (by omega)) h0 s cx⟩⟩
 ·exact ⟨(zA,0),fun h'=>absurd h' h⟩
noncomputable def tyA (x:Ax):Ax×Int:=Classical.choose (abh x)
theorem VU {x:Ax} (h:x.Parsed 99999):ac1 x (tyA x):=Classical.choose_spec (abh x) h
def xX (l:List Tok):PR Ax:=(wz l).bind fun x r=>(kT [46] r).bind fun _ q=>.ok x q
theorem FQ {l:List Tok} (h:WT l):Good' l (xX l):=(yB h).bind fun _ _ _ h1=>((oD (by decide) h1).bind fun _ _ _ h2=>nG _ h2).zero
def mF:List Tok→List Tok
 | []=>[]
 | t::r=>if t.1=4 then t::r else if t.2.1=[46] then r else mF r
theorem MW {l:List Tok} (h:WT l):WT (mF l)∧(∃p,l=p++mF l)∧((hT l).1≠4→(mF l).length<l.length)∧(mF l).length≤l.length:=by
 induction h with
 | fin a=>exact ⟨.fin a,⟨[],rfl⟩,fun h=>absurd rfl h,Nat.le_refl _⟩
 | cons t r h1 h2 ih=>
  obtain ⟨i1,⟨p,i2⟩,_,i3⟩:=ih
  have hk:t.1≠4:=by rcases h1.k with k|k|k<;>omega
  rw [mF,if_neg hk]
  split
  ·exact ⟨h2,⟨[t],rfl⟩,fun _=>by simp,by simp⟩
  ·exact ⟨i1,⟨t::p,by rw [List.cons_append,←i2]⟩,fun _=>by simp only [List.length_cons];omega,by simp only [List.length_cons];omega⟩
theorem Suf.mF {T r:List Tok} (h:Suf T r):Suf T (Z.mF r):=by
 obtain ⟨h1,⟨p,h2⟩,_⟩:=MW h.w
 exact h.app h2 h1
end Go.Ai.Z
namespace Go.Ai.Z
noncomputable def tX:Nat→List Tok→List Ax×List Pb
 | 0,_=>([],[])
 | n+1,l=>if (hT l).1=4 then ([],[]) else match xX l with
  | .er a c q=>((tX n (mF q)).1,(a,c)::(tX n (mF q)).2)
  | .ok x q=>if (tyA x).2=0 then ((tyA x).1::(tX n q).1,(tX n q).2) else ((tX n q).1,(((hT l).2.2:Int),(tyA x).2)::(tX n q).2)
noncomputable def CX (src:List UInt8):List Ax×List Pb:=tX (kC src).1.length (kC src).1
theorem Aw {n:Nat} {l:List Tok} (h:(hT l).1=4):tX n l=([],[]):=by
 cases n with
 | zero=>rfl
 | succ n=>unfold tX;rw [if_pos h]
def AxA (src:List UInt8) (x:Ax) (e:Int):Prop:=
 match (lexB src).2 with
 | p::_=>e=p.2
 | []=>match wz (lexB src).1 with
  | .er _ c _=>e=c
  | .ok y r=>if (hT r).1=4 then x=(tyA y).1∧e=(tyA y).2 else e=30
theorem Ag {w:List UInt8} {f g:List Tok→PR Ax} {l:List Tok} (hn:w≠[]) (hw:WT l) (hf:WT l.tail→NZ (f l.tail)) (hg:NZ (g l)):NZ (ifw w f g l):=by
 unfold ifw
 split
 ·rename_i h;exact hf (zX hw h hn).1
 ·exact hg
theorem DF {l:List Tok} (h:WT l):NZ (kG l):=by
 rw [←wV h (Nat.le_refl _)]
 exact (WH _).2.1 l h (Nat.le_refl _)
theorem WI:∀(n:Nat) (acc:List (List UInt8)) (l:List Tok),NZ (tC n acc l)
 | 0,acc,l=>NZ.ok _ _
 | n+1,acc,l=>by
  unfold tC
  split
  ·exact (oO l).bind fun r l1 _=>WI n _ l1
  ·exact NZ.ok _ _
theorem UL (k:Int) (c:C) {l:List Tok} (h:WT l):NZ (Ib k c l):=(DF h).bind fun _ _ _=>NZ.ok _ _
theorem afb {l:List Tok} (h:WT l):NZ (WG l):=(DF h).bind fun c l1 e=>by
 have h1:=(kZ (mM h) e).1
 exact Ag (by decide) h1 (fun h=>UL _ _ h) (Ag (by decide) h1 (fun h=>UL _ _ h) (Ag (by decide) h1 (fun h=>UL _ _ h) (NZ.er _ _ _ (by decide))))
theorem ads {l:List Tok} (h:WT l):NZ (wU l):=by
 refine Ag (by decide) h (fun h=>?_) (Ag (by decide) h (fun h=>?_) (Ag (by decide) h (fun h=>?_) (Ag (by decide) h (fun h=>?_) (Ag (by decide) h (fun h=>?_) (Ag (by decide) h (fun h=>?_) (afb h))))))
 ·exact (oO _).bind fun r l1 e=>(DF (kZ (bF h) e).1).bind fun _ _ _=>NZ.ok _ _
 ·exact (oO _).bind fun r l1 e=>(Fv _ _).bind fun _ _ _=>(oO _).bind fun _ _ _=>NZ.ok _ _
 ·exact (oO _).bind fun r l1 e=>(oO _).bind fun _ _ _=>(WI _ _ _).bind fun _ _ _=>(Fv _ _).bind fun _ _ _=>(oO _).bind fun _ _ _=>NZ.ok _ _
 ·exact (oO _).bind fun _ _ _=>NZ.ok _ _
 ·exact (oO _).bind fun r l1 e=>(DF (kZ (bF h) e).1).bind fun _ _ _=>NZ.ok _ _
 ·exact (oO _).bind fun _ _ _=>(oO _).bind fun _ _ _=>(oO _).bind fun _ _ _=>NZ.ok _ _
theorem WJ {l:List Tok} (h:WT l):NZ (wz l):=by
 have st:∀{o p:Bool} {l:List Tok},WT l→NZ (pSt o p l):=fun h=>(ads h).bind fun _ _ _=>NZ.ok _ _
 exact Ag (by decide) h (fun h=>st h) (Ag (by decide) h (fun h=>st h) (st h))
theorem abv {b:List UInt8} (ht:b.take (eG b).2=[46]):(eG b).1=3:=by
 cases b with
 | nil=>simp at ht
 | cons c r=>
  have hc:c=46:=by
   cases hw:(eG (c::r)).2 with
   | zero=>rw [hw] at ht;simp at ht
   | succ n=>rw [hw,List.take_succ_cons] at ht;exact (List.cons.inj ht).1
  subst hc
  have hk:o5 46=6:=by decide
  rw [qI,if_neg (by rw [hk];decide),if_neg (by rw [hk];decide),if_neg (by rw [hk];decide),if_pos hk]
theorem JO:∀(n:Nat) (b:List UInt8) (a:Nat) (la:Int) {p:List Tok×List Pb},rJ n b a la=some p→∀t∈p.1,t.2.1=[46]→t.1=3
 | 0,b,a,la,p,h=>by simp [rJ] at h
 | n+1,b,a,la,p,h=>by
  unfold rJ at h
  cases hx:b.dropWhile pO with
  | nil=>
   rw [hx] at h
   simp only [Option.some.injEq] at h
   subst h
   intro t ht h1
   simp only [List.mem_singleton] at ht
   subst ht;cases h1
  | cons c r=>
   rw [hx] at h
   simp only [] at h
   split at h
   ·exact JO n _ _ _ h
   ·split at h
    ·obtain ⟨q,hq,rfl⟩:=Option.map_eq_some_iff.1 h
     intro t ht
     exact JO n _ _ _ hq t ht
    ·obtain ⟨q,hq,rfl⟩:=Option.map_eq_some_iff.1 h
     intro t ht h1
     rcases List.mem_cons.1 ht with rfl|ht
     ·exact abv h1
     ·exact JO n _ _ _ hq t ht h1
theorem abX (src:List UInt8):∀t∈(kC src).1,t.2.1=[46]→t.1=3:=JO _ _ _ _ (xE src (Nat.lt_succ_self _))
theorem MX {p:List Tok} (h:∀t∈p,t.1≠4∧t.2.1≠[46]) (d e:Nat):mF (p++[(3,[46],d),(4,[],e)])=[(4,[],e)]:=by
 induction p with
 | nil=>rfl
 | cons t p ih=>
  obtain ⟨h1,h2⟩:=h t (by simp)
  rw [List.cons_append,mF,if_neg h1,if_neg h2]
  exact ih fun u hu=>h u (by simp [hu])
theorem Sz:∀(p:List Tok) {t t':Tok},xu t=true→xu t'=true→∀q q',upto (p++t::q)=upto (p++t'::q')
 | [],t,t',h,h',q,q'=>by simp only [List.nil_append,upto];rw [if_pos h,if_pos h']
 | u::p,t,t',h,h',q,q'=>by simp only [List.cons_append,upto];rw [Sz p h h' q q']
theorem SH {b p q X:List Tok} (h:b++X=p++q) (hl:X.length≤q.length):∃s,q=s++X∧b=p++s:=by
 rcases List.append_eq_append_iff.1 h with ⟨s,h1,h2⟩|⟨s,h1,h2⟩
 ·have:=congrArg List.length h2
  simp only [List.length_append] at this
  have hs:s=[]:=List.eq_nil_of_length_eq_zero (by omega)
  subst hs
  exact ⟨[],by simpa using h2.symm,by simpa using h1.symm⟩
 ·exact ⟨s,h2,h1⟩
theorem TL {α:Type} {l r:List Tok} {x:PR α} {v:α} (hg:BD l x) (e:x=.ok v r):∃p,l=p++r:=by
 rw [e] at hg;exact hg.2
theorem QI {α:Type} {l r:List Tok} {x:PR α} {a c:Int} (hg:BD l x) (e:x=.er a c r):∃p,l=p++r:=by
 rw [e] at hg;exact hg.2
structure AxT (src:List UInt8) (b:List Tok) (a d e:Nat):Prop where
 t:(kC src).1=b++[(4,[],a)]
 t':(kC (src++[10,46])).1=b++[(3,[46],d),(4,[],e)]
 p:(kC (src++[10,46])).2=(kC src).2
 k:∀t∈b,t.1≠4
 dot:∀t∈b,t.2.1=[46]→t.1=3
theorem acV (src:List UInt8):∃b a d e,AxT src b a d e:=by
 have hc:=DJ src [46]
 obtain ⟨s1,s2⟩:=FH (c:=46) (by decide) []
 rw [lex_nil] at s1 s2
 refine ⟨body src,_,_,_,hc.x1,by rw [hc.t,s1];rfl,by rw [hc.p,s2];simp,fun t ht=>(hc.bd t ht).2,fun t ht h=>?_⟩
 exact abX src t (by rw [hc.x1];simp [ht]) h
theorem Zp {n:Nat} {l q:List Tok} {x:Ax} (hk:(hT l).1≠4) (h:xX l=.ok x q):tX (n+1) l=if (tyA x).2=0 then ((tyA x).1::(tX n q).1,(tX n q).2) else ((tX n q).1,(((hT l).2.2:Int),(tyA x).2)::(tX n q).2):=by
 rw [tX,if_neg hk,h]
theorem Vd {n:Nat} {l q:List Tok} {a c:Int} (hk:(hT l).1≠4) (h:xX l=.er a c q):tX (n+1) l=((tX n (mF q)).1,(a,c)::(tX n (mF q)).2):=by
 rw [tX,if_neg hk,h]
theorem acW {src:List UInt8} (hl:src.length≤60000) {x:Ax} {e:Int} (h:AxA src x e) (hb:(kC src).2=[]):
  (e=0→CX (src++[10,46])=([x],[]))∧(e≠0→(∀t∈(kC src).1,¬(t.1=3∧t.2.1=[46]))→∃p,CX (src++[10,46])=([],[p])):=by
 obtain ⟨b,a0,d,e0,hT0⟩:=acV src
 have w1:=(yI (src:=src) (by omega)).1
 have w2:=(yI (src:=src++[10,46]) (by simp;omega)).1
 rw [FK] at w1 w2
 have hbB:(lexB src).2=[]:=(FI src).2 hb
 unfold AxA at h
 rw [hbB,FK] at h
 simp only [] at h
 unfold CX
 rw [hT0.t] at w1 h ⊢
 rw [hT0.t'] at w2 ⊢
 have hk:(hT (b++[(3,[46],d),(4,[],e0)])).1≠4:=by
  cases hbb:b with
  | nil=>exact (by decide:(3:Int)≠4)
  | cons t q=>exact hT0.k t (by rw [hbb];simp)
 have hlen:(b++[(3,[46],d),(4,[],e0)]).length=b.length+1+1:=by simp
 rw [hlen]
 have hr:=PU _ _ w1 w2 (Sz b (t:=(4,[],a0)) (t':=(3,[46],d)) rfl rfl [] [(4,[],e0)])
 have hg1:=(yB w1).zero
 have hg2:=(yB w2).zero
 cases hx:wz (b++[(4,[],a0)]) with
 | er a c r=>
  have hnz:=(WJ w1).ne hx
  cases hx':wz (b++[(3,[46],d),(4,[],e0)]) with
  | ok v r'=>rw [hx,hx'] at hr;exact absurd hr (by simp [Ej])
  | er a' c' r'=>
   rw [hx,hx'] at hr
   rw [hx] at h
   simp only [] at h
   obtain ⟨rfl,u1,u2,u3,u4,u5,u6⟩:=hr
   refine ⟨fun h0=>absurd (h.symm.trans h0) hnz,fun _ hnd=>?_⟩
   obtain ⟨p,hp⟩:=QI hg2 hx'
   have hl2:=O5 u1
   obtain ⟨s,hs1,hs2⟩:=SH hp (by simp at u4 ⊢;omega)
   have hs:∀t∈s,t.1≠4∧t.2.1≠[46]:=fun t ht=>by
    have hm:t∈b:=by rw [hs2];simp [ht]
    exact ⟨hT0.k t hm,fun hh=>hnd t (by simp [hm]) ⟨hT0.dot t hm hh,hh⟩⟩
   have hdot:xX (b++[(3,[46],d),(4,[],e0)])=.er a' c r':=by unfold xX;rw [hx',PR.bind_er]
   rw [Vd hk hdot,hs1,MX hs,Aw rfl]
   exact ⟨_,rfl⟩
 | ok y r=>
  cases hx':wz (b++[(3,[46],d),(4,[],e0)]) with
  | er a' c' r'=>rw [hx,hx'] at hr;exact absurd hr (by simp [Ej])
  | ok y' r'=>
   rw [hx,hx'] at hr
   rw [hx] at h
   simp only [] at h
   obtain ⟨rfl,u1,u2,u3,u4⟩:=hr
   obtain ⟨p,hp⟩:=TL hg2 hx'
   have hl2:=O5 u1
   obtain ⟨s,hs1,hs2⟩:=SH hp (by simp at u4 ⊢;omega)
   by_cases hend:(hT r).1=4
   ·rw [if_pos hend] at h
    obtain ⟨a,ha⟩:=aeE u1 hend
    have hs0:s=[]:=by
     rw [ha,hs1] at u4
     simp at u4
     exact List.eq_nil_of_length_eq_zero (by omega)
    rw [hs0,List.nil_append] at hs1
    have hdot:xX (b++[(3,[46],d),(4,[],e0)])=.ok y [(4,[],e0)]:=by unfold xX;rw [hx',PR.bind_ok,hs1];rfl
    rw [Zp hk hdot,Aw rfl,←h.2,←h.1]
    exact ⟨fun h0=>by rw [if_pos h0],fun h0 _=>⟨_,by rw [if_neg h0]⟩⟩
   ·rw [if_neg hend] at h
    refine ⟨fun h0=>absurd (h.symm.trans h0) (by decide),fun _ hnd=>?_⟩
    have hs:∀t∈s,t.1≠4∧t.2.1≠[46]:=fun t ht=>by
     have hm:t∈b:=by rw [hs2];simp [ht]
     exact ⟨hT0.k t hm,fun hh=>hnd t (by simp [hm]) ⟨hT0.dot t hm hh,hh⟩⟩
    have hne:txt r'≠[46]:=by
     obtain ⟨p1,hp1⟩:=TL hg1 hx
     cases s with
     | nil=>
      exfalso
      rw [hs1] at u4
      simp at u4
      have hr1:r.length=1:=by omega
      apply hend
      cases u1 with
      | fin a=>rfl
      | cons t q q1 q2=>have:=O5 q2;simp only [List.length_cons] at hr1;omega
     | cons t s=>rw [hs1];exact (hs t (by simp)).2
    have hdot:xX (b++[(3,[46],d),(4,[],e0)])=.er (hT r').2.2 30 r':=by unfold xX kT;rw [hx',PR.bind_ok,if_neg hne,PR.bind_er]
    rw [Vd hk hdot,hs1,MX hs,Aw rfl]
    exact ⟨_,rfl⟩
end Go.Ai.Z
