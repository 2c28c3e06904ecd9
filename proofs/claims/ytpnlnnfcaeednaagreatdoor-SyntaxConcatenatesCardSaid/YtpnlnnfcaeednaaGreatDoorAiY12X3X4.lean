/-
 Conjunctions: what syntax.Concept answers of "(x)" and of "(x) and (y)".
-/
import Derived.Test.YtpnlnnfcaeednaaGreatDoorAiY6Y7Y8
import Derived.Test.YtpnlnnfcaeednaaGreatDoorAiY9Y10Y11
import Derived.Test.YtpnlnnfcaeednaaGreatDoorAiK5K6K7InjInj2Inj3Inj4KI
import Derived.Test.YtpnlnnfcaeednaaGreatDoorAiX1X2
set_option maxRecDepth 100000
set_option linter.unusedSimpArgs false
set_option linter.unusedVariables false
set_option linter.unusedSectionVars false
namespace Go.Ai.Z
def NZ {α:Type} (x:PR α):Prop:=∀a e r,x=.er a e r→e=30∨e=20∨e=21
theorem NZ.ne {α:Type} {x:PR α} {a e:Int} {r:List Tok} (h:NZ x) (h1:x=.er a e r):e≠0:=by rcases h a e r h1 with h|h|h<;>omega
theorem NZ.ok {α:Type} (v:α) (r:List Tok):NZ (PR.ok v r):=fun a e r h=>by cases h
theorem NZ.er {α:Type} (a e:Int) (r:List Tok) (h:e=30∨e=20∨e=21):NZ (PR.er a e r:PR α):=fun a' e' r' h'=>by cases h';exact h
theorem NZ.bind {α β:Type} {x:PR α} {f:α→List Tok→PR β} (h:NZ x) (hf:∀v r,x=.ok v r→NZ (f v r)):NZ (x.bind f):=by
 cases x with
 | ok v r=>exact hf v r rfl
 | er a e r=>exact NZ.er a e r (h a e r rfl)
theorem o5 (l:List Tok):NZ (ig l):=by
 unfold ig;split
 ·split
  ·exact NZ.ok _ _
  ·exact NZ.er _ _ _ (by decide)
 ·exact NZ.er _ _ _ (by decide)
theorem CJ (w:List UInt8) (l:List Tok):NZ (kG w l):=by
 unfold kG;split
 ·exact NZ.ok _ _
 ·exact NZ.er _ _ _ (by decide)
theorem Z9 (n:Int) (l:List Tok):NZ (yu n l):=by
 unfold yu;split
 ·split
  ·split
   ·exact NZ.er _ _ _ (by decide)
   ·exact NZ.ok _ _
  ·exact NZ.er _ _ _ (by decide)
 ·exact NZ.er _ _ _ (by decide)
theorem Ll {l:List Tok} (h:WT l):1≤l.length:=by have:=h.ne;cases l with|nil=>exact absurd rfl this|cons a b=>simp
theorem kY {α:Type} {l r:List Tok} {x:PR α} {v:α} (hg:Good' l x) (e:x=.ok v r):WT r∧r.length<l.length:=by
 rw [e] at hg
 obtain ⟨h1,p,h2,h3⟩:=hg
 refine ⟨h1, ?_⟩
 rw [h3]
 cases p with
 | nil=>exact absurd rfl h2
 | cons a p=>simp;omega
theorem Ae {l:List Tok} {w:List UInt8} (h:WT l) (h1:txt l=w) (h2:w≠[]):WT l.tail∧l.tail.length+1=l.length:=by
 obtain ⟨t,r,rfl,_,h3⟩:=h.tl (.inl (by rw [h1];exact h2))
 exact ⟨h3,rfl⟩
theorem Xp:∀n:Nat,(∀l,WT l→2 * l.length≤n→NZ (gZ n l))∧(∀l,WT l→2 * l.length+1≤n→NZ (uQ n l))∧∀l cs,WT l→2 * l.length+1≤n→NZ (jM n l cs)
 | 0=>⟨fun l h h1=>by have:=Ll h;omega,fun l h h1=>by omega,fun l cs h h1=>by omega⟩
 | n+1=>by
  obtain ⟨i1,i2,i3⟩:=Xp n
  refine ⟨fun l h h1=>?_,fun l h h1=>?_,fun l cs h h1=>?_⟩
  ·unfold gZ
   split
   ·exact NZ.ok _ _
   split
   ·exact NZ.ok _ _
   split
   ·exact (o5 _).bind fun _ _ _=>(CJ _ _).bind fun _ _ _=>NZ.ok _ _
   split
   ·rename_i h3
    obtain ⟨t1,t2⟩:=Ae h h3 (by decide)
    refine (o5 _).bind fun nm l1 e=>?_
    obtain ⟨q1,q2⟩:=kY (bG t1) e
    exact (i1 l1 q1 (by omega)).bind fun _ _ _=>NZ.ok _ _
   split
   ·rename_i h3
    obtain ⟨t1,t2⟩:=Ae h h3 (by decide)
    exact (i2 l.tail t1 (by omega)).bind fun _ _ _=>(CJ _ _).bind fun _ _ _=>NZ.ok _ _
   ·refine (o5 _).bind fun nm l1 e=>?_
    split
    ·exact (Z9 _ _).bind fun _ _ _=>(CJ _ _).bind fun _ _ _=>(Z9 _ _).bind fun _ _ _=>NZ.ok _ _
    ·exact NZ.ok _ _
  ·unfold uQ
   refine (i1 l h (by omega)).bind fun c l1 e=>?_
   obtain ⟨q1,q2⟩:=kY ((iL n).1 l h) e
   exact i3 l1 _ q1 (by omega)
  ·unfold jM
   split
   ·rename_i h3
    obtain ⟨t1,t2⟩:=Ae h h3 (by decide)
    refine (i1 l.tail t1 (by omega)).bind fun c l1 e=>?_
    obtain ⟨q1,q2⟩:=kY ((iL n).1 l.tail t1) e
    exact i3 l1 _ q1 (by omega)
   ·exact NZ.ok _ _
theorem DV (x:List UInt8):(lexB x).1=(fM x).1:=by rw [FK]
theorem ac2 (x:List UInt8):(lexB x).2=[] ↔ (fM x).2=[]:=by
 rw [FK]
 cases (fM x).2 with
 | nil=>simp
 | cons a b=>simp
structure ZG (x:List UInt8) (c:C):Prop where
 bad:(fM x).2=[]
 wt:WT (fM x).1
 con:kH (fM x).1=.ok c [(4,[],x.length)]
theorem ZG.single {x:List UInt8} {c:C} (h:ZG x c) {n:Nat} (hn:2 * (fM x).1.length+1≤n) {p':List Tok} (hp':p'.map l7=(body x).map l7) (k1 k2:Int) (a1 a2:Nat) (q:List Tok):
  gZ (n+1) ((k1,[40],a1)::(p'++(k2,[41],a2)::q))=.ok c q:=by
 have h1:uQ n (fM x).1=.ok c [(4,[],x.length)]:=by rw [xu h.wt hn];exact h.con
 obtain ⟨p,e1,e2⟩:=(RJ n).2.1 _ h.wt c _ h1
 have hx1:=(yR x []).x1
 have hpb:p=body x:=by rw [e1] at hx1;exact (List.append_inj' hx1 rfl).1
 have h2:=e2 p' ((k2,[41],a2)::q) (by rw [hp',hpb]) (by rw [dM];show ([41]:List UInt8) ∉ [inB,Jm];decide)
 have t1:¬([40]:List UInt8)=evW:=by decide
 have t2:¬([40]:List UInt8)=YM:=by decide
 have t3:¬([40]:List UInt8)=Qg:=by decide
 simp only [gZ,dM,t1,t2,t3,if_false,if_true,List.tail_cons,h2,PR.bind_ok,kG,List.cons.injEq,reduceCtorEq]
 simp
theorem ZO (k:Nat) (l:List Tok):(l.map (shT k)).map l7=l.map l7:=by
 rw [List.map_map];rfl
theorem ac1 (z:List UInt8):(fM (32::z)).1=(fM z).1.map (shT 1)∧(fM (32::z)).2=(fM z).2.map (shP 1):=by
 have h2:=wB (32::z) (n:=z.length+2) (by simp)
 have h3:=I4 (n:=z.length+2) [32] z (a:=0) (la:=-1) (by decide)
 have h4:=wO 1 (z.length+2) z 0 (-1) (-1) (.inr ⟨by decide,by decide⟩)
 rw [wB z (by omega)] at h4
 rw [show (32::z)=[32]++z from rfl,h3] at h2
 simp only [List.length_cons,List.length_nil,Nat.zero_add] at h2 h4
 rw [h4] at h2
 have h5:=Option.some.inj h2
 exact ⟨by rw [show (32::z)=[32]++z from rfl,←h5],by rw [show (32::z)=[32]++z from rfl,←h5]⟩
theorem acB (z:List UInt8):eu (97::110::100::32::z)=(1,3):=by
 have hr:iF (97::110::100::32::z)=3:=by
  rw [uO,if_pos (by decide),uO,if_pos (by decide),uO,if_pos (by decide),uO,if_neg (by decide)]
 rw [qX,if_pos (by decide),hr]
 simp only [List.drop_succ_cons,List.drop_zero]
 cases z with
 | nil=>rfl
 | cons e q=>simp
theorem aeu (z:List UInt8):(fM (97::110::100::32::z)).1=(1,Jm,0)::(fM (32::z)).1.map (shT 3)∧(fM (97::110::100::32::z)).2=(fM (32::z)).2.map (shP 3):=by
 have h2:=wB (97::110::100::32::z) (n:=z.length+5) (by simp)
 have hdw:(97::110::100::32::z).dropWhile pO=97::110::100::32::z:=by rw [List.dropWhile_cons];simp [show pO 97=false by decide]
 rw [qO,hdw] at h2
 simp only [show ¬o9 97=2 by decide,if_false,acB,Nat.sub_self,Nat.add_zero,Nat.zero_add,List.drop_succ_cons,List.drop_zero] at h2
 rw [if_neg (by decide)] at h2
 have h3:=wO 3 (z.length+4) (32::z) 0 (-1) (-1) (.inr ⟨by decide,by decide⟩)
 rw [Nat.zero_add] at h3
 rw [h3,wB (32::z) (by simp)] at h2
 simp only [Option.map_some] at h2
 have h4:=Option.some.inj h2
 exact ⟨by rw [←h4];rfl,by rw [←h4]⟩
def SS (x:List UInt8):List UInt8:=40::(x++[10,41])
def U2 (x y:List UInt8):List UInt8:=40::(x++10::41::32::97::110::100::32::40::(y++[10,41]))
theorem Xz (x:List UInt8):∃p a1 a2,p.map l7=(body x).map l7∧(fM (SS x)).1=(3,[40],0)::(p++(3,[41],a1)::[(4,[],a2)])∧((fM x).2=[]→(fM (SS x)).2=[]):=by
 obtain ⟨h1,h2⟩:=JS (c:=40) (by decide) (x++[10,41])
 obtain ⟨h3,h4⟩:=JS (c:=41) (by decide) []
 have hc:=yR x [41]
 refine ⟨(body x).map (shT 1),0+(x.length+1)+1,0+1+(x.length+1)+1,ZO 1 _, ?_,fun hb=>?_⟩
 ·unfold SS
  rw [h1,hc.t,h3]
  simp only [List.map_append,List.map_cons,List.map_nil,lex_nil,shT]
 ·unfold SS
  rw [h2,hc.p,hb,h4,lex_nil];rfl
theorem ac0 (x y:List UInt8):∃p q a1 a2 a3 a4 a5,p.map l7=(body x).map l7∧q.map l7=(body y).map l7∧
  (fM (U2 x y)).1=(3,[40],0)::(p++(3,[41],a1)::(1,Jm,a2)::(3,[40],a3)::(q++(3,[41],a4)::[(4,[],a5)]))∧((fM x).2=[]→(fM y).2=[]→(fM (U2 x y)).2=[]):=by
 obtain ⟨r,b1,b2,g1,g2,g3⟩:=Xz y
 obtain ⟨h1,h2⟩:=JS (c:=40) (by decide) (x++10::41::32::97::110::100::32::40::(y++[10,41]))
 obtain ⟨h3,h4⟩:=JS (c:=41) (by decide) (32::97::110::100::32::40::(y++[10,41]))
 obtain ⟨h5,h6⟩:=ac1 (97::110::100::32::40::(y++[10,41]))
 obtain ⟨h7,h8⟩:=aeu (40::(y++[10,41]))
 obtain ⟨h9,h10⟩:=ac1 (40::(y++[10,41]))
 have hc:=yR x (41::32::97::110::100::32::40::(y++[10,41]))
 unfold SS at g2 g3
 refine ⟨(body x).map (shT 1),(((((r.map (shT 1)).map (shT 3)).map (shT 1)).map (shT 1)).map (shT (x.length+1))).map (shT 1),0+(x.length+1)+1,0+1+1+(x.length+1)+1,0+1+3+1+1+(x.length+1)+1,b1+1+3+1+1+(x.length+1)+1,b2+1+3+1+1+(x.length+1)+1,ZO 1 _, ?_, ?_,fun hb hb'=>?_⟩
 ·simp only [ZO,g1]
 ·unfold U2
  rw [h1,hc.t,h3,h5,h7,h9,g2]
  simp only [List.map_append,List.map_cons,List.map_nil,shT]
 ·unfold U2
  rw [h2,hc.p,hb,h4,h6,h8,h10,g3 hb'];rfl
theorem ZG.one {x:List UInt8} {c:C} (h:ZG x c) (hl:(SS x).length≤60000):(lexB (SS x)).2=[]∧∃r,kH (lexB (SS x)).1=.ok c r∧(hT r).1=4:=by
 obtain ⟨p,a1,a2,e1,e2,e3⟩:=Xz x
 obtain ⟨hw,_⟩:=zG (src:=SS x) (by omega)
 refine ⟨(ac2 _).2 (e3 h.bad),[(4,[],a2)], ?_,rfl⟩
 rw [DV] at hw ⊢
 generalize hN:2 * (fM x).1.length+1+2 * (fM (SS x)).1.length+1=N
 rw [←xu hw (n:=N+2) (by omega),e2]
 have hs:=h.single (n:=N) (by omega) e1 3 3 0 a1 [(4,[],a2)]
 have h2:¬([]:List UInt8)=Jm:=by decide
 rw [uQ,hs,PR.bind_ok,jM,dM,if_neg h2]
 rfl
theorem ZG.two {x y:List UInt8} {c d:C} (h:ZG x c) (h':ZG y d) (hl:(U2 x y).length≤60000):(lexB (U2 x y)).2=[]∧∃r,kH (lexB (U2 x y)).1=.ok (.mk 5 [] 0 0 false [c,d]) r∧(hT r).1=4:=by
 obtain ⟨p,q,a1,a2,a3,a4,a5,e1,e1',e2,e3⟩:=ac0 x y
 obtain ⟨hw,_⟩:=zG (src:=U2 x y) (by omega)
 refine ⟨(ac2 _).2 (e3 h.bad h'.bad),[(4,[],a5)], ?_,rfl⟩
 rw [DV] at hw ⊢
 generalize hN:2 * (fM x).1.length+1+2 * (fM y).1.length+1+2 * (fM (U2 x y)).1.length+1=N
 rw [←xu hw (n:=N+3) (by omega),e2]
 have hs:=h.single (n:=N+1) (by omega) e1 3 3 0 a1 ((1,Jm,a2)::(3,[40],a3)::(q++(3,[41],a4)::[(4,[],a5)]))
 have hs':=h'.single (n:=N) (by omega) e1' 3 3 a3 a4 [(4,[],a5)]
 have h2:¬([]:List UInt8)=Jm:=by decide
 rw [uQ,hs,PR.bind_ok,jM,dM,if_pos rfl,List.tail_cons,hs',PR.bind_ok,jM,dM,if_neg h2]
 rfl
end Go.Ai.Z
namespace Go.Ai.Z
theorem TU {x:Ax} (h:jV x=0):((iE x.kind).l=true→jl x.left=0)∧((iE x.kind).r=true→jl x.right=0):=by
 unfold jV at h
 split at h
 ·cases h
 split at h
 ·cases h
 unfold Ns at h
 split at h
 ·rename_i hc;exact absurd h hc.2
 split at h
 ·rename_i hc;exact absurd h hc.2
 rename_i h1 h2
 exact ⟨fun hl=>by by_cases hz:jl x.left=0;exact hz;exact absurd ⟨hl,hz⟩ h1,fun hr=>by by_cases hz:jl x.right=0;exact hz;exact absurd ⟨hr,hz⟩ h2⟩
theorem Ax.Parsed.few {x:Ax} {w:Nat} (h:x.Parsed w) (h0:jV x=0):x.Few:=by
 obtain ⟨hl,hr⟩:=TU h0
 have hz:=aff
 refine ⟨?_, ?_,by have:=h.roles;omega,fun r hr=>by have:=h.rs r hr;omega,by have:=h.role;omega,by have:=h.a;omega,by have:=h.b;omega⟩
 ·cases hu:(iE x.kind).l with
  | true=>have:=IA (hl hu);omega
  | false=>rw [h.ul hu];omega
 ·cases hu:(iE x.kind).r with
  | true=>have:=IA (hr hu);omega
  | false=>rw [h.ur hu];omega
theorem MZ (x:Ax) (hx:x.Mid) (h0:jV x≠0) (s:St) (cx:Ctx):ah P0 (.fn (.func jP) [] []) [fG x] s cx=.ret (.tu [fG zA,.i .i64 (jV x)]) s:=by
 have e0:=zq x hx
 refine o8 (by simp) ?_
 rw [VN]
 simp [af,dW,e0,h0,dV,splice]
def SI (x y:Ax) (e:Int):Prop:=if jV x=0 then zk x y e else y=zA∧e=jV x
structure ad2 (x:Ax) (p:Ax×Int):Prop where
 a:SI x p.1 p.2
 l:wC p.1.left≤1000
 r:wC p.1.right≤1000
 roles:p.1.roles.length≤600
 c:∀(s:St) (cx:Ctx),ah P0 (.fn (.func jP) [] []) [fG x] s cx=.ret (.tu [fG p.1,.i .i64 p.2]) s
theorem ach (x:Ax):∃p:Ax×Int,x.Parsed 99999→ad2 x p:=by
 by_cases h:x.Parsed 99999
 ·by_cases h0:jV x=0
  ·obtain ⟨y,e,h1,h2,h3,h4,h5⟩:=KP x (h.few h0) h0
   exact ⟨(y,e),fun _=>⟨by unfold SI;rw [if_pos h0];exact h1,h2,h3,h4,h5⟩⟩
  ·exact ⟨(zA,jV x),fun _=>⟨by unfold SI;rw [if_neg h0];exact ⟨rfl,rfl⟩,(by decide:wC zA.left≤1000),(by decide:wC zA.right≤1000),(by decide:zA.roles.length≤600),fun s cx=>MZ x (h.mid (by omega)) h0 s cx⟩⟩
 ·exact ⟨(zA,0),fun h'=>absurd h' h⟩
noncomputable def tyA (x:Ax):Ax×Int:=Classical.choose (ach x)
theorem P5 {x:Ax} (h:x.Parsed 99999):ad2 x (tyA x):=Classical.choose_spec (ach x) h
def vV (l:List Tok):PR Ax:=(BD l).bind fun x r=>(kG [46] r).bind fun _ q=>.ok x q
theorem FT {l:List Tok} (h:WT l):Good' l (vV l):=(D5 h).bind fun _ _ _ h1=>((oL (by decide) h1).bind fun _ _ _ h2=>nP _ h2).zero
def lT:List Tok→List Tok
 | []=>[]
 | t::r=>if t.1=4 then t::r else if t.2.1=[46] then r else lT r
theorem Ny {l:List Tok} (h:WT l):WT (lT l)∧(∃p,l=p++lT l)∧((hT l).1≠4→(lT l).length<l.length)∧(lT l).length≤l.length:=by
 induction h with
 | fin a=>exact ⟨.fin a,⟨[],rfl⟩,fun h=>absurd rfl h,Nat.le_refl _⟩
 | cons t r h1 h2 ih=>
  obtain ⟨i1,⟨p,i2⟩,_,i3⟩:=ih
  have hk:t.1≠4:=by rcases h1.k with k|k|k<;>omega
  rw [lT,if_neg hk]
  split
  ·exact ⟨h2,⟨[t],rfl⟩,fun _=>by simp,by simp⟩
  ·exact ⟨i1,⟨t::p,by rw [List.cons_append,←i2]⟩,fun _=>by simp only [List.length_cons];omega,by simp only [List.length_cons];omega⟩
theorem Suf.lT {T r:List Tok} (h:Suf T r):Suf T (Z.lT r):=by
 obtain ⟨h1,⟨p,h2⟩,_⟩:=Ny h.w
 exact h.app h2 h1
end Go.Ai.Z
namespace Go.Ai.Z
noncomputable def oh:Nat→List Tok→List Ax×List Pb
 | 0,_=>([],[])
 | n+1,l=>if (hT l).1=4 then ([],[]) else match vV l with
  | .er a c q=>((oh n (lT q)).1,(a,c)::(oh n (lT q)).2)
  | .ok x q=>if (tyA x).2=0 then ((tyA x).1::(oh n q).1,(oh n q).2) else ((oh n q).1,(((hT l).2.2:Int),(tyA x).2)::(oh n q).2)
noncomputable def vP (src:List UInt8):List Ax×List Pb:=oh (fM src).1.length (fM src).1
theorem xP {n:Nat} {l:List Tok} (h:(hT l).1=4):oh n l=([],[]):=by
 cases n with
 | zero=>rfl
 | succ n=>unfold oh;rw [if_pos h]
theorem Ap {w:List UInt8} {f g:List Tok→PR Ax} {l:List Tok} (hn:w≠[]) (hw:WT l) (hf:WT l.tail→NZ (f l.tail)) (hg:NZ (g l)):NZ (ifw w f g l):=by
 unfold ifw
 split
 ·rename_i h;exact hf (Ae hw h hn).1
 ·exact hg
theorem DR {l:List Tok} (h:WT l):NZ (kH l):=by
 rw [←xu h (Nat.le_refl _)]
 exact (Xp _).2.1 l h (Nat.le_refl _)
theorem Xq:∀(n:Nat) (acc:List (List UInt8)) (l:List Tok),NZ (tY n acc l)
 | 0,acc,l=>NZ.ok _ _
 | n+1,acc,l=>by
  unfold tY
  split
  ·exact (o5 l).bind fun r l1 _=>Xq n _ l1
  ·exact NZ.ok _ _
theorem Vr (k:Int) (c:C) {l:List Tok} (h:WT l):NZ (Ic k c l):=(DR h).bind fun _ _ _=>NZ.ok _ _
theorem agh {l:List Tok} (h:WT l):NZ (Xn l):=(DR h).bind fun c l1 e=>by
 have h1:=(kY (mX h) e).1
 exact Ap (by decide) h1 (fun h=>Vr _ _ h) (Ap (by decide) h1 (fun h=>Vr _ _ h) (Ap (by decide) h1 (fun h=>Vr _ _ h) (NZ.er _ _ _ (by decide))))
theorem aer {l:List Tok} (h:WT l):NZ (xq l):=by
 refine Ap (by decide) h (fun h=>?_) (Ap (by decide) h (fun h=>?_) (Ap (by decide) h (fun h=>?_) (Ap (by decide) h (fun h=>?_) (Ap (by decide) h (fun h=>?_) (Ap (by decide) h (fun h=>?_) (agh h))))))
 ·exact (o5 _).bind fun r l1 e=>(DR (kY (bG h) e).1).bind fun _ _ _=>NZ.ok _ _
 ·exact (o5 _).bind fun r l1 e=>(CJ _ _).bind fun _ _ _=>(o5 _).bind fun _ _ _=>NZ.ok _ _
 ·exact (o5 _).bind fun r l1 e=>(o5 _).bind fun _ _ _=>(Xq _ _ _).bind fun _ _ _=>(CJ _ _).bind fun _ _ _=>(o5 _).bind fun _ _ _=>NZ.ok _ _
 ·exact (o5 _).bind fun _ _ _=>NZ.ok _ _
 ·exact (o5 _).bind fun r l1 e=>(DR (kY (bG h) e).1).bind fun _ _ _=>NZ.ok _ _
 ·exact (o5 _).bind fun _ _ _=>(o5 _).bind fun _ _ _=>(o5 _).bind fun _ _ _=>NZ.ok _ _
theorem Xr {l:List Tok} (h:WT l):NZ (BD l):=by
 have st:∀{o p:Bool} {l:List Tok},WT l→NZ (pSt o p l):=fun h=>(aer h).bind fun _ _ _=>NZ.ok _ _
 exact Ap (by decide) h (fun h=>st h) (Ap (by decide) h (fun h=>st h) (st h))
theorem acA {b:List UInt8} (ht:b.take (eu b).2=[46]):(eu b).1=3:=by
 cases b with
 | nil=>simp at ht
 | cons c r=>
  have hc:c=46:=by
   cases hw:(eu (c::r)).2 with
   | zero=>rw [hw] at ht;simp at ht
   | succ n=>rw [hw,List.take_succ_cons] at ht;exact (List.cons.inj ht).1
  subst hc
  have hk:o9 46=6:=by decide
  rw [qX,if_neg (by rw [hk];decide),if_neg (by rw [hk];decide),if_neg (by rw [hk];decide),if_pos hk]
theorem JW:∀(n:Nat) (b:List UInt8) (a:Nat) (la:Int) {p:List Tok×List Pb},qO n b a la=some p→∀t∈p.1,t.2.1=[46]→t.1=3
 | 0,b,a,la,p,h=>by simp [qO] at h
 | n+1,b,a,la,p,h=>by
  unfold qO at h
  cases hx:b.dropWhile pO with
  | nil=>
   rw [hx] at h
   simp only [Option.some.injEq] at h
   subst h
   intro t ht h1
   simp only [List.mem_singleton] at ht
   subst ht;cases h1
  | cons c r=>
   rw [hx] at h
   simp only [] at h
   split at h
   ·exact JW n _ _ _ h
   ·split at h
    ·obtain ⟨q,hq,rfl⟩:=Option.map_eq_some_iff.1 h
     intro t ht
     exact JW n _ _ _ hq t ht
    ·obtain ⟨q,hq,rfl⟩:=Option.map_eq_some_iff.1 h
     intro t ht h1
     rcases List.mem_cons.1 ht with rfl|ht
     ·exact acA h1
     ·exact JW n _ _ _ hq t ht h1
theorem JU (src:List UInt8):∀t∈(fM src).1,t.2.1=[46]→t.1=3:=JW _ _ _ _ (wB src (Nat.lt_succ_self _))
theorem UB {α:Type} {l r:List Tok} {x:PR α} {v:α} (hg:AY l x) (e:x=.ok v r):∃p,l=p++r:=by
 rw [e] at hg;exact hg.2
theorem Jb {α:Type} {l r:List Tok} {x:PR α} {a c:Int} (hg:AY l x) (e:x=.er a c r):∃p,l=p++r:=by
 rw [e] at hg;exact hg.2
structure AxT (src:List UInt8) (b:List Tok) (a d e:Nat):Prop where
 t:(fM src).1=b++[(4,[],a)]
 t':(fM (src++[10,46])).1=b++[(3,[46],d),(4,[],e)]
 p:(fM (src++[10,46])).2=(fM src).2
 k:∀t∈b,t.1≠4
 dot:∀t∈b,t.2.1=[46]→t.1=3
theorem aeR {n:Nat} {l q:List Tok} {x:Ax} (hk:(hT l).1≠4) (h:vV l=.ok x q):oh (n+1) l=if (tyA x).2=0 then ((tyA x).1::(oh n q).1,(oh n q).2) else ((oh n q).1,(((hT l).2.2:Int),(tyA x).2)::(oh n q).2):=by
 rw [oh,if_neg hk,h]
theorem aeS {n:Nat} {l q:List Tok} {a c:Int} (hk:(hT l).1≠4) (h:vV l=.er a c q):oh (n+1) l=((oh n (lT q)).1,(a,c)::(oh n (lT q)).2):=by
 rw [oh,if_neg hk,h]
end Go.Ai.Z
