/-
 reply.ParseRequest.
-/
import Derived.Test.YtdjjghikaijfpaaGreatDoorAiRQ1RQ2RQ3
set_option maxRecDepth 100000
set_option linter.unusedSimpArgs false
set_option linter.unusedVariables false
set_option linter.unusedSectionVars false
namespace Go.Ai.Z
open Go.Ai
def Ad:Nat→aC→aC
 | 0,c=>c
 | n+1,.seq _ b=>Ad n b
 | _,c=>c
def LZ:aC:=Ad 6 aJ.code
def SL:aC:=Ad 11 aJ.code
def Iw:Nat→aC→aC→aC
 | 0,_,t=>t
 | n+1,.seq a b,t=>.seq a (Iw n b t)
 | _,c,_=>c
theorem aht:aJ=⟨1,[.cell 2 (some 6),.tmp 3,.tmp 4],true,false,Iw 6 aJ.code LZ⟩:=by
 simp only [LZ,aJ,Iw,Ad]
theorem ahs:LZ=Iw 5 (Ad 6 aJ.code) SL:=by
 simp only [LZ,SL,aJ,Iw,Ad]
noncomputable def Xi (c:aC) (env:Env) (s:St):CO:=endW P0.glob true false s [.cell 2 (some 6),.tmp 3,.tmp 4] (ay P0.glob (aj P0) ⟨s.length,s.length⟩ false c env s)
def adp (W:List AV) (n:Nat) (F:List (List UInt8)) (k:Int):Env:=[(0,.v (.sl W)),(2,.bx zC),(5,.v (.i .i64 n)),(6,.v (.sl (F.map .s))),(7,.v (.i .i64 k))]
def abR (W:List AV) (a j:Int) (G:List (List UInt8)) (n:Nat) (F:List (List UInt8)) (k:Int):Env:=
 [(0,.v (.sl W)),(2,.bx zC),(3,.v (.i .i64 a)),(5,.v (.i .i64 n)),(6,.v (.sl (F.map .s))),(7,.v (.i .i64 k)),(50,.v (.sl (G.map .s))),(51,.v (.i .i64 G.length)),(52,.v (.i .i64 j)),(53,.v (.b false))]
theorem IC {l:List UInt8}:(∀z∈ai l,z.cells.length=1)=True:=eq_true (by
 intro z hz
 unfold ai at hz
 obtain ⟨b,_,rfl⟩:=List.mem_map.1 hz
 rfl)
theorem af8 (src:List UInt8) (hl:src.length≤65536) (hc:mJ 10 src=none) (s:St) (cx:Ctx):
  af P0.glob (aj P0) aJ [.sl (ai src)] s cx=.ret (.tu [.ag zC,.i .i64 src.length,.i .i64 400]) s:=by
 have hbl:=dM src
 have hs:¬(65536:Int)<src.length:=by omega
 have e1:=Qp src 10 s ⟨s.length,s.length⟩
 rw [show ((10:UInt8).toNat:Int)=10 from rfl,index_none hc] at e1
 have hf:=Uz s s.length src.length 400
 simp only [zC] at hf
 rw [aht]
 generalize LZ=R
 simp only [Iw,aJ]
 simp [af,hbl,hs,e1,zC,iI,splice,hf]
theorem ah2 (src x y:List UInt8) (hl:src.length≤65536) (hc:mJ 10 src=some (x,y)) (f0:List UInt8) (F:List (List UInt8)) (hF:splitB 32 x=f0::F) (s:St) (cx:Ctx):
  af P0.glob (aj P0) aJ [.sl (ai src)] s cx=Xi LZ (adp (ai src) x.length (f0::F) (kwI f0)) s:=by
 have hbl:=dM src
 have hs:¬(65536:Int)<src.length:=by omega
 have e1:=Qp src 10 s ⟨s.length,s.length⟩
 rw [show ((10:UInt8).toNat:Int)=10 from rfl,BA hc] at e1
 have hxy:=nM hc
 have hxl:x.length+y.length+1=src.length:=by rw [hxy];simp;omega
 have hneg:¬(x.length:Int)<0:=by omega
 have e2:=agQ x 32 (by omega) s ⟨s.length,s.length⟩
 have hW1:(ai src).take x.length=ai x:=by rw [hxy];simp [ai]
 have hW4:=IC (l:=src)
 have hx1:x.length≤src.length:=by omega
 have hb:=Js x
 have e3:=afC f0 s ⟨s.length,s.length⟩
 rw [hF] at e2
 clear hxy
 unfold Xi
 rw [aht]
 generalize LZ=R
 simp only [Iw,aJ,adp,zC]
 generalize ai src=W at *
 generalize kwI f0=k at *
 simp [af,hbl,hs,e1,e2,e3,hneg,hW1,hW4,hx1,hb]
theorem Ti (W:List AV) (n:Nat) (f0:List UInt8) (F:List (List UInt8)) (hFl:F.length≤100000) (k:Int) (hk:k=0∨(k=4∧F.length≠3)∨(k≠4∧F.length≠2)) (s:St):
  Xi LZ (adp W n (f0::F) k) s=.ret ZM s:=by
 have hf:=Uz s s.length 0 400
 simp only [zC] at hf
 unfold Xi
 rw [ahs]
 generalize SL=R
 simp only [Iw,Ad,aJ,adp,zC]
 rcases hk with rfl|⟨rfl,h⟩|⟨h1,h⟩
 ·simp [iI,splice,hf,ZM,zC]
 ·have h2:¬(F.length:Int)+1=4:=by omega
  simp [iI,splice,hf,ZM,zC,h2]
 ·have h2:¬(F.length:Int)+1=3:=by omega
  by_cases h0:k=0
  ·simp [iI,splice,hf,ZM,zC,h0]
  ·simp [iI,splice,hf,ZM,zC,h0,h1,h2]
theorem YF (W:List AV) (n:Nat) (f0:List UInt8) (G:List (List UInt8)) (hf0:f0.length≤65536) (hG:∀f∈G,f.length≤65536) (k:Int) (hk:(k=4∧G.length=3)∨(k≠0∧k≠4∧G.length=2)) (s:St):
  ∃a j:Int,Xi LZ (adp W n (f0::G) k) s=match Cj 0 ((f0.length:Int)+1) G with
   | some e=>.ret (.tu [.ag zC,.i .i64 e,.i .i64 20]) s
   | none=>Xi SL (abR W a j G n (f0::G) k) s:=by
 have hl:G.length≤10:=by omega
 obtain ⟨a,j,h⟩:=abE (.sl W) (.i .i64 n) (.sl ((f0::G).map .s)) (.i .i64 k) G hG hl s ⟨s.length,s.length⟩ G 0 ((f0.length:Int)+1) rfl (by omega) (by omega)
 refine ⟨a,j, ?_⟩
 have hw2:IntKind.i64.wrap ((f0.length:Int)+1)=f0.length+1:=w64 (by omega) (by omega)
 have hc:(∀z∈G.map AV.s,z.cells.length=1)=True:=eq_true (by
  intro z hz
  obtain ⟨b,_,rfl⟩:=List.mem_map.1 hz
  rfl)
 have ht:(G.map AV.s).take G.length=G.map .s:=List.take_of_length_le (by simp)
 unfold Xi
 rw [ahs]
 simp only [abR]
 generalize SL=R
 simp only [Iw,Ad,aJ,adp]
 rcases hk with ⟨rfl,hG3⟩|⟨h1,h2,hG2⟩
 ·have h3:(G.length:Int)+1=4:=by omega
  cases hn:Cj 0 ((f0.length:Int)+1) G with
  | none=>
   rw [hn] at h
   simp at h
   simp [h3,hw2,hc,ht,h]
  | some e=>
   have hf:=Uz s s.length e 20
   rw [hn] at h
   simp only [zC] at hf h ⊢
   simp at h
   simp [h3,hw2,hc,ht,h,hf]
 ·have h3:(G.length:Int)+1=3:=by omega
  cases hn:Cj 0 ((f0.length:Int)+1) G with
  | none=>
   rw [hn] at h
   simp at h
   simp [h1,h2,h3,hw2,hc,ht,h]
  | some e=>
   have hf:=Uz s s.length e 20
   rw [hn] at h
   simp only [zC] at hf h ⊢
   simp at h
   simp [h1,h2,h3,hw2,hc,ht,h,hf]
end Go.Ai.Z
namespace Go.Ai.Z
open Go.Ai
theorem aez (src x y:List UInt8) (hl:src.length≤65536) (hc:mJ 10 src=some (x,y)) (a j:Int) (f0 f1 f2:List UInt8) (R:List (List UInt8)) (o:List UInt8) (k:Int) (hk:(k≠4∧o=[])∨(k=4∧R=[o])) (s:St):
  Xi SL (abR (ai src) a j (f1::f2::R) x.length (f0::f1::f2::R) k) s=.ret (Zh k f1 f2 o x.length y) s:=by
 have hbl:=dM src
 have hxy:=nM hc
 have hxl:x.length+y.length+1=src.length:=by rw [hxy];simp;omega
 have hW2:(ai src).drop (x.length+1)=ai y:=by
  rw [hxy];unfold ai
  rw [List.map_append,List.map_cons,List.drop_append]
  simp
 have hW3:(ai y).take (src.length - (x.length+1))=ai y:=List.take_of_length_le (by rw [dM];omega)
 have hx2:x.length+1≤src.length:=by omega
 have hx3:(0:Int)≤(x.length:Int)+1:=by omega
 have hw1:IntKind.i64.wrap ((x.length:Int)+1)=x.length+1:=w64 (by omega) (by omega)
 have hW4:=IC (l:=src)
 have e4:=agR y (by omega) s ⟨s.length,s.length⟩
 unfold Xi
 simp only [abR,SL,Ad,aJ,zC]
 clear hxy hc
 generalize ai src=W at *
 unfold aia at e4
 unfold Zh
 cases hp:Tm y with
 | inl q=>
  rw [hp] at e4
  have hf:=afp s s.length k f1 f2 o q 0 0
  simp only [zG] at e4
  simp only [Vo] at hf ⊢
  rcases hk with ⟨h1,rfl⟩|⟨rfl,rfl⟩
  ·simp [hbl,hW2,hW3,hW4,hx2,hx3,hw1,e4,splice,iI,h1,hf,List.range_succ]
  ·simp [hbl,hW2,hW3,hW4,hx2,hx3,hw1,e4,splice,iI,hf,List.range_succ]
 | inr ae=>
  obtain ⟨b,e⟩:=ae
  have hne:=abm hp
  rw [hp] at e4
  have hf:=Uz s s.length (IntKind.i64.wrap ((x.length:Int)+1+b)) e
  simp only [zC] at hf ⊢
  simp [hbl,hW2,hW3,hW4,hx2,hx3,hw1,e4,splice,iI,hne,hf]
theorem BO (src:List UInt8) (hl:src.length≤65536) (s:St) (cx:Ctx):
  aj P0 (.fn (.func fB) [] []) [.sl (ai src)] s cx=.ret (aao src) s:=by
 refine Gy (by simp) ?_
 show af P0.glob (aj P0) aJ [.sl (ai src)] s cx=_
 unfold aao
 cases hc:mJ 10 src with
 | none=>rw [af8 src hl hc]
 | some p=>
  obtain ⟨x,y⟩:=p
  have hxy:=nM hc
  have hxl:x.length≤65536:=by rw [hxy] at hl;simp at hl;omega
  have hm:∀f∈splitB 32 x,f.length≤65536:=fun f hf=>by have:=Bf hf;omega
  have hn:(splitB 32 x).length≤65537:=by have:=LM (b:=32) x;omega
  dsimp only
  cases hF:splitB 32 x with
  | nil=>have:=wu (b:=32) x;rw [hF] at this;simp at this
  | cons f0 F=>
   rw [ah2 src x y hl hc f0 F hF]
   rw [hF] at hm hn
   have h0:=hm f0 (by simp)
   match F,hm,hn with
   | [],hm,hn=>exact Ti _ _ _ _ (by simp) _ (by by_cases h:kwI f0=4<;>simp [h]) s
   | [f1],hm,hn=>exact Ti _ _ _ _ (by simp) _ (by by_cases h:kwI f0=4<;>simp [h]) s
   | [f1,f2],hm,hn=>
    dsimp only
    by_cases h:kwI f0=0∨kwI f0=4
    ·rw [if_pos h]
     exact Ti _ _ _ _ (by simp) _ (by rcases h with h|h<;>simp [h]) s
    ·rw [if_neg h]
     obtain ⟨a,j,e⟩:=YF (ai src) x.length f0 [f1,f2] h0 (fun f hf=>hm f (List.mem_cons_of_mem _ hf)) (kwI f0) (.inr ⟨fun h'=>h (.inl h'),fun h'=>h (.inr h'),rfl⟩) s
     rw [e]
     cases Cj 0 ((f0.length:Int)+1) [f1,f2] with
     | some e=>rfl
     | none=>exact aez src x y hl hc a j f0 f1 f2 [] [] (kwI f0) (.inl ⟨fun h'=>h (.inr h'),rfl⟩) s
   | [f1,f2,f3],hm,hn=>
    dsimp only
    by_cases h:kwI f0=4
    ·rw [if_pos h,h]
     obtain ⟨a,j,e⟩:=YF (ai src) x.length f0 [f1,f2,f3] h0 (fun f hf=>hm f (List.mem_cons_of_mem _ hf)) 4 (.inl ⟨rfl,rfl⟩) s
     rw [e]
     cases Cj 0 ((f0.length:Int)+1) [f1,f2,f3] with
     | some e=>rfl
     | none=>exact aez src x y hl hc a j f0 f1 f2 [f3] f3 4 (.inr ⟨rfl,rfl⟩) s
    ·rw [if_neg h]
     exact Ti _ _ _ _ (by simp) _ (by simp [h]) s
   | f1::f2::f3::f4::F,hm,hn=>exact Ti _ _ _ _ (by simp at hn ⊢;omega) _ (by by_cases h:kwI f0=4<;>simp [h]) s
end Go.Ai.Z
