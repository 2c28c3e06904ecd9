/-
 Words, integers and signs are read as they are printed.
-/
import Derived.Test.YtdjjghikaijfpaaGreatDoorAiKTKUKVKW
import Derived.Test.YtdjjghikaijfpaaGreatDoorAiKGKHK5K6K7InjInj2Inj3Inj4KIT1KHQ
set_option maxRecDepth 100000
set_option linter.unusedSimpArgs false
set_option linter.unusedVariables false
set_option linter.unusedSectionVars false
namespace Go.Ai.Z
open Go.Lib (itoa decDigits)
open Go.Ai.Inj
theorem XF (b:UInt8):QO b=uH b:=by
 unfold QO uH jS aaR aik YS
 generalize b.toNat=n
 repeat' split
 all_goals simp
 all_goals omega
theorem Rw {b:UInt8} (h:YT b=true):jS b=3∧b≠95:=by
 constructor
 ·unfold YT YS at h
  unfold jS aaR
  generalize b.toNat=n at *
  simp at h
  repeat' split
  all_goals omega
 ·rintro rfl;simp [YT,YS] at h
def Tail (u:List UInt8):Prop:=∀b r,u=b::r→b=32∨b=41∨b=125∨b=46
theorem Tail.stops {u:List UInt8} (h:Tail u):Stops uH u:=by
 intro b r e
 rcases h b r e with rfl|rfl|rfl|rfl<;>decide
theorem DJ:∀{t u:List UInt8},(∀b∈t,uH b=true)→Stops uH u→gB (t++u)=t.length
 | [],[],_,_=>rfl
 | [],b::r,_,hu=>by rw [List.nil_append,Jb,hu b r rfl];rfl
 | a::t,u,ht,hu=>by rw [List.cons_append,Jb,ht a (by simp),if_pos rfl,DJ (fun b hb=>ht b (by simp [hb])) hu];rfl
theorem Stops.colon {u:List UInt8}:Stops uH (58::u):=by intro b r e;obtain ⟨rfl,-⟩:=List.cons.inj e;decide
structure ab5 (k:Int) (t:List UInt8):Prop where
 k0:k≠0
 ne:t≠[]
 b0:∀c r,t=c::r→jS c≠1∧jS c≠2
 sc:∀u,Tail u∨t=[40]∨t=[123]→iw (t++u)=(k,t.length)
theorem Yp {c:UInt8} (h:jS c=6):ab5 3 [c]:=by
 refine ⟨by decide,by simp,fun c' r' e=>?_,fun u _=>?_⟩
 ·obtain ⟨rfl,-⟩:=List.cons.inj e;rw [h];decide
 ·rw [List.cons_append,ql,if_neg (by rw [h];decide),if_neg (by rw [h];decide),if_neg (by rw [h];decide),if_pos h];rfl
theorem XT {b:UInt8} (h:ML b=true):jS b=4:=by
 unfold ML at h
 unfold jS aaR
 generalize b.toNat=n at *
 simp at h
 repeat' split
 all_goals omega
theorem UG:∀u:Nat,0<u→∃b r,decDigits u=b::r∧b≠48:=by
 intro u
 induction u using Nat.strongRecOn with
 | ind u ih=>
  intro hu
  by_cases h10:u<10
  ·refine ⟨_,[],AX h10,fun h=>?_⟩
   have:=congrArg UInt8.toNat h
   simp [UInt8.toNat_ofNat'] at this
   omega
  ·obtain ⟨b,r,e,hb⟩:=ih (u / 10) (by omega) (by omega)
   exact ⟨b,r++[UInt8.ofNat (48+u % 10)],by rw [XU h10,e];rfl,hb⟩
theorem adu {u:Nat} (h:u≤1099511627776):(decDigits u).length≤18:=by
 have key:∀(k:Nat) (u:Nat),u<10 ^ (k+1)→(decDigits u).length≤k+1:=by
  intro k
  induction k with
  | zero=>intro u hu;rw [AX (by simpa using hu)];simp
  | succ k ih=>
   intro u hu
   by_cases h10:u<10
   ·rw [AX h10];simp
   ·rw [XU h10]
    have:=ih (u / 10) (by rw [Nat.pow_succ] at hu;omega)
    simp;omega
 exact key 17 u (by omega)
theorem Zp {u:Nat} (h0:0<u) (h:u≤1099511627776):lQ (decDigits u)=true:=by
 obtain ⟨b,r,e,hb⟩:=UG u h0
 have hl:=adu h
 have hd:=yV u
 unfold lQ
 rw [e] at hl hd ⊢
 have hall:(b::r).all Np=true:=by
  rw [List.all_eq_true];intro x hx;have:=hd x hx;simpa [ML,Np] using this
 simp only [List.length_cons] at hl
 rw [hall]
 simp [hb];omega
end Go.Ai.Z
namespace Go.Ai.Z
open Go.Lib (itoa decDigits)
open Go.Ai.Inj
abbrev Tk:=Int×List UInt8
def sep (p:Option (List UInt8)) (t:List UInt8):List UInt8:=
 match p with
 | none=>[]
 | some p=>if t=[41]∨t=[125]∨p=[40]∨p=[123] then [] else [32]
def abJ:Option (List UInt8)→List Tk→List UInt8
 | _,[]=>[]
 | p,t::r=>sep p t.2++(t.2++abJ (some t.2) r)
def stepD (d:Int) (t:Tk):Int:=
 let d:=if t.1=3∧(t.2=[40]∨t.2=[123]) then d+1 else d
 if t.1=3∧(t.2=[41]∨t.2=[125]) then d - 1 else d
def Zn:List Tk→Int→Option Int
 | [],d=>some d
 | t::r,d=>if stepD d t<0 then none else Zn r (stepD d t)
def Flat (t:List UInt8):Prop:=t≠[41]∧t≠[125]∧t≠[40]∧t≠[123]
instance (t:List UInt8):Decidable (Flat t):=by unfold Flat;infer_instance
structure Piece (l:List Tk) (x:List UInt8):Prop where
 tok:∀t∈l,ab5 t.1 t.2
 bal:∀d r,0≤d→Zn (l++r) d=Zn r d
 ne:l≠[]
 join:∃f e,f≠[41]∧f≠[125]∧e≠[40]∧e≠[123]∧∀p r,abJ p (l++r)=sep p f++(x++abJ (some e) r)
theorem Piece.one {k:Int} {t:List UInt8} (h:ab5 k t) (hf:Flat t):Piece [(k,t)] t:=by
 refine ⟨fun y hy=>by simp at hy;rw [hy];exact h,fun d r hd=>?_,by simp,t,t,hf.1,hf.2.1,hf.2.2.1,hf.2.2.2,fun p r=>rfl⟩
 have:stepD d (k,t)=d:=by simp [stepD,hf.1,hf.2.1,hf.2.2.1,hf.2.2.2]
 simp only [List.cons_append,List.nil_append,Zn,this]
 rw [if_neg (by omega)]
theorem Piece.app {l m:List Tk} {x y:List UInt8} (h:Piece l x) (h':Piece m y):Piece (l++m) (x++32::y):=by
 obtain ⟨f,e,f1,f2,e1,e2,hj⟩:=h.join
 obtain ⟨f',e',f1',f2',e1',e2',hj'⟩:=h'.join
 refine ⟨fun t ht=>?_,fun d r hd=>by rw [List.append_assoc,h.bal d _ hd,h'.bal d _ hd],by simp [h.ne],f,e',f1,f2,e1',e2',fun p r=>?_⟩
 ·rcases List.mem_append.1 ht with ht|ht
  ·exact h.tok t ht
  ·exact h'.tok t ht
 ·rw [List.append_assoc,hj,hj']
  have:sep (some e) f'=[32]:=by simp [sep,f1',f2',e1,e2]
  rw [this];simp
theorem Piece.brace {n:List UInt8} (h:ab5 1 n) (hf:Flat n):Piece [(3,[123]),(1,n),(3,[125])] (123::(n++[125])):=by
 refine ⟨fun t ht=>?_,fun d r hd=>?_,by simp,[123],[125],by decide,by decide,by decide,by decide,fun p r=>?_⟩
 ·simp at ht
  rcases ht with rfl|rfl|rfl
  ·exact Yp (by decide)
  ·exact h
  ·exact Yp (by decide)
 ·have s1:stepD d (3,[123])=d+1:=by simp [stepD]
  have s2:stepD (d+1) (1,n)=d+1:=by simp [stepD]
  have s3:stepD (d+1) (3,[125])=d:=by simp [stepD]
  simp only [List.cons_append,List.nil_append,Zn,s1,s2,s3]
  rw [if_neg (by omega),if_neg (by omega),if_neg (by omega)]
 ·have q1:sep (some [123]) n=[]:=by simp [sep]
  have q2:sep (some n) [125]=[]:=by simp [sep]
  simp [abJ,q1,q2]
def ane:Tk:=(1,[97,110,100])
def ahm:List (List Tk)→List Tk
 | []=>[]
 | [a]=>a
 | a::b::r=>a++(ane::ahm (b::r))
mutual
def ctk:C→List Tk
 | .mk k n lo hi _ ps=>
  if k=1 then [(1,[101,118,101,114,121,116,104,105,110,103])]
  else if k=2 then [(1,[110,111,116,104,105,110,103])]
  else if k=3 then [(1,n)]
  else if k=4 then [(3,[123]),(1,n),(3,[125])]
  else if k=7 then [(1,n),(1,[105,110]),(2,itoa lo),(1,[116,111]),(2,itoa hi)]
  else if k=6 then (1,[115,111,109,101])::(1,n)::(aib ps).headD []
  else ahm (aib ps)
def aib:List C→List (List Tk)
 | []=>[]
 | .mk k n lo hi z ps::r=>(if k=5 then (3,[40])::(ctk (.mk k n lo hi z ps)++[(3,[41])]) else ctk (.mk k n lo hi z ps))::aib r
end
end Go.Ai.Z
namespace Go.Ai.Z
abbrev Pb:=Int×Int
def BH (p:Pb):AV:=.ag [.i .i64 p.1,.i .i64 p.2]
def bdV (n:Nat) (bad:List Pb):AV:=match bad with | []=>.ns | _=>.st n (bad.map BH)
def rowB (bad:List Pb):St:=match bad with | []=>[] | _=>[.row ja 2 bad.length]
def stF (s:St) (a n la:Int) (bad:List Pb):St:=s++(.cells [bdV (s.length+5) bad]::.cells Bd::.cells [.i .i64 a]::.cells [.i .i64 n]::.cells [.i .i64 la]::rowB bad)
@[simp] theorem akx (s:St) (a n la:Int) (bad:List Pb):(stF s a n la bad)[s.length]?=some (.cells [bdV (s.length+5) bad]):=by simp [stF]
@[simp] theorem ank (s:St) (a n la:Int) (bad:List Pb):(stF s a n la bad)[s.length+1]?=some (.cells Bd):=by simp [stF]
@[simp] theorem akw (s:St) (a n la:Int) (bad:List Pb):(stF s a n la bad)[s.length+2]?=some (.cells [.i .i64 a]):=by simp [stF]
@[simp] theorem akv (s:St) (a n la:Int) (bad:List Pb):(stF s a n la bad)[s.length+3]?=some (.cells [.i .i64 n]):=by simp [stF]
@[simp] theorem aku (s:St) (a n la:Int) (bad:List Pb):(stF s a n la bad)[s.length+4]?=some (.cells [.i .i64 la]):=by simp [stF]
@[simp] theorem amq (s:St) (a n la x:Int) (bad:List Pb):(stF s a n la bad).set (s.length+2) (.cells [.i .i64 x])=stF s x n la bad:=by simp [stF]
@[simp] theorem amo (s:St) (a n la x:Int) (bad:List Pb):(stF s a n la bad).set (s.length+3) (.cells [.i .i64 x])=stF s a x la bad:=by simp [stF]
@[simp] theorem amn (s:St) (a n la x:Int) (bad:List Pb):(stF s a n la bad).set (s.length+4) (.cells [.i .i64 x])=stF s a n x bad:=by simp [stF]
@[simp] theorem amr (s:St) (a n la:Int) (bad:List Pb):(stF s a n la bad).set (s.length) (.cells [bdV (s.length+5) bad])=stF s a n la bad:=by simp [stF]
@[simp] theorem akt (s:St) (a n la:Int) (bad:List Pb):(stF s a n la bad).take s.length=s:=by simp [stF]
def zx:Nat→List UInt8→Nat→Int→List Pb→Option (List Tok×List Pb)
 | 0,_,_,_,_=>none
 | n+1,b,a,la,bad=>
  match b.dropWhile vI with
  | []=>some ([(4,[],a+b.length)],bad)
  | c::r=>
   let a1:=a+(b.length - (c::r).length)
   if jS c=2 then
    let d:=(c::r).dropWhile fun x=>decide (x≠10)
    zx n d (a1+((c::r).length - d.length)) la bad
   else if (iw (c::r)).1=0 then
    zx n ((c::r).drop (iw (c::r)).2) (a1+(iw (c::r)).2) ((a1+(iw (c::r)).2:Nat):Int) (if (a1:Int)≠la∧bad.length<64 then bad++[((a1:Int),10)] else bad)
   else (zx n ((c::r).drop (iw (c::r)).2) (a1+(iw (c::r)).2) la bad).map fun p=>(((iw (c::r)).1,(c::r).take (iw (c::r)).2,a1)::p.1,p.2)
theorem abQ (s:St) (cx:Ctx) (hcx:cx.lim≤s.length) (hbs:cx.base≤s.length) (src:List UInt8) (hl:src.length≤65536) (ts:List Tok) (n la:Int) (bad:List Pb):∀(b:List UInt8) (i:Nat),src.drop i=b→
  bF (ay P0.glob (aj P0) cx false nK) [0,2,3,5,6,8,10] (xw s src ts) (stF s i n la bad)=
   .exit 0 (xw s src ts++[(28,.v (.b false))]) (stF s ((i+(b.length - (b.dropWhile vI).length):Nat):Int) n la bad)
 | [],i,h=>by
  have h1:¬i<src.length:=Nat.not_lt.2 (drop_nil h)
  have hb:=dM src
  refine ak fun K hK=>?_
  simp [nK,xw,hb,h1]
 | c::r,i,h=>by
  obtain ⟨h1,h2,h3,h4⟩:=drop_cons h
  have hb:∀h,(ai src)[i]'h=.i .u8 c.toNat:=fun h=>uU src i h h1
  have hbl:=dM src
  have hw:=wI (i:=i) (by omega)
  have ht:=GN c
  have hlt:c.toNat<256:=c.toNat_lt
  have hc1:cx.lim≤s.length+2:=by omega
  have hc2:cx.base≤s.length+2:=by omega
  have ih:=abQ s cx hcx hbs src hl ts n la bad r (i+1) h2
  refine ak fun K hK=>?_
  rw [←hK,show ((i+1:Nat):Int)=(i:Int)+1 from rfl] at ih
  clear hK
  have hdl:=(List.dropWhile_sublist (p:=vI) (l:=r)).length_le
  by_cases c1:jS c=1
  ·have hwr:vI c=true:=by simp [vI,c1]
   have e:i+1+(r.length - (r.dropWhile vI).length)=i+((c::r).length - ((c::r).dropWhile vI).length):=by
    simp only [List.dropWhile_cons,hwr,if_true,List.length_cons];omega
   rw [e] at ih
   simp [xw] at ih
   simp [nK,xw,h3,hb,hbl,ht,hlt,c1,hw,hc1,hc2,ih]
  ·have hwr:vI c=false:=by simp [vI,c1]
   have e:i+((c::r).length - ((c::r).dropWhile vI).length)=i:=by
    simp only [List.dropWhile_cons,hwr];simp
   rw [e]
   simp [nK,xw,h3,hb,hbl,ht,hlt,c1,hw,hwr]
theorem WG (s:St) (cx:Ctx) (hcx:cx.lim≤s.length) (hbs:cx.base≤s.length) (src:List UInt8) (hl:src.length≤65536) (ts:List Tok) (n la:Int) (bad:List Pb):∀(b:List UInt8) (i:Nat),src.drop i=b→
  bF (ay P0.glob (aj P0) cx false nJ) [0,2,3,5,6,8,10] (xw s src ts) (stF s i n la bad)=
   .exit 2 (xw s src ts++[(58,.v (.b false))]) (stF s ((i+(b.length - (b.dropWhile fun x=>decide (x≠10)).length):Nat):Int) n la bad)
 | [],i,h=>by
  have h1:¬i<src.length:=Nat.not_lt.2 (drop_nil h)
  have hb:=dM src
  refine ak fun K hK=>?_
  simp [nJ,xw,hb,h1]
 | c::r,i,h=>by
  obtain ⟨h1,h2,h3,h4⟩:=drop_cons h
  have hb:∀h,(ai src)[i]'h=.i .u8 c.toNat:=fun h=>uU src i h h1
  have hbl:=dM src
  have hw:=wI (i:=i) (by omega)
  have hc1:cx.lim≤s.length+2:=by omega
  have hc2:cx.base≤s.length+2:=by omega
  have ih:=WG s cx hcx hbs src hl ts n la bad r (i+1) h2
  refine ak fun K hK=>?_
  rw [←hK,show ((i+1:Nat):Int)=(i:Int)+1 from rfl] at ih
  clear hK
  have hdl:=(List.dropWhile_sublist (p:=fun x:UInt8=>decide (x≠10)) (l:=r)).length_le
  by_cases c1:c=10
  ·have hwr:decide (c≠10)=false:=by simp [c1]
   have e:i+((c::r).length - ((c::r).dropWhile fun x=>decide (x≠10)).length)=i:=by
    simp only [List.dropWhile_cons,hwr];simp
   have c2:(c.toNat:Int)=10:=by rw [c1];rfl
   rw [e]
   simp [nJ,xw,h3,hb,hbl,c2]
  ·have hwr:decide (c≠10)=true:=by simp [c1]
   have c2:¬(c.toNat:Int)=10:=ajA (b:=10) c1
   have e:i+1+(r.length - (r.dropWhile fun x=>decide (x≠10)).length)=i+((c::r).length - ((c::r).dropWhile fun x=>decide (x≠10)).length):=by
    simp only [List.dropWhile_cons,hwr,if_true,List.length_cons];omega
   rw [e] at ih
   simp [xw] at ih
   simp [nJ,xw,h3,hb,hbl,c2,hw,hc1,hc2,ih]
def WU (a la:Int) (bad:List Pb):List Pb:=if a≠la∧bad.length<64 then bad++[(a,10)] else bad
theorem adK (bad:List Pb):((bad.map BH).all fun e=>e.cells.length == 2)=true:=by simp [BH]
theorem agP (s:St) (cx:Ctx) (hcx:cx.lim≤s.length) (hbs:cx.base≤s.length) (a n la:Int) (hw:IntKind.i64.wrap (a+n)=a+n) (bad:List Pb) (hb:bad.length≤64):
  aj P0 (.fn (.func nG) [] [.pt (s.length+2) 0,.pt (s.length+4) 0,.pt s.length 0,.pt (s.length+3) 0]) [] (stF s a n la bad) cx=.ret (.tu []) (stF s a n (a+n) (WU a la bad)):=by
 refine MW (by simp) ?_
 have h4:cx.lim≤s.length+4:=by omega
 have b4:cx.base≤s.length+4:=by omega
 have h5:cx.lim≤s.length+5:=by omega
 unfold WU
 by_cases h1:a=la
 ·subst h1
  simp [af,jD,hw,h4,b4,splice]
 ·rcases bad with _|⟨p,q⟩
  ·have hlen:(stF s a n la []).length=s.length+5:=by simp [stF,rowB]
   have hset:List.set (stF s a n la []++[.row ja 2 1]) s.length (.cells [.st (s.length+5) [.ag [.i .i64 a,.i .i64 10]]])=stF s a n la [(a,10)]:=by
    simp [stF,rowB,bdV,BH]
   have g0:(stF s a n la []++[.row ja 2 1])[s.length]?=some (.cells [.ns]):=by simp [stF,bdV]
   have e0:∀h,(stF s a n la [])[s.length]'h=.cells [.ns]:=fun h=>Option.some.inj ((List.getElem?_eq_getElem h).symm.trans (akx s a n la []))
   have e2:∀h,(stF s a n la [])[s.length+2]'h=.cells [.i .i64 a]:=fun h=>Option.some.inj ((List.getElem?_eq_getElem h).symm.trans (akw s a n la []))
   have e3:∀h,(stF s a n la [])[s.length+3]'h=.cells [.i .i64 n]:=fun h=>Option.some.inj ((List.getElem?_eq_getElem h).symm.trans (akv s a n la []))
   have e4:∀h,(stF s a n la [])[s.length+4]'h=.cells [.i .i64 la]:=fun h=>Option.some.inj ((List.getElem?_eq_getElem h).symm.trans (aku s a n la []))
   obtain ⟨G,hG⟩:∃G,stF s a n la []++[dJ.row ja 2 1]=G:=⟨_,rfl⟩
   rw [hG] at hset g0
   simp [af,jD,hw,h1,h4,b4,hcx,hbs,splice,iI,List.range_succ,aW,hlen,hset,g0,e0,e2,e3,e4,hG]
  ·by_cases h2:q.length+1<64
   ·have h2':(q.length:Int)+1<64:=by omega
    have g5:(stF s a n la (p::q))[s.length+5]?=some (.row ja 2 (q.length+1)):=by simp [stF,rowB]
    have hal:=adK q
    have hset:List.set (List.set (stF s a n la (p::q)) (s.length+5) (.row ja 2 (q.length+1+1))) s.length (.cells [.st (s.length+5) (BH p::(q.map BH++[.ag [.i .i64 a,.i .i64 10]]))])=stF s a n la (p::(q++[(a,10)])):=by
     simp [stF,rowB,bdV,BH]
    have g0:(List.set (stF s a n la (p::q)) (s.length+5) (.row ja 2 (q.length+1+1)))[s.length]?=some (.cells [.st (s.length+5) ((p::q).map BH)]):=by simp [stF,bdV]
    have hm:q.length+1+1≤aW:=by unfold aW;omega
    have hpc:(BH p).cells.length=2:=rfl
    simp [af,jD,hw,h1,h2,h2',h4,b4,h5,hcx,hbs,bdV,splice,iI,List.range_succ,hm,g5,hal,hset,g0,hpc]
   ·have h2':¬(q.length:Int)+1<64:=by omega
    simp [af,jD,hw,h1,h2,h2',h4,b4,bdV,splice]
end Go.Ai.Z
namespace Go.Ai.Z
@[simp] theorem ajq (n:Nat) (bad:List Pb):(bdV n bad).cells=[bdV n bad]:=by cases bad<;>rfl
@[simp] theorem amg (n:Nat) (bad:List Pb):(bdV n bad).one=true:=by cases bad<;>rfl
@[simp] theorem ajp (n:Nat) (bad:List Pb):(bdV n bad).plain=slf true (bad.map BH):=by cases bad<;>rfl
theorem aeA (n:Nat) (bad:List Pb):dF n (bad.map BH)=true:=by
 induction bad with
 | nil=>simp
 | cons a r ih=>simp [BH,ih]
theorem ahS (s:St) (a n la:Int) (bad:List Pb):¬(stF s a n la bad).length=s.length:=by simp [stF]
theorem aaz {body:Env→St→Out} {keep:List Nat} {env env2:Env} {s:St} (h:fJ env keep=fJ env2 keep):bF body keep env s=bF body keep env2 s:=by
 rw [D8,D8 body keep env2,h]
theorem Yt {body:Env→St→Out} {l:Nat} {keep:List Nat} {env env2:Env} {s:St} (h:fJ env keep=fJ env2 keep):Bh body l keep env s=Bh body l keep env2 s:=by
 rw [DC,DC body l keep env2,h]
set_option maxHeartbeats 2000000 in
theorem XC (s:St) (cx:Ctx) (hcx:cx.lim≤s.length) (hbs:cx.base≤s.length) (src:List UInt8) (hl:src.length≤65536):∀(k:Nat) (b:List UInt8) (i:Nat) (n la:Int) (ts res:List Tok) (bad bad':List Pb),src.drop i=b→i≤src.length→ts.length≤i→bad.length≤64→
  zx k b i la bad=some (res,bad')→
  ∃n' la':Int,Bh (ay P0.glob (aj P0) cx false fG) 0 [0,2,3,5,6,8,10] (xw s src ts) (stF s i n la bad)=
   .ret [(2,.v (.sl ((ts++res).map fO))),(3,.v (.pt s.length 0)),(4,.v (.i .i64 0))] (stF s src.length n' la' bad')
 | 0,_,_,_,_,_,_,_,_,_,_,_,_,h=>by simp [zx] at h
 | k+1,b,i,n,la,ts,res,bad,bad',hd,hi,hts,hbd,h=>by
  have hbk:=abQ s cx hcx hbs src hl ts n la bad b i hd
  have hblen:b.length=src.length - i:=by rw [←hd];simp
  have hkeep:fJ (xw s src ts) [0,2,3,5,6,8,10]=xw s src ts:=by simp [xw]
  unfold zx at h
  have hdl:=(List.dropWhile_sublist (p:=vI) (l:=b)).length_le
  cases hx:b.dropWhile vI with
  | nil=>
   rw [hx] at h hbk
   simp only [Option.some.injEq,Prod.mk.injEq] at h
   obtain ⟨rfl,rfl⟩:=h
   have e:i+b.length=src.length:=by omega
   have hbl:=dM src
   have ht1:=VS ts
   have hm:ts.length+1≤1073741824:=by omega
   refine ⟨n,la,EJ fun K hK=>?_⟩
   clear hK
   rw [hkeep,RZ]
   simp only [List.length_nil,Nat.sub_zero,e] at hbk
   simp only [xw,List.cons_append,List.nil_append] at hbk
   simp [Ew,fG,aC.snd,xw,hbk,hbl,aW,hm,iI,e,hcx,hbs,fO]
  | cons c r=>
   rw [hx] at h hbk
   simp only [] at h
   rw [hx] at hdl
   generalize hj:i+(b.length - (c::r).length)=j at h hbk
   have hbd2:b.drop (b.length - (c::r).length)=c::r:=by
    have:=List.takeWhile_append_dropWhile (p:=vI) (l:=b)
    rw [hx] at this
    have hlen:=congrArg List.length this
    simp only [List.length_append] at hlen
    rw [←this,List.length_append,Nat.add_sub_cancel]
    simp
   have hdj:src.drop j=c::r:=by rw [←hj,Nl hd,hbd2]
   obtain ⟨h1,h2,h3,h4⟩:=drop_cons hdj
   have hb:∀h,(ai src)[j]'h=.i .u8 c.toNat:=fun h=>uU src j h h1
   have hbl:=dM src
   have ht:=GN c
   have hlt:c.toNat<256:=c.toNat_lt
   have hcl:(c::r).length=src.length - j:=by rw [←hdj];simp
   have hij:i≤j:=by omega
   have j2:¬(j:Int)=src.length:=by omega
   have d2:cx.lim≤s.length+2:=by omega
   have d3:cx.base≤s.length+2:=by omega
   have d4:cx.lim≤s.length+3:=by omega
   have d5:cx.base≤s.length+3:=by omega
   by_cases c2:jS c=2
   ·rw [if_pos c2] at h
    have hcm:=WG s cx hcx hbs src hl ts n la bad (c::r) j hdj
    have hds:=(List.dropWhile_sublist (p:=fun x:UInt8=>decide (x≠10)) (l:=c::r)).length_le
    generalize hdd:((c::r).dropWhile fun x=>decide (x≠10))=dd at h hcm hds
    have hdrop:src.drop (j+((c::r).length - dd.length))=dd:=by
     rw [Nl hdj]
     have:=List.takeWhile_append_dropWhile (p:=fun x:UInt8=>decide (x≠10)) (l:=c::r)
     rw [hdd] at this
     obtain ⟨tw,htw⟩:∃tw,tw++dd=c::r:=⟨_,this⟩
     rw [←htw]
     have e1:(tw++dd).length - dd.length=tw.length:=by simp
     rw [e1];exact List.drop_left
    obtain ⟨n',la',ih⟩:=XC s cx hcx hbs src hl k dd (j+((c::r).length - dd.length)) n la ts res bad bad' hdrop (by omega) (by omega) hbd h
    refine ⟨n',la',EJ fun K hK=>?_⟩
    have hKs:∀e1 e2 t,fJ e1 [0,2,3,5,6,8,10]=fJ e2 [0,2,3,5,6,8,10]→K e1 t=K e2 t:=fun e1 e2 t he=>by rw [hK];exact Yt he
    rw [←hK] at ih
    clear hK
    rw [hkeep,RZ]
    generalize ((j+((c::r).length - dd.length):Nat):Int)=J at ih hcm
    have hcm:=(aaz (env:=xw s src ts++[(47,.v (.b true))]) (by simp [xw])).trans hcm
    simp only [xw,List.cons_append,List.nil_append,List.map_append] at hbk ih hcm
    simp [Ew,fG,aC.snd,xw,hbk,hbl,j2,h3,hb,ht,hlt,c2,hcm]
    refine (hKs _ _ _ ?_).trans ih
    simp
   ·rw [if_neg c2] at h
    have hsl:=abg c r
    have hsp:=SA c r
    have hscan:=X5 (stF s j n la bad) cx (s.length+1) (by simp) (c::r) (by omega) (by simp)
    have hs1:((ai src).drop j).take (src.length - j)=ai (c::r):=by
     rw [BR,hdj,List.take_of_length_le (by rw [dM];omega)]
    have hal:=Ph src
    generalize hsc:iw (c::r)=sc at h hscan hsl hsp
    obtain ⟨kd,w⟩:=sc
    simp only [] at h hscan hsl hsp
    have w1:IntKind.i64.wrap ((j:Int)+w)=(j:Int)+w:=w64 (by omega) (by omega)
    have n1:((j:Int)+w).toNat=j+w:=by omega
    have z1:(0:Int)≤(j:Int)+w:=by omega
    have n2:j+w - j=w:=by omega
    have q1:j≤src.length:=by omega
    have q2:j+w≤src.length:=by omega
    by_cases k0:kd=0
    ·rw [if_pos k0] at h
     have hbl2:(WU j la bad).length≤64:=by
      unfold WU
      split
      ·simp;omega
      ·exact hbd
     obtain ⟨n',la',ih⟩:=XC s cx hcx hbs src hl k ((c::r).drop w) (j+w) w ((j+w:Nat):Int) ts res (WU j la bad) bad' (by rw [Nl hdj]) (by omega) (by omega) hbl2 h
     have hspo:=agP s cx hcx hbs j w la w1 bad hbd
     refine ⟨n',la',EJ fun K hK=>?_⟩
     rw [←hK] at ih
     clear hK
     rw [hkeep,RZ]
     rw [show ((j+w:Nat):Int)=(j:Int)+w from rfl] at ih
     generalize WU j la bad=bb at ih hspo
     simp only [xw,List.cons_append,List.nil_append,List.map_append] at hbk ih
     simp [Ew,fG,aC.snd,xw,hbk,hbl,hcx,hbs,j2,h3,hb,ht,hlt,c2,hal,hs1,hscan,q1,q2,d2,d3,d4,d5,k0,w1,hspo]
     exact ih
    ·rw [if_neg k0] at h
     cases hlex:zx k ((c::r).drop w) (j+w) la bad with
     | none=>rw [hlex] at h;cases h
     | some p=>
      obtain ⟨res1,bad1⟩:=p
      rw [hlex] at h
      simp only [Option.map_some,Option.some.injEq,Prod.mk.injEq] at h
      obtain ⟨rfl,rfl⟩:=h
      have ih:=XC s cx hcx hbs src hl k ((c::r).drop w) (j+w) w la (ts++[(kd,(c::r).take w,j)]) res1 bad bad1 (by rw [Nl hdj]) (by omega) (by simp;omega) hbd hlex
      obtain ⟨n',la',ih⟩:=ih
      have hs2:((ai src).drop j).take w=ai ((c::r).take w):=by rw [BR,hdj,LG]
      have hstr:=Js ((c::r).take w)
      have ht1:=VS ts
      have hm:ts.length+1≤1073741824:=by omega
      refine ⟨n',la',EJ fun K hK=>?_⟩
      rw [←hK] at ih
      clear hK
      rw [hkeep,RZ]
      rw [show ((j+w:Nat):Int)=(j:Int)+w from rfl] at ih
      simp only [xw,List.cons_append,List.nil_append,List.map_append,List.map_cons,List.map_nil] at hbk ih
      simp [Ew,fG,aC.snd,xw,hbk,hbl,aW,hm,iI,hcx,hbs,j2,h3,hb,ht,hlt,c2,hal,hs1,hscan,q1,q2,d2,d3,d4,d5,k0,w1,n1,z1,n2,hs2,hstr]
      rw [List.append_assoc] at ih
      exact ih
theorem Rj (src:List UInt8) (hl:src.length≤65536) (k:Nat) (res:List Tok) (bad:List Pb) (h:zx k src 0 (-1) []=some (res,bad)) (s:St) (cx:Ctx) (hcx:cx.lim≤s.length):
  aj P0 (.fn (.func qK) [] []) [.sl (ai src)] s cx=.ret (.tu [.sl (res.map fO),slf true (bad.map BH),.i .i64 0]) s:=by
 refine Q5 (by simp) ?_
 obtain ⟨n',la',hm⟩:=XC s ⟨cx.lim,s.length⟩ hcx (Nat.le_refl _) src hl k src 0 0 (-1) [] res [] bad rfl (Nat.zero_le _) (Nat.zero_le _) (by simp) h
 rw [DC] at hm
 have hkeep:fJ (xw s src []) [0,2,3,5,6,8,10]=xw s src []:=by simp [xw]
 have e:∀(env:Env) (s':St),ay P0.glob (aj P0) ⟨cx.lim,s.length⟩ false fG env s'=ay P0.glob (aj P0) ⟨cx.lim,s.length⟩ false Ew env s':=fun env s'=>by rw [RZ];simp
 rw [hkeep,e] at hm
 have hsrc:¬((65536:Int)<src.length):=by omega
 have hbl:=dM src
 have hcl:=Ri
 have hu:=acd s.length res
 have hu2:=aeA s.length bad
 unfold af
 rw [ace]
 have hc0:cx.lim≤s.length+1:=by omega
 have hc1:cx.lim≤s.length+2:=by omega
 have hc2:cx.lim≤s.length+3:=by omega
 have hc3:cx.lim≤s.length+4:=by omega
 have hne:=ahS s src.length n' la' bad
 simp [fM,aC.fst,aC.snd,aC.sca,hbl,hsrc,hcl,hc0,hc1,hc2,hc3]
 have hm2:=hm
 simp only [xw,List.map_nil,List.nil_append,show ((0:Nat):Int)=0 from rfl] at hm2
 rw [show stF s 0 0 (-1) []=s++[.cells [.ns],.cells Bd,.cells [.i .i64 0],.cells [.i .i64 0],.cells [.i .i64 (-1)]] from rfl] at hm2
 rw [hm2]
 simp [hne]
 simp [hu,hu2,frz,hne,AV.under]
theorem EZ:∀(n:Nat) (b:List UInt8) (a:Nat) (la:Int) (bad:List Pb),b.length<n→∃p,zx n b a la bad=some p
 | 0,b,a,la,bad,h=>by omega
 | n+1,b,a,la,bad,h=>by
  have hdl:=(List.dropWhile_sublist (p:=vI) (l:=b)).length_le
  unfold zx
  cases hx:b.dropWhile vI with
  | nil=>exact ⟨_,rfl⟩
  | cons c r=>
   rw [hx] at hdl
   simp only []
   have hsp:=SA c r
   have hpos:1≤(c::r).length:=by simp
   split
   ·rename_i c2
    have h10:c≠10:=fun h=>by rw [h] at c2;exact absurd c2 (by decide)
    have:((c::r).dropWhile fun x=>decide (x≠10)).length<(c::r).length:=by
     have e1:(c::r).dropWhile (fun x=>decide (x≠10))=r.dropWhile fun x=>decide (x≠10):=by rw [List.dropWhile_cons,if_pos (by simpa using h10)]
     have:=(List.dropWhile_sublist (p:=fun x:UInt8=>decide (x≠10)) (l:=r)).length_le
     rw [e1]
     simp only [List.length_cons]
     omega
    exact EZ n _ _ _ _ (by omega)
   ·split
    ·exact EZ n _ _ _ _ (by simp only [List.length_drop];omega)
    ·obtain ⟨p,hp⟩:=EZ n ((c::r).drop (iw (c::r)).2) (a+(b.length - (c::r).length)+(iw (c::r)).2) la bad (by simp only [List.length_drop];omega)
     rw [hp];exact ⟨_,rfl⟩
def lexB (src:List UInt8):List Tok×List Pb:=(zx (src.length+1) src 0 (-1) []).getD ([],[])
theorem XB (src:List UInt8):zx (src.length+1) src 0 (-1) []=some (lexB src):=by
 obtain ⟨p,hp⟩:=EZ (src.length+1) src 0 (-1) [] (by omega)
 unfold lexB;rw [hp];rfl
theorem adR (src:List UInt8) (hl:src.length≤65536) (s:St) (cx:Ctx) (hcx:cx.lim≤s.length):
  aj P0 (.fn (.func qK) [] []) [.sl (ai src)] s cx=.ret (.tu [.sl ((lexB src).1.map fO),slf true ((lexB src).2.map BH),.i .i64 0]) s:=
 Rj src hl _ _ _ (XB src) s cx hcx
end Go.Ai.Z
