/-
 The lexer at all texts: comments, bytes that belong to no token.
-/
import Derived.Test.YtpnlnnfcaeednaaGreatDoorAiKW
set_option maxRecDepth 100000
set_option linter.unusedSimpArgs false
set_option linter.unusedVariables false
set_option linter.unusedSectionVars false
namespace Go.Ai.Z
abbrev Pb:=Int×Int
def gI (p:Pb):AV:=.ag [.i .i64 p.1,.i .i64 p.2]
def bdV (n:Nat) (bad:List Pb):AV:=match bad with | []=>.ns | _=>.st n (bad.map gI)
def rowB (bad:List Pb):St:=match bad with | []=>[] | _=>[.row aK 2 bad.length]
def stF (s:St) (a n la:Int) (bad:List Pb):St:=s++(.cells [bdV (s.length+5) bad]::.cells Ae::.cells [.i .i64 a]::.cells [.i .i64 n]::.cells [.i .i64 la]::rowB bad)
@[simp] theorem ah8 (s:St) (a n la:Int) (bad:List Pb):(stF s a n la bad)[s.length]?=some (.cells [bdV (s.length+5) bad]):=by simp [stF]
@[simp] theorem akw (s:St) (a n la:Int) (bad:List Pb):(stF s a n la bad)[s.length+1]?=some (.cells Ae):=by simp [stF]
@[simp] theorem ah7 (s:St) (a n la:Int) (bad:List Pb):(stF s a n la bad)[s.length+2]?=some (.cells [.i .i64 a]):=by simp [stF]
@[simp] theorem ah6 (s:St) (a n la:Int) (bad:List Pb):(stF s a n la bad)[s.length+3]?=some (.cells [.i .i64 n]):=by simp [stF]
@[simp] theorem ah5 (s:St) (a n la:Int) (bad:List Pb):(stF s a n la bad)[s.length+4]?=some (.cells [.i .i64 la]):=by simp [stF]
@[simp] theorem ajL (s:St) (a n la x:Int) (bad:List Pb):(stF s a n la bad).set (s.length+2) (.cells [.i .i64 x])=stF s x n la bad:=by simp [stF]
@[simp] theorem ajK (s:St) (a n la x:Int) (bad:List Pb):(stF s a n la bad).set (s.length+3) (.cells [.i .i64 x])=stF s a x la bad:=by simp [stF]
@[simp] theorem ajJ (s:St) (a n la x:Int) (bad:List Pb):(stF s a n la bad).set (s.length+4) (.cells [.i .i64 x])=stF s a n x bad:=by simp [stF]
@[simp] theorem ajM (s:St) (a n la:Int) (bad:List Pb):(stF s a n la bad).set (s.length) (.cells [bdV (s.length+5) bad])=stF s a n la bad:=by simp [stF]
@[simp] theorem ah4 (s:St) (a n la:Int) (bad:List Pb):(stF s a n la bad).take s.length=s:=by simp [stF]
def ER:Nat→List UInt8→Nat→Int→List Pb→Option (List Tok×List Pb)
 | 0,_,_,_,_=>none
 | n+1,b,a,la,bad=>
  match b.dropWhile pK with
  | []=>some ([(4,[],a+b.length)],bad)
  | c::r=>
   let a1:=a+(b.length - (c::r).length)
   if o8 c=2 then
    let d:=(c::r).dropWhile fun x=>decide (x≠10)
    ER n d (a1+((c::r).length - d.length)) la bad
   else if (dZ (c::r)).1=0 then
    ER n ((c::r).drop (dZ (c::r)).2) (a1+(dZ (c::r)).2) ((a1+(dZ (c::r)).2:Nat):Int) (if (a1:Int)≠la∧bad.length<64 then bad++[((a1:Int),10)] else bad)
   else (ER n ((c::r).drop (dZ (c::r)).2) (a1+(dZ (c::r)).2) la bad).map fun p=>(((dZ (c::r)).1,(c::r).take (dZ (c::r)).2,a1)::p.1,p.2)
theorem ZW (s:St) (cx:Ctx) (hcx:cx.lim≤s.length) (hbs:cx.base≤s.length) (src:List UInt8) (hl:src.length≤65536) (ts:List Tok) (n la:Int) (bad:List Pb):∀(b:List UInt8) (i:Nat),src.drop i=b→
  fC (aB P0.glob (ah P0) cx false o6) [0,2,3,5,6,8,10] (xw s src ts) (stF s i n la bad)=
   .exit 0 (xw s src ts++[(28,.v (.b false))]) (stF s ((i+(b.length - (b.dropWhile pK).length):Nat):Int) n la bad)
 | [],i,h=>by
  have h1:¬i<src.length:=Nat.not_lt.2 (drop_nil h)
  have hb:=oI src
  refine ak fun K hK=>?_
  simp [o6,xw,hb,h1]
 | c::r,i,h=>by
  obtain ⟨h1,h2,h3,h4⟩:=drop_cons h
  have hb:∀h,(aF src)[i]'h=.i .u8 c.toNat:=fun h=>vC src i h h1
  have hbl:=oI src
  have hw:=wI (i:=i) (by omega)
  have ht:=Fp c
  have hlt:c.toNat<256:=c.toNat_lt
  have hc1:cx.lim≤s.length+2:=by omega
  have hc2:cx.base≤s.length+2:=by omega
  have ih:=ZW s cx hcx hbs src hl ts n la bad r (i+1) h2
  refine ak fun K hK=>?_
  rw [←hK,show ((i+1:Nat):Int)=(i:Int)+1 from rfl] at ih
  clear hK
  have hdl:=(List.dropWhile_sublist (p:=pK) (l:=r)).length_le
  by_cases c1:o8 c=1
  ·have hwr:pK c=true:=by simp [pK,c1]
   have e:i+1+(r.length - (r.dropWhile pK).length)=i+((c::r).length - ((c::r).dropWhile pK).length):=by
    simp only [List.dropWhile_cons,hwr,if_true,List.length_cons];omega
   rw [e] at ih
   simp [xw] at ih
   simp [o6,xw,h3,hb,hbl,ht,hlt,c1,hw,hc1,hc2,ih]
  ·have hwr:pK c=false:=by simp [pK,c1]
   have e:i+((c::r).length - ((c::r).dropWhile pK).length)=i:=by
    simp only [List.dropWhile_cons,hwr];simp
   rw [e]
   simp [o6,xw,h3,hb,hbl,ht,hlt,c1,hw,hwr]
theorem Ul (s:St) (cx:Ctx) (hcx:cx.lim≤s.length) (hbs:cx.base≤s.length) (src:List UInt8) (hl:src.length≤65536) (ts:List Tok) (n la:Int) (bad:List Pb):∀(b:List UInt8) (i:Nat),src.drop i=b→
  fC (aB P0.glob (ah P0) cx false o5) [0,2,3,5,6,8,10] (xw s src ts) (stF s i n la bad)=
   .exit 2 (xw s src ts++[(58,.v (.b false))]) (stF s ((i+(b.length - (b.dropWhile fun x=>decide (x≠10)).length):Nat):Int) n la bad)
 | [],i,h=>by
  have h1:¬i<src.length:=Nat.not_lt.2 (drop_nil h)
  have hb:=oI src
  refine ak fun K hK=>?_
  simp [o5,xw,hb,h1]
 | c::r,i,h=>by
  obtain ⟨h1,h2,h3,h4⟩:=drop_cons h
  have hb:∀h,(aF src)[i]'h=.i .u8 c.toNat:=fun h=>vC src i h h1
  have hbl:=oI src
  have hw:=wI (i:=i) (by omega)
  have hc1:cx.lim≤s.length+2:=by omega
  have hc2:cx.base≤s.length+2:=by omega
  have ih:=Ul s cx hcx hbs src hl ts n la bad r (i+1) h2
  refine ak fun K hK=>?_
  rw [←hK,show ((i+1:Nat):Int)=(i:Int)+1 from rfl] at ih
  clear hK
  have hdl:=(List.dropWhile_sublist (p:=fun x:UInt8=>decide (x≠10)) (l:=r)).length_le
  by_cases c1:c=10
  ·have hwr:decide (c≠10)=false:=by simp [c1]
   have e:i+((c::r).length - ((c::r).dropWhile fun x=>decide (x≠10)).length)=i:=by
    simp only [List.dropWhile_cons,hwr];simp
   have c2:(c.toNat:Int)=10:=by rw [c1];rfl
   rw [e]
   simp [o5,xw,h3,hb,hbl,c2]
  ·have hwr:decide (c≠10)=true:=by simp [c1]
   have c2:¬(c.toNat:Int)=10:=ahl (b:=10) c1
   have e:i+1+(r.length - (r.dropWhile fun x=>decide (x≠10)).length)=i+((c::r).length - ((c::r).dropWhile fun x=>decide (x≠10)).length):=by
    simp only [List.dropWhile_cons,hwr,if_true,List.length_cons];omega
   rw [e] at ih
   simp [xw] at ih
   simp [o5,xw,h3,hb,hbl,c2,hw,hc1,hc2,ih]
def aby (a la:Int) (bad:List Pb):List Pb:=if a≠la∧bad.length<64 then bad++[(a,10)] else bad
theorem abA (bad:List Pb):((bad.map gI).all fun e=>e.cells.length == 2)=true:=by simp [gI]
theorem aeH (s:St) (cx:Ctx) (hcx:cx.lim≤s.length) (hbs:cx.base≤s.length) (a n la:Int) (hw:IntKind.i64.wrap (a+n)=a+n) (bad:List Pb) (hb:bad.length≤64):
  ah P0 (.fn (.func oK) [] [.pt (s.length+2) 0,.pt (s.length+4) 0,.pt s.length 0,.pt (s.length+3) 0]) [] (stF s a n la bad) cx=.ret (.tu []) (stF s a n (a+n) (aby a la bad)):=by
 refine Kw (by simp) ?_
 have h4:cx.lim≤s.length+4:=by omega
 have b4:cx.base≤s.length+4:=by omega
 have h5:cx.lim≤s.length+5:=by omega
 unfold aby
 by_cases h1:a=la
 ·subst h1
  simp [af,lD,hw,h4,b4,splice]
 ·rcases bad with _|⟨p,q⟩
  ·have hlen:(stF s a n la []).length=s.length+5:=by simp [stF,rowB]
   have hset:List.set (stF s a n la []++[.row aK 2 1]) s.length (.cells [.st (s.length+5) [.ag [.i .i64 a,.i .i64 10]]])=stF s a n la [(a,10)]:=by
    simp [stF,rowB,bdV,gI]
   have g0:(stF s a n la []++[.row aK 2 1])[s.length]?=some (.cells [.ns]):=by simp [stF,bdV]
   have e0:∀h,(stF s a n la [])[s.length]'h=.cells [.ns]:=fun h=>Option.some.inj ((List.getElem?_eq_getElem h).symm.trans (ah8 s a n la []))
   have e2:∀h,(stF s a n la [])[s.length+2]'h=.cells [.i .i64 a]:=fun h=>Option.some.inj ((List.getElem?_eq_getElem h).symm.trans (ah7 s a n la []))
   have e3:∀h,(stF s a n la [])[s.length+3]'h=.cells [.i .i64 n]:=fun h=>Option.some.inj ((List.getElem?_eq_getElem h).symm.trans (ah6 s a n la []))
   have e4:∀h,(stF s a n la [])[s.length+4]'h=.cells [.i .i64 la]:=fun h=>Option.some.inj ((List.getElem?_eq_getElem h).symm.trans (ah5 s a n la []))
   obtain ⟨G,hG⟩:∃G,stF s a n la []++[dW.row aK 2 1]=G:=⟨_,rfl⟩
   rw [hG] at hset g0
   simp [af,lD,hw,h1,h4,b4,hcx,hbs,splice,dV,List.range_succ,fQ,hlen,hset,g0,e0,e2,e3,e4,hG]
  ·by_cases h2:q.length+1<64
   ·have h2':(q.length:Int)+1<64:=by omega
    have g5:(stF s a n la (p::q))[s.length+5]?=some (.row aK 2 (q.length+1)):=by simp [stF,rowB]
    have hal:=abA q
    have hset:List.set (List.set (stF s a n la (p::q)) (s.length+5) (.row aK 2 (q.length+1+1))) s.length (.cells [.st (s.length+5) (gI p::(q.map gI++[.ag [.i .i64 a,.i .i64 10]]))])=stF s a n la (p::(q++[(a,10)])):=by
     simp [stF,rowB,bdV,gI]
    have g0:(List.set (stF s a n la (p::q)) (s.length+5) (.row aK 2 (q.length+1+1)))[s.length]?=some (.cells [.st (s.length+5) ((p::q).map gI)]):=by simp [stF,bdV]
    have hm:q.length+1+1≤fQ:=by unfold fQ;omega
    have hpc:(gI p).cells.length=2:=rfl
    simp [af,lD,hw,h1,h2,h2',h4,b4,h5,hcx,hbs,bdV,splice,dV,List.range_succ,hm,g5,hal,hset,g0,hpc]
   ·have h2':¬(q.length:Int)+1<64:=by omega
    simp [af,lD,hw,h1,h2,h2',h4,b4,bdV,splice]
end Go.Ai.Z
namespace Go.Ai.Z
@[simp] theorem ag9 (n:Nat) (bad:List Pb):(bdV n bad).cells=[bdV n bad]:=by cases bad<;>rfl
@[simp] theorem ajE (n:Nat) (bad:List Pb):(bdV n bad).one=true:=by cases bad<;>rfl
@[simp] theorem ag8 (n:Nat) (bad:List Pb):(bdV n bad).plain=slf true (bad.map gI):=by cases bad<;>rfl
theorem acs (n:Nat) (bad:List Pb):dK n (bad.map gI)=true:=by
 induction bad with
 | nil=>simp
 | cons a r ih=>simp [gI,ih]
theorem afF (s:St) (a n la:Int) (bad:List Pb):¬(stF s a n la bad).length=s.length:=by simp [stF]
theorem QE {body:Env→St→Out} {keep:List Nat} {env env2:Env} {s:St} (h:kC env keep=kC env2 keep):fC body keep env s=fC body keep env2 s:=by
 rw [J3,J3 body keep env2,h]
theorem WG {body:Env→St→Out} {l:Nat} {keep:List Nat} {env env2:Env} {s:St} (h:kC env keep=kC env2 keep):Af body l keep env s=Af body l keep env2 s:=by
 rw [BX,BX body l keep env2,h]
set_option maxHeartbeats 2000000 in
theorem Vf (s:St) (cx:Ctx) (hcx:cx.lim≤s.length) (hbs:cx.base≤s.length) (src:List UInt8) (hl:src.length≤65536):∀(k:Nat) (b:List UInt8) (i:Nat) (n la:Int) (ts res:List Tok) (bad bad':List Pb),src.drop i=b→i≤src.length→ts.length≤i→bad.length≤64→
  ER k b i la bad=some (res,bad')→
  ∃n' la':Int,Af (aB P0.glob (ah P0) cx false gW) 0 [0,2,3,5,6,8,10] (xw s src ts) (stF s i n la bad)=
   .ret [(2,.v (.sl ((ts++res).map fK))),(3,.v (.pt s.length 0)),(4,.v (.i .i64 0))] (stF s src.length n' la' bad')
 | 0,_,_,_,_,_,_,_,_,_,_,_,_,h=>by simp [ER] at h
 | k+1,b,i,n,la,ts,res,bad,bad',hd,hi,hts,hbd,h=>by
  have hbk:=ZW s cx hcx hbs src hl ts n la bad b i hd
  have hblen:b.length=src.length - i:=by rw [←hd];simp
  have hkeep:kC (xw s src ts) [0,2,3,5,6,8,10]=xw s src ts:=by simp [xw]
  unfold ER at h
  have hdl:=(List.dropWhile_sublist (p:=pK) (l:=b)).length_le
  cases hx:b.dropWhile pK with
  | nil=>
   rw [hx] at h hbk
   simp only [Option.some.injEq,Prod.mk.injEq] at h
   obtain ⟨rfl,rfl⟩:=h
   have e:i+b.length=src.length:=by omega
   have hbl:=oI src
   have ht1:=Tf ts
   have hm:ts.length+1≤1073741824:=by omega
   refine ⟨n,la,DJ fun K hK=>?_⟩
   clear hK
   rw [hkeep,PI]
   simp only [List.length_nil,Nat.sub_zero,e] at hbk
   simp only [xw,List.cons_append,List.nil_append] at hbk
   simp [Dw,gW,aS.snd,xw,hbk,hbl,fQ,hm,dV,e,hcx,hbs,fK]
  | cons c r=>
   rw [hx] at h hbk
   simp only [] at h
   rw [hx] at hdl
   generalize hj:i+(b.length - (c::r).length)=j at h hbk
   have hbd2:b.drop (b.length - (c::r).length)=c::r:=by
    have:=List.takeWhile_append_dropWhile (p:=pK) (l:=b)
    rw [hx] at this
    have hlen:=congrArg List.length this
    simp only [List.length_append] at hlen
    rw [←this,List.length_append,Nat.add_sub_cancel]
    simp
   have hdj:src.drop j=c::r:=by rw [←hj,KL hd,hbd2]
   obtain ⟨h1,h2,h3,h4⟩:=drop_cons hdj
   have hb:∀h,(aF src)[j]'h=.i .u8 c.toNat:=fun h=>vC src j h h1
   have hbl:=oI src
   have ht:=Fp c
   have hlt:c.toNat<256:=c.toNat_lt
   have hcl:(c::r).length=src.length - j:=by rw [←hdj];simp
   have hij:i≤j:=by omega
   have j2:¬(j:Int)=src.length:=by omega
   have d2:cx.lim≤s.length+2:=by omega
   have d3:cx.base≤s.length+2:=by omega
   have d4:cx.lim≤s.length+3:=by omega
   have d5:cx.base≤s.length+3:=by omega
   by_cases c2:o8 c=2
   ·rw [if_pos c2] at h
    have hcm:=Ul s cx hcx hbs src hl ts n la bad (c::r) j hdj
    have hds:=(List.dropWhile_sublist (p:=fun x:UInt8=>decide (x≠10)) (l:=c::r)).length_le
    generalize hdd:((c::r).dropWhile fun x=>decide (x≠10))=dd at h hcm hds
    have hdrop:src.drop (j+((c::r).length - dd.length))=dd:=by
     rw [KL hdj]
     have:=List.takeWhile_append_dropWhile (p:=fun x:UInt8=>decide (x≠10)) (l:=c::r)
     rw [hdd] at this
     obtain ⟨tw,htw⟩:∃tw,tw++dd=c::r:=⟨_,this⟩
     rw [←htw]
     have e1:(tw++dd).length - dd.length=tw.length:=by simp
     rw [e1];exact List.drop_left
    obtain ⟨n',la',ih⟩:=Vf s cx hcx hbs src hl k dd (j+((c::r).length - dd.length)) n la ts res bad bad' hdrop (by omega) (by omega) hbd h
    refine ⟨n',la',DJ fun K hK=>?_⟩
    have hKs:∀e1 e2 t,kC e1 [0,2,3,5,6,8,10]=kC e2 [0,2,3,5,6,8,10]→K e1 t=K e2 t:=fun e1 e2 t he=>by rw [hK];exact WG he
    rw [←hK] at ih
    clear hK
    rw [hkeep,PI]
    generalize ((j+((c::r).length - dd.length):Nat):Int)=J at ih hcm
    have hcm:=(QE (env:=xw s src ts++[(47,.v (.b true))]) (by simp [xw])).trans hcm
    simp only [xw,List.cons_append,List.nil_append,List.map_append] at hbk ih hcm
    simp [Dw,gW,aS.snd,xw,hbk,hbl,j2,h3,hb,ht,hlt,c2,hcm]
    refine (hKs _ _ _ ?_).trans ih
    simp
   ·rw [if_neg c2] at h
    have hsl:=UQ c r
    have hsp:=BZ c r
    have hscan:=VH (stF s j n la bad) cx (s.length+1) (by simp) (c::r) (by omega) (by simp)
    have hs1:((aF src).drop j).take (src.length - j)=aF (c::r):=by
     rw [AU,hdj,List.take_of_length_le (by rw [oI];omega)]
    have hal:=MO src
    generalize hsc:dZ (c::r)=sc at h hscan hsl hsp
    obtain ⟨kd,w⟩:=sc
    simp only [] at h hscan hsl hsp
    have w1:IntKind.i64.wrap ((j:Int)+w)=(j:Int)+w:=w64 (by omega) (by omega)
    have n1:((j:Int)+w).toNat=j+w:=by omega
    have z1:(0:Int)≤(j:Int)+w:=by omega
    have n2:j+w - j=w:=by omega
    have q1:j≤src.length:=by omega
    have q2:j+w≤src.length:=by omega
    by_cases k0:kd=0
    ·rw [if_pos k0] at h
     have hbl2:(aby j la bad).length≤64:=by
      unfold aby
      split
      ·simp;omega
      ·exact hbd
     obtain ⟨n',la',ih⟩:=Vf s cx hcx hbs src hl k ((c::r).drop w) (j+w) w ((j+w:Nat):Int) ts res (aby j la bad) bad' (by rw [KL hdj]) (by omega) (by omega) hbl2 h
     have hspo:=aeH s cx hcx hbs j w la w1 bad hbd
     refine ⟨n',la',DJ fun K hK=>?_⟩
     rw [←hK] at ih
     clear hK
     rw [hkeep,PI]
     rw [show ((j+w:Nat):Int)=(j:Int)+w from rfl] at ih
     generalize aby j la bad=bb at ih hspo
     simp only [xw,List.cons_append,List.nil_append,List.map_append] at hbk ih
     simp [Dw,gW,aS.snd,xw,hbk,hbl,hcx,hbs,j2,h3,hb,ht,hlt,c2,hal,hs1,hscan,q1,q2,d2,d3,d4,d5,k0,w1,hspo]
     exact ih
    ·rw [if_neg k0] at h
     cases hlex:ER k ((c::r).drop w) (j+w) la bad with
     | none=>rw [hlex] at h;cases h
     | some p=>
      obtain ⟨res1,bad1⟩:=p
      rw [hlex] at h
      simp only [Option.map_some,Option.some.injEq,Prod.mk.injEq] at h
      obtain ⟨rfl,rfl⟩:=h
      have ih:=Vf s cx hcx hbs src hl k ((c::r).drop w) (j+w) w la (ts++[(kd,(c::r).take w,j)]) res1 bad bad1 (by rw [KL hdj]) (by omega) (by simp;omega) hbd hlex
      obtain ⟨n',la',ih⟩:=ih
      have hs2:((aF src).drop j).take w=aF ((c::r).take w):=by rw [AU,hdj,Jv]
      have hstr:=UB ((c::r).take w)
      have ht1:=Tf ts
      have hm:ts.length+1≤1073741824:=by omega
      refine ⟨n',la',DJ fun K hK=>?_⟩
      rw [←hK] at ih
      clear hK
      rw [hkeep,PI]
      rw [show ((j+w:Nat):Int)=(j:Int)+w from rfl] at ih
      simp only [xw,List.cons_append,List.nil_append,List.map_append,List.map_cons,List.map_nil] at hbk ih
      simp [Dw,gW,aS.snd,xw,hbk,hbl,fQ,hm,dV,hcx,hbs,j2,h3,hb,ht,hlt,c2,hal,hs1,hscan,q1,q2,d2,d3,d4,d5,k0,w1,n1,z1,n2,hs2,hstr]
      rw [List.append_assoc] at ih
      exact ih
theorem OW (src:List UInt8) (hl:src.length≤65536) (k:Nat) (res:List Tok) (bad:List Pb) (h:ER k src 0 (-1) []=some (res,bad)) (s:St) (cx:Ctx) (hcx:cx.lim≤s.length):
  ah P0 (.fn (.func pF) [] []) [.sl (aF src)] s cx=.ret (.tu [.sl (res.map fK),slf true (bad.map gI),.i .i64 0]) s:=by
 refine OQ (by simp) ?_
 obtain ⟨n',la',hm⟩:=Vf s ⟨cx.lim,s.length⟩ hcx (Nat.le_refl _) src hl k src 0 0 (-1) [] res [] bad rfl (Nat.zero_le _) (Nat.zero_le _) (by simp) h
 rw [BX] at hm
 have hkeep:kC (xw s src []) [0,2,3,5,6,8,10]=xw s src []:=by simp [xw]
 have e:∀(env:Env) (s':St),aB P0.glob (ah P0) ⟨cx.lim,s.length⟩ false gW env s'=aB P0.glob (ah P0) ⟨cx.lim,s.length⟩ false Dw env s':=fun env s'=>by rw [PI];simp
 rw [hkeep,e] at hm
 have hsrc:¬((65536:Int)<src.length):=by omega
 have hbl:=oI src
 have hcl:=OV
 have hu:=aan s.length res
 have hu2:=acs s.length bad
 unfold af
 rw [aao]
 have hc0:cx.lim≤s.length+1:=by omega
 have hc1:cx.lim≤s.length+2:=by omega
 have hc2:cx.lim≤s.length+3:=by omega
 have hc3:cx.lim≤s.length+4:=by omega
 have hne:=afF s src.length n' la' bad
 simp [iU,aS.fst,aS.snd,aS.sca,hbl,hsrc,hcl,hc0,hc1,hc2,hc3]
 have hm2:=hm
 simp only [xw,List.map_nil,List.nil_append,show ((0:Nat):Int)=0 from rfl] at hm2
 rw [show stF s 0 0 (-1) []=s++[.cells [.ns],.cells Ae,.cells [.i .i64 0],.cells [.i .i64 0],.cells [.i .i64 (-1)]] from rfl] at hm2
 rw [hm2]
 simp [hne]
 simp [hu,hu2,frz,hne,AV.under]
theorem Ap:∀(n:Nat) (b:List UInt8) (a:Nat) (la:Int) (bad:List Pb),b.length<n→∃p,ER n b a la bad=some p
 | 0,b,a,la,bad,h=>by omega
 | n+1,b,a,la,bad,h=>by
  have hdl:=(List.dropWhile_sublist (p:=pK) (l:=b)).length_le
  unfold ER
  cases hx:b.dropWhile pK with
  | nil=>exact ⟨_,rfl⟩
  | cons c r=>
   rw [hx] at hdl
   simp only []
   have hsp:=BZ c r
   have hpos:1≤(c::r).length:=by simp
   split
   ·rename_i c2
    have h10:c≠10:=fun h=>by rw [h] at c2;exact absurd c2 (by decide)
    have:((c::r).dropWhile fun x=>decide (x≠10)).length<(c::r).length:=by
     have e1:(c::r).dropWhile (fun x=>decide (x≠10))=r.dropWhile fun x=>decide (x≠10):=by rw [List.dropWhile_cons,if_pos (by simpa using h10)]
     have:=(List.dropWhile_sublist (p:=fun x:UInt8=>decide (x≠10)) (l:=r)).length_le
     rw [e1]
     simp only [List.length_cons]
     omega
    exact Ap n _ _ _ _ (by omega)
   ·split
    ·exact Ap n _ _ _ _ (by simp only [List.length_drop];omega)
    ·obtain ⟨p,hp⟩:=Ap n ((c::r).drop (dZ (c::r)).2) (a+(b.length - (c::r).length)+(dZ (c::r)).2) la bad (by simp only [List.length_drop];omega)
     rw [hp];exact ⟨_,rfl⟩
def lexB (src:List UInt8):List Tok×List Pb:=(ER (src.length+1) src 0 (-1) []).getD ([],[])
theorem Ve (src:List UInt8):ER (src.length+1) src 0 (-1) []=some (lexB src):=by
 obtain ⟨p,hp⟩:=Ap (src.length+1) src 0 (-1) [] (by omega)
 unfold lexB;rw [hp];rfl
theorem abM (src:List UInt8) (hl:src.length≤65536) (s:St) (cx:Ctx) (hcx:cx.lim≤s.length):
  ah P0 (.fn (.func pF) [] []) [.sl (aF src)] s cx=.ret (.tu [.sl ((lexB src).1.map fK),slf true ((lexB src).2.map gI),.i .i64 0]) s:=
 OW src hl _ _ _ (Ve src) s cx hcx
end Go.Ai.Z
