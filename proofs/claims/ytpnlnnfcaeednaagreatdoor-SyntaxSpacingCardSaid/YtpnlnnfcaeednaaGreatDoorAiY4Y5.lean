/-
 The lexer at all texts: comments, bytes that belong to no token.
-/
import Derived.Test.YtpnlnnfcaeednaaGreatDoorAiKW
set_option maxRecDepth 100000
set_option linter.unusedSimpArgs false
set_option linter.unusedVariables false
set_option linter.unusedSectionVars false
namespace Go.Ai.Z
abbrev Pb:=Int×Int
def fZ (p:Pb):AV:=.ag [.i .i64 p.1,.i .i64 p.2]
def bdV (n:Nat) (bad:List Pb):AV:=match bad with | []=>.ns | _=>.st n (bad.map fZ)
def rowB (bad:List Pb):St:=match bad with | []=>[] | _=>[.row aK 2 bad.length]
def stF (s:St) (a n la:Int) (bad:List Pb):St:=s++(.cells [bdV (s.length+5) bad]::.cells wO::.cells [.i .i64 a]::.cells [.i .i64 n]::.cells [.i .i64 la]::rowB bad)
@[simp] theorem aiq (s:St) (a n la:Int) (bad:List Pb):(stF s a n la bad)[s.length]?=some (.cells [bdV (s.length+5) bad]):=by simp [stF]
@[simp] theorem akM (s:St) (a n la:Int) (bad:List Pb):(stF s a n la bad)[s.length+1]?=some (.cells wO):=by simp [stF]
@[simp] theorem aip (s:St) (a n la:Int) (bad:List Pb):(stF s a n la bad)[s.length+2]?=some (.cells [.i .i64 a]):=by simp [stF]
@[simp] theorem aio (s:St) (a n la:Int) (bad:List Pb):(stF s a n la bad)[s.length+3]?=some (.cells [.i .i64 n]):=by simp [stF]
@[simp] theorem ain (s:St) (a n la:Int) (bad:List Pb):(stF s a n la bad)[s.length+4]?=some (.cells [.i .i64 la]):=by simp [stF]
@[simp] theorem aj1 (s:St) (a n la x:Int) (bad:List Pb):(stF s a n la bad).set (s.length+2) (.cells [.i .i64 x])=stF s x n la bad:=by simp [stF]
@[simp] theorem aj0 (s:St) (a n la x:Int) (bad:List Pb):(stF s a n la bad).set (s.length+3) (.cells [.i .i64 x])=stF s a x la bad:=by simp [stF]
@[simp] theorem ajZ (s:St) (a n la x:Int) (bad:List Pb):(stF s a n la bad).set (s.length+4) (.cells [.i .i64 x])=stF s a n x bad:=by simp [stF]
@[simp] theorem aj2 (s:St) (a n la:Int) (bad:List Pb):(stF s a n la bad).set (s.length) (.cells [bdV (s.length+5) bad])=stF s a n la bad:=by simp [stF]
@[simp] theorem aim (s:St) (a n la:Int) (bad:List Pb):(stF s a n la bad).take s.length=s:=by simp [stF]
def ER:Nat→List UInt8→Nat→Int→List Pb→Option (List Tok×List Pb)
 | 0,_,_,_,_=>none
 | n+1,b,a,la,bad=>
  match b.dropWhile mY with
  | []=>some ([(4,[],a+b.length)],bad)
  | c::r=>
   let a1:=a+(b.length - (c::r).length)
   if nR c=2 then
    let d:=(c::r).dropWhile fun x=>decide (x≠10)
    ER n d (a1+((c::r).length - d.length)) la bad
   else if (dJ (c::r)).1=0 then
    ER n ((c::r).drop (dJ (c::r)).2) (a1+(dJ (c::r)).2) ((a1+(dJ (c::r)).2:Nat):Int) (if (a1:Int)≠la∧bad.length<64 then bad++[((a1:Int),10)] else bad)
   else (ER n ((c::r).drop (dJ (c::r)).2) (a1+(dJ (c::r)).2) la bad).map fun p=>(((dJ (c::r)).1,(c::r).take (dJ (c::r)).2,a1)::p.1,p.2)
theorem aao (s:St) (cx:Ctx) (hcx:cx.lim≤s.length) (hbs:cx.base≤s.length) (src:List UInt8) (hl:src.length≤65536) (ts:List Tok) (n la:Int) (bad:List Pb):∀(b:List UInt8) (i:Nat),src.drop i=b→
  eX (aC P0.glob (ah P0) cx false o8) [0,2,3,5,6,8,10] (xG s src ts) (stF s i n la bad)=
   .exit 0 (xG s src ts++[(28,.v (.b false))]) (stF s ((i+(b.length - (b.dropWhile mY).length):Nat):Int) n la bad)
 | [],i,h=>by
  have h1:¬i<src.length:=Nat.not_lt.2 (drop_nil h)
  have hb:=oN src
  refine ak fun K hK=>?_
  simp [o8,xG,hb,h1]
 | c::r,i,h=>by
  obtain ⟨h1,h2,h3,h4⟩:=drop_cons h
  have hb:∀h,(aA src)[i]'h=.i .u8 c.toNat:=fun h=>vI src i h h1
  have hbl:=oN src
  have hw:=wI (i:=i) (by omega)
  have ht:=Fh c
  have hlt:c.toNat<256:=c.toNat_lt
  have hc1:cx.lim≤s.length+2:=by omega
  have hc2:cx.base≤s.length+2:=by omega
  have ih:=aao s cx hcx hbs src hl ts n la bad r (i+1) h2
  refine ak fun K hK=>?_
  rw [←hK,show ((i+1:Nat):Int)=(i:Int)+1 from rfl] at ih
  clear hK
  have hdl:=(List.dropWhile_sublist (p:=mY) (l:=r)).length_le
  by_cases c1:nR c=1
  ·have hwr:mY c=true:=by simp [mY,c1]
   have e:i+1+(r.length - (r.dropWhile mY).length)=i+((c::r).length - ((c::r).dropWhile mY).length):=by
    simp only [List.dropWhile_cons,hwr,if_true,List.length_cons];omega
   rw [e] at ih
   simp [xG] at ih
   simp [o8,xG,h3,hb,hbl,ht,hlt,c1,hw,hc1,hc2,ih]
  ·have hwr:mY c=false:=by simp [mY,c1]
   have e:i+((c::r).length - ((c::r).dropWhile mY).length)=i:=by
    simp only [List.dropWhile_cons,hwr];simp
   rw [e]
   simp [o8,xG,h3,hb,hbl,ht,hlt,c1,hw,hwr]
theorem Uz (s:St) (cx:Ctx) (hcx:cx.lim≤s.length) (hbs:cx.base≤s.length) (src:List UInt8) (hl:src.length≤65536) (ts:List Tok) (n la:Int) (bad:List Pb):∀(b:List UInt8) (i:Nat),src.drop i=b→
  eX (aC P0.glob (ah P0) cx false o7) [0,2,3,5,6,8,10] (xG s src ts) (stF s i n la bad)=
   .exit 2 (xG s src ts++[(58,.v (.b false))]) (stF s ((i+(b.length - (b.dropWhile fun x=>decide (x≠10)).length):Nat):Int) n la bad)
 | [],i,h=>by
  have h1:¬i<src.length:=Nat.not_lt.2 (drop_nil h)
  have hb:=oN src
  refine ak fun K hK=>?_
  simp [o7,xG,hb,h1]
 | c::r,i,h=>by
  obtain ⟨h1,h2,h3,h4⟩:=drop_cons h
  have hb:∀h,(aA src)[i]'h=.i .u8 c.toNat:=fun h=>vI src i h h1
  have hbl:=oN src
  have hw:=wI (i:=i) (by omega)
  have hc1:cx.lim≤s.length+2:=by omega
  have hc2:cx.base≤s.length+2:=by omega
  have ih:=Uz s cx hcx hbs src hl ts n la bad r (i+1) h2
  refine ak fun K hK=>?_
  rw [←hK,show ((i+1:Nat):Int)=(i:Int)+1 from rfl] at ih
  clear hK
  have hdl:=(List.dropWhile_sublist (p:=fun x:UInt8=>decide (x≠10)) (l:=r)).length_le
  by_cases c1:c=10
  ·have hwr:decide (c≠10)=false:=by simp [c1]
   have e:i+((c::r).length - ((c::r).dropWhile fun x=>decide (x≠10)).length)=i:=by
    simp only [List.dropWhile_cons,hwr];simp
   have c2:(c.toNat:Int)=10:=by rw [c1];rfl
   rw [e]
   simp [o7,xG,h3,hb,hbl,c2]
  ·have hwr:decide (c≠10)=true:=by simp [c1]
   have c2:¬(c.toNat:Int)=10:=ahB (b:=10) c1
   have e:i+1+(r.length - (r.dropWhile fun x=>decide (x≠10)).length)=i+((c::r).length - ((c::r).dropWhile fun x=>decide (x≠10)).length):=by
    simp only [List.dropWhile_cons,hwr,if_true,List.length_cons];omega
   rw [e] at ih
   simp [xG] at ih
   simp [o7,xG,h3,hb,hbl,c2,hw,hc1,hc2,ih]
def abW (a la:Int) (bad:List Pb):List Pb:=if a≠la∧bad.length<64 then bad++[(a,10)] else bad
theorem abY (bad:List Pb):((bad.map fZ).all fun e=>e.cells.length == 2)=true:=by simp [fZ]
theorem aeW (s:St) (cx:Ctx) (hcx:cx.lim≤s.length) (hbs:cx.base≤s.length) (a n la:Int) (hw:IntKind.i64.wrap (a+n)=a+n) (bad:List Pb) (hb:bad.length≤64):
  ah P0 (.fn (.func oP) [] [.pt (s.length+2) 0,.pt (s.length+4) 0,.pt s.length 0,.pt (s.length+3) 0]) [] (stF s a n la bad) cx=.ret (.tu []) (stF s a n (a+n) (abW a la bad)):=by
 refine Kq (by simp) ?_
 have h4:cx.lim≤s.length+4:=by omega
 have b4:cx.base≤s.length+4:=by omega
 have h5:cx.lim≤s.length+5:=by omega
 unfold abW
 by_cases h1:a=la
 ·subst h1
  simp [af,lC,hw,h4,b4,splice]
 ·rcases bad with _|⟨p,q⟩
  ·have hlen:(stF s a n la []).length=s.length+5:=by simp [stF,rowB]
   have hset:List.set (stF s a n la []++[.row aK 2 1]) s.length (.cells [.st (s.length+5) [.ag [.i .i64 a,.i .i64 10]]])=stF s a n la [(a,10)]:=by
    simp [stF,rowB,bdV,fZ]
   have g0:(stF s a n la []++[.row aK 2 1])[s.length]?=some (.cells [.ns]):=by simp [stF,bdV]
   have e0:∀h,(stF s a n la [])[s.length]'h=.cells [.ns]:=fun h=>Option.some.inj ((List.getElem?_eq_getElem h).symm.trans (aiq s a n la []))
   have e2:∀h,(stF s a n la [])[s.length+2]'h=.cells [.i .i64 a]:=fun h=>Option.some.inj ((List.getElem?_eq_getElem h).symm.trans (aip s a n la []))
   have e3:∀h,(stF s a n la [])[s.length+3]'h=.cells [.i .i64 n]:=fun h=>Option.some.inj ((List.getElem?_eq_getElem h).symm.trans (aio s a n la []))
   have e4:∀h,(stF s a n la [])[s.length+4]'h=.cells [.i .i64 la]:=fun h=>Option.some.inj ((List.getElem?_eq_getElem h).symm.trans (ain s a n la []))
   obtain ⟨G,hG⟩:∃G,stF s a n la []++[dZ.row aK 2 1]=G:=⟨_,rfl⟩
   rw [hG] at hset g0
   simp [af,lC,hw,h1,h4,b4,hcx,hbs,splice,dX,List.range_succ,eu,hlen,hset,g0,e0,e2,e3,e4,hG]
  ·by_cases h2:q.length+1<64
   ·have h2':(q.length:Int)+1<64:=by omega
    have g5:(stF s a n la (p::q))[s.length+5]?=some (.row aK 2 (q.length+1)):=by simp [stF,rowB]
    have hal:=abY q
    have hset:List.set (List.set (stF s a n la (p::q)) (s.length+5) (.row aK 2 (q.length+1+1))) s.length (.cells [.st (s.length+5) (fZ p::(q.map fZ++[.ag [.i .i64 a,.i .i64 10]]))])=stF s a n la (p::(q++[(a,10)])):=by
     simp [stF,rowB,bdV,fZ]
    have g0:(List.set (stF s a n la (p::q)) (s.length+5) (.row aK 2 (q.length+1+1)))[s.length]?=some (.cells [.st (s.length+5) ((p::q).map fZ)]):=by simp [stF,bdV]
    have hm:q.length+1+1≤eu:=by unfold eu;omega
    have hpc:(fZ p).cells.length=2:=rfl
    simp [af,lC,hw,h1,h2,h2',h4,b4,h5,hcx,hbs,bdV,splice,dX,List.range_succ,hm,g5,hal,hset,g0,hpc]
   ·have h2':¬(q.length:Int)+1<64:=by omega
    simp [af,lC,hw,h1,h2,h2',h4,b4,bdV,splice]
end Go.Ai.Z
namespace Go.Ai.Z
@[simp] theorem ahp (n:Nat) (bad:List Pb):(bdV n bad).cells=[bdV n bad]:=by cases bad<;>rfl
@[simp] theorem ajU (n:Nat) (bad:List Pb):(bdV n bad).one=true:=by cases bad<;>rfl
@[simp] theorem aho (n:Nat) (bad:List Pb):(bdV n bad).plain=slf true (bad.map fZ):=by cases bad<;>rfl
theorem acO (n:Nat) (bad:List Pb):dA n (bad.map fZ)=true:=by
 induction bad with
 | nil=>simp
 | cons a r ih=>simp [fZ,ih]
theorem afV (s:St) (a n la:Int) (bad:List Pb):¬(stF s a n la bad).length=s.length:=by simp [stF]
theorem QO {body:Env→St→Out} {keep:List Nat} {env env2:Env} {s:St} (h:jY env keep=jY env2 keep):eX body keep env s=eX body keep env2 s:=by
 rw [JU,JU body keep env2,h]
theorem WW {body:Env→St→Out} {l:Nat} {keep:List Nat} {env env2:Env} {s:St} (h:jY env keep=jY env2 keep):Ah body l keep env s=Ah body l keep env2 s:=by
 rw [BZ,BZ body l keep env2,h]
set_option maxHeartbeats 2000000 in
theorem Vr (s:St) (cx:Ctx) (hcx:cx.lim≤s.length) (hbs:cx.base≤s.length) (src:List UInt8) (hl:src.length≤65536):∀(k:Nat) (b:List UInt8) (i:Nat) (n la:Int) (ts res:List Tok) (bad bad':List Pb),src.drop i=b→i≤src.length→ts.length≤i→bad.length≤64→
  ER k b i la bad=some (res,bad')→
  ∃n' la':Int,Ah (aC P0.glob (ah P0) cx false gW) 0 [0,2,3,5,6,8,10] (xG s src ts) (stF s i n la bad)=
   .ret [(2,.v (.sl ((ts++res).map dN))),(3,.v (.pt s.length 0)),(4,.v (.i .i64 0))] (stF s src.length n' la' bad')
 | 0,_,_,_,_,_,_,_,_,_,_,_,_,h=>by simp [ER] at h
 | k+1,b,i,n,la,ts,res,bad,bad',hd,hi,hts,hbd,h=>by
  have hbk:=aao s cx hcx hbs src hl ts n la bad b i hd
  have hblen:b.length=src.length - i:=by rw [←hd];simp
  have hkeep:jY (xG s src ts) [0,2,3,5,6,8,10]=xG s src ts:=by simp [xG]
  unfold ER at h
  have hdl:=(List.dropWhile_sublist (p:=mY) (l:=b)).length_le
  cases hx:b.dropWhile mY with
  | nil=>
   rw [hx] at h hbk
   simp only [Option.some.injEq,Prod.mk.injEq] at h
   obtain ⟨rfl,rfl⟩:=h
   have e:i+b.length=src.length:=by omega
   have hbl:=oN src
   have ht1:=TG ts
   have hm:ts.length+1≤1073741824:=by omega
   refine ⟨n,la,DI fun K hK=>?_⟩
   clear hK
   rw [hkeep,PV]
   simp only [List.length_nil,Nat.sub_zero,e] at hbk
   simp only [xG,List.cons_append,List.nil_append] at hbk
   simp [Dw,gW,aS.snd,xG,hbk,hbl,eu,hm,dX,e,hcx,hbs,dN]
  | cons c r=>
   rw [hx] at h hbk
   simp only [] at h
   rw [hx] at hdl
   generalize hj:i+(b.length - (c::r).length)=j at h hbk
   have hbd2:b.drop (b.length - (c::r).length)=c::r:=by
    have:=List.takeWhile_append_dropWhile (p:=mY) (l:=b)
    rw [hx] at this
    have hlen:=congrArg List.length this
    simp only [List.length_append] at hlen
    rw [←this,List.length_append,Nat.add_sub_cancel]
    simp
   have hdj:src.drop j=c::r:=by rw [←hj,KE hd,hbd2]
   obtain ⟨h1,h2,h3,h4⟩:=drop_cons hdj
   have hb:∀h,(aA src)[j]'h=.i .u8 c.toNat:=fun h=>vI src j h h1
   have hbl:=oN src
   have ht:=Fh c
   have hlt:c.toNat<256:=c.toNat_lt
   have hcl:(c::r).length=src.length - j:=by rw [←hdj];simp
   have hij:i≤j:=by omega
   have j2:¬(j:Int)=src.length:=by omega
   have d2:cx.lim≤s.length+2:=by omega
   have d3:cx.base≤s.length+2:=by omega
   have d4:cx.lim≤s.length+3:=by omega
   have d5:cx.base≤s.length+3:=by omega
   by_cases c2:nR c=2
   ·rw [if_pos c2] at h
    have hcm:=Uz s cx hcx hbs src hl ts n la bad (c::r) j hdj
    have hds:=(List.dropWhile_sublist (p:=fun x:UInt8=>decide (x≠10)) (l:=c::r)).length_le
    generalize hdd:((c::r).dropWhile fun x=>decide (x≠10))=dd at h hcm hds
    have hdrop:src.drop (j+((c::r).length - dd.length))=dd:=by
     rw [KE hdj]
     have:=List.takeWhile_append_dropWhile (p:=fun x:UInt8=>decide (x≠10)) (l:=c::r)
     rw [hdd] at this
     obtain ⟨tw,htw⟩:∃tw,tw++dd=c::r:=⟨_,this⟩
     rw [←htw]
     have e1:(tw++dd).length - dd.length=tw.length:=by simp
     rw [e1];exact List.drop_left
    obtain ⟨n',la',ih⟩:=Vr s cx hcx hbs src hl k dd (j+((c::r).length - dd.length)) n la ts res bad bad' hdrop (by omega) (by omega) hbd h
    refine ⟨n',la',DI fun K hK=>?_⟩
    have hKs:∀e1 e2 t,jY e1 [0,2,3,5,6,8,10]=jY e2 [0,2,3,5,6,8,10]→K e1 t=K e2 t:=fun e1 e2 t he=>by rw [hK];exact WW he
    rw [←hK] at ih
    clear hK
    rw [hkeep,PV]
    generalize ((j+((c::r).length - dd.length):Nat):Int)=J at ih hcm
    have hcm:=(QO (env:=xG s src ts++[(47,.v (.b true))]) (by simp [xG])).trans hcm
    simp only [xG,List.cons_append,List.nil_append,List.map_append] at hbk ih hcm
    simp [Dw,gW,aS.snd,xG,hbk,hbl,j2,h3,hb,ht,hlt,c2,hcm]
    refine (hKs _ _ _ ?_).trans ih
    simp
   ·rw [if_neg c2] at h
    have hsl:=O8 c r
    have hsp:=yX c r
    have hscan:=KQ (stF s j n la bad) cx (s.length+1) (by simp) (c::r) (by omega) (by simp)
    have hs1:((aA src).drop j).take (src.length - j)=aA (c::r):=by
     rw [AY,hdj,List.take_of_length_le (by rw [oN];omega)]
    have hal:=MV src
    generalize hsc:dJ (c::r)=sc at h hscan hsl hsp
    obtain ⟨kd,w⟩:=sc
    simp only [] at h hscan hsl hsp
    have w1:IntKind.i64.wrap ((j:Int)+w)=(j:Int)+w:=w64 (by omega) (by omega)
    have n1:((j:Int)+w).toNat=j+w:=by omega
    have z1:(0:Int)≤(j:Int)+w:=by omega
    have n2:j+w - j=w:=by omega
    have q1:j≤src.length:=by omega
    have q2:j+w≤src.length:=by omega
    by_cases k0:kd=0
    ·rw [if_pos k0] at h
     have hbl2:(abW j la bad).length≤64:=by
      unfold abW
      split
      ·simp;omega
      ·exact hbd
     obtain ⟨n',la',ih⟩:=Vr s cx hcx hbs src hl k ((c::r).drop w) (j+w) w ((j+w:Nat):Int) ts res (abW j la bad) bad' (by rw [KE hdj]) (by omega) (by omega) hbl2 h
     have hspo:=aeW s cx hcx hbs j w la w1 bad hbd
     refine ⟨n',la',DI fun K hK=>?_⟩
     rw [←hK] at ih
     clear hK
     rw [hkeep,PV]
     rw [show ((j+w:Nat):Int)=(j:Int)+w from rfl] at ih
     generalize abW j la bad=bb at ih hspo
     simp only [xG,List.cons_append,List.nil_append,List.map_append] at hbk ih
     simp [Dw,gW,aS.snd,xG,hbk,hbl,hcx,hbs,j2,h3,hb,ht,hlt,c2,hal,hs1,hscan,q1,q2,d2,d3,d4,d5,k0,w1,hspo]
     exact ih
    ·rw [if_neg k0] at h
     cases hlex:ER k ((c::r).drop w) (j+w) la bad with
     | none=>rw [hlex] at h;cases h
     | some p=>
      obtain ⟨res1,bad1⟩:=p
      rw [hlex] at h
      simp only [Option.map_some,Option.some.injEq,Prod.mk.injEq] at h
      obtain ⟨rfl,rfl⟩:=h
      have ih:=Vr s cx hcx hbs src hl k ((c::r).drop w) (j+w) w la (ts++[(kd,(c::r).take w,j)]) res1 bad bad1 (by rw [KE hdj]) (by omega) (by simp;omega) hbd hlex
      obtain ⟨n',la',ih⟩:=ih
      have hs2:((aA src).drop j).take w=aA ((c::r).take w):=by rw [AY,hdj,Jo]
      have hstr:=UK ((c::r).take w)
      have ht1:=TG ts
      have hm:ts.length+1≤1073741824:=by omega
      refine ⟨n',la',DI fun K hK=>?_⟩
      rw [←hK] at ih
      clear hK
      rw [hkeep,PV]
      rw [show ((j+w:Nat):Int)=(j:Int)+w from rfl] at ih
      simp only [xG,List.cons_append,List.nil_append,List.map_append,List.map_cons,List.map_nil] at hbk ih
      simp [Dw,gW,aS.snd,xG,hbk,hbl,eu,hm,dX,hcx,hbs,j2,h3,hb,ht,hlt,c2,hal,hs1,hscan,q1,q2,d2,d3,d4,d5,k0,w1,n1,z1,n2,hs2,hstr]
      rw [List.append_assoc] at ih
      exact ih
theorem OZ (src:List UInt8) (hl:src.length≤65536) (k:Nat) (res:List Tok) (bad:List Pb) (h:ER k src 0 (-1) []=some (res,bad)) (s:St) (cx:Ctx) (hcx:cx.lim≤s.length):
  ah P0 (.fn (.func nG) [] []) [.sl (aA src)] s cx=.ret (.tu [.sl (res.map dN),slf true (bad.map fZ),.i .i64 0]) s:=by
 refine OV (by simp) ?_
 obtain ⟨n',la',hm⟩:=Vr s ⟨cx.lim,s.length⟩ hcx (Nat.le_refl _) src hl k src 0 0 (-1) [] res [] bad rfl (Nat.zero_le _) (Nat.zero_le _) (by simp) h
 rw [BZ] at hm
 have hkeep:jY (xG s src []) [0,2,3,5,6,8,10]=xG s src []:=by simp [xG]
 have e:∀(env:Env) (s':St),aC P0.glob (ah P0) ⟨cx.lim,s.length⟩ false gW env s'=aC P0.glob (ah P0) ⟨cx.lim,s.length⟩ false Dw env s':=fun env s'=>by rw [PV];simp
 rw [hkeep,e] at hm
 have hsrc:¬((65536:Int)<src.length):=by omega
 have hbl:=oN src
 have hcl:=EC
 have hu:=aaG s.length res
 have hu2:=acO s.length bad
 unfold af
 rw [aaH]
 have hc0:cx.lim≤s.length+1:=by omega
 have hc1:cx.lim≤s.length+2:=by omega
 have hc2:cx.lim≤s.length+3:=by omega
 have hc3:cx.lim≤s.length+4:=by omega
 have hne:=afV s src.length n' la' bad
 simp [iR,aS.fst,aS.snd,aS.sca,hbl,hsrc,hcl,hc0,hc1,hc2,hc3]
 have hm2:=hm
 simp only [xG,List.map_nil,List.nil_append,show ((0:Nat):Int)=0 from rfl] at hm2
 rw [show stF s 0 0 (-1) []=s++[.cells [.ns],.cells wO,.cells [.i .i64 0],.cells [.i .i64 0],.cells [.i .i64 (-1)]] from rfl] at hm2
 rw [hm2]
 simp [hne]
 simp [hu,hu2,frz,hne,AV.under]
theorem Ar:∀(n:Nat) (b:List UInt8) (a:Nat) (la:Int) (bad:List Pb),b.length<n→∃p,ER n b a la bad=some p
 | 0,b,a,la,bad,h=>by omega
 | n+1,b,a,la,bad,h=>by
  have hdl:=(List.dropWhile_sublist (p:=mY) (l:=b)).length_le
  unfold ER
  cases hx:b.dropWhile mY with
  | nil=>exact ⟨_,rfl⟩
  | cons c r=>
   rw [hx] at hdl
   simp only []
   have hsp:=yX c r
   have hpos:1≤(c::r).length:=by simp
   split
   ·rename_i c2
    have h10:c≠10:=fun h=>by rw [h] at c2;exact absurd c2 (by decide)
    have:((c::r).dropWhile fun x=>decide (x≠10)).length<(c::r).length:=by
     have e1:(c::r).dropWhile (fun x=>decide (x≠10))=r.dropWhile fun x=>decide (x≠10):=by rw [List.dropWhile_cons,if_pos (by simpa using h10)]
     have:=(List.dropWhile_sublist (p:=fun x:UInt8=>decide (x≠10)) (l:=r)).length_le
     rw [e1]
     simp only [List.length_cons]
     omega
    exact Ar n _ _ _ _ (by omega)
   ·split
    ·exact Ar n _ _ _ _ (by simp only [List.length_drop];omega)
    ·obtain ⟨p,hp⟩:=Ar n ((c::r).drop (dJ (c::r)).2) (a+(b.length - (c::r).length)+(dJ (c::r)).2) la bad (by simp only [List.length_drop];omega)
     rw [hp];exact ⟨_,rfl⟩
def lexB (src:List UInt8):List Tok×List Pb:=(ER (src.length+1) src 0 (-1) []).getD ([],[])
theorem Vq (src:List UInt8):ER (src.length+1) src 0 (-1) []=some (lexB src):=by
 obtain ⟨p,hp⟩:=Ar (src.length+1) src 0 (-1) [] (by omega)
 unfold lexB;rw [hp];rfl
theorem Wy (src:List UInt8) (hl:src.length≤65536) (s:St) (cx:Ctx) (hcx:cx.lim≤s.length):
  ah P0 (.fn (.func nG) [] []) [.sl (aA src)] s cx=.ret (.tu [.sl ((lexB src).1.map dN),slf true ((lexB src).2.map fZ),.i .i64 0]) s:=
 OZ src hl _ _ _ (Vq src) s cx hcx
end Go.Ai.Z
