/-
 query.Tidy.
-/
import Derived.Test.YtalbhlfigmlddaaGreatDoorAiQA3
set_option maxRecDepth 100000
set_option linter.unusedSimpArgs false
set_option linter.unusedVariables false
set_option linter.unusedSectionVars false
namespace Go.Ai.Z
def rowA (z:Bool):List At→AV
 | []=>if z then .ns else .sz
 | a::r=>.sl ((a::r).map aK)
def Gh (z:Bool) (L:List At):AV:=.ag [rowA z L]
theorem UD {S:St} {n m:Nat} {a:AV} (h:a.under n=true):qU S n m a=some a:=by
 cases m<;>simp [qU,h]
theorem MN {F:AV→Option AV}:∀{l:List AV},(∀a∈l,F a=some a)→l.mapM F=some l
 | [],_=>by simp
 | a::l,h=>by
  simp only [List.mapM_cons,Option.bind_eq_bind,Option.pure_def,h a (by simp),MN (l:=l) (fun b hb=>h b (by simp [hb]))]
  rfl
theorem Gn:∀(L:List At) (a:AV),a∈flA L→a.one=true∧∀n,a.under n=true
 | [],a,h=>by simp [flA] at h
 | c::r,a,h=>by
  simp only [flA,List.cons_append,List.nil_append,List.mem_cons] at h
  rcases h with rfl|rfl|rfl|rfl|rfl|rfl|h
  ·exact ⟨rfl,fun n=>by simp⟩
  ·exact ⟨rfl,fun n=>by simp⟩
  ·exact ⟨rfl,fun n=>by simp⟩
  ·exact ⟨rfl,fun n=>by simp⟩
  ·exact ⟨rfl,fun n=>by simp⟩
  ·exact ⟨rfl,fun n=>by simp⟩
  ·exact Gn r a h
theorem UC {s:St} {t:Nat} (M:List At) (Z:List AV):frz (s++[.buf t 6 0 (flA M++Z)]) s.length (.ag [.sk s.length 0 6 0 M.length])=some (.ag [.sl (M.map aK)]):=by
 have h0:(AV.ag [.sk s.length 0 6 0 M.length]).under s.length=false:=by simp [AV.under,bH]
 have ht:(flA M++Z).take (M.length * 6)=flA M:=by
  have:=yU M M.length Z (Nat.le_refl _)
  rwa [List.take_of_length_le (Nat.le_refl _)] at this
 have hm:∀m,(flA M).mapM (qU (s++[.buf t 6 0 (flA M++Z)]) s.length m)=some (flA M):=fun m=>MN fun a ha=>UD ((Gn M a ha).2 _)
 have ho:(flA M).all AV.one=true:=List.all_eq_true.2 fun a ha=>(Gn M a ha).1
 have hc:chunk 6 M.length (flA M)=M.map aK:=by have:=EI M [];rwa [List.append_nil] at this
 have h1:(AV.sk s.length 0 6 0 M.length).under s.length=false:=by simp [AV.under]
 have hfit:M.length * 6≤(flA M++Z).length:=by simp
 have h2:qU (s++[.buf t 6 0 (flA M++Z)]) s.length 5 (.sk s.length 0 6 0 M.length)=some (.sl (M.map aK)):=by
  rw [qU,if_neg (by rw [h1];exact Bool.false_ne_true)]
  simp [ht,hm,hc]
  exact fun x hx=>(Gn M x hx).1
 rw [frz,if_neg (by rw [h0];exact Bool.false_ne_true),qU,if_neg (by rw [h0];exact Bool.false_ne_true)]
 simp [h2]
theorem Nr (a:At):(aK a).cells=[.i .i64 a.kind,.s a.name,.s a.x,.s a.y,.i .i64 a.lo,.i .i64 a.hi]:=rfl
theorem O6:∀L:List At,(L.map aK).flatMap AV.cells=flA L
 | []=>rfl
 | a::r=>by simp only [List.map_cons,List.flatMap_cons,O6 r,Nr,flA]
theorem Ui (L:List At):((L.map aK).all fun e=>e.cells.length == 6)=true:=by
 rw [List.all_eq_true]
 intro e he
 obtain ⟨a,_,rfl⟩:=List.mem_map.1 he
 rfl
theorem LC (s:St) (cx:Ctx):aH P0 (.fn (.func aV) [] []) [.ns] s cx=.ret .ns s:=by
 refine eX (by simp) ?_
 simp [au,aZ,HY]
theorem OJ (s:St) (cx:Ctx):aH P0 (.fn (.func aV) [] []) [.sz] s cx=.ret .se s:=by
 refine eX (by simp) ?_
 simp [au,aZ,HY,rJ]
theorem TQ (a:At) (q:List At) (hlen:q.length≤100000) (s:St) (cx:Ctx):aH P0 (.fn (.func aV) [] []) [.sl ((a::q).map aK)] s cx=
  .ret (.sk s.length 0 6 0 (a::q).length) (s++[.buf bM 6 0 (flA (a::q))]):=by
 have m1:q.length+1≤bK:=by unfold bK;omega
 have hz:=Ui (a::q)
 have hf:=O6 (a::q)
 have hl:((a::q).map aK).length=q.length+1:=by simp
 refine eX (by simp) ?_
 generalize hX:(a::q).map aK=X at *
 cases X with
 | nil=>simp at hl
 | cons x X=>
  simp only [List.length_cons] at hl ⊢
  simp [au,aZ,HY,rJ,hz,hf,hl,m1]
theorem QW (s:St) (cx:Ctx):aH P0 (.fn (.func aN) [] []) [.se,.fn (.func bG) [] []] s cx=.ret (.tu []) s:=
 vJ (A:=P0) (k:=.sortK 6) rfl rfl (by simp) (by simp [eY])
theorem JH (s:St) (cx:Ctx):aH P0 (.fn (.func aQ) [] []) [.ns] s cx=.ret .ns s:=by
 refine eG (by simp) ?_
 simp [au,aB]
theorem JG (s:St) (cx:Ctx):aH P0 (.fn (.func aQ) [] []) [.se] s cx=.ret .se s:=by
 refine eG (by simp) ?_
 simp [au,aB]
theorem TR (z:Bool) (L:List At) (hL:L.length≤100000):∃r:AV,(∀(s:St) (cx:Ctx),aH P0 (.fn (.func fF) [] []) [Gh z L] s cx=.ret (.ag [r]) s)∧
  ((L=[]∧(r=.ns∨r=.se))∨∃M,L≠[]∧M≠[]∧TdR L M∧M.length≤L.length∧r=.sl (M.map aK)):=by
 match L,hL with
 | [],_=>
  cases z with
  | true=>
   refine ⟨.ns,fun s cx=>?_,.inl ⟨rfl,.inl rfl⟩⟩
   have e1:=(O9 [] (by simp)).choose_spec.2.2.2 rfl
   refine uj (by simp) ?_
   simp [au,jX,Gh,rowA,LC,e1,JH,pV,splice]
  | false=>
   refine ⟨.se,fun s cx=>?_,.inl ⟨rfl,.inr rfl⟩⟩
   refine uj (by simp) ?_
   simp [au,jX,Gh,rowA,OJ,QW,JG,pV,splice,AV.one,AV.cells]
 | a::q,hL=>
  obtain ⟨M,hp,hs,e2,_⟩:=O9 (a::q) hL
  have hMl:M.length=(a::q).length:=hp.length_eq
  have hM0:bI M≠[]:=by
   cases M with
   | nil=>simp at hMl
   | cons b r=>simp [bI]
  refine ⟨.sl ((bI M).map aK),fun s cx=>?_,.inr ⟨bI M,by simp,hM0,⟨TN hs,fun c=>by rw [QM,hp.mem_iff]⟩,by have:=Nl M;omega,rfl⟩⟩
  have e1:=TQ a q (by simpa using Nat.le_of_succ_le hL)
  have e2':=e2 (s++[.buf bM 6 0 (flA (a::q))]) ⟨s.length,s.length⟩ s.length bM 0 [] (by simp) (Nat.le_refl _) (Nat.le_refl _)
  have e3:=OH M (by rw [hMl];exact hL) (s++[.buf bM 6 0 (flA M)]) ⟨s.length,s.length⟩ s.length bM 0 [] (by simp) (Nat.le_refl _) (Nat.le_refl _) (a::q).length hMl.symm (by simp)
  obtain ⟨Z,hZ⟩:∃Z,oG M []=flA (bI M)++Z:=by
   unfold oG
   split
   ·rename_i h;exact ⟨[],by rw [(EG M).eq_of_length h]⟩
   ·exact ⟨_,rfl⟩
  rw [hZ] at e3
  have hfz:=UC (s:=s) (t:=bM) (bI M) Z
  simp only [List.append_nil,List.length_cons] at e1 e2' e3
  have hset:∀x y:dH,(s++[x]).set s.length y=s++[y]:=fun x y=>by simp
  rw [hset] at e2' e3
  refine uj (by simp) ?_
  simp only [List.map_cons] at e1
  simp [au,jX,Gh,rowA,e1,e2',e3,pV,splice,hfz]
end Go.Ai.Z
