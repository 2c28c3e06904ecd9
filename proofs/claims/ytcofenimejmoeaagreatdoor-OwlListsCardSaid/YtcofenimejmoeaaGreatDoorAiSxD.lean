/-
 Rules for regions whose order is open.
-/
import Derived.Test.YtcofenimejmoeaaGreatDoorAiDat
set_option maxRecDepth 100000
set_option linter.unusedSimpArgs false
set_option linter.unusedVariables false
set_option linter.unusedSectionVars false
namespace Go.Ai
section
variable (glob:Nat→Option (List AV)) (call:AV→List AV→St→Ctx→CO) (cx:Ctx)
def Qp (e:EV) (dst:Option Nat) (env:Env) (s:St):Out:=
 match dst with
 | none=>.norm env s
 | some d=>if e.refers d=false∧oV env d=false then .norm ((d,e)::env) s else .fail
def L8 (ok:Bool) (o:RO) (dst:Option Nat) (env:Env) (s:St):Out:=
 match ok,o with
 | true,.ok e _ s1=>if s1.length=s.length∧e.owns=false then Qp e dst env s else .fail
 | _,_=>.fail
def qT (dst:Option Nat) (op:AOp) (env:Env) (s:St):Out:=L8 (okQ glob env op) (aop glob call ⟨s.length,s.length⟩ env s op) dst env s
def qN (dst:Option Nat) (env:Env) (s:St):Out:=Qp (.v (.tu [])) dst env s
def gdQ (x:Option EV) (w:Bool) (dst:Option Nat) (op:AOp) (env:Env) (s:St):Out:=
 match x with
 | some (.v (.b x))=>if x=true then (match w with|true=>qT glob call dst op env s|false=>qN dst env s) else (match w with|true=>qN dst env s|false=>qT glob call dst op env s)
 | some (.v (.tu []))=>qN dst env s
 | _=>.fail
end
section
variable {glob:Nat→Option (List AV)} {call:AV→List AV→St→Ctx→CO} {cx:Ctx}
@[simp] theorem adK {e:EV} {env:Env} {s:St}:Qp e none env s=.norm env s:=rfl
@[simp] theorem adJ {e:EV} {d:Nat} {env:Env} {s:St}:Qp e (some d) env s=if e.refers d=false∧oV env d=false then .norm ((d,e)::env) s else .fail:=rfl
@[simp] theorem agF {e:EV} {env' env:Env} {s1 s:St} {dst:Option Nat}:L8 true (.ok e env' s1) dst env s=if s1.length=s.length∧e.owns=false then Qp e dst env s else .fail:=rfl
@[simp] theorem adI {ok:Bool} {env:Env} {s:St} {dst:Option Nat}:L8 ok .fail dst env s=.fail:=by cases ok<;>rfl
theorem nJ {dst:Option Nat} {op:AOp} {env:Env} {s:St}:qT glob call dst op env s=L8 (okQ glob env op) (aop glob call ⟨s.length,s.length⟩ env s op) dst env s:=rfl
theorem nK {dst:Option Nat} {env:Env} {s:St}:qN dst env s=Qp (.v (.tu [])) dst env s:=rfl
@[simp] theorem ahk {x:Bool} {dst:Option Nat} {op:AOp} {env:Env} {s:St}:
  gdQ glob call (some (.v (.b x))) true dst op env s=if x=true then qT glob call dst op env s else qN dst env s:=rfl
@[simp] theorem ahl {x:Bool} {dst:Option Nat} {op:AOp} {env:Env} {s:St}:
  gdQ glob call (some (.v (.b x))) false dst op env s=if x=true then qN dst env s else qT glob call dst op env s:=rfl
@[simp high] theorem ahi {dst:Option Nat} {op:AOp} {env:Env} {s:St}:gdQ glob call (some (.v (.b true))) true dst op env s=L8 (okQ glob env op) (aop glob call ⟨s.length,s.length⟩ env s op) dst env s:=rfl
@[simp high] theorem ahp {dst:Option Nat} {op:AOp} {env:Env} {s:St}:gdQ glob call (some (.v (.b false))) false dst op env s=L8 (okQ glob env op) (aop glob call ⟨s.length,s.length⟩ env s op) dst env s:=rfl
@[simp high] theorem ahj {dst:Option Nat} {op:AOp} {env:Env} {s:St}:gdQ glob call (some (.v (.b true))) false dst op env s=Qp (.v (.tu [])) dst env s:=rfl
@[simp high] theorem aho {dst:Option Nat} {op:AOp} {env:Env} {s:St}:gdQ glob call (some (.v (.b false))) true dst op env s=Qp (.v (.tu [])) dst env s:=rfl
@[simp] theorem ahh {w:Bool} {dst:Option Nat} {op:AOp} {env:Env} {s:St}:gdQ glob call (some (.v (.tu []))) w dst op env s=Qp (.v (.tu [])) dst env s:=rfl
@[simp high] theorem ahm {x:Bool} {dst:Option Nat} {op:AOp} {env:Env} {s:St}:
  gdQ glob call (some (.v (.b (!x)))) true dst op env s=gdQ glob call (some (.v (.b x))) false dst op env s:=by cases x<;>rfl
@[simp high] theorem ahn {x:Bool} {dst:Option Nat} {op:AOp} {env:Env} {s:St}:
  gdQ glob call (some (.v (.b (!x)))) false dst op env s=gdQ glob call (some (.v (.b x))) true dst op env s:=by cases x<;>rfl
@[simp] theorem aaB {dst:Option Nat} {op:AOp} {env:Env} {s:St}:
  fD glob call cx ⟨dst,none,op⟩ env s=if op.quiet.isSome=true then L8 (okQ glob env op) (aop glob call ⟨s.length,s.length⟩ env s op) dst env s else (aop glob call cx env s op).fin dst:=by
 simp only [fD];split
 ·unfold yh ug;simp only [eY];cases hq:okQ glob env op
  ·simp [L8]
  ·simp only [if_true]
   cases ha:aop glob call ⟨s.length,s.length⟩ env s op with
   | ok e env' s1=>
    simp only [L8];by_cases hc:s1.length=s.length∧e.owns=false
    ·rw [if_pos hc,if_pos hc];cases dst<;>rfl
    ·rw [if_neg hc,if_neg hc]
   | _=>rfl
 ·exact UI
@[simp] theorem aaA {dst:Option Nat} {op:AOp} {k:Nat} {w:Bool} {env:Env} {s:St}:
  fD glob call cx ⟨dst,some (k,w),op⟩ env s=if op.quiet.isSome=true then gdQ glob call (lk env k) w dst op env s else gdD glob call cx (lk env k) w dst op env s:=by
 simp only [fD];split
 ·have hT:∀(h:eY env (some (k,w))=some true),yh glob call ⟨dst,some (k,w),op⟩ env s=qT glob call dst op env s:=by
   intro h;unfold yh ug;simp only [h];unfold qT;cases hq:okQ glob env op
   ·simp [L8]
   ·simp only [if_true]
    cases ha:aop glob call ⟨s.length,s.length⟩ env s op with
    | ok e env' s1=>
     simp only [L8];by_cases hc:s1.length=s.length∧e.owns=false
     ·rw [if_pos hc,if_pos hc];cases dst<;>rfl
     ·rw [if_neg hc,if_neg hc]
    | _=>rfl
  have hF:∀(h:eY env (some (k,w))=some false),yh glob call ⟨dst,some (k,w),op⟩ env s=qN dst env s:=by
   intro h;unfold yh ug;simp only [h];unfold qN
   cases dst<;>rfl
  have hN:∀(h:eY env (some (k,w))=none),yh glob call ⟨dst,some (k,w),op⟩ env s=.fail:=by
   intro h;unfold yh ug;simp only [h]
  cases h:lk env k with
  | none=>exact hN (by simp [eY,h])
  | some e=>
   cases e with
   | v a=>
    cases a with
    | b x=>
     cases x<;>cases w<;>first|exact hT (by simp [eY,h])|exact hF (by simp [eY,h])
    | tu cs=>
     cases cs with
     | nil=>exact hF (by simp [eY,h])
     | cons a r=>exact hN (by simp [eY,h])
    | _=>exact hN (by simp [eY,h])
   | _=>exact hN (by simp [eY,h])
 ·exact UH
@[simp] theorem agz {aops:List aI} {env:Env} {s:St}:iD glob call cx aops [] env s=.norm env s:=rfl
@[simp] theorem aeT {aops:List aI} {i:Nat} {r:List Nat} {env:Env} {s:St}:iD glob call cx aops (i::r) env s=match aops[i]? with
  | none=>.fail
  | some o=>(fD glob call cx o env s).thn (iD glob call cx aops r):=by
 simp only [iD]
 cases aops[i]? with
 | none=>rfl
 | some o=>simp only [];cases fD glob call cx o env s<;>rfl
attribute [simp] okQ Ot Et AOp.quiet oV y9 oxs
end
end Go.Ai
