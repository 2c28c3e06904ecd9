/-
 Rules for regions whose order is open.
-/
import Derived.Test.YtalbhlfigmlddaaGreatDoorAiDat
set_option maxRecDepth 100000
set_option linter.unusedSimpArgs false
set_option linter.unusedVariables false
set_option linter.unusedSectionVars false
namespace Go.Ai
section
variable (glob:Nat→Option (List AV)) (call:AV→List AV→St→Ctx→CO) (cx:Ctx)
def KR (e:EV) (dst:Option Nat) (env:Env) (s:St):Out:=
 match dst with
 | none=>.norm env s
 | some d=>if e.refers d=false∧gQ env d=false then .norm ((d,e)::env) s else .fail
def He (ok:Bool) (o:RO) (dst:Option Nat) (env:Env) (s:St):Out:=
 match ok,o with
 | true,.ok e _ s1=>if s1.length=s.length∧e.owns=false then KR e dst env s else .fail
 | _,_=>.fail
def qT (dst:Option Nat) (op:AOp) (env:Env) (s:St):Out:=He (okQ glob env op) (aop glob call ⟨s.length,s.length⟩ env s op) dst env s
def qN (dst:Option Nat) (env:Env) (s:St):Out:=KR (.v (.tu [])) dst env s
def gdQ (x:Option EV) (w:Bool) (dst:Option Nat) (op:AOp) (env:Env) (s:St):Out:=
 match x with
 | some (.v (.b x))=>if x=true then (match w with|true=>qT glob call dst op env s|false=>qN dst env s) else (match w with|true=>qN dst env s|false=>qT glob call dst op env s)
 | some (.v (.tu []))=>qN dst env s
 | _=>.fail
end
section
variable {glob:Nat→Option (List AV)} {call:AV→List AV→St→Ctx→CO} {cx:Ctx}
@[simp] theorem WL {e:EV} {env:Env} {s:St}:KR e none env s=.norm env s:=rfl
@[simp] theorem WJ {e:EV} {d:Nat} {env:Env} {s:St}:KR e (some d) env s=if e.refers d=false∧gQ env d=false then .norm ((d,e)::env) s else .fail:=rfl
@[simp] theorem Zm {e:EV} {env' env:Env} {s1 s:St} {dst:Option Nat}:He true (.ok e env' s1) dst env s=if s1.length=s.length∧e.owns=false then KR e dst env s else .fail:=rfl
@[simp] theorem WI {ok:Bool} {env:Env} {s:St} {dst:Option Nat}:He ok .fail dst env s=.fail:=by cases ok<;>rfl
theorem sW {dst:Option Nat} {op:AOp} {env:Env} {s:St}:qT glob call dst op env s=He (okQ glob env op) (aop glob call ⟨s.length,s.length⟩ env s op) dst env s:=rfl
theorem sZ {dst:Option Nat} {env:Env} {s:St}:qN dst env s=KR (.v (.tu [])) dst env s:=rfl
@[simp] theorem Z4 {x:Bool} {dst:Option Nat} {op:AOp} {env:Env} {s:St}:
  gdQ glob call (some (.v (.b x))) true dst op env s=if x=true then qT glob call dst op env s else qN dst env s:=rfl
@[simp] theorem Z5 {x:Bool} {dst:Option Nat} {op:AOp} {env:Env} {s:St}:
  gdQ glob call (some (.v (.b x))) false dst op env s=if x=true then qN dst env s else qT glob call dst op env s:=rfl
@[simp high] theorem ZX {dst:Option Nat} {op:AOp} {env:Env} {s:St}:gdQ glob call (some (.v (.b true))) true dst op env s=He (okQ glob env op) (aop glob call ⟨s.length,s.length⟩ env s op) dst env s:=rfl
@[simp high] theorem aac {dst:Option Nat} {op:AOp} {env:Env} {s:St}:gdQ glob call (some (.v (.b false))) false dst op env s=He (okQ glob env op) (aop glob call ⟨s.length,s.length⟩ env s op) dst env s:=rfl
@[simp high] theorem ZY {dst:Option Nat} {op:AOp} {env:Env} {s:St}:gdQ glob call (some (.v (.b true))) false dst op env s=KR (.v (.tu [])) dst env s:=rfl
@[simp high] theorem Z9 {dst:Option Nat} {op:AOp} {env:Env} {s:St}:gdQ glob call (some (.v (.b false))) true dst op env s=KR (.v (.tu [])) dst env s:=rfl
@[simp] theorem ZW {w:Bool} {dst:Option Nat} {op:AOp} {env:Env} {s:St}:gdQ glob call (some (.v (.tu []))) w dst op env s=KR (.v (.tu [])) dst env s:=rfl
@[simp high] theorem Z7 {x:Bool} {dst:Option Nat} {op:AOp} {env:Env} {s:St}:
  gdQ glob call (some (.v (.b (!x)))) true dst op env s=gdQ glob call (some (.v (.b x))) false dst op env s:=by cases x<;>rfl
@[simp high] theorem Z8 {x:Bool} {dst:Option Nat} {op:AOp} {env:Env} {s:St}:
  gdQ glob call (some (.v (.b (!x)))) false dst op env s=gdQ glob call (some (.v (.b x))) true dst op env s:=by cases x<;>rfl
@[simp] theorem Ue {dst:Option Nat} {op:AOp} {env:Env} {s:St}:
  dR glob call cx ⟨dst,none,op⟩ env s=if op.quiet.isSome=true then He (okQ glob env op) (aop glob call ⟨s.length,s.length⟩ env s op) dst env s else (aop glob call cx env s op).fin dst:=by
 simp only [dR]
 split
 ·unfold qK lX
  simp only [bD]
  cases hq:okQ glob env op
  ·simp [He]
  ·simp only [if_true]
   cases ha:aop glob call ⟨s.length,s.length⟩ env s op with
   | ok e env' s1=>
    simp only [He]
    by_cases hc:s1.length=s.length∧e.owns=false
    ·rw [if_pos hc,if_pos hc];cases dst<;>rfl
    ·rw [if_neg hc,if_neg hc]
   | _=>rfl
 ·exact NT
@[simp] theorem Ud {dst:Option Nat} {op:AOp} {k:Nat} {w:Bool} {env:Env} {s:St}:
  dR glob call cx ⟨dst,some (k,w),op⟩ env s=if op.quiet.isSome=true then gdQ glob call (lk env k) w dst op env s else gdD glob call cx (lk env k) w dst op env s:=by
 simp only [dR]
 split
 ·have hT:∀(h:bD env (some (k,w))=some true),qK glob call ⟨dst,some (k,w),op⟩ env s=qT glob call dst op env s:=by
   intro h
   unfold qK lX
   simp only [h]
   unfold qT
   cases hq:okQ glob env op
   ·simp [He]
   ·simp only [if_true]
    cases ha:aop glob call ⟨s.length,s.length⟩ env s op with
    | ok e env' s1=>
     simp only [He]
     by_cases hc:s1.length=s.length∧e.owns=false
     ·rw [if_pos hc,if_pos hc];cases dst<;>rfl
     ·rw [if_neg hc,if_neg hc]
    | _=>rfl
  have hF:∀(h:bD env (some (k,w))=some false),qK glob call ⟨dst,some (k,w),op⟩ env s=qN dst env s:=by
   intro h
   unfold qK lX
   simp only [h]
   unfold qN
   cases dst<;>rfl
  have hN:∀(h:bD env (some (k,w))=none),qK glob call ⟨dst,some (k,w),op⟩ env s=.fail:=by
   intro h
   unfold qK lX
   simp only [h]
  cases h:lk env k with
  | none=>exact hN (by simp [bD,h])
  | some e=>
   cases e with
   | v a=>
    cases a with
    | b x=>
     cases x<;>cases w<;>first|exact hT (by simp [bD,h])|exact hF (by simp [bD,h])
    | tu cs=>
     cases cs with
     | nil=>exact hF (by simp [bD,h])
     | cons a r=>exact hN (by simp [bD,h])
    | _=>exact hN (by simp [bD,h])
   | _=>exact hN (by simp [bD,h])
 ·exact NS
@[simp] theorem Zg {aops:List aj} {env:Env} {s:St}:dW glob call cx aops [] env s=.norm env s:=rfl
@[simp] theorem X0 {aops:List aj} {i:Nat} {r:List Nat} {env:Env} {s:St}:dW glob call cx aops (i::r) env s=match aops[i]? with
  | none=>.fail
  | some o=>(dR glob call cx o env s).thn (dW glob call cx aops r):=by
 simp only [dW]
 cases aops[i]? with
 | none=>rfl
 | some o=>simp only [];cases dR glob call cx o env s<;>rfl
attribute [simp] okQ kK Aj AOp.quiet gQ uF oxs
end
end Go.Ai
