/-
 Rules for regions whose order is open.
-/
import Derived.Test.YtpnlnnfcaeednaaGreatDoorAiDat
set_option maxRecDepth 100000
set_option linter.unusedSimpArgs false
set_option linter.unusedVariables false
set_option linter.unusedSectionVars false
namespace Go.Ai
section
variable (glob:Nat→Option (List AV)) (call:AV→List AV→St→Ctx→CO) (cx:Ctx)
def U4 (e:EV) (dst:Option Nat) (env:Env) (s:St):Out:=
 match dst with
 | none=>.norm env s
 | some d=>if e.refers d=false∧oQ env d=false then .norm ((d,e)::env) s else .fail
def Ql (ok:Bool) (o:RO) (dst:Option Nat) (env:Env) (s:St):Out:=
 match ok,o with
 | true,.ok e _ s1=>if s1.length=s.length∧e.owns=false then U4 e dst env s else .fail
 | _,_=>.fail
def qT (dst:Option Nat) (op:AOp) (env:Env) (s:St):Out:=Ql (okQ glob env op) (aop glob call ⟨s.length,s.length⟩ env s op) dst env s
def qN (dst:Option Nat) (env:Env) (s:St):Out:=U4 (.v (.tu [])) dst env s
def gdQ (x:Option EV) (w:Bool) (dst:Option Nat) (op:AOp) (env:Env) (s:St):Out:=
 match x with
 | some (.v (.b x))=>if x=true then (match w with|true=>qT glob call dst op env s|false=>qN dst env s) else (match w with|true=>qN dst env s|false=>qT glob call dst op env s)
 | some (.v (.tu []))=>qN dst env s
 | _=>.fail
end
section
variable {glob:Nat→Option (List AV)} {call:AV→List AV→St→Ctx→CO} {cx:Ctx}
@[simp] theorem agQ {e:EV} {env:Env} {s:St}:U4 e none env s=.norm env s:=rfl
@[simp] theorem agP {e:EV} {d:Nat} {env:Env} {s:St}:U4 e (some d) env s=if e.refers d=false∧oQ env d=false then .norm ((d,e)::env) s else .fail:=rfl
@[simp] theorem ajm {e:EV} {env' env:Env} {s1 s:St} {dst:Option Nat}:Ql true (.ok e env' s1) dst env s=if s1.length=s.length∧e.owns=false then U4 e dst env s else .fail:=rfl
@[simp] theorem agO {ok:Bool} {env:Env} {s:St} {dst:Option Nat}:Ql ok .fail dst env s=.fail:=by cases ok<;>rfl
theorem pO {dst:Option Nat} {op:AOp} {env:Env} {s:St}:qT glob call dst op env s=Ql (okQ glob env op) (aop glob call ⟨s.length,s.length⟩ env s op) dst env s:=rfl
theorem pR {dst:Option Nat} {env:Env} {s:St}:qN dst env s=U4 (.v (.tu [])) dst env s:=rfl
@[simp] theorem aj6 {x:Bool} {dst:Option Nat} {op:AOp} {env:Env} {s:St}:
  gdQ glob call (some (.v (.b x))) true dst op env s=if x=true then qT glob call dst op env s else qN dst env s:=rfl
@[simp] theorem aj7 {x:Bool} {dst:Option Nat} {op:AOp} {env:Env} {s:St}:
  gdQ glob call (some (.v (.b x))) false dst op env s=if x=true then qN dst env s else qT glob call dst op env s:=rfl
@[simp high] theorem aj2 {dst:Option Nat} {op:AOp} {env:Env} {s:St}:gdQ glob call (some (.v (.b true))) true dst op env s=Ql (okQ glob env op) (aop glob call ⟨s.length,s.length⟩ env s op) dst env s:=rfl
@[simp high] theorem akc {dst:Option Nat} {op:AOp} {env:Env} {s:St}:gdQ glob call (some (.v (.b false))) false dst op env s=Ql (okQ glob env op) (aop glob call ⟨s.length,s.length⟩ env s op) dst env s:=rfl
@[simp high] theorem aj3 {dst:Option Nat} {op:AOp} {env:Env} {s:St}:gdQ glob call (some (.v (.b true))) false dst op env s=U4 (.v (.tu [])) dst env s:=rfl
@[simp high] theorem akb {dst:Option Nat} {op:AOp} {env:Env} {s:St}:gdQ glob call (some (.v (.b false))) true dst op env s=U4 (.v (.tu [])) dst env s:=rfl
@[simp] theorem aj1 {w:Bool} {dst:Option Nat} {op:AOp} {env:Env} {s:St}:gdQ glob call (some (.v (.tu []))) w dst op env s=U4 (.v (.tu [])) dst env s:=rfl
@[simp high] theorem aj8 {x:Bool} {dst:Option Nat} {op:AOp} {env:Env} {s:St}:
  gdQ glob call (some (.v (.b (!x)))) true dst op env s=gdQ glob call (some (.v (.b x))) false dst op env s:=by cases x<;>rfl
@[simp high] theorem aj9 {x:Bool} {dst:Option Nat} {op:AOp} {env:Env} {s:St}:
  gdQ glob call (some (.v (.b (!x)))) false dst op env s=gdQ glob call (some (.v (.b x))) true dst op env s:=by cases x<;>rfl
@[simp] theorem adS {dst:Option Nat} {op:AOp} {env:Env} {s:St}:
  kW glob call cx ⟨dst,none,op⟩ env s=if op.quiet.isSome=true then Ql (okQ glob env op) (aop glob call ⟨s.length,s.length⟩ env s op) dst env s else (aop glob call cx env s op).fin dst:=by
 simp only [kW]
 split
 ·unfold zq xu
  simp only [fE]
  cases hq:okQ glob env op
  ·simp [Ql]
  ·simp only [if_true]
   cases ha:aop glob call ⟨s.length,s.length⟩ env s op with
   | ok e env' s1=>
    simp only [Ql]
    by_cases hc:s1.length=s.length∧e.owns=false
    ·rw [if_pos hc,if_pos hc];cases dst<;>rfl
    ·rw [if_neg hc,if_neg hc]
   | _=>rfl
 ·exact Yq
@[simp] theorem adR {dst:Option Nat} {op:AOp} {k:Nat} {w:Bool} {env:Env} {s:St}:
  kW glob call cx ⟨dst,some (k,w),op⟩ env s=if op.quiet.isSome=true then gdQ glob call (lk env k) w dst op env s else gdD glob call cx (lk env k) w dst op env s:=by
 simp only [kW]
 split
 ·have hT:∀(h:fE env (some (k,w))=some true),zq glob call ⟨dst,some (k,w),op⟩ env s=qT glob call dst op env s:=by
   intro h
   unfold zq xu
   simp only [h]
   unfold qT
   cases hq:okQ glob env op
   ·simp [Ql]
   ·simp only [if_true]
    cases ha:aop glob call ⟨s.length,s.length⟩ env s op with
    | ok e env' s1=>
     simp only [Ql]
     by_cases hc:s1.length=s.length∧e.owns=false
     ·rw [if_pos hc,if_pos hc];cases dst<;>rfl
     ·rw [if_neg hc,if_neg hc]
    | _=>rfl
  have hF:∀(h:fE env (some (k,w))=some false),zq glob call ⟨dst,some (k,w),op⟩ env s=qN dst env s:=by
   intro h
   unfold zq xu
   simp only [h]
   unfold qN
   cases dst<;>rfl
  have hN:∀(h:fE env (some (k,w))=none),zq glob call ⟨dst,some (k,w),op⟩ env s=.fail:=by
   intro h
   unfold zq xu
   simp only [h]
  cases h:lk env k with
  | none=>exact hN (by simp [fE,h])
  | some e=>
   cases e with
   | v a=>
    cases a with
    | b x=>
     cases x<;>cases w<;>first|exact hT (by simp [fE,h])|exact hF (by simp [fE,h])
    | tu cs=>
     cases cs with
     | nil=>exact hF (by simp [fE,h])
     | cons a r=>exact hN (by simp [fE,h])
    | _=>exact hN (by simp [fE,h])
   | _=>exact hN (by simp [fE,h])
 ·exact Yp
@[simp] theorem ajh {aops:List aW} {env:Env} {s:St}:kU glob call cx aops [] env s=.norm env s:=rfl
@[simp] theorem ahU {aops:List aW} {i:Nat} {r:List Nat} {env:Env} {s:St}:kU glob call cx aops (i::r) env s=match aops[i]? with
  | none=>.fail
  | some o=>(kW glob call cx o env s).thn (kU glob call cx aops r):=by
 simp only [kU]
 cases aops[i]? with
 | none=>rfl
 | some o=>simp only [];cases kW glob call cx o env s<;>rfl
attribute [simp] okQ CS IA AOp.quiet oQ Lm oxs
end
end Go.Ai
