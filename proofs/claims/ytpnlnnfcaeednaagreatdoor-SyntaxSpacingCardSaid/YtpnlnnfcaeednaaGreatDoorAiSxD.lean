/-
 Rules for regions whose order is open.
-/
import Derived.Test.YtpnlnnfcaeednaaGreatDoorAiDat
set_option maxRecDepth 100000
set_option linter.unusedSimpArgs false
set_option linter.unusedVariables false
set_option linter.unusedSectionVars false
namespace Go.Ai
section
variable (glob:Nat→Option (List AV)) (call:AV→List AV→St→Ctx→CO) (cx:Ctx)
def Vf (e:EV) (dst:Option Nat) (env:Env) (s:St):Out:=
 match dst with
 | none=>.norm env s
 | some d=>if e.refers d=false∧oZ env d=false then .norm ((d,e)::env) s else .fail
def Qu (ok:Bool) (o:RO) (dst:Option Nat) (env:Env) (s:St):Out:=
 match ok,o with
 | true,.ok e _ s1=>if s1.length=s.length∧e.owns=false then Vf e dst env s else .fail
 | _,_=>.fail
def qT (dst:Option Nat) (op:AOp) (env:Env) (s:St):Out:=Qu (okQ glob env op) (aop glob call ⟨s.length,s.length⟩ env s op) dst env s
def qN (dst:Option Nat) (env:Env) (s:St):Out:=Vf (.v (.tu [])) dst env s
def gdQ (x:Option EV) (w:Bool) (dst:Option Nat) (op:AOp) (env:Env) (s:St):Out:=
 match x with
 | some (.v (.b x))=>if x=true then (match w with|true=>qT glob call dst op env s|false=>qN dst env s) else (match w with|true=>qN dst env s|false=>qT glob call dst op env s)
 | some (.v (.tu []))=>qN dst env s
 | _=>.fail
end
section
variable {glob:Nat→Option (List AV)} {call:AV→List AV→St→Ctx→CO} {cx:Ctx}
@[simp] theorem ag6 {e:EV} {env:Env} {s:St}:Vf e none env s=.norm env s:=rfl
@[simp] theorem ag5 {e:EV} {d:Nat} {env:Env} {s:St}:Vf e (some d) env s=if e.refers d=false∧oZ env d=false then .norm ((d,e)::env) s else .fail:=rfl
@[simp] theorem ajC {e:EV} {env' env:Env} {s1 s:St} {dst:Option Nat}:Qu true (.ok e env' s1) dst env s=if s1.length=s.length∧e.owns=false then Vf e dst env s else .fail:=rfl
@[simp] theorem ag4 {ok:Bool} {env:Env} {s:St} {dst:Option Nat}:Qu ok .fail dst env s=.fail:=by cases ok<;>rfl
theorem pR {dst:Option Nat} {op:AOp} {env:Env} {s:St}:qT glob call dst op env s=Qu (okQ glob env op) (aop glob call ⟨s.length,s.length⟩ env s op) dst env s:=rfl
theorem pU {dst:Option Nat} {env:Env} {s:St}:qN dst env s=Vf (.v (.tu [])) dst env s:=rfl
@[simp] theorem akn {x:Bool} {dst:Option Nat} {op:AOp} {env:Env} {s:St}:
  gdQ glob call (some (.v (.b x))) true dst op env s=if x=true then qT glob call dst op env s else qN dst env s:=rfl
@[simp] theorem ako {x:Bool} {dst:Option Nat} {op:AOp} {env:Env} {s:St}:
  gdQ glob call (some (.v (.b x))) false dst op env s=if x=true then qN dst env s else qT glob call dst op env s:=rfl
@[simp high] theorem akl {dst:Option Nat} {op:AOp} {env:Env} {s:St}:gdQ glob call (some (.v (.b true))) true dst op env s=Qu (okQ glob env op) (aop glob call ⟨s.length,s.length⟩ env s op) dst env s:=rfl
@[simp high] theorem aks {dst:Option Nat} {op:AOp} {env:Env} {s:St}:gdQ glob call (some (.v (.b false))) false dst op env s=Qu (okQ glob env op) (aop glob call ⟨s.length,s.length⟩ env s op) dst env s:=rfl
@[simp high] theorem akm {dst:Option Nat} {op:AOp} {env:Env} {s:St}:gdQ glob call (some (.v (.b true))) false dst op env s=Vf (.v (.tu [])) dst env s:=rfl
@[simp high] theorem akr {dst:Option Nat} {op:AOp} {env:Env} {s:St}:gdQ glob call (some (.v (.b false))) true dst op env s=Vf (.v (.tu [])) dst env s:=rfl
@[simp] theorem akk {w:Bool} {dst:Option Nat} {op:AOp} {env:Env} {s:St}:gdQ glob call (some (.v (.tu []))) w dst op env s=Vf (.v (.tu [])) dst env s:=rfl
@[simp high] theorem akp {x:Bool} {dst:Option Nat} {op:AOp} {env:Env} {s:St}:
  gdQ glob call (some (.v (.b (!x)))) true dst op env s=gdQ glob call (some (.v (.b x))) false dst op env s:=by cases x<;>rfl
@[simp high] theorem akq {x:Bool} {dst:Option Nat} {op:AOp} {env:Env} {s:St}:
  gdQ glob call (some (.v (.b (!x)))) false dst op env s=gdQ glob call (some (.v (.b x))) true dst op env s:=by cases x<;>rfl
@[simp] theorem ad9 {dst:Option Nat} {op:AOp} {env:Env} {s:St}:
  kV glob call cx ⟨dst,none,op⟩ env s=if op.quiet.isSome=true then Qu (okQ glob env op) (aop glob call ⟨s.length,s.length⟩ env s op) dst env s else (aop glob call cx env s op).fin dst:=by
 simp only [kV]
 split
 ·unfold zB xE
  simp only [fF]
  cases hq:okQ glob env op
  ·simp [Qu]
  ·simp only [if_true]
   cases ha:aop glob call ⟨s.length,s.length⟩ env s op with
   | ok e env' s1=>
    simp only [Qu]
    by_cases hc:s1.length=s.length∧e.owns=false
    ·rw [if_pos hc,if_pos hc];cases dst<;>rfl
    ·rw [if_neg hc,if_neg hc]
   | _=>rfl
 ·exact YD
@[simp] theorem ad8 {dst:Option Nat} {op:AOp} {k:Nat} {w:Bool} {env:Env} {s:St}:
  kV glob call cx ⟨dst,some (k,w),op⟩ env s=if op.quiet.isSome=true then gdQ glob call (lk env k) w dst op env s else gdD glob call cx (lk env k) w dst op env s:=by
 simp only [kV]
 split
 ·have hT:∀(h:fF env (some (k,w))=some true),zB glob call ⟨dst,some (k,w),op⟩ env s=qT glob call dst op env s:=by
   intro h
   unfold zB xE
   simp only [h]
   unfold qT
   cases hq:okQ glob env op
   ·simp [Qu]
   ·simp only [if_true]
    cases ha:aop glob call ⟨s.length,s.length⟩ env s op with
    | ok e env' s1=>
     simp only [Qu]
     by_cases hc:s1.length=s.length∧e.owns=false
     ·rw [if_pos hc,if_pos hc];cases dst<;>rfl
     ·rw [if_neg hc,if_neg hc]
    | _=>rfl
  have hF:∀(h:fF env (some (k,w))=some false),zB glob call ⟨dst,some (k,w),op⟩ env s=qN dst env s:=by
   intro h
   unfold zB xE
   simp only [h]
   unfold qN
   cases dst<;>rfl
  have hN:∀(h:fF env (some (k,w))=none),zB glob call ⟨dst,some (k,w),op⟩ env s=.fail:=by
   intro h
   unfold zB xE
   simp only [h]
  cases h:lk env k with
  | none=>exact hN (by simp [fF,h])
  | some e=>
   cases e with
   | v a=>
    cases a with
    | b x=>
     cases x<;>cases w<;>first|exact hT (by simp [fF,h])|exact hF (by simp [fF,h])
    | tu cs=>
     cases cs with
     | nil=>exact hF (by simp [fF,h])
     | cons a r=>exact hN (by simp [fF,h])
    | _=>exact hN (by simp [fF,h])
   | _=>exact hN (by simp [fF,h])
 ·exact YC
@[simp] theorem ajx {aops:List aX} {env:Env} {s:St}:kT glob call cx aops [] env s=.norm env s:=rfl
@[simp] theorem aia {aops:List aX} {i:Nat} {r:List Nat} {env:Env} {s:St}:kT glob call cx aops (i::r) env s=match aops[i]? with
  | none=>.fail
  | some o=>(kV glob call cx o env s).thn (kT glob call cx aops r):=by
 simp only [kT]
 cases aops[i]? with
 | none=>rfl
 | some o=>simp only [];cases kV glob call cx o env s<;>rfl
attribute [simp] okQ CS Ir AOp.quiet oZ Lh oxs
end
end Go.Ai
