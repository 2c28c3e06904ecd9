/-
 Rules for regions whose order is open.
-/
import Derived.Test.YtcofenimejmoeaaGreatDoorAiDat
set_option maxRecDepth 100000
set_option linter.unusedSimpArgs false
set_option linter.unusedVariables false
set_option linter.unusedSectionVars false
namespace Go.Ai
section
variable (glob:Nat→Option (List AV)) (call:AV→List AV→St→Ctx→CO) (cx:Ctx)
def Ug (e:EV) (dst:Option Nat) (env:Env) (s:St):Out:=
 match dst with
 | none=>.norm env s
 | some d=>if e.refers d=false∧jR env d=false then .norm ((d,e)::env) s else .fail
def OC (ok:Bool) (o:RO) (dst:Option Nat) (env:Env) (s:St):Out:=
 match ok,o with
 | true,.ok e _ s1=>if s1.length=s.length∧e.owns=false then Ug e dst env s else .fail
 | _,_=>.fail
def qT (dst:Option Nat) (op:AOp) (env:Env) (s:St):Out:=OC (okQ glob env op) (aop glob call ⟨s.length,s.length⟩ env s op) dst env s
def qN (dst:Option Nat) (env:Env) (s:St):Out:=Ug (.v (.tu [])) dst env s
def gdQ (x:Option EV) (w:Bool) (dst:Option Nat) (op:AOp) (env:Env) (s:St):Out:=
 match x with
 | some (.v (.b x))=>if x=true then (match w with|true=>qT glob call dst op env s|false=>qN dst env s) else (match w with|true=>qN dst env s|false=>qT glob call dst op env s)
 | some (.v (.tu []))=>qN dst env s
 | _=>.fail
end
section
variable {glob:Nat→Option (List AV)} {call:AV→List AV→St→Ctx→CO} {cx:Ctx}
@[simp] theorem aeh {e:EV} {env:Env} {s:St}:Ug e none env s=.norm env s:=rfl
@[simp] theorem aeg {e:EV} {d:Nat} {env:Env} {s:St}:Ug e (some d) env s=if e.refers d=false∧jR env d=false then .norm ((d,e)::env) s else .fail:=rfl
@[simp] theorem agW {e:EV} {env' env:Env} {s1 s:St} {dst:Option Nat}:OC true (.ok e env' s1) dst env s=if s1.length=s.length∧e.owns=false then Ug e dst env s else .fail:=rfl
@[simp] theorem aef {ok:Bool} {env:Env} {s:St} {dst:Option Nat}:OC ok .fail dst env s=.fail:=by cases ok<;>rfl
theorem aI {dst:Option Nat} {op:AOp} {env:Env} {s:St}:qT glob call dst op env s=OC (okQ glob env op) (aop glob call ⟨s.length,s.length⟩ env s op) dst env s:=rfl
theorem aJ {dst:Option Nat} {env:Env} {s:St}:qN dst env s=Ug (.v (.tu [])) dst env s:=rfl
@[simp] theorem ahx {x:Bool} {dst:Option Nat} {op:AOp} {env:Env} {s:St}:
  gdQ glob call (some (.v (.b x))) true dst op env s=if x=true then qT glob call dst op env s else qN dst env s:=rfl
@[simp] theorem ahy {x:Bool} {dst:Option Nat} {op:AOp} {env:Env} {s:St}:
  gdQ glob call (some (.v (.b x))) false dst op env s=if x=true then qN dst env s else qT glob call dst op env s:=rfl
@[simp high] theorem ahv {dst:Option Nat} {op:AOp} {env:Env} {s:St}:gdQ glob call (some (.v (.b true))) true dst op env s=OC (okQ glob env op) (aop glob call ⟨s.length,s.length⟩ env s op) dst env s:=rfl
@[simp high] theorem ahC {dst:Option Nat} {op:AOp} {env:Env} {s:St}:gdQ glob call (some (.v (.b false))) false dst op env s=OC (okQ glob env op) (aop glob call ⟨s.length,s.length⟩ env s op) dst env s:=rfl
@[simp high] theorem ahw {dst:Option Nat} {op:AOp} {env:Env} {s:St}:gdQ glob call (some (.v (.b true))) false dst op env s=Ug (.v (.tu [])) dst env s:=rfl
@[simp high] theorem ahB {dst:Option Nat} {op:AOp} {env:Env} {s:St}:gdQ glob call (some (.v (.b false))) true dst op env s=Ug (.v (.tu [])) dst env s:=rfl
@[simp] theorem ahu {w:Bool} {dst:Option Nat} {op:AOp} {env:Env} {s:St}:gdQ glob call (some (.v (.tu []))) w dst op env s=Ug (.v (.tu [])) dst env s:=rfl
@[simp high] theorem ahz {x:Bool} {dst:Option Nat} {op:AOp} {env:Env} {s:St}:
  gdQ glob call (some (.v (.b (!x)))) true dst op env s=gdQ glob call (some (.v (.b x))) false dst op env s:=by cases x<;>rfl
@[simp high] theorem ahA {x:Bool} {dst:Option Nat} {op:AOp} {env:Env} {s:St}:
  gdQ glob call (some (.v (.b (!x)))) false dst op env s=gdQ glob call (some (.v (.b x))) true dst op env s:=by cases x<;>rfl
@[simp] theorem abm {dst:Option Nat} {op:AOp} {env:Env} {s:St}:
  fE glob call cx ⟨dst,none,op⟩ env s=if op.quiet.isSome=true then OC (okQ glob env op) (aop glob call ⟨s.length,s.length⟩ env s op) dst env s else (aop glob call cx env s op).fin dst:=by
 simp only [fE]
 split
 ·unfold yM qL
  simp only [bY]
  cases hq:okQ glob env op
  ·simp [OC]
  ·simp only [if_true]
   cases ha:aop glob call ⟨s.length,s.length⟩ env s op with
   | ok e env' s1=>
    simp only [OC]
    by_cases hc:s1.length=s.length∧e.owns=false
    ·rw [if_pos hc,if_pos hc];cases dst<;>rfl
    ·rw [if_neg hc,if_neg hc]
   | _=>rfl
 ·exact WU
@[simp] theorem abl {dst:Option Nat} {op:AOp} {k:Nat} {w:Bool} {env:Env} {s:St}:
  fE glob call cx ⟨dst,some (k,w),op⟩ env s=if op.quiet.isSome=true then gdQ glob call (lk env k) w dst op env s else gdD glob call cx (lk env k) w dst op env s:=by
 simp only [fE]
 split
 ·have hT:∀(h:bY env (some (k,w))=some true),yM glob call ⟨dst,some (k,w),op⟩ env s=qT glob call dst op env s:=by
   intro h
   unfold yM qL
   simp only [h]
   unfold qT
   cases hq:okQ glob env op
   ·simp [OC]
   ·simp only [if_true]
    cases ha:aop glob call ⟨s.length,s.length⟩ env s op with
    | ok e env' s1=>
     simp only [OC]
     by_cases hc:s1.length=s.length∧e.owns=false
     ·rw [if_pos hc,if_pos hc];cases dst<;>rfl
     ·rw [if_neg hc,if_neg hc]
    | _=>rfl
  have hF:∀(h:bY env (some (k,w))=some false),yM glob call ⟨dst,some (k,w),op⟩ env s=qN dst env s:=by
   intro h
   unfold yM qL
   simp only [h]
   unfold qN
   cases dst<;>rfl
  have hN:∀(h:bY env (some (k,w))=none),yM glob call ⟨dst,some (k,w),op⟩ env s=.fail:=by
   intro h
   unfold yM qL
   simp only [h]
  cases h:lk env k with
  | none=>exact hN (by simp [bY,h])
  | some e=>
   cases e with
   | v a=>
    cases a with
    | b x=>
     cases x<;>cases w<;>first|exact hT (by simp [bY,h])|exact hF (by simp [bY,h])
    | tu cs=>
     cases cs with
     | nil=>exact hF (by simp [bY,h])
     | cons a r=>exact hN (by simp [bY,h])
    | _=>exact hN (by simp [bY,h])
   | _=>exact hN (by simp [bY,h])
 ·exact WT
@[simp] theorem agQ {aops:List aC} {env:Env} {s:St}:gY glob call cx aops [] env s=.norm env s:=rfl
@[simp] theorem afs {aops:List aC} {i:Nat} {r:List Nat} {env:Env} {s:St}:gY glob call cx aops (i::r) env s=match aops[i]? with
  | none=>.fail
  | some o=>(fE glob call cx o env s).thn (gY glob call cx aops r):=by
 simp only [gY]
 cases aops[i]? with
 | none=>rfl
 | some o=>simp only [];cases fE glob call cx o env s<;>rfl
attribute [simp] okQ oZ G8 AOp.quiet jR BB oxs
end
end Go.Ai
