/-
 Rules for regions whose order is open.
-/
import Derived.Test.YtalbhlfigmlddaaGreatDoorAiDat
set_option maxRecDepth 100000
set_option linter.unusedSimpArgs false
set_option linter.unusedVariables false
set_option linter.unusedSectionVars false
namespace Go.Ai
section
variable (glob:Nat→Option (List AV)) (call:AV→List AV→St→Ctx→CO) (cx:Ctx)
def QE (e:EV) (dst:Option Nat) (env:Env) (s:St):Out:=
 match dst with
 | none=>.norm env s
 | some d=>if e.refers d=false∧jS env d=false then .norm ((d,e)::env) s else .fail
def MH (ok:Bool) (o:RO) (dst:Option Nat) (env:Env) (s:St):Out:=
 match ok,o with
 | true,.ok e _ s1=>if s1.length=s.length∧e.owns=false then QE e dst env s else .fail
 | _,_=>.fail
def qT (dst:Option Nat) (op:AOp) (env:Env) (s:St):Out:=MH (okQ glob env op) (aop glob call ⟨s.length,s.length⟩ env s op) dst env s
def qN (dst:Option Nat) (env:Env) (s:St):Out:=QE (.v (.tu [])) dst env s
def gdQ (x:Option EV) (w:Bool) (dst:Option Nat) (op:AOp) (env:Env) (s:St):Out:=
 match x with
 | some (.v (.b x))=>if x=true then (match w with|true=>qT glob call dst op env s|false=>qN dst env s) else (match w with|true=>qN dst env s|false=>qT glob call dst op env s)
 | some (.v (.tu []))=>qN dst env s
 | _=>.fail
end
section
variable {glob:Nat→Option (List AV)} {call:AV→List AV→St→Ctx→CO} {cx:Ctx}
@[simp] theorem acX {e:EV} {env:Env} {s:St}:QE e none env s=.norm env s:=rfl
@[simp] theorem acW {e:EV} {d:Nat} {env:Env} {s:St}:QE e (some d) env s=if e.refers d=false∧jS env d=false then .norm ((d,e)::env) s else .fail:=rfl
@[simp] theorem afr {e:EV} {env' env:Env} {s1 s:St} {dst:Option Nat}:MH true (.ok e env' s1) dst env s=if s1.length=s.length∧e.owns=false then QE e dst env s else .fail:=rfl
@[simp] theorem acV {ok:Bool} {env:Env} {s:St} {dst:Option Nat}:MH ok .fail dst env s=.fail:=by cases ok<;>rfl
theorem iK {dst:Option Nat} {op:AOp} {env:Env} {s:St}:qT glob call dst op env s=MH (okQ glob env op) (aop glob call ⟨s.length,s.length⟩ env s op) dst env s:=rfl
theorem iL {dst:Option Nat} {env:Env} {s:St}:qN dst env s=QE (.v (.tu [])) dst env s:=rfl
@[simp] theorem af5 {x:Bool} {dst:Option Nat} {op:AOp} {env:Env} {s:St}:
  gdQ glob call (some (.v (.b x))) true dst op env s=if x=true then qT glob call dst op env s else qN dst env s:=rfl
@[simp] theorem af6 {x:Bool} {dst:Option Nat} {op:AOp} {env:Env} {s:St}:
  gdQ glob call (some (.v (.b x))) false dst op env s=if x=true then qN dst env s else qT glob call dst op env s:=rfl
@[simp high] theorem af2 {dst:Option Nat} {op:AOp} {env:Env} {s:St}:gdQ glob call (some (.v (.b true))) true dst op env s=MH (okQ glob env op) (aop glob call ⟨s.length,s.length⟩ env s op) dst env s:=rfl
@[simp high] theorem aga {dst:Option Nat} {op:AOp} {env:Env} {s:St}:gdQ glob call (some (.v (.b false))) false dst op env s=MH (okQ glob env op) (aop glob call ⟨s.length,s.length⟩ env s op) dst env s:=rfl
@[simp high] theorem af4 {dst:Option Nat} {op:AOp} {env:Env} {s:St}:gdQ glob call (some (.v (.b true))) false dst op env s=QE (.v (.tu [])) dst env s:=rfl
@[simp high] theorem af9 {dst:Option Nat} {op:AOp} {env:Env} {s:St}:gdQ glob call (some (.v (.b false))) true dst op env s=QE (.v (.tu [])) dst env s:=rfl
@[simp] theorem af0 {w:Bool} {dst:Option Nat} {op:AOp} {env:Env} {s:St}:gdQ glob call (some (.v (.tu []))) w dst op env s=QE (.v (.tu [])) dst env s:=rfl
@[simp high] theorem af7 {x:Bool} {dst:Option Nat} {op:AOp} {env:Env} {s:St}:
  gdQ glob call (some (.v (.b (!x)))) true dst op env s=gdQ glob call (some (.v (.b x))) false dst op env s:=by cases x<;>rfl
@[simp high] theorem af8 {x:Bool} {dst:Option Nat} {op:AOp} {env:Env} {s:St}:
  gdQ glob call (some (.v (.b (!x)))) false dst op env s=gdQ glob call (some (.v (.b x))) true dst op env s:=by cases x<;>rfl
@[simp] theorem ZV {dst:Option Nat} {op:AOp} {env:Env} {s:St}:
  gB glob call cx ⟨dst,none,op⟩ env s=if op.quiet.isSome=true then MH (okQ glob env op) (aop glob call ⟨s.length,s.length⟩ env s op) dst env s else (aop glob call cx env s op).fin dst:=by
 simp only [gB]
 split
 ·unfold wQ rG
  simp only [bU]
  cases hq:okQ glob env op
  ·simp [MH]
  ·simp only [if_true]
   cases ha:aop glob call ⟨s.length,s.length⟩ env s op with
   | ok e env' s1=>
    simp only [MH]
    by_cases hc:s1.length=s.length∧e.owns=false
    ·rw [if_pos hc,if_pos hc];cases dst<;>rfl
    ·rw [if_neg hc,if_neg hc]
   | _=>rfl
 ·exact Us
@[simp] theorem ZU {dst:Option Nat} {op:AOp} {k:Nat} {w:Bool} {env:Env} {s:St}:
  gB glob call cx ⟨dst,some (k,w),op⟩ env s=if op.quiet.isSome=true then gdQ glob call (lk env k) w dst op env s else gdD glob call cx (lk env k) w dst op env s:=by
 simp only [gB]
 split
 ·have hT:∀(h:bU env (some (k,w))=some true),wQ glob call ⟨dst,some (k,w),op⟩ env s=qT glob call dst op env s:=by
   intro h
   unfold wQ rG
   simp only [h]
   unfold qT
   cases hq:okQ glob env op
   ·simp [MH]
   ·simp only [if_true]
    cases ha:aop glob call ⟨s.length,s.length⟩ env s op with
    | ok e env' s1=>
     simp only [MH]
     by_cases hc:s1.length=s.length∧e.owns=false
     ·rw [if_pos hc,if_pos hc];cases dst<;>rfl
     ·rw [if_neg hc,if_neg hc]
    | _=>rfl
  have hF:∀(h:bU env (some (k,w))=some false),wQ glob call ⟨dst,some (k,w),op⟩ env s=qN dst env s:=by
   intro h
   unfold wQ rG
   simp only [h]
   unfold qN
   cases dst<;>rfl
  have hN:∀(h:bU env (some (k,w))=none),wQ glob call ⟨dst,some (k,w),op⟩ env s=.fail:=by
   intro h
   unfold wQ rG
   simp only [h]
  cases h:lk env k with
  | none=>exact hN (by simp [bU,h])
  | some e=>
   cases e with
   | v a=>
    cases a with
    | b x=>
     cases x<;>cases w<;>first|exact hT (by simp [bU,h])|exact hF (by simp [bU,h])
    | tu cs=>
     cases cs with
     | nil=>exact hF (by simp [bU,h])
     | cons a r=>exact hN (by simp [bU,h])
    | _=>exact hN (by simp [bU,h])
   | _=>exact hN (by simp [bU,h])
 ·exact Ur
@[simp] theorem afm {aops:List aB} {env:Env} {s:St}:gV glob call cx aops [] env s=.norm env s:=rfl
@[simp] theorem ad7 {aops:List aB} {i:Nat} {r:List Nat} {env:Env} {s:St}:gV glob call cx aops (i::r) env s=match aops[i]? with
  | none=>.fail
  | some o=>(gB glob call cx o env s).thn (gV glob call cx aops r):=by
 simp only [gV]
 cases aops[i]? with
 | none=>rfl
 | some o=>simp only [];cases gB glob call cx o env s<;>rfl
attribute [simp] okQ pW Eg AOp.quiet jS yT oxs
end
end Go.Ai
