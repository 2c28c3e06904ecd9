/-
 Rules for regions whose order is open.
-/
import Derived.Test.YtpihciomhfoafaaGreatDoorAiDat
set_option maxRecDepth 100000
set_option linter.unusedSimpArgs false
set_option linter.unusedVariables false
set_option linter.unusedSectionVars false
namespace Go.Ai
section
variable (glob:Nat→Option (List AV)) (call:AV→List AV→St→Ctx→CO) (cx:Ctx)
def Rl (e:EV) (dst:Option Nat) (env:Env) (s:St):Out:=
 match dst with
 | none=>.norm env s
 | some d=>if e.refers d=false∧iC env d=false then .norm ((d,e)::env) s else .fail
def Og (ok:Bool) (o:RO) (dst:Option Nat) (env:Env) (s:St):Out:=
 match ok,o with
 | true,.ok e _ s1=>if s1.length=s.length∧e.owns=false then Rl e dst env s else .fail
 | _,_=>.fail
def qT (dst:Option Nat) (op:AOp) (env:Env) (s:St):Out:=Og (okQ glob env op) (aop glob call ⟨s.length,s.length⟩ env s op) dst env s
def qN (dst:Option Nat) (env:Env) (s:St):Out:=Rl (.v (.tu [])) dst env s
def gdQ (x:Option EV) (w:Bool) (dst:Option Nat) (op:AOp) (env:Env) (s:St):Out:=
 match x with
 | some (.v (.b x))=>if x=true then (match w with|true=>qT glob call dst op env s|false=>qN dst env s) else (match w with|true=>qN dst env s|false=>qT glob call dst op env s)
 | some (.v (.tu []))=>qN dst env s
 | _=>.fail
end
section
variable {glob:Nat→Option (List AV)} {call:AV→List AV→St→Ctx→CO} {cx:Ctx}
@[simp] theorem ZO {e:EV} {env:Env} {s:St}:Rl e none env s=.norm env s:=rfl
@[simp] theorem ZN {e:EV} {d:Nat} {env:Env} {s:St}:Rl e (some d) env s=if e.refers d=false∧iC env d=false then .norm ((d,e)::env) s else .fail:=rfl
@[simp] theorem acK {e:EV} {env' env:Env} {s1 s:St} {dst:Option Nat}:Og true (.ok e env' s1) dst env s=if s1.length=s.length∧e.owns=false then Rl e dst env s else .fail:=rfl
@[simp] theorem ZM {ok:Bool} {env:Env} {s:St} {dst:Option Nat}:Og ok .fail dst env s=.fail:=by cases ok<;>rfl
theorem qP {dst:Option Nat} {op:AOp} {env:Env} {s:St}:qT glob call dst op env s=Og (okQ glob env op) (aop glob call ⟨s.length,s.length⟩ env s op) dst env s:=rfl
theorem qQ {dst:Option Nat} {env:Env} {s:St}:qN dst env s=Rl (.v (.tu [])) dst env s:=rfl
@[simp] theorem adq {x:Bool} {dst:Option Nat} {op:AOp} {env:Env} {s:St}:
  gdQ glob call (some (.v (.b x))) true dst op env s=if x=true then qT glob call dst op env s else qN dst env s:=rfl
@[simp] theorem adr {x:Bool} {dst:Option Nat} {op:AOp} {env:Env} {s:St}:
  gdQ glob call (some (.v (.b x))) false dst op env s=if x=true then qN dst env s else qT glob call dst op env s:=rfl
@[simp high] theorem ado {dst:Option Nat} {op:AOp} {env:Env} {s:St}:gdQ glob call (some (.v (.b true))) true dst op env s=Og (okQ glob env op) (aop glob call ⟨s.length,s.length⟩ env s op) dst env s:=rfl
@[simp high] theorem adv {dst:Option Nat} {op:AOp} {env:Env} {s:St}:gdQ glob call (some (.v (.b false))) false dst op env s=Og (okQ glob env op) (aop glob call ⟨s.length,s.length⟩ env s op) dst env s:=rfl
@[simp high] theorem adp {dst:Option Nat} {op:AOp} {env:Env} {s:St}:gdQ glob call (some (.v (.b true))) false dst op env s=Rl (.v (.tu [])) dst env s:=rfl
@[simp high] theorem adu {dst:Option Nat} {op:AOp} {env:Env} {s:St}:gdQ glob call (some (.v (.b false))) true dst op env s=Rl (.v (.tu [])) dst env s:=rfl
@[simp] theorem adn {w:Bool} {dst:Option Nat} {op:AOp} {env:Env} {s:St}:gdQ glob call (some (.v (.tu []))) w dst op env s=Rl (.v (.tu [])) dst env s:=rfl
@[simp high] theorem ads {x:Bool} {dst:Option Nat} {op:AOp} {env:Env} {s:St}:
  gdQ glob call (some (.v (.b (!x)))) true dst op env s=gdQ glob call (some (.v (.b x))) false dst op env s:=by cases x<;>rfl
@[simp high] theorem adt {x:Bool} {dst:Option Nat} {op:AOp} {env:Env} {s:St}:
  gdQ glob call (some (.v (.b (!x)))) false dst op env s=gdQ glob call (some (.v (.b x))) true dst op env s:=by cases x<;>rfl
@[simp] theorem XR {dst:Option Nat} {op:AOp} {env:Env} {s:St}:
  bV glob call cx ⟨dst,none,op⟩ env s=if op.quiet.isSome=true then Og (okQ glob env op) (aop glob call ⟨s.length,s.length⟩ env s op) dst env s else (aop glob call cx env s op).fin dst:=by
 simp only [bV]
 split
 ·unfold xE o7
  simp only [aZ]
  cases hq:okQ glob env op
  ·simp [Og]
  ·simp only [if_true]
   cases ha:aop glob call ⟨s.length,s.length⟩ env s op with
   | ok e env' s1=>
    simp only [Og]
    by_cases hc:s1.length=s.length∧e.owns=false
    ·rw [if_pos hc,if_pos hc];cases dst<;>rfl
    ·rw [if_neg hc,if_neg hc]
   | _=>rfl
 ·exact TY
@[simp] theorem XQ {dst:Option Nat} {op:AOp} {k:Nat} {w:Bool} {env:Env} {s:St}:
  bV glob call cx ⟨dst,some (k,w),op⟩ env s=if op.quiet.isSome=true then gdQ glob call (lk env k) w dst op env s else gdD glob call cx (lk env k) w dst op env s:=by
 simp only [bV]
 split
 ·have hT:∀(h:aZ env (some (k,w))=some true),xE glob call ⟨dst,some (k,w),op⟩ env s=qT glob call dst op env s:=by
   intro h
   unfold xE o7
   simp only [h]
   unfold qT
   cases hq:okQ glob env op
   ·simp [Og]
   ·simp only [if_true]
    cases ha:aop glob call ⟨s.length,s.length⟩ env s op with
    | ok e env' s1=>
     simp only [Og]
     by_cases hc:s1.length=s.length∧e.owns=false
     ·rw [if_pos hc,if_pos hc];cases dst<;>rfl
     ·rw [if_neg hc,if_neg hc]
    | _=>rfl
  have hF:∀(h:aZ env (some (k,w))=some false),xE glob call ⟨dst,some (k,w),op⟩ env s=qN dst env s:=by
   intro h
   unfold xE o7
   simp only [h]
   unfold qN
   cases dst<;>rfl
  have hN:∀(h:aZ env (some (k,w))=none),xE glob call ⟨dst,some (k,w),op⟩ env s=.fail:=by
   intro h
   unfold xE o7
   simp only [h]
  cases h:lk env k with
  | none=>exact hN (by simp [aZ,h])
  | some e=>
   cases e with
   | v a=>
    cases a with
    | b x=>
     cases x<;>cases w<;>first|exact hT (by simp [aZ,h])|exact hF (by simp [aZ,h])
    | tu cs=>
     cases cs with
     | nil=>exact hF (by simp [aZ,h])
     | cons a r=>exact hN (by simp [aZ,h])
    | _=>exact hN (by simp [aZ,h])
   | _=>exact hN (by simp [aZ,h])
 ·exact TW
@[simp] theorem acF {aops:List ak} {env:Env} {s:St}:dX glob call cx aops [] env s=.norm env s:=rfl
@[simp] theorem aa0 {aops:List ak} {i:Nat} {r:List Nat} {env:Env} {s:St}:dX glob call cx aops (i::r) env s=match aops[i]? with
  | none=>.fail
  | some o=>(bV glob call cx o env s).thn (dX glob call cx aops r):=by
 simp only [dX]
 cases aops[i]? with
 | none=>rfl
 | some o=>simp only [];cases bV glob call cx o env s<;>rfl
attribute [simp] okQ OC G9 AOp.quiet iC AX oxs
end
end Go.Ai
