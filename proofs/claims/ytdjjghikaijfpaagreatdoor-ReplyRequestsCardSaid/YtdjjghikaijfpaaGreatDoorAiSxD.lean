/-
 Rules for regions whose order is open.
-/
import Derived.Test.YtdjjghikaijfpaaGreatDoorAiDat
set_option maxRecDepth 100000
set_option linter.unusedSimpArgs false
set_option linter.unusedVariables false
set_option linter.unusedSectionVars false
namespace Go.Ai
section
variable (glob:Nat→Option (List AV)) (call:AV→List AV→St→Ctx→CO) (cx:Ctx)
def Xt (e:EV) (dst:Option Nat) (env:Env) (s:St):Out:=
 match dst with
 | none=>.norm env s
 | some d=>if e.refers d=false∧lU env d=false then .norm ((d,e)::env) s else .fail
def Tc (ok:Bool) (o:RO) (dst:Option Nat) (env:Env) (s:St):Out:=
 match ok,o with
 | true,.ok e _ s1=>if s1.length=s.length∧e.owns=false then Xt e dst env s else .fail
 | _,_=>.fail
def qT (dst:Option Nat) (op:AOp) (env:Env) (s:St):Out:=Tc (okQ glob env op) (aop glob call ⟨s.length,s.length⟩ env s op) dst env s
def qN (dst:Option Nat) (env:Env) (s:St):Out:=Xt (.v (.tu [])) dst env s
def gdQ (x:Option EV) (w:Bool) (dst:Option Nat) (op:AOp) (env:Env) (s:St):Out:=
 match x with
 | some (.v (.b x))=>if x=true then (match w with|true=>qT glob call dst op env s|false=>qN dst env s) else (match w with|true=>qN dst env s|false=>qT glob call dst op env s)
 | some (.v (.tu []))=>qN dst env s
 | _=>.fail
end
section
variable {glob:Nat→Option (List AV)} {call:AV→List AV→St→Ctx→CO} {cx:Ctx}
@[simp] theorem ai5 {e:EV} {env:Env} {s:St}:Xt e none env s=.norm env s:=rfl
@[simp] theorem ai4 {e:EV} {d:Nat} {env:Env} {s:St}:Xt e (some d) env s=if e.refers d=false∧lU env d=false then .norm ((d,e)::env) s else .fail:=rfl
@[simp] theorem alY {e:EV} {env' env:Env} {s1 s:St} {dst:Option Nat}:Tc true (.ok e env' s1) dst env s=if s1.length=s.length∧e.owns=false then Xt e dst env s else .fail:=rfl
@[simp] theorem ai3 {ok:Bool} {env:Env} {s:St} {dst:Option Nat}:Tc ok .fail dst env s=.fail:=by cases ok<;>rfl
theorem gQ {dst:Option Nat} {op:AOp} {env:Env} {s:St}:qT glob call dst op env s=Tc (okQ glob env op) (aop glob call ⟨s.length,s.length⟩ env s op) dst env s:=rfl
theorem gU {dst:Option Nat} {env:Env} {s:St}:qN dst env s=Xt (.v (.tu [])) dst env s:=rfl
@[simp] theorem amU {x:Bool} {dst:Option Nat} {op:AOp} {env:Env} {s:St}:
  gdQ glob call (some (.v (.b x))) true dst op env s=if x=true then qT glob call dst op env s else qN dst env s:=rfl
@[simp] theorem amV {x:Bool} {dst:Option Nat} {op:AOp} {env:Env} {s:St}:
  gdQ glob call (some (.v (.b x))) false dst op env s=if x=true then qN dst env s else qT glob call dst op env s:=rfl
@[simp high] theorem amS {dst:Option Nat} {op:AOp} {env:Env} {s:St}:gdQ glob call (some (.v (.b true))) true dst op env s=Tc (okQ glob env op) (aop glob call ⟨s.length,s.length⟩ env s op) dst env s:=rfl
@[simp high] theorem amZ {dst:Option Nat} {op:AOp} {env:Env} {s:St}:gdQ glob call (some (.v (.b false))) false dst op env s=Tc (okQ glob env op) (aop glob call ⟨s.length,s.length⟩ env s op) dst env s:=rfl
@[simp high] theorem amT {dst:Option Nat} {op:AOp} {env:Env} {s:St}:gdQ glob call (some (.v (.b true))) false dst op env s=Xt (.v (.tu [])) dst env s:=rfl
@[simp high] theorem amY {dst:Option Nat} {op:AOp} {env:Env} {s:St}:gdQ glob call (some (.v (.b false))) true dst op env s=Xt (.v (.tu [])) dst env s:=rfl
@[simp] theorem amR {w:Bool} {dst:Option Nat} {op:AOp} {env:Env} {s:St}:gdQ glob call (some (.v (.tu []))) w dst op env s=Xt (.v (.tu [])) dst env s:=rfl
@[simp high] theorem amW {x:Bool} {dst:Option Nat} {op:AOp} {env:Env} {s:St}:
  gdQ glob call (some (.v (.b (!x)))) true dst op env s=gdQ glob call (some (.v (.b x))) false dst op env s:=by cases x<;>rfl
@[simp high] theorem amX {x:Bool} {dst:Option Nat} {op:AOp} {env:Env} {s:St}:
  gdQ glob call (some (.v (.b (!x)))) false dst op env s=gdQ glob call (some (.v (.b x))) true dst op env s:=by cases x<;>rfl
@[simp] theorem afQ {dst:Option Nat} {op:AOp} {env:Env} {s:St}:
  iD glob call cx ⟨dst,none,op⟩ env s=if op.quiet.isSome=true then Tc (okQ glob env op) (aop glob call ⟨s.length,s.length⟩ env s op) dst env s else (aop glob call cx env s op).fin dst:=by
 simp only [iD]
 split
 ·unfold Ah wz
  simp only [dh]
  cases hq:okQ glob env op
  ·simp [Tc]
  ·simp only [if_true]
   cases ha:aop glob call ⟨s.length,s.length⟩ env s op with
   | ok e env' s1=>
    simp only [Tc]
    by_cases hc:s1.length=s.length∧e.owns=false
    ·rw [if_pos hc,if_pos hc];cases dst<;>rfl
    ·rw [if_neg hc,if_neg hc]
   | _=>rfl
 ·exact aam
@[simp] theorem afP {dst:Option Nat} {op:AOp} {k:Nat} {w:Bool} {env:Env} {s:St}:
  iD glob call cx ⟨dst,some (k,w),op⟩ env s=if op.quiet.isSome=true then gdQ glob call (lk env k) w dst op env s else gdD glob call cx (lk env k) w dst op env s:=by
 simp only [iD]
 split
 ·have hT:∀(h:dh env (some (k,w))=some true),Ah glob call ⟨dst,some (k,w),op⟩ env s=qT glob call dst op env s:=by
   intro h
   unfold Ah wz
   simp only [h]
   unfold qT
   cases hq:okQ glob env op
   ·simp [Tc]
   ·simp only [if_true]
    cases ha:aop glob call ⟨s.length,s.length⟩ env s op with
    | ok e env' s1=>
     simp only [Tc]
     by_cases hc:s1.length=s.length∧e.owns=false
     ·rw [if_pos hc,if_pos hc];cases dst<;>rfl
     ·rw [if_neg hc,if_neg hc]
    | _=>rfl
  have hF:∀(h:dh env (some (k,w))=some false),Ah glob call ⟨dst,some (k,w),op⟩ env s=qN dst env s:=by
   intro h
   unfold Ah wz
   simp only [h]
   unfold qN
   cases dst<;>rfl
  have hN:∀(h:dh env (some (k,w))=none),Ah glob call ⟨dst,some (k,w),op⟩ env s=.fail:=by
   intro h
   unfold Ah wz
   simp only [h]
  cases h:lk env k with
  | none=>exact hN (by simp [dh,h])
  | some e=>
   cases e with
   | v a=>
    cases a with
    | b x=>
     cases x<;>cases w<;>first|exact hT (by simp [dh,h])|exact hF (by simp [dh,h])
    | tu cs=>
     cases cs with
     | nil=>exact hF (by simp [dh,h])
     | cons a r=>exact hN (by simp [dh,h])
    | _=>exact hN (by simp [dh,h])
   | _=>exact hN (by simp [dh,h])
 ·exact aal
@[simp] theorem alS {aops:List aG} {env:Env} {s:St}:iC glob call cx aops [] env s=.norm env s:=rfl
@[simp] theorem akh {aops:List aG} {i:Nat} {r:List Nat} {env:Env} {s:St}:iC glob call cx aops (i::r) env s=match aops[i]? with
  | none=>.fail
  | some o=>(iD glob call cx o env s).thn (iC glob call cx aops r):=by
 simp only [iC]
 cases aops[i]? with
 | none=>rfl
 | some o=>simp only [];cases iD glob call cx o env s<;>rfl
attribute [simp] okQ rH Ko AOp.quiet lU Dz oxs
end
end Go.Ai
