/-
 Rules for regions whose order is open.
-/
import Derived.Test.YtdjjghikaijfpaaGreatDoorAiDat
set_option maxRecDepth 100000
set_option linter.unusedSimpArgs false
set_option linter.unusedVariables false
set_option linter.unusedSectionVars false
namespace Go.Ai
section
variable (glob:Nat→Option (List AV)) (call:AV→List AV→St→Ctx→CO) (cx:Ctx)
def Vr (e:EV) (dst:Option Nat) (env:Env) (s:St):Out:=
 match dst with
 | none=>.norm env s
 | some d=>if e.refers d=false∧ji env d=false then .norm ((d,e)::env) s else .fail
def Tf (ok:Bool) (o:RO) (dst:Option Nat) (env:Env) (s:St):Out:=
 match ok,o with
 | true,.ok e _ s1=>if s1.length=s.length∧e.owns=false then Vr e dst env s else .fail
 | _,_=>.fail
def qT (dst:Option Nat) (op:AOp) (env:Env) (s:St):Out:=Tf (okQ glob env op) (aop glob call ⟨s.length,s.length⟩ env s op) dst env s
def qN (dst:Option Nat) (env:Env) (s:St):Out:=Vr (.v (.tu [])) dst env s
def gdQ (x:Option EV) (w:Bool) (dst:Option Nat) (op:AOp) (env:Env) (s:St):Out:=
 match x with
 | some (.v (.b x))=>if x=true then (match w with|true=>qT glob call dst op env s|false=>qN dst env s) else (match w with|true=>qN dst env s|false=>qT glob call dst op env s)
 | some (.v (.tu []))=>qN dst env s
 | _=>.fail
end
section
variable {glob:Nat→Option (List AV)} {call:AV→List AV→St→Ctx→CO} {cx:Ctx}
@[simp] theorem abP {e:EV} {env:Env} {s:St}:Vr e none env s=.norm env s:=rfl
@[simp] theorem abO {e:EV} {d:Nat} {env:Env} {s:St}:Vr e (some d) env s=if e.refers d=false∧ji env d=false then .norm ((d,e)::env) s else .fail:=rfl
@[simp] theorem aep {e:EV} {env' env:Env} {s1 s:St} {dst:Option Nat}:Tf true (.ok e env' s1) dst env s=if s1.length=s.length∧e.owns=false then Vr e dst env s else .fail:=rfl
@[simp] theorem abN {ok:Bool} {env:Env} {s:St} {dst:Option Nat}:Tf ok .fail dst env s=.fail:=by cases ok<;>rfl
@[simp] theorem ae1 {x:Bool} {dst:Option Nat} {op:AOp} {env:Env} {s:St}:
  gdQ glob call (some (.v (.b x))) true dst op env s=if x=true then qT glob call dst op env s else qN dst env s:=rfl
@[simp] theorem ae2 {x:Bool} {dst:Option Nat} {op:AOp} {env:Env} {s:St}:
  gdQ glob call (some (.v (.b x))) false dst op env s=if x=true then qN dst env s else qT glob call dst op env s:=rfl
@[simp high] theorem aeZ {dst:Option Nat} {op:AOp} {env:Env} {s:St}:gdQ glob call (some (.v (.b true))) true dst op env s=Tf (okQ glob env op) (aop glob call ⟨s.length,s.length⟩ env s op) dst env s:=rfl
@[simp high] theorem ae6 {dst:Option Nat} {op:AOp} {env:Env} {s:St}:gdQ glob call (some (.v (.b false))) false dst op env s=Tf (okQ glob env op) (aop glob call ⟨s.length,s.length⟩ env s op) dst env s:=rfl
@[simp high] theorem ae0 {dst:Option Nat} {op:AOp} {env:Env} {s:St}:gdQ glob call (some (.v (.b true))) false dst op env s=Vr (.v (.tu [])) dst env s:=rfl
@[simp high] theorem ae5 {dst:Option Nat} {op:AOp} {env:Env} {s:St}:gdQ glob call (some (.v (.b false))) true dst op env s=Vr (.v (.tu [])) dst env s:=rfl
@[simp] theorem aeY {w:Bool} {dst:Option Nat} {op:AOp} {env:Env} {s:St}:gdQ glob call (some (.v (.tu []))) w dst op env s=Vr (.v (.tu [])) dst env s:=rfl
@[simp high] theorem ae3 {x:Bool} {dst:Option Nat} {op:AOp} {env:Env} {s:St}:
  gdQ glob call (some (.v (.b (!x)))) true dst op env s=gdQ glob call (some (.v (.b x))) false dst op env s:=by cases x<;>rfl
@[simp high] theorem ae4 {x:Bool} {dst:Option Nat} {op:AOp} {env:Env} {s:St}:
  gdQ glob call (some (.v (.b (!x)))) false dst op env s=gdQ glob call (some (.v (.b x))) true dst op env s:=by cases x<;>rfl
@[simp] theorem ZU {dst:Option Nat} {op:AOp} {env:Env} {s:St}:
  fC glob call cx ⟨dst,none,op⟩ env s=if op.quiet.isSome=true then Tf (okQ glob env op) (aop glob call ⟨s.length,s.length⟩ env s op) dst env s else (aop glob call cx env s op).fin dst:=by
 simp only [fC]
 split
 ·unfold zW tJ
  simp only [bF]
  cases hq:okQ glob env op
  ·simp [Tf]
  ·simp only [if_true]
   cases ha:aop glob call ⟨s.length,s.length⟩ env s op with
   | ok e env' s1=>
    simp only [Tf]
    by_cases hc:s1.length=s.length∧e.owns=false
    ·rw [if_pos hc,if_pos hc];cases dst<;>rfl
    ·rw [if_neg hc,if_neg hc]
   | _=>rfl
 ·exact Wq
@[simp] theorem ZT {dst:Option Nat} {op:AOp} {k:Nat} {w:Bool} {env:Env} {s:St}:
  fC glob call cx ⟨dst,some (k,w),op⟩ env s=if op.quiet.isSome=true then gdQ glob call (lk env k) w dst op env s else gdD glob call cx (lk env k) w dst op env s:=by
 simp only [fC]
 split
 ·have hT:∀(h:bF env (some (k,w))=some true),zW glob call ⟨dst,some (k,w),op⟩ env s=qT glob call dst op env s:=by
   intro h
   unfold zW tJ
   simp only [h]
   unfold qT
   cases hq:okQ glob env op
   ·simp [Tf]
   ·simp only [if_true]
    cases ha:aop glob call ⟨s.length,s.length⟩ env s op with
    | ok e env' s1=>
     simp only [Tf]
     by_cases hc:s1.length=s.length∧e.owns=false
     ·rw [if_pos hc,if_pos hc];cases dst<;>rfl
     ·rw [if_neg hc,if_neg hc]
    | _=>rfl
  have hF:∀(h:bF env (some (k,w))=some false),zW glob call ⟨dst,some (k,w),op⟩ env s=qN dst env s:=by
   intro h
   unfold zW tJ
   simp only [h]
   unfold qN
   cases dst<;>rfl
  have hN:∀(h:bF env (some (k,w))=none),zW glob call ⟨dst,some (k,w),op⟩ env s=.fail:=by
   intro h
   unfold zW tJ
   simp only [h]
  cases h:lk env k with
  | none=>exact hN (by simp [bF,h])
  | some e=>
   cases e with
   | v a=>
    cases a with
    | b x=>
     cases x<;>cases w<;>first|exact hT (by simp [bF,h])|exact hF (by simp [bF,h])
    | tu cs=>
     cases cs with
     | nil=>exact hF (by simp [bF,h])
     | cons a r=>exact hN (by simp [bF,h])
    | _=>exact hN (by simp [bF,h])
   | _=>exact hN (by simp [bF,h])
 ·exact Wp
@[simp] theorem aek {aops:List aA} {env:Env} {s:St}:fO glob call cx aops [] env s=.norm env s:=rfl
@[simp] theorem ac2 {aops:List aA} {i:Nat} {r:List Nat} {env:Env} {s:St}:fO glob call cx aops (i::r) env s=match aops[i]? with
  | none=>.fail
  | some o=>(fC glob call cx o env s).thn (fO glob call cx aops r):=by
 simp only [fO]
 cases aops[i]? with
 | none=>rfl
 | some o=>simp only [];cases fC glob call cx o env s<;>rfl
attribute [simp] okQ oD Ky AOp.quiet ji DK oxs
end
end Go.Ai
