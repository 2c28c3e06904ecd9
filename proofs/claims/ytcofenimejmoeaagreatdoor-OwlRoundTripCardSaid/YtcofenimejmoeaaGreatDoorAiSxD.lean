/-
 Rules for regions whose order is open.
-/
import Derived.Test.YtcofenimejmoeaaGreatDoorAiDat
set_option maxRecDepth 100000
set_option linter.unusedSimpArgs false
set_option linter.unusedVariables false
set_option linter.unusedSectionVars false
namespace Go.Ai
section
variable (glob:Nat→Option (List AV)) (call:AV→List AV→St→Ctx→CO) (cx:Ctx)
def Vy (e:EV) (dst:Option Nat) (env:Env) (s:St):Out:=
 match dst with
 | none=>.norm env s
 | some d=>if e.refers d=false∧rQ env d=false then .norm ((d,e)::env) s else .fail
def Qq (ok:Bool) (o:RO) (dst:Option Nat) (env:Env) (s:St):Out:=
 match ok,o with
 | true,.ok e _ s1=>if s1.length=s.length∧e.owns=false then Vy e dst env s else .fail
 | _,_=>.fail
def qT (dst:Option Nat) (op:AOp) (env:Env) (s:St):Out:=Qq (okQ glob env op) (aop glob call ⟨s.length,s.length⟩ env s op) dst env s
def qN (dst:Option Nat) (env:Env) (s:St):Out:=Vy (.v (.tu [])) dst env s
def gdQ (x:Option EV) (w:Bool) (dst:Option Nat) (op:AOp) (env:Env) (s:St):Out:=
 match x with
 | some (.v (.b x))=>if x=true then (match w with|true=>qT glob call dst op env s|false=>qN dst env s) else (match w with|true=>qN dst env s|false=>qT glob call dst op env s)
 | some (.v (.tu []))=>qN dst env s
 | _=>.fail
end
section
variable {glob:Nat→Option (List AV)} {call:AV→List AV→St→Ctx→CO} {cx:Ctx}
@[simp] theorem aiR {e:EV} {env:Env} {s:St}:Vy e none env s=.norm env s:=rfl
@[simp] theorem aiQ {e:EV} {d:Nat} {env:Env} {s:St}:Vy e (some d) env s=if e.refers d=false∧rQ env d=false then .norm ((d,e)::env) s else .fail:=rfl
@[simp] theorem alE {e:EV} {env' env:Env} {s1 s:St} {dst:Option Nat}:Qq true (.ok e env' s1) dst env s=if s1.length=s.length∧e.owns=false then Vy e dst env s else .fail:=rfl
@[simp] theorem aiP {ok:Bool} {env:Env} {s:St} {dst:Option Nat}:Qq ok .fail dst env s=.fail:=by cases ok<;>rfl
theorem kz {dst:Option Nat} {op:AOp} {env:Env} {s:St}:qT glob call dst op env s=Qq (okQ glob env op) (aop glob call ⟨s.length,s.length⟩ env s op) dst env s:=rfl
theorem kC {dst:Option Nat} {env:Env} {s:St}:qN dst env s=Vy (.v (.tu [])) dst env s:=rfl
@[simp] theorem amf {x:Bool} {dst:Option Nat} {op:AOp} {env:Env} {s:St}:
  gdQ glob call (some (.v (.b x))) true dst op env s=if x=true then qT glob call dst op env s else qN dst env s:=rfl
@[simp] theorem amg {x:Bool} {dst:Option Nat} {op:AOp} {env:Env} {s:St}:
  gdQ glob call (some (.v (.b x))) false dst op env s=if x=true then qN dst env s else qT glob call dst op env s:=rfl
@[simp high] theorem amd {dst:Option Nat} {op:AOp} {env:Env} {s:St}:gdQ glob call (some (.v (.b true))) true dst op env s=Qq (okQ glob env op) (aop glob call ⟨s.length,s.length⟩ env s op) dst env s:=rfl
@[simp high] theorem amk {dst:Option Nat} {op:AOp} {env:Env} {s:St}:gdQ glob call (some (.v (.b false))) false dst op env s=Qq (okQ glob env op) (aop glob call ⟨s.length,s.length⟩ env s op) dst env s:=rfl
@[simp high] theorem ame {dst:Option Nat} {op:AOp} {env:Env} {s:St}:gdQ glob call (some (.v (.b true))) false dst op env s=Vy (.v (.tu [])) dst env s:=rfl
@[simp high] theorem amj {dst:Option Nat} {op:AOp} {env:Env} {s:St}:gdQ glob call (some (.v (.b false))) true dst op env s=Vy (.v (.tu [])) dst env s:=rfl
@[simp] theorem amc {w:Bool} {dst:Option Nat} {op:AOp} {env:Env} {s:St}:gdQ glob call (some (.v (.tu []))) w dst op env s=Vy (.v (.tu [])) dst env s:=rfl
@[simp high] theorem amh {x:Bool} {dst:Option Nat} {op:AOp} {env:Env} {s:St}:
  gdQ glob call (some (.v (.b (!x)))) true dst op env s=gdQ glob call (some (.v (.b x))) false dst op env s:=by cases x<;>rfl
@[simp high] theorem ami {x:Bool} {dst:Option Nat} {op:AOp} {env:Env} {s:St}:
  gdQ glob call (some (.v (.b (!x)))) false dst op env s=gdQ glob call (some (.v (.b x))) true dst op env s:=by cases x<;>rfl
@[simp] theorem afi {dst:Option Nat} {op:AOp} {env:Env} {s:St}:
  gX glob call cx ⟨dst,none,op⟩ env s=if op.quiet.isSome=true then Qq (okQ glob env op) (aop glob call ⟨s.length,s.length⟩ env s op) dst env s else (aop glob call cx env s op).fin dst:=by
 simp only [gX];split
 ·unfold Bo xE;simp only [gI];cases hq:okQ glob env op
  ·simp [Qq]
  ·simp only [if_true]
   cases ha:aop glob call ⟨s.length,s.length⟩ env s op with
   | ok e env' s1=>
    simp only [Qq];by_cases hc:s1.length=s.length∧e.owns=false
    ·rw [if_pos hc,if_pos hc];cases dst<;>rfl
    ·rw [if_neg hc,if_neg hc]
   | _=>rfl
 ·exact YQ
@[simp] theorem afh {dst:Option Nat} {op:AOp} {k:Nat} {w:Bool} {env:Env} {s:St}:
  gX glob call cx ⟨dst,some (k,w),op⟩ env s=if op.quiet.isSome=true then gdQ glob call (lk env k) w dst op env s else gdD glob call cx (lk env k) w dst op env s:=by
 simp only [gX];split
 ·have hT:∀(h:gI env (some (k,w))=some true),Bo glob call ⟨dst,some (k,w),op⟩ env s=qT glob call dst op env s:=by
   intro h;unfold Bo xE;simp only [h];unfold qT;cases hq:okQ glob env op
   ·simp [Qq]
   ·simp only [if_true]
    cases ha:aop glob call ⟨s.length,s.length⟩ env s op with
    | ok e env' s1=>
     simp only [Qq];by_cases hc:s1.length=s.length∧e.owns=false
     ·rw [if_pos hc,if_pos hc];cases dst<;>rfl
     ·rw [if_neg hc,if_neg hc]
    | _=>rfl
  have hF:∀(h:gI env (some (k,w))=some false),Bo glob call ⟨dst,some (k,w),op⟩ env s=qN dst env s:=by
   intro h;unfold Bo xE;simp only [h];unfold qN
   cases dst<;>rfl
  have hN:∀(h:gI env (some (k,w))=none),Bo glob call ⟨dst,some (k,w),op⟩ env s=.fail:=by
   intro h;unfold Bo xE;simp only [h]
  cases h:lk env k with
  | none=>exact hN (by simp [gI,h])
  | some e=>
   cases e with
   | v a=>
    cases a with
    | b x=>
     cases x<;>cases w<;>first|exact hT (by simp [gI,h])|exact hF (by simp [gI,h])
    | tu cs=>
     cases cs with
     | nil=>exact hF (by simp [gI,h])
     | cons a r=>exact hN (by simp [gI,h])
    | _=>exact hN (by simp [gI,h])
   | _=>exact hN (by simp [gI,h])
 ·exact YP
@[simp] theorem aly {aops:List aI} {env:Env} {s:St}:jw glob call cx aops [] env s=.norm env s:=rfl
@[simp] theorem ajX {aops:List aI} {i:Nat} {r:List Nat} {env:Env} {s:St}:jw glob call cx aops (i::r) env s=match aops[i]? with
  | none=>.fail
  | some o=>(gX glob call cx o env s).thn (jw glob call cx aops r):=by
 simp only [jw]
 cases aops[i]? with
 | none=>rfl
 | some o=>simp only [];cases gX glob call cx o env s<;>rfl
attribute [simp] okQ Tf IC AOp.quiet rQ CW oxs
end
end Go.Ai
