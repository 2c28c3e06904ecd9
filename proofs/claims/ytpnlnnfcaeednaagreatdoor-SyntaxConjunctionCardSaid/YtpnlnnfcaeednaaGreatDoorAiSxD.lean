/-
 Rules for regions whose order is open.
-/
import Derived.Test.YtpnlnnfcaeednaaGreatDoorAiDat
set_option maxRecDepth 100000
set_option linter.unusedSimpArgs false
set_option linter.unusedVariables false
set_option linter.unusedSectionVars false
namespace Go.Ai
section
variable (glob : Nat → Option (List AV)) (call : AV → List AV → St → Ctx → CO) (cx : Ctx)
def qEnd (e : EV) (dst : Option Nat) (env : Env) (s : St) : Out :=
 match dst with
 | none => .norm env s
 | some d => if e.refers d = false ∧ ownsAt env d = false then .norm ((d, e) :: env) s else .fail
def qFin (ok : Bool) (o : RO) (dst : Option Nat) (env : Env) (s : St) : Out :=
 match ok, o with
 | true, .ok e _ s1 => if s1.length = s.length ∧ e.owns = false then qEnd e dst env s else .fail
 | _, _ => .fail
def qT (dst : Option Nat) (op : AOp) (env : Env) (s : St) : Out := qFin (okQ glob env op) (aop glob call ⟨s.length, s.length⟩ env s op) dst env s
def qN (dst : Option Nat) (env : Env) (s : St) : Out := qEnd (.v (.tu [])) dst env s
def gdQ (x : Option EV) (w : Bool) (dst : Option Nat) (op : AOp) (env : Env) (s : St) : Out :=
 match x with
 | some (.v (.b x)) => if x = true then (match w with | true => qT glob call dst op env s | false => qN dst env s) else (match w with | true => qN dst env s | false => qT glob call dst op env s)
 | some (.v (.tu [])) => qN dst env s
 | _ => .fail
end
section
variable {glob : Nat → Option (List AV)} {call : AV → List AV → St → Ctx → CO} {cx : Ctx}
@[simp] theorem qEnd_none {e : EV} {env : Env} {s : St} : qEnd e none env s = .norm env s := rfl
@[simp] theorem qEnd_some {e : EV} {d : Nat} {env : Env} {s : St} : qEnd e (some d) env s = if e.refers d = false ∧ ownsAt env d = false then .norm ((d, e) :: env) s else .fail := rfl
@[simp] theorem qFin_ok {e : EV} {env' env : Env} {s1 s : St} {dst : Option Nat} : qFin true (.ok e env' s1) dst env s = if s1.length = s.length ∧ e.owns = false then qEnd e dst env s else .fail := rfl
@[simp] theorem qFin_fail {ok : Bool} {env : Env} {s : St} {dst : Option Nat} : qFin ok .fail dst env s = .fail := by cases ok <;> rfl
theorem qT_go {dst : Option Nat} {op : AOp} {env : Env} {s : St} : qT glob call dst op env s = qFin (okQ glob env op) (aop glob call ⟨s.length, s.length⟩ env s op) dst env s := rfl
theorem qN_go {dst : Option Nat} {env : Env} {s : St} : qN dst env s = qEnd (.v (.tu [])) dst env s := rfl
@[simp] theorem gdQ_st {x : Bool} {dst : Option Nat} {op : AOp} {env : Env} {s : St} :
  gdQ glob call (some (.v (.b x))) true dst op env s = if x = true then qT glob call dst op env s else qN dst env s := rfl
@[simp] theorem gdQ_sf {x : Bool} {dst : Option Nat} {op : AOp} {env : Env} {s : St} :
  gdQ glob call (some (.v (.b x))) false dst op env s = if x = true then qN dst env s else qT glob call dst op env s := rfl
@[simp high] theorem gdQ_tt {dst : Option Nat} {op : AOp} {env : Env} {s : St} : gdQ glob call (some (.v (.b true))) true dst op env s = qFin (okQ glob env op) (aop glob call ⟨s.length, s.length⟩ env s op) dst env s := rfl
@[simp high] theorem gdQ_ff {dst : Option Nat} {op : AOp} {env : Env} {s : St} : gdQ glob call (some (.v (.b false))) false dst op env s = qFin (okQ glob env op) (aop glob call ⟨s.length, s.length⟩ env s op) dst env s := rfl
@[simp high] theorem gdQ_tf {dst : Option Nat} {op : AOp} {env : Env} {s : St} : gdQ glob call (some (.v (.b true))) false dst op env s = qEnd (.v (.tu [])) dst env s := rfl
@[simp high] theorem gdQ_ft {dst : Option Nat} {op : AOp} {env : Env} {s : St} : gdQ glob call (some (.v (.b false))) true dst op env s = qEnd (.v (.tu [])) dst env s := rfl
@[simp] theorem gdQ_tu {w : Bool} {dst : Option Nat} {op : AOp} {env : Env} {s : St} : gdQ glob call (some (.v (.tu []))) w dst op env s = qEnd (.v (.tu [])) dst env s := rfl
@[simp high] theorem gdQ_nt {x : Bool} {dst : Option Nat} {op : AOp} {env : Env} {s : St} :
  gdQ glob call (some (.v (.b (!x)))) true dst op env s = gdQ glob call (some (.v (.b x))) false dst op env s := by cases x <;> rfl
@[simp high] theorem gdQ_nf {x : Bool} {dst : Option Nat} {op : AOp} {env : Env} {s : St} :
  gdQ glob call (some (.v (.b (!x)))) false dst op env s = gdQ glob call (some (.v (.b x))) true dst op env s := by cases x <;> rfl
@[simp] theorem sxd_runD_none {dst : Option Nat} {op : AOp} {env : Env} {s : St} :
  runD glob call cx ⟨dst, none, op⟩ env s = if op.quiet.isSome = true then qFin (okQ glob env op) (aop glob call ⟨s.length, s.length⟩ env s op) dst env s else (aop glob call cx env s op).fin dst := by
 simp only [runD]
 split
 ·unfold runQ qval
  simp only [wantedA]
  cases hq : okQ glob env op
  ·simp [qFin]
  ·simp only [if_true]
   cases ha : aop glob call ⟨s.length, s.length⟩ env s op with
   | ok e env' s1 =>
    simp only [qFin]
    by_cases hc : s1.length = s.length ∧ e.owns = false
    ·rw [if_pos hc, if_pos hc]; cases dst <;> rfl
    ·rw [if_neg hc, if_neg hc]
   | _ => rfl
 ·exact runOp_none
@[simp] theorem sxd_runD_some {dst : Option Nat} {op : AOp} {k : Nat} {w : Bool} {env : Env} {s : St} :
  runD glob call cx ⟨dst, some (k, w), op⟩ env s = if op.quiet.isSome = true then gdQ glob call (lk env k) w dst op env s else gdD glob call cx (lk env k) w dst op env s := by
 simp only [runD]
 split
 ·have hT : ∀ (h : wantedA env (some (k, w)) = some true), runQ glob call ⟨dst, some (k, w), op⟩ env s = qT glob call dst op env s := by
   intro h
   unfold runQ qval
   simp only [h]
   unfold qT
   cases hq : okQ glob env op
   ·simp [qFin]
   ·simp only [if_true]
    cases ha : aop glob call ⟨s.length, s.length⟩ env s op with
    | ok e env' s1 =>
     simp only [qFin]
     by_cases hc : s1.length = s.length ∧ e.owns = false
     ·rw [if_pos hc, if_pos hc]; cases dst <;> rfl
     ·rw [if_neg hc, if_neg hc]
    | _ => rfl
  have hF : ∀ (h : wantedA env (some (k, w)) = some false), runQ glob call ⟨dst, some (k, w), op⟩ env s = qN dst env s := by
   intro h
   unfold runQ qval
   simp only [h]
   unfold qN
   cases dst <;> rfl
  have hN : ∀ (h : wantedA env (some (k, w)) = none), runQ glob call ⟨dst, some (k, w), op⟩ env s = .fail := by
   intro h
   unfold runQ qval
   simp only [h]
  cases h : lk env k with
  | none => exact hN (by simp [wantedA, h])
  | some e =>
   cases e with
   | v a =>
    cases a with
    | b x =>
     cases x <;> cases w <;> first | exact hT (by simp [wantedA, h]) | exact hF (by simp [wantedA, h])
    | tu cs =>
     cases cs with
     | nil => exact hF (by simp [wantedA, h])
     | cons a r => exact hN (by simp [wantedA, h])
    | _ => exact hN (by simp [wantedA, h])
   | _ => exact hN (by simp [wantedA, h])
 ·exact runOp_some
@[simp] theorem sxd_nil {aops : List AOper} {env : Env} {s : St} : runDraw glob call cx aops [] env s = .norm env s := rfl
@[simp] theorem sxd_cons {aops : List AOper} {i : Nat} {r : List Nat} {env : Env} {s : St} : runDraw glob call cx aops (i :: r) env s = match aops[i]? with
  | none => .fail
  | some o => (runD glob call cx o env s).thn (runDraw glob call cx aops r) := by
 simp only [runDraw]
 cases aops[i]? with
 | none => rfl
 | some o => simp only []; cases runD glob call cx o env s <;> rfl
attribute [simp] okQ noOm escOK AOp.quiet ownsAt tipE oxs
end
end Go.Ai
