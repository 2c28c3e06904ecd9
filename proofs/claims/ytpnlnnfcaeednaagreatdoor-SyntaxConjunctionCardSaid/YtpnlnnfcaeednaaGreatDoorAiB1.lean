/-
 The interpreter in the limit: no fuel.
-/
import Derived.Test.YtpnlnnfcaeednaaGreatDoorAiA1
set_option maxRecDepth 100000
set_option linter.unusedSimpArgs false
set_option linter.unusedVariables false
set_option linter.unusedSectionVars false
namespace Go.Ai
noncomputable def limE {α : Type} (d : α) (h : Nat → α) : α :=
 open Classical in if H : ∃ c, c ≠ d ∧ ∃ n, ∀ m, n ≤ m → h m = c then H.choose else d
theorem limE_eq {α : Type} {d : α} {h : Nat → α} {c : α} {n : Nat} (hc : ∀ m, n ≤ m → h m = c) : limE d h = c := by
 unfold limE
 split
 ·rename_i H
  obtain ⟨_, n', hn'⟩ := H.choose_spec
  rw [← hn' (max n n') (Nat.le_max_right _ _), hc _ (Nat.le_max_left _ _)]
 ·rename_i H
  by_cases hd : c = d
  ·exact hd.symm
  ·exact absurd ⟨c, hd, n, hc⟩ H
theorem limE_ne {α : Type} {d : α} {h : Nat → α} {c : α} (hl : limE d h = c) (hd : c ≠ d) : ∃ n, ∀ m, n ≤ m → h m = c := by
 unfold limE at hl
 split at hl
 ·rename_i H
  obtain ⟨_, n', hn'⟩ := H.choose_spec
  exact ⟨n', fun m hm => (hn' m hm).trans hl⟩
 ·exact absurd hl.symm hd
theorem limE_shift {α : Type} {d : α} {h g : Nat → α} (hs : ∀ n, h (n + 1) = g n) : limE d h = limE d g := by
 by_cases hg : limE d g = d
 ·rw [hg]
  by_cases hh : limE d h = d
  ·exact hh
  ·obtain ⟨n, hn⟩ := limE_ne rfl hh
   have := limE_eq (d := d) (h := g) (c := limE d h) (n := n) (fun m hm => by rw [← hs]; exact hn _ (by omega))
   rw [← this, hg]
 ·obtain ⟨n, hn⟩ := limE_ne rfl hg
  exact limE_eq (n := n + 1) (fun m hm => by obtain ⟨k, rfl⟩ : ∃ k, m = k + 1 := ⟨m - 1, by omega⟩; rw [hs]; exact hn k (by omega))
def Out.thn (o : Out) (f : Env → St → Out) : Out :=
 match o with
 | .norm env s => f env s
 | o => o
def Out.blk (id : Nat) (o : Out) : Out :=
 match o with
 | .exit id' env s => if id' = id then .norm env s else .exit id' env s
 | o => o
def cndW (x : Option AV) (a b : Unit → Out) : Out :=
 match x with
 | some (.b x) => if x = true then a () else b ()
 | _ => .fail
noncomputable def loopW (body : Env → St → Out) (keep : List Nat) (env : Env) (s : St) : Out := limE .fail (fun N => loopN body keep N env s)
theorem loopW_eq (body : Env → St → Out) (keep : List Nat) (env : Env) (s : St) : loopW body keep env s = (body (keepE env keep) s).thn (loopW body keep) := by
 unfold loopW
 cases hb : body (keepE env keep) s with
 | norm env' s' => exact limE_shift (fun n => by simp [loopN, hb])
 | _ => exact limE_eq (n := 1) (fun m hm => by obtain ⟨k, rfl⟩ : ∃ k, m = k + 1 := ⟨m - 1, by omega⟩; simp [loopN, hb, Out.thn])
noncomputable def scopeW (body : Env → St → Out) (l : Nat) (keep : List Nat) (env : Env) (s : St) : Out := limE .fail (fun N => scopeN body l keep N env s)
def Out.jmp (l : Nat) (o : Out) (f : Env → St → Out) : Out :=
 match o with
 | .goto l' env s => if l' = l then f env s else .fail
 | o => o
theorem scopeW_eq (body : Env → St → Out) (l : Nat) (keep : List Nat) (env : Env) (s : St) : scopeW body l keep env s = (body (keepE env keep) s).jmp l (scopeW body l keep) := by
 unfold scopeW
 cases hb : body (keepE env keep) s with
 | goto l' env' s' =>
  by_cases hl : l' = l
  ·simp only [Out.jmp, hl, if_true]
   exact limE_shift (fun n => by simp [scopeN, hb, hl])
  ·exact limE_eq (n := 1) (fun m hm => by obtain ⟨k, rfl⟩ : ∃ k, m = k + 1 := ⟨m - 1, by omega⟩; simp [scopeN, hb, Out.jmp, hl])
 | _ => exact limE_eq (n := 1) (fun m hm => by obtain ⟨k, rfl⟩ : ∃ k, m = k + 1 := ⟨m - 1, by omega⟩; simp [scopeN, hb, Out.jmp])
section
variable (glob : Nat → Option (List AV))
def rangeW (x : Option AV) (call : AV → List AV → St → Ctx → CO) (cx : Ctx) (ps : List Nat) (asg body : ACode) (env : Env) (s : St) : Out :=
 match x with
 | some (.fn ff as cs) => match call (.fn ff as cs) [.yl (s.length + 1)] (s ++ [.dfr, .loop (plainE env) ps asg body .ready]) cx with
  | .ret _ s' => pended env s' (s.length + 1)
  | _ => .fail
 | _ => .fail
noncomputable def acodeW (call : AV → List AV → St → Ctx → CO) (cx : Ctx) (ro : Bool) : ACode → Env → St → Out
 | .skip, env, s => .norm env s
 | .ret, env, s => .ret env s
 | .exit id, env, s => .exit id env s
 | .region ops ord keep, env, s => (runReg glob call cx ops env s ord).thn fun env s => .norm (keepE env keep) s
 | .seq a b, env, s => (acodeW call cx ro a env s).thn (acodeW call cx ro b)
 | .cond c a b, env, s => cndW (rd glob env c) (fun _ => acodeW call cx ro a env s) (fun _ => acodeW call cx ro b env s)
 | .block id b, env, s => (acodeW call cx ro b env s).blk id
 | .loop keep b, env, s => loopW (acodeW call cx ro b) keep env s
 | .range f ps asg body, env, s => if ro = true then .fail else rangeW (rd glob env f) call cx ps asg body env s
 | .label _, env, s => .norm env s
 | .goto l, env, s => .goto l env s
 | .scope l keep a b, env, s => (acodeW call cx ro a env s).jmp l (scopeW (acodeW call cx ro b) l keep)
def endW (pure keep : Bool) (s : St) (res : List RV) (o : Out) : CO :=
 match o with
 | .norm env s1 | .ret env s1 => match resOf glob env s1 res with
  | some rs => finish pure keep s s1 (tupled rs)
  | none => .fail
 | .pan v s1 => (finish pure keep s s1 v).toPan
 | _ => .fail
noncomputable def callFnW (call : AV → List AV → St → Ctx → CO) (fn : AFun) (args : List AV) (s : St) (cx : Ctx) : CO :=
 if args.length = fn.np then
  endW glob fn.pure fn.keep s fn.res (acodeW glob call ⟨if fn.pure = true then s.length else cx.lim, if fn.keep = true then cx.base else s.length⟩ fn.keep fn.code (env0 args 0) s)
 else .fail
def endBody (l : Nat) (o : Out) : CO :=
 match o with
 | .norm _ s2 => endRnd s2 l .ready true
 | .ret _ s2 => endRnd s2 l .ret false
 | .exit id _ s2 => endRnd s2 l (.exit id) false
 | _ => .fail
noncomputable def bodyW (call : AV → List AV → St → Ctx → CO) (cx : Ctx) (body : ACode) (l : Nat) (o : Out) : CO :=
 match o with
 | .norm env1 s1 => match s1[l]? with
  | some (.loop e1 p1 a1 b1 .ready) => endBody l (acodeW glob call cx true body env1 (s1.set l (.loop e1 p1 a1 b1 .busy)))
  | _ => .fail
 | _ => .fail
noncomputable def yieldW (call : AV → List AV → St → Ctx → CO) (l : Nat) (args : List AV) (s : St) (cx : Ctx) : CO :=
 match s[l]? with
 | some (.loop env ps asg body .ready) =>
  if ps.length = args.length ∧ cx.lim ≤ l then
   bodyW glob call cx body l (acodeW glob call cx true asg (setPs env ps args) s)
  else .fail
 | _ => .fail
end
section
variable {glob : Nat → Option (List AV)} {callW : AV → List AV → St → Ctx → CO} {call : Nat → AV → List AV → St → Ctx → CO} {cx : Ctx}
def Lim (callW : AV → List AV → St → Ctx → CO) (call : Nat → AV → List AV → St → Ctx → CO) : Prop :=
 ∀ fv args s cx c, callW fv args s cx = c → c ≠ .fail → ∃ n, ∀ m, n ≤ m → call m fv args s cx = c
theorem aop_cont (hc : Lim callW call) {env : Env} {s : St} {op : AOp} {o : RO} (h : aop glob callW cx env s op = o) (ho : o ≠ .fail) :
  ∃ n, ∀ m, n ≤ m → aop glob (call m) cx env s op = o := by
 by_cases hcall : ∃ f as, op = .call f as ∨ op = .callp f as
 ·obtain ⟨f, as, hop⟩ := hcall
  have hcp : ∀ c : AV → List AV → St → Ctx → CO, aop glob c cx env s op = aop glob c cx env s (.call f as) := by rcases hop with rfl | rfl <;> exact fun _ => rfl
  simp only [hcp] at h ⊢
  clear hop hcp
  simp only [aop] at h ⊢
  split at h
  ·rename_i fv as' env' h1 h2
   cases hx : callW fv as' s cx with
   | fail => rw [hx] at h; exact absurd h.symm ho
   | ret r s' =>
    obtain ⟨n, hn⟩ := hc _ _ _ _ _ hx (by simp)
    exact ⟨n, fun m hm => by rw [hn m hm]; rw [hx] at h; exact h⟩
   | pan r s' =>
    obtain ⟨n, hn⟩ := hc _ _ _ _ _ hx (by simp)
    exact ⟨n, fun m hm => by rw [hn m hm]; rw [hx] at h; exact h⟩
  ·exact absurd h.symm ho
 ·refine ⟨0, fun m _ => ?_⟩
  rw [← h]
  cases op with
  | call f as => exact absurd ⟨_, _, .inl rfl⟩ hcall
  | callp f as => exact absurd ⟨_, _, .inr rfl⟩ hcall
  | len k x => rcases k with _ | _ | _ | k <;> rfl
  | _ => rfl
theorem runOp_cont (hc : Lim callW call) {env : Env} {s : St} {p : AOper} {o : Out} (h : runOp glob callW cx p env s = o) (ho : o ≠ .fail) :
  ∃ n, ∀ m, n ≤ m → runOp glob (call m) cx p env s = o := by
 unfold runOp at h ⊢
 split at h
 ·exact absurd h.symm ho
 ·exact ⟨0, fun m _ => h⟩
 ·cases hx : aop glob callW cx env s p.op with
  | fail => rw [hx] at h; exact absurd h.symm ho
  | ok e env' s' =>
   obtain ⟨n, hn⟩ := aop_cont hc hx (by simp)
   exact ⟨n, fun m hm => by rw [hn m hm]; rw [hx] at h; exact h⟩
  | pan v s' =>
   obtain ⟨n, hn⟩ := aop_cont hc hx (by simp)
   exact ⟨n, fun m hm => by rw [hn m hm]; rw [hx] at h; exact h⟩
theorem runOps_cont (hc : Lim callW call) : ∀ (ops : List AOper) {env : Env} {s : St} {o : Out}, runOps glob callW cx ops env s = o → o ≠ .fail →
  ∃ n, ∀ m, n ≤ m → runOps glob (call m) cx ops env s = o
 | [], env, s, o, h, ho => ⟨0, fun m _ => h⟩
 | p :: r, env, s, o, h, ho => by
  simp only [runOps] at h ⊢
  cases hx : runOp glob callW cx p env s with
  | fail => rw [hx] at h; exact absurd h.symm ho
  | norm env' s' =>
   rw [hx] at h
   obtain ⟨n, hn⟩ := runOp_cont hc hx (by simp)
   obtain ⟨n', hn'⟩ := runOps_cont hc r h ho
   exact ⟨max n n', fun m hm => by rw [hn m (by omega)]; exact hn' m (by omega)⟩
  | _ =>
   obtain ⟨n, hn⟩ := runOp_cont hc hx (by simp)
   exact ⟨n, fun m hm => by rw [hn m hm]; rw [hx] at h; exact h⟩
theorem qval_cont (hc : Lim callW call) {env : Env} {s : St} {p : AOper} {e : EV} (h : qval glob callW p env s = some e) :
  ∃ n, ∀ m, n ≤ m → qval glob (call m) p env s = some e := by
 unfold qval at h ⊢
 split at h
 ·cases h
 ·exact ⟨0, fun m _ => h⟩
 ·split at h
  ·rename_i hq
   simp only [hq, if_true]
   cases hx : aop glob callW ⟨s.length, s.length⟩ env s p.op with
   | fail => rw [hx] at h; cases h
   | ok e env' s' =>
    obtain ⟨n, hn⟩ := aop_cont hc hx (by simp)
    exact ⟨n, fun m hm => by rw [hn m hm]; rw [hx] at h; exact h⟩
   | pan v s' => rw [hx] at h; cases h
  ·cases h
theorem runD_cont (hc : Lim callW call) {env : Env} {s : St} {p : AOper} {o : Out} (h : runD glob callW cx p env s = o) (ho : o ≠ .fail) :
  ∃ n, ∀ m, n ≤ m → runD glob (call m) cx p env s = o := by
 unfold runD at h ⊢
 split at h
 ·rename_i hq
  simp only [hq, if_true]
  unfold runQ at h ⊢
  cases hx : qval glob callW p env s with
  | none => rw [hx] at h; exact absurd h.symm ho
  | some e =>
   obtain ⟨n, hn⟩ := qval_cont hc hx
   exact ⟨n, fun m hm => by rw [hn m hm]; rw [hx] at h; exact h⟩
 ·rename_i hq
  simp only [hq]
  exact runOp_cont hc h ho
theorem runDraw_cont (hc : Lim callW call) (aops : List AOper) : ∀ (l : List Nat) {env : Env} {s : St} {o : Out}, runDraw glob callW cx aops l env s = o → o ≠ .fail →
  ∃ n, ∀ m, n ≤ m → runDraw glob (call m) cx aops l env s = o
 | [], env, s, o, h, ho => ⟨0, fun m _ => h⟩
 | i :: r, env, s, o, h, ho => by
  simp only [runDraw] at h ⊢
  split at h
  ·exact absurd h.symm ho
  ·rename_i p hp
   cases hx : runD glob callW cx p env s with
   | fail => rw [hx] at h; exact absurd h.symm ho
   | norm env' s' =>
    rw [hx] at h
    obtain ⟨n, hn⟩ := runD_cont hc hx (by simp)
    obtain ⟨n', hn'⟩ := runDraw_cont hc aops r h ho
    exact ⟨max n n', fun m hm => by rw [hn m (by omega)]; exact hn' m (by omega)⟩
   | _ =>
    obtain ⟨n, hn⟩ := runD_cont hc hx (by simp)
    exact ⟨n, fun m hm => by rw [hn m hm]; rw [hx] at h; exact h⟩
theorem runReg_cont (hc : Lim callW call) {ops : List AOper} {ord : Option (List Nat × List Nat)} {env : Env} {s : St} {o : Out} (h : runReg glob callW cx ops env s ord = o) (ho : o ≠ .fail) :
  ∃ n, ∀ m, n ≤ m → runReg glob (call m) cx ops env s ord = o := by
 cases ord with
 | none => exact runOps_cont hc ops h ho
 | some p =>
  simp only [runReg] at h ⊢
  cases hx : runDraw glob callW cx ops p.1 (tipE env p.2) s with
  | fail => rw [hx] at h; exact absurd h.symm ho
  | _ =>
   obtain ⟨n, hn⟩ := runDraw_cont hc ops p.1 hx (by simp)
   exact ⟨n, fun m hm => by rw [hn m hm]; rw [hx] at h; exact h⟩
theorem loop_cont {bodyW : Env → St → Out} {body : Nat → Env → St → Out} {keep : List Nat} (hb : ∀ env s o, bodyW env s = o → o ≠ .fail → ∃ n, ∀ m, n ≤ m → body m env s = o) :
  ∀ (N0 : Nat) {env : Env} {s : St} {o : Out}, loopN bodyW keep N0 env s = o → o ≠ .fail → ∃ n, ∀ m, n ≤ m → ∀ N, N0 ≤ N → loopN (body m) keep N env s = o
 | 0, env, s, o, h, ho => absurd h.symm ho
 | N0 + 1, env, s, o, h, ho => by
  simp only [loopN] at h
  cases hx : bodyW (keepE env keep) s with
  | fail => rw [hx] at h; exact absurd h.symm ho
  | norm env' s' =>
   rw [hx] at h
   obtain ⟨n, hn⟩ := hb _ _ _ hx (by simp)
   obtain ⟨n', hn'⟩ := loop_cont hb N0 h ho
   refine ⟨max n n', fun m hm N hN => ?_⟩
   obtain ⟨k, rfl⟩ : ∃ k, N = k + 1 := ⟨N - 1, by omega⟩
   simp only [loopN]
   rw [hn m (by omega)]; exact hn' m (by omega) k (by omega)
  | _ =>
   obtain ⟨n, hn⟩ := hb _ _ _ hx (by simp)
   refine ⟨n, fun m hm N hN => ?_⟩
   obtain ⟨k, rfl⟩ : ∃ k, N = k + 1 := ⟨N - 1, by omega⟩
   simp only [loopN]
   rw [hn m hm]; rw [hx] at h; exact h
theorem scope_cont {bodyW : Env → St → Out} {body : Nat → Env → St → Out} {l : Nat} {keep : List Nat} (hb : ∀ env s o, bodyW env s = o → o ≠ .fail → ∃ n, ∀ m, n ≤ m → body m env s = o) :
  ∀ (N0 : Nat) {env : Env} {s : St} {o : Out}, scopeN bodyW l keep N0 env s = o → o ≠ .fail → ∃ n, ∀ m, n ≤ m → ∀ N, N0 ≤ N → scopeN (body m) l keep N env s = o
 | 0, env, s, o, h, ho => absurd h.symm ho
 | N0 + 1, env, s, o, h, ho => by
  simp only [scopeN] at h
  cases hx : bodyW (keepE env keep) s with
  | fail => rw [hx] at h; exact absurd h.symm ho
  | goto l' env' s' =>
   rw [hx] at h
   simp only [] at h
   split at h
   ·rename_i hl
    obtain ⟨n, hn⟩ := hb _ _ _ hx (by simp)
    obtain ⟨n', hn'⟩ := scope_cont hb N0 h ho
    refine ⟨max n n', fun m hm N hN => ?_⟩
    obtain ⟨k, rfl⟩ : ∃ k, N = k + 1 := ⟨N - 1, by omega⟩
    simp only [scopeN]
    rw [hn m (by omega)]
    simp only [hl, if_true]
    exact hn' m (by omega) k (by omega)
   ·exact absurd h.symm ho
  | _ =>
   obtain ⟨n, hn⟩ := hb _ _ _ hx (by simp)
   refine ⟨n, fun m hm N hN => ?_⟩
   obtain ⟨k, rfl⟩ : ∃ k, N = k + 1 := ⟨N - 1, by omega⟩
   simp only [scopeN]
   rw [hn m hm]; rw [hx] at h; exact h
theorem acode_cont (hc : Lim callW call) (ro : Bool) : ∀ (c : ACode) (env : Env) (s : St) (o : Out), acodeW glob callW cx ro c env s = o → o ≠ .fail →
  ∃ n, ∀ m, n ≤ m → acode glob (call m) cx ro m c env s = o
 | .skip, env, s, o, h, ho => ⟨0, fun m _ => by simpa [acode, acodeW] using h⟩
 | .ret, env, s, o, h, ho => ⟨0, fun m _ => by simpa [acode, acodeW] using h⟩
 | .exit id, env, s, o, h, ho => ⟨0, fun m _ => by simpa [acode, acodeW] using h⟩
 | .region ops ord keep, env, s, o, h, ho => by
  simp only [acode, acodeW] at h ⊢
  cases hx : runReg glob callW cx ops env s ord with
  | fail => rw [hx] at h; exact absurd h.symm ho
  | _ =>
   obtain ⟨n, hn⟩ := runReg_cont hc hx (by simp)
   exact ⟨n, fun m hm => by rw [hn m hm]; rw [hx] at h; exact h⟩
 | .seq a b, env, s, o, h, ho => by
  simp only [acode, acodeW] at h ⊢
  cases hx : acodeW glob callW cx ro a env s with
  | fail => rw [hx] at h; exact absurd h.symm ho
  | norm env' s' =>
   rw [hx] at h
   obtain ⟨n, hn⟩ := acode_cont hc ro a _ _ _ hx (by simp)
   obtain ⟨n', hn'⟩ := acode_cont hc ro b _ _ _ h ho
   exact ⟨max n n', fun m hm => by rw [hn m (by omega)]; exact hn' m (by omega)⟩
  | _ =>
   obtain ⟨n, hn⟩ := acode_cont hc ro a _ _ _ hx (by simp)
   exact ⟨n, fun m hm => by rw [hn m hm]; rw [hx] at h; exact h⟩
 | .cond c a b, env, s, o, h, ho => by
  simp only [acode, acodeW] at h ⊢
  unfold cndW at h
  split at h
  ·rename_i x hx
   rw [hx]
   cases x with
   | true => exact acode_cont hc ro a _ _ _ (by simpa using h) ho
   | false => exact acode_cont hc ro b _ _ _ (by simpa using h) ho
  ·exact absurd h.symm ho
 | .block id b, env, s, o, h, ho => by
  simp only [acode, acodeW] at h ⊢
  cases hx : acodeW glob callW cx ro b env s with
  | fail => rw [hx] at h; exact absurd h.symm ho
  | _ =>
   obtain ⟨n, hn⟩ := acode_cont hc ro b _ _ _ hx (by simp)
   exact ⟨n, fun m hm => by rw [hn m hm]; rw [hx] at h; exact h⟩
 | .loop keep b, env, s, o, h, ho => by
  simp only [acode, acodeW] at h ⊢
  obtain ⟨N0, hN⟩ := limE_ne h ho
  obtain ⟨n, hn⟩ := loop_cont (body := fun m => acode glob (call m) cx ro m b) (acode_cont hc ro b) N0 (hN N0 (Nat.le_refl _)) ho
  exact ⟨max n N0, fun m hm => hn m (by omega) m (by omega)⟩
 | .range f ps asg body, env, s, o, h, ho => by
  simp only [acode, acodeW] at h ⊢
  split at h
  ·exact absurd h.symm ho
  ·rename_i hro
   simp only [hro]
   unfold rangeW at h
   split at h
   ·rename_i ff as cs hx
    rw [hx]
    simp only []
    cases hy : callW (.fn ff as cs) [.yl (s.length + 1)] (s ++ [.dfr, .loop (plainE env) ps asg body .ready]) cx with
    | fail => rw [hy] at h; exact absurd h.symm ho
    | _ =>
     obtain ⟨n, hn⟩ := hc _ _ _ _ _ hy (by simp)
     exact ⟨n, fun m hm => by rw [hn m hm]; rw [hy] at h; exact h⟩
   ·exact absurd h.symm ho
 | .label l, env, s, o, h, ho => ⟨0, fun m _ => by simpa [acode, acodeW] using h⟩
 | .goto l, env, s, o, h, ho => ⟨0, fun m _ => by simpa [acode, acodeW] using h⟩
 | .scope l keep a b, env, s, o, h, ho => by
  simp only [acode, acodeW] at h ⊢
  cases hx : acodeW glob callW cx ro a env s with
  | fail => rw [hx] at h; exact absurd h.symm ho
  | goto l' env' s' =>
   rw [hx] at h
   simp only [Out.jmp] at h
   split at h
   ·rename_i hl
    obtain ⟨n, hn⟩ := acode_cont hc ro a _ _ _ hx (by simp)
    obtain ⟨N0, hN⟩ := limE_ne h ho
    obtain ⟨n', hn'⟩ := scope_cont (body := fun m => acode glob (call m) cx ro m b) (acode_cont hc ro b) N0 (hN N0 (Nat.le_refl _)) ho
    exact ⟨max n (max n' N0), fun m hm => by rw [hn m (by omega)]; simp only [hl, if_true]; exact hn' m (by omega) m (by omega)⟩
   ·exact absurd h.symm ho
  | _ =>
   obtain ⟨n, hn⟩ := acode_cont hc ro a _ _ _ hx (by simp)
   exact ⟨n, fun m hm => by rw [hn m hm]; rw [hx] at h; exact h⟩
theorem callFn_cont (hc : Lim callW call) {fn : AFun} {args : List AV} {s : St} {o : CO} (h : callFnW glob callW fn args s cx = o) (ho : o ≠ .fail) :
  ∃ n, ∀ m, n ≤ m → callFn glob (call m) m fn args s cx = o := by
 unfold callFnW at h
 unfold callFn
 split at h
 ·rename_i hnp
  simp only [hnp, if_true]
  cases hx : acodeW glob callW ⟨if fn.pure = true then s.length else cx.lim, if fn.keep = true then cx.base else s.length⟩ fn.keep fn.code (env0 args 0) s with
  | fail => rw [hx] at h; exact absurd h.symm ho
  | _ =>
   obtain ⟨n, hn⟩ := acode_cont hc _ _ _ _ _ hx (by simp)
   exact ⟨n, fun m hm => by rw [hn m hm]; rw [hx] at h; exact h⟩
 ·exact absurd h.symm ho
theorem yield_cont (hc : Lim callW call) {l : Nat} {args : List AV} {s : St} {o : CO} (h : yieldW glob callW l args s cx = o) (ho : o ≠ .fail) :
  ∃ n, ∀ m, n ≤ m → yieldA glob (call m) m l args s cx = o := by
 unfold yieldW at h
 unfold yieldA
 split at h
 ·rename_i env ps asg body hl
  rw [hl]
  simp only []
  split at h
  ·rename_i hcond
   simp only [hcond, and_self, if_true]
   cases hx : acodeW glob callW cx true asg (setPs env ps args) s with
   | norm env1 s1 =>
    obtain ⟨n, hn⟩ := acode_cont hc true _ _ _ _ hx (by simp)
    rw [hx] at h
    unfold bodyW at h
    simp only [] at h
    split at h
    ·rename_i e1 p1 a1 b1 hl1
     cases hy : acodeW glob callW cx true body env1 (s1.set l (.loop e1 p1 a1 b1 .busy)) with
     | fail => rw [hy] at h; exact absurd h.symm ho
     | _ =>
      obtain ⟨n', hn'⟩ := acode_cont hc true _ _ _ _ hy (by simp)
      exact ⟨max n n', fun m hm => by rw [hn m (by omega)]; simp only [hl1]; rw [hn' m (by omega)]; rw [hy] at h; exact h⟩
    ·exact absurd h.symm ho
   | _ => rw [hx] at h; exact absurd h.symm ho
  ·exact absurd h.symm ho
 ·exact absurd h.symm ho
end
theorem mapM_lim {α β : Type} {f : α → Option β} {g : Nat → α → Option β} : ∀ (l : List α) {r : List β}, (∀ x ∈ l, ∀ y, f x = some y → ∃ n, ∀ m, n ≤ m → g m x = some y) → l.mapM f = some r → ∃ n, ∀ m, n ≤ m → l.mapM (g m) = some r
 | [], r, _, h => ⟨0, fun m _ => by simpa using h⟩
 | x :: l, r, hf, h => by
  simp only [List.mapM_cons, Option.bind_eq_bind, Option.pure_def] at h ⊢
  cases hx : f x with
  | none => simp [hx] at h
  | some y =>
   cases hl : l.mapM f with
   | none => simp [hx, hl] at h
   | some ys =>
    simp [hx, hl] at h
    subst h
    obtain ⟨n, hn⟩ := hf x (by simp) y hx
    obtain ⟨n', hn'⟩ := mapM_lim l (fun z hz => hf z (by simp [hz])) hl
    exact ⟨max n n', fun m hm => by rw [hn m (by omega), hn' m (by omega)]; rfl⟩
theorem cmp2_cont {callW : AV → List AV → St → Ctx → CO} {call : Nat → AV → List AV → St → Ctx → CO} (hc : Lim callW call) {g : Nat} {x y : AV} {r : Int} (h : cmp2 callW g x y = some r) :
  ∃ n, ∀ m, n ≤ m → cmp2 (call m) g x y = some r := by
 unfold cmp2 at h ⊢
 cases hx : callW (.fn (.func g) [] []) [x, y] [] ⟨0, 0⟩ with
 | fail => rw [hx] at h; cases h
 | pan v s => rw [hx] at h; cases h
 | ret v s =>
  obtain ⟨n, hn⟩ := hc _ _ _ _ _ hx (by simp)
  exact ⟨n, fun m hm => by rw [hn m hm]; rw [hx] at h; exact h⟩
theorem cmpTab_cont {callW : AV → List AV → St → Ctx → CO} {call : Nat → AV → List AV → St → Ctx → CO} (hc : Lim callW call) {g : Nat} {es : List AV} {tab : List (List Int)} (h : cmpTab callW g es = some tab) :
  ∃ n, ∀ m, n ≤ m → cmpTab (call m) g es = some tab :=
 mapM_lim (g := fun m x => es.mapM fun y => cmp2 (call m) g x y) es (fun _ _ _ hx => mapM_lim (g := fun m y => cmp2 (call m) g _ y) es (fun _ _ _ hy => cmp2_cont hc hy) hx) h
theorem callHi_cont {callW qcallW : AV → List AV → St → Ctx → CO} {call qcall : Nat → AV → List AV → St → Ctx → CO} {cx : Ctx} (hc : Lim callW call) (hq : Lim qcallW qcall) {k : HiK} {args : List AV} {s : St} {o : CO}
  (h : callHi callW qcallW k args s cx = o) (ho : o ≠ .fail) : ∃ n, ∀ m, n ≤ m → callHi (call m) (qcall m) k args s cx = o := by
 unfold callHi at h
 split at h
 ·rename_i r f as cs
  cases hx : callW (.fn (.func f) as cs) [] s cx with
  | ret r1 s1 =>
   obtain ⟨n, hn⟩ := hc _ _ _ _ _ hx (by simp)
   exact ⟨n, fun m hm => by simp only [callHi, hn m hm]; rw [hx] at h; exact h⟩
  | pan r1 s1 =>
   obtain ⟨n, hn⟩ := hc _ _ _ _ _ hx (by simp)
   exact ⟨n, fun m hm => by simp only [callHi, hn m hm]; rw [hx] at h; exact h⟩
  | fail => rw [hx] at h; exact absurd h.symm ho
 ·exact ⟨0, fun m _ => by simpa [callHi] using h⟩
 ·rename_i k0 l ver sz o m g
  split at h
  ·exact ⟨0, fun m _ => by simpa [callHi] using h⟩
  ·rename_i n t sz' ver' cs hl
   split at h
   ·rename_i hcond
    cases hx : cmpTab qcallW g (chunk sz (n + 1) (cs.drop o)) with
    | none => rw [hx] at h; exact absurd h.symm ho
    | some tab =>
     obtain ⟨n1, hn⟩ := cmpTab_cont hq hx
     exact ⟨n1, fun m hm => by simp only [callHi, hl]; rw [if_pos hcond, hn m hm]; rw [hx] at h; exact h⟩
   ·exact absurd h.symm ho
  ·exact absurd h.symm ho
 ·exact absurd h.symm ho
noncomputable def acallW (A : AProg) (fv : AV) (args : List AV) (s : St) (cx : Ctx) : CO := limE .fail fun n => acall A n fv args s cx
theorem acallW_lim (A : AProg) : Lim (acallW A) (acall A) := fun fv args s cx c h hc => limE_ne h hc
theorem acallW_fn {A : AProg} {f : Nat} {fn : AFun} (hi : A.intr f = none) (hh : A.hi f = none) (hf : A.fns f = some fn) {as cs args : List AV} {s : St} {cx : Ctx} {o : CO} (ho : o ≠ .fail)
  (h : callFnW A.glob (acallW A) fn (as ++ args ++ cs) s cx = o) : acallW A (.fn (.func f) as cs) args s cx = o := by
 obtain ⟨n, hn⟩ := callFn_cont (acallW_lim A) h ho
 exact limE_eq (n := n + 1) (fun m hm => by obtain ⟨k, rfl⟩ : ∃ k, m = k + 1 := ⟨m - 1, by omega⟩; simp only [acall, hi, hh, hf]; exact hn k (by omega))
theorem acallW_hi {A : AProg} {f : Nat} {k : HiK} (hi : A.intr f = none) (hf : A.hi f = some k) {as cs args : List AV} {s : St} {cx : Ctx} {o : CO} (ho : o ≠ .fail)
  (h : callHi (acallW A) (acallW A.quiet) k (as ++ args ++ cs) s cx = o) : acallW A (.fn (.func f) as cs) args s cx = o := by
 obtain ⟨n, hn⟩ := callHi_cont (acallW_lim A) (acallW_lim A.quiet) h ho
 exact limE_eq (n := n + 1) (fun m hm => by obtain ⟨k, rfl⟩ : ∃ k, m = k + 1 := ⟨m - 1, by omega⟩; simp only [acall, hi, hf]; exact hn k (by omega))
theorem acallW_intrS {A : AProg} {f : Nat} {h : List AV → St → Option AV} (hi : A.intr f = some h) {as cs args : List AV} {s : St} {cx : Ctx} {r : AV} (hr : h (as ++ args ++ cs) s = some r) :
  acallW A (.fn (.func f) as cs) args s cx = .ret r s :=
 limE_eq (n := 1) (fun m hm => by obtain ⟨k, rfl⟩ : ∃ k, m = k + 1 := ⟨m - 1, by omega⟩; simp only [acall, hi, hr])
theorem acallW_yl {A : AProg} {l : Nat} {args : List AV} {s : St} {cx : Ctx} {o : CO} (ho : o ≠ .fail) (h : yieldW A.glob (acallW A) l args s cx = o) : acallW A (.yl l) args s cx = o := by
 obtain ⟨n, hn⟩ := yield_cont (acallW_lim A) h ho
 exact limE_eq (n := n + 1) (fun m hm => by obtain ⟨k, rfl⟩ : ∃ k, m = k + 1 := ⟨m - 1, by omega⟩; simp only [acall]; exact hn k (by omega))
theorem acallW_ret {A : AProg} {fv : AV} {args : List AV} {s s' : St} {cx : Ctx} {r : AV} (h : acallW A fv args s cx = .ret r s') : ∃ n, acall A n fv args s cx = .ret r s' := by
 obtain ⟨n, hn⟩ := limE_ne h (by simp)
 exact ⟨n, hn n (Nat.le_refl _)⟩
end Go.Ai
namespace Go.Ai
section
variable {glob : Nat → Option (List AV)} {call callW : AV → List AV → St → Ctx → CO} {cx : Ctx}
def CallLe (call callW : AV → List AV → St → Ctx → CO) : Prop := ∀ fv args s cx c, call fv args s cx = c → c ≠ .fail → callW fv args s cx = c
theorem runReg_le (hc : CallLe call callW) {ops : List AOper} {ord : Option (List Nat × List Nat)} {env : Env} {s : St} {o : Out} (h : runReg glob call cx ops env s ord = o) (ho : o ≠ .fail) :
  runReg glob callW cx ops env s ord = o := by
 have : Lim call (fun _ => callW) := fun fv args s cx c h hne => ⟨0, fun _ _ => hc fv args s cx c h hne⟩
 obtain ⟨n, hn⟩ := runReg_cont this h ho
 exact hn n (Nat.le_refl _)
theorem loop_le {body bodyW : Env → St → Out} {keep : List Nat} (hb : ∀ env s o, body env s = o → o ≠ .fail → bodyW env s = o) :
  ∀ (N : Nat) {env : Env} {s : St} {o : Out}, loopN body keep N env s = o → o ≠ .fail → loopW bodyW keep env s = o
 | 0, env, s, o, h, ho => absurd h.symm ho
 | N + 1, env, s, o, h, ho => by
  simp only [loopN] at h
  rw [loopW_eq]
  cases hx : body (keepE env keep) s with
  | fail => rw [hx] at h; exact absurd h.symm ho
  | norm env' s' =>
   rw [hx] at h
   rw [hb _ _ _ hx (by simp)]
   exact loop_le hb N h ho
  | _ => rw [hb _ _ _ hx (by simp)]; rw [hx] at h; exact h
theorem scope_le {body bodyW : Env → St → Out} {l : Nat} {keep : List Nat} (hb : ∀ env s o, body env s = o → o ≠ .fail → bodyW env s = o) :
  ∀ (N : Nat) {env : Env} {s : St} {o : Out}, scopeN body l keep N env s = o → o ≠ .fail → scopeW bodyW l keep env s = o
 | 0, env, s, o, h, ho => absurd h.symm ho
 | N + 1, env, s, o, h, ho => by
  simp only [scopeN] at h
  rw [scopeW_eq]
  cases hx : body (keepE env keep) s with
  | fail => rw [hx] at h; exact absurd h.symm ho
  | goto l' env' s' =>
   rw [hx] at h
   rw [hb _ _ _ hx (by simp)]
   simp only [Out.jmp] at h ⊢
   split at h
   ·rename_i hl; simp only [hl, if_true]; exact scope_le hb N h ho
   ·exact absurd h.symm ho
  | _ => rw [hb _ _ _ hx (by simp)]; rw [hx] at h; exact h
theorem acode_le (hc : CallLe call callW) (ro : Bool) (N : Nat) : ∀ (c : ACode) (env : Env) (s : St) (o : Out), acode glob call cx ro N c env s = o → o ≠ .fail → acodeW glob callW cx ro c env s = o
 | .skip, env, s, o, h, ho => by simpa [acode, acodeW] using h
 | .ret, env, s, o, h, ho => by simpa [acode, acodeW] using h
 | .exit id, env, s, o, h, ho => by simpa [acode, acodeW] using h
 | .region ops ord keep, env, s, o, h, ho => by
  simp only [acode, acodeW] at h ⊢
  cases hx : runReg glob call cx ops env s ord with
  | fail => rw [hx] at h; exact absurd h.symm ho
  | _ => rw [runReg_le hc hx (by simp)]; rw [hx] at h; exact h
 | .seq a b, env, s, o, h, ho => by
  simp only [acode, acodeW] at h ⊢
  cases hx : acode glob call cx ro N a env s with
  | fail => rw [hx] at h; exact absurd h.symm ho
  | norm env' s' =>
   rw [hx] at h
   rw [acode_le hc ro N a _ _ _ hx (by simp)]
   exact acode_le hc ro N b _ _ _ h ho
  | _ => rw [acode_le hc ro N a _ _ _ hx (by simp)]; rw [hx] at h; exact h
 | .cond c a b, env, s, o, h, ho => by
  simp only [acode, acodeW] at h ⊢
  unfold cndW
  split at h
  ·rename_i hx; rw [hx]; simpa using acode_le hc ro N a _ _ _ h ho
  ·rename_i hx; rw [hx]; simpa using acode_le hc ro N b _ _ _ h ho
  ·exact absurd h.symm ho
 | .block id b, env, s, o, h, ho => by
  simp only [acode, acodeW] at h ⊢
  cases hx : acode glob call cx ro N b env s with
  | fail => rw [hx] at h; exact absurd h.symm ho
  | _ => rw [acode_le hc ro N b _ _ _ hx (by simp)]; rw [hx] at h; exact h
 | .loop keep b, env, s, o, h, ho => by
  simp only [acode, acodeW] at h ⊢
  exact loop_le (acode_le hc ro N b) N h ho
 | .range f ps asg body, env, s, o, h, ho => by
  simp only [acode, acodeW] at h ⊢
  split at h
  ·exact absurd h.symm ho
  ·rename_i hro
   simp only [hro]
   unfold rangeW
   split at h
   ·rename_i ff as cs hx
    rw [hx]
    cases hy : call (.fn ff as cs) [.yl (s.length + 1)] (s ++ [.dfr, .loop (plainE env) ps asg body .ready]) cx with
    | fail => rw [hy] at h; exact absurd h.symm ho
    | _ =>
     have := hc _ _ _ _ _ hy (by simp)
     rw [hy] at h
     simpa [this] using h
   ·exact absurd h.symm ho
 | .label l, env, s, o, h, ho => by simpa [acode, acodeW] using h
 | .goto l, env, s, o, h, ho => by simpa [acode, acodeW] using h
 | .scope l keep a b, env, s, o, h, ho => by
  simp only [acode, acodeW] at h ⊢
  cases hx : acode glob call cx ro N a env s with
  | fail => rw [hx] at h; exact absurd h.symm ho
  | goto l' env' s' =>
   rw [hx] at h
   rw [acode_le hc ro N a _ _ _ hx (by simp)]
   simp only [Out.jmp] at h ⊢
   split at h
   ·rename_i hl; simp only [hl, if_true]; exact scope_le (acode_le hc ro N b) N h ho
   ·exact absurd h.symm ho
  | _ => rw [acode_le hc ro N a _ _ _ hx (by simp)]; rw [hx] at h; exact h
theorem callFn_le (hc : CallLe call callW) {N : Nat} {fn : AFun} {args : List AV} {s : St} {o : CO} (h : callFn glob call N fn args s cx = o) (ho : o ≠ .fail) : callFnW glob callW fn args s cx = o := by
 unfold callFn at h
 unfold callFnW
 split at h
 ·rename_i hnp
  simp only [hnp, if_true]
  cases hx : acode glob call ⟨if fn.pure then s.length else cx.lim, if fn.keep then cx.base else s.length⟩ fn.keep N fn.code (env0 args 0) s with
  | fail => rw [hx] at h; exact absurd h.symm ho
  | _ => rw [acode_le hc _ N _ _ _ _ hx (by simp)]; rw [hx] at h; exact h
 ·exact absurd h.symm ho
theorem yield_le (hc : CallLe call callW) {N l : Nat} {args : List AV} {s : St} {o : CO} (h : yieldA glob call N l args s cx = o) (ho : o ≠ .fail) : yieldW glob callW l args s cx = o := by
 unfold yieldA at h
 unfold yieldW
 split at h
 ·rename_i env ps asg body hl
  rw [hl]
  simp only []
  split at h
  ·rename_i hcond
   simp only [hcond, and_self, if_true]
   cases hx : acode glob call cx true N asg (setPs env ps args) s with
   | norm env1 s1 =>
    rw [acode_le hc true N _ _ _ _ hx (by simp)]
    rw [hx] at h
    unfold bodyW
    simp only [] at h ⊢
    split at h
    ·rename_i e1 p1 a1 b1 hl1
     rw [hl1]
     simp only []
     cases hy : acode glob call cx true N body env1 (s1.set l (.loop e1 p1 a1 b1 .busy)) with
     | fail => rw [hy] at h; exact absurd h.symm ho
     | _ => rw [acode_le hc true N _ _ _ _ hy (by simp)]; rw [hy] at h; exact h
    ·exact absurd h.symm ho
   | _ => rw [hx] at h; exact absurd h.symm ho
  ·exact absurd h.symm ho
 ·exact absurd h.symm ho
end
theorem callHi_le {call callW qcall qcallW : AV → List AV → St → Ctx → CO} {cx : Ctx} (hc : CallLe call callW) (hq : CallLe qcall qcallW) {k : HiK} {args : List AV} {s : St} {o : CO} (h : callHi call qcall k args s cx = o) (ho : o ≠ .fail) :
  callHi callW qcallW k args s cx = o := by
 have h1 : Lim call (fun _ => callW) := fun fv args s cx c h hne => ⟨0, fun _ _ => hc fv args s cx c h hne⟩
 have h2 : Lim qcall (fun _ => qcallW) := fun fv args s cx c h hne => ⟨0, fun _ _ => hq fv args s cx c h hne⟩
 obtain ⟨n, hn⟩ := callHi_cont h1 h2 h ho
 exact hn n (Nat.le_refl _)
theorem acall_leA : ∀ (n : Nat) (A : AProg), CallLe (acall A n) (acallW A)
 | 0, A => fun fv args s cx c h hne => by simp only [acall] at h; exact absurd h.symm hne
 | n + 1, A => fun fv args s cx c h hne => by
  have ih := acall_leA n A
  cases fv with
  | fn f as cs =>
   cases f with
   | func fid =>
    simp only [acall] at h
    split at h
    ·rename_i hh hin
     split at h
     ·rename_i r hr; rw [← h]; exact acallW_intrS hin hr
     ·exact absurd h.symm hne
    ·rename_i hin
     split at h
     ·rename_i k hk; exact acallW_hi hin hk hne (callHi_le ih (acall_leA n A.quiet) h hne)
     ·rename_i hk
      split at h
      ·rename_i fn hfn; exact acallW_fn hin hk hfn hne (callFn_le ih h hne)
      ·exact absurd h.symm hne
   | _ => simp only [acall] at h; exact absurd h.symm hne
  | yl l => simp only [acall] at h; exact acallW_yl hne (yield_le ih h hne)
  | _ => simp only [acall] at h; exact absurd h.symm hne
theorem acall_le (A : AProg) (n : Nat) : CallLe (acall A n) (acallW A) := acall_leA n A
end Go.Ai
