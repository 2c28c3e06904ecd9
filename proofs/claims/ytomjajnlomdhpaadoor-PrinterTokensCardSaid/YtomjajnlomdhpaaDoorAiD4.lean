/-
  Open regions: operations change places.
-/
import Derived.Test.YtomjajnlomdhpaaDoorAiD2
set_option maxRecDepth 100000
set_option linter.unusedSimpArgs false
set_option linter.unusedVariables false
namespace Go.Ai

variable {P : Program} {glob : Nat → Option (List AV)} {g : Ghost} {s : St} {B : Nat} {w : World} {env env2 : Env} {a : Act} {call : AV → List AV → St → Ctx → CO} {cx : Ctx} {env' : Env} {s' : St} {ops : Array Oper} {aops : List AOper}

def QuietI (aops : List AOper) (i : Nat) : Prop := ∃ o, aops[i]? = some o ∧ o.op.quiet.isSome = true

theorem runD_quiet {o : AOper} (h : o.op.quiet.isSome = true) : runD glob call cx o env s = runQ glob call o env s := by
  unfold runD; rw [if_pos h]
theorem runD_loud {o : AOper} (h : o.op.quiet.isSome = false) : runD glob call cx o env s = runOp glob call cx o env s := by
  unfold runD; rw [if_neg (by rw [h]; simp)]

theorem put_plain {d : Nat} {e : EV} (h : ownsAt env d = false) : put env d e = (d, e) :: env := by
  unfold put
  unfold ownsAt at h
  split
  · rename_i o ho; rw [ho] at h; simp [h]
  · rfl

/-- What the operations of a list come to, one behind the other; entries for the same slots may be told otherwise in between. -/
def Runs (glob : Nat → Option (List AV)) (call : AV → List AV → St → Ctx → CO) (cx : Ctx) (aops : List AOper) : List Nat → Env → St → Env → St → Prop
  | [], env, s, env', s' => EqE env env' ∧ s' = s
  | i :: r, env, s, env', s' => ∃ o env0 env1 s1, aops[i]? = some o ∧ EqE env env0 ∧ runD glob call cx o env0 s = .norm env1 s1 ∧ Runs glob call cx aops r env1 s1 env' s'

theorem EqE.trans {env3 : Env} (h : EqE env env2) (h' : EqE env2 env3) : EqE env env3 := fun k => (h k).trans (h' k)
theorem EqE.symm (h : EqE env env2) : EqE env2 env := fun k => (h k).symm
theorem EqE.refl (env : Env) : EqE env env := fun _ => rfl

theorem Runs.eqE {l : List Nat} (h : Runs glob call cx aops l env s env' s') (he : EqE env2 env) : Runs glob call cx aops l env2 s env' s' := by
  cases l with
  | nil => exact ⟨he.trans h.1, h.2⟩
  | cons i r => obtain ⟨o, e0, e1, s1, h1, h2, h3, h4⟩ := h; exact ⟨o, e0, e1, s1, h1, he.trans h2, h3, h4⟩

theorem runs_of : ∀ (l : List Nat) {env : Env} {s : St}, runDraw glob call cx aops l env s = .norm env' s' → Runs glob call cx aops l env s env' s'
  | [], env, s, h => by simp only [runDraw, Out.norm.injEq] at h; exact ⟨by rw [h.1]; exact .refl _, h.2.symm⟩
  | i :: r, env, s, h => by
    simp only [runDraw] at h
    split at h
    · cases h
    · rename_i o ho
      split at h
      · rename_i env1 s1 hr; exact ⟨o, env, env1, s1, ho, .refl _, hr, runs_of r h⟩
      · rename_i hne; exact absurd h (hne _ _)

/-! ### An append and a load -/

theorem lk_put_own {d : Nat} {e : EV} {k : Nat} (hk : k ≠ d) : lk (put env d e) k = (if ownsAt env d = true then (lk env k).map (fun x => if x.refers d then .v .u else x) else lk env k) := by
  by_cases ho : ownsAt env d = true
  · rw [if_pos ho]
    unfold ownsAt at ho
    unfold put
    split
    · rename_i o hlo
      rw [hlo] at ho
      simp only [] at ho
      rw [if_pos ho, lk_cons_ne _ _ (Ne.symm hk), lk_unref]
    · rename_i hlo; rw [hlo] at ho; cases ho
  · rw [if_neg ho, put_plain (by simpa using ho), lk_cons_ne _ _ (Ne.symm hk)]

theorem ins_put {X X' : Env} {d dj : Nat} {e : EV} {v : AV} (hd : d ≠ dj) (hx : ∀ j, j ≠ d → lk X j = lk X' j) (hv : lk X d = some (.v v)) : EqE (put X dj e) ((d, .v v) :: put X' dj e) := by
  intro k
  have hown : ownsAt X dj = ownsAt X' dj := by unfold ownsAt; rw [hx dj (Ne.symm hd)]
  by_cases hk : k = d
  · subst hk
    rw [lk_cons_same, lk_put_own hd]
    split
    · rw [hv]; rfl
    · exact hv
  · rw [lk_cons_ne _ _ (Ne.symm hk)]
    by_cases hkj : k = dj
    · subst hkj; rw [lk_put_same, lk_put_same]
    · rw [lk_put_own hkj, lk_put_own hkj, hown, hx k hk]

theorem put_none {d k : Nat} {e : EV} (h : lk (put env d e) k = none) : k ≠ d ∧ lk env k = none := by
  have hk : k ≠ d := fun hk => by subst hk; rw [lk_put_same] at h; cases h
  rw [lk_put_own hk] at h
  split at h
  · exact ⟨hk, by simpa using h⟩
  · exact ⟨hk, h⟩
theorem put_v {d k : Nat} {e : EV} (he : e.owns = true) {x : AV} (hx : x ≠ .u) (h : lk (put env d e) k = some (.v x)) : lk env k = some (.v x) := by
  have hk : k ≠ d := fun hk => by subst hk; rw [lk_put_same] at h; cases h; cases he
  rw [lk_put_own hk] at h
  split at h
  · cases hl : lk env k with
    | none => rw [hl] at h; cases h
    | some y =>
      rw [hl] at h
      simp only [Option.map_some, Option.some.injEq] at h
      split at h
      · cases h; exact absurd rfl hx
      · rw [h]
  · exact h
theorem drop_none {k j : Nat} (h : lk ((k, EV.v .u) :: unref env k) j = none) : j ≠ k ∧ lk env j = none := by
  have hk : j ≠ k := fun hk => by subst hk; rw [lk_cons_same] at h; cases h
  rw [lk_cons_ne _ _ (Ne.symm hk), lk_unref] at h
  exact ⟨hk, by simpa using h⟩
theorem drop_v {k j : Nat} {x : AV} (hx : x ≠ .u) (h : lk ((k, EV.v .u) :: unref env k) j = some (.v x)) : lk env j = some (.v x) := by
  have hk : j ≠ k := fun hk => by subst hk; rw [lk_cons_same] at h; cases h; exact absurd rfl hx
  rw [lk_cons_ne _ _ (Ne.symm hk), lk_unref] at h
  cases hl : lk env j with
  | none => rw [hl] at h; cases h
  | some y =>
    rw [hl] at h
    simp only [Option.map_some, Option.some.injEq] at h
    split at h
    · cases h; exact absurd rfl hx
    · rw [h]

/-- What an append yields, and what it takes. -/
theorem aop_app {op : AOp} (ho : op.isApp = true) {e : EV} {env1 : Env} {s1 : St} (h : aop glob call cx env s op = .ok e env1 s1) : s1 = s ∧ e.owns = true ∧ (env1 = env ∨ ∃ k x, lk env k = some x ∧ env1 = (k, .v .u) :: unref env k) := by
  cases op <;> first | (cases ho; done) | skip
  · simp only [aop] at h
    split at h
    · split at h
      · rename_i _ _ _ _ _ _ hl
        split at h
        · cases h; exact ⟨rfl, rfl, .inr ⟨_, _, hl, rfl⟩⟩
        · cases h
      · cases h
    · split at h
      · split at h
        · cases h; exact ⟨rfl, rfl, .inl rfl⟩
        · cases h
      · cases h
    · cases h
  · simp only [aop] at h
    split at h
    · split at h
      · rename_i _ _ _ _ _ _ hl
        split at h
        · cases h; exact ⟨rfl, rfl, .inr ⟨_, _, hl, rfl⟩⟩
        · cases h
      · cases h
    · cases h

section
variable {d : Nat} {v : AV} (hd : lk env d = none)
include hd

theorem ins_lk {k : Nat} {x : EV} (h : lk env k = some x) : lk ((d, .v v) :: env) k = some x := by
  have : d ≠ k := fun hk => by subst hk; rw [hd] at h; cases h
  rw [lk_cons_ne _ _ this]; exact h
theorem ins_ev {x : IX} {y : EV} (h : ev glob env x = some y) : ev glob ((d, .v v) :: env) x = some y := by
  cases x with
  | t k => exact ins_lk hd h
  | c a => exact h
  | g k => exact h
theorem ins_rd {x : IX} {y : AV} (h : rd glob env x = some y) : rd glob ((d, .v v) :: env) x = some y := by
  unfold rd at h ⊢
  cases he : ev glob env x with
  | none => rw [he] at h; cases h
  | some z => rw [ins_ev hd he]; rw [he] at h; exact h
theorem ins_elems {x : IX} {y : List AV} (h : elems glob env x = some y) : elems glob ((d, .v v) :: env) x = some y := by
  unfold elems at h ⊢
  cases he : ev glob env x with
  | none => rw [he] at h; cases h
  | some z =>
    rw [ins_ev hd he]
    rw [he] at h
    cases z with
    | al j =>
      simp only [] at h ⊢
      cases hj : lk env j with
      | none => rw [hj] at h; cases h
      | some o => rw [ins_lk hd hj]; rw [hj] at h; exact h
    | v a => cases a <;> exact h
    | _ => exact h
theorem ins_own {x : IX} (hx : ev glob env x ≠ none) : ownKey ((d, .v v) :: env) x = ownKey env x := by
  cases x with
  | t k =>
    cases hk : lk env k with
    | none => exact absurd hk hx
    | some o => simp only [ownKey, ins_lk hd hk, hk]
  | c a => rfl
  | g k => rfl

theorem ins_app {op : AOp} (ho : op.isApp = true) {e : EV} {env1 : Env} (h : aop glob call cx env s op = .ok e env1 s) :
    ∃ env2, aop glob call cx ((d, .v v) :: env) s op = .ok e env2 s ∧ lk env2 d = some (.v v) ∧ ∀ j, j ≠ d → lk env2 j = lk env1 j := by
  have key : ∀ k, (∃ x, lk env k = some x) → lk ((k, EV.v .u) :: (d, .v v) :: unref env k) d = some (.v v) ∧ ∀ j, j ≠ d → lk ((k, EV.v .u) :: (d, .v v) :: unref env k) j = lk ((k, .v .u) :: unref env k) j := by
    intro k ⟨x, hk⟩
    have hne : k ≠ d := fun hk' => by subst hk'; rw [hd] at hk; cases hk
    refine ⟨by rw [lk_cons_ne _ _ hne, lk_cons_same], fun j hj => ?_⟩
    by_cases hkj : k = j
    · subst hkj; rw [lk_cons_same, lk_cons_same]
    · rw [lk_cons_ne _ _ hkj, lk_cons_ne _ _ (Ne.symm hj), lk_cons_ne _ _ hkj]
  cases op <;> first | (cases ho; done) | skip
  · rename_i t sz x y
    simp only [aop] at h ⊢
    cases hy : elems glob env y with
    | none => rw [hy] at h; simp at h
    | some ys =>
      rw [hy] at h
      rw [ins_elems hd hy]
      have hx : ev glob env x ≠ none := by
        intro hn
        cases x with
        | t k =>
          have hk : lk env k = none := hn
          simp [ownKey, hk, rd, ev] at h
        | c a => cases hn
        | g k => simp [ownKey, rd, hn] at h
      have hyn : ev glob env y ≠ none := by intro hn; unfold elems at hy; rw [hn] at hy; cases hy
      rw [ins_own hd hx, ins_own hd hyn]
      cases hk : ownKey env x with
      | none =>
        rw [hk] at h
        simp only [] at h ⊢
        cases hr : rd glob env x with
        | none => rw [hr] at h; cases h
        | some z =>
          rw [hr] at h
          rw [ins_rd hd hr]
          split at h
          · split at h
            · rename_i hz hc
              cases h
              cases hz
              exact ⟨_, by rw [if_pos hc], lk_cons_same _ _ _, fun j hj => lk_cons_ne _ _ (Ne.symm hj)⟩
            · cases h
          · cases h
      | some k =>
        rw [hk] at h
        simp only [] at h ⊢
        cases hl : lk env k with
        | none => rw [hl] at h; cases h
        | some o =>
          rw [hl] at h
          rw [ins_lk hd hl]
          cases o <;> simp only [] at h ⊢ <;> first | (cases h; done) | skip
          split at h
          · rename_i hc
            cases h
            rw [if_pos hc]
            exact ⟨_, rfl, key k ⟨_, hl⟩⟩
          · cases h
  · rename_i t x y
    simp only [aop] at h ⊢
    cases hy : rd glob env y with
    | none => rw [hy] at h; simp at h
    | some ys =>
      rw [hy] at h
      rw [ins_rd hd hy]
      cases hk : ownKey env x with
      | none => rw [hk] at h; cases ys <;> cases h
      | some k =>
        have hx : ev glob env x ≠ none := by
          intro hn
          cases x with
          | t k' => have hk' : lk env k' = none := hn; simp [ownKey, hk'] at hk
          | c a => cases hn
          | g k' => simp [ownKey] at hk
        rw [ins_own hd hx]
        rw [hk] at h ⊢
        cases ys <;> simp only [] at h ⊢ <;> first | (cases h; done) | skip
        cases hl : lk env k with
        | none => rw [hl] at h; cases h
        | some o =>
          rw [hl] at h
          rw [ins_lk hd hl]
          cases o <;> simp only [] at h ⊢ <;> first | (cases h; done) | skip
          split at h
          · rename_i hc
            cases h
            rw [if_pos hc]
            exact ⟨_, rfl, key k ⟨_, hl⟩⟩
          · cases h
end

theorem apartL_spec {o p : AOper} (h : apartL o p = true) : o.op.isApp = true ∧ o.guard = none ∧ ∃ d n x, p = ⟨some d, none, .loadp d n x⟩ := by
  simp only [apartL, Bool.and_eq_true, Option.isNone_iff_eq_none] at h
  obtain ⟨⟨⟨h1, h2⟩, h3⟩, h4⟩ := h
  refine ⟨h1, h2, ?_⟩
  obtain ⟨dst, gd, op⟩ := p
  simp only [] at h3 h4
  subst h3
  cases op <;> first | (cases dst <;> cases h4; done) | skip
  cases dst with
  | none => cases h4
  | some d' =>
    simp at h4
    subst h4
    exact ⟨_, _, _, rfl⟩

theorem app_loud {op : AOp} (h : op.isApp = true) : op.quiet.isSome = false := by cases op <;> first | rfl | (cases h; done)

theorem loadp_iff {d : Nat} {n : Option Nat} {x : IX} {env1 : Env} {s1 : St} : runQ glob call ⟨some d, none, .loadp d n x⟩ env s = .norm env1 s1 ↔
    s1 = s ∧ lk env d = none ∧ ∃ v0 v, ev glob env x = some (.v v0) ∧ loadE glob env s n x = some v ∧ env1 = (d, .v v) :: env := by
  rw [runQ_iff]
  constructor
  · rintro ⟨h1, e, hq, hd, rfl⟩
    refine ⟨h1, ?_⟩
    unfold qval at hq
    simp only [wantedA] at hq
    split at hq
    · split at hq
      · rename_i e1 env2 s2 ha
        simp only [aop] at ha
        split at ha
        · rename_i h2 h3
          obtain ⟨r, hr, he, _, _⟩ := okv_ok ha
          split at hq
          · cases hq; subst he; exact ⟨h2, _, r, h3, hr, rfl⟩
          · cases hq
        · cases ha
      · cases hq
    · cases hq
  · rintro ⟨rfl, hd, v0, v, hv, hl, rfl⟩
    refine ⟨rfl, .v v, ?_, fun d' hd' => ?_, rfl⟩
    · have hok : okQ glob env (.loadp d n x) = true := by
        have : ev glob env (.t d) = none := hd
        simp [okQ, AOp.quiet, noOm, hv, this]
      unfold qval
      simp only [wantedA, hok, if_true, aop, hd, hv, hl, okv]
      simp [EV.owns]
    · cases hd'; exact ⟨rfl, by unfold ownsAt; rw [hd]⟩

theorem loadE_v {n : Option Nat} {x : IX} {v0 : AV} (h : ev glob env x = some (.v v0)) (h' : ev glob env2 x = some (.v v0)) : loadE glob env s n x = loadE glob env2 s n x := by
  unfold loadE; rw [h, h']
  cases v0 <;> rfl

/-- A load goes ahead of an append. -/
theorem swapL {o p : AOper} (hap : apartL o p = true) {env1 env2 : Env} {s1 s2 : St} (h1 : runD glob call cx o env s = .norm env1 s1) (h2 : runD glob call cx p env1 s1 = .norm env2 s2) :
    s1 = s ∧ s2 = s ∧ ∃ f1 f2, runD glob call cx p env s = .norm f1 s ∧ runD glob call cx o f1 s = .norm f2 s ∧ EqE f2 env2 := by
  obtain ⟨ho, hg, d, n, x, rfl⟩ := apartL_spec hap
  rw [runD_loud (app_loud ho)] at h1
  have hpq : (AOp.loadp d n x).quiet.isSome = true := rfl
  rw [runD_quiet hpq] at h2
  obtain ⟨hs2, hdn, v0, v, hv, hl, rfl⟩ := loadp_iff.1 h2
  obtain ⟨dst, gd, op⟩ := o
  simp only [] at ho hg
  subst hg
  simp only [runOp, wantedA] at h1
  cases ha : aop glob call cx env s op with
  | fail => rw [ha] at h1; cases h1
  | pan v s => rw [ha] at h1; cases h1
  | ok e enva sa =>
    rw [ha] at h1
    obtain ⟨rfl, hown, hform⟩ := aop_app ho ha
    simp only [] at h1
    have hv0 : v0 ≠ .u := fun h => by subst h; unfold loadE at hl; rw [hv] at hl; cases hl
    have hA : (∀ k, lk enva k = none → lk env k = none) ∧ (∀ k y, y ≠ .u → lk enva k = some (.v y) → lk env k = some (.v y)) := by
      rcases hform with rfl | ⟨k, y, hk, rfl⟩
      · exact ⟨fun _ h => h, fun _ _ _ h => h⟩
      · exact ⟨fun j h => (drop_none h).2, fun j z hz h => drop_v hz h⟩
    have fin : ∀ env1, s1 = sa → (lk env1 d = none → lk enva d = none) → (∀ k y, y ≠ .u → lk env1 k = some (.v y) → lk enva k = some (.v y)) → lk env1 d = none → ev glob env1 x = some (.v v0) → loadE glob env1 s1 n x = some v →
        lk env d = none ∧ runQ glob call ⟨some d, none, .loadp d n x⟩ env sa = .norm ((d, .v v) :: env) sa := by
      intro env1 hs q1 q2 q3 q4 q5
      subst hs
      have hdn' : lk env d = none := hA.1 d (q1 q3)
      have hv' : ev glob env x = some (.v v0) := by
        cases x with
        | t k => exact hA.2 k v0 hv0 (q2 k v0 hv0 q4)
        | c a => exact q4
        | g k => exact q4
      exact ⟨hdn', loadp_iff.2 ⟨rfl, hdn', v0, v, hv', by rw [← loadE_v q4 hv']; exact q5, rfl⟩⟩
    cases dst with
    | none =>
      simp only [Out.norm.injEq] at h1
      obtain ⟨rfl, rfl⟩ := h1
      obtain ⟨hdn', hp⟩ := fin enva rfl (fun h => h) (fun _ _ _ h => h) hdn hv hl
      obtain ⟨env3, h3, h4, h5⟩ := ins_app (v := v) hdn' ho ha
      refine ⟨rfl, hs2, _, env3, by rw [runD_quiet hpq]; exact hp, by rw [runD_loud (app_loud ho)]; simp [runOp, wantedA, h3], fun k => ?_⟩
      by_cases hk : k = d
      · subst hk; rw [h4, lk_cons_same]
      · rw [h5 k hk, lk_cons_ne _ _ (Ne.symm hk)]
    | some dj =>
      have hrf : e.refers dj = false := by cases e <;> first | rfl | (cases hown; done)
      simp only [hrf, Bool.false_eq_true, if_false, Out.norm.injEq] at h1
      obtain ⟨rfl, rfl⟩ := h1
      obtain ⟨hddj, hdn2⟩ := put_none hdn
      obtain ⟨hdn', hp⟩ := fin (put enva dj e) rfl (fun _ => hdn2) (fun k y hy h => put_v hown hy h) hdn hv hl
      obtain ⟨env3, h3, h4, h5⟩ := ins_app (v := v) hdn' ho ha
      refine ⟨rfl, hs2, _, put env3 dj e, by rw [runD_quiet hpq]; exact hp, by rw [runD_loud (app_loud ho)]; simp [runOp, wantedA, h3, hrf], ins_put hddj h5 h4⟩

theorem quiet_st {o : AOper} (hq : o.op.quiet.isSome = true) {env1 : Env} {s1 : St} (h : runD glob call cx o env s = .norm env1 s1) : s1 = s := by
  rw [runD_quiet hq] at h; exact (runQ_iff.1 h).1
theorem quiet_eqE {o : AOper} (hq : o.op.quiet.isSome = true) (he : EqE env env2) {env1 : Env} {s1 : St} (h : runD glob call cx o env s = .norm env1 s1) : ∃ env3, runD glob call cx o env2 s = .norm env3 s ∧ EqE env1 env3 := by
  have hs := quiet_st hq h
  subst hs
  rw [runD_quiet hq] at h ⊢
  exact runQ_eqE he h

theorem apart_second {o p : AOper} (h : (apartA o p || apartL o p) = true) : p.op.quiet.isSome = true := by
  rw [Bool.or_eq_true] at h
  rcases h with h | h
  · exact (apartA_spec h).2.1
  · obtain ⟨_, _, d, n, x, rfl⟩ := apartL_spec h; rfl

theorem swap {o p : AOper} (hap : (apartA o p || apartL o p) = true) {env1 env2 : Env} {s1 s2 : St} (h1 : runD glob call cx o env s = .norm env1 s1) (h2 : runD glob call cx p env1 s1 = .norm env2 s2) :
    s1 = s ∧ s2 = s ∧ ∃ f1 f2, runD glob call cx p env s = .norm f1 s ∧ runD glob call cx o f1 s = .norm f2 s ∧ EqE f2 env2 := by
  have hp2 := apart_second hap
  rw [Bool.or_eq_true] at hap
  rcases hap with hap | hap
  · have ho := (apartA_spec hap).1
    have e1 := quiet_st ho h1
    subst e1
    have e2 := quiet_st hp2 h2
    subst e2
    rw [runD_quiet ho] at h1
    rw [runD_quiet hp2] at h2
    obtain ⟨f1, f2, q1, q2, q3⟩ := runQ_swap hap h1 h2
    exact ⟨rfl, rfl, f1, f2, by rw [runD_quiet hp2]; exact q1, by rw [runD_quiet ho]; exact q2, q3⟩
  · exact swapL hap h1 h2

/-- A quiet operation comes to the front. -/
theorem bubble {i : Nat} {q : List Nat} : ∀ (p : List Nat), QuietI aops i → (∀ j ∈ p, ApartI aops j i) → ∀ {env : Env} {s : St}, Runs glob call cx aops (p ++ i :: q) env s env' s' →
    ∃ o env1, aops[i]? = some o ∧ runD glob call cx o env s = .norm env1 s ∧ Runs glob call cx aops (p ++ q) env1 s env' s'
  | [], hi, _, env, s, h => by
    obtain ⟨o, e0, e1, s1, ho, he, hr, h2⟩ := h
    obtain ⟨o', ho', hq⟩ := hi
    rw [ho] at ho'; cases ho'
    have hs := quiet_st hq hr
    subst hs
    obtain ⟨e3, h3, h4⟩ := quiet_eqE hq he.symm hr
    exact ⟨o, e3, ho, h3, h2.eqE h4.symm⟩
  | j :: p, hi, hap, env, s, h => by
    obtain ⟨oj, e0, ej, sj, hoj, he, hrj, hrest⟩ := h
    obtain ⟨oi, ei, hoi, hri, h4⟩ := bubble p hi (fun k hk => hap k (by simp [hk])) hrest
    obtain ⟨o1, o2, h1, h2, hapr⟩ := hap j (by simp)
    rw [hoj] at h1; cases h1
    rw [hoi] at h2; cases h2
    obtain ⟨rfl, _, f1, f2, q1, q2, q3⟩ := swap hapr hrj hri
    obtain ⟨f3, q4, q5⟩ := quiet_eqE (apart_second hapr) he.symm q1
    exact ⟨oi, f3, hoi, q4, oj, f1, f2, _, hoj, q5.symm, q2, h4.eqE q3⟩

/-- A quiet operation. -/
theorem quiet_sound {F : Fence} {n i N b0 : Nat} {ls : List Nat} {o : Oper} {ao : AOper} {Q : Exit → Act → World → Prop} {K : Act → World → Prop} (hcall : CallOK P glob call) (hext : CallExt call) (hF : isF F) (h : Fr P glob g s B w a env N b0 ls)
    (hi : ops[i]? = some o) (hc : chkOper P N ops o ao = true) (hr : runQ glob call ao env s = .norm env' s)
    (hK : ∀ g' w' a', Step g s.length B w g' s.length w' → Fr P glob g' s B w' a' env' N b0 ls → K a' w') : wpOpIn F n P ops Q i K a w := by
  obtain ⟨_, e, hq, hd, rfl⟩ := runQ_iff.1 hr
  have hcx : CtxOK ⟨s.length, s.length⟩ s := ⟨Nat.le_refl _, Nat.le_refl _⟩
  have key : ∃ env1, runOp glob call ⟨s.length, s.length⟩ ao env s = .norm env1 s ∧ EqE env1 (putQ env ao.dst e) := by
    unfold qval at hq
    unfold runOp
    split at hq
    · cases hq
    · rename_i hw
      cases hq
      try simp only [hw]
      cases hdst : ao.dst with
      | none => exact ⟨env, rfl, fun _ => rfl⟩
      | some d => exact ⟨_, rfl, fun k => by rw [put_plain (hd d hdst).2]; rfl⟩
    · rename_i hw
      try simp only [hw]
      split at hq
      · rename_i hok
        split at hq
        · rename_i e1 env1 s1 ha
          split at hq
          · rename_i hc2
            cases hq
            have hx : Ext ⟨s.length, s.length⟩ s s1 := aop_ext hext hcx ha
            have hs : s1 = s := by
              apply List.ext_getElem?
              intro l
              by_cases hl : l < s.length
              · exact hx.lim l hl
              · rw [List.getElem?_eq_none (by omega), List.getElem?_eq_none (by omega)]
            subst hs
            unfold okQ at hok
            split at hok
            · rename_i rs es hqu
              simp only [Bool.and_eq_true] at hok
              obtain ⟨hl, _⟩ := aop_agr (Agr.refl env) hqu (fun x _ k _ hf => hf) hok.1 hok.2 ha
              rw [ha]
              simp only []
              cases hdst : ao.dst with
              | none => exact ⟨env1, rfl, hl⟩
              | some d =>
                obtain ⟨d1, d2⟩ := hd d hdst
                simp only [d1]
                refine ⟨_, rfl, fun k => ?_⟩
                rw [put_plain (by unfold ownsAt at d2 ⊢; rw [hl d]; exact d2)]
                exact (EqE.put (env := env1) (env2 := env) hl (some d) e) k
            · cases hok
          · cases hq
        · cases hq
      · cases hq
  obtain ⟨env1, hr1, he⟩ := key
  exact op_sound hcall hext hF hcx h hi hc hr1 (fun g' w' a' hs hf => hK g' w' a' hs (hf.eqE he))


end Go.Ai

/-
  Open regions: all orders.
-/
namespace Go.Ai

variable {P : Program} {glob : Nat → Option (List AV)} {g : Ghost} {s : St} {B : Nat} {w : World} {env env2 : Env} {a : Act} {call : AV → List AV → St → Ctx → CO} {cx : Ctx} {env' : Env} {s' : St} {ops : Array Oper} {aops : List AOper}

theorem chkOpers_get {N : Nat} {all : Array Oper} : ∀ (os : List Oper) (aos : List AOper), chkOpers P N all os aos = true → ∀ (i : Nat) (o : Oper), os[i]? = some o → ∃ ao, aos[i]? = some ao ∧ chkOper P N all o ao = true
  | [], _, _, i, o, h => by simp at h
  | o :: os, [], hc, _, _, _ => by simp [chkOpers] at hc
  | o :: os, ao :: aos, hc, i, o', h => by
    simp only [chkOpers, Bool.and_eq_true] at hc
    cases i with
    | zero => simp at h; subst h; exact ⟨ao, rfl, hc.1⟩
    | succ i => simp at h; simpa using chkOpers_get os aos hc.2 i o' h

theorem draw_go {F : Fence} {n N b0 : Nat} {ls : List Nat} {Q : Exit → Act → World → Prop} (hcall : CallOK P glob call) (hext : CallExt call) (hF : isF F)
    (hops : ∀ (i : Nat) (o : Oper), ops[i]? = some o → ∃ ao, aops[i]? = some ao ∧ chkOper P N ops o ao = true) :
    ∀ (fuel : Nat) (listed : Array Bool) (l : List Nat) {env : Env} {g : Ghost} {s : St} {w : World} {a : Act}, l.length = fuel → Inv ops aops listed l →
      Runs glob call cx aops l env s env' s' → CtxOK cx s → Fr P glob g s B w a env N b0 ls →
      (∀ g' w' a', Step g s.length B w g' s'.length w' → Fr P glob g' s' B w' a' env' N b0 ls → Q .normal a' w') → wpAnyIn F n P .any ops Q fuel listed a w := by
  intro fuel
  induction fuel with
  | zero =>
    intro listed l env g s w a hlen hinv hrun hcx hfr hQ
    have hnil : l = [] := List.eq_nil_of_length_eq_zero hlen
    subst hnil
    obtain ⟨he, rfl⟩ := hrun
    exact ⟨hinv.nil_ready, hQ g w a (.refl _ _ _ _) (hfr.eqE he)⟩
  | succ fuel ih =>
    intro listed l env g s w a hlen hinv hrun hcx hfr hQ
    refine ⟨fun h0 => ?_, fun i hi => ?_⟩
    · cases l with
      | nil => cases hlen
      | cons j t => have := hinv.head_ready; rw [h0] at this; cases this
    · have hmem := hinv.ready_mem hi
      obtain ⟨_, o, ho, _⟩ := mem_ready.1 hi
      obtain ⟨ao, hao, hchk⟩ := hops i o ho
      obtain ⟨p, q, rfl⟩ := List.append_of_mem hmem
      have hpair : ∀ j ∈ p, ApartI aops j i := by
        intro j hj
        have := (List.pairwise_append.1 hinv.pairs).2.2 j hj i (by simp)
        rcases this with h1 | h1
        · exact absurd h1 (hinv.not_reach hi (by simp [hj]))
        · exact h1
      have hinv' : Inv ops aops (listed.setIfInBounds i true) (p ++ q) := hinv.remove hi
      have hlen' : (p ++ q).length = fuel := by simp at hlen ⊢; omega
      have quietCase : ao.op.quiet.isSome = true → wpOpIn F n P ops Q i (fun a' w' => wpAnyIn F n P .any ops Q fuel (listed.setIfInBounds i true) a' w') a w := by
        intro hq
        obtain ⟨o', env1, ho', hr1, hrest⟩ := bubble p ⟨ao, hao, hq⟩ hpair hrun
        rw [hao] at ho'; cases ho'
        rw [runD_quiet hq] at hr1
        exact quiet_sound hcall hext hF hfr ho hchk hr1 (fun g1 w1 a1 st1 hf1 => ih _ (p ++ q) hlen' hinv' hrest hcx hf1 (fun g2 w2 a2 st2 hf2 => hQ g2 w2 a2 (st1.trans st2) hf2))
      cases hqq : ao.op.quiet.isSome with
      | true => exact quietCase hqq
      | false =>
        cases p with
        | cons j p =>
          obtain ⟨o1, o2, h1, h2, hapr⟩ := hpair j (by simp)
          rw [hao] at h2; cases h2
          rw [apart_second hapr] at hqq; cases hqq
        | nil =>
          obtain ⟨o', e0, env1, s1, ho', he, hr1, hrest⟩ := hrun
          rw [hao] at ho'; cases ho'
          rw [runD_loud hqq] at hr1
          have hx : Ext cx s s1 := runOp_ext hext hcx (o := ao) (by rw [hr1]; rfl)
          exact op_sound hcall hext hF hcx (hfr.eqE he) ho hchk hr1 (fun g1 w1 a1 st1 hf1 => ih _ q hlen' hinv' hrest (hcx.ext hx) hf1 (fun g2 w2 a2 st2 hf2 => hQ g2 w2 a2 (st1.trans st2) hf2))

theorem tips_sound {N b0 : Nat} {ls : List Nat} : ∀ (ts : List Nat) {g : Ghost} {env : Env}, Fr P glob g s B w a env N b0 ls → ∃ g', Step g s.length B w g' s.length w ∧ Fr P glob g' s B w a (tipE env ts) N b0 ls
  | [], g, env, h => ⟨g, .refl _ _ _ _, h⟩
  | k :: ts, g, env, h => by
    unfold tipE
    split
    · rename_i tip t sz es hk
      obtain ⟨g1, st1, hs1, _⟩ := claim_own h.sim hk
      obtain ⟨g2, st2, h2⟩ := tips_sound ts (h.next hs1 rfl rfl st1.le (fun _ hh => hh))
      exact ⟨g2, st1.trans st2, h2⟩
    · exact tips_sound ts h

theorem chkTopo_spec : ∀ (π seen : List Nat), chkTopo ops π seen = true → (∀ i ∈ π, i < ops.size) ∧ π.Nodup ∧ (∀ i ∈ π, i ∉ seen) ∧ ∀ p i q, π = p ++ i :: q → ∀ e ∈ waitsOn ops i, e ∈ seen ∨ e ∈ p
  | [], seen, _ => ⟨fun _ h => (by cases h), List.nodup_nil, fun _ h => (by cases h), fun p i q h => by simp at h⟩
  | i :: r, seen, h => by
    simp only [chkTopo, Bool.and_eq_true, decide_eq_true_eq, List.all_eq_true, Bool.not_eq_true', List.contains_eq_mem, decide_eq_false_iff_not] at h
    obtain ⟨⟨⟨h1, h2⟩, h3⟩, h4⟩ := h
    obtain ⟨a1, a2, a3, a4⟩ := chkTopo_spec r (i :: seen) h4
    refine ⟨fun j hj => ?_, List.nodup_cons.2 ⟨fun hh => a3 i hh (by simp), a2⟩, fun j hj => ?_, fun p k q heq e he => ?_⟩
    · rcases List.mem_cons.1 hj with rfl | hj
      · exact h1
      · exact a1 j hj
    · rcases List.mem_cons.1 hj with rfl | hj
      · exact h2
      · exact fun hh => a3 j hj (by simp [hh])
    · cases p with
      | nil => simp at heq; obtain ⟨rfl, rfl⟩ := heq; exact .inl (h3 e he)
      | cons x p =>
        simp at heq
        obtain ⟨rfl, rfl⟩ := heq
        rcases a4 p k q rfl e he with h5 | h5
        · rcases List.mem_cons.1 h5 with rfl | h5
          · exact .inr (by simp)
          · exact .inl h5
        · exact .inr (by simp [h5])

theorem draw_ok (hM : P.follows .mixedOrders = true) (hcall : CallOK P glob call) (hext : CallExt call) : DrawOK P glob call := by
  intro F n N id B b0 ls ops aops π ts Q cx g s s' w a env env' hF hops hdr hcx hfr hrun hQ
  simp only [chkDraw, Bool.and_eq_true, beq_iff_eq, List.all_eq_true, List.mem_range, List.contains_eq_mem, decide_eq_true_eq] at hdr
  obtain ⟨⟨⟨hlen, hall⟩, htopo⟩, hpairs⟩ := hdr
  obtain ⟨t1, t2, _, t4⟩ := chkTopo_spec π [] htopo
  have hpw := chkPairs_spec (ops := ops) (masks_spec π [] (fun e j h => by simp [maskIn] at h)) π hpairs
  refine wpIn_region_any hM ?_
  have hfr0 : Fr P glob g s B { w with drawn := w.drawn + 1 } a env N b0 ls := by
    refine hfr.next ⟨hfr.sim.base.grew ⟨Nat.le_refl _, fun _ _ => rfl, rfl, rfl⟩, hfr.sim.env.next (.refl _ _) (fun k e hk ho b hb => ⟨rfl, rfl, rfl, fun ht => ht⟩), hfr.sim.B⟩ rfl rfl (.refl _ _) (fun _ h => h)
  have hst0 : Step g s.length B w g s.length { w with drawn := w.drawn + 1 } := ⟨.refl _ _, Nat.le_refl _, fun _ _ _ => rfl, fun _ _ _ => rfl, fun _ _ => rfl, fun b hb => .inl hb, rfl, rfl⟩
  obtain ⟨g1, st1, hf1⟩ := tips_sound ts hfr0
  simp only [runReg] at hrun
  have hinv : Inv ops aops (Array.replicate ops.size false) π := by
    refine ⟨by simp, fun j hj => ?_, t1, t2, hpw, fun i hi => ?_, fun p i q heq e he => ?_⟩
    · simp [Array.getD_eq_getD_getElem?, hj]; exact hall j hj
    · exfalso
      rw [Array.getD_eq_getD_getElem?] at hi
      by_cases hlt : i < ops.size <;> simp [hlt] at hi
    · rcases t4 p i q heq e he with h | h
      · cases h
      · exact .inr h
  exact draw_go hcall hext hF (fun i o ho => chkOpers_get _ _ hops i o (by simpa using ho)) ops.size _ π hlen hinv (runs_of π hrun) hcx hf1 (fun g2 w2 a2 st2 hf2 => hQ g2 w2 a2 ((hst0.trans st1).trans st2) hf2)

end Go.Ai
