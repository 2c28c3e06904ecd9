/-
  Open regions: the theorem.
-/
import Derived.Test.YtbdaaoohblcfhaaDoorAiD3
set_option maxRecDepth 100000
set_option linter.unusedSimpArgs false
set_option linter.unusedVariables false
namespace Go.Ai

variable {P : Program} {glob : Nat → Option (List AV)} {g : Ghost} {s : St} {B : Nat} {w : World} {env env2 : Env} {a : Act} {call : AV → List AV → St → Ctx → CO} {cx : Ctx} {env' : Env} {s' : St} {ops : Array Oper} {aops : List AOper}

def QuietI (aops : List AOper) (i : Nat) : Prop := ∃ o, aops[i]? = some o ∧ o.op.quiet.isSome = true

theorem runDraw_append : ∀ (p r : List Nat) (env : Env) (s : St), runDraw glob call cx aops (p ++ r) env s = (match runDraw glob call cx aops p env s with | .norm e s => runDraw glob call cx aops r e s | out => out)
  | [], r, env, s => rfl
  | i :: p, r, env, s => by
    simp only [List.cons_append, runDraw]
    split
    · rfl
    · split
      · rw [runDraw_append p r]
      · rename_i hne
        split
        · rename_i h; exact absurd h (hne _ _)
        · rfl

theorem runDraw_cons {i : Nat} {r : List Nat} {o : AOper} (hi : aops[i]? = some o) : runDraw glob call cx aops (i :: r) env s = (match runD glob call cx o env s with | .norm env s => runDraw glob call cx aops r env s | out => out) := by
  simp only [runDraw, hi]
  cases runD glob call cx o env s <;> rfl
theorem runDraw_cons_norm {i : Nat} {r : List Nat} : runDraw glob call cx aops (i :: r) env s = .norm env' s' ↔ ∃ o env1 s1, aops[i]? = some o ∧ runD glob call cx o env s = .norm env1 s1 ∧ runDraw glob call cx aops r env1 s1 = .norm env' s' := by
  constructor
  · intro h
    simp only [runDraw] at h
    split at h
    · cases h
    · rename_i o ho
      split at h
      · rename_i env1 s1 hr; exact ⟨o, env1, s1, ho, hr, h⟩
      · rename_i hne; exact absurd h (hne _ _)
  · rintro ⟨o, env1, s1, ho, hr, h⟩
    rw [runDraw_cons ho, hr]; exact h
theorem runD_quiet {o : AOper} (h : o.op.quiet.isSome = true) : runD glob call cx o env s = runQ glob call o env s := by
  unfold runD; rw [if_pos h]
theorem runD_loud {o : AOper} (h : o.op.quiet.isSome = false) : runD glob call cx o env s = runOp glob call cx o env s := by
  unfold runD; rw [if_neg (by rw [h]; simp)]

theorem quiets_st : ∀ (p : List Nat), (∀ i ∈ p, QuietI aops i) → ∀ {env env' : Env} {s s' : St}, runDraw glob call cx aops p env s = .norm env' s' → s' = s
  | [], _, env, env', s, s', h => by simp [runDraw] at h; exact h.2.symm
  | i :: p, hq, env, env', s, s', h => by
    obtain ⟨o, env1, s1, ho, hr, h2⟩ := runDraw_cons_norm.1 h
    obtain ⟨o', ho', hqu⟩ := hq i (by simp)
    rw [ho] at ho'; cases ho'
    rw [runD_quiet hqu] at hr
    have := (runQ_iff.1 hr).1
    subst this
    exact quiets_st p (fun j hj => hq j (by simp [hj])) h2

theorem quiets_eqE : ∀ (p : List Nat), (∀ i ∈ p, QuietI aops i) → ∀ {env env2 env1 : Env}, EqE env env2 → runDraw glob call cx aops p env s = .norm env1 s → ∃ env3, runDraw glob call cx aops p env2 s = .norm env3 s ∧ EqE env1 env3
  | [], _, env, env2, env1, he, h => by simp only [runDraw, Out.norm.injEq, and_true] at h; subst h; exact ⟨env2, rfl, he⟩
  | i :: p, hq, env, env2, env1, he, h => by
    obtain ⟨o, e1, s1, ho, hr, h2⟩ := runDraw_cons_norm.1 h
    obtain ⟨o', ho', hqu⟩ := hq i (by simp)
    rw [ho] at ho'; cases ho'
    rw [runD_quiet hqu] at hr
    have hs1 := (runQ_iff.1 hr).1
    rw [hs1] at hr h2
    obtain ⟨e2, hr2, he2⟩ := runQ_eqE he hr
    obtain ⟨e3, h3, he3⟩ := quiets_eqE p (fun j hj => hq j (by simp [hj])) he2 h2
    exact ⟨e3, runDraw_cons_norm.2 ⟨o, e2, s, ho, by rw [runD_quiet hqu]; exact hr2, h3⟩, he3⟩

/-- A quiet operation comes to the front. -/
theorem bubble {i : Nat} {q : List Nat} : ∀ (p : List Nat), (∀ j ∈ p ++ i :: q, QuietI aops j) → (∀ j ∈ p, ApartI aops j i) → ∀ {env env3 : Env}, runDraw glob call cx aops (p ++ i :: q) env s = .norm env3 s →
    ∃ o env1 env4, aops[i]? = some o ∧ runQ glob call o env s = .norm env1 s ∧ runDraw glob call cx aops (p ++ q) env1 s = .norm env4 s ∧ EqE env3 env4
  | [], hq, _, env, env3, h => by
    obtain ⟨o, e1, s1, ho, hr, h2⟩ := runDraw_cons_norm.1 h
    obtain ⟨o', ho', hqu⟩ := hq i (by simp)
    rw [ho] at ho'; cases ho'
    rw [runD_quiet hqu] at hr
    have hs1 := (runQ_iff.1 hr).1
    rw [hs1] at hr h2
    exact ⟨o, e1, env3, ho, hr, h2, fun _ => rfl⟩
  | j :: p, hq, hap, env, env3, h => by
    obtain ⟨oj, ej, s1, hoj, hr, hrest⟩ := runDraw_cons_norm.1 h
    obtain ⟨o', ho', hqu⟩ := hq j (by simp)
    rw [hoj] at ho'; cases ho'
    rw [runD_quiet hqu] at hr
    have hs1 := (runQ_iff.1 hr).1
    rw [hs1] at hr hrest
    obtain ⟨oi, e1, e4, hoi, hri, h4, heq⟩ := bubble p (fun k hk => hq k (by simp only [List.cons_append, List.mem_cons]; exact .inr hk)) (fun k hk => hap k (by simp [hk])) hrest
    obtain ⟨o1, o2, h1, h2, hapr⟩ := hap j (by simp)
    rw [hoj] at h1; cases h1
    rw [hoi] at h2; cases h2
    obtain ⟨ei, eij, hi1, hj1, he⟩ := runQ_swap hapr hr hri
    obtain ⟨e5, h5, he5⟩ := quiets_eqE (p ++ q) (fun k hk => hq k (by simp at hk ⊢; rcases hk with hk | hk <;> simp [hk])) (fun k => (he k).symm) h4
    exact ⟨oi, ei, e5, hoi, hi1, runDraw_cons_norm.2 ⟨oj, eij, s, hoj, by rw [runD_quiet hqu]; exact hj1, h5⟩, fun k => (heq k).trans (he5 k)⟩

theorem put_plain {d : Nat} {e : EV} (h : ownsAt env d = false) : put env d e = (d, e) :: env := by
  unfold put
  unfold ownsAt at h
  split
  · rename_i o ho; rw [ho] at h; simp [h]
  · rfl

/-- A quiet operation. -/
theorem quiet_sound {F : Fence} {n i N b0 : Nat} {ls : List Nat} {o : Oper} {ao : AOper} {Q : Exit → Act → World → Prop} {K : Act → World → Prop} (hcall : CallOK P glob call) (hext : CallExt call) (hF : isF F) (h : Fr P glob g s B w a env N b0 ls)
    (hi : ops[i]? = some o) (hc : chkOper P N ops o ao = true) (hr : runQ glob call ao env s = .norm env' s)
    (hK : ∀ g' w' a', Step g s.length B w g' s.length w' → Fr P glob g' s B w' a' env' N b0 ls → K a' w') : wpOpIn F n P ops Q i K a w := by
  obtain ⟨_, e, hq, hd, rfl⟩ := runQ_iff.1 hr
  have hcx : CtxOK ⟨s.length, s.length⟩ s := ⟨Nat.le_refl _, Nat.le_refl _⟩
  have key : ∃ env1, runOp glob call ⟨s.length, s.length⟩ ao env s = .norm env1 s ∧ EqE env1 (putQ env ao.dst e) := by
    unfold qval at hq
    unfold runOp
    split at hq
    · cases hq
    · rename_i hw
      cases hq
      try simp only [hw]
      cases hdst : ao.dst with
      | none => exact ⟨env, rfl, fun _ => rfl⟩
      | some d => exact ⟨_, rfl, fun k => by rw [put_plain (hd d hdst).2]; rfl⟩
    · rename_i hw
      try simp only [hw]
      split at hq
      · rename_i hok
        split at hq
        · rename_i e1 env1 s1 ha
          split at hq
          · rename_i hc2
            cases hq
            have hx : Ext ⟨s.length, s.length⟩ s s1 := aop_ext hext hcx ha
            have hs : s1 = s := by
              apply List.ext_getElem?
              intro l
              by_cases hl : l < s.length
              · exact hx.lim l hl
              · rw [List.getElem?_eq_none (by omega), List.getElem?_eq_none (by omega)]
            subst hs
            unfold okQ at hok
            split at hok
            · rename_i rs es hqu
              simp only [Bool.and_eq_true] at hok
              obtain ⟨hl, _⟩ := aop_agr (Agr.refl env) hqu (fun x _ k _ hf => hf) hok.1 hok.2 ha
              rw [ha]
              simp only []
              cases hdst : ao.dst with
              | none => exact ⟨env1, rfl, hl⟩
              | some d =>
                obtain ⟨d1, d2⟩ := hd d hdst
                simp only [d1]
                refine ⟨_, rfl, fun k => ?_⟩
                rw [put_plain (by unfold ownsAt at d2 ⊢; rw [hl d]; exact d2)]
                exact (EqE.put (env := env1) (env2 := env) hl (some d) e) k
            · cases hok
          · cases hq
        · cases hq
      · cases hq
  obtain ⟨env1, hr1, he⟩ := key
  exact op_sound hcall hext hF hcx h hi hc hr1 (fun g' w' a' hs hf => hK g' w' a' hs (hf.eqE he))

end Go.Ai
