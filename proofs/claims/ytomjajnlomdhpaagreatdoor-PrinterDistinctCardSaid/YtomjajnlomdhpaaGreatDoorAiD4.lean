/-
  Open regions: the theorem.
-/
import Derived.Test.YtomjajnlomdhpaaGreatDoorAiD2
set_option maxRecDepth 100000
set_option linter.unusedSimpArgs false
set_option linter.unusedVariables false
namespace Go.Ai

variable {P : Program} {glob : Nat → Option (List AV)} {g : Ghost} {s : St} {B : Nat} {w : World} {env env2 : Env} {a : Act} {call : AV → List AV → St → Ctx → CO} {cx : Ctx} {env' : Env} {s' : St} {ops : Array Oper} {aops : List AOper}

def QuietI (aops : List AOper) (i : Nat) : Prop := ∃ o, aops[i]? = some o ∧ o.op.quiet.isSome = true

theorem runDraw_append : ∀ (p r : List Nat) (env : Env) (s : St), runDraw glob call cx aops (p ++ r) env s = (match runDraw glob call cx aops p env s with | .norm e s => runDraw glob call cx aops r e s | out => out)
  | [], r, env, s => rfl
  | i :: p, r, env, s => by
    simp only [List.cons_append, runDraw]
    split
    · rfl
    · split
      · rw [runDraw_append p r]
      · rename_i hne
        split
        · rename_i h; exact absurd h (hne _ _)
        · rfl

theorem runDraw_cons {i : Nat} {r : List Nat} {o : AOper} (hi : aops[i]? = some o) : runDraw glob call cx aops (i :: r) env s = (match runD glob call cx o env s with | .norm env s => runDraw glob call cx aops r env s | out => out) := by
  simp only [runDraw, hi]
  cases runD glob call cx o env s <;> rfl
theorem runDraw_cons_norm {i : Nat} {r : List Nat} : runDraw glob call cx aops (i :: r) env s = .norm env' s' ↔ ∃ o env1 s1, aops[i]? = some o ∧ runD glob call cx o env s = .norm env1 s1 ∧ runDraw glob call cx aops r env1 s1 = .norm env' s' := by
  constructor
  · intro h
    simp only [runDraw] at h
    split at h
    · cases h
    · rename_i o ho
      split at h
      · rename_i env1 s1 hr; exact ⟨o, env1, s1, ho, hr, h⟩
      · rename_i hne; exact absurd h (hne _ _)
  · rintro ⟨o, env1, s1, ho, hr, h⟩
    rw [runDraw_cons ho, hr]; exact h
theorem runD_quiet {o : AOper} (h : o.op.quiet.isSome = true) : runD glob call cx o env s = runQ glob call o env s := by
  unfold runD; rw [if_pos h]
theorem runD_loud {o : AOper} (h : o.op.quiet.isSome = false) : runD glob call cx o env s = runOp glob call cx o env s := by
  unfold runD; rw [if_neg (by rw [h]; simp)]

theorem quiets_st : ∀ (p : List Nat), (∀ i ∈ p, QuietI aops i) → ∀ {env env' : Env} {s s' : St}, runDraw glob call cx aops p env s = .norm env' s' → s' = s
  | [], _, env, env', s, s', h => by simp [runDraw] at h; exact h.2.symm
  | i :: p, hq, env, env', s, s', h => by
    obtain ⟨o, env1, s1, ho, hr, h2⟩ := runDraw_cons_norm.1 h
    obtain ⟨o', ho', hqu⟩ := hq i (by simp)
    rw [ho] at ho'; cases ho'
    rw [runD_quiet hqu] at hr
    have := (runQ_iff.1 hr).1
    subst this
    exact quiets_st p (fun j hj => hq j (by simp [hj])) h2

theorem quiets_eqE : ∀ (p : List Nat), (∀ i ∈ p, QuietI aops i) → ∀ {env env2 env1 : Env}, EqE env env2 → runDraw glob call cx aops p env s = .norm env1 s → ∃ env3, runDraw glob call cx aops p env2 s = .norm env3 s ∧ EqE env1 env3
  | [], _, env, env2, env1, he, h => by simp only [runDraw, Out.norm.injEq, and_true] at h; subst h; exact ⟨env2, rfl, he⟩
  | i :: p, hq, env, env2, env1, he, h => by
    obtain ⟨o, e1, s1, ho, hr, h2⟩ := runDraw_cons_norm.1 h
    obtain ⟨o', ho', hqu⟩ := hq i (by simp)
    rw [ho] at ho'; cases ho'
    rw [runD_quiet hqu] at hr
    have hs1 := (runQ_iff.1 hr).1
    rw [hs1] at hr h2
    obtain ⟨e2, hr2, he2⟩ := runQ_eqE he hr
    obtain ⟨e3, h3, he3⟩ := quiets_eqE p (fun j hj => hq j (by simp [hj])) he2 h2
    exact ⟨e3, runDraw_cons_norm.2 ⟨o, e2, s, ho, by rw [runD_quiet hqu]; exact hr2, h3⟩, he3⟩

/-- A quiet operation comes to the front. -/
theorem bubble {i : Nat} {q : List Nat} : ∀ (p : List Nat), (∀ j ∈ p ++ i :: q, QuietI aops j) → (∀ j ∈ p, ApartI aops j i) → ∀ {env env3 : Env}, runDraw glob call cx aops (p ++ i :: q) env s = .norm env3 s →
    ∃ o env1 env4, aops[i]? = some o ∧ runQ glob call o env s = .norm env1 s ∧ runDraw glob call cx aops (p ++ q) env1 s = .norm env4 s ∧ EqE env3 env4
  | [], hq, _, env, env3, h => by
    obtain ⟨o, e1, s1, ho, hr, h2⟩ := runDraw_cons_norm.1 h
    obtain ⟨o', ho', hqu⟩ := hq i (by simp)
    rw [ho] at ho'; cases ho'
    rw [runD_quiet hqu] at hr
    have hs1 := (runQ_iff.1 hr).1
    rw [hs1] at hr h2
    exact ⟨o, e1, env3, ho, hr, h2, fun _ => rfl⟩
  | j :: p, hq, hap, env, env3, h => by
    obtain ⟨oj, ej, s1, hoj, hr, hrest⟩ := runDraw_cons_norm.1 h
    obtain ⟨o', ho', hqu⟩ := hq j (by simp)
    rw [hoj] at ho'; cases ho'
    rw [runD_quiet hqu] at hr
    have hs1 := (runQ_iff.1 hr).1
    rw [hs1] at hr hrest
    obtain ⟨oi, e1, e4, hoi, hri, h4, heq⟩ := bubble p (fun k hk => hq k (by simp only [List.cons_append, List.mem_cons]; exact .inr hk)) (fun k hk => hap k (by simp [hk])) hrest
    obtain ⟨o1, o2, h1, h2, hapr⟩ := hap j (by simp)
    rw [hoj] at h1; cases h1
    rw [hoi] at h2; cases h2
    obtain ⟨ei, eij, hi1, hj1, he⟩ := runQ_swap hapr hr hri
    obtain ⟨e5, h5, he5⟩ := quiets_eqE (p ++ q) (fun k hk => hq k (by simp at hk ⊢; rcases hk with hk | hk <;> simp [hk])) (fun k => (he k).symm) h4
    exact ⟨oi, ei, e5, hoi, hi1, runDraw_cons_norm.2 ⟨oj, eij, s, hoj, by rw [runD_quiet hqu]; exact hj1, h5⟩, fun k => (heq k).trans (he5 k)⟩

theorem put_plain {d : Nat} {e : EV} (h : ownsAt env d = false) : put env d e = (d, e) :: env := by
  unfold put
  unfold ownsAt at h
  split
  · rename_i o ho; rw [ho] at h; simp [h]
  · rfl

/-- A quiet operation. -/
theorem quiet_sound {F : Fence} {n i N b0 : Nat} {ls : List Nat} {o : Oper} {ao : AOper} {Q : Exit → Act → World → Prop} {K : Act → World → Prop} (hcall : CallOK P glob call) (hext : CallExt call) (hF : isF F) (h : Fr P glob g s B w a env N b0 ls)
    (hi : ops[i]? = some o) (hc : chkOper P N ops o ao = true) (hr : runQ glob call ao env s = .norm env' s)
    (hK : ∀ g' w' a', Step g s.length B w g' s.length w' → Fr P glob g' s B w' a' env' N b0 ls → K a' w') : wpOpIn F n P ops Q i K a w := by
  obtain ⟨_, e, hq, hd, rfl⟩ := runQ_iff.1 hr
  have hcx : CtxOK ⟨s.length, s.length⟩ s := ⟨Nat.le_refl _, Nat.le_refl _⟩
  have key : ∃ env1, runOp glob call ⟨s.length, s.length⟩ ao env s = .norm env1 s ∧ EqE env1 (putQ env ao.dst e) := by
    unfold qval at hq
    unfold runOp
    split at hq
    · cases hq
    · rename_i hw
      cases hq
      try simp only [hw]
      cases hdst : ao.dst with
      | none => exact ⟨env, rfl, fun _ => rfl⟩
      | some d => exact ⟨_, rfl, fun k => by rw [put_plain (hd d hdst).2]; rfl⟩
    · rename_i hw
      try simp only [hw]
      split at hq
      · rename_i hok
        split at hq
        · rename_i e1 env1 s1 ha
          split at hq
          · rename_i hc2
            cases hq
            have hx : Ext ⟨s.length, s.length⟩ s s1 := aop_ext hext hcx ha
            have hs : s1 = s := by
              apply List.ext_getElem?
              intro l
              by_cases hl : l < s.length
              · exact hx.lim l hl
              · rw [List.getElem?_eq_none (by omega), List.getElem?_eq_none (by omega)]
            subst hs
            unfold okQ at hok
            split at hok
            · rename_i rs es hqu
              simp only [Bool.and_eq_true] at hok
              obtain ⟨hl, _⟩ := aop_agr (Agr.refl env) hqu (fun x _ k _ hf => hf) hok.1 hok.2 ha
              rw [ha]
              simp only []
              cases hdst : ao.dst with
              | none => exact ⟨env1, rfl, hl⟩
              | some d =>
                obtain ⟨d1, d2⟩ := hd d hdst
                simp only [d1]
                refine ⟨_, rfl, fun k => ?_⟩
                rw [put_plain (by unfold ownsAt at d2 ⊢; rw [hl d]; exact d2)]
                exact (EqE.put (env := env1) (env2 := env) hl (some d) e) k
            · cases hok
          · cases hq
        · cases hq
      · cases hq
  obtain ⟨env1, hr1, he⟩ := key
  exact op_sound hcall hext hF hcx h hi hc hr1 (fun g' w' a' hs hf => hK g' w' a' hs (hf.eqE he))

end Go.Ai

/-
  Open regions: all orders.
-/
namespace Go.Ai

variable {P : Program} {glob : Nat → Option (List AV)} {g : Ghost} {s : St} {B : Nat} {w : World} {env env2 : Env} {a : Act} {call : AV → List AV → St → Ctx → CO} {cx : Ctx} {env' : Env} {s' : St} {ops : Array Oper} {aops : List AOper}

theorem chkOpers_get {N : Nat} {all : Array Oper} : ∀ (os : List Oper) (aos : List AOper), chkOpers P N all os aos = true → ∀ (i : Nat) (o : Oper), os[i]? = some o → ∃ ao, aos[i]? = some ao ∧ chkOper P N all o ao = true
  | [], _, _, i, o, h => by simp at h
  | o :: os, [], hc, _, _, _ => by simp [chkOpers] at hc
  | o :: os, ao :: aos, hc, i, o', h => by
    simp only [chkOpers, Bool.and_eq_true] at hc
    cases i with
    | zero => simp at h; subst h; exact ⟨ao, rfl, hc.1⟩
    | succ i => simp at h; simpa using chkOpers_get os aos hc.2 i o' h

open Classical in
theorem split_quiet (aops : List AOper) : ∀ (l : List Nat), ∃ p r, l = p ++ r ∧ (∀ i ∈ p, QuietI aops i) ∧ ∀ b r', r = b :: r' → ¬ QuietI aops b
  | [] => ⟨[], [], rfl, fun _ h => (by cases h), fun _ _ h => (by cases h)⟩
  | i :: l => by
    by_cases hi : QuietI aops i
    · obtain ⟨p, r, h1, h2, h3⟩ := split_quiet aops l
      exact ⟨i :: p, r, by rw [h1]; rfl, fun j hj => by
        rcases List.mem_cons.1 hj with rfl | hj
        · exact hi
        · exact h2 j hj, h3⟩
    · exact ⟨[], i :: l, rfl, fun _ h => (by cases h), fun b r' h => by cases h; exact hi⟩

theorem apartI_quiet {j i : Nat} (h : ApartI aops j i) : QuietI aops j ∧ QuietI aops i := by
  obtain ⟨o, p, h1, h2, h3⟩ := h
  obtain ⟨q1, q2, _⟩ := apartA_spec h3
  exact ⟨⟨o, h1, q1⟩, ⟨p, h2, q2⟩⟩

theorem draw_go {F : Fence} {n N b0 : Nat} {ls : List Nat} {Q : Exit → Act → World → Prop} (hcall : CallOK P glob call) (hext : CallExt call) (hF : isF F)
    (hops : ∀ (i : Nat) (o : Oper), ops[i]? = some o → ∃ ao, aops[i]? = some ao ∧ chkOper P N ops o ao = true) :
    ∀ (fuel : Nat) (listed : Array Bool) (p r : List Nat) {env E : Env} {g : Ghost} {s : St} {w : World} {a : Act}, (p ++ r).length = fuel → Inv ops aops listed (p ++ r) → (∀ i ∈ p, QuietI aops i) → (∀ b r', r = b :: r' → ¬ QuietI aops b) →
      (∃ env3, runDraw glob call cx aops p env s = .norm env3 s ∧ EqE env3 E) → runDraw glob call cx aops r E s = .norm env' s' → CtxOK cx s → Fr P glob g s B w a env N b0 ls →
      (∀ g' w' a', Step g s.length B w g' s'.length w' → Fr P glob g' s' B w' a' env' N b0 ls → Q .normal a' w') → wpAnyIn F n P .any ops Q fuel listed a w := by
  intro fuel
  induction fuel with
  | zero =>
    intro listed p r env E g s w a hlen hinv hp hr hrun hrest hcx hfr hQ
    have hnil : p ++ r = [] := List.eq_nil_of_length_eq_zero hlen
    obtain ⟨rfl, rfl⟩ := List.append_eq_nil_iff.1 hnil
    obtain ⟨env3, h3, he⟩ := hrun
    simp only [runDraw, Out.norm.injEq, and_true] at h3 hrest
    subst h3
    obtain ⟨rfl, rfl⟩ := hrest
    exact ⟨hinv.nil_ready, hQ g w a (.refl _ _ _ _) (hfr.eqE he)⟩
  | succ fuel ih =>
    intro listed p r env E g s w a hlen hinv hp hr hrun hrest hcx hfr hQ
    refine ⟨fun h0 => ?_, fun i hi => ?_⟩
    · cases hpr : p ++ r with
      | nil => rw [hpr] at hlen; cases hlen
      | cons j t => rw [hpr] at hinv; have := hinv.head_ready; rw [h0] at this; cases this
    · have hmem := hinv.ready_mem hi
      obtain ⟨_, o, ho, _⟩ := mem_ready.1 hi
      obtain ⟨ao, hao, hchk⟩ := hops i o ho
      have hpair : ∀ j ∈ p ++ r, ∀ pre post, p ++ r = pre ++ i :: post → j ∈ pre → ApartI aops j i := by
        intro j hj pre post heq hjp
        have hpw := hinv.pairs
        rw [heq] at hpw
        have := (List.pairwise_append.1 hpw).2.2 j hjp i (by simp)
        rcases this with h1 | h1
        · exact absurd h1 (hinv.not_reach hi hj)
        · exact h1
      have hcase : (∃ p1 p2, p = p1 ++ i :: p2) ∨ (p = [] ∧ ∃ r', r = i :: r') := by
        rcases List.mem_append.1 hmem with hm | hm
        · exact .inl (List.append_of_mem hm)
        · obtain ⟨r1, r2, hreq⟩ := List.append_of_mem hm
          right
          have hnq : r1 = [] := by
            cases r1 with
            | nil => rfl
            | cons b r1 =>
              have hb := hr b (r1 ++ i :: r2) hreq
              have := hpair b (by rw [hreq]; simp) (p ++ b :: r1) r2 (by rw [hreq]; simp) (by simp)
              exact absurd (apartI_quiet this).1 hb
          subst hnq
          refine ⟨?_, r2, hreq⟩
          cases p with
          | nil => rfl
          | cons j p =>
            have := hpair j (by simp) (j :: p) r2 (by rw [hreq]; rfl) (by simp)
            exact absurd (apartI_quiet this).2 (hr i r2 hreq)
      rcases hcase with ⟨p1, p2, rfl⟩ | ⟨rfl, r', rfl⟩
      · obtain ⟨env3, h3, he⟩ := hrun
        obtain ⟨o', env1, env4, ho', hr1, h4, he4⟩ := bubble p1 hp (fun j hj => hpair j (by simp [hj]) p1 (p2 ++ r) (by simp) hj) h3
        rw [hao] at ho'; cases ho'
        have hinv' : Inv ops aops (listed.setIfInBounds i true) (p1 ++ p2 ++ r) := by
          have h0 : Inv ops aops listed (p1 ++ i :: (p2 ++ r)) := by simpa using hinv
          simpa using h0.remove hi
        refine quiet_sound hcall hext hF hfr ho hchk hr1 (fun g1 w1 a1 st1 hf1 => ?_)
        refine ih _ (p1 ++ p2) r (by simp at hlen ⊢; omega) hinv' (fun j hj => hp j (by simp at hj ⊢; rcases hj with hj | hj <;> simp [hj])) hr ⟨env4, h4, fun k => (he4 k).symm.trans (he k)⟩ hrest hcx hf1 (fun g2 w2 a2 st2 hf2 => hQ g2 w2 a2 (st1.trans st2) hf2)
      · obtain ⟨env3, h3, he⟩ := hrun
        simp only [runDraw, Out.norm.injEq, and_true] at h3
        subst h3
        have hfE := hfr.eqE he
        obtain ⟨o', env1, s1, ho', hr1, hrest'⟩ := runDraw_cons_norm.1 hrest
        rw [hao] at ho'; cases ho'
        have hloud : ao.op.quiet.isSome = false := by
          cases hqq : ao.op.quiet.isSome with
          | false => rfl
          | true => exact absurd ⟨ao, hao, hqq⟩ (hr i r' rfl)
        rw [runD_loud hloud] at hr1
        have hx : Ext cx s s1 := runOp_ext hext hcx (o := ao) (by rw [hr1]; rfl)
        obtain ⟨p', r'', hsp, hp', hr''⟩ := split_quiet aops r'
        rw [hsp, runDraw_append] at hrest'
        have hinv' : Inv ops aops (listed.setIfInBounds i true) (p' ++ r'') := by
          have h0 : Inv ops aops listed ([] ++ i :: r') := by simpa using hinv
          rw [← hsp]; simpa using h0.remove hi
        refine op_sound hcall hext hF hcx hfE ho hchk hr1 (fun g1 w1 a1 st1 hf1 => ?_)
        split at hrest'
        · rename_i e2 s2 hq2
          have hs2 := quiets_st p' hp' hq2
          rw [hs2] at hq2 hrest'
          exact ih _ p' r'' (by rw [← hsp]; simpa using hlen) hinv' hp' hr'' ⟨e2, hq2, fun _ => rfl⟩ hrest' (hcx.ext hx) hf1 (fun g2 w2 a2 st2 hf2 => hQ g2 w2 a2 (st1.trans st2) hf2)
        · rename_i hne
          exact absurd hrest' (hne _ _)

theorem tips_sound {N b0 : Nat} {ls : List Nat} : ∀ (ts : List Nat) {g : Ghost} {env : Env}, Fr P glob g s B w a env N b0 ls → ∃ g', Step g s.length B w g' s.length w ∧ Fr P glob g' s B w a (tipE env ts) N b0 ls
  | [], g, env, h => ⟨g, .refl _ _ _ _, h⟩
  | k :: ts, g, env, h => by
    unfold tipE
    split
    · rename_i tip t sz es hk
      obtain ⟨g1, st1, hs1, _⟩ := claim_own h.sim hk
      obtain ⟨g2, st2, h2⟩ := tips_sound ts (h.next hs1 rfl rfl st1.le (fun _ hh => hh))
      exact ⟨g2, st1.trans st2, h2⟩
    · exact tips_sound ts h

theorem chkTopo_spec : ∀ (π seen : List Nat), chkTopo ops π seen = true → (∀ i ∈ π, i < ops.size) ∧ π.Nodup ∧ (∀ i ∈ π, i ∉ seen) ∧ ∀ p i q, π = p ++ i :: q → ∀ e ∈ waitsOn ops i, e ∈ seen ∨ e ∈ p
  | [], seen, _ => ⟨fun _ h => (by cases h), List.nodup_nil, fun _ h => (by cases h), fun p i q h => by simp at h⟩
  | i :: r, seen, h => by
    simp only [chkTopo, Bool.and_eq_true, decide_eq_true_eq, List.all_eq_true, Bool.not_eq_true', List.contains_eq_mem, decide_eq_false_iff_not] at h
    obtain ⟨⟨⟨h1, h2⟩, h3⟩, h4⟩ := h
    obtain ⟨a1, a2, a3, a4⟩ := chkTopo_spec r (i :: seen) h4
    refine ⟨fun j hj => ?_, List.nodup_cons.2 ⟨fun hh => a3 i hh (by simp), a2⟩, fun j hj => ?_, fun p k q heq e he => ?_⟩
    · rcases List.mem_cons.1 hj with rfl | hj
      · exact h1
      · exact a1 j hj
    · rcases List.mem_cons.1 hj with rfl | hj
      · exact h2
      · exact fun hh => a3 j hj (by simp [hh])
    · cases p with
      | nil => simp at heq; obtain ⟨rfl, rfl⟩ := heq; exact .inl (h3 e he)
      | cons x p =>
        simp at heq
        obtain ⟨rfl, rfl⟩ := heq
        rcases a4 p k q rfl e he with h5 | h5
        · rcases List.mem_cons.1 h5 with rfl | h5
          · exact .inr (by simp)
          · exact .inl h5
        · exact .inr (by simp [h5])

theorem draw_ok (hM : P.follows .mixedOrders = true) (hcall : CallOK P glob call) (hext : CallExt call) : DrawOK P glob call := by
  intro F n N id B b0 ls ops aops π ts Q cx g s s' w a env env' hF hops hdr hcx hfr hrun hQ
  simp only [chkDraw, Bool.and_eq_true, beq_iff_eq, List.all_eq_true, List.mem_range, List.contains_eq_mem, decide_eq_true_eq] at hdr
  obtain ⟨⟨⟨hlen, hall⟩, htopo⟩, hpairs⟩ := hdr
  obtain ⟨t1, t2, _, t4⟩ := chkTopo_spec π [] htopo
  have hpw := chkPairs_spec (ops := ops) (masks_spec π [] (fun e j h => by simp [maskIn] at h)) π hpairs
  refine wpIn_region_any hM ?_
  have hfr0 : Fr P glob g s B { w with drawn := w.drawn + 1 } a env N b0 ls := by
    refine hfr.next ⟨hfr.sim.base.grew ⟨Nat.le_refl _, fun _ _ => rfl, rfl, rfl⟩, hfr.sim.env.next (.refl _ _) (fun k e hk ho b hb => ⟨rfl, rfl, rfl, fun ht => ht⟩), hfr.sim.B⟩ rfl rfl (.refl _ _) (fun _ h => h)
  have hst0 : Step g s.length B w g s.length { w with drawn := w.drawn + 1 } := ⟨.refl _ _, Nat.le_refl _, fun _ _ _ => rfl, fun _ _ _ => rfl, fun _ _ => rfl, fun b hb => .inl hb, rfl, rfl⟩
  obtain ⟨g1, st1, hf1⟩ := tips_sound ts hfr0
  simp only [runReg] at hrun
  obtain ⟨p, r, hsp, hp, hr⟩ := split_quiet aops π
  have hinv : Inv ops aops (Array.replicate ops.size false) π := by
    refine ⟨by simp, fun j hj => ?_, t1, t2, hpw, fun i hi => ?_, fun p i q heq e he => ?_⟩
    · simp [Array.getD_eq_getD_getElem?, hj]; exact hall j hj
    · exfalso
      rw [Array.getD_eq_getD_getElem?] at hi
      by_cases hlt : i < ops.size <;> simp [hlt] at hi
    · rcases t4 p i q heq e he with h | h
      · cases h
      · exact .inr h
  rw [hsp, runDraw_append] at hrun
  split at hrun
  · rename_i e2 s2 hq2
    have hs2 := quiets_st p hp hq2
    rw [hs2] at hq2 hrun
    exact draw_go hcall hext hF (fun i o ho => chkOpers_get _ _ hops i o (by simpa using ho)) ops.size _ p r (by rw [← hsp]; exact hlen) (by rw [← hsp]; exact hinv) hp hr ⟨e2, hq2, fun _ => rfl⟩ hrun hcx hf1 (fun g2 w2 a2 st2 hf2 => hQ g2 w2 a2 ((hst0.trans st1).trans st2) hf2)
  · rename_i hne
    exact absurd hrun (hne _ _)

end Go.Ai
