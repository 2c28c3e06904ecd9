/-
  A region whose order of evaluation is open: whatever the order, the interpreter's word holds.
-/
import Derived.Test.YtbdaaoohblcfhaaDoorAiA6
set_option maxRecDepth 100000
set_option linter.unusedSimpArgs false
set_option linter.unusedVariables false
namespace Go.Ai

variable {P : Program} {glob : Nat → Option (List AV)} {g : Ghost} {s : St} {B : Nat} {w : World} {env env2 : Env} {a : Act} {call : AV → List AV → St → Ctx → CO} {cx : Ctx} {env' : Env} {s' : St} {D : Nat → Prop}

def EqE (env env2 : Env) : Prop := ∀ k, lk env k = lk env2 k
theorem EqE.agr (h : EqE env env2) : Agr (fun _ => False) env env2 := ⟨fun k _ => h k, fun _ _ h => h.elim, fun _ _ h => h.elim⟩

theorem Fr.eqE {N b0 : Nat} {ls : List Nat} (h : Fr P glob g s B w a env N b0 ls) (he : EqE env env') : Fr P glob g s B w a env' N b0 ls := by
  refine ⟨⟨h.sim.base, ⟨fun k e hk => h.sim.env.rel k e (by rw [he]; exact hk), fun k k' e e' hk hk' => h.sim.env.apart k k' e e' (by rw [he]; exact hk) (by rw [he]; exact hk'), fun k e hk => h.sim.env.off k e (by rw [he]; exact hk), fun k e j hk hr => ?_⟩, h.sim.B⟩, h.sz, h.dl, h.df, h.nd, h.lo⟩
  obtain ⟨o, h1, h2⟩ := h.sim.env.refs k e j (by rw [he]; exact hk) hr
  exact ⟨o, by rw [← he]; exact h1, h2⟩

def putQ (env : Env) (dst : Option Nat) (e : EV) : Env :=
  match dst with
  | some d => (d, e) :: env
  | none => env
def okD (env : Env) (dst : Option Nat) (e : EV) : Prop := ∀ d, dst = some d → e.refers d = false ∧ ownsAt env d = false

theorem qval_owns {o : AOper} {e : EV} (h : qval glob call o env s = some e) : e.owns = false := by
  unfold qval at h
  split at h
  · cases h
  · cases h; rfl
  · split at h
    · split at h
      · split at h
        · rename_i hc; cases h; exact hc.2
        · cases h
      · cases h
    · cases h

theorem runQ_iff {o : AOper} {env1 : Env} {s1 : St} : runQ glob call o env s = .norm env1 s1 ↔ s1 = s ∧ ∃ e, qval glob call o env s = some e ∧ okD env o.dst e ∧ env1 = putQ env o.dst e := by
  unfold runQ
  cases hq : qval glob call o env s with
  | none => simp
  | some e =>
    cases hd : o.dst with
    | none => simp [okD, putQ]; constructor <;> (rintro ⟨rfl, rfl⟩; exact ⟨rfl, rfl⟩)
    | some d =>
      simp only [okD, putQ]
      constructor
      · intro h
        split at h
        · rename_i hc; cases h; exact ⟨rfl, e, rfl, fun d' hd' => by cases hd'; exact hc, rfl⟩
        · cases h
      · rintro ⟨rfl, e', he, h1, rfl⟩
        cases he
        rw [if_pos (h1 d rfl)]

theorem wanted_agr (h : Agr D env env2) {gd : Option (Nat × Bool)} (hg : ∀ k b, gd = some (k, b) → ¬ D k) : wantedA env gd = wantedA env2 gd := by
  cases gd with
  | none => rfl
  | some p => simp only [wantedA, h.same p.1 (hg p.1 p.2 rfl)]

def OffR (D : Nat → Prop) (o : AOper) : Prop := ∀ k ∈ o.reads, ¬ D k

theorem qval_agr (h : Agr D env env2) {o : AOper} (ho : OffR D o) {e : EV} (hq : qval glob call o env s = some e) : qval glob call o env2 s = some e := by
  unfold qval at hq ⊢
  rw [← wanted_agr h (gd := o.guard) (fun k b hk => ho k (by simp [AOper.reads, hk]))]
  split at hq
  · cases hq
  · exact hq
  · split at hq
    · rename_i hok
      unfold okQ at hok
      split at hok
      · rename_i rs es hqu
        simp only [Bool.and_eq_true] at hok
        have hoff : ∀ x ∈ rs ++ es, x.off D := fun x hx k hk => ho k (by simp only [AOper.reads, hqu]; exact List.mem_append_left _ (List.mem_flatMap.2 ⟨x, hx, hk⟩))
        split at hq
        · rename_i e1 env1 s1 ha
          obtain ⟨_, env3, ha2, _⟩ := aop_agr h hqu hoff hok.1 hok.2 ha
          have hok2 : okQ glob env2 o.op = true := by
            unfold okQ
            rw [hqu]
            simp only [Bool.and_eq_true]
            constructor
            · rw [← hok.1]
              rw [Bool.eq_iff_iff]
              simp only [List.all_eq_true]
              have : ∀ x ∈ rs, noOm glob env2 x = noOm glob env x := fun x hx => by unfold noOm; rw [ev_agr h (hoff x (by simp [hx]))]
              exact ⟨fun hh x hx => by rw [← this x hx]; exact hh x hx, fun hh x hx => by rw [this x hx]; exact hh x hx⟩
            · have hesc := hok.2
              simp only [List.all_eq_true] at hesc ⊢
              intro x hx
              have h1 := hesc x hx
              unfold escOK at h1 ⊢
              rw [← ev_agr h (hoff x (by simp [hx]))]
              split at h1
              · rfl
              · rename_i j hv
                split at h1
                · rename_i tip t sz es' hj; rw [(h.own (k := j) (e := .own tip t sz es') rfl).1 hj]; exact h1
                · cases h1
              · exact h1
              · cases h1
          rw [if_pos hok2, ha2]
          exact hq
        · cases hq
      · cases hok
    · cases hq

theorem agr_put {dst : Option Nat} {e : EV} (he : e.owns = false) (hd : okD env dst e) : Agr (fun k => dst = some k) (putQ env dst e) env := by
  cases dst with
  | none => exact ⟨fun _ _ => rfl, fun k _ h => (by cases h), fun k _ h => (by cases h)⟩
  | some d =>
    have hn := (hd d rfl).2
    refine ⟨fun k hk => ?_, fun k e' hk hl => ?_, fun k e' hk hl => ?_⟩
    · have : d ≠ k := fun h => hk (by rw [h])
      show (if d = k then some e else lk env k) = _
      rw [if_neg this]
    · cases hk
      have : lk ((d, e) :: env) d = some e := by show (if d = d then some e else _) = _; rw [if_pos rfl]
      have hh : lk ((d, e) :: env) d = some e' := hl
      rw [this] at hh; cases hh; exact he
    · cases hk
      unfold ownsAt at hn; rw [hl] at hn; exact hn
theorem Agr.symm (h : Agr D env env2) : Agr D env2 env := ⟨fun k hk => (h.same k hk).symm, h.o2, h.o1⟩

theorem lk_putQ_ne {dst : Option Nat} {e : EV} {k : Nat} (h : dst ≠ some k) : lk (putQ env dst e) k = lk env k := by
  cases dst with
  | none => rfl
  | some d => show (if d = k then some e else lk env k) = _; rw [if_neg (fun hh => h (by rw [hh]))]

theorem notIn_spec {d : Option Nat} {o : AOper} (h : notIn d o.reads = true) : OffR (fun k => d = some k) o := by
  intro k hk hd
  subst hd
  simp [notIn] at h
  exact h k hk rfl

theorem apartA_spec {o p : AOper} (h : apartA o p = true) : o.op.quiet.isSome = true ∧ p.op.quiet.isSome = true ∧ OffR (fun k => o.dst = some k) p ∧ OffR (fun k => p.dst = some k) o ∧ ∀ d, o.dst = some d → p.dst ≠ some d := by
  simp only [apartA, Bool.and_eq_true] at h
  obtain ⟨⟨⟨⟨h1, h2⟩, h3⟩, h4⟩, h5⟩ := h
  refine ⟨h1, h2, notIn_spec h3, notIn_spec h4, fun d hd hp => ?_⟩
  rw [hd, hp] at h5
  simp at h5

theorem runQ_swap {o p : AOper} (hap : apartA o p = true) {env1 env2 : Env} (h1 : runQ glob call o env s = .norm env1 s) (h2 : runQ glob call p env1 s = .norm env2 s) :
    ∃ env1' env2', runQ glob call p env s = .norm env1' s ∧ runQ glob call o env1' s = .norm env2' s ∧ EqE env2' env2 := by
  obtain ⟨_, _, a1, a2, a3⟩ := apartA_spec hap
  obtain ⟨_, eo, qo, ko, rfl⟩ := runQ_iff.1 h1
  obtain ⟨_, ep, qp, kp, rfl⟩ := runQ_iff.1 h2
  have qp' := qval_agr (agr_put (qval_owns qo) ko) a1 qp
  have kp' : okD env p.dst ep := fun d hd => ⟨(kp d hd).1, by
    have := (kp d hd).2
    unfold ownsAt at this ⊢
    rw [lk_putQ_ne (fun hh => a3 d hh hd)] at this
    exact this⟩
  refine ⟨putQ env p.dst ep, putQ (putQ env p.dst ep) o.dst eo, runQ_iff.2 ⟨rfl, ep, qp', kp', rfl⟩, runQ_iff.2 ⟨rfl, eo, qval_agr (agr_put (qval_owns qp') kp').symm a2 qo, fun d hd => ⟨(ko d hd).1, ?_⟩, rfl⟩, fun k => ?_⟩
  · have := (ko d hd).2
    unfold ownsAt at this ⊢
    rw [lk_putQ_ne (a3 d hd)]
    exact this
  · by_cases hk : o.dst = some k
    · have hk2 := a3 k hk
      rw [lk_putQ_ne hk2, hk]
      show (if k = k then some eo else _) = (if k = k then some eo else _)
      rw [if_pos rfl, if_pos rfl]
    · rw [lk_putQ_ne hk]
      by_cases hk2 : p.dst = some k
      · rw [hk2]
        show (if k = k then some ep else _) = (if k = k then some ep else _)
        rw [if_pos rfl, if_pos rfl]
      · rw [lk_putQ_ne hk2, lk_putQ_ne hk2, lk_putQ_ne hk]

theorem EqE.put (h : EqE env env2) (dst : Option Nat) (e : EV) : EqE (putQ env dst e) (putQ env2 dst e) := by
  intro k
  cases dst with
  | none => exact h k
  | some d => show (if d = k then some e else lk env k) = (if d = k then some e else lk env2 k); rw [h k]

theorem runQ_eqE (h : EqE env env2) {o : AOper} {env1 : Env} (h1 : runQ glob call o env s = .norm env1 s) : ∃ env1', runQ glob call o env2 s = .norm env1' s ∧ EqE env1 env1' := by
  obtain ⟨_, e, q, k, rfl⟩ := runQ_iff.1 h1
  exact ⟨_, runQ_iff.2 ⟨rfl, e, qval_agr h.agr (fun _ _ h => h.elim) q, fun d hd => ⟨(k d hd).1, by have := (k d hd).2; unfold ownsAt at this ⊢; rw [← h d]; exact this⟩, rfl⟩, h.put _ _⟩

end Go.Ai
