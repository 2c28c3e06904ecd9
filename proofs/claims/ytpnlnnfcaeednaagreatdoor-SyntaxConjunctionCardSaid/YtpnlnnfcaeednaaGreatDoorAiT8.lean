/-
 terms.tidy and terms.Tidy.
-/
import Derived.Test.YtpnlnnfcaeednaaGreatDoorAiT7
import Derived.Test.YtpnlnnfcaeednaaGreatDoorAiK5K6K7
set_option maxRecDepth 100000
set_option linter.unusedSimpArgs false
set_option linter.unusedVariables false
set_option linter.unusedSectionVars false
namespace Go.Ai.Z
theorem tidyN_eq (c : C) : tidyN c = if c.kind = 6 then (match tidyNL c.parts with
   | some (p :: _) => if p.kind = 2 then some p else some (.mk 6 c.name 0 0 false [p])
   | _ => none)
  else if c.kind = 5 then (match tidyNL c.parts with
   | some qs => meetN qs
   | none => none)
  else some (nz c) := by
 cases c
 rw [tidyN]; rfl
theorem tidyNL_map (f : C → C) : ∀ l : List C, (∀ p ∈ l, tidyN (f p) = tidyN p) → tidyNL (l.map f) = tidyNL l
 | [], _ => rfl
 | p :: r, h => by
  simp only [List.map_cons, tidyNL, h p (by simp), tidyNL_map f r (fun q hq => h q (by simp [hq]))]
theorem tidyN_nz : ∀ c : C, tidyN (nz c) = tidyN c := by
 refine C.ind' fun c ih => ?_
 rw [tidyN_eq (nz c), tidyN_eq c, nz_kind, nz_name, nz_parts, tidyNL_map nz c.parts ih, nz_nz]
theorem wC_nz : ∀ c : C, wC (nz c) = wC c := by
 refine C.ind' fun c ih => ?_
 have : ∀ l : List C, (∀ p ∈ l, wC (nz p) = wC p) → wL (l.map nz) = wL l := by
  intro l
  induction l with
  | nil => intro _; rfl
  | cons p r ih2 => intro h; simp only [List.map_cons, wL, h p (by simp), ih2 (fun q hq => h q (by simp [hq]))]
 rw [wC_eq, wC_eq c, nz_name, nz_parts, this c.parts ih]
theorem wL_app : ∀ x y : List C, wL (x ++ y) = wL x + wL y
 | [], y => by simp [wL]
 | a :: x, y => by simp only [List.cons_append, wL, wL_app x y]; omega
theorem wL_perm {l m : List C} (h : l.Perm m) : wL l = wL m := by
 induction h with
 | nil => rfl
 | cons x _ ih => simp only [wL, ih]
 | swap x y l => simp only [wL]; omega
 | trans _ _ i j => exact i.trans j
theorem wL_sub {l m : List C} (h : l.Sublist m) : wL l ≤ wL m := by
 induction h with
 | slnil => exact Nat.le_refl _
 | cons a _ ih => simp only [wL]; omega
 | cons_cons a _ ih => simp only [wL]; omega
theorem wL_flatOf (x : C) : wL (flatOf x) ≤ wC x := by
 unfold flatOf
 split
 ·simp [wL]
 ·split
  ·rw [wC_eq]; omega
  ·simp [wL]
theorem wL_flat : ∀ qs : List C, wL (qs.flatMap flatOf) ≤ wL qs
 | [] => by simp [wL]
 | q :: r => by
  have h1 := wL_flat r
  have h2 := wL_flatOf q
  simp only [List.flatMap_cons, wL_app, wL]; omega
theorem w_meet {qs : List C} {y : C} (h : meetN qs = some y) : wC y ≤ 1 + wL qs := by
 have h1 : wL (comp (isortC (qs.flatMap flatOf))) ≤ wL qs := by
  have h2 := wL_sub (comp_sub (isortC (qs.flatMap flatOf)))
  have h3 := wL_perm (isortC_perm (qs.flatMap flatOf))
  have h4 := wL_flat qs
  omega
 unfold meetN at h
 generalize comp (isortC (qs.flatMap flatOf)) = m at h h1
 simp only at h
 split at h
 ·rename_i t ht
  cases h
  have := wL_mem (List.mem_of_find?_eq_some ht)
  omega
 ·split at h
  ·cases h; simp [topC, wC, wL]
  ·cases h; simp only [wL] at h1; omega
  ·split at h
   ·cases h
   ·cases h
    simp only [wC, List.length_nil]
    omega
theorem flatL_len (fx : C → C) (k : Nat) : ∀ l : List C, (∀ p ∈ l, wC (fx p) ≤ k) → 1 ≤ k → (flatL fx l).length ≤ l.length * k
 | [], _, _ => by simp [flatL]
 | p :: r, h, hk => by
  have h1 := flatL_len fx k r (fun q hq => h q (by simp [hq])) hk
  have h2 : (flatOf (fx p)).length ≤ k := by
   have h3 := h p (by simp)
   have h4 := wL_len (flatOf (fx p))
   have h5 := wL_flatOf (fx p)
   omega
  simp only [flatL, List.flatMap_cons, List.length_append, List.length_cons, Nat.succ_mul] at h1 ⊢
  omega
theorem flatL_mem (fx : C → C) {l : List C} {c : C} (h : c ∈ flatL fx l) : ∃ p ∈ l, wC c ≤ wC (fx p) := by
 obtain ⟨p, hp, hc⟩ := List.mem_flatMap.1 h
 refine ⟨p, hp, ?_⟩
 have h1 := wL_mem hc
 have h2 := wL_flatOf (fx p)
 omega
theorem errL_zero {fe : C → Int} : ∀ {l : List C}, errL fe l = 0 ↔ ∀ p ∈ l, fe p = 0
 | [] => by simp [errL]
 | p :: r => by
  unfold errL
  by_cases h : fe p = 0
  ·simp [h, errL_zero (l := r)]
  ·simp [h]
theorem errL_mem {fe : C → Int} : ∀ {l : List C}, errL fe l ≠ 0 → ∃ p ∈ l, errL fe l = fe p ∧ fe p ≠ 0
 | [], h => absurd rfl h
 | p :: r, h => by
  unfold errL at h ⊢
  by_cases h0 : fe p = 0
  ·rw [if_pos h0] at h ⊢
   obtain ⟨q, hq, h1⟩ := errL_mem h
   exact ⟨q, by simp [hq], h1⟩
  ·rw [if_neg h0]
   exact ⟨p, by simp, rfl, h0⟩
theorem TidyR.zero {y : Option C} {x : C} {e : Int} (h : TidyR y x e) (he : e = 0) : y = some (nz x) := by
 cases y with
 | none => simp [TidyR] at h; omega
 | some t => obtain ⟨h1, _⟩ := h; rw [h1]
theorem TidyR.two {y : Option C} {x : C} {e : Int} (h : TidyR y x e) (he : e ≠ 0) : y = none ∧ e = 2 := by
 cases y with
 | none => exact ⟨rfl, h⟩
 | some t => exact absurd h.2 he
theorem tidyNL_zero {fx : C → C} {fe : C → Int} : ∀ {l : List C}, (∀ p ∈ l, TidyR (tidyN p) (fx p) (fe p)) → (∀ p ∈ l, fe p = 0) → tidyNL l = some (l.map fun p => nz (fx p))
 | [], _, _ => rfl
 | p :: r, h, h0 => by
  simp only [tidyNL, (h p (by simp)).zero (h0 p (by simp)), tidyNL_zero (l := r) (fun q hq => h q (by simp [hq])) (fun q hq => h0 q (by simp [hq])), List.map_cons]
theorem tidyNL_none {fx : C → C} {fe : C → Int} : ∀ {l : List C}, (∀ p ∈ l, TidyR (tidyN p) (fx p) (fe p)) → (∃ p ∈ l, fe p ≠ 0) → tidyNL l = none
 | [], _, h0 => by simp at h0
 | p :: r, h, h0 => by
  by_cases hp : fe p = 0
  ·have : ∃ q ∈ r, fe q ≠ 0 := by
    obtain ⟨q, hq, hq0⟩ := h0
    rcases List.mem_cons.1 hq with rfl | hq
    ·exact absurd hp hq0
    ·exact ⟨q, hq, hq0⟩
   simp only [tidyNL, (h p (by simp)).zero hp, tidyNL_none (fun q hq => h q (by simp [hq])) this]
  ·simp only [tidyNL, ((h p (by simp)).two hp).1]
theorem wL_map {f : C → C} : ∀ {l : List C}, (∀ p ∈ l, wC (f p) ≤ wC p) → wL (l.map f) ≤ wL l
 | [], _ => by simp [wL]
 | p :: r, h => by
  have h1 := wL_map (l := r) (fun q hq => h q (by simp [hq]))
  have h2 := h p (by simp)
  simp only [List.map_cons, wL]; omega
theorem c_terms_tidy : ∀ c : C, walkS c = 0 → wC c ≤ 1000 → ∃ (x : C) (e : Int), TidyR (tidyN c) x e ∧ (e = 0 → wC x ≤ wC c) ∧ wC x ≤ 1000 ∧
  ∀ (s : St) (cx : Ctx), acallW P0 (.fn (.func F_terms_tidy) [] []) [encC c] s cx = .ret (.tu [encC x, .i .i64 e]) s := by
 refine C.ind' fun c ih hv hw => ?_
 obtain ⟨v1, v2, v3⟩ := walk_ok hv
 have hpw : ∀ p ∈ c.parts, wC p ≤ 1000 := fun p hp => by have := wL_mem hp; rw [wC_eq] at hw; omega
 have ih' : ∀ p ∈ c.parts, ∃ (x : C) (e : Int), TidyR (tidyN p) x e ∧ (e = 0 → wC x ≤ wC p) ∧ wC x ≤ 1000 ∧
  ∀ (s : St) (cx : Ctx), acallW P0 (.fn (.func F_terms_tidy) [] []) [encC p] s cx = .ret (.tu [encC x, .i .i64 e]) s := fun p hp => ih p hp (v3 p hp) (hpw p hp)
 clear ih
 have ih2 : ∃ (fx : C → C) (fe : C → Int), ∀ p ∈ c.parts, TidyR (tidyN p) (fx p) (fe p) ∧ (fe p = 0 → wC (fx p) ≤ wC p) ∧ wC (fx p) ≤ 1000 ∧
  ∀ (s : St) (cx : Ctx), acallW P0 (.fn (.func F_terms_tidy) [] []) [encC p] s cx = .ret (.tu [encC (fx p), .i .i64 (fe p)]) s := by
  classical
  refine ⟨fun p => if h : p ∈ c.parts then (ih' p h).choose else p, fun p => if h : p ∈ c.parts then (ih' p h).choose_spec.choose else 0, fun p hp => ?_⟩
  simp only [dif_pos hp]
  exact (ih' p hp).choose_spec.choose_spec
 obtain ⟨fx, fe, hf⟩ := ih2
 by_cases k6 : c.kind = 6
 ·obtain ⟨p, hp⟩ : ∃ p, c.parts = [p] := by
   simp [shapeS, k6] at v1
   have : c.parts.length = 1 := by omega
   exact List.length_eq_one_iff.1 this
  have hpm : p ∈ c.parts := by rw [hp]; simp
  obtain ⟨h1, h2, h3, h4⟩ := hf p hpm
  have hcw := wC_eq c
  rw [hp] at hcw
  simp only [wL] at hcw
  have htn : tidyN c = match tidyN p with
    | none => none
    | some q => if q.kind = 2 then some q else some (.mk 6 c.name 0 0 false [q]) := by
   rw [tidyN_eq, if_pos k6, hp]
   simp only [tidyNL]
   cases tidyN p <;> rfl
  by_cases he : fe p = 0
  ·have h5 := h1.zero he
   have h6 := h2 he
   by_cases hk : (fx p).kind = 2
   ·refine ⟨fx p, 0, ?_, fun _ => by omega, h3, fun s cx => ?_⟩
    ·rw [htn, h5]
     simp only [nz_kind, hk, if_true]
     exact ⟨rfl, rfl⟩
    ·refine go_terms_tidy (by simp) ?_
     simp [callFnW, ir_terms_tidy, k6, hp, h4, he, hk]
     rw [encC_eq, hk]
   ·refine ⟨.mk 6 c.name 0 0 false [fx p], 0, ?_, fun _ => ?_, ?_, fun s cx => ?_⟩
    ·rw [htn, h5]
     simp only [nz_kind, hk, if_false]
     exact ⟨by rw [nz_eq]; rfl, rfl⟩
    ·simp only [wC, wL]; omega
    ·simp only [wC, wL]; omega
    ·refine go_terms_tidy (by simp) ?_
     have e1 : encC (.mk 6 c.name 0 0 false [fx p]) = .ag [.i .i64 6, .s c.name, .i .i64 0, .i .i64 0, .sl [encC (fx p)]] := by rw [encC_eq]; simp [C.kind, C.name, C.lo, C.hi, C.z, C.parts]
     rw [e1]
     simp [callFnW, ir_terms_tidy, k6, hp, h4, he, hk, fillC, splice, List.range_succ]
  ·obtain ⟨h5, h6⟩ := h1.two he
   refine ⟨fx p, 2, ?_, fun h => absurd h (by decide), h3, fun s cx => ?_⟩
   ·rw [htn, h5]; rfl
   ·refine go_terms_tidy (by simp) ?_
    simp [callFnW, ir_terms_tidy, k6, hp, h4, h6]
 ·by_cases k5 : c.kind = 5
  ·have hlen : c.parts.length ≤ 8 := by simp [shapeS, k5] at v1; omega
   have hfl := flatL_len fx 1000 c.parts (fun p hp => (hf p hp).2.2.1) (by omega)
   obtain ⟨x, e, hr, hw1, hm⟩ := c_meet c.z c.parts (by omega) fx fe (fun p hp => (hf p hp).2.2.2) (fun p hp => (hf p hp).2.2.1) (by omega)
    (fun y hy => by obtain ⟨p, hp, h1⟩ := flatL_mem fx hy; have := (hf p hp).2.2.1; omega)
   have htn : tidyN c = match tidyNL c.parts with | some qs => meetN qs | none => none := by rw [tidyN_eq, if_neg k6, if_pos k5]
   have hgo : ∀ (s : St) (cx : Ctx), acallW P0 (.fn (.func F_terms_tidy) [] []) [encC c] s cx = .ret (.tu [encC x, .i .i64 e]) s := by
    intro s cx
    refine go_terms_tidy (by simp) ?_
    have hm' := hm s ⟨s.length, s.length⟩ (Nat.le_refl _)
    simp [callFnW, ir_terms_tidy, k5, hm']
   by_cases herr : errL fe c.parts = 0
   ·rw [if_pos herr] at hr
    have h0 := errL_zero.1 herr
    have hT : TidyR (tidyN c) x e := by rw [htn, tidyNL_zero (fun p hp => (hf p hp).1) h0]; exact hr
    have hwe : e = 0 → wC x ≤ wC c := fun he => by
     have h1 := hr.zero he
     have h2 := w_meet h1
     rw [wC_nz] at h2
     have h3 := wL_map (f := fun p => nz (fx p)) (l := c.parts) (fun p hp => by rw [wC_nz]; exact (hf p hp).2.1 (h0 p hp))
     have h4 := wC_eq c
     omega
    by_cases he : e = 0
    ·exact ⟨x, e, hT, hwe, by have := hwe he; omega, hgo⟩
    ·exact ⟨x, e, hT, hwe, by have := hw1 he; omega, hgo⟩
   ·rw [if_neg herr] at hr
    obtain ⟨p, hp, h1, h2⟩ := errL_mem herr
    have h3 := ((hf p hp).1.two h2).2
    have he : e = 2 := by omega
    refine ⟨x, e, ?_, fun h => by omega, by have := hw1 (by omega); omega, hgo⟩
    rw [htn, tidyNL_none (fun p hp => (hf p hp).1) ⟨p, hp, h2⟩]
    exact he
  ·refine ⟨c, 0, ?_, fun _ => Nat.le_refl _, hw, fun s cx => ?_⟩
   ·rw [tidyN_eq, if_neg k6, if_neg k5]; exact ⟨rfl, rfl⟩
   ·refine go_terms_tidy (by simp) ?_
    simp [callFnW, ir_terms_tidy, k6, k5]
theorem c_terms_Tidy (c : C) (hv : checkS c = 0) (hw : wC c ≤ 1000) : ∃ (x : C) (e : Int), TidyR (tidyN c) x e ∧ wC x ≤ 1000 ∧
  ∀ (s : St) (cx : Ctx), acallW P0 (.fn (.func F_terms_Tidy) [] []) [encC c] s cx = .ret (.tu [encC x, .i .i64 e]) s := by
 obtain ⟨x, e, h1, _, h2, h3⟩ := c_terms_tidy c (check_walk hv) hw
 refine ⟨x, e, h1, h2, fun s cx => ?_⟩
 have hc := c_terms_CheckConcept c (by omega)
 refine go_terms_Tidy (by simp) ?_
 simp [callFnW, ir_terms_Tidy, hc, hv, h3]
end Go.Ai.Z
