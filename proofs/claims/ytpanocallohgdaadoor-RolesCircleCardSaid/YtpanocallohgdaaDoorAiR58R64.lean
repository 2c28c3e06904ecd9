/-
 Fewer axioms: the plain facts behind RolesInvariant and RolesFewer.
-/
import Derived.Test.YtpanocallohgdaaDoorAiR47R48R49R50
set_option maxRecDepth 100000
set_option linter.unusedSimpArgs false
set_option linter.unusedVariables false
namespace Go.Ai.Z
mutual
theorem walkS_le : ∀ c : C, walkS c ≤ 22
 | .mk k n l h z ps => by
  have := walkSL_le ps
  simp only [walkS]
  split
  ·decide
  ·split
   ·decide
   ·exact this
theorem walkSL_le : ∀ l : List C, walkSL l ≤ 22
 | [] => by simp [walkSL]
 | p :: r => by
  have h1 := walkS_le p
  have h2 := walkSL_le r
  simp only [walkSL]
  split
  ·exact h2
  ·exact h1
end
theorem checkS_le (c : C) : checkS c ≤ 22 := by
 unfold checkS
 split
 ·decide
 ·exact walkS_le c
theorem checkAS_le (x : Ax) : checkAS x ≤ 22 := by
 have h1 := checkS_le x.left
 have h2 := checkS_le x.right
 unfold checkAS
 split
 ·decide
 ·split
  ·decide
  ·unfold tailK
   split
   ·exact h1
   ·split
    ·exact h2
    ·split <;> decide
theorem chkL_le : ∀ l : List Ax, chkL l ≤ 22
 | [] => by simp [chkL]
 | x :: r => by
  have h1 := checkAS_le x
  have h2 := chkL_le r
  simp only [chkL]
  split
  ·exact h2
  ·exact h1
theorem CkOK.zero {l : List Ax} {X : List Rl} {e : Int} (h : CkOK l X e) (he : e = 0 ∨ e = 60) : chkL l = 0 := by
 by_cases h0 : chkL l = 0
 ·exact h0
 ·obtain ⟨_, rfl⟩ := h.2.1 h0
  have := chkL_le l
  omega
def RSub (l l' : List Ax) : Prop := ∀ x ∈ l, (x.kind = 5 ∨ x.kind = 6 ∨ x.kind = 7) → x ∈ l'
theorem stE_sub {l l' : List Ax} (h : RSub l l') : ∀ p ∈ stE l, p ∈ stE l' := fun p hp => by
 simp only [stE, List.mem_flatMap] at hp ⊢
 obtain ⟨x, hx, he⟩ := hp
 refine ⟨x, ?_, he⟩
 by_cases h5 : x.kind = 5
 ·exact h x hx (.inl h5)
 ·by_cases h6 : x.kind = 6
  ·exact h x hx (.inr (.inl h6))
  ·exfalso
   simp [stA, subE, h5, h6] at he
theorem CkOK.same {l l' : List Ax} (h : RSub l l') (h' : RSub l' l) (h0 : chkL l = 0) (h0' : chkL l' = 0) {X : List Rl} {e : Int} (hC : CkOK l X e) : CkOK l' X e := by
 refine ⟨hC.1, fun hh => absurd h0' hh, fun _ => ?_⟩
 rcases hC.2.2 h0 with ⟨a, b⟩ | ⟨a, b⟩
 ·exact .inl ⟨a.congr fun p => ⟨stE_sub h p, stE_sub h' p⟩, b⟩
 ·exact .inr ⟨fun c hc => a c (hc.mono (stE_sub h')), b⟩
theorem CkOK.fewer {l l' : List Ax} (h : RSub l l') (h0 : chkL l = 0) {X Y : List Rl} {f : Int} (hC : CkOK l' X 0) (hC' : CkOK l Y f) : f = 0 := by
 have h0' := hC.zero (.inl rfl)
 rcases hC.2.2 h0' with ⟨_, b⟩ | ⟨a, _⟩
 ·cases b
 ·rcases hC'.2.2 h0 with ⟨b, _⟩ | ⟨_, _, b⟩
  ·exact absurd (b.1.mono (stE_sub h)) (a _)
  ·exact b
end Go.Ai.Z
namespace Go.Ai.Z
def ldK (x : Ax) (r : Rl) : Nat → List Rl → Bool
 | _, [] => false
 | k, p :: rs => (decide (p = r) && !exS x k) || ldK x r (k + 1) rs
theorem ldK_iff (x : Ax) (r : Rl) : ∀ (rs : List Rl) (k : Nat), ldK x r k rs = true ↔ (r, x.role, true) ∈ chE x k rs
 | [], k => by simp [ldK, chE]
 | p :: rs, k => by
  have ih := ldK_iff x r rs (k + 1)
  simp only [ldK, chE, Bool.or_eq_true, Bool.and_eq_true, decide_eq_true_eq, Bool.not_eq_true', ih, List.mem_append]
  cases h : exS x k with
  | true => simp
  | false =>
   simp only [and_true, Bool.false_eq_true, if_false, List.mem_singleton, Prod.mk.injEq]
   exact or_congr ⟨fun h => h.symm, fun h => h.symm⟩ Iff.rfl
theorem chE_true {x : Ax} : ∀ {rs : List Rl} {k : Nat} {p : Rl × Rl × Bool}, p ∈ chE x k rs → p.2.1 = x.role ∧ p.2.2 = true
 | [], k, p, h => by simp [chE] at h
 | q :: rs, k, p, h => by
  simp only [chE, List.mem_append] at h
  rcases h with h | h
  ·split at h
   ·cases h
   ·simp only [List.mem_singleton] at h
    subst h; exact ⟨rfl, rfl⟩
  ·exact chE_true h
def ldU (r s : Rl) (x : Ax) : Bool := decide (x.role = s) && (decide (x.kind = 5) && (decide (r ≠ s) && (decide (x.roles.length = 1) && decide (x.roles[0]? = some r))))
def ldV (r s : Rl) (x : Ax) : Bool := decide (x.role = s) && (decide (x.kind = 6) && ldK x r 0 x.roles)
def ldB (l : List Ax) (r s : Rl) : Bool := l.any (ldU r s)
def ldT (l : List Ax) (r s : Rl) : Bool := l.any (ldV r s)
theorem ldT_iff {l : List Ax} {r s : Rl} : ldT l r s = true ↔ (r, s, true) ∈ stE l := by
 simp only [ldT, List.any_eq_true, stE, List.mem_flatMap]
 refine exists_congr fun x => and_congr_right fun _ => ?_
 simp only [ldV, Bool.and_eq_true, decide_eq_true_eq, ldK_iff, stA, List.mem_append]
 constructor
 ·rintro ⟨rfl, h6, h⟩
  rw [if_pos h6]; exact .inr h
 ·rintro (h | h)
  ·simp only [subE] at h
   split at h
   ·simp at h
   ·cases h
  ·split at h
   ·rename_i h6
    have := (chE_true h).1
    simp only at this
    subst this
    exact ⟨rfl, h6, h⟩
   ·cases h
theorem ldB_iff {l : List Ax} (h5 : One5 l) {r s : Rl} : ldB l r s = true ↔ (r, s, false) ∈ stE l := by
 simp only [ldB, List.any_eq_true, stE, List.mem_flatMap]
 refine exists_congr fun x => and_congr_right fun hx => ?_
 simp only [ldU, Bool.and_eq_true, decide_eq_true_eq, stA, List.mem_append]
 constructor
 ·rintro ⟨rfl, hk, hne, hl, hr⟩
  left
  have hh : x.roles.headD [] = r := by
   cases hrs : x.roles with
   | nil => rw [hrs] at hl; simp at hl
   | cons a b => rw [hrs] at hr; simpa using hr
  simp only [subE]
  rw [if_pos ⟨hk, by rw [hh]; exact hne⟩, hh]
  simp
 ·rintro (h | h)
  ·simp only [subE] at h
   split at h
   ·rename_i hc
    obtain ⟨r0, hr0⟩ := h5 x hx hc.1
    simp only [hr0, List.headD_cons] at hc h
    simp only [List.mem_singleton, Prod.mk.injEq, and_true] at h
    obtain ⟨rfl, rfl⟩ := h
    exact ⟨rfl, hc.1, hc.2, by simp [hr0], by simp [hr0]⟩
   ·cases h
  ·split at h
   ·have := (chE_true h).2; simp at this
   ·cases h
theorem ld_or {l : List Ax} (h5 : One5 l) {r s : Rl} : (ldB l r s || ldT l r s) = true ↔ ∃ f, (r, s, f) ∈ stE l := by
 rw [Bool.or_eq_true, ldB_iff h5, ldT_iff]
 constructor
 ·rintro (h | h)
  ·exact ⟨_, h⟩
  ·exact ⟨_, h⟩
 ·rintro ⟨f, h⟩
  cases f
  ·exact .inl h
  ·exact .inr h
section
variable {α : Type} {E : List (α × α × Bool)}
theorem circ_wk {c : α} {t : List α} : Circ E (c :: t) ↔ Wk E c (t ++ [c]) c true := by
 constructor
 ·rintro ⟨c', t', r, b, f, e, h1, h2, h3⟩
  simp only [List.cons.injEq] at e
  obtain ⟨rfl, rfl⟩ := e
  have := h1.snoc h2
  rwa [h3] at this
 ·intro h
  obtain ⟨r, b, f, h1, h2, h3, _⟩ := h.snoc_inv
  exact ⟨c, t, r, b, f, rfl, h1, h2, h3.symm⟩
theorem circ_rot {c x : α} {u v : List α} (h : Circ E (c :: (u ++ x :: v))) : Circ E (x :: (v ++ c :: u)) := by
 rw [circ_wk] at h ⊢
 have e : (u ++ x :: v) ++ [c] = (u ++ [x]) ++ (v ++ [c]) := by simp
 rw [e] at h
 obtain ⟨r, b1, b2, h1, h2, h3⟩ := h.split
 obtain rfl := h1.last
 have := h2.append h1
 rw [Bool.or_comm, ← h3] at this
 have e' : (v ++ c :: u) ++ [r] = (v ++ [c]) ++ (u ++ [r]) := by simp
 rw [e']; exact this
theorem Wk.step_at {c : α} {t : List α} {r : α} {b : Bool} (h : Wk E c t r b) : ∀ i (hi : i < t.length), ∃ f, ((c :: t)[i]'(by simp; omega), t[i], f) ∈ E := by
 induction h with
 | nil => intro i hi; simp at hi
 | @cons c s f t r b he _ ih =>
  intro i hi
  cases i with
  | zero => exact ⟨f, by simpa using he⟩
  | succ i =>
   obtain ⟨f', h'⟩ := ih i (by simpa using hi)
   exact ⟨f', by simpa using h'⟩
theorem Wk.strict_at {c : α} {t : List α} {r : α} {b : Bool} (h : Wk E c t r b) : b = true → ∃ i, ∃ hi : i < t.length, ((c :: t)[i]'(by simp; omega), t[i], true) ∈ E := by
 induction h with
 | nil => intro h; cases h
 | @cons c s f t r b he _ ih =>
  intro hb
  cases f with
  | true => exact ⟨0, by simp, by simpa using he⟩
  | false =>
   obtain ⟨i, hi, h'⟩ := ih (by simpa using hb)
   exact ⟨i + 1, by simpa using hi, by simpa using h'⟩
def nxt (l : List Rl) (i : Nat) : Rl := l.getD ((i + 1) % l.length) []
end
theorem nxt_eq {c : Rl} {t : List Rl} {i : Nat} (hi : i < (t ++ [c]).length) : nxt (c :: t) i = (t ++ [c])[i] := by
 simp only [List.length_append, List.length_cons, List.length_nil] at hi
 unfold nxt
 simp only [List.length_cons]
 by_cases hlt : i < t.length
 ·rw [Nat.mod_eq_of_lt (by omega), List.getD_cons_succ, List.getElem_append_left hlt]
  simp [List.getD, List.getElem?_eq_getElem hlt]
 ·obtain rfl : i = t.length := by omega
  simp
structure GoodC (E : RE) (X : List Rl) : Prop where
 step : ∀ i (hi : i < X.length), ∃ f, (X[i], nxt X i, f) ∈ E
 strict : ∃ i, ∃ hi : i < X.length, (X[i], nxt X i, true) ∈ E
 least : ∀ i (hi : i < X.length), 0 < i → X[0]'(by omega) < X[i]
 nodup : X.Nodup
theorem good_of {E : RE} {X : List Rl} (h : Best (fun a b : Rl => a < b) E X) : GoodC E X := by
 have hnd := h.nodup
 obtain ⟨hc, hb⟩ := h
 obtain ⟨c, t, hX⟩ : ∃ c t, X = c :: t := by
  obtain ⟨c, t, _, _, _, e, _⟩ := hc; exact ⟨c, t, e⟩
 subst hX
 have hw := circ_wk.1 hc
 have e0 : ∀ i (hi : i < (c :: t).length), (c :: (t ++ [c]))[i]'(by simp at hi ⊢; omega) = (c :: t)[i] := fun i hi => by
  have : c :: (t ++ [c]) = (c :: t) ++ [c] := rfl
  simp only [this, List.getElem_append_left hi]
 refine ⟨fun i hi => ?_, ?_, fun i hi h0 => ?_, hnd⟩
 ·obtain ⟨f, hf⟩ := hw.step_at i (by simpa using hi)
  rw [e0 i hi] at hf
  exact ⟨f, by rw [nxt_eq (by simpa using hi)]; exact hf⟩
 ·obtain ⟨i, hi, hf⟩ := hw.strict_at rfl
  have hi' : i < (c :: t).length := by simpa using hi
  rw [e0 i hi'] at hf
  exact ⟨i, hi', by rw [nxt_eq hi]; exact hf⟩
 ·obtain ⟨k, rfl⟩ : ∃ k, i = k + 1 := ⟨i - 1, by omega⟩
  have hk : k < t.length := by simpa using hi
  have hsp : t = t.take k ++ t[k] :: t.drop (k + 1) := by simp
  have hr := hc
  rw [hsp] at hr
  have hr' := hb _ (circ_rot hr)
  simp only [List.getElem_cons_zero, List.getElem_cons_succ]
  rcases linR.tot c t[k] with h1 | h1 | h1
  ·exact h1
  ·exfalso
   have := (List.nodup_cons.1 hnd).1
   rw [h1] at this
   exact this (List.getElem_mem hk)
  ·exfalso
   refine hr' (.inr ⟨?_, .inl h1⟩)
   simp; omega
structure TabW (E : RE) (rs : List Rl) (A B : Nat → Nat → Bool) : Prop where
 a : ∀ i k, i < rs.length → k < rs.length → A i k = true → ∃ V b, V ≠ [] ∧ Wk E (rs.getD i []) V (rs.getD k []) b
 b : ∀ i k, i < rs.length → k < rs.length → B i k = true → ∃ V, V ≠ [] ∧ Wk E (rs.getD i []) V (rs.getD k []) true
theorem TabW.diag {E : RE} {rs : List Rl} {A B : Nat → Nat → Bool} (h : TabW E rs A B) (hE : ∀ c, ¬ Circ E c) {i : Nat} (hi : i < rs.length) : B i i = false := by
 cases hb : B i i with
 | false => rfl
 | true =>
  obtain ⟨V, hV, hw⟩ := h.b i i hi hi hb
  obtain ⟨l, hl, _⟩ := circ_of hV hw
  exact absurd hl (hE l)
def upd2 (A : Nat → Nat → Bool) (i k : Nat) (b : Bool) : Nat → Nat → Bool := fun x y => if x = i ∧ y = k then b else A x y
theorem TabW.upd {E : RE} {rs : List Rl} {A B : Nat → Nat → Bool} (h : TabW E rs A B) {m i k : Nat} (hm : m < rs.length) (hi : i < rs.length) (hk : k < rs.length) :
  TabW E rs (upd2 A i k (A i k || (A i m && A m k))) (upd2 B i k (B i k || (B i m && A m k) || (A i m && B m k))) := by
 refine ⟨fun x y hx hy hh => ?_, fun x y hx hy hh => ?_⟩
 ·unfold upd2 at hh
  split at hh
  ·rename_i hc
   obtain ⟨rfl, rfl⟩ := hc
   simp only [Bool.or_eq_true, Bool.and_eq_true] at hh
   rcases hh with hh | ⟨h1, h2⟩
   ·exact h.a _ _ hi hk hh
   ·obtain ⟨V, b, hV, hw⟩ := h.a _ _ hi hm h1
    obtain ⟨U, b', _, hw'⟩ := h.a _ _ hm hk h2
    exact ⟨V ++ U, _, by simp [hV], hw.append hw'⟩
  ·exact h.a _ _ hx hy hh
 ·unfold upd2 at hh
  split at hh
  ·rename_i hc
   obtain ⟨rfl, rfl⟩ := hc
   simp only [Bool.or_eq_true, Bool.and_eq_true] at hh
   rcases hh with (hh | ⟨h1, h2⟩) | ⟨h1, h2⟩
   ·exact h.b _ _ hi hk hh
   ·obtain ⟨V, hV, hw⟩ := h.b _ _ hi hm h1
    obtain ⟨U, b', _, hw'⟩ := h.a _ _ hm hk h2
    exact ⟨V ++ U, by simp [hV], by simpa using hw.append hw'⟩
   ·obtain ⟨V, b, hV, hw⟩ := h.a _ _ hi hm h1
    obtain ⟨U, _, hw'⟩ := h.b _ _ hm hk h2
    exact ⟨V ++ U, by simp [hV], by simpa using hw.append hw'⟩
  ·exact h.b _ _ hx hy hh
end Go.Ai.Z
