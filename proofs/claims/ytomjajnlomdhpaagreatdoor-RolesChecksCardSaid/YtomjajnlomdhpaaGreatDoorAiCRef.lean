/-
  The reference's search for a circle, in plain words.
-/
import Derived.Test.YtomjajnlomdhpaaGreatDoorAiCircBfs
set_option maxRecDepth 100000
set_option linter.unusedSimpArgs false
set_option linter.unusedVariables false
namespace Go.Ai.Z
abbrev Rl := List UInt8
abbrev RE := List (Rl × Rl × Bool)
abbrev PE := List Rl × Bool
theorem linR : Lin (fun a b : Rl => a < b) := ⟨fun _ h => List.lt_irrefl _ h, fun _ _ _ h h' => List.lt_trans h h', fun a b => by
  by_cases h : a < b
  · exact .inl h
  · rcases List.le_iff_lt_or_eq.1 (List.not_lt.1 h) with h | h
    · exact .inr (.inr h)
    · exact .inr (.inl h.symm)⟩
abbrev LxR : List Rl → List Rl → Prop := Lx (fun a b : Rl => a < b)
def lessR : List Rl → List Rl → Bool
  | a :: l, b :: m => if a = b then lessR l m else decide (a < b)
  | _, _ => false
theorem lessR_iff : ∀ {l m : List Rl}, lessR l m = true ↔ LxR l m
  | [], _ => by simp [lessR, Lx]
  | _ :: _, [] => by simp [lessR, Lx]
  | a :: l, b :: m => by
    simp only [lessR, Lx]
    by_cases h : a = b
    · subst h
      simp only [if_true, lessR_iff, true_and]
      constructor
      · exact .inr
      · rintro (h | h)
        · exact absurd h (List.lt_irrefl a)
        · exact h
    · simp [h]
def lstR (p : PE) : Rl := p.1.getLastD []
def sameP (y x : PE) : Bool := decide (y.2 = x.2) && decide (lstR y = lstR x)
theorem sameP_iff {y x : PE} : sameP y x = true ↔ y.2 = x.2 ∧ lstR y = lstR x := by simp [sameP]
def atM (x : PE) : List PE → Nat → Option Nat → Option Nat
  | [], _, a => a
  | y :: out, n, a => atM x out (n + 1) (if sameP y x = true then some n else a)
theorem atM_spec (x : PE) : ∀ (out : List PE) (n : Nat) (a : Option Nat), (atM x out n a = a ∧ ∀ y ∈ out, sameP y x = false) ∨ ∃ i y, atM x out n a = some (n + i) ∧ out[i]? = some y ∧ sameP y x = true
  | [], n, a => .inl ⟨rfl, fun y hy => by cases hy⟩
  | y :: out, n, a => by
    simp only [atM]
    rcases atM_spec x out (n + 1) (if sameP y x = true then some n else a) with ⟨h1, h2⟩ | ⟨i, z, h1, h2, h3⟩
    · by_cases hs : sameP y x = true
      · rw [if_pos hs] at h1
        exact .inr ⟨0, y, by rw [if_pos hs, h1]; rfl, rfl, hs⟩
      · rw [if_neg hs] at h1
        refine .inl ⟨by rw [if_neg hs, h1], fun z hz => ?_⟩
        rcases List.mem_cons.1 hz with rfl | hz
        · simpa using hs
        · exact h2 z hz
    · exact .inr ⟨i + 1, z, by rw [h1]; congr 1; omega, h2, h3⟩
def insM (out : List PE) (x : PE) : List PE :=
  match atM x out 0 none with
  | none => out ++ [x]
  | some i => if lessR x.1 (out.getD i ([], false)).1 = true then out.set i x else out
theorem insM_cases (out : List PE) (x : PE) : (insM out x = out ++ [x] ∧ ∀ y ∈ out, sameP y x = false) ∨ ∃ i y, out[i]? = some y ∧ sameP y x = true ∧ ((LxR x.1 y.1 ∧ insM out x = out.set i x) ∨ (¬ LxR x.1 y.1 ∧ insM out x = out)) := by
  unfold insM
  rcases atM_spec x out 0 none with ⟨h1, h2⟩ | ⟨i, y, h1, h2, h3⟩
  · rw [h1]; exact .inl ⟨rfl, h2⟩
  · rw [Nat.zero_add] at h1
    rw [h1]
    refine .inr ⟨i, y, h2, h3, ?_⟩
    have hg : out.getD i ([], false) = y := by simp [List.getD, h2]
    simp only [hg]
    by_cases hl : LxR x.1 y.1
    · exact .inl ⟨hl, by rw [if_pos (lessR_iff.2 hl)]⟩
    · exact .inr ⟨hl, by rw [if_neg (fun h => hl (lessR_iff.1 h))]⟩
theorem ins_mem {out : List PE} {x z : PE} (h : z ∈ insM out x) : z = x ∨ z ∈ out := by
  rcases insM_cases out x with ⟨e, _⟩ | ⟨i, y, h1, h2, ⟨_, e⟩ | ⟨_, e⟩⟩
  · rw [e] at h; simpa [or_comm] using h
  · rw [e] at h; rcases List.mem_or_eq_of_mem_set h with h | h
    · exact .inr h
    · exact .inl h
  · rw [e] at h; exact .inr h
def Snd (E : RE) (n : Nat) (c : Rl) (p : PE) : Prop := ∃ t, p.1 = c :: t ∧ t.length + 1 = n ∧ Wk E c t (lstR p) p.2
theorem Snd.len {E : RE} {n : Nat} {c : Rl} {p : PE} (h : Snd E n c p) : p.1.length = n := by obtain ⟨t, e, hl, _⟩ := h; rw [e]; simp [hl]
def Good (E : RE) (n : Nat) (c : Rl) (p : PE) : Prop := Snd E n c p ∧ ∀ q, Snd E n c q → sameP q p = true → ¬ LxR q.1 p.1
theorem ins_good {E : RE} {n : Nat} {c : Rl} {out : List PE} {x : PE} (hs : ∀ y ∈ out, Snd E n c y) (hx : Good E n c x) : x ∈ insM out x := by
  rcases insM_cases out x with ⟨e, _⟩ | ⟨i, y, h1, h2, ⟨hl, e⟩ | ⟨hl, e⟩⟩
  · rw [e]; simp
  · rw [e]
    have := (List.getElem?_eq_some_iff.1 h1).1
    exact List.mem_iff_getElem?.2 ⟨i, by rw [List.getElem?_set_self this]⟩
  · rw [e]
    have hy := List.mem_of_getElem? h1
    have hsy := hs y hy
    rcases Lx.tot linR (a := x.1) (b := y.1) (by rw [hx.1.len, hsy.len]) with h | h | h
    · exact absurd h hl
    · have he := (sameP_iff.1 h2).1
      have : x = y := Prod.ext h he.symm
      rw [this]; exact hy
    · exact absurd h (hx.2 y hsy h2)
theorem ins_keep {E : RE} {n : Nat} {c : Rl} {out : List PE} {x z : PE} (hx : Good E n c x) (hm : x ∈ out) (hz : Snd E n c z) : x ∈ insM out z := by
  rcases insM_cases out z with ⟨e, _⟩ | ⟨i, y, h1, h2, ⟨hl, e⟩ | ⟨hl, e⟩⟩
  · rw [e]; simp [hm]
  · rw [e]
    obtain ⟨k, hk⟩ := List.mem_iff_getElem?.1 hm
    by_cases hki : i = k
    · subst hki
      rw [h1] at hk; cases hk
      have h2' := sameP_iff.1 h2
      exact absurd hl (hx.2 z hz (sameP_iff.2 ⟨h2'.1.symm, h2'.2.symm⟩))
    · exact List.mem_iff_getElem?.2 ⟨k, by rw [List.getElem?_set_ne hki]; exact hk⟩
  · rw [e]; exact hm
def stepM (p : PE) (out : List PE) (k : Rl × Rl × Bool) : List PE := if k.1 = lstR p ∧ k.2.1 ∉ p.1 then insM out (p.1 ++ [k.2.1], p.2 || k.2.2) else out
def longM (E : RE) (paths : List PE) : List PE := paths.foldl (fun out p => E.foldl (stepM p) out) []
theorem snd_step {E : RE} {n : Nat} {c : Rl} {p : PE} (h : Snd E n c p) {k : Rl × Rl × Bool} (hk : k ∈ E) (hl : k.1 = lstR p) : Snd E (n + 1) c (p.1 ++ [k.2.1], p.2 || k.2.2) := by
  obtain ⟨t, e, hn, hw⟩ := h
  refine ⟨t ++ [k.2.1], by simp [e], by simp [hn], ?_⟩
  have : lstR (p.1 ++ [k.2.1], p.2 || k.2.2) = k.2.1 := by simp [lstR, List.getLastD_eq_getLast?]
  rw [this]
  refine hw.snoc ?_
  rw [← hl]; exact hk
theorem fold1_snd {E E0 : RE} {n : Nat} {c : Rl} {p : PE} (hp : Snd E0 n c p) : ∀ {out : List PE}, (∀ k ∈ E, k ∈ E0) → (∀ y ∈ out, Snd E0 (n + 1) c y) → ∀ y ∈ E.foldl (stepM p) out, Snd E0 (n + 1) c y := by
  induction E with
  | nil => intro out _ h; exact h
  | cons k E ih =>
    intro out hE h
    simp only [List.foldl_cons]
    refine ih (fun k hk => hE k (by simp [hk])) fun y hy => ?_
    unfold stepM at hy
    split at hy
    · rename_i hh
      rcases ins_mem hy with rfl | hy
      · exact snd_step hp (hE k (by simp)) hh.1
      · exact h y hy
    · exact h y hy
theorem fold1_keep {E E0 : RE} {n : Nat} {c : Rl} {p x : PE} (hp : Snd E0 n c p) (hx : Good E0 (n + 1) c x) : ∀ {out : List PE}, (∀ k ∈ E, k ∈ E0) → x ∈ out → x ∈ E.foldl (stepM p) out := by
  induction E with
  | nil => intro out _ h; exact h
  | cons k E ih =>
    intro out hE h
    simp only [List.foldl_cons]
    refine ih (fun k hk => hE k (by simp [hk])) ?_
    unfold stepM
    split
    · rename_i hh; exact ins_keep hx h (snd_step hp (hE k (by simp)) hh.1)
    · exact h
theorem fold1_in {E E0 : RE} {n : Nat} {c : Rl} {p : PE} (hp : Snd E0 n c p) {k : Rl × Rl × Bool} (hl : k.1 = lstR p) (hn : k.2.1 ∉ p.1) (hx : Good E0 (n + 1) c (p.1 ++ [k.2.1], p.2 || k.2.2)) : ∀ {out : List PE}, (∀ k ∈ E, k ∈ E0) → (∀ y ∈ out, Snd E0 (n + 1) c y) → k ∈ E → (p.1 ++ [k.2.1], p.2 || k.2.2) ∈ E.foldl (stepM p) out := by
  induction E with
  | nil => intro out _ _ h; cases h
  | cons k' E ih =>
    intro out hE h hk
    simp only [List.foldl_cons]
    rcases List.mem_cons.1 hk with rfl | hk
    · refine fold1_keep hp hx (fun k hk => hE k (by simp [hk])) ?_
      unfold stepM
      rw [if_pos ⟨hl, hn⟩]
      exact ins_good h hx
    · exact ih (fun k hk => hE k (by simp [hk])) (fold1_snd (E := [k']) hp (fun k hk => by simp at hk; subst hk; exact hE _ (by simp)) h) hk
theorem long_snd {E : RE} {n : Nat} {c : Rl} : ∀ {paths out : List PE}, (∀ p ∈ paths, Snd E n c p) → (∀ y ∈ out, Snd E (n + 1) c y) → ∀ y ∈ paths.foldl (fun out p => E.foldl (stepM p) out) out, Snd E (n + 1) c y
  | [], _, _, h => h
  | p :: paths, out, hp, h => long_snd (paths := paths) (fun q hq => hp q (by simp [hq])) (fold1_snd (hp p (by simp)) (fun _ h => h) h)
theorem long_keep {E : RE} {n : Nat} {c : Rl} {x : PE} (hx : Good E (n + 1) c x) : ∀ {paths out : List PE}, (∀ p ∈ paths, Snd E n c p) → x ∈ out → x ∈ paths.foldl (fun out p => E.foldl (stepM p) out) out
  | [], _, _, h => h
  | p :: paths, out, hp, h => long_keep hx (paths := paths) (fun q hq => hp q (by simp [hq])) (fold1_keep (hp p (by simp)) hx (fun _ h => h) h)
theorem long_in {E : RE} {n : Nat} {c : Rl} {p : PE} {k : Rl × Rl × Bool} (hk : k ∈ E) (hl : k.1 = lstR p) (hn : k.2.1 ∉ p.1) (hx : Good E (n + 1) c (p.1 ++ [k.2.1], p.2 || k.2.2)) :
    ∀ {paths out : List PE}, (∀ q ∈ paths, Snd E n c q) → (∀ y ∈ out, Snd E (n + 1) c y) → p ∈ paths → (p.1 ++ [k.2.1], p.2 || k.2.2) ∈ paths.foldl (fun out p => E.foldl (stepM p) out) out
  | q :: paths, out, hp, h, hm => by
    simp only [List.foldl_cons]
    rcases List.mem_cons.1 hm with rfl | hm
    · exact long_keep hx (fun q hq => hp q (by simp [hq])) (fold1_in (hp p (by simp)) hl hn hx (fun _ h => h) h hk)
    · exact long_in hk hl hn hx (fun q hq => hp q (by simp [hq])) (fold1_snd (hp q (by simp)) (fun _ h => h) h) hm
def levM (E : RE) (c : Rl) : Nat → List PE
  | 0 => [([c], false)]
  | i + 1 => longM E (levM E c i)
theorem lev_snd (E : RE) (c : Rl) : ∀ i, ∀ p ∈ levM E c i, Snd E (i + 1) c p
  | 0, p, hp => by
    simp [levM] at hp; subst hp
    exact ⟨[], rfl, rfl, .nil c⟩
  | i + 1, p, hp => long_snd (lev_snd E c i) (fun y hy => by cases hy) p hp
theorem lstR_cons (c : Rl) (t : List Rl) (b : Bool) {r : Rl} {E : RE} (h : Wk E c t r b) : lstR (c :: t, b) = r := by
  rcases List.eq_nil_or_concat t with rfl | ⟨t0, x, rfl⟩
  · rw [h.nil_eq.1]; rfl
  · rw [List.concat_eq_append] at h ⊢
    rw [h.last]
    show (c :: (t0 ++ [x])).getLastD [] = x
    rw [List.getLastD_eq_getLast?, ← List.cons_append, List.getLast?_concat]; rfl
theorem snd_of {E : RE} {c : Rl} {t : List Rl} {r : Rl} {b : Bool} (h : Wk E c t r b) : Snd E (t.length + 1) c (c :: t, b) := ⟨t, rfl, rfl, by rw [lstR_cons c t b h]; exact h⟩
theorem best_lev {E : RE} {c : Rl} {t : List Rl} (hB : Best (fun a b : Rl => a < b) E (c :: t)) : ∃ b r f, Wk E c t r b ∧ (r, c, f) ∈ E ∧ (b || f) = true ∧ (c :: t, b) ∈ levM E c t.length := by
  obtain ⟨c', t', r, b, f, e, h1, h2, h3⟩ := hB.1
  cases e
  refine ⟨b, r, f, h1, h2, h3, ?_⟩
  have hnd := hB.nodup
  have hgood : ∀ (t1 t2 : List Rl) (r1 : Rl) (b1 b2 : Bool), t = t1 ++ t2 → Wk E c t1 r1 b1 → Wk E r1 t2 r b2 → b = (b1 || b2) → Good E (t1.length + 1) c (c :: t1, b1) := by
    intro t1 t2 r1 b1 b2 et w1 w2 eb
    refine ⟨snd_of w1, fun q hq hs hl => ?_⟩
    obtain ⟨u, e1, e2, e3⟩ := hq
    have hs' := sameP_iff.1 hs
    rw [hs'.2, lstR_cons c t1 b1 w1, hs'.1] at e3
    rw [e1] at hl
    have hl' : LxR u t1 := by
      rcases hl with h | ⟨_, h⟩
      · exact absurd h (List.lt_irrefl _)
      · exact h
    refine hB.2 (c :: (u ++ t2)) ⟨c, u ++ t2, r, b, f, rfl, by rw [eb]; exact e3.append w2, h2, h3⟩ (.inr ⟨by rw [et]; simp; omega, .inr ⟨rfl, ?_⟩⟩)
    rw [et]; exact hl'.app_left t2 t2
  have key : ∀ (n : Nat) (t1 t2 : List Rl) (r1 : Rl) (b1 b2 : Bool), t1.length = n → t = t1 ++ t2 → Wk E c t1 r1 b1 → Wk E r1 t2 r b2 → b = (b1 || b2) → (c :: t1, b1) ∈ levM E c n := by
    intro n
    induction n with
    | zero =>
      intro t1 t2 r1 b1 b2 hn et w1 w2 eb
      obtain rfl := List.length_eq_zero_iff.1 hn
      rw [w1.nil_eq.2]; simp [levM]
    | succ n ih =>
      intro t1 t2 r1 b1 b2 hn et w1 w2 eb
      rcases List.eq_nil_or_concat t1 with rfl | ⟨t0, s, rfl⟩
      · simp at hn
      · rw [List.concat_eq_append] at *
        have hG := hgood (t0 ++ [s]) t2 r1 b1 b2 et w1 w2 eb
        obtain ⟨r0, b0, f0, q1, q2, rfl, rfl⟩ := w1.snoc_inv
        have hn0 : t0.length = n := by simpa using hn
        have hm := ih t0 (r1 :: t2) r0 b0 (f0 || b2) hn0 (by rw [et]; simp) q1 (.cons q2 w2) (by rw [eb, Bool.or_assoc])
        have hnot : r1 ∉ c :: t0 := by
          rw [et] at hnd
          have : (c :: t0 ++ (r1 :: t2)).Nodup := by simpa using hnd
          rw [List.nodup_append] at this
          exact fun hh => this.2.2 r1 hh r1 (by simp) rfl
        have := long_in (E := E) (n := n + 1) (c := c) (p := (c :: t0, b0)) (k := (r0, r1, f0)) q2 (by rw [lstR_cons c t0 b0 q1]) hnot (by
          have hl : (t0 ++ [r1]).length + 1 = n + 1 + 1 := by simp [hn0]
          rw [hl] at hG
          exact hG) (lev_snd E c n) (out := []) (fun y hy => by cases hy) hm
        exact this
  exact key t.length t [] r b false rfl (by simp) h1 (.nil r) (by simp)
def closesM (E : RE) (p : PE) : Bool := E.any fun k => decide (k.1 = lstR p) && decide (k.2.1 = p.1.headD []) && (p.2 || k.2.2)
theorem closes_circ {E : RE} {n : Nat} {c : Rl} {p : PE} (h : Snd E n c p) (hc : closesM E p = true) : Circ E p.1 := by
  obtain ⟨t, e, hn, hw⟩ := h
  simp only [closesM, List.any_eq_true, Bool.and_eq_true, decide_eq_true_eq] at hc
  obtain ⟨⟨k1, k2, k3⟩, hk, ⟨h1, h2⟩, h3⟩ := hc
  rw [e] at h2
  simp only [List.headD_cons] at h1 h2 h3
  subst h2
  rw [h1] at hk
  exact ⟨k2, t, lstR p, p.2, k3, e, hw, hk, h3⟩
def bestF (E : RE) (best : Option (List Rl)) (p : PE) : Option (List Rl) := if closesM E p = true then (match best with | none => some p.1 | some m => if lessR p.1 m = true then some p.1 else some m) else best
def bestM (E : RE) (L : List PE) (best : Option (List Rl)) : Option (List Rl) := L.foldl (bestF E) best
theorem best_none {E : RE} : ∀ {L : List PE}, bestM E L none = none ↔ ∀ p ∈ L, closesM E p = false
  | [] => by simp [bestM]
  | p :: L => by
    by_cases h : closesM E p = true
    · have h1 : ∀ (L : List PE) (m : List Rl), bestM E L (some m) ≠ none := by
        intro L
        induction L with
        | nil => intro m; simp [bestM]
        | cons q L ih =>
          intro m
          simp only [bestM, List.foldl_cons]
          have : bestF E (some m) q = some m ∨ bestF E (some m) q = some q.1 := by
            unfold bestF
            split
            · simp only []; split
              · exact .inr rfl
              · exact .inl rfl
            · exact .inl rfl
          rcases this with e | e <;> rw [e] <;> exact ih _
      have h2 : bestM E (p :: L) none = bestM E L (some p.1) := by simp [bestM, bestF, h]
      rw [h2]
      constructor
      · intro hh; exact absurd hh (h1 _ _)
      · intro hh; rw [hh p (by simp)] at h; cases h
    · have h2 : bestM E (p :: L) none = bestM E L none := by simp [bestM, bestF, h]
      rw [h2, best_none]
      simp [h]
theorem best_some {E : RE} {n : Nat} : ∀ {L : List PE} {b : Option (List Rl)} {m : List Rl}, (∀ p ∈ L, p.1.length = n) → (∀ x, b = some x → x.length = n) → bestM E L b = some m →
    (b = some m ∨ ∃ p ∈ L, closesM E p = true ∧ p.1 = m) ∧ (∀ p ∈ L, closesM E p = true → ¬ LxR p.1 m) ∧ (∀ x, b = some x → ¬ LxR x m)
  | [], b, m, _, _, h => by
    have h : b = some m := h
    subst h
    exact ⟨.inl rfl, (fun p hp => by cases hp), fun x hx => by cases hx; exact Lx.irr linR⟩
  | p :: L, b, m, hL, hb, h => by
    have hp := hL p (by simp)
    have hLL := fun q hq => hL q (List.mem_cons_of_mem p hq)
    simp only [bestM, List.foldl_cons] at h
    by_cases hc : closesM E p = true
    · cases b with
      | none =>
        have e : bestF E none p = some p.1 := by simp [bestF, hc]
        rw [e] at h
        obtain ⟨h1, h2, h3⟩ := best_some (b := some p.1) hLL (fun x hx => by cases hx; exact hp) h
        refine ⟨.inr ?_, fun q hq hcq => ?_, fun x hx => by cases hx⟩
        · rcases h1 with h1 | ⟨q, hq, h1⟩
          · cases h1; exact ⟨p, by simp, hc, rfl⟩
          · exact ⟨q, by simp [hq], h1⟩
        · rcases List.mem_cons.1 hq with rfl | hq
          · exact h3 _ rfl
          · exact h2 q hq hcq
      | some y =>
        have hy := hb y rfl
        by_cases hl : lessR p.1 y = true
        · have e : bestF E (some y) p = some p.1 := by simp [bestF, hc, hl]
          rw [e] at h
          obtain ⟨h1, h2, h3⟩ := best_some (b := some p.1) hLL (fun x hx => by cases hx; exact hp) h
          refine ⟨.inr ?_, fun q hq hcq => ?_, fun x hx => ?_⟩
          · rcases h1 with h1 | ⟨q, hq, h1⟩
            · cases h1; exact ⟨p, by simp, hc, rfl⟩
            · exact ⟨q, by simp [hq], h1⟩
          · rcases List.mem_cons.1 hq with rfl | hq
            · exact h3 _ rfl
            · exact h2 q hq hcq
          · cases hx
            exact fun hh => h3 _ rfl ((lessR_iff.1 hl).tr linR hh)
        · have e : bestF E (some y) p = some y := by simp [bestF, hc, hl]
          rw [e] at h
          obtain ⟨h1, h2, h3⟩ := best_some (b := some y) hLL (fun x hx => by cases hx; exact hy) h
          refine ⟨?_, fun q hq hcq => ?_, h3⟩
          · rcases h1 with h1 | ⟨q, hq, h1⟩
            · exact .inl h1
            · exact .inr ⟨q, by simp [hq], h1⟩
          · rcases List.mem_cons.1 hq with rfl | hq
            · intro hh
              rcases Lx.tot linR (a := q.1) (b := y) (by rw [hp, hy]) with h | h | h
              · exact hl (lessR_iff.2 h)
              · rw [h] at hh; exact h3 _ rfl hh
              · exact h3 _ rfl (h.tr linR hh)
            · exact h2 q hq hcq
    · have e : bestF E b p = b := by simp [bestF, hc]
      rw [e] at h
      obtain ⟨h1, h2, h3⟩ := best_some hLL hb h
      refine ⟨?_, fun q hq hcq => ?_, h3⟩
      · rcases h1 with h1 | ⟨q, hq, h1⟩
        · exact .inl h1
        · exact .inr ⟨q, by simp [hq], h1⟩
      · rcases List.mem_cons.1 hq with rfl | hq
        · exact absurd hcq hc
        · exact h2 q hq hcq
def allL (E : RE) (rs : List Rl) (i : Nat) : List PE := rs.flatMap fun c => levM E c i
def refM (E : RE) (rs : List Rl) : Nat → Nat → Option (List Rl)
  | 0, _ => none
  | n + 1, i => match bestM E (allL E rs i) none with
    | some m => some m
    | none => refM E rs n (i + 1)
theorem mem_allL {E : RE} {rs : List Rl} {i : Nat} {p : PE} (h : p ∈ allL E rs i) : ∃ c ∈ rs, Snd E (i + 1) c p := by
  simp only [allL, List.mem_flatMap] at h
  obtain ⟨c, hc, hp⟩ := h
  exact ⟨c, hc, lev_snd E c i p hp⟩
theorem ref_none {E : RE} (rs : List Rl) (h : ∀ l, ¬ Circ E l) : ∀ n i, refM E rs n i = none
  | 0, _ => rfl
  | n + 1, i => by
    have h0 : bestM E (allL E rs i) none = none := best_none.2 fun p hp => by
      obtain ⟨c, _, hs⟩ := mem_allL hp
      cases hc : closesM E p with
      | false => rfl
      | true => exact absurd (closes_circ hs hc) (h _)
    simp only [refM, h0]
    exact ref_none rs h n (i + 1)
theorem ref_best {E : RE} {rs : List Rl} {C : List Rl} (hB : Best (fun a b : Rl => a < b) E C) (hC : ∀ x ∈ C, x ∈ rs) : ∀ n i, i < C.length → C.length ≤ i + n → refM E rs n i = some C
  | 0, i, h1, h2 => by omega
  | n + 1, i, h1, h2 => by
    obtain ⟨c, t, eC⟩ : ∃ c t, C = c :: t := by
      obtain ⟨c, t, _, _, _, e, _⟩ := hB.1
      exact ⟨c, t, e⟩
    have hlen : C.length = t.length + 1 := by rw [eC]; rfl
    have hsn : ∀ p ∈ allL E rs i, closesM E p = true → p.1.length = i + 1 ∧ Circ E p.1 := fun p hp hc => by
      obtain ⟨c, _, hs⟩ := mem_allL hp
      exact ⟨hs.len, closes_circ hs hc⟩
    by_cases hi : i + 1 < C.length
    · have h0 : bestM E (allL E rs i) none = none := best_none.2 fun p hp => by
        cases hc : closesM E p with
        | false => rfl
        | true =>
          obtain ⟨q1, q2⟩ := hsn p hp hc
          exact absurd (.inl (by omega)) (hB.2 _ q2)
      simp only [refM, h0]
      exact ref_best hB hC n (i + 1) hi (by omega)
    · have hit : i = t.length := by omega
      rw [eC] at hB hC
      obtain ⟨b, r, f, w1, w2, w3, hm⟩ := best_lev hB
      have hin : (c :: t, b) ∈ allL E rs i := by
        simp only [allL, List.mem_flatMap]
        exact ⟨c, hC c (by simp), by rw [hit]; exact hm⟩
      have hcl : closesM E (c :: t, b) = true := by
        simp only [closesM, List.any_eq_true, Bool.and_eq_true, decide_eq_true_eq]
        refine ⟨(r, c, f), w2, ⟨?_, rfl⟩, w3⟩
        rw [lstR_cons c t b w1]
      cases hb : bestM E (allL E rs i) none with
      | none => rw [best_none.1 hb _ hin] at hcl; cases hcl
      | some m =>
        obtain ⟨h3, h4, _⟩ := best_some (n := i + 1) (fun p hp => by obtain ⟨c, _, hs⟩ := mem_allL hp; exact hs.len) (fun x hx => by cases hx) hb
        rcases h3 with h3 | ⟨p, hp, hpc, rfl⟩
        · cases h3
        · obtain ⟨q1, q2⟩ := hsn p hp hpc
          have a1 := h4 _ hin hcl
          have a2 : ¬ LxR p.1 (c :: t) := fun hh => hB.2 _ q2 (.inr ⟨by rw [q1]; simp; omega, hh⟩)
          simp only [refM, hb]
          rw [eC]
          rcases Lx.tot linR (a := p.1) (b := c :: t) (by rw [q1]; simp; omega) with h | h | h
          · exact absurd h a2
          · rw [h]
          · exact absurd h a1
end Go.Ai.Z
