/-
  Texts of concepts with what follows them in an axiom's text.
-/
import Derived.Test.YtomjajnlomdhpaaGreatDoorAiInj4
import Derived.Test.YtomjajnlomdhpaaGreatDoorAiK14
set_option maxRecDepth 100000
set_option linter.unusedSimpArgs false
set_option linter.unusedVariables false
namespace Go.Ai.Z

/-- What may follow a concept in an axiom's text. -/
def Te (u : List UInt8) : Prop := u = [] ∨ (∃ r, u = 32 :: 115 :: r) ∨ ∃ r, u = 32 :: 100 :: r
theorem Te.tl {u : List UInt8} (h : Te u) : Tl u := by
  rcases h with h | h | h
  · exact .inl h
  · exact .inr (.inr (.inr (.inl h)))
  · exact .inr (.inr (.inr (.inr h)))
theorem te_and {u r : List UInt8} (h : Te u) (e : u = andB ++ r) : False := by
  rcases h with rfl | ⟨q, rfl⟩ | ⟨q, rfl⟩ <;> simp [andB] at e
/-- The operands of a text. -/
def opsOf (c : C) : List C := if c.kind = 5 then c.parts else [c]
theorem text_ops {c : C} (h : walkS c = 0) : textS c = joinL andB ((opsOf c).map opS) := by
  obtain ⟨v1, _, _⟩ := walk_ok h
  unfold opsOf
  by_cases k : c.kind = 5
  · rw [if_pos k, textS_eq, if_neg (by omega), if_neg (by omega), if_neg (by omega), if_neg (by omega), if_neg (by omega), if_neg (by omega)]
  · rw [if_neg k]; simp [joinL, opS, k]
theorem tl_ops (l : List C) {u : List UInt8} (h : Te u) : Tl (l.flatMap (fun c => andB ++ opS c) ++ u) := by
  cases l with
  | nil => simpa using h.tl
  | cons a r => exact .inr (.inr (.inl ⟨opS a ++ (r.flatMap (fun c => andB ++ opS c) ++ u), by simp⟩))
theorem ops_inj : ∀ {l m : List C} {u v : List UInt8}, (∀ c ∈ l, walkS c = 0) → (∀ c ∈ m, walkS c = 0) → Te u → Te v →
    l.flatMap (fun c => andB ++ opS c) ++ u = m.flatMap (fun c => andB ++ opS c) ++ v → l.map nz = m.map nz ∧ u = v
  | [], [], u, v, _, _, _, _, h => by simpa using h
  | [], d :: m, u, v, _, _, hu, _, h => by
    simp only [List.flatMap_nil, List.nil_append, List.flatMap_cons, List.append_assoc] at h
    exact (te_and hu h).elim
  | c :: l, [], u, v, _, _, _, hv, h => by
    simp only [List.flatMap_nil, List.nil_append, List.flatMap_cons, List.append_assoc] at h
    exact (te_and hv h.symm).elim
  | c :: l, d :: m, u, v, hl, hm, hu, hv, h => by
    simp only [List.flatMap_cons, List.append_assoc, List.append_cancel_left_eq] at h
    obtain ⟨e1, e2⟩ := op_inj c (hl c (by simp)) d _ _ (hm d (by simp)) (tl_ops l hu) (tl_ops m hv) h
    obtain ⟨e3, e4⟩ := ops_inj (fun x hx => hl x (by simp [hx])) (fun x hx => hm x (by simp [hx])) hu hv e2
    exact ⟨by simp [e1, e3], e4⟩
theorem ops_ok {c : C} (h : walkS c = 0) : (∀ x ∈ opsOf c, walkS x = 0) ∧ (∃ a l, opsOf c = a :: l) ∧ (c.kind = 5 → 2 ≤ (opsOf c).length) := by
  obtain ⟨v1, _, pc⟩ := walk_ok h
  unfold opsOf
  by_cases k : c.kind = 5
  · rw [if_pos k]
    rcases shape_kind v1 with q | q | q | q | ⟨q, _⟩ | ⟨q, _⟩ | ⟨_, q⟩ <;> try omega
    refine ⟨pc, ?_, fun _ => by omega⟩
    rcases hp : c.parts with _ | ⟨a, l⟩
    · simp [hp] at q
    · exact ⟨a, l, rfl⟩
  · rw [if_neg k]
    exact ⟨fun x hx => by simp at hx; subst hx; exact h, ⟨c, [], rfl⟩, fun k' => absurd k' k⟩
theorem nz_ops {c d : C} (hc : walkS c = 0) (hd : walkS d = 0) (h : (opsOf c).map nz = (opsOf d).map nz) : nz c = nz d := by
  have hl := congrArg List.length h
  simp only [List.length_map] at hl
  obtain ⟨_, _, c2⟩ := ops_ok hc
  obtain ⟨_, _, d2⟩ := ops_ok hd
  have one : ∀ {c : C}, ¬ c.kind = 5 → opsOf c = [c] := fun k => by unfold opsOf; rw [if_neg k]
  by_cases k : c.kind = 5 <;> by_cases k' : d.kind = 5
  · have hp : c.parts.map nz = d.parts.map nz := by simpa [opsOf, k, k'] using h
    have f : ∀ {c : C}, walkS c = 0 → c.kind = 5 → nz c = .mk 5 [] 0 0 false (c.parts.map nz) := by
      intro c hc k
      rcases view hc with ⟨e, z⟩ | ⟨e, z⟩ | ⟨n, hn, e, z⟩ | ⟨n, hn, e, z⟩ | ⟨n, lo, hi, hn, e, z⟩ | ⟨n, a, hn, ha, e, z⟩ | ⟨h2, e, z⟩ <;> first
        | exact z
        | (have := congrArg C.kind z; rw [nz_kind, k] at this; simp at this)
    rw [f hc k, f hd k', hp]
  · have := c2 k; rw [one k'] at hl; simp at hl; omega
  · have := d2 k'; rw [one k] at hl; simp at hl; omega
  · rw [one k, one k'] at h; simpa using h
theorem text_tail {c d : C} {u v : List UInt8} (hc : walkS c = 0) (hd : walkS d = 0) (hu : Te u) (hv : Te v) (h : textS c ++ u = textS d ++ v) : nz c = nz d ∧ u = v := by
  obtain ⟨pc, ⟨a, l, ec⟩, _⟩ := ops_ok hc
  obtain ⟨pd, ⟨b, m, ed⟩, _⟩ := ops_ok hd
  rw [text_ops hc, text_ops hd, ec, ed] at h
  rw [ec] at pc
  rw [ed] at pd
  simp only [List.map_cons, joinL, List.flatMap_map, List.append_assoc] at h
  obtain ⟨e1, e2⟩ := op_inj a (pc a (by simp)) b _ _ (pd b (by simp)) (tl_ops l hu) (tl_ops m hv) h
  obtain ⟨e3, e4⟩ := ops_inj (fun x hx => pc x (by simp [hx])) (fun x hx => pd x (by simp [hx])) hu hv e2
  exact ⟨nz_ops hc hd (by rw [ec, ed]; simp [e1, e3]), e4⟩
end Go.Ai.Z

/-
  Texts of axioms: which axiom a text is of.
-/
namespace Go.Ai.Z
open Go.Ai.Inj

/-- A word that no concept begins with. -/
structure KW (K : List UInt8) : Prop where
  b : ∀ x ∈ K, nameB x = true
  k : kwS K = true
  n1 : K ≠ [101, 118, 101, 114, 121, 116, 104, 105, 110, 103]
  n2 : K ≠ [110, 111, 116, 104, 105, 110, 103]
  n3 : K ≠ [115, 111, 109, 101]
theorem head_kw {c : C} {u K r : List UInt8} (hc : walkS c = 0) (hu : Te u) (hK : KW K) (h : textS c ++ u = K ++ 32 :: r) : False := by
  obtain ⟨pc, ⟨a, l, ec⟩, _⟩ := ops_ok hc
  rw [text_ops hc, ec] at h
  rw [ec] at pc
  simp only [List.map_cons, joinL, List.flatMap_map, List.append_assoc] at h
  have hKne : K ≠ [] := fun e => by have := hK.k; rw [e] at this; revert this; decide
  rcases heads (pc a (by simp)) (tl_ops l hu) with ⟨w, t, H⟩ | ⟨n, hn, e, z⟩ | ⟨h2, e, z⟩
  · have hh : w ++ t = K ++ 32 :: r := H.e.symm.trans h
    obtain ⟨rfl, -⟩ := span_eq H.b hK.b H.st (sp_name _) hh
    rcases H.d with ⟨q, -⟩ | ⟨q, -⟩ | ⟨q, -⟩ | ⟨q, -⟩ | ⟨q, -⟩
    · exact hK.n1 q
    · exact hK.n2 q
    · rw [hK.k] at q; cases q
    · rw [hK.k] at q; cases q
    · exact hK.n3 q
  · obtain ⟨b, K', rfl⟩ := List.exists_cons_of_ne_nil hKne
    have := (h.symm.trans e)
    simp only [List.cons_append, List.cons.injEq] at this
    have hb := hK.b b (by simp)
    rw [this.1] at hb; revert hb; decide
  · obtain ⟨b, K', rfl⟩ := List.exists_cons_of_ne_nil hKne
    have := (h.symm.trans e)
    simp only [List.cons_append, List.cons.injEq] at this
    have hb := hK.b b (by simp)
    rw [this.1] at hb; revert hb; decide

/-- Lists of names before " sub ". -/
theorem chain_inj : ∀ {l m : List (List UInt8)} {r q : List UInt8}, (∀ x ∈ l, Name x) → (∀ x ∈ m, Name x) →
    l.flatMap (fun r => 32 :: r) ++ [32, 115, 117, 98, 32] ++ r = m.flatMap (fun r => 32 :: r) ++ [32, 115, 117, 98, 32] ++ q → l = m ∧ r = q
  | [], [], r, q, _, _, h => by simpa using h
  | [], b :: m, r, q, _, hm, h => by
    simp only [List.flatMap_nil, List.nil_append, List.flatMap_cons, List.append_assoc, List.cons_append, List.cons.injEq, true_and] at h
    have hb := hm b (by simp)
    have st : Stops nameB (m.flatMap (fun r => 32 :: r) ++ (32 :: 115 :: 117 :: 98 :: 32 :: q)) := by cases m <;> simp [Stops] <;> decide
    have h' : [115, 117, 98] ++ 32 :: r = b ++ (m.flatMap (fun r => 32 :: r) ++ (32 :: 115 :: 117 :: 98 :: 32 :: q)) := by simpa using h
    obtain ⟨e, -⟩ := span_eq (by decide) hb.bytes (sp_name _) st h'
    have := hb.kw; rw [← e] at this; exact absurd this (by decide)
  | a :: l, [], r, q, hl, _, h => by
    simp only [List.flatMap_nil, List.nil_append, List.flatMap_cons, List.append_assoc, List.cons_append, List.cons.injEq, true_and] at h
    have ha := hl a (by simp)
    have st : Stops nameB (l.flatMap (fun r => 32 :: r) ++ (32 :: 115 :: 117 :: 98 :: 32 :: r)) := by cases l <;> simp [Stops] <;> decide
    have h' : a ++ (l.flatMap (fun r => 32 :: r) ++ (32 :: 115 :: 117 :: 98 :: 32 :: r)) = [115, 117, 98] ++ 32 :: q := by simpa using h
    obtain ⟨e, -⟩ := span_eq ha.bytes (by decide) st (sp_name _) h'
    have := ha.kw; rw [e] at this; exact absurd this (by decide)
  | a :: l, b :: m, r, q, hl, hm, h => by
    simp only [List.flatMap_cons, List.append_assoc, List.cons_append, List.cons.injEq, true_and] at h
    have ha := hl a (by simp)
    have hb := hm b (by simp)
    have st : ∀ (l : List (List UInt8)) (r : List UInt8), Stops nameB (l.flatMap (fun r => 32 :: r) ++ ([32, 115, 117, 98, 32] ++ r)) := by intro l r; cases l <;> simp [Stops] <;> decide
    have h' : a ++ (l.flatMap (fun r => 32 :: r) ++ ([32, 115, 117, 98, 32] ++ r)) = b ++ (m.flatMap (fun r => 32 :: r) ++ ([32, 115, 117, 98, 32] ++ q)) := by simpa using h
    obtain ⟨e1, e2⟩ := span_eq ha.bytes hb.bytes (st l r) (st m q) h'
    obtain ⟨e3, e4⟩ := chain_inj (l := l) (m := m) (r := r) (q := q) (fun x hx => hl x (by simp [hx])) (fun x hx => hm x (by simp [hx])) (by simpa using e2)
    exact ⟨by rw [e1, e3], e4⟩
end Go.Ai.Z
