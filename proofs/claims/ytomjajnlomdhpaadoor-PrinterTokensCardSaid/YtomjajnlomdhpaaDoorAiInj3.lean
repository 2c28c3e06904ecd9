/-
  Texts of concepts can be told apart.
-/
import Derived.Test.YtomjajnlomdhpaaDoorAiInjInj2
set_option maxRecDepth 100000
set_option linter.unusedSimpArgs false
set_option linter.unusedVariables false
namespace Go.Ai.Z
open Go.Ai.Inj
open Go.Lib (itoa)

mutual
/-- The concept, its flags of nil forgotten. -/
def nz : C → C
  | .mk k n l h _ ps => .mk k n l h false (nzL ps)
def nzL : List C → List C
  | [] => []
  | p :: r => nz p :: nzL r
end
theorem nzL_eq : ∀ l : List C, nzL l = l.map nz
  | [] => rfl
  | p :: r => by simp [nzL, nzL_eq r]
theorem nz_eq (c : C) : nz c = .mk c.kind c.name c.lo c.hi false (c.parts.map nz) := by
  cases c; simp [nz, nzL_eq, C.kind, C.name, C.lo, C.hi, C.parts]

def Tl (u : List UInt8) : Prop := u = [] ∨ (∃ r, u = 41 :: r) ∨ (∃ r, u = andB ++ r) ∨ (∃ r, u = 32 :: 115 :: r) ∨ ∃ r, u = 32 :: 100 :: r
theorem tl_name {u : List UInt8} (h : Tl u) : Stops nameB u := by
  intro b r e
  rcases h with rfl | ⟨q, rfl⟩ | ⟨q, rfl⟩ | ⟨q, rfl⟩ | ⟨q, rfl⟩
  · cases e
  · obtain ⟨rfl, -⟩ := List.cons.inj e; decide
  · simp [andB] at e; obtain ⟨rfl, -⟩ := e; decide
  · obtain ⟨rfl, -⟩ := List.cons.inj e; decide
  · obtain ⟨rfl, -⟩ := List.cons.inj e; decide
theorem tl_num {u : List UInt8} (h : Tl u) : Stops numB u := by
  intro b r e
  rcases h with rfl | ⟨q, rfl⟩ | ⟨q, rfl⟩ | ⟨q, rfl⟩ | ⟨q, rfl⟩
  · cases e
  · obtain ⟨rfl, -⟩ := List.cons.inj e; decide
  · simp [andB] at e; obtain ⟨rfl, -⟩ := e; decide
  · obtain ⟨rfl, -⟩ := List.cons.inj e; decide
  · obtain ⟨rfl, -⟩ := List.cons.inj e; decide
theorem sp_name (r : List UInt8) : Stops nameB (32 :: r) := by
  intro b q e; obtain ⟨rfl, -⟩ := List.cons.inj e; decide
theorem sp_num (r : List UInt8) : Stops numB (32 :: r) := by
  intro b q e; obtain ⟨rfl, -⟩ := List.cons.inj e; decide

inductive View (c : C) : Prop where
  | top (e : opS c = [101, 118, 101, 114, 121, 116, 104, 105, 110, 103]) (z : nz c = .mk 1 [] 0 0 false [])
  | bot (e : opS c = [110, 111, 116, 104, 105, 110, 103]) (z : nz c = .mk 2 [] 0 0 false [])
  | nam (n : List UInt8) (hn : Name n) (e : opS c = n) (z : nz c = .mk 3 n 0 0 false [])
  | nom (n : List UInt8) (hn : ∀ b ∈ n, nameB b = true) (e : opS c = 123 :: (n ++ [125])) (z : nz c = .mk 4 n 0 0 false [])
  | rng (n : List UInt8) (lo hi : Int) (hn : Name n) (e : opS c = n ++ (32 :: 105 :: 110 :: 32 :: (itoa lo ++ (32 :: 116 :: 111 :: 32 :: itoa hi)))) (z : nz c = .mk 7 n lo hi false [])
  | som (n : List UInt8) (a : C) (hn : Name n) (ha : a ∈ c.parts) (e : opS c = [115, 111, 109, 101] ++ (32 :: (n ++ (32 :: opS a)))) (z : nz c = .mk 6 n 0 0 false [nz a])
  | and (h2 : 2 ≤ c.parts.length) (e : opS c = 40 :: (joinL andB (c.parts.map opS) ++ [41])) (z : nz c = .mk 5 [] 0 0 false (c.parts.map nz))
theorem view {c : C} (h : walkS c = 0) : View c := by
  obtain ⟨v1, v2, v3⟩ := walk_ok h
  have hz := nz_eq c
  have hp : (c.parts.length : Int) = 0 → c.parts = [] := fun h => List.length_eq_zero_iff.1 (by omega)
  unfold shapeS at v1
  unfold namedS at v2
  rcases shape_kind (walk_ok h).1 with k | k | k | k | ⟨k, k1, k2, k3⟩ | ⟨k, k1⟩ | ⟨k, k1⟩
  · simp [k] at v1
    refine .top (by rw [opS, if_neg (by omega), textS_eq, if_pos k]) ?_
    rw [hz, k, v1.1.1.1, v1.1.1.2, v1.1.2, v1.2]; rfl
  · simp [k] at v1
    refine .bot (by rw [opS, if_neg (by omega), textS_eq, if_neg (by omega), if_pos k]) ?_
    rw [hz, k, v1.1.1.1, v1.1.1.2, v1.1.2, v1.2]; rfl
  · simp [k] at v1 v2
    refine .nam c.name (plain_name v2) (by rw [opS, if_neg (by omega), textS_eq, if_neg (by omega), if_neg (by omega), if_pos k]) ?_
    rw [hz, k, v1.1.1, v1.1.2, v1.2]; rfl
  · simp [k] at v1 v2
    refine .nom c.name (fun b hb => ?_) (by rw [opS, if_neg (by omega), textS_eq, if_neg (by omega), if_neg (by omega), if_neg (by omega), if_pos k]) ?_
    · rcases v2 with v2 | v2
      · exact (plain_name v2).bytes b hb
      · exact res_bytes v2 b hb
    · rw [hz, k, v1.1.1, v1.1.2, v1.2]; rfl
  · simp [k] at v1 v2
    refine .rng c.name c.lo c.hi (plain_name v2) (by rw [opS, if_neg (by omega), textS_eq, if_neg (by omega), if_neg (by omega), if_neg (by omega), if_neg (by omega), if_pos k]; simp) ?_
    rw [hz, k, v1.1.1.1]; rfl
  · simp [k] at v1 v2
    rcases hps : c.parts with _ | ⟨a, _ | ⟨b, r⟩⟩
    · simp [hps] at k1
    · refine .som c.name a (plain_name v2) (by rw [hps]; simp) (by rw [opS, if_neg (by omega), textS_eq, if_neg (by omega), if_neg (by omega), if_neg (by omega), if_neg (by omega), if_neg (by omega), if_pos k]; simp [hps, opsS_eq]) ?_
      rw [hz, k, v1.1.1, v1.1.2, hps]; rfl
    · simp [hps] at k1
  · simp [k] at v1
    refine .and k1 (by rw [opS, if_pos k, textS_eq, if_neg (by omega), if_neg (by omega), if_neg (by omega), if_neg (by omega), if_neg (by omega), if_neg (by omega)]) ?_
    rw [hz, k, v1.1.1.1.1, v1.1.1.1.2, v1.1.1.2]

/-- The word at the head, and what follows. -/
structure Word (c : C) (u w t : List UInt8) : Prop where
  e : opS c ++ u = w ++ t
  b : ∀ x ∈ w, nameB x = true
  ne : w ≠ []
  st : Stops nameB t
  d : (w = [101, 118, 101, 114, 121, 116, 104, 105, 110, 103] ∧ t = u ∧ nz c = .mk 1 [] 0 0 false []) ∨ (w = [110, 111, 116, 104, 105, 110, 103] ∧ t = u ∧ nz c = .mk 2 [] 0 0 false []) ∨
    (kwS w = false ∧ t = u ∧ nz c = .mk 3 w 0 0 false []) ∨ (kwS w = false ∧ ∃ lo hi, t = 32 :: 105 :: 110 :: 32 :: (itoa lo ++ (32 :: 116 :: 111 :: 32 :: (itoa hi ++ u))) ∧ nz c = .mk 7 w lo hi false []) ∨
    (w = [115, 111, 109, 101] ∧ ∃ n a, Name n ∧ a ∈ c.parts ∧ t = 32 :: (n ++ 32 :: (opS a ++ u)) ∧ nz c = .mk 6 n 0 0 false [nz a])
theorem heads {c : C} (h : walkS c = 0) {u : List UInt8} (hu : Tl u) : (∃ w t, Word c u w t) ∨
    (∃ n, (∀ b ∈ n, nameB b = true) ∧ opS c ++ u = 123 :: (n ++ 125 :: u) ∧ nz c = .mk 4 n 0 0 false []) ∨
    (2 ≤ c.parts.length ∧ opS c ++ u = 40 :: (joinL andB (c.parts.map opS) ++ 41 :: u) ∧ nz c = .mk 5 [] 0 0 false (c.parts.map nz)) := by
  rcases view h with ⟨e, z⟩ | ⟨e, z⟩ | ⟨n, hn, e, z⟩ | ⟨n, hn, e, z⟩ | ⟨n, lo, hi, hn, e, z⟩ | ⟨n, a, hn, ha, e, z⟩ | ⟨h2, e, z⟩
  · exact .inl ⟨_, u, by rw [e], by decide, by simp, tl_name hu, .inl ⟨rfl, rfl, z⟩⟩
  · exact .inl ⟨_, u, by rw [e], by decide, by simp, tl_name hu, .inr (.inl ⟨rfl, rfl, z⟩)⟩
  · exact .inl ⟨n, u, by rw [e], hn.bytes, hn.ne, tl_name hu, .inr (.inr (.inl ⟨hn.kw, rfl, z⟩))⟩
  · exact .inr (.inl ⟨n, hn, by rw [e]; simp, z⟩)
  · exact .inl ⟨n, 32 :: 105 :: 110 :: 32 :: (itoa lo ++ (32 :: 116 :: 111 :: 32 :: (itoa hi ++ u))), by rw [e]; simp, hn.bytes, hn.ne, sp_name _, .inr (.inr (.inr (.inl ⟨hn.kw, lo, hi, rfl, z⟩)))⟩
  · exact .inl ⟨[115, 111, 109, 101], 32 :: (n ++ 32 :: (opS a ++ u)), by rw [e]; simp, by decide, by simp, sp_name _, .inr (.inr (.inr (.inr ⟨rfl, n, a, hn, ha, rfl, z⟩)))⟩
  · exact .inr (.inr ⟨h2, by rw [e]; simp, z⟩)
theorem kw1 : kwS [101, 118, 101, 114, 121, 116, 104, 105, 110, 103] = true := by decide
theorem kw2 : kwS [110, 111, 116, 104, 105, 110, 103] = true := by decide
theorem kw6 : kwS [115, 111, 109, 101] = true := by decide
theorem tl_join (l : List C) (u : List UInt8) : Tl (l.flatMap (fun c => andB ++ opS c) ++ 41 :: u) := by
  cases l with
  | nil => exact .inr (.inl ⟨u, rfl⟩)
  | cons a r => exact .inr (.inr (.inl ⟨opS a ++ (r.flatMap (fun c => andB ++ opS c) ++ 41 :: u), by simp⟩))
/-- Lists of operands, joined. -/
theorem join_inj {P : C → Prop} : ∀ {l m : List C} {u v : List UInt8}, (∀ c ∈ l, P c) → (∀ c ∈ m, P c) → (∀ c ∈ l, ∀ d u v, P d → Tl u → Tl v → opS c ++ u = opS d ++ v → nz c = nz d ∧ u = v) →
    l.flatMap (fun c => andB ++ opS c) ++ 41 :: u = m.flatMap (fun c => andB ++ opS c) ++ 41 :: v → l.map nz = m.map nz ∧ u = v
  | [], [], u, v, _, _, _, h => by simpa using h
  | [], d :: m, u, v, _, _, _, h => by simp [andB] at h
  | c :: l, [], u, v, _, _, _, h => by simp [andB] at h
  | c :: l, d :: m, u, v, hl, hm, ih, h => by
    have tl : ∀ (l : List C) (u : List UInt8), Tl (l.flatMap (fun c => andB ++ opS c) ++ 41 :: u) := by
      intro l u
      cases l with
      | nil => exact .inr (.inl ⟨u, rfl⟩)
      | cons a r => exact .inr (.inr (.inl ⟨opS a ++ (r.flatMap (fun c => andB ++ opS c) ++ 41 :: u), by simp⟩))
    simp only [List.flatMap_cons, List.append_assoc, List.append_cancel_left_eq] at h
    obtain ⟨e1, e2⟩ := ih c (by simp) d _ _ (hm d (by simp)) (tl l u) (tl m v) h
    obtain ⟨e3, e4⟩ := join_inj (fun x hx => hl x (by simp [hx])) (fun x hx => hm x (by simp [hx])) (fun x hx => ih x (by simp [hx])) e2
    exact ⟨by simp [e1, e3], e4⟩
theorem tl_in {u r : List UInt8} (h : Tl u) (e : u = 32 :: 105 :: r) : False := by
  rcases h with rfl | ⟨q, rfl⟩ | ⟨q, rfl⟩ | ⟨q, rfl⟩ | ⟨q, rfl⟩
  · cases e
  · exact absurd (List.cons.inj e).1 (by decide)
  · simp [andB] at e
  · simp at e
  · simp at e
theorem head_no {c : C} {u w t : List UInt8} (h : Word c u w t) {b : UInt8} {r : List UInt8} (e : opS c ++ u = b :: r) (hb : nameB b = false) : False := by
  obtain ⟨x, w', rfl⟩ := List.exists_cons_of_ne_nil h.ne
  rw [h.e] at e
  simp only [List.cons_append, List.cons.injEq] at e
  have := h.b x (by simp)
  rw [e.1, hb] at this; cases this
theorem op_inj : ∀ (c : C), walkS c = 0 → ∀ (d : C) (u v : List UInt8), walkS d = 0 → Tl u → Tl v → opS c ++ u = opS d ++ v → nz c = nz d ∧ u = v := by
  refine C.ind' fun c ih hc d u v hd hu hv h => ?_
  obtain ⟨_, _, pc⟩ := walk_ok hc
  obtain ⟨_, _, pd⟩ := walk_ok hd
  rcases heads hc hu with ⟨w, t, H⟩ | ⟨n, hn, e, z⟩ | ⟨h2, e, z⟩ <;> rcases heads hd hv with ⟨w', t', H'⟩ | ⟨n', hn', e', z'⟩ | ⟨h2', e', z'⟩
  · have hh := h
    rw [H.e, H'.e] at hh
    obtain ⟨rfl, rfl⟩ := span_eq H.b H'.b H.st H'.st hh
    have k1 := kw1
    have k2 := kw2
    have k6 := kw6
    rcases H.d with ⟨rfl, rfl, z⟩ | ⟨rfl, rfl, z⟩ | ⟨kw, rfl, z⟩ | ⟨kw, lo, hi, e, z⟩ | ⟨rfl, n, a, hn, ha, e, z⟩ <;>
      rcases H'.d with ⟨q, e', z'⟩ | ⟨q, e', z'⟩ | ⟨q, e', z'⟩ | ⟨q, lo', hi', e', z'⟩ | ⟨q, n', a', hn', ha', e', z'⟩
    all_goals first
      | (exact absurd q (by decide))
      | (subst q; simp_all; done)
      | (exact ⟨z.trans z'.symm, e'⟩)
      | skip
    · exact (tl_in hu e').elim
    · exact (tl_in hv (e'.symm.trans e)).elim
    · rw [e'] at e
      simp only [List.cons.injEq, true_and] at e
      obtain ⟨q1, q2⟩ := span_eq (itoa_num lo') (itoa_num lo) (sp_num _) (sp_num _) e
      simp only [List.cons.injEq, true_and] at q2
      obtain ⟨q3, q4⟩ := span_eq (itoa_num hi') (itoa_num hi) (tl_num hv) (tl_num hu) q2
      exact ⟨by rw [z, z', itoa_inj q1, itoa_inj q3], q4.symm⟩
    · rw [e'] at e
      simp only [List.cons.injEq, true_and] at e
      obtain ⟨q1, q2⟩ := span_eq hn'.bytes hn.bytes (sp_name _) (sp_name _) e
      simp only [List.cons.injEq, true_and] at q2
      obtain ⟨q3, q4⟩ := ih a ha (pc a ha) a' u v (pd a' ha') hu hv q2.symm
      exact ⟨by rw [z, z', q1, q3], q4⟩
  · exact (head_no H (h.trans e') (by decide)).elim
  · exact (head_no H (h.trans e') (by decide)).elim
  · exact (head_no H' (h.symm.trans e) (by decide)).elim
  · rw [e, e'] at h
    obtain ⟨q1, q2⟩ := span_eq hn hn' (by intro b r e; obtain ⟨rfl, -⟩ := List.cons.inj e; decide) (by intro b r e; obtain ⟨rfl, -⟩ := List.cons.inj e; decide) (List.cons.inj h).2
    exact ⟨by rw [z, z', q1], (List.cons.inj q2).2⟩
  · rw [e, e'] at h; exact absurd (List.cons.inj h).1 (by decide)
  · exact (head_no H' (h.symm.trans e) (by decide)).elim
  · rw [e, e'] at h; exact absurd (List.cons.inj h).1 (by decide)
  · rw [e, e'] at h
    have h := (List.cons.inj h).2
    rcases hp : c.parts with _ | ⟨a, l⟩
    · simp [hp] at h2
    rcases hp' : d.parts with _ | ⟨a', l'⟩
    · simp [hp'] at h2'
    rw [hp, hp'] at h
    rw [hp] at ih pc
    rw [hp'] at pd
    simp only [List.map_cons, joinL, List.flatMap_map, List.append_assoc] at h
    have h := (show opS a ++ (l.flatMap (fun c => andB ++ opS c) ++ 41 :: u) = opS a' ++ (l'.flatMap (fun c => andB ++ opS c) ++ 41 :: v) from h)
    obtain ⟨e1, e2⟩ := ih a (by simp) (pc a (by simp)) a' _ _ (pd a' (by simp)) (tl_join l u) (tl_join l' v) h
    obtain ⟨e3, e4⟩ := join_inj (P := fun c => walkS c = 0) (fun x hx => pc x (by simp [hx])) (fun x hx => pd x (by simp [hx])) (fun x hx d u v hd => ih x (by simp [hx]) (pc x (by simp [hx])) d u v hd) e2
    refine ⟨?_, e4⟩
    rw [z, z', hp, hp']; simp [e1, e3]
/-- Valid concepts with one text are one. -/
theorem text_inj {c d : C} (hc : walkS c = 0) (hd : walkS d = 0) (h : textS c = textS d) : nz c = nz d := by
  have key : ∀ {c d : C}, walkS c = 0 → walkS d = 0 → c.kind = 5 → ¬ d.kind = 5 → textS c = textS d → False := by
    intro c d hc hd k k' h
    obtain ⟨v1, _, pc⟩ := walk_ok hc
    have ht : textS c = joinL andB (c.parts.map opS) := by rw [textS_eq, if_neg (by omega), if_neg (by omega), if_neg (by omega), if_neg (by omega), if_neg (by omega), if_neg (by omega)]
    rcases shape_kind v1 with q | q | q | q | ⟨q, _⟩ | ⟨q, _⟩ | ⟨_, q⟩ <;> try omega
    rcases hp : c.parts with _ | ⟨a, _ | ⟨b, l⟩⟩
    · simp [hp] at q
    · simp [hp] at q
    · rw [ht, hp] at h
      have ho : opS d = textS d := by rw [opS, if_neg k']
      have e : opS a ++ (andB ++ (opS b ++ (l.map opS).flatMap fun y => andB ++ y)) = opS d ++ [] := by rw [ho, ← h]; simp [joinL]
      have := (op_inj a (pc a (by simp [hp])) d _ _ hd (.inr (.inr (.inl ⟨_, rfl⟩))) (.inl rfl) e).2
      simp [andB] at this
  by_cases k : c.kind = 5 <;> by_cases k' : d.kind = 5
  · exact (op_inj c hc d [] [] hd (.inl rfl) (.inl rfl) (by simp [opS, k, k', h])).1
  · exact (key hc hd k k' h).elim
  · exact (key hd hc k' k h.symm).elim
  · exact (op_inj c hc d [] [] hd (.inl rfl) (.inl rfl) (by simp [opS, k, k', h])).1
end Go.Ai.Z
