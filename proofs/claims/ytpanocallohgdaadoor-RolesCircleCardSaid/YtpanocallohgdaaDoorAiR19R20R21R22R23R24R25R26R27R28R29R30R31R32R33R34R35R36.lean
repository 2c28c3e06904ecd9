/-
 roles.recognize: its state, and what an item does to it.
-/
import Derived.Test.YtpanocallohgdaaDoorAiR9R10R11R12R13R14R15R16R17R18
set_option maxRecDepth 100000
set_option linter.unusedSimpArgs false
set_option linter.unusedVariables false
namespace Go.Ai.Z
def StrK (es : List (AV × AV)) : Prop := ∃ ks : List (List UInt8), es.map (·.1) = ks.map AV.s ∧ ks.Nodup
theorem strK_nil : StrK [] := ⟨[], rfl, by simp⟩
theorem strK_one (k : List UInt8) (v : AV) : StrK [(.s k, v)] := ⟨[k], rfl, by simp⟩
theorem mput_str1 {k : List UInt8} {v : AV} : ∀ {es : List (AV × AV)} {ks : List (List UInt8)}, es.map (·.1) = ks.map AV.s → ∃ es', mput 1 (.s k) v es = some es' ∧ (∃ ks' : List (List UInt8), es'.map (·.1) = ks'.map AV.s ∧ (∀ x ∈ ks', x = k ∨ x ∈ ks) ∧ (ks.Nodup → ks'.Nodup)) ∧ ∀ k', find 1 (.s k') es' = if k' = k then some (some v) else find 1 (.s k') es
 | [], ks, h => ⟨[(.s k, v)], rfl, ⟨[k], rfl, fun x hx => .inl (by simpa using hx), fun _ => by simp⟩, fun k' => by
   by_cases h : k' = k <;> simp [find, keyEq, h]⟩
 | (a, b) :: es, [], h => by simp at h
 | (a, b) :: es, k0 :: ks, h => by
  simp only [List.map_cons, List.cons.injEq] at h
  obtain ⟨rfl, h⟩ := h
  by_cases hk : k = k0
  ·subst hk
   refine ⟨(.s k, v) :: es, by simp [mput, keyEq], ⟨k :: ks, by simp [h], fun x hx => .inr hx, fun hn => hn⟩, fun k' => ?_⟩
   by_cases h2 : k' = k <;> simp [find, keyEq, h2]
  ·obtain ⟨es', e1, ⟨ks', q1, q2, q3⟩, e3⟩ := mput_str1 (k := k) (v := v) h
   refine ⟨(.s k0, b) :: es', by simp [mput, keyEq, hk, e1], ⟨k0 :: ks', by simp [q1], fun x hx => ?_, fun hn => ?_⟩, fun k' => ?_⟩
   ·rcases List.mem_cons.1 hx with rfl | hx
    ·exact .inr (by simp)
    ·rcases q2 x hx with h | h
     ·exact .inl h
     ·exact .inr (by simp [h])
   ·rw [List.nodup_cons] at hn ⊢
    refine ⟨fun hm => ?_, q3 hn.2⟩
    rcases q2 k0 hm with h | h
    ·exact hk h.symm
    ·exact hn.1 h
   ·by_cases h2 : k' = k0
    ·subst h2
     have h3 : ¬ k' = k := fun h => hk h.symm
     simp [find, keyEq, h3]
    ·simp [find, keyEq, h2, e3]
theorem mput_str {k : List UInt8} {v : AV} {es : List (AV × AV)} (h : StrK es) : ∃ es', mput 1 (.s k) v es = some es' ∧ StrK es' ∧ ∀ k', find 1 (.s k') es' = if k' = k then some (some v) else find 1 (.s k') es := by
 obtain ⟨ks, h1, h2⟩ := h
 obtain ⟨es', e1, ⟨ks', q1, _, q3⟩, e3⟩ := mput_str1 (k := k) (v := v) h1
 exact ⟨es', e1, ⟨ks', q1, q3 h2⟩, e3⟩
theorem StrK.entry {es : List (AV × AV)} (h : StrK es) {p : AV × AV} (hp : p ∈ es) : ∃ k, p.1 = .s k ∧ find 1 (.s k) es = some (some p.2) := by
 obtain ⟨ks, h1, h2⟩ := h
 induction es generalizing ks with
 | nil => cases hp
 | cons a es ih =>
  cases ks with
  | nil => simp at h1
  | cons k0 ks =>
   simp only [List.map_cons, List.cons.injEq] at h1
   obtain ⟨a1, a2⟩ := a
   simp only at h1
   obtain ⟨rfl, h1⟩ := h1
   rw [List.nodup_cons] at h2
   rcases List.mem_cons.1 hp with rfl | hp2
   ·exact ⟨k0, rfl, by simp [find, keyEq]⟩
   ·obtain ⟨k, e1, e2⟩ := ih hp2 ks h1 h2.2
    have hne : k ≠ k0 := by
     rintro rfl
     have : AV.s k ∈ ks.map AV.s := by rw [← h1, ← e1]; exact List.mem_map.2 ⟨p, hp2, rfl⟩
     simp at this
     exact h2.1 this
    exact ⟨k, e1, by simp [find, keyEq, hne, e2]⟩
abbrev TB := List UInt8 → Nat → Nat → Bool
abbrev Item := List UInt8 × Nat × Nat
def itemC (q : Item) : List AV := [.s q.1, .i .i64 q.2.1, .i .i64 q.2.2]
def updT (T : TB) (q : Item) : TB := fun r f t => if r = q.1 ∧ f = q.2.1 ∧ t = q.2.2 then true else T r f t
structure RecT (s : St) (T : TB) (es : List (AV × AV)) (rest : St) : Prop where
 str : StrK es
 at_ : ∀ role, (find 1 (.s role) es = some none ∧ ∀ f t, T role f t = false) ∨ ∃ x cs, find 1 (.s role) es = some (some (.pt (s.length + 3 + x) 0)) ∧ x ≠ 1 ∧ rest[x]? = some (.cells cs) ∧ cs.length = 4225 ∧ ∀ f t, f ≤ 64 → t ≤ 64 → cs[f * 65 + t]? = some (.b (T role f t))
 inj : ∀ r1 r2 x, find 1 (.s r1) es = some (some (.pt (s.length + 3 + x) 0)) → find 1 (.s r2) es = some (some (.pt (s.length + 3 + x) 0)) → r1 = r2
def RecH (s : St) (T : TB) (Q : List Item) (H : St) : Prop :=
 ∃ es q rest, H = s ++ .map es :: .cells [.mp s.length] :: .cells [q] :: rest ∧ RecT s T es rest ∧
  ((q = .ns ∧ rest = [] ∧ Q = [] ∧ es = []) ∨ ∃ ver qs, q = .sk (s.length + 3 + 1) ver 3 0 Q.length ∧ rest[1]? = some (.buf T_roles_item_1 3 ver qs) ∧ Q.length * 3 ≤ qs.length ∧ qs.take (Q.length * 3) = Q.flatMap itemC)
theorem itemC_len (Q : List Item) : (Q.flatMap itemC).length = Q.length * 3 := by
 induction Q with
 | nil => rfl
 | cons a Q ih => simp only [List.flatMap_cons, List.length_append, ih, List.length_cons, itemC, List.length_nil]; omega
end Go.Ai.Z
namespace Go.Ai.Z
def addI (st : TB × List Item) (q : Item) : TB × List Item := if st.1 q.1 q.2.1 q.2.2 = true then st else (updT st.1 q, st.2 ++ [q])
end Go.Ai.Z
namespace Go.Ai.Z
end Go.Ai.Z
namespace Go.Ai.Z
end Go.Ai.Z
namespace Go.Ai.Z
structure RecTF (s : St) (F : List UInt8 → Option Nat) (T : TB) (es : List (AV × AV)) (rest : St) : Prop where
 str : StrK es
 at_ : ∀ role, (F role = none ∧ find 1 (.s role) es = some none ∧ ∀ f t, T role f t = false) ∨ ∃ x cs, F role = some x ∧ find 1 (.s role) es = some (some (.pt (s.length + 3 + x) 0)) ∧ x ≠ 1 ∧ rest[x]? = some (.cells cs) ∧ cs.length = 4225 ∧ ∀ f t, f ≤ 64 → t ≤ 64 → cs[f * 65 + t]? = some (.b (T role f t))
 inj : ∀ r1 r2 x, find 1 (.s r1) es = some (some (.pt (s.length + 3 + x) 0)) → find 1 (.s r2) es = some (some (.pt (s.length + 3 + x) 0)) → r1 = r2
def RecHF (s : St) (F : List UInt8 → Option Nat) (T : TB) (Q : List Item) (H : St) : Prop :=
 ∃ es q rest, H = s ++ .map es :: .cells [.mp s.length] :: .cells [q] :: rest ∧ RecTF s F T es rest ∧
  ((q = .ns ∧ rest = [] ∧ Q = [] ∧ es = []) ∨ ∃ ver qs, q = .sk (s.length + 3 + 1) ver 3 0 Q.length ∧ rest[1]? = some (.buf T_roles_item_1 3 ver qs) ∧ Q.length * 3 ≤ qs.length ∧ qs.take (Q.length * 3) = Q.flatMap itemC)
end Go.Ai.Z
namespace Go.Ai.Z
end Go.Ai.Z
namespace Go.Ai.Z
def syms (l : List Ax) (w : List (List UInt8)) : List (List UInt8) := w ++ reflA l ++ (edU l).map (·.2) ++ (rules l).map (·.role)
theorem dg_bound {l : List Ax} {w : List (List UInt8)} {r : List UInt8} {i j : Nat} (h : DG l w r i j) : i ≤ j ∧ j ≤ w.length ∧ r ∈ syms l w := by
 refine h (fun r i j => i ≤ j ∧ j ≤ w.length ∧ r ∈ syms l w) ⟨fun i r hr => ?_, fun r hr i hi => ?_, fun p hp i j h => ?_, fun p hp i j k h1 h2 => ?_⟩
 ·have := (List.getElem?_eq_some_iff.1 hr).1
  refine ⟨by omega, by omega, ?_⟩
  simp [syms, List.mem_of_getElem? hr]
 ·exact ⟨Nat.le_refl _, hi, by simp [syms, hr]⟩
 ·refine ⟨h.1, h.2.1, ?_⟩
  simp only [syms, List.mem_append, List.mem_map]
  exact .inl (.inr ⟨p, hp, rfl⟩)
 ·refine ⟨Nat.le_trans h1.1 h2.1, h2.2.1, ?_⟩
  simp only [syms, List.mem_append, List.mem_map]
  exact .inr ⟨p, hp, rfl⟩
def univ (l : List Ax) (w : List (List UInt8)) : List Item := (syms l w).flatMap fun r => (List.range (w.length + 1)).flatMap fun i => (List.range (w.length + 1)).map fun j => (r, i, j)
theorem mem_univ {l : List Ax} {w : List (List UInt8)} {r : List UInt8} {i j : Nat} (h : DG l w r i j) : (r, i, j) ∈ univ l w := by
 obtain ⟨h1, h2, h3⟩ := dg_bound h
 simp only [univ, List.mem_flatMap, List.mem_map, List.mem_range]
 exact ⟨r, h3, i, by omega, j, by omega, rfl⟩
theorem flatMap_len {α β : Type} (f : α → List β) (k : Nat) : ∀ l : List α, (∀ x ∈ l, (f x).length = k) → (l.flatMap f).length = l.length * k
 | [], _ => by simp
 | x :: l, h => by
  simp only [List.flatMap_cons, List.length_append, List.length_cons, h x (by simp), flatMap_len f k l fun y hy => h y (by simp [hy])]
  rw [Nat.add_mul]; omega
theorem nodupI_le {V U : List Item} (hV : V.Nodup) (h : ∀ x ∈ V, x ∈ U) : V.length ≤ U.length := by
 induction V generalizing U with
 | nil => simp
 | cons a V ih =>
  rw [List.nodup_cons] at hV
  have ha := h a (by simp)
  have h1 := ih (U := U.erase a) hV.2 fun x hx => by
   have hne : x ≠ a := fun he => hV.1 (he ▸ hx)
   exact (List.mem_erase_of_ne hne).2 (h x (by simp [hx]))
  rw [List.length_erase_of_mem ha] at h1
  have := List.length_pos_of_mem ha
  simp only [List.length_cons]; omega
structure RecI (l : List Ax) (w : List (List UInt8)) (P : List Item) (T : TB) (Q : List Item) : Prop where
 mem : ∀ r i j, T r i j = true ↔ (r, i, j) ∈ P ∨ (r, i, j) ∈ Q
 nd : (P ++ Q).Nodup
 snd : ∀ q ∈ P ++ Q, DG l w q.1 q.2.1 q.2.2
theorem RecI.le {l : List Ax} {w : List (List UInt8)} {P : List Item} {T : TB} {Q : List Item} (h : RecI l w P T Q) : P.length + Q.length ≤ (univ l w).length := by
 have := nodupI_le h.nd fun q hq => mem_univ (h.snd q hq)
 simpa using this
def LeT (T T' : TB) : Prop := ∀ r i j, T r i j = true → T' r i j = true
theorem LeT.refl (T : TB) : LeT T T := fun _ _ _ h => h
theorem LeT.trans {T T' T'' : TB} (h : LeT T T') (h' : LeT T' T'') : LeT T T'' := fun _ _ _ hx => h' _ _ _ (h _ _ _ hx)
theorem RecI.add {l : List Ax} {w : List (List UInt8)} {P : List Item} {T : TB} {Q : List Item} (h : RecI l w P T Q) {q : Item} (hq : DG l w q.1 q.2.1 q.2.2) : RecI l w P (addI (T, Q) q).1 (addI (T, Q) q).2 := by
 obtain ⟨qr, qi, qj⟩ := q
 unfold addI
 split
 ·exact h
 ·rename_i hT
  simp only at hT hq ⊢
  have hn : ¬ ((qr, qi, qj) ∈ P ∨ (qr, qi, qj) ∈ Q) := fun hh => hT ((h.mem _ _ _).2 hh)
  refine ⟨fun r i j => ?_, ?_, fun x hx => ?_⟩
  ·simp only [updT]
   split
   ·rename_i he; obtain ⟨rfl, rfl, rfl⟩ := he; simp
   ·rename_i he
    rw [h.mem]
    simp only [List.mem_append, List.mem_singleton, Prod.mk.injEq]
    constructor
    ·rintro (a | a)
     ·exact .inl a
     ·exact .inr (.inl a)
    ·rintro (a | a | a)
     ·exact .inl a
     ·exact .inr a
     ·exact absurd a he
  ·rw [← List.append_assoc, List.nodup_append]
   refine ⟨h.nd, by simp, fun a ha b hb hab => ?_⟩
   simp only [List.mem_singleton] at hb
   subst hb; subst hab
   exact hn (List.mem_append.1 ha)
  ·rw [← List.append_assoc, List.mem_append] at hx
   rcases hx with hx | hx
   ·exact h.snd x hx
   ·simp only [List.mem_singleton] at hx; subst hx; exact hq
structure RecD (l : List Ax) (P : List Item) (T : TB) : Prop where
 un : ∀ x ∈ P, ∀ p ∈ edU l, p.1 = x.1 → T p.2 x.2.1 x.2.2 = true
 bin : ∀ x ∈ P, ∀ y ∈ P, x.2.2 = y.2.1 → ∀ p ∈ rules l, p.first = x.1 → p.second = y.1 → T p.role x.2.1 y.2.2 = true
theorem RecD.mono {l : List Ax} {P : List Item} {T T' : TB} (h : RecD l P T) (ht : LeT T T') : RecD l P T' :=
 ⟨fun x hx p hp he => ht _ _ _ (h.un x hx p hp he), fun x hx y hy he p hp h1 h2 => ht _ _ _ (h.bin x hx y hy he p hp h1 h2)⟩
theorem RecI.pop {l : List Ax} {w : List (List UInt8)} {P : List Item} {T : TB} {Q : List Item} {x : Item} (h : RecI l w P T (Q ++ [x])) : RecI l w (x :: P) T Q := by
 refine ⟨fun r i j => ?_, ?_, fun q hq => ?_⟩
 ·rw [h.mem]
  simp only [List.mem_append, List.mem_cons, List.mem_singleton, List.not_mem_nil, or_false]
  constructor
  ·rintro (a | a | a)
   ·exact .inl (.inr a)
   ·exact .inr a
   ·exact .inl (.inl a)
  ·rintro ((a | a) | a)
   ·exact .inr (.inr a)
   ·exact .inl a
   ·exact .inr (.inl a)
 ·have := h.nd
  rw [← List.append_assoc] at this
  exact (List.perm_append_comm (l₁ := P ++ Q) (l₂ := [x])).nodup_iff.1 this
 ·refine h.snd q ?_
  simp only [List.cons_append, List.mem_cons, List.mem_append, List.mem_singleton] at hq ⊢
  rcases hq with a | a | a
  ·exact .inr (.inr (by simp [a]))
  ·exact .inl a
  ·exact .inr (.inl a)
theorem RecD.pop {l : List Ax} {w : List (List UInt8)} {P : List Item} {T0 T : TB} {Q Q0 : List Item} {x : Item} (hd : RecD l P T0) (hi : RecI l w P T0 Q0) (hx : T0 x.1 x.2.1 x.2.2 = true) (ht : LeT T0 T)
  (h1 : ∀ p ∈ edU l, p.1 = x.1 → T p.2 x.2.1 x.2.2 = true)
  (h2 : ∀ p ∈ rules l, p.first = x.1 → ∀ e, T0 p.second x.2.2 e = true → T p.role x.2.1 e = true)
  (h3 : ∀ p ∈ rules l, p.second = x.1 → ∀ b, T0 p.first b x.2.1 = true → T p.role b x.2.2 = true) : RecD l (x :: P) T := by
 have hP : ∀ q ∈ P, T0 q.1 q.2.1 q.2.2 = true := fun q hq => (hi.mem _ _ _).2 (.inl hq)
 refine ⟨fun q hq p hp he => ?_, fun a ha b hb hab p hp e1 e2 => ?_⟩
 ·rcases List.mem_cons.1 hq with rfl | hq
  ·exact h1 p hp he
  ·exact ht _ _ _ (hd.un q hq p hp he)
 ·rcases List.mem_cons.1 ha with rfl | ha2
  ·refine h2 p hp e1 _ ?_
   rw [hab, e2]
   rcases List.mem_cons.1 hb with rfl | hb2
   ·exact hx
   ·exact hP b hb2
  ·rcases List.mem_cons.1 hb with rfl | hb2
   ·refine h3 p hp e2 _ ?_
    rw [← hab, e1]
    exact hP a ha2
   ·exact ht _ _ _ (hd.bin a ha2 b hb2 hab p hp e1 e2)
end Go.Ai.Z
namespace Go.Ai.Z
theorem RecHF.cell {s : St} {F : List UInt8 → Option Nat} {T : TB} {Q : List Item} {H : St} (h : RecHF s F T Q H) {r : List UInt8} {x : Nat} (hF : F r = some x) :
  ∃ cs, H[s.length + 3 + x]? = some (.cells cs) ∧ cs.length = 4225 ∧ ∀ f t, f ≤ 64 → t ≤ 64 → cs[f * 65 + t]? = some (.b (T r f t)) := by
 obtain ⟨es, q, rest, rfl, hR, hq⟩ := h
 rcases hR.at_ r with ⟨h0, _⟩ | ⟨y, cs, h0, h1, h2, h3, h4, h5⟩
 ·rw [h0] at hF; cases hF
 ·rw [h0] at hF; cases hF
  exact ⟨cs, by rw [st3_r, h3], h4, h5⟩
theorem RecHF.look {s : St} {F : List UInt8 → Option Nat} {T : TB} {Q : List Item} {H : St} (h : RecHF s F T Q H) (r : List UInt8) :
  ∃ es, H[s.length]? = some (.map es) ∧ H[s.length + 1]? = some (.cells [.mp s.length]) ∧ find 1 (.s r) es = some ((F r).map fun x => .pt (s.length + 3 + x) 0) := by
 obtain ⟨es, q, rest, rfl, hR, hq⟩ := h
 refine ⟨es, by simp, by simp, ?_⟩
 rcases hR.at_ r with ⟨h0, h1, _⟩ | ⟨y, cs, h0, h1, _⟩
 ·rw [h0, h1]; rfl
 ·rw [h0, h1]; rfl
structure RecR (l : List Ax) (w : List (List UInt8)) (s : St) (P : List Item) (F : List UInt8 → Option Nat) (T : TB) (F' : List UInt8 → Option Nat) (T' : TB) (Q' : List Item) (H' : St) : Prop where
 hf : RecHF s F' T' Q' H'
 hi : RecI l w P T' Q'
 fk : ∀ r z, F r = some z → F' r = some z
 le : LeT T T'
theorem RecR.trans {l : List Ax} {w : List (List UInt8)} {s : St} {P : List Item} {F F' F'' : List UInt8 → Option Nat} {T T' T'' : TB} {Q' Q'' : List Item} {H' H'' : St} (h : RecR l w s P F T F' T' Q' H') (h' : RecR l w s P F' T' F'' T'' Q'' H'') : RecR l w s P F T F'' T'' Q'' H'' :=
 ⟨h'.hf, h'.hi, fun r z hz => h'.fk r z (h.fk r z hz), h.le.trans h'.le⟩
end Go.Ai.Z
namespace Go.Ai.Z
end Go.Ai.Z
namespace Go.Ai.Z
theorem RecH.box {s : St} {T : TB} {H : St} (h : RecH s T [] H) : ∃ q : AV, H[s.length + 2]? = some (.cells [q]) ∧ (q = .ns ∨ ∃ ver, q = .sk (s.length + 3 + 1) ver 3 0 0) := by
 obtain ⟨es, q, rest, rfl, hR, hq⟩ := h
 refine ⟨q, st3_2, ?_⟩
 rcases hq with ⟨h, _⟩ | ⟨ver, qs, h, _⟩
 ·exact .inl h
 ·exact .inr ⟨ver, h⟩
theorem RecH.pop {s : St} {T : TB} {Q : List Item} {x : Item} {H : St} (h : RecH s T (Q ++ [x]) H) :
  ∃ ver qs, H[s.length + 2]? = some (.cells [.sk (s.length + 3 + 1) ver 3 0 (Q.length + 1)]) ∧ H[s.length + 3 + 1]? = some (.buf T_roles_item_1 3 ver qs) ∧ (Q.length + 1) * 3 ≤ qs.length ∧ (qs.drop (Q.length * 3)).take 3 = [.s x.1, .i .i64 x.2.1, .i .i64 x.2.2] ∧
   RecH s T Q (H.set (s.length + 2) (.cells [.sk (s.length + 3 + 1) ver 3 0 Q.length])) := by
 obtain ⟨es, q, rest, rfl, hR, hq⟩ := h
 rcases hq with ⟨_, _, h, _⟩ | ⟨ver, qs, rfl, h1, h2, h3⟩
 ·simp at h
 ·simp only [List.length_append, List.length_cons, List.length_nil, Nat.zero_add] at h2 h3 ⊢
  have hc : (qs.drop (Q.length * 3)).take 3 = itemC x := by
   have e : (qs.take ((Q.length + 1) * 3)).drop (Q.length * 3) = itemC x := by
    rw [h3, List.flatMap_append, List.drop_left' (itemC_len Q)]; simp
   rw [List.drop_take, show (Q.length + 1) * 3 - Q.length * 3 = 3 by omega] at e
   exact e
  refine ⟨ver, qs, st3_2, by rw [st3_r, h1], h2, hc, es, _, rest, st3_s2, hR, .inr ⟨ver, qs, rfl, h1, by omega, ?_⟩⟩
  have e : (qs.take ((Q.length + 1) * 3)).take (Q.length * 3) = Q.flatMap itemC := by
   rw [h3, List.flatMap_append, List.take_left' (itemC_len Q)]
  rw [List.take_take, Nat.min_eq_left (by omega)] at e
  exact e
end Go.Ai.Z
namespace Go.Ai.Z
theorem mapM_one {F : AV → Option AV} : ∀ {cs : List AV}, (∀ c ∈ cs, F c = some c) → cs.mapM F = some cs
 | [], _ => rfl
 | c :: cs, h => by
  simp only [List.mapM_cons, h c (by simp), mapM_one fun d hd => h d (List.mem_cons_of_mem c hd)]; rfl
theorem cells_b {cs : List AV} (hl : cs.length = 4225) {f : Nat → Nat → Bool} (h : ∀ i j, i ≤ 64 → j ≤ 64 → cs[i * 65 + j]? = some (.b (f i j))) : ∀ c ∈ cs, ∃ b, c = .b b := by
 intro c hc
 obtain ⟨k, hk⟩ := List.mem_iff_getElem?.1 hc
 have hkl := (List.getElem?_eq_some_iff.1 hk).1
 have := h (k / 65) (k % 65) (by omega) (by omega)
 rw [show k / 65 * 65 + k % 65 = k by omega, hk] at this
 exact ⟨_, by cases this; rfl⟩
end Go.Ai.Z
namespace Go.Ai.Z
theorem plain_nm {l : List UInt8} (h : plainS l = true) : nmOK l = true := by simp [nmOK, h]
end Go.Ai.Z
namespace Go.Ai.Z
abbrev TbL := Nat → Nat → List (List UInt8)
end Go.Ai.Z
namespace Go.Ai.Z
def updL (tab : TbL) (i j : Nat) (v : List (List UInt8)) : TbL := fun a b => if a = i ∧ b = j then v else tab a b
def univA (l : List Ax) (n : Nat) : List Item := l.flatMap fun x => (List.range (n + 1)).flatMap fun i => (List.range (n + 1)).map fun j => (x.role, i, j)
structure TI (l : List Ax) (w : List (List UInt8)) (tab : TbL) (A : List Item) : Prop where
 srt : ∀ i j, Srt (tab i j)
 snd : ∀ i j r, i ≤ j → j ≤ w.length → r ∈ tab i j → Drv l w r i j
 bnd : ∀ i j r, r ∈ tab i j → r ∈ w ++ l.map (·.role)
 wrd : ∀ i r, w[i]? = some r → r ∈ tab i (i + 1)
 nd : A.Nodup
 inA : ∀ q ∈ A, q.1 ∈ tab q.2.1 q.2.2 ∧ q ∈ univA l w.length
theorem TI.len {l : List Ax} {w : List (List UInt8)} {tab : TbL} {A : List Item} (h : TI l w tab A) (i j : Nat) : (tab i j).length ≤ w.length + l.length := by
 have := nodup_le (h.srt i j).nodup (h.bnd i j)
 simpa using this
theorem TI.add {l : List Ax} {w : List (List UInt8)} {tab : TbL} {A : List Item} (h : TI l w tab A) {x : Ax} (hx : x ∈ l) {i j : Nat} (hi : i ≤ j) (hj : j ≤ w.length) (hn : x.role ∉ tab i j) (hd : Drv l w x.role i j) :
  TI l w (updL tab i j (withS (tab i j) x.role)) ((x.role, i, j) :: A) := by
 have hin : ∀ a b r, r ∈ updL tab i j (withS (tab i j) x.role) a b ↔ r ∈ tab a b ∨ (a = i ∧ b = j ∧ r = x.role) := by
  intro a b r
  by_cases hab : a = i ∧ b = j
  ·obtain ⟨rfl, rfl⟩ := hab
   simp [updL, mem_withS, or_comm]
  ·simp only [updL, if_neg hab]
   constructor
   ·exact .inl
   ·rintro (h | ⟨h1, h2, _⟩)
    ·exact h
    ·exact absurd ⟨h1, h2⟩ hab
 refine ⟨fun a b => ?_, fun a b r ha hb hr => ?_, fun a b r hr => ?_, fun a r hr => (hin _ _ _).2 (.inl (h.wrd a r hr)), ?_, fun q hq => ?_⟩
 ·by_cases hab : a = i ∧ b = j
  ·simp only [updL, if_pos hab]; exact srt_withS (h.srt i j)
  ·simp only [updL, if_neg hab]; exact h.srt a b
 ·rcases (hin a b r).1 hr with hr | ⟨rfl, rfl, rfl⟩
  ·exact h.snd a b r ha hb hr
  ·exact hd
 ·rcases (hin a b r).1 hr with hr | ⟨rfl, rfl, rfl⟩
  ·exact h.bnd a b r hr
  ·simp only [List.mem_append, List.mem_map]; exact .inr ⟨x, hx, rfl⟩
 ·rw [List.nodup_cons]
  exact ⟨fun hm => hn (h.inA _ hm).1, h.nd⟩
 ·rcases List.mem_cons.1 hq with rfl | hq
  ·refine ⟨(hin _ _ _).2 (.inr ⟨rfl, rfl, rfl⟩), ?_⟩
   simp only [univA, List.mem_flatMap, List.mem_map, List.mem_range]
   exact ⟨x, hx, i, by omega, j, by omega, rfl⟩
  ·exact ⟨(hin _ _ _).2 (.inl (h.inA q hq).1), (h.inA q hq).2⟩
end Go.Ai.Z
namespace Go.Ai.Z
end Go.Ai.Z
namespace Go.Ai.Z
theorem slf_under (n : Nat) (z : Bool) (l : List (List UInt8)) : (slf z (l.map .s)).under n = true := by
 cases z with
 | false => rw [slf_false]; simp [AV.under, underL_strs]
 | true =>
  cases l with
  | nil => rfl
  | cons a l => simp [AV.under, underL_strs, underL]
theorem slf_one (z : Bool) (es : List AV) : (slf z es).one = true := by
 cases z with
 | false => rw [slf_false]; rfl
 | true => cases es <;> rfl
theorem frz1_under {S : St} {n m : Nat} {a : AV} (h : a.under n = true) : frz1 S n m a = some a := by
 cases m with
 | zero => simp [frz1, h]
 | succ m => unfold frz1; rw [if_pos h]
theorem chunk_one : ∀ (n : Nat) (cs : List AV), cs.length = n → chunk 1 n cs = cs
 | 0, cs, h => by rw [List.length_eq_zero_iff.1 h]; rfl
 | n + 1, [], h => by simp at h
 | n + 1, c :: cs, h => by
  simp only [chunk, if_true, List.headD_cons, List.drop_one, List.tail_cons]
  rw [chunk_one n cs (by simpa using h)]
end Go.Ai.Z
namespace Go.Ai.Z
def CompOK (l : List Ax) (r t : List UInt8) (X : List (List UInt8)) : Prop := X.length ≤ 1000000 ∧ Srt X ∧ ((chkL l = 0 ∧ [r, t].all nmOK = true) → ∀ x, x ∈ X ↔ Drv l [r, t] x 0 2) ∧ (¬ (chkL l = 0 ∧ [r, t].all nmOK = true) → X = [])
theorem CompOK.uniq {l : List Ax} {r t : List UInt8} {X Y : List (List UInt8)} (h : CompOK l r t X) (h' : CompOK l r t Y) : X = Y := by
 by_cases hc : chkL l = 0 ∧ [r, t].all nmOK = true
 ·exact h.2.1.ext h'.2.1 fun x => by rw [h.2.2.1 hc, h'.2.2.1 hc]
 ·rw [h.2.2.2 hc, h'.2.2.2 hc]
end Go.Ai.Z
namespace Go.Ai.Z
end Go.Ai.Z
