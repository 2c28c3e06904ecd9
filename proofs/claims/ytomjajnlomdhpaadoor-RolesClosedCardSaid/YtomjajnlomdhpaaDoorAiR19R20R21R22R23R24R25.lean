/-
 roles.recognize: its state, and what an item does to it.
-/
import Derived.Test.YtomjajnlomdhpaaDoorAiR13R14R15R16R17R18
set_option maxRecDepth 100000
set_option linter.unusedSimpArgs false
set_option linter.unusedVariables false
namespace Go.Ai.Z
def StrK (es : List (AV × AV)) : Prop := ∃ ks : List (List UInt8), es.map (·.1) = ks.map AV.s ∧ ks.Nodup
theorem strK_nil : StrK [] := ⟨[], rfl, by simp⟩
theorem strK_one (k : List UInt8) (v : AV) : StrK [(.s k, v)] := ⟨[k], rfl, by simp⟩
theorem mput_str1 {k : List UInt8} {v : AV} : ∀ {es : List (AV × AV)} {ks : List (List UInt8)}, es.map (·.1) = ks.map AV.s → ∃ es', mput 1 (.s k) v es = some es' ∧ (∃ ks' : List (List UInt8), es'.map (·.1) = ks'.map AV.s ∧ (∀ x ∈ ks', x = k ∨ x ∈ ks) ∧ (ks.Nodup → ks'.Nodup)) ∧ ∀ k', find 1 (.s k') es' = if k' = k then some (some v) else find 1 (.s k') es
 | [], ks, h => ⟨[(.s k, v)], rfl, ⟨[k], rfl, fun x hx => .inl (by simpa using hx), fun _ => by simp⟩, fun k' => by
   by_cases h : k' = k <;> simp [find, keyEq, h]⟩
 | (a, b) :: es, [], h => by simp at h
 | (a, b) :: es, k0 :: ks, h => by
  simp only [List.map_cons, List.cons.injEq] at h
  obtain ⟨rfl, h⟩ := h
  by_cases hk : k = k0
  ·subst hk
   refine ⟨(.s k, v) :: es, by simp [mput, keyEq], ⟨k :: ks, by simp [h], fun x hx => .inr hx, fun hn => hn⟩, fun k' => ?_⟩
   by_cases h2 : k' = k <;> simp [find, keyEq, h2]
  ·obtain ⟨es', e1, ⟨ks', q1, q2, q3⟩, e3⟩ := mput_str1 (k := k) (v := v) h
   refine ⟨(.s k0, b) :: es', by simp [mput, keyEq, hk, e1], ⟨k0 :: ks', by simp [q1], fun x hx => ?_, fun hn => ?_⟩, fun k' => ?_⟩
   ·rcases List.mem_cons.1 hx with rfl | hx
    ·exact .inr (by simp)
    ·rcases q2 x hx with h | h
     ·exact .inl h
     ·exact .inr (by simp [h])
   ·rw [List.nodup_cons] at hn ⊢
    refine ⟨fun hm => ?_, q3 hn.2⟩
    rcases q2 k0 hm with h | h
    ·exact hk h.symm
    ·exact hn.1 h
   ·by_cases h2 : k' = k0
    ·subst h2
     have h3 : ¬ k' = k := fun h => hk h.symm
     simp [find, keyEq, h3]
    ·simp [find, keyEq, h2, e3]
theorem mput_str {k : List UInt8} {v : AV} {es : List (AV × AV)} (h : StrK es) : ∃ es', mput 1 (.s k) v es = some es' ∧ StrK es' ∧ ∀ k', find 1 (.s k') es' = if k' = k then some (some v) else find 1 (.s k') es := by
 obtain ⟨ks, h1, h2⟩ := h
 obtain ⟨es', e1, ⟨ks', q1, _, q3⟩, e3⟩ := mput_str1 (k := k) (v := v) h1
 exact ⟨es', e1, ⟨ks', q1, q3 h2⟩, e3⟩
theorem StrK.entry {es : List (AV × AV)} (h : StrK es) {p : AV × AV} (hp : p ∈ es) : ∃ k, p.1 = .s k ∧ find 1 (.s k) es = some (some p.2) := by
 obtain ⟨ks, h1, h2⟩ := h
 induction es generalizing ks with
 | nil => cases hp
 | cons a es ih =>
  cases ks with
  | nil => simp at h1
  | cons k0 ks =>
   simp only [List.map_cons, List.cons.injEq] at h1
   obtain ⟨a1, a2⟩ := a
   simp only at h1
   obtain ⟨rfl, h1⟩ := h1
   rw [List.nodup_cons] at h2
   rcases List.mem_cons.1 hp with rfl | hp2
   ·exact ⟨k0, rfl, by simp [find, keyEq]⟩
   ·obtain ⟨k, e1, e2⟩ := ih hp2 ks h1 h2.2
    have hne : k ≠ k0 := by
     rintro rfl
     have : AV.s k ∈ ks.map AV.s := by rw [← h1, ← e1]; exact List.mem_map.2 ⟨p, hp2, rfl⟩
     simp at this
     exact h2.1 this
    exact ⟨k, e1, by simp [find, keyEq, hne, e2]⟩
abbrev TB := List UInt8 → Nat → Nat → Bool
abbrev Item := List UInt8 × Nat × Nat
def itemC (q : Item) : List AV := [.s q.1, .i .i64 q.2.1, .i .i64 q.2.2]
def updT (T : TB) (q : Item) : TB := fun r f t => if r = q.1 ∧ f = q.2.1 ∧ t = q.2.2 then true else T r f t
structure RecT (s : St) (T : TB) (es : List (AV × AV)) (rest : St) : Prop where
 str : StrK es
 at_ : ∀ role, (find 1 (.s role) es = some none ∧ ∀ f t, T role f t = false) ∨ ∃ x cs, find 1 (.s role) es = some (some (.pt (s.length + 3 + x) 0)) ∧ x ≠ 1 ∧ rest[x]? = some (.cells cs) ∧ cs.length = 4225 ∧ ∀ f t, f ≤ 64 → t ≤ 64 → cs[f * 65 + t]? = some (.b (T role f t))
 inj : ∀ r1 r2 x, find 1 (.s r1) es = some (some (.pt (s.length + 3 + x) 0)) → find 1 (.s r2) es = some (some (.pt (s.length + 3 + x) 0)) → r1 = r2
def RecH (s : St) (T : TB) (Q : List Item) (H : St) : Prop :=
 ∃ es q rest, H = s ++ .map es :: .cells [.mp s.length] :: .cells [q] :: rest ∧ RecT s T es rest ∧
  ((q = .ns ∧ rest = [] ∧ Q = [] ∧ es = []) ∨ ∃ ver qs, q = .sk (s.length + 3 + 1) ver 3 0 Q.length ∧ rest[1]? = some (.buf T_roles_item_1 3 ver qs) ∧ Q.length * 3 ≤ qs.length ∧ qs.take (Q.length * 3) = Q.flatMap itemC)
theorem itemC_len (Q : List Item) : (Q.flatMap itemC).length = Q.length * 3 := by
 induction Q with
 | nil => rfl
 | cons a Q ih => simp only [List.flatMap_cons, List.length_append, ih, List.length_cons, itemC, List.length_nil]; omega
theorem recH_nil (s : St) : RecH s (fun _ _ _ => false) [] (s ++ .map [] :: .cells [.mp s.length] :: .cells [.ns] :: []) :=
 ⟨[], .ns, [], rfl, ⟨strK_nil, (fun role => .inl ⟨rfl, fun _ _ => rfl⟩), (fun r1 r2 x h => by simp [find] at h)⟩, .inl ⟨rfl, rfl, rfl, rfl⟩⟩
theorem rec_add_old {s : St} {T : TB} {Q : List Item} {H : St} (h : RecH s T Q H) (q : Item) (hf : q.2.1 ≤ 64) (ht : q.2.2 ≤ 64) (hT : T q.1 q.2.1 q.2.2 = true) (cx : Ctx) :
  acallW P0 (.fn (.func F_roles_recognize_1) [] [.pt (s.length + 1) 0, .pt (s.length + 2) 0]) [.s q.1, .i .i64 q.2.1, .i .i64 q.2.2] H cx = .ret (.tu []) H := by
 obtain ⟨es, qv, rest, rfl, hR, _⟩ := h
 rcases hR.at_ q.1 with ⟨_, h2⟩ | ⟨x, cs, h1, h2, h3, h4, h5⟩
 ·rw [h2] at hT; cases hT
 ·exact c_add_set s es qv rest q.1 q.2.1 q.2.2 x cs hf ht h1 h3 h4 (by rw [h5 _ _ hf ht, hT]) cx
theorem rec_add_new {s : St} {T : TB} {Q : List Item} {H : St} (h : RecH s T Q H) (q : Item) (hf : q.2.1 ≤ 64) (ht : q.2.2 ≤ 64) (hT : T q.1 q.2.1 q.2.2 = false) (hQ : Q.length ≤ 1000000) (cx : Ctx) (hcx : cx.lim ≤ s.length ∧ cx.base ≤ s.length) :
  ∃ H', acallW P0 (.fn (.func F_roles_recognize_1) [] [.pt (s.length + 1) 0, .pt (s.length + 2) 0]) [.s q.1, .i .i64 q.2.1, .i .i64 q.2.2] H cx = .ret (.tu []) H' ∧ RecH s (updT T q) (Q ++ [q]) H' := by
 obtain ⟨es, qv, rest, rfl, hR, hq⟩ := h
 have hk : q.2.1 * 65 + q.2.2 < 4225 := by omega
 have hbit : ∀ (T : TB) (cs : List AV), cs.length = 4225 → (∀ f t, f ≤ 64 → t ≤ 64 → cs[f * 65 + t]? = some (.b (T q.1 f t))) → ∀ f t, f ≤ 64 → t ≤ 64 → (cs.set (q.2.1 * 65 + q.2.2) (.b true))[f * 65 + t]? = some (.b (updT T q q.1 f t)) := by
  intro T cs hl hc f t h1 h2
  rw [List.getElem?_set]
  by_cases he : q.2.1 * 65 + q.2.2 = f * 65 + t
  ·have e1 : f = q.2.1 := by omega
   have e2 : t = q.2.2 := by omega
   rw [if_pos he, if_pos (by omega)]
   simp [updT, e1, e2]
  ·have : ¬ (f = q.2.1 ∧ t = q.2.2) := fun ⟨a, b⟩ => he (by rw [a, b])
   rw [if_neg he, hc f t h1 h2]
   simp [updT, this]
 have hoth : ∀ r, r ≠ q.1 → ∀ f t, updT T q r f t = T r f t := fun r hr f t => by simp [updT, hr]
 rcases hq with ⟨rfl, rfl, rfl, rfl⟩ | ⟨ver, qs, rfl, hq1, hq2, hq3⟩
 ·refine ⟨_, c_add_first s [] [(.s q.1, .pt (s.length + 3) 0)] q.1 q.2.1 q.2.2 hf ht rfl rfl (by simp [find, keyEq]) cx hcx, [(.s q.1, .pt (s.length + 3) 0)], _, _, rfl, ⟨?_, ?_, ?_⟩, .inr ⟨0, _, rfl, rfl, ?_, ?_⟩⟩
  ·exact strK_one _ _
  ·intro role
   by_cases hr : role = q.1
   ·subst hr
    refine .inr ⟨0, _, by simp [find, keyEq], by omega, rfl, by simp [span0_len], hbit _ _ span0_len fun f t h1 h2 => ?_⟩
    rw [span0_at (by omega)]
    rcases hR.at_ q.1 with ⟨_, h⟩ | ⟨x, cs, h1, _⟩
    ·rw [h]
    ·simp [find] at h1
   ·refine .inl ⟨by simp [find, keyEq, hr], fun f t => ?_⟩
    rw [hoth role hr]
    rcases hR.at_ role with ⟨_, h⟩ | ⟨x, cs, h1, _⟩
    ·exact h f t
    ·simp [find] at h1
  ·intro r1 r2 x h1 h2
   by_cases e1 : r1 = q.1
   ·by_cases e2 : r2 = q.1
    ·rw [e1, e2]
    ·simp [find, keyEq, e2] at h2
   ·simp [find, keyEq, e1] at h1
  ·simp
  ·simp [itemC]
 ·have hr1 : 1 < rest.length := (List.getElem?_eq_some_iff.1 hq1).1
  have htake : qs.take (Q.length * 3) ++ itemC q = (Q ++ [q]).flatMap itemC := by rw [hq3]; simp
  rcases hR.at_ q.1 with ⟨h1, h2⟩ | ⟨x, cs, h1, h2, h3, h4, h5⟩
  ·obtain ⟨es', m1, m2, m3⟩ := mput_str (k := q.1) (v := .pt (s.length + 3 + rest.length) 0) hR.str
   refine ⟨_, c_add_new s es es' rest q.1 q.2.1 q.2.2 qs ver Q.length hf ht h1 m1 (by rw [m3, if_pos rfl]) hq1 hq2 hQ cx hcx, es', _, _, rfl, ⟨m2, ?_, ?_⟩, .inr ⟨ver + 1, qs.take (Q.length * 3) ++ itemC q, by simp, ?_, ?_, ?_⟩⟩
   ·intro role
    by_cases hr : role = q.1
    ·subst hr
     refine .inr ⟨rest.length, span0.set (q.2.1 * 65 + q.2.2) (.b true), by rw [m3, if_pos rfl], by omega, ?_, by rw [List.length_set, span0_len], hbit _ _ span0_len fun f t h3 h4 => ?_⟩
     ·rw [List.getElem?_set_ne (by omega)]; simp
     ·rw [span0_at (by omega), h2]
    ·rcases hR.at_ role with ⟨g1, g2⟩ | ⟨x, cs, g1, g2, g3, g4, g5⟩
     ·exact .inl ⟨by rw [m3, if_neg hr, g1], fun f t => by rw [hoth role hr, g2]⟩
     ·refine .inr ⟨x, cs, by rw [m3, if_neg hr, g1], g2, ?_, g4, fun f t k1 k2 => by rw [hoth role hr]; exact g5 f t k1 k2⟩
      rw [List.getElem?_set_ne (Ne.symm g2), List.getElem?_append_left (List.getElem?_eq_some_iff.1 g3).1, g3]
   ·intro r1 r2 x k1 k2
    rw [m3] at k1 k2
    by_cases e1 : r1 = q.1
    ·by_cases e2 : r2 = q.1
     ·rw [e1, e2]
     ·rw [if_pos e1] at k1
      rw [if_neg e2] at k2
      have hx : x = rest.length := by simp at k1; omega
      rcases hR.at_ r2 with ⟨g1, _⟩ | ⟨y, cs, g1, _, g3, _⟩
      ·rw [g1] at k2; cases k2
      ·rw [g1] at k2
       have : y = x := by simp at k2; omega
       have := (List.getElem?_eq_some_iff.1 g3).1
       omega
    ·rw [if_neg e1] at k1
     by_cases e2 : r2 = q.1
     ·rw [if_pos e2] at k2
      have hx : x = rest.length := by simp at k2; omega
      rcases hR.at_ r1 with ⟨g1, _⟩ | ⟨y, cs, g1, _, g3, _⟩
      ·rw [g1] at k1; cases k1
      ·rw [g1] at k1
       have : y = x := by simp at k1; omega
       have := (List.getElem?_eq_some_iff.1 g3).1
       omega
     ·rw [if_neg e2] at k2
      exact hR.inj r1 r2 x k1 k2
   ·rw [List.getElem?_set_self (by simp; omega)]; rfl
   ·have := itemC_len (Q ++ [q])
    show _ ≤ (qs.take (Q.length * 3) ++ itemC q).length
    rw [htake, this]; exact Nat.le_refl _
   ·show (qs.take (Q.length * 3) ++ itemC q).take _ = _
    rw [htake, List.take_of_length_le (by rw [itemC_len]; exact Nat.le_refl _)]
  ·refine ⟨_, c_add_bit s es rest q.1 q.2.1 q.2.2 x cs qs ver Q.length hf ht h2 h1 h3 h4 (by rw [h5 _ _ hf ht, hT]) hq1 hq2 hQ cx hcx, es, _, _, rfl, ⟨hR.str, ?_, hR.inj⟩, .inr ⟨ver + 1, qs.take (Q.length * 3) ++ itemC q, by simp, ?_, ?_, ?_⟩⟩
   ·intro role
    by_cases hr : role = q.1
    ·subst hr
     refine .inr ⟨x, cs.set (q.2.1 * 65 + q.2.2) (.b true), h1, h2, ?_, by rw [List.length_set, h4], hbit _ _ h4 h5⟩
     rw [List.getElem?_set_ne (Ne.symm h2), List.getElem?_set_self (List.getElem?_eq_some_iff.1 h3).1]
    ·rcases hR.at_ role with ⟨g1, g2⟩ | ⟨y, ds, g1, g2, g3, g4, g5⟩
     ·exact .inl ⟨g1, fun f t => by rw [hoth role hr, g2]⟩
     ·have hxy : x ≠ y := fun e => hr (hR.inj role q.1 y g1 (by rw [← e]; exact h1))
      refine .inr ⟨y, ds, g1, g2, ?_, g4, fun f t k1 k2 => by rw [hoth role hr]; exact g5 f t k1 k2⟩
      rw [List.getElem?_set_ne (Ne.symm g2), List.getElem?_set_ne hxy, g3]
   ·rw [List.getElem?_set_self (by simp; omega)]; rfl
   ·have := itemC_len (Q ++ [q])
    show _ ≤ (qs.take (Q.length * 3) ++ itemC q).length
    rw [htake, this]; exact Nat.le_refl _
   ·show (qs.take (Q.length * 3) ++ itemC q).take _ = _
    rw [htake, List.take_of_length_le (by rw [itemC_len]; exact Nat.le_refl _)]
end Go.Ai.Z
namespace Go.Ai.Z
def addI (st : TB × List Item) (q : Item) : TB × List Item := if st.1 q.1 q.2.1 q.2.2 = true then st else (updT st.1 q, st.2 ++ [q])
theorem addI_len (st : TB × List Item) (q : Item) : (addI st q).2.length ≤ st.2.length + 1 := by
 unfold addI; split
 ·omega
 ·simp
theorem rec_add {s : St} {T : TB} {Q : List Item} {H : St} (h : RecH s T Q H) (q : Item) (hf : q.2.1 ≤ 64) (ht : q.2.2 ≤ 64) (hQ : Q.length ≤ 1000000) (cx : Ctx) (hcx : cx.lim ≤ s.length ∧ cx.base ≤ s.length) :
  ∃ H', acallW P0 (.fn (.func F_roles_recognize_1) [] [.pt (s.length + 1) 0, .pt (s.length + 2) 0]) [.s q.1, .i .i64 q.2.1, .i .i64 q.2.2] H cx = .ret (.tu []) H' ∧ RecH s (addI (T, Q) q).1 (addI (T, Q) q).2 H' := by
 cases hT : T q.1 q.2.1 q.2.2 with
 | true => exact ⟨H, rec_add_old h q hf ht hT cx, by simp only [addI, hT, if_true]; exact h⟩
 | false =>
  obtain ⟨H', e1, e2⟩ := rec_add_new h q hf ht hT hQ cx hcx
  exact ⟨H', e1, by simp only [addI, hT, Bool.false_eq_true, if_false]; exact e2⟩
def wItems : Nat → List (List UInt8) → List Item
 | _, [] => []
 | i, r :: w => (r, i, i + 1) :: wItems (i + 1) w
def fnAdd (s : St) : AV := .fn (.func F_roles_recognize_1) [] [.pt (s.length + 1) 0, .pt (s.length + 2) 0]
theorem l_rec0 (s : St) (cx : Ctx) (hcx : cx.lim ≤ s.length ∧ cx.base ≤ s.length) (g : List AV) (z : Bool) (w : List (List UInt8)) (hw : w.length ≤ 64) (nn : Int) :
  ∀ (rest : List (List UInt8)) (i : Nat) (T : TB) (Q : List Item) (H : St), w.drop i = rest → RecH s T Q H → Q.length + rest.length ≤ 100000 →
  ∃ (H' : St) (j : Int), loopW (acodeW P0.glob (acallW P0) cx false ir_roles_recognize_L0) [5, 6, 7, 8, 9, 32, 33, 34]
   [(5, .bx g), (6, .v (.pt (s.length + 1) 0)), (7, .v (.pt (s.length + 2) 0)), (8, .v (fnAdd s)), (9, .v (.i .i64 nn)), (32, .v (slf z (w.map .s))), (33, .v (.i .i64 w.length)), (34, .v (.i .i64 i))] H =
   .exit 0 [(5, .bx g), (6, .v (.pt (s.length + 1) 0)), (7, .v (.pt (s.length + 2) 0)), (8, .v (fnAdd s)), (9, .v (.i .i64 nn)), (32, .v (slf z (w.map .s))), (33, .v (.i .i64 w.length)), (34, .v (.i .i64 j)), (35, .v (.b false))] H' ∧
   RecH s ((wItems i rest).foldl addI (T, Q)).1 ((wItems i rest).foldl addI (T, Q)).2 H'
 | [], i, T, Q, H, h, hR, hQ => by
  have h1 : ¬ i < w.length := Nat.not_lt.2 (drop_nil h)
  refine ⟨H, i, loop_step fun K hK => ?_, hR⟩
  simp [ir_roles_recognize_L0, h1]
 | p :: rest, i, T, Q, H, h, hR, hQ => by
  obtain ⟨g1, g2, g3, g4⟩ := drop_cons h
  have g5 := g4 g3
  have hwi := wI (i := i) (by omega)
  simp only [List.length_cons] at hQ
  obtain ⟨H1, e1, e2⟩ := rec_add hR (p, i, i + 1) (by simp; omega) (by simp; omega) (by omega) cx hcx
  have hl := addI_len (T, Q) (p, i, i + 1)
  simp only at hl
  obtain ⟨H', j, ih, hR'⟩ := l_rec0 s cx hcx g z w hw nn rest (i + 1) (addI (T, Q) (p, i, i + 1)).1 (addI (T, Q) (p, i, i + 1)).2 H1 g2 e2 (by omega)
  refine ⟨H', j, loop_step fun K hK => ?_, hR'⟩
  have hKk : ∀ e t, K e t = K (keepE e [5, 6, 7, 8, 9, 32, 33, 34]) t := fun e t => by rw [hK]; exact loopW_keep _ _ _ _
  rw [← hK, show ((i + 1 : Nat) : Int) = (i : Int) + 1 from rfl] at ih
  clear hK g4 hR hR' e2
  simp only [show ((i + 1 : Nat) : Int) = (i : Int) + 1 from rfl] at e1
  rw [← ih]
  simp [fnAdd]
  simp [ir_roles_recognize_L0, g3, g5, hwi, e1]
end Go.Ai.Z
namespace Go.Ai.Z
def rItems (r : List UInt8) : Nat → Nat → List Item
 | _, 0 => []
 | i, c + 1 => (r, i, i) :: rItems r (i + 1) c
theorem rItems_len (r : List UInt8) : ∀ (c i : Nat), (rItems r i c).length = c
 | 0, _ => rfl
 | c + 1, i => by simp [rItems, rItems_len r c]
theorem addI_fold_len : ∀ (L : List Item) (st : TB × List Item), (L.foldl addI st).2.length ≤ st.2.length + L.length
 | [], st => by simp
 | q :: L, st => by
  have h1 := addI_len st q
  have h2 := addI_fold_len L (addI st q)
  simp only [List.foldl_cons, List.length_cons]; omega
theorem l_rec2 (s : St) (cx : Ctx) (hcx : cx.lim ≤ s.length ∧ cx.base ≤ s.length) (g : List AV) (n : Nat) (hn : n ≤ 64) (r : List UInt8) (a47 : AV) (k1 k2 : Int) :
  ∀ (c i : Nat) (T : TB) (Q : List Item) (H : St), i + c = n + 1 → RecH s T Q H → Q.length + c ≤ 100000 →
  ∃ (H' : St) (j : Int), loopW (acodeW P0.glob (acallW P0) cx false ir_roles_recognize_L2) [5, 6, 7, 8, 9, 13, 14, 47, 48, 49]
   [(5, .bx g), (6, .v (.pt (s.length + 1) 0)), (7, .v (.pt (s.length + 2) 0)), (8, .v (fnAdd s)), (9, .v (.i .i64 n)), (13, .v (.s r)), (14, .v (.i .i64 i)), (47, .v a47), (48, .v (.i .i64 k1)), (49, .v (.i .i64 k2))] H =
   .exit 4 [(5, .bx g), (6, .v (.pt (s.length + 1) 0)), (7, .v (.pt (s.length + 2) 0)), (8, .v (fnAdd s)), (9, .v (.i .i64 n)), (13, .v (.s r)), (14, .v (.i .i64 j)), (47, .v a47), (48, .v (.i .i64 k1)), (49, .v (.i .i64 k2)), (55, .v (.b false))] H' ∧
   RecH s ((rItems r i c).foldl addI (T, Q)).1 ((rItems r i c).foldl addI (T, Q)).2 H'
 | 0, i, T, Q, H, h, hR, hQ => by
  have h1 : ¬ i ≤ n := by omega
  refine ⟨H, i, loop_step fun K hK => ?_, hR⟩
  simp [ir_roles_recognize_L2, h1]
 | c + 1, i, T, Q, H, h, hR, hQ => by
  have h1 : i ≤ n := by omega
  have hwi := wI (i := i) (by omega)
  obtain ⟨H1, e1, e2⟩ := rec_add hR (r, i, i) (by simp; omega) (by simp; omega) (by omega) cx hcx
  have hl := addI_len (T, Q) (r, i, i)
  simp only at hl
  obtain ⟨H', j, ih, hR'⟩ := l_rec2 s cx hcx g n hn r a47 k1 k2 c (i + 1) (addI (T, Q) (r, i, i)).1 (addI (T, Q) (r, i, i)).2 H1 (by omega) e2 (by omega)
  refine ⟨H', j, loop_step fun K hK => ?_, hR'⟩
  rw [← hK, show ((i + 1 : Nat) : Int) = (i : Int) + 1 from rfl] at ih
  clear hK hR hR' e2
  rw [← ih]
  simp [fnAdd]
  simp [ir_roles_recognize_L2, h1, hwi, e1]
theorem l_rec1 (s : St) (cx : Ctx) (hcx : cx.lim ≤ s.length ∧ cx.base ≤ s.length) (g : List AV) (n : Nat) (hn : n ≤ 64) (z : Bool) (rl : List (List UInt8)) (hrl : rl.length ≤ 1000) :
  ∀ (rest : List (List UInt8)) (i : Nat) (T : TB) (Q : List Item) (H : St), rl.drop i = rest → RecH s T Q H → Q.length + rest.length * 65 ≤ 90000 →
  ∃ (H' : St) (j : Int), loopW (acodeW P0.glob (acallW P0) cx false ir_roles_recognize_L1) [5, 6, 7, 8, 9, 47, 48, 49]
   [(5, .bx g), (6, .v (.pt (s.length + 1) 0)), (7, .v (.pt (s.length + 2) 0)), (8, .v (fnAdd s)), (9, .v (.i .i64 n)), (47, .v (slf z (rl.map .s))), (48, .v (.i .i64 rl.length)), (49, .v (.i .i64 i))] H =
   .exit 2 [(5, .bx g), (6, .v (.pt (s.length + 1) 0)), (7, .v (.pt (s.length + 2) 0)), (8, .v (fnAdd s)), (9, .v (.i .i64 n)), (47, .v (slf z (rl.map .s))), (48, .v (.i .i64 rl.length)), (49, .v (.i .i64 j)), (50, .v (.b false))] H' ∧
   RecH s ((rest.flatMap fun r => rItems r 0 (n + 1)).foldl addI (T, Q)).1 ((rest.flatMap fun r => rItems r 0 (n + 1)).foldl addI (T, Q)).2 H'
 | [], i, T, Q, H, h, hR, hQ => by
  have h1 : ¬ i < rl.length := Nat.not_lt.2 (drop_nil h)
  refine ⟨H, i, loop_step fun K hK => ?_, hR⟩
  simp [ir_roles_recognize_L1, h1]
 | p :: rest, i, T, Q, H, h, hR, hQ => by
  obtain ⟨g1, g2, g3, g4⟩ := drop_cons h
  have g5 := g4 g3
  have hwi := wI (i := i) (by omega)
  simp only [List.length_cons] at hQ
  obtain ⟨H1, j1, e1, e2⟩ := l_rec2 s cx hcx g n hn p (slf z (rl.map .s)) rl.length i (n + 1) 0 T Q H (by omega) hR (by omega)
  have hl := addI_fold_len (rItems p 0 (n + 1)) (T, Q)
  rw [rItems_len] at hl
  simp only at hl
  obtain ⟨H', j, ih, hR'⟩ := l_rec1 s cx hcx g n hn z rl hrl rest (i + 1) ((rItems p 0 (n + 1)).foldl addI (T, Q)).1 ((rItems p 0 (n + 1)).foldl addI (T, Q)).2 H1 g2 e2 (by omega)
  refine ⟨H', j, loop_step fun K hK => ?_, by rw [List.flatMap_cons, List.foldl_append]; exact hR'⟩
  have hKk : ∀ e t, K e t = K (keepE e [5, 6, 7, 8, 9, 47, 48, 49]) t := fun e t => by rw [hK]; exact loopW_keep _ _ _ _
  rw [← hK, show ((i + 1 : Nat) : Int) = (i : Int) + 1 from rfl] at ih
  clear hK g4 hR hR' e2
  simp only [Int.ofNat_zero] at e1
  rw [← ih]
  simp [fnAdd] at e1 ⊢
  simp [ir_roles_recognize_L1, g3, g5, hwi, e1]
end Go.Ai.Z
namespace Go.Ai.Z
theorem l_rec4 (s : St) (cx : Ctx) (hcx : cx.lim ≤ s.length ∧ cx.base ≤ s.length) (g : List AV) (nn : Int) (x : Item) (hf : x.2.1 ≤ 64) (ht : x.2.2 ≤ 64) (z : Bool) (us : List (List UInt8)) (hus : us.length ≤ 1000) :
  ∀ (rest : List (List UInt8)) (i : Nat) (T : TB) (Q : List Item) (H : St), us.drop i = rest → RecH s T Q H → Q.length + rest.length ≤ 100000 →
  ∃ (H' : St) (j : Int), loopW (acodeW P0.glob (acallW P0) cx false ir_roles_recognize_L4) [5, 6, 7, 8, 9, 15, 82, 83, 84]
   [(5, .bx g), (6, .v (.pt (s.length + 1) 0)), (7, .v (.pt (s.length + 2) 0)), (8, .v (fnAdd s)), (9, .v (.i .i64 nn)), (15, .bx [.s x.1, .i .i64 x.2.1, .i .i64 x.2.2]), (82, .v (slf z (us.map .s))), (83, .v (.i .i64 us.length)), (84, .v (.i .i64 i))] H =
   .exit 8 [(5, .bx g), (6, .v (.pt (s.length + 1) 0)), (7, .v (.pt (s.length + 2) 0)), (8, .v (fnAdd s)), (9, .v (.i .i64 nn)), (15, .bx [.s x.1, .i .i64 x.2.1, .i .i64 x.2.2]), (82, .v (slf z (us.map .s))), (83, .v (.i .i64 us.length)), (84, .v (.i .i64 j)), (85, .v (.b false))] H' ∧
   RecH s ((rest.map fun r => (r, x.2.1, x.2.2)).foldl addI (T, Q)).1 ((rest.map fun r => (r, x.2.1, x.2.2)).foldl addI (T, Q)).2 H'
 | [], i, T, Q, H, h, hR, hQ => by
  have h1 : ¬ i < us.length := Nat.not_lt.2 (drop_nil h)
  refine ⟨H, i, loop_step fun K hK => ?_, hR⟩
  simp [ir_roles_recognize_L4, h1]
 | p :: rest, i, T, Q, H, h, hR, hQ => by
  obtain ⟨g1, g2, g3, g4⟩ := drop_cons h
  have g5 := g4 g3
  have hwi := wI (i := i) (by omega)
  simp only [List.length_cons] at hQ
  obtain ⟨H1, e1, e2⟩ := rec_add hR (p, x.2.1, x.2.2) hf ht (by omega) cx hcx
  have hl := addI_len (T, Q) (p, x.2.1, x.2.2)
  simp only at hl
  obtain ⟨H', j, ih, hR'⟩ := l_rec4 s cx hcx g nn x hf ht z us hus rest (i + 1) (addI (T, Q) (p, x.2.1, x.2.2)).1 (addI (T, Q) (p, x.2.1, x.2.2)).2 H1 g2 e2 (by omega)
  refine ⟨H', j, loop_step fun K hK => ?_, hR'⟩
  have hKk : ∀ e t, K e t = K (keepE e [5, 6, 7, 8, 9, 15, 82, 83, 84]) t := fun e t => by rw [hK]; exact loopW_keep _ _ _ _
  rw [← hK, show ((i + 1 : Nat) : Int) = (i : Int) + 1 from rfl] at ih
  clear hK g4 hR hR' e2
  rw [← ih]
  simp [fnAdd]
  simp [ir_roles_recognize_L4, g3, g5, hwi, e1]
end Go.Ai.Z
namespace Go.Ai.Z
structure RecTF (s : St) (F : List UInt8 → Option Nat) (T : TB) (es : List (AV × AV)) (rest : St) : Prop where
 str : StrK es
 at_ : ∀ role, (F role = none ∧ find 1 (.s role) es = some none ∧ ∀ f t, T role f t = false) ∨ ∃ x cs, F role = some x ∧ find 1 (.s role) es = some (some (.pt (s.length + 3 + x) 0)) ∧ x ≠ 1 ∧ rest[x]? = some (.cells cs) ∧ cs.length = 4225 ∧ ∀ f t, f ≤ 64 → t ≤ 64 → cs[f * 65 + t]? = some (.b (T role f t))
 inj : ∀ r1 r2 x, find 1 (.s r1) es = some (some (.pt (s.length + 3 + x) 0)) → find 1 (.s r2) es = some (some (.pt (s.length + 3 + x) 0)) → r1 = r2
def RecHF (s : St) (F : List UInt8 → Option Nat) (T : TB) (Q : List Item) (H : St) : Prop :=
 ∃ es q rest, H = s ++ .map es :: .cells [.mp s.length] :: .cells [q] :: rest ∧ RecTF s F T es rest ∧
  ((q = .ns ∧ rest = [] ∧ Q = [] ∧ es = []) ∨ ∃ ver qs, q = .sk (s.length + 3 + 1) ver 3 0 Q.length ∧ rest[1]? = some (.buf T_roles_item_1 3 ver qs) ∧ Q.length * 3 ≤ qs.length ∧ qs.take (Q.length * 3) = Q.flatMap itemC)
theorem rec_add_newF {s : St} {F : List UInt8 → Option Nat} {T : TB} {Q : List Item} {H : St} (h : RecHF s F T Q H) (q : Item) (hf : q.2.1 ≤ 64) (ht : q.2.2 ≤ 64) (hT : T q.1 q.2.1 q.2.2 = false) (hQ : Q.length ≤ 1000000) (cx : Ctx) (hcx : cx.lim ≤ s.length ∧ cx.base ≤ s.length) :
  ∃ H' F', acallW P0 (.fn (.func F_roles_recognize_1) [] [.pt (s.length + 1) 0, .pt (s.length + 2) 0]) [.s q.1, .i .i64 q.2.1, .i .i64 q.2.2] H cx = .ret (.tu []) H' ∧ RecHF s F' (updT T q) (Q ++ [q]) H' ∧ ∀ r x, F r = some x → F' r = some x := by
 obtain ⟨es, qv, rest, rfl, hR, hq⟩ := h
 have hk : q.2.1 * 65 + q.2.2 < 4225 := by omega
 have hbit : ∀ (T : TB) (cs : List AV), cs.length = 4225 → (∀ f t, f ≤ 64 → t ≤ 64 → cs[f * 65 + t]? = some (.b (T q.1 f t))) → ∀ f t, f ≤ 64 → t ≤ 64 → (cs.set (q.2.1 * 65 + q.2.2) (.b true))[f * 65 + t]? = some (.b (updT T q q.1 f t)) := by
  intro T cs hl hc f t h1 h2
  rw [List.getElem?_set]
  by_cases he : q.2.1 * 65 + q.2.2 = f * 65 + t
  ·have e1 : f = q.2.1 := by omega
   have e2 : t = q.2.2 := by omega
   rw [if_pos he, if_pos (by omega)]
   simp [updT, e1, e2]
  ·have : ¬ (f = q.2.1 ∧ t = q.2.2) := fun ⟨a, b⟩ => he (by rw [a, b])
   rw [if_neg he, hc f t h1 h2]
   simp [updT, this]
 have hoth : ∀ r, r ≠ q.1 → ∀ f t, updT T q r f t = T r f t := fun r hr f t => by simp [updT, hr]
 rcases hq with ⟨rfl, rfl, rfl, rfl⟩ | ⟨ver, qs, rfl, hq1, hq2, hq3⟩
 ·have hF0 : ∀ r, F r = none := fun r => by
   rcases hR.at_ r with ⟨h, _⟩ | ⟨x, cs, _, h1, _⟩
   ·exact h
   ·simp [find] at h1
  refine ⟨_, fun r => if r = q.1 then some 0 else none, c_add_first s [] [(.s q.1, .pt (s.length + 3) 0)] q.1 q.2.1 q.2.2 hf ht rfl rfl (by simp [find, keyEq]) cx hcx, ⟨[(.s q.1, .pt (s.length + 3) 0)], _, _, rfl, ⟨?_, ?_, ?_⟩, .inr ⟨0, _, rfl, rfl, ?_, ?_⟩⟩, fun r x h => by rw [hF0] at h; cases h⟩
  ·exact strK_one _ _
  ·intro role
   by_cases hr : role = q.1
   ·subst hr
    refine .inr ⟨0, _, by simp, by simp [find, keyEq], by omega, rfl, by simp [span0_len], hbit _ _ span0_len fun f t h1 h2 => ?_⟩
    rw [span0_at (by omega)]
    rcases hR.at_ q.1 with ⟨_, _, h⟩ | ⟨x, cs, _, h1, _⟩
    ·rw [h]
    ·simp [find] at h1
   ·refine .inl ⟨by simp [hr], by simp [find, keyEq, hr], fun f t => ?_⟩
    rw [hoth role hr]
    rcases hR.at_ role with ⟨_, _, h⟩ | ⟨x, cs, _, h1, _⟩
    ·exact h f t
    ·simp [find] at h1
  ·intro r1 r2 x h1 h2
   by_cases e1 : r1 = q.1
   ·by_cases e2 : r2 = q.1
    ·rw [e1, e2]
    ·simp [find, keyEq, e2] at h2
   ·simp [find, keyEq, e1] at h1
  ·simp
  ·simp [itemC]
 ·have hr1 : 1 < rest.length := (List.getElem?_eq_some_iff.1 hq1).1
  have htake : qs.take (Q.length * 3) ++ itemC q = (Q ++ [q]).flatMap itemC := by rw [hq3]; simp
  rcases hR.at_ q.1 with ⟨h0, h1, h2⟩ | ⟨x, cs, h0, h1, h2, h3, h4, h5⟩
  ·obtain ⟨es', m1, m2, m3⟩ := mput_str (k := q.1) (v := .pt (s.length + 3 + rest.length) 0) hR.str
   refine ⟨_, fun r => if r = q.1 then some rest.length else F r, c_add_new s es es' rest q.1 q.2.1 q.2.2 qs ver Q.length hf ht h1 m1 (by rw [m3, if_pos rfl]) hq1 hq2 hQ cx hcx, ⟨es', _, _, rfl, ⟨m2, ?_, ?_⟩, .inr ⟨ver + 1, qs.take (Q.length * 3) ++ itemC q, by simp, ?_, ?_, ?_⟩⟩, fun r x h => by
    by_cases hr : r = q.1
    ·subst hr; rw [h0] at h; cases h
    ·simp only [if_neg hr]; exact h⟩
   ·intro role
    by_cases hr : role = q.1
    ·subst hr
     refine .inr ⟨rest.length, span0.set (q.2.1 * 65 + q.2.2) (.b true), by simp, by rw [m3, if_pos rfl], by omega, ?_, by rw [List.length_set, span0_len], hbit _ _ span0_len fun f t h3 h4 => ?_⟩
     ·rw [List.getElem?_set_ne (by omega)]; simp
     ·rw [span0_at (by omega), h2]
    ·rcases hR.at_ role with ⟨g0, g1, g2⟩ | ⟨x, cs, g0, g1, g2, g3, g4, g5⟩
     ·exact .inl ⟨by simp [hr, g0], by rw [m3, if_neg hr, g1], fun f t => by rw [hoth role hr, g2]⟩
     ·refine .inr ⟨x, cs, by simp [hr, g0], by rw [m3, if_neg hr, g1], g2, ?_, g4, fun f t k1 k2 => by rw [hoth role hr]; exact g5 f t k1 k2⟩
      rw [List.getElem?_set_ne (Ne.symm g2), List.getElem?_append_left (List.getElem?_eq_some_iff.1 g3).1, g3]
   ·intro r1 r2 x k1 k2
    rw [m3] at k1 k2
    by_cases e1 : r1 = q.1
    ·by_cases e2 : r2 = q.1
     ·rw [e1, e2]
     ·rw [if_pos e1] at k1
      rw [if_neg e2] at k2
      have hx : x = rest.length := by simp at k1; omega
      rcases hR.at_ r2 with ⟨_, g1, _⟩ | ⟨y, cs, _, g1, _, g3, _⟩
      ·rw [g1] at k2; cases k2
      ·rw [g1] at k2
       have : y = x := by simp at k2; omega
       have := (List.getElem?_eq_some_iff.1 g3).1
       omega
    ·rw [if_neg e1] at k1
     by_cases e2 : r2 = q.1
     ·rw [if_pos e2] at k2
      have hx : x = rest.length := by simp at k2; omega
      rcases hR.at_ r1 with ⟨_, g1, _⟩ | ⟨y, cs, _, g1, _, g3, _⟩
      ·rw [g1] at k1; cases k1
      ·rw [g1] at k1
       have : y = x := by simp at k1; omega
       have := (List.getElem?_eq_some_iff.1 g3).1
       omega
     ·rw [if_neg e2] at k2
      exact hR.inj r1 r2 x k1 k2
   ·rw [List.getElem?_set_self (by simp; omega)]; rfl
   ·have := itemC_len (Q ++ [q])
    show _ ≤ (qs.take (Q.length * 3) ++ itemC q).length
    rw [htake, this]; exact Nat.le_refl _
   ·show (qs.take (Q.length * 3) ++ itemC q).take _ = _
    rw [htake, List.take_of_length_le (by rw [itemC_len]; exact Nat.le_refl _)]
  ·refine ⟨_, F, c_add_bit s es rest q.1 q.2.1 q.2.2 x cs qs ver Q.length hf ht h2 h1 h3 h4 (by rw [h5 _ _ hf ht, hT]) hq1 hq2 hQ cx hcx, ⟨es, _, _, rfl, ⟨hR.str, ?_, hR.inj⟩, .inr ⟨ver + 1, qs.take (Q.length * 3) ++ itemC q, by simp, ?_, ?_, ?_⟩⟩, fun _ _ h => h⟩
   ·intro role
    by_cases hr : role = q.1
    ·subst hr
     refine .inr ⟨x, cs.set (q.2.1 * 65 + q.2.2) (.b true), h0, h1, h2, ?_, by rw [List.length_set, h4], hbit _ _ h4 h5⟩
     rw [List.getElem?_set_ne (Ne.symm h2), List.getElem?_set_self (List.getElem?_eq_some_iff.1 h3).1]
    ·rcases hR.at_ role with ⟨g0, g1, g2⟩ | ⟨y, ds, g0, g1, g2, g3, g4, g5⟩
     ·exact .inl ⟨g0, g1, fun f t => by rw [hoth role hr, g2]⟩
     ·have hxy : x ≠ y := fun e => hr (hR.inj role q.1 y g1 (by rw [← e]; exact h1))
      refine .inr ⟨y, ds, g0, g1, g2, ?_, g4, fun f t k1 k2 => by rw [hoth role hr]; exact g5 f t k1 k2⟩
      rw [List.getElem?_set_ne (Ne.symm g2), List.getElem?_set_ne hxy, g3]
   ·rw [List.getElem?_set_self (by simp; omega)]; rfl
   ·have := itemC_len (Q ++ [q])
    show _ ≤ (qs.take (Q.length * 3) ++ itemC q).length
    rw [htake, this]; exact Nat.le_refl _
   ·show (qs.take (Q.length * 3) ++ itemC q).take _ = _
    rw [htake, List.take_of_length_le (by rw [itemC_len]; exact Nat.le_refl _)]
end Go.Ai.Z
namespace Go.Ai.Z
theorem RecHF.toH {s : St} {F : List UInt8 → Option Nat} {T : TB} {Q : List Item} {H : St} (h : RecHF s F T Q H) : RecH s T Q H := by
 obtain ⟨es, q, rest, rfl, hR, hq⟩ := h
 refine ⟨es, q, rest, rfl, ⟨hR.str, fun role => ?_, hR.inj⟩, hq⟩
 rcases hR.at_ role with ⟨_, h1, h2⟩ | ⟨x, cs, _, h1, h2⟩
 ·exact .inl ⟨h1, h2⟩
 ·exact .inr ⟨x, cs, h1, h2⟩
theorem RecH.toF {s : St} {T : TB} {Q : List Item} {H : St} (h : RecH s T Q H) : ∃ F, RecHF s F T Q H := by
 obtain ⟨es, q, rest, rfl, hR, hq⟩ := h
 refine ⟨fun role => match find 1 (.s role) es with | some (some (.pt a _)) => some (a - (s.length + 3)) | _ => none, es, q, rest, rfl, ⟨hR.str, fun role => ?_, hR.inj⟩, hq⟩
 rcases hR.at_ role with ⟨h1, h2⟩ | ⟨x, cs, h1, h2⟩
 ·exact .inl ⟨by simp only [h1], h1, h2⟩
 ·exact .inr ⟨x, cs, by simp only [h1]; rw [Nat.add_sub_cancel_left], h1, h2⟩
theorem rec_addF {s : St} {F : List UInt8 → Option Nat} {T : TB} {Q : List Item} {H : St} (h : RecHF s F T Q H) (q : Item) (hf : q.2.1 ≤ 64) (ht : q.2.2 ≤ 64) (hQ : Q.length ≤ 1000000) (cx : Ctx) (hcx : cx.lim ≤ s.length ∧ cx.base ≤ s.length) :
  ∃ H' F', acallW P0 (.fn (.func F_roles_recognize_1) [] [.pt (s.length + 1) 0, .pt (s.length + 2) 0]) [.s q.1, .i .i64 q.2.1, .i .i64 q.2.2] H cx = .ret (.tu []) H' ∧ RecHF s F' (addI (T, Q) q).1 (addI (T, Q) q).2 H' ∧ ∀ r x, F r = some x → F' r = some x := by
 cases hT : T q.1 q.2.1 q.2.2 with
 | true => exact ⟨H, F, rec_add_old h.toH q hf ht hT cx, by simp only [addI, hT, if_true]; exact h, fun _ _ h => h⟩
 | false =>
  obtain ⟨H', F', e1, e2, e3⟩ := rec_add_newF h q hf ht hT hQ cx hcx
  exact ⟨H', F', e1, by simp only [addI, hT, Bool.false_eq_true, if_false]; exact e2, e3⟩
end Go.Ai.Z
namespace Go.Ai.Z
def syms (l : List Ax) (w : List (List UInt8)) : List (List UInt8) := w ++ reflA l ++ (edU l).map (·.2) ++ (rules l).map (·.role)
theorem dg_bound {l : List Ax} {w : List (List UInt8)} {r : List UInt8} {i j : Nat} (h : DG l w r i j) : i ≤ j ∧ j ≤ w.length ∧ r ∈ syms l w := by
 refine h (fun r i j => i ≤ j ∧ j ≤ w.length ∧ r ∈ syms l w) ⟨fun i r hr => ?_, fun r hr i hi => ?_, fun p hp i j h => ?_, fun p hp i j k h1 h2 => ?_⟩
 ·have := (List.getElem?_eq_some_iff.1 hr).1
  refine ⟨by omega, by omega, ?_⟩
  simp [syms, List.mem_of_getElem? hr]
 ·exact ⟨Nat.le_refl _, hi, by simp [syms, hr]⟩
 ·refine ⟨h.1, h.2.1, ?_⟩
  simp only [syms, List.mem_append, List.mem_map]
  exact .inl (.inr ⟨p, hp, rfl⟩)
 ·refine ⟨Nat.le_trans h1.1 h2.1, h2.2.1, ?_⟩
  simp only [syms, List.mem_append, List.mem_map]
  exact .inr ⟨p, hp, rfl⟩
def univ (l : List Ax) (w : List (List UInt8)) : List Item := (syms l w).flatMap fun r => (List.range (w.length + 1)).flatMap fun i => (List.range (w.length + 1)).map fun j => (r, i, j)
theorem mem_univ {l : List Ax} {w : List (List UInt8)} {r : List UInt8} {i j : Nat} (h : DG l w r i j) : (r, i, j) ∈ univ l w := by
 obtain ⟨h1, h2, h3⟩ := dg_bound h
 simp only [univ, List.mem_flatMap, List.mem_map, List.mem_range]
 exact ⟨r, h3, i, by omega, j, by omega, rfl⟩
theorem flatMap_len {α β : Type} (f : α → List β) (k : Nat) : ∀ l : List α, (∀ x ∈ l, (f x).length = k) → (l.flatMap f).length = l.length * k
 | [], _ => by simp
 | x :: l, h => by
  simp only [List.flatMap_cons, List.length_append, List.length_cons, h x (by simp), flatMap_len f k l fun y hy => h y (by simp [hy])]
  rw [Nat.add_mul]; omega
theorem univ_len (l : List Ax) (w : List (List UInt8)) : (univ l w).length = (syms l w).length * ((w.length + 1) * (w.length + 1)) := by
 refine flatMap_len _ _ _ fun r _ => ?_
 rw [flatMap_len _ (w.length + 1) _ fun i _ => by simp]
 simp
theorem nodupI_le {V U : List Item} (hV : V.Nodup) (h : ∀ x ∈ V, x ∈ U) : V.length ≤ U.length := by
 induction V generalizing U with
 | nil => simp
 | cons a V ih =>
  rw [List.nodup_cons] at hV
  have ha := h a (by simp)
  have h1 := ih (U := U.erase a) hV.2 fun x hx => by
   have hne : x ≠ a := fun he => hV.1 (he ▸ hx)
   exact (List.mem_erase_of_ne hne).2 (h x (by simp [hx]))
  rw [List.length_erase_of_mem ha] at h1
  have := List.length_pos_of_mem ha
  simp only [List.length_cons]; omega
structure RecI (l : List Ax) (w : List (List UInt8)) (P : List Item) (T : TB) (Q : List Item) : Prop where
 mem : ∀ r i j, T r i j = true ↔ (r, i, j) ∈ P ∨ (r, i, j) ∈ Q
 nd : (P ++ Q).Nodup
 snd : ∀ q ∈ P ++ Q, DG l w q.1 q.2.1 q.2.2
theorem RecI.dg {l : List Ax} {w : List (List UInt8)} {P : List Item} {T : TB} {Q : List Item} (h : RecI l w P T Q) {r : List UInt8} {i j : Nat} (hT : T r i j = true) : DG l w r i j := by
 rcases (h.mem r i j).1 hT with h1 | h1
 ·exact h.snd (r, i, j) (by simp [h1])
 ·exact h.snd (r, i, j) (by simp [h1])
theorem RecI.le {l : List Ax} {w : List (List UInt8)} {P : List Item} {T : TB} {Q : List Item} (h : RecI l w P T Q) : P.length + Q.length ≤ (univ l w).length := by
 have := nodupI_le h.nd fun q hq => mem_univ (h.snd q hq)
 simpa using this
def LeT (T T' : TB) : Prop := ∀ r i j, T r i j = true → T' r i j = true
theorem LeT.refl (T : TB) : LeT T T := fun _ _ _ h => h
theorem LeT.trans {T T' T'' : TB} (h : LeT T T') (h' : LeT T' T'') : LeT T T'' := fun _ _ _ hx => h' _ _ _ (h _ _ _ hx)
theorem addI_le (st : TB × List Item) (q : Item) : LeT st.1 (addI st q).1 := fun r i j h => by
 unfold addI
 split
 ·exact h
 ·simp [updT, h]
theorem addI_in (st : TB × List Item) (q : Item) : (addI st q).1 q.1 q.2.1 q.2.2 = true := by
 unfold addI
 split
 ·rename_i h; exact h
 ·simp [updT]
theorem RecI.add {l : List Ax} {w : List (List UInt8)} {P : List Item} {T : TB} {Q : List Item} (h : RecI l w P T Q) {q : Item} (hq : DG l w q.1 q.2.1 q.2.2) : RecI l w P (addI (T, Q) q).1 (addI (T, Q) q).2 := by
 obtain ⟨qr, qi, qj⟩ := q
 unfold addI
 split
 ·exact h
 ·rename_i hT
  simp only at hT hq ⊢
  have hn : ¬ ((qr, qi, qj) ∈ P ∨ (qr, qi, qj) ∈ Q) := fun hh => hT ((h.mem _ _ _).2 hh)
  refine ⟨fun r i j => ?_, ?_, fun x hx => ?_⟩
  ·simp only [updT]
   split
   ·rename_i he; obtain ⟨rfl, rfl, rfl⟩ := he; simp
   ·rename_i he
    rw [h.mem]
    simp only [List.mem_append, List.mem_singleton, Prod.mk.injEq]
    constructor
    ·rintro (a | a)
     ·exact .inl a
     ·exact .inr (.inl a)
    ·rintro (a | a | a)
     ·exact .inl a
     ·exact .inr a
     ·exact absurd a he
  ·rw [← List.append_assoc, List.nodup_append]
   refine ⟨h.nd, by simp, fun a ha b hb hab => ?_⟩
   simp only [List.mem_singleton] at hb
   subst hb; subst hab
   exact hn (List.mem_append.1 ha)
  ·rw [← List.append_assoc, List.mem_append] at hx
   rcases hx with hx | hx
   ·exact h.snd x hx
   ·simp only [List.mem_singleton] at hx; subst hx; exact hq
theorem RecI.adds {l : List Ax} {w : List (List UInt8)} {P : List Item} : ∀ {L : List Item} {T : TB} {Q : List Item}, RecI l w P T Q → (∀ q ∈ L, DG l w q.1 q.2.1 q.2.2) → RecI l w P (L.foldl addI (T, Q)).1 (L.foldl addI (T, Q)).2
 | [], _, _, h, _ => h
 | q :: L, T, Q, h, hL => RecI.adds (L := L) (h.add (hL q (by simp))) fun x hx => hL x (by simp [hx])
theorem adds_le : ∀ (L : List Item) (st : TB × List Item), LeT st.1 (L.foldl addI st).1
 | [], _ => LeT.refl _
 | q :: L, st => (addI_le st q).trans (adds_le L (addI st q))
theorem adds_in : ∀ {L : List Item} {st : TB × List Item} {q : Item}, q ∈ L → (L.foldl addI st).1 q.1 q.2.1 q.2.2 = true
 | p :: L, st, q, hq => by
  rcases List.mem_cons.1 hq with rfl | hq
  ·exact adds_le L _ _ _ _ (addI_in st q)
  ·exact adds_in (L := L) hq
structure RecD (l : List Ax) (P : List Item) (T : TB) : Prop where
 un : ∀ x ∈ P, ∀ p ∈ edU l, p.1 = x.1 → T p.2 x.2.1 x.2.2 = true
 bin : ∀ x ∈ P, ∀ y ∈ P, x.2.2 = y.2.1 → ∀ p ∈ rules l, p.first = x.1 → p.second = y.1 → T p.role x.2.1 y.2.2 = true
theorem RecD.mono {l : List Ax} {P : List Item} {T T' : TB} (h : RecD l P T) (ht : LeT T T') : RecD l P T' :=
 ⟨fun x hx p hp he => ht _ _ _ (h.un x hx p hp he), fun x hx y hy he p hp h1 h2 => ht _ _ _ (h.bin x hx y hy he p hp h1 h2)⟩
theorem rec_end {l : List Ax} {w : List (List UInt8)} {P : List Item} {T : TB} (h : RecI l w P T []) (hd : RecD l P T) (hw : ∀ i r, w[i]? = some r → T r i (i + 1) = true) (hr : ∀ r ∈ reflA l, ∀ i, i ≤ w.length → T r i i = true) {r : List UInt8} {i j : Nat} :
  T r i j = true ↔ DG l w r i j := by
 have hP : ∀ {r i j}, T r i j = true → (r, i, j) ∈ P := fun hT => by
  rcases (h.mem _ _ _).1 hT with h1 | h1
  ·exact h1
  ·cases h1
 refine ⟨h.dg, fun hg => hg (fun r i j => T r i j = true) ⟨hw, hr, fun p hp i j hT => ?_, fun p hp i j k h1 h2 => ?_⟩⟩
 ·exact hd.un _ (hP hT) p hp rfl
 ·exact hd.bin _ (hP h1) _ (hP h2) rfl p hp rfl rfl
theorem RecI.pop {l : List Ax} {w : List (List UInt8)} {P : List Item} {T : TB} {Q : List Item} {x : Item} (h : RecI l w P T (Q ++ [x])) : RecI l w (x :: P) T Q := by
 refine ⟨fun r i j => ?_, ?_, fun q hq => ?_⟩
 ·rw [h.mem]
  simp only [List.mem_append, List.mem_cons, List.mem_singleton, List.not_mem_nil, or_false]
  constructor
  ·rintro (a | a | a)
   ·exact .inl (.inr a)
   ·exact .inr a
   ·exact .inl (.inl a)
  ·rintro ((a | a) | a)
   ·exact .inr (.inr a)
   ·exact .inl a
   ·exact .inr (.inl a)
 ·have := h.nd
  rw [← List.append_assoc] at this
  exact (List.perm_append_comm (l₁ := P ++ Q) (l₂ := [x])).nodup_iff.1 this
 ·refine h.snd q ?_
  simp only [List.cons_append, List.mem_cons, List.mem_append, List.mem_singleton] at hq ⊢
  rcases hq with a | a | a
  ·exact .inr (.inr (by simp [a]))
  ·exact .inl a
  ·exact .inr (.inl a)
theorem RecD.pop {l : List Ax} {w : List (List UInt8)} {P : List Item} {T0 T : TB} {Q Q0 : List Item} {x : Item} (hd : RecD l P T0) (hi : RecI l w P T0 Q0) (hx : T0 x.1 x.2.1 x.2.2 = true) (ht : LeT T0 T)
  (h1 : ∀ p ∈ edU l, p.1 = x.1 → T p.2 x.2.1 x.2.2 = true)
  (h2 : ∀ p ∈ rules l, p.first = x.1 → ∀ e, T0 p.second x.2.2 e = true → T p.role x.2.1 e = true)
  (h3 : ∀ p ∈ rules l, p.second = x.1 → ∀ b, T0 p.first b x.2.1 = true → T p.role b x.2.2 = true) : RecD l (x :: P) T := by
 have hP : ∀ q ∈ P, T0 q.1 q.2.1 q.2.2 = true := fun q hq => (hi.mem _ _ _).2 (.inl hq)
 refine ⟨fun q hq p hp he => ?_, fun a ha b hb hab p hp e1 e2 => ?_⟩
 ·rcases List.mem_cons.1 hq with rfl | hq
  ·exact h1 p hp he
  ·exact ht _ _ _ (hd.un q hq p hp he)
 ·rcases List.mem_cons.1 ha with rfl | ha2
  ·refine h2 p hp e1 _ ?_
   rw [hab, e2]
   rcases List.mem_cons.1 hb with rfl | hb2
   ·exact hx
   ·exact hP b hb2
  ·rcases List.mem_cons.1 hb with rfl | hb2
   ·refine h3 p hp e2 _ ?_
    rw [← hab, e1]
    exact hP a ha2
   ·exact ht _ _ _ (hd.bin a ha2 b hb2 hab p hp e1 e2)
end Go.Ai.Z
