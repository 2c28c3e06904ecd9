/-
 roles.recognize: the agenda.
-/
import Derived.Test.YtomjajnlomdhpaaDoorAiR26R27
set_option maxRecDepth 100000
set_option linter.unusedSimpArgs false
set_option linter.unusedVariables false
namespace Go.Ai.Z
theorem RecH.box {s : St} {T : TB} {H : St} (h : RecH s T [] H) : ∃ q : AV, H[s.length + 2]? = some (.cells [q]) ∧ (q = .ns ∨ ∃ ver, q = .sk (s.length + 3 + 1) ver 3 0 0) := by
 obtain ⟨es, q, rest, rfl, hR, hq⟩ := h
 refine ⟨q, st3_2, ?_⟩
 rcases hq with ⟨h, _⟩ | ⟨ver, qs, h, _⟩
 ·exact .inl h
 ·exact .inr ⟨ver, h⟩
theorem RecH.pop {s : St} {T : TB} {Q : List Item} {x : Item} {H : St} (h : RecH s T (Q ++ [x]) H) :
  ∃ ver qs, H[s.length + 2]? = some (.cells [.sk (s.length + 3 + 1) ver 3 0 (Q.length + 1)]) ∧ H[s.length + 3 + 1]? = some (.buf T_roles_item_1 3 ver qs) ∧ (Q.length + 1) * 3 ≤ qs.length ∧ (qs.drop (Q.length * 3)).take 3 = [.s x.1, .i .i64 x.2.1, .i .i64 x.2.2] ∧
   RecH s T Q (H.set (s.length + 2) (.cells [.sk (s.length + 3 + 1) ver 3 0 Q.length])) := by
 obtain ⟨es, q, rest, rfl, hR, hq⟩ := h
 rcases hq with ⟨_, _, h, _⟩ | ⟨ver, qs, rfl, h1, h2, h3⟩
 ·simp at h
 ·simp only [List.length_append, List.length_cons, List.length_nil, Nat.zero_add] at h2 h3 ⊢
  have hc : (qs.drop (Q.length * 3)).take 3 = itemC x := by
   have e : (qs.take ((Q.length + 1) * 3)).drop (Q.length * 3) = itemC x := by
    rw [h3, List.flatMap_append, List.drop_left' (itemC_len Q)]; simp
   rw [List.drop_take, show (Q.length + 1) * 3 - Q.length * 3 = 3 by omega] at e
   exact e
  refine ⟨ver, qs, st3_2, by rw [st3_r, h1], h2, hc, es, _, rest, st3_s2, hR, .inr ⟨ver, qs, rfl, h1, by omega, ?_⟩⟩
  have e : (qs.take ((Q.length + 1) * 3)).take (Q.length * 3) = Q.flatMap itemC := by
   rw [h3, List.flatMap_append, List.take_left' (itemC_len Q)]
  rw [List.take_take, Nat.min_eq_left (by omega)] at e
  exact e
theorem esF_look (j : Nat) (k : List UInt8) (R : RT) : ∃ r z, find 1 (.s k) (esF j R) = some r ∧ r.getD .ns = slf z (valT j R k) := by
 obtain ⟨r, h1, h2⟩ := find_esF j k R
 rcases h2 with ⟨rfl, h3⟩ | rfl
 ·exact ⟨none, true, h1, by rw [h3]; rfl⟩
 ·exact ⟨_, false, h1, by simp⟩
def upsOf (l : List Ax) (k : List UInt8) : List (List UInt8) := ((edU l).filter fun p => decide (p.1 = k)).map (·.2)
theorem look0 (l : List Ax) (k : List UInt8) : ∃ r z, find 1 (.s k) (esF 0 (grR l)) = some r ∧ r.getD .ns = slf z ((upsOf l k).map .s) := by
 obtain ⟨r, z, h1, h2⟩ := esF_look 0 k (grR l)
 refine ⟨r, z, h1, ?_⟩
 rw [h2]
 have := val_0 (k := k) l ([], [])
 rw [show valT 0 (([] : RT), ([] : List Rul)).1 k = [] from rfl, List.nil_append] at this
 rw [show valT 0 (grR l) k = _ from this, upsOf, List.map_map]; rfl
theorem rinv_nil : RInv ([], []) := fun k => ⟨rfl, rfl⟩
def rul1 (l : List Ax) (k : List UInt8) : List Rul := (grS l).filter fun p => decide (p.first = k)
def rul2 (l : List Ax) (k : List UInt8) : List Rul := (grS l).filter fun p => decide (p.second = k)
theorem look1 (l : List Ax) (k : List UInt8) : ∃ r z, find 1 (.s k) (esF 1 (grR l)) = some r ∧ r.getD .ns = slf z ((rul1 l k).map encR) := by
 obtain ⟨r, z, h1, h2⟩ := esF_look 1 k (grR l)
 exact ⟨r, z, h1, by rw [h2, show valT 1 (grR l) k = _ from (rinv_gr (l := l) rinv_nil k).1]; rfl⟩
theorem look2 (l : List Ax) (k : List UInt8) : ∃ r z, find 1 (.s k) (esF 2 (grR l)) = some r ∧ r.getD .ns = slf z ((rul2 l k).map encR) := by
 obtain ⟨r, z, h1, h2⟩ := esF_look 2 k (grR l)
 exact ⟨r, z, h1, by rw [h2, show valT 2 (grR l) k = _ from (rinv_gr (l := l) rinv_nil k).2]; rfl⟩
theorem mem_grS {l : List Ax} {q : Rul} : q ∈ grS l ↔ q ∈ rules l := by
 have := mem_gr (q := q) (l := l) (st := ([], []))
 simpa [grS] using this
theorem l_rec3 (l : List Ax) (hl : l.length ≤ 1000) (hgs : (grS l).length ≤ 1000) (w : List (List UInt8)) (hw : w.length ≤ 64) (hU : (univ l w).length ≤ 90000) (s : St) (cx : Ctx) (hcx : cx.lim ≤ s.length ∧ cx.base ≤ s.length) (v3 : AV) :
  ∀ (N : Nat) (P : List Item) (T : TB) (Q : List Item) (H : St), (univ l w).length ≤ P.length + N → RecH s T Q H → RecI l w P T Q → RecD l P T →
  ∃ (H' : St) (P' : List Item) (T' : TB), loopW (acodeW P0.glob (acallW P0) cx false ir_roles_recognize_L3) [5, 6, 7, 8, 9]
   [(5, .bx [.im (esF 0 (grR l)), .im (esF 1 (grR l)), .im (esF 2 (grR l)), v3]), (6, .v (.pt (s.length + 1) 0)), (7, .v (.pt (s.length + 2) 0)), (8, .v (fnAdd s)), (9, .v (.i .i64 w.length))] H =
   .exit 6 [(5, .bx [.im (esF 0 (grR l)), .im (esF 1 (grR l)), .im (esF 2 (grR l)), v3]), (6, .v (.pt (s.length + 1) 0)), (7, .v (.pt (s.length + 2) 0)), (8, .v (fnAdd s)), (9, .v (.i .i64 w.length)), (66, .v (.b false))] H' ∧
   RecH s T' [] H' ∧ RecI l w P' T' [] ∧ RecD l P' T' ∧ LeT T T' := by
 intro N
 induction N with
 | zero =>
  intro P T Q H hN hR hI hD
  have hle := hI.le
  obtain rfl : Q = [] := List.length_eq_zero_iff.1 (by omega)
  obtain ⟨q, h1, h2⟩ := hR.box
  refine ⟨H, P, T, loop_step fun K hK => ?_, hR, hI, hD, LeT.refl T⟩
  rcases h2 with rfl | ⟨ver, rfl⟩
  ·simp [ir_roles_recognize_L3, h1]
  ·simp [ir_roles_recognize_L3, h1]
 | succ N ih =>
  intro P T Q H hN hR hI hD
  rcases List.eq_nil_or_concat Q with rfl | ⟨Q0, x, rfl⟩
  ·obtain ⟨q, h1, h2⟩ := hR.box
   refine ⟨H, P, T, loop_step fun K hK => ?_, hR, hI, hD, LeT.refl T⟩
   rcases h2 with rfl | ⟨ver, rfl⟩
   ·simp [ir_roles_recognize_L3, h1]
   ·simp [ir_roles_recognize_L3, h1]
  ·rw [List.concat_eq_append] at hR hI
   have hle := hI.le
   simp only [List.length_append, List.length_cons, List.length_nil, Nat.zero_add] at hle
   have hTx : T x.1 x.2.1 x.2.2 = true := (hI.mem _ _ _).2 (.inr (by simp))
   have hx : DG l w x.1 x.2.1 x.2.2 := hI.dg hTx
   have hb := dg_bound hx
   obtain ⟨ver, qs, p1, p2, p3, p4, hR1⟩ := hR.pop
   have hI1 := hI.pop
   generalize hH1 : H.set (s.length + 2) (.cells [.sk (s.length + 3 + 1) ver 3 0 Q0.length]) = H1 at hR1
   obtain ⟨o1, z1, f1, f1'⟩ := look0 l x.1
   obtain ⟨o2, z2, f2, f2'⟩ := look1 l x.1
   obtain ⟨o3, z3, f3, f3'⟩ := look2 l x.1
   have hul : (upsOf l x.1).length ≤ 1000 := by
    have h1 := List.length_filter_le (fun p : List UInt8 × List UInt8 => decide (p.1 = x.1)) (edU l)
    have h2 := edU_len l
    simp only [upsOf, List.length_map]; omega
   have hr1 : (rul1 l x.1).length ≤ 1000 := by
    have h1 := List.length_filter_le (fun p : Rul => decide (p.first = x.1)) (grS l)
    simp only [rul1]; omega
   have hr2 : (rul2 l x.1).length ≤ 1000 := by
    have h1 := List.length_filter_le (fun p : Rul => decide (p.second = x.1)) (grS l)
    simp only [rul2]; omega
   obtain ⟨H2, j2, e2, hR2⟩ := l_rec4 s cx hcx [.im (esF 0 (grR l)), .im (esF 1 (grR l)), .im (esF 2 (grR l)), v3] w.length x (by omega) (by omega) z1 (upsOf l x.1) hul (upsOf l x.1) 0 T Q0 H1 rfl hR1 (by omega)
   have hI2 := hI1.adds (L := (upsOf l x.1).map fun r => (r, x.2.1, x.2.2)) fun q hq => by
    obtain ⟨r, hr, rfl⟩ := List.mem_map.1 hq
    simp only [upsOf, List.mem_map, List.mem_filter, decide_eq_true_eq] at hr
    obtain ⟨p, ⟨hp, hpx⟩, rfl⟩ := hr
    exact (dg_closed l w).un p hp _ _ (by rw [hpx]; exact hx)
   have hle2 : LeT T (((upsOf l x.1).map fun r => (r, x.2.1, x.2.2)).foldl addI (T, Q0)).1 := adds_le ((upsOf l x.1).map fun r => ((r, x.2.1, x.2.2) : Item)) (T, Q0)
   have hun : ∀ p ∈ edU l, p.1 = x.1 → (((upsOf l x.1).map fun r => (r, x.2.1, x.2.2)).foldl addI (T, Q0)).1 p.2 x.2.1 x.2.2 = true := fun p hp he =>
    adds_in (L := (upsOf l x.1).map fun r => ((r, x.2.1, x.2.2) : Item)) (st := (T, Q0)) (q := (p.2, x.2.1, x.2.2)) (List.mem_map.2 ⟨p.2, by
     simp only [upsOf, List.mem_map, List.mem_filter, decide_eq_true_eq]
     exact ⟨p, ⟨hp, he⟩, rfl⟩, rfl⟩)
   generalize ((upsOf l x.1).map fun r => ((r, x.2.1, x.2.2) : Item)).foldl addI (T, Q0) = st2 at hR2 hI2 hle2 hun
   obtain ⟨T2, Q2⟩ := st2
   simp only at hR2 hI2 hle2 hun
   obtain ⟨F2, hF2⟩ := hR2.toF
   obtain ⟨H3, j3, F3, T3, Q3, e3, hR3, h3⟩ := l_rec5 l w hw hU s cx hcx [.im (esF 0 (grR l)), .im (esF 1 (grR l)), .im (esF 2 (grR l)), v3] (x :: P) x hx z2 (rul1 l x.1) hr1 (fun y hy => by
    simp only [rul1, List.mem_filter, decide_eq_true_eq] at hy
    exact ⟨mem_grS.1 hy.1, hy.2⟩) (rul1 l x.1) 0 F2 T2 Q2 H2 rfl hF2 hI2
   obtain ⟨H4, j4, F4, T4, Q4, e4, hR4, h4⟩ := l_rec7 l w hw hU s cx hcx [.im (esF 0 (grR l)), .im (esF 1 (grR l)), .im (esF 2 (grR l)), v3] (x :: P) x hx z3 (rul2 l x.1) hr2 (fun y hy => by
    simp only [rul2, List.mem_filter, decide_eq_true_eq] at hy
    exact ⟨mem_grS.1 hy.1, hy.2⟩) (rul2 l x.1) 0 F3 T3 Q3 H3 rfl hR3.hf hR3.hi
   have hD4 : RecD l (x :: P) T4 := RecD.pop (Q := []) hD hI hTx (hle2.trans (hR3.le.trans hR4.le))
    (fun p hp he => hR4.le _ _ _ (hR3.le _ _ _ (hun p hp he)))
    (fun p hp he e hTe => hR4.le _ _ _ (h3 p (by simp only [rul1, List.mem_filter, decide_eq_true_eq]; exact ⟨mem_grS.2 hp, he⟩) e (hle2 _ _ _ hTe)))
    (fun p hp he b hTb => h4 p (by simp only [rul2, List.mem_filter, decide_eq_true_eq]; exact ⟨mem_grS.2 hp, he⟩) b (hR3.le _ _ _ (hle2 _ _ _ hTb)))
   obtain ⟨H', P', T', e5, i1, i2, i3, i4⟩ := ih (x :: P) T4 Q4 H4 (by simp; omega) hR4.hf.toH hR4.hi hD4
   refine ⟨H', P', T', loop_step fun K hK => ?_, i1, i2, i3, (hle2.trans (hR3.le.trans hR4.le)).trans i4⟩
   have hKk : ∀ e t, K e t = K (keepE e [5, 6, 7, 8, 9]) t := fun e t => by rw [hK]; exact loopW_keep _ _ _ _
   rw [← hK] at e5
   have hwm : IntKind.i64.wrap (Q0.length : Int) = Q0.length := w64 (by omega) (by omega)
   have hl2 : cx.lim ≤ s.length + 2 := by omega
   have hb2 : cx.base ≤ s.length + 2 := by omega
   have hq3 : Q0.length * 3 + 3 ≤ qs.length := by omega
   have hq4 : Q0.length * 3 ≤ qs.length := by omega
   clear hK hR hI hD hR1 hI1 hR2 hI2 hle2 hun hF2 hR3 hR4 h3 h4 hD4 i1 i2 i3 i4 ih
   generalize upsOf l x.1 = us at *
   generalize rul1 l x.1 = r1 at *
   generalize rul2 l x.1 = r2 at *
   rw [← e5]
   simp only [Int.ofNat_zero] at e2 e3 e4
   simp [fnAdd] at e2 e3 e4 ⊢
   simp [ir_roles_recognize_L3, p1, p2, p3, p4, hwm, hl2, hb2, hq3, hq4, hH1, f1, f1', f2, f2', f3, f3', e2, e3, e4]
   rw [hKk]; rfl
end Go.Ai.Z
namespace Go.Ai.Z
theorem addRule_len (st : RT × List Rul) (p : Rul) : (addRule st p).2.length ≤ st.2.length + 1 := by
 unfold addRule
 split
 ·omega
 ·simp
theorem addRules_len : ∀ (L : List Rul) (st : RT × List Rul), (L.foldl addRule st).2.length ≤ st.2.length + L.length
 | [], st => by simp
 | p :: L, st => by
  have h1 := addRule_len st p
  have h2 := addRules_len L (addRule st p)
  simp only [List.foldl_cons, List.length_cons]; omega
theorem rulesA_len (x : Ax) : (rulesA x).length = x.roles.length - 1 := by simp [rulesA]
theorem gr_len : ∀ {l : List Ax} (st : RT × List Rul), (∀ x ∈ l, x.kind = 6 → x.roles.length ≤ 4) → (l.foldl grA st).2.length ≤ st.2.length + 3 * l.length
 | [], st, _ => by simp
 | x :: l, st, h => by
  have h2 := gr_len (l := l) (grA st x) fun y hy => h y (by simp [hy])
  have h1 : (grA st x).2.length ≤ st.2.length + 3 := by
   unfold grA
   split
   ·simp
   ·split
    ·simp
    ·split
     ·rename_i h6
      have := h x (by simp) h6
      have := addRules_len ((List.range' 1 (x.roles.length - 1)).map (ruleAt x)) st
      simp only [List.length_map, List.length_range'] at this
      omega
     ·omega
  simp only [List.foldl_cons, List.length_cons]; omega
theorem rules_len : ∀ {l : List Ax}, (∀ x ∈ l, x.kind = 6 → x.roles.length ≤ 4) → (rules l).length ≤ 3 * l.length
 | [], _ => by simp [rules]
 | x :: l, h => by
  have h2 := rules_len (l := l) fun y hy => h y (by simp [hy])
  have e : rules (x :: l) = (if x.kind = 6 then rulesA x else []) ++ rules l := rfl
  rw [e, List.length_append, List.length_cons]
  by_cases h6 : x.kind = 6
  ·have := h x (by simp) h6
   rw [if_pos h6, rulesA_len]; omega
  ·rw [if_neg h6, List.length_nil]; omega
theorem reflA_len (l : List Ax) : (reflA l).length ≤ l.length := List.length_filterMap_le _ _
theorem univ_small {l : List Ax} (hl : l.length ≤ 100) (h4 : ∀ x ∈ l, x.kind = 6 → x.roles.length ≤ 4) {w : List (List UInt8)} (hw : w.length ≤ 8) : (univ l w).length ≤ 90000 := by
 have h1 := rules_len h4
 have h2 := reflA_len l
 have h3 := edU_len l
 rw [univ_len]
 have h5 : (syms l w).length ≤ 508 := by simp only [syms, List.length_append, List.length_map]; omega
 have h6 : (w.length + 1) * (w.length + 1) ≤ 81 := by
  have := Nat.mul_le_mul (show w.length + 1 ≤ 9 by omega) (show w.length + 1 ≤ 9 by omega)
  omega
 have := Nat.mul_le_mul h5 h6
 omega
theorem wItems_spec {w : List (List UInt8)} : ∀ {rest : List (List UInt8)} {i : Nat}, w.drop i = rest → ∀ q ∈ wItems i rest, ∃ r k, w[k]? = some r ∧ q = (r, k, k + 1)
 | [], i, _, q, hq => by cases hq
 | r :: rest, i, h, q, hq => by
  obtain ⟨g1, g2, g3, g4⟩ := drop_cons h
  simp only [wItems, List.mem_cons] at hq
  rcases hq with rfl | hq
  ·exact ⟨r, i, by rw [List.getElem?_eq_getElem g3, g4 g3], rfl⟩
  ·exact wItems_spec g2 q hq
theorem wItems_in {w : List (List UInt8)} : ∀ {rest : List (List UInt8)} {i k : Nat} {r : List UInt8}, w.drop i = rest → i ≤ k → w[k]? = some r → (r, k, k + 1) ∈ wItems i rest
 | [], i, k, r, h, hk, hr => by
  have h1 := drop_nil h
  have h2 := (List.getElem?_eq_some_iff.1 hr).1
  omega
 | r0 :: rest, i, k, r, h, hk, hr => by
  obtain ⟨g1, g2, g3, g4⟩ := drop_cons h
  simp only [wItems, List.mem_cons]
  by_cases hik : i = k
  ·subst hik
   rw [List.getElem?_eq_getElem g3, g4 g3] at hr
   cases hr; exact .inl rfl
  ·exact .inr (wItems_in g2 (by omega) hr)
theorem mem_rItems (r : List UInt8) : ∀ {c i : Nat} {q : Item}, q ∈ rItems r i c ↔ ∃ k, i ≤ k ∧ k < i + c ∧ q = (r, k, k)
 | 0, i, q => by
  simp only [rItems, List.not_mem_nil, false_iff]
  rintro ⟨k, h1, h2, _⟩; omega
 | c + 1, i, q => by
  simp only [rItems, List.mem_cons, mem_rItems r (c := c) (i := i + 1)]
  constructor
  ·rintro (rfl | ⟨k, h1, h2, rfl⟩)
   ·exact ⟨i, by omega, by omega, rfl⟩
   ·exact ⟨k, by omega, by omega, rfl⟩
  ·rintro ⟨k, h1, h2, rfl⟩
   by_cases h : k = i
   ·subst h; exact .inl rfl
   ·exact .inr ⟨k, by omega, by omega, rfl⟩
theorem rec_start {l : List Ax} {w : List (List UInt8)} {st1 st2 : TB × List Item} (h1 : st1 = (wItems 0 w).foldl addI (fun _ _ _ => false, [])) (h2 : st2 = ((reflA l).flatMap fun r => rItems r 0 (w.length + 1)).foldl addI st1) :
  RecI l w [] st2.1 st2.2 ∧ (∀ i r, w[i]? = some r → st2.1 r i (i + 1) = true) ∧ (∀ r ∈ reflA l, ∀ i, i ≤ w.length → st2.1 r i i = true) := by
 have i0 : RecI l w [] (fun _ _ _ => false) [] := ⟨fun r i j => by simp, by simp, fun q hq => by cases hq⟩
 have i1 := i0.adds (L := wItems 0 w) fun q hq => by
  obtain ⟨r, k, hr, rfl⟩ := wItems_spec (w := w) rfl q hq
  exact (dg_closed l w).word k r hr
 rw [← h1] at i1
 have i2 := i1.adds (L := (reflA l).flatMap fun r => rItems r 0 (w.length + 1)) fun q hq => by
  obtain ⟨r, hr, hq⟩ := List.mem_flatMap.1 hq
  obtain ⟨k, _, hk, rfl⟩ := (mem_rItems r).1 hq
  exact (dg_closed l w).refl r hr k (by omega)
 rw [show (st1.1, st1.2) = st1 from rfl, ← h2] at i2
 refine ⟨i2, fun i r hr => ?_, fun r hr i hi => ?_⟩
 ·rw [h2]
  refine adds_le _ st1 _ _ _ ?_
  rw [h1]
  exact adds_in (q := (r, i, i + 1)) (wItems_in (w := w) rfl (Nat.zero_le _) hr)
 ·rw [h2]
  exact adds_in (q := (r, i, i)) (List.mem_flatMap.2 ⟨r, hr, (mem_rItems r).2 ⟨i, by omega, by omega, rfl⟩⟩)
theorem mapM_one {F : AV → Option AV} : ∀ {cs : List AV}, (∀ c ∈ cs, F c = some c) → cs.mapM F = some cs
 | [], _ => rfl
 | c :: cs, h => by
  simp only [List.mapM_cons, h c (by simp), mapM_one fun d hd => h d (List.mem_cons_of_mem c hd)]; rfl
theorem frz1_b (S : St) (n m : Nat) (b : Bool) : frz1 S n (m + 1) (.b b) = some (.b b) := by simp [frz1]
theorem cells_b {cs : List AV} (hl : cs.length = 4225) {f : Nat → Nat → Bool} (h : ∀ i j, i ≤ 64 → j ≤ 64 → cs[i * 65 + j]? = some (.b (f i j))) : ∀ c ∈ cs, ∃ b, c = .b b := by
 intro c hc
 obtain ⟨k, hk⟩ := List.mem_iff_getElem?.1 hc
 have hkl := (List.getElem?_eq_some_iff.1 hk).1
 have := h (k / 65) (k % 65) (by omega) (by omega)
 rw [show k / 65 * 65 + k % 65 = k by omega, hk] at this
 exact ⟨_, by cases this; rfl⟩
theorem frz_ents {S : St} {n m : Nat} : ∀ {es : List (AV × AV)}, (∀ p ∈ es, ∃ k a cs, p.1 = AV.s k ∧ p.2 = .pt a 0 ∧ n ≤ a ∧ S[a]? = some (.cells cs) ∧ ∀ c ∈ cs, ∃ b, c = AV.b b) →
  ∃ es', es.mapM (frzP (frz1 S n (m + 2))) = some es' ∧ ∀ k, (find 1 (.s k) es = some none → find 1 (.s k) es' = some none) ∧ ∀ a, find 1 (.s k) es = some (some (.pt a 0)) → ∃ cs, S[a]? = some (.cells cs) ∧ find 1 (.s k) es' = some (some (.ip cs))
 | [], _ => ⟨[], rfl, fun k => ⟨fun h => h, fun a h => by simp [find] at h⟩⟩
 | (x, y) :: es, h => by
  obtain ⟨k0, a0, cs0, h1, h2, h3, h4, h5⟩ := h (x, y) (by simp)
  simp only at h1 h2
  subst h1; subst h2
  obtain ⟨es', e1, e2⟩ := frz_ents (m := m) (S := S) (n := n) (es := es) fun p hp => h p (by simp [hp])
  have f1 : frz1 S n (m + 2) (.s k0) = some (.s k0) := by simp [frz1]
  have hu : (AV.pt a0 0).under n = false := by simp [AV.under]; omega
  have f2 : frz1 S n (m + 2) (.pt a0 0) = some (.ip cs0) := by
   rw [frz1, if_neg (by rw [hu]; exact Bool.false_ne_true)]
   simp only [h4]
   rw [mapM_one fun c hc => by obtain ⟨b, rfl⟩ := h5 c hc; exact frz1_b S n m b]
   rfl
  refine ⟨(.s k0, .ip cs0) :: es', by simp only [List.mapM_cons, frzP, f1, f2, e1]; rfl, fun k => ?_⟩
  by_cases hk : k = k0
  ·subst hk
   refine ⟨fun hh => by simp [find, keyEq] at hh, fun a hh => ?_⟩
   simp [find, keyEq] at hh
   subst hh
   exact ⟨cs0, h4, by simp [find, keyEq]⟩
  ·refine ⟨fun hh => ?_, fun a hh => ?_⟩
   ·simp [find, keyEq, hk] at hh
    simp [find, keyEq, hk, (e2 k).1 hh]
   ·simp [find, keyEq, hk] at hh
    obtain ⟨cs, q1, q2⟩ := (e2 k).2 a hh
    exact ⟨cs, q1, by simp [find, keyEq, hk, q2]⟩
def TabOK (es : List (AV × AV)) (T : List UInt8 → Nat → Nat → Prop) : Prop :=
 ∀ role, (find 1 (.s role) es = some none ∧ ∀ f t, ¬ T role f t) ∨ ∃ cs, find 1 (.s role) es = some (some (.ip cs)) ∧ cs.length = 4225 ∧ ∀ f t, f ≤ 64 → t ≤ 64 → ∃ b, cs[f * 65 + t]? = some (.b b) ∧ (b = true ↔ T role f t)
theorem rec_frz {s : St} {T : TB} {H : St} (h : RecH s T [] H) {D : List UInt8 → Nat → Nat → Prop} (hD : ∀ r i j, T r i j = true ↔ D r i j) : ∃ es', frz H s.length (.mp s.length) = some (.im es') ∧ TabOK es' D ∧ H[s.length + 1]? = some (.cells [.mp s.length]) ∧ s.length < H.length ∧ H.take s.length = s := by
 obtain ⟨es, q, rest, rfl, hR, hq⟩ := h
 have hu : (AV.mp s.length).under s.length = false := by simp [AV.under]
 obtain ⟨es', e1, e2⟩ := frz_ents (S := s ++ .map es :: .cells [.mp s.length] :: .cells [q] :: rest) (n := s.length) (m := 3) (es := es) fun p hp => by
  obtain ⟨k, h1, h2⟩ := hR.str.entry hp
  rcases hR.at_ k with ⟨h3, _⟩ | ⟨x, cs, h3, h4, h5, h6, h7⟩
  ·rw [h3] at h2; cases h2
  ·rw [h3] at h2
   simp only [Option.some.injEq] at h2
   exact ⟨k, s.length + 3 + x, cs, h1, h2.symm, by omega, by rw [st3_r, h5], cells_b h6 h7⟩
 refine ⟨es', ?_, fun role => ?_, by simp, by simp, by simp⟩
 ·unfold frz
  rw [if_neg (by rw [hu]; exact Bool.false_ne_true), show (6 : Nat) = 5 + 1 from rfl, frz1_mp hu (es := es) (by simp), e1]; rfl
 ·rcases hR.at_ role with ⟨h3, h4⟩ | ⟨x, cs, h3, h4, h5, h6, h7⟩
  ·refine .inl ⟨(e2 role).1 h3, fun f t hd => ?_⟩
   have := (hD role f t).2 hd
   rw [h4] at this; cases this
  ·obtain ⟨cs', q1, q2⟩ := (e2 role).2 _ h3
   rw [st3_r, h5] at q1
   cases q1
   exact .inr ⟨cs, q2, h6, fun f t hf ht => ⟨T role f t, h7 f t hf ht, hD role f t⟩⟩
theorem c_roles_recognize (z : Bool) (l : List Ax) (hl : l.length ≤ 100) (hG : GrOK l) (zw : Bool) (w : List (List UInt8)) (hw : w.length ≤ 8) (s : St) (cx : Ctx) (hcx : cx.lim ≤ s.length) :
  ∃ es, acallW P0 (.fn (.func F_roles_recognize) [] []) [slf z (l.map encA), slf zw (w.map .s)] s cx = .ret (.im es) s ∧ TabOK es (DG l w) := by
 have h4 : ∀ x ∈ l, x.kind = 6 → x.roles.length ≤ 4 := fun x hx h6 => (hG.two x hx h6).2
 have hU := univ_small hl h4 hw
 have hgs : (grS l).length ≤ 1000 := by
  have := gr_len (l := l) ([], []) h4
  simp only [grS, List.length_nil] at this ⊢
  omega
 have c1 := c_roles_newGrammar z l (by omega) hG
 have hrl : (reflA l).length ≤ 1000 := by have := reflA_len l; omega
 obtain ⟨z3, hz3⟩ : ∃ z3, encG l = .ag [.im (esF 0 (grR l)), .im (esF 1 (grR l)), .im (esF 2 (grR l)), slf z3 ((reflA l).map .s)] := by
  have := val_3 l ([], [])
  rw [show valT 3 (([] : RT), ([] : List Rul)).1 [] = [] from rfl, List.nil_append] at this
  have hv : valT 3 (grR l) [] = (reflA l).map .s := this
  unfold encG
  rw [hv]
  cases (reflA l).map AV.s with
  | nil => exact ⟨true, rfl⟩
  | cons a r => exact ⟨true, rfl⟩
 have hc : (⟨cx.lim, s.length⟩ : Ctx).lim ≤ s.length ∧ (⟨cx.lim, s.length⟩ : Ctx).base ≤ s.length := ⟨hcx, Nat.le_refl _⟩
 obtain ⟨H1, j1, e1, r1⟩ := l_rec0 s ⟨cx.lim, s.length⟩ hc [.im (esF 0 (grR l)), .im (esF 1 (grR l)), .im (esF 2 (grR l)), slf z3 ((reflA l).map .s)] zw w (by omega) w.length w 0 _ _ _ rfl (recH_nil s) (by simp; omega)
 generalize hs1 : (wItems 0 w).foldl addI (fun _ _ _ => false, []) = st1 at e1 r1
 have hl1 : st1.2.length ≤ 8 := by
  have := addI_fold_len (wItems 0 w) (fun _ _ _ => false, [])
  rw [hs1] at this
  have hwl : ∀ (w : List (List UInt8)) (i : Nat), (wItems i w).length = w.length := by
   intro w
   induction w with
   | nil => intro i; rfl
   | cons a w ih => intro i; simp [wItems, ih]
  rw [hwl] at this
  simp at this; omega
 obtain ⟨H2, j2, e2, r2⟩ := l_rec1 s ⟨cx.lim, s.length⟩ hc [.im (esF 0 (grR l)), .im (esF 1 (grR l)), .im (esF 2 (grR l)), slf z3 ((reflA l).map .s)] w.length (by omega) z3 (reflA l) hrl (reflA l) 0 st1.1 st1.2 H1 rfl r1 (by have := reflA_len l; omega)
 generalize hs2 : ((reflA l).flatMap fun r => rItems r 0 (w.length + 1)).foldl addI (st1.1, st1.2) = st2 at e2 r2
 obtain ⟨i1, i2, i3⟩ := rec_start (l := l) (w := w) hs1.symm hs2.symm
 obtain ⟨H3, P', T', e3, k1, k2, k3, k4⟩ := l_rec3 l (by omega) hgs w (by omega) hU s ⟨cx.lim, s.length⟩ hc (slf z3 ((reflA l).map .s)) (univ l w).length [] st2.1 st2.2 H2 (by simp) r2 i1 ⟨(fun x hx => by cases hx), fun x hx => by cases hx⟩
 have hT : ∀ r i j, T' r i j = true ↔ DG l w r i j := fun r i j => rec_end k2 k3 (fun i r hr => k4 _ _ _ (i2 i r hr)) (fun r hr i hi => k4 _ _ _ (i3 r hr i hi))
 obtain ⟨es', f1, f2, f3, f4, f5⟩ := rec_frz k1 hT
 refine ⟨es', ?_, f2⟩
 refine go_roles_recognize (by simp) ?_
 rw [hz3] at c1
 have hne : ¬ H3.length = s.length := by omega
 clear k1 k2 k3 k4 r1 r2 i1 i2 i3 hT f2 hU hG h4 hs1 hs2
 simp [fnAdd] at e1 e2 e3
 simp [callFnW, ir_roles_recognize, c1, e1, e2, hcx, show cx.lim ≤ s.length + 1 by omega]
 rw [loopW_keep]
 simp [e3, f1, f3, f5, hne]
end Go.Ai.Z
namespace Go.Ai.Z
theorem tail_nodot : ∀ {l : List UInt8}, tailS l = true → NoDot l
 | [], _ => by simp [NoDot]
 | b :: r, h => by
  rw [tailS_cons, Bool.and_eq_true] at h
  have ih := tail_nodot h.2
  simp only [NoDot, List.mem_cons, not_or] at ih ⊢
  refine ⟨?_, ih⟩
  rintro rfl
  have : innB 46 = false := by decide
  rw [this] at h; exact absurd h.1 (by decide)
theorem word_nodot {l : List UInt8} (h : wordS l = true) : NoDot l := by
 simp only [wordS, Bool.and_eq_true] at h
 exact tail_nodot h.1.2
theorem nm_nodot {l : List UInt8} (h : nmOK l = true) : NoDot l := by
 simp only [nmOK, Bool.or_eq_true] at h
 rcases h with h | h
 ·simp only [plainS, Bool.and_eq_true] at h
  obtain ⟨_, h⟩ := h
  cases hc : cutB 58 l with
  | none => rw [hc] at h; exact word_nodot h
  | some p =>
   obtain ⟨x, y⟩ := p
   rw [hc] at h
   simp only [Bool.and_eq_true] at h
   have h1 := word_nodot h.1
   have h2 := word_nodot h.2
   rw [cutB_len hc]
   simp only [NoDot, List.mem_append, List.mem_cons, not_or] at h1 h2 ⊢
   exact ⟨h1, by decide, h2⟩
 ·simp only [resS, Bool.and_eq_true] at h
  exact tail_nodot h.2
theorem plain_nm {l : List UInt8} (h : plainS l = true) : nmOK l = true := by simp [nmOK, h]
theorem allPlain_mem : ∀ {l : List (List UInt8)}, allPlain l = true → ∀ r ∈ l, plainS r = true
 | [], _, r, hr => by cases hr
 | a :: l, h, r, hr => by
  simp only [allPlain, Bool.and_eq_true] at h
  rcases List.mem_cons.1 hr with rfl | hr
  ·exact h.1
  ·exact allPlain_mem h.2 r hr
theorem check_parts {x : Ax} (h : checkAS x = 0) : shapedS x = true ∧ namedU x (useS x.kind) = true := by
 unfold checkAS at h
 split at h
 ·cases h
 ·rename_i h1
  split at h
  ·cases h
  ·rename_i h2
   exact ⟨by simpa using h1, by simpa using h2⟩
theorem use567 {x : Ax} (hk : x.kind = 5 ∨ x.kind = 6 ∨ x.kind = 7) : (useS x.kind).role = true := by
 rcases hk with h | h | h <;> simp [useS, h]
theorem role_nm {x : Ax} (h : checkAS x = 0) (hk : x.kind = 5 ∨ x.kind = 6 ∨ x.kind = 7) : nmOK x.role = true := by
 have h1 := (check_parts h).2
 have h2 := use567 hk
 simp only [namedU, Bool.and_eq_true, h2, Bool.not_true, Bool.false_or] at h1
 exact plain_nm h1.1.1.1
theorem roles_nm {x : Ax} (h : checkAS x = 0) : ∀ r ∈ x.roles, nmOK r = true := by
 have h1 := (check_parts h).2
 simp only [namedU, Bool.and_eq_true] at h1
 exact fun r hr => plain_nm (allPlain_mem h1.2 r hr)
theorem two_of {x : Ax} (h : checkAS x = 0) (h6 : x.kind = 6) : 2 ≤ x.roles.length ∧ x.roles.length ≤ 4 := by
 have hs := (check_parts h).1
 simp [shapedS, kindOK, h6, useS] at hs
 omega
theorem grOK_of {l : List Ax} (h : chkL l = 0) (hx : ∀ x ∈ l, x.Few) : GrOK l :=
 ⟨hx, one5_all h, fun x hxl h6 => two_of (chkL_mem h x hxl) h6⟩
theorem namesOK_of {l : List Ax} (h : chkL l = 0) : NamesOK l where
 one := one5_all h
 two := fun x hx h6 => (two_of (chkL_mem h x hx) h6).1
 role := fun x hx hk => nm_nodot (role_nm (chkL_mem h x hx) hk)
 roles := fun x hx hk r hr => nm_nodot (roles_nm (chkL_mem h x hx) r hr)
def wordE (l : List Ax) (w : List (List UInt8)) (role : List UInt8) : Int := if chkL l = 0 then (if (role :: w).all nmOK = true then 0 else 20) else chkL l
open Classical in
noncomputable def wordV (l : List Ax) (w : List (List UInt8)) (role : List UInt8) : Bool := decide (chkL l = 0 ∧ (role :: w).all nmOK = true ∧ Drv l w role 0 w.length)
open Classical in
theorem wordV_iff {l : List Ax} {w : List (List UInt8)} {role : List UInt8} : wordV l w role = true ↔ chkL l = 0 ∧ (role :: w).all nmOK = true ∧ Drv l w role 0 w.length := by
 unfold wordV; exact decide_eq_true_iff
theorem tab_at {l : List Ax} (h0 : chkL l = 0) {w : List (List UInt8)} (hw : ∀ r ∈ w, nmOK r = true) {es : List (AV × AV)} (hT : TabOK es (DG l w)) {role : List UInt8} (hr : nmOK role = true) {i j : Nat} (hi : i ≤ 64) (hj : j ≤ 64) :
  (find 1 (.s role) es = some none ∧ ¬ Drv l w role i j) ∨ ∃ cs b, find 1 (.s role) es = some (some (.ip cs)) ∧ cs.length = 4225 ∧ cs[i * 65 + j]? = some (.b b) ∧ (b = true ↔ Drv l w role i j) := by
 have hd : ∀ i j, DG l w role i j ↔ Drv l w role i j := fun i j => dg_iff (namesOK_of h0) (fun r hr => nm_nodot (hw r hr)) (nm_nodot hr)
 rcases hT role with ⟨h1, h2⟩ | ⟨cs, h1, h2, h3⟩
 ·exact .inl ⟨h1, fun hh => h2 i j ((hd i j).2 hh)⟩
 ·obtain ⟨b, h4, h5⟩ := h3 i j hi hj
  exact .inr ⟨cs, b, h1, h2, h4, by rw [h5, hd]⟩
theorem c_roles_Word8 (z : Bool) (l : List Ax) (hl : l.length ≤ 100) (hx : ∀ x ∈ l, x.Few) (zw : Bool) (w : List (List UInt8)) (hw : w.length ≤ 8) (hwx : ∀ r ∈ w, r.length ≤ 1000000) (role : List UInt8) (hr : role.length ≤ 1000000) (s : St) (cx : Ctx) :
  acallW P0 (.fn (.func F_roles_Word) [] []) [slf z (l.map encA), slf zw (w.map .s), .s role] s cx = .ret (.tu [.b (wordV l w role), .i .i64 (wordE l w role)]) s := by
 have e1 := c_roles_checkAll z l (by omega) hx (role :: w) (by simp; omega) (fun x hx => by
  rcases List.mem_cons.1 hx with rfl | hx
  ·omega
  ·have := hwx x hx; omega)
 refine go_roles_Word (by simp) ?_
 have hm : 1 + w.length ≤ maxSl := by unfold maxSl; omega
 have w64' : ¬ (64 : Int) < w.length := by omega
 simp only [List.map_cons] at e1
 by_cases h0 : chkL l = 0
 ·by_cases h1 : (role :: w).all nmOK = true
  ·have a2 : wordE l w role = 0 := by simp only [wordE, h0, h1, if_true]
   simp only [h0, h1, if_true] at e1
   obtain ⟨es, e2, hT⟩ := c_roles_recognize z l hl (grOK_of h0 hx) zw w hw s ⟨s.length, s.length⟩ (Nat.le_refl _)
   have hall := List.all_eq_true.1 h1
   rw [a2]
   have w1 : w.length < 65 := by omega
   have w2 : (w.length : Int) < 65 := by omega
   rcases tab_at h0 (fun r hr => hall r (by simp [hr])) hT (hall role (by simp)) (Nat.zero_le 64) (show w.length ≤ 64 by omega) with ⟨f1, f2⟩ | ⟨cs, b, f1, f2, f3, f4⟩
   ·have a1 : wordV l w role = false := by
     cases hv : wordV l w role with
     | false => rfl
     | true => exact absurd (wordV_iff.1 hv).2.2 f2
    rw [a1]
    clear hT hall
    simp [callFnW, ir_roles_Word, e1, e2, hm, w64', f1, nilK]
   ·have a1 : wordV l w role = b := by
     cases b with
     | true => exact wordV_iff.2 ⟨h0, h1, f4.1 rfl⟩
     | false =>
      cases hv : wordV l w role with
      | false => rfl
      | true => exact absurd (f4.2 (wordV_iff.1 hv).2.2) (by simp)
    rw [a1]
    rw [Nat.zero_mul, Nat.zero_add] at f3
    clear hT hall f4
    simp [callFnW, ir_roles_Word, e1, e2, hm, w64', f1, f3, w1, w2, nilK]
  ·have a1 : wordV l w role = false := by
    cases hv : wordV l w role with
    | false => rfl
    | true => exact absurd (wordV_iff.1 hv).2.1 h1
   have a2 : wordE l w role = 20 := by simp only [wordE, h0, h1, if_true]; rfl
   rw [a1, a2]
   simp only [h0, h1, if_true] at e1
   simp [callFnW, ir_roles_Word, e1, hm]
 ·have a1 : wordV l w role = false := by
   cases hv : wordV l w role with
   | false => rfl
   | true => exact absurd (wordV_iff.1 hv).1 h0
  have a2 : wordE l w role = chkL l := by simp only [wordE, h0, if_false]
  rw [a1, a2]
  simp only [h0, if_false] at e1
  simp [callFnW, ir_roles_Word, e1, hm, h0]
theorem c_roles_Word (z : Bool) (l : List Ax) (hl : l.length ≤ 100) (hx : ∀ x ∈ l, x.Few) (zw : Bool) (w : List (List UInt8)) (hw : w.length ≤ 7) (hwx : ∀ r ∈ w, r.length ≤ 1000) (role : List UInt8) (hr : role.length ≤ 1000) (s : St) (cx : Ctx) :
  acallW P0 (.fn (.func F_roles_Word) [] []) [slf z (l.map encA), slf zw (w.map .s), .s role] s cx = .ret (.tu [.b (wordV l w role), .i .i64 (wordE l w role)]) s :=
 c_roles_Word8 z l hl hx zw w (by omega) (fun r h => by have := hwx r h; omega) role (by omega) s cx
end Go.Ai.Z
