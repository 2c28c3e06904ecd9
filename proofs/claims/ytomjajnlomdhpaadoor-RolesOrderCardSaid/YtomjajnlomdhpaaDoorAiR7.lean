/-
  The law of the order of roles.
-/
import Derived.Test.YtomjajnlomdhpaaDoorAiR5
set_option maxRecDepth 100000
set_option linter.unusedSimpArgs false
set_option linter.unusedVariables false
namespace Go.Ai.Z

theorem l_law06_has (z : Bool) (l : List (List UInt8)) (x : List UInt8) (hl : l.length ≤ 1000000) (s : St) (cx : Ctx) :
    ∀ (rest : List (List UInt8)) (i : Nat), l.drop i = rest →
    ∃ j : Int, loopW (acodeW P0.glob (acallW P0) cx false ir_law06_has_L0) [0, 1, 5] [(0, .v (slf z (l.map .s))), (1, .v (.s x)), (5, .v (.i .i64 i))] s =
      if x ∈ rest then .ret [(4, .v (.b true))] s else .exit 0 [(0, .v (slf z (l.map .s))), (1, .v (.s x)), (5, .v (.i .i64 j)), (9, .v (.b false))] s
  | [], i, h => by
    have h1 : ¬ i < l.length := Nat.not_lt.2 (drop_nil h)
    refine ⟨i, loop_step fun K hK => ?_⟩
    simp [ir_law06_has_L0, h1]
  | p :: r, i, h => by
    obtain ⟨h1, h2, h3, h4⟩ := drop_cons h
    have h5 := h4 h3
    have hw := wI (i := i) (by omega)
    by_cases hp : p = x
    · refine ⟨0, loop_step fun K hK => ?_⟩
      clear h4
      simp [ir_law06_has_L0, h3, h5, hw, hp]
    · obtain ⟨j, ih⟩ := l_law06_has z l x hl s cx r (i + 1) h2
      have hp' : ¬ x = p := fun h => hp h.symm
      refine ⟨j, loop_step fun K hK => ?_⟩
      rw [← hK, show ((i + 1 : Nat) : Int) = (i : Int) + 1 from rfl] at ih
      clear hK h4
      try simp at ih
      simp [ir_law06_has_L0, h3, h5, hw, hp, hp', ih]
theorem c_law06_has (l : List (List UInt8)) (x : List UInt8) (hl : l.length ≤ 1000000) (s : St) (cx : Ctx) : acallW P0 (.fn (.func F_law06_has) [] []) [.sl (l.map .s), .s x] s cx = .ret (.b (decide (x ∈ l))) s := by
  obtain ⟨j, h⟩ := l_law06_has false l x hl s ⟨s.length, s.length⟩ l 0 rfl
  refine go_law06_has (by simp) ?_
  simp at h
  by_cases hx : x ∈ l <;> simp [callFnW, ir_law06_has, h, hx]

theorem l_order0 (z : Bool) (l : List Ax) (r s' t : List UInt8) (x y : List (List UInt8)) (hx : Srt x) (hl : x.length ≤ 1000) (s : St) (cx : Ctx) :
    ∀ (rest : List (List UInt8)) (k : Nat), x.drop (k + 1) = rest →
    ∃ j : Int, loopW (acodeW P0.glob (acallW P0) cx false ir_law06_RolesOrder_L0) [0, 1, 2, 3, 9, 11, 13] [(0, .v (slf z (l.map encA))), (1, .v (.s r)), (2, .v (.s s')), (3, .v (.s t)), (9, .v (.sl (x.map .s))), (11, .v (.sl (y.map .s))), (13, .v (.i .i64 ((k : Int) + 1)))] s =
      .exit 0 [(0, .v (slf z (l.map encA))), (1, .v (.s r)), (2, .v (.s s')), (3, .v (.s t)), (9, .v (.sl (x.map .s))), (11, .v (.sl (y.map .s))), (13, .v (.i .i64 j)), (56, .v (.b false))] s
  | [], k, h => by
    have h1 : ¬ ((k : Int) + 1 < x.length) := by have := drop_nil h; omega
    refine ⟨(k : Int) + 1, loop_step fun K hK => ?_⟩
    simp [ir_law06_RolesOrder_L0, h1]
  | p :: rest, k, h => by
    obtain ⟨g1, g2, g3, g4⟩ := drop_cons h
    have g5 := g4 g3
    have g6 : k < x.length := by omega
    have hw := wI (i := k) (by omega)
    have hw1 := wI (i := k + 1) (by omega)
    have hlt : x[k] < x[k + 1] := List.pairwise_iff_getElem.1 hx k (k + 1) g6 g3 (by omega)
    have c1 : ((k : Int) + 1 < x.length) := by omega
    have c0 : (0 : Int) ≤ (k : Int) + 1 := by omega
    have c2 : ((k : Int) + 1).toNat = k + 1 := by omega
    have c3 : IntKind.i64.wrap (k : Int) = k := by
      unfold IntKind.wrap; simp [IntKind.bits, IntKind.signed]; omega
    have hn1 : ¬ x[k + 1] < x[k] := fun h => List.lt_irrefl _ (List.lt_trans hlt h)
    have hn2 : ¬ x[k + 1] = x[k] := fun h => List.lt_irrefl x[k] (by rw [h] at hlt; exact hlt)
    obtain ⟨j, ih⟩ := l_order0 z l r s' t x y hx hl s cx rest (k + 1) g2
    refine ⟨j, loop_step fun K hK => ?_⟩
    rw [← hK, show ((k + 1 : Nat) : Int) = (k : Int) + 1 from rfl] at ih
    rw [show ((k + 1 : Nat) : Int) = (k : Int) + 1 from rfl] at hw1
    clear hK g4
    simp [ir_law06_RolesOrder_L0, g3, g6, hw, hw1, c0, c1, c2, c3, hn1, hn2, bytesLess_lt, ih]

theorem l_order1 (z : Bool) (l : List Ax) (hl : l.length ≤ 1000) (h5 : One5 l) (r s' t : List UInt8) (x y : List (List UInt8)) (hx : x.length ≤ 1000) (hc : ∀ p ∈ edU l, p.1 ∈ x → p.2 ∈ x) (s : St) (cx : Ctx) :
    ∀ (rest : List Ax) (i : Nat), l.drop i = rest →
    ∃ j : Int, loopW (acodeW P0.glob (acallW P0) cx false ir_law06_RolesOrder_L1) [0, 1, 2, 3, 9, 11, 14] [(0, .v (slf z (l.map encA))), (1, .v (.s r)), (2, .v (.s s')), (3, .v (.s t)), (9, .v (.sl (x.map .s))), (11, .v (.sl (y.map .s))), (14, .v (.i .i64 i))] s =
      .exit 2 [(0, .v (slf z (l.map encA))), (1, .v (.s r)), (2, .v (.s s')), (3, .v (.s t)), (9, .v (.sl (x.map .s))), (11, .v (.sl (y.map .s))), (14, .v (.i .i64 j)), (72, .v (.b false))] s
  | [], i, h => by
    have h1 : ¬ i < l.length := Nat.not_lt.2 (drop_nil h)
    refine ⟨i, loop_step fun K hK => ?_⟩
    simp [ir_law06_RolesOrder_L1, h1]
  | p :: rest, i, h => by
    obtain ⟨g1, g2, g3, g4⟩ := drop_cons h
    have g5 := g4 g3
    have hwi := wI (i := i) (by omega)
    have hp : p ∈ l := by rw [← g5]; exact List.getElem_mem g3
    obtain ⟨j, ih⟩ := l_order1 z l hl h5 r s' t x y hx hc s cx rest (i + 1) g2
    refine ⟨j, loop_step fun K hK => ?_⟩
    rw [← hK, show ((i + 1 : Nat) : Int) = (i : Int) + 1 from rfl] at ih
    clear hK g4
    by_cases hk : p.kind = 5
    · obtain ⟨r0, hr0⟩ := h5 p hp hk
      have hin : (r0, p.role) ∈ edU l := by
        simp only [edU, List.mem_filterMap]
        exact ⟨p, hp, by simp [hk, hr0]⟩
      have hcl := hc _ hin
      have e1 := c_law06_has x r0 (by omega)
      have e2 := c_law06_has x p.role (by omega)
      clear hc h5
      by_cases hm : r0 ∈ x
      · have hm2 := hcl hm
        simp [ir_law06_RolesOrder_L1, g3, g5, hwi, hk, hr0, e1, e2, hm, hm2, ih]
      · simp [ir_law06_RolesOrder_L1, g3, g5, hwi, hk, hr0, e1, e2, hm, ih]
    · clear hc h5
      simp [ir_law06_RolesOrder_L1, g3, g5, hwi, hk, ih]

theorem up_closed {l : List Ax} {r : List UInt8} : ∀ p ∈ edU l, p.1 ∈ upS l r → p.2 ∈ upS l r := fun p hp h => by
  rw [mem_upS] at h ⊢; exact .step h hp
theorem up_self (l : List Ax) (r : List UInt8) : r ∈ upS l r := mem_upS.2 (.refl _)
theorem up_trans {l : List Ax} {r s t : List UInt8} (h1 : s ∈ upS l r) (h2 : t ∈ upS l s) : t ∈ upS l r := by
  rw [mem_upS] at h1 h2 ⊢; exact h1.trans h2
theorem simple_up {l : List Ax} {r s : List UInt8} (h0 : chkL l = 0) (hr : nmOK r = true) (h : s ∈ upS l r) (hn : simpS l r = false) : simpS l s = false := by
  cases hs : simpS l s with
  | false => rfl
  | true =>
    exfalso
    simp only [simpS, Bool.and_eq_true, List.all_eq_true] at hs
    have : simpS l r = true := by
      simp only [simpS, h0, hr, Bool.and_eq_true, List.all_eq_true]
      refine ⟨⟨by simp, trivial⟩, fun x hx => ?_⟩
      have := hs.2 x hx
      simp only [badS, Bool.not_eq_true', Bool.and_eq_false_iff, decide_eq_false_iff_not] at this ⊢
      rcases this with h1 | h1
      · exact .inl h1
      · exact .inr fun h2 => h1 (up_trans h2 h)
    rw [this] at hn; cases hn

theorem c_order_law (z : Bool) (l : List Ax) (hl : l.length ≤ 1125899906842624) (hx : ∀ x ∈ l, x.Ok) (r s t : List UInt8) (hr : r.length ≤ 1125899906842624) (hs' : s.length ≤ 1125899906842624) (ht : t.length ≤ 1125899906842624)
    (hs : acallW P0 (.fn (.func F_law06_sane) [] []) [] [] ⟨0, 0⟩ = .ret (.b true) []) (cx : Ctx) :
    acallW P0 (.fn (.func F_law06_RolesOrder) [] []) [slf z (l.map encA), .s r, .s s, .s t] [] cx = .ret (.b true) [] := by
  obtain ⟨b, e1, hb⟩ := c_law06_few z l hl hx
  refine go_law06_RolesOrder (by simp) ?_
  cases b with
  | false => simp [callFnW, ir_law06_RolesOrder, hs, e1]
  | true =>
    obtain ⟨h12, hf⟩ := hb rfl
    have w1 : IntKind.i64.wrap ((r.length : Int) + s.length) = (r.length : Int) + s.length := by
      unfold IntKind.wrap; simp [IntKind.bits, IntKind.signed]; omega
    have w2 : IntKind.i64.wrap ((r.length : Int) + s.length + t.length) = (r.length : Int) + s.length + t.length := by
      unfold IntKind.wrap; simp [IntKind.bits, IntKind.signed]; omega
    by_cases hb' : (100 : Int) < (r.length : Int) + s.length + t.length
    · simp [callFnW, ir_law06_RolesOrder, hs, e1, w1, w2, hb']
    · have e2 := c_roles_Above z l (by omega) hf r (by omega)
      have e3 := c_roles_Above z l (by omega) hf s (by omega)
      by_cases hv : chkL l = 0 ∧ nmOK r = true ∧ nmOK s = true
      · obtain ⟨h0, n1, n2⟩ := hv
        have a1 : aboveV l r = .sl ((upS l r).map .s) := by simp [aboveV, h0, n1]
        have a2 : aboveV l s = .sl ((upS l s).map .s) := by simp [aboveV, h0, n2]
        have a3 : aboveE l r = 0 := by simp [aboveE, h0, n1]
        have a4 : aboveE l s = 0 := by simp [aboveE, h0, n2]
        have e4 := c_roles_Simple z l (by omega) hf r (by omega)
        have e5 := c_roles_Simple z l (by omega) hf s (by omega)
        have lx := upS_len l r
        have ly := upS_len l s
        rw [a1, a3] at e2
        rw [a2, a4] at e3
        rw [a3] at e4
        rw [a4] at e5
        obtain ⟨j0, f0⟩ := l_order0 z l r s t (upS l r) (upS l s) (srt_upS l r) (by omega) [] ⟨0, 0⟩ ((upS l r).drop 1) 0 rfl
        obtain ⟨j1, f1⟩ := l_order1 z l (by omega) (one5_all h0) r s t (upS l r) (upS l s) (by omega) up_closed [] ⟨0, 0⟩ l 0 rfl
        have q1 := c_law06_has (upS l r) s (by omega)
        have q2 := c_law06_has (upS l r) r (by omega)
        have q3 := c_law06_has (upS l s) t (by omega)
        have q4 := c_law06_has (upS l r) t (by omega)
        have u1 := up_self l r
        simp at f0 f1
        by_cases m1 : s ∈ upS l r
        · have hsi := simple_up (s := s) h0 n1 m1
          cases hp : simpS l r with
          | true =>
            rw [hp] at e4
            by_cases m2 : t ∈ upS l s
            · have m3 := up_trans m1 m2
              simp [callFnW, ir_law06_RolesOrder, hs, e1, w1, w2, hb', e2, e3, e4, e5, f0, f1, q1, q2, q3, q4, u1, m1, m2, m3]
            · simp [callFnW, ir_law06_RolesOrder, hs, e1, w1, w2, hb', e2, e3, e4, e5, f0, f1, q1, q2, q3, q4, u1, m1, m2]
          | false =>
            rw [hp] at e4
            rw [hsi hp] at e5
            by_cases m2 : t ∈ upS l s
            · have m3 := up_trans m1 m2
              simp [callFnW, ir_law06_RolesOrder, hs, e1, w1, w2, hb', e2, e3, e4, e5, f0, f1, q1, q2, q3, q4, u1, m1, m2, m3]
            · simp [callFnW, ir_law06_RolesOrder, hs, e1, w1, w2, hb', e2, e3, e4, e5, f0, f1, q1, q2, q3, q4, u1, m1, m2]
        · simp [callFnW, ir_law06_RolesOrder, hs, e1, w1, w2, hb', e2, e3, e4, e5, f0, f1, q1, q2, q3, q4, u1, m1]
      · by_cases h3 : aboveE l r = 0
        · have h4 : ¬ aboveE l s = 0 := by
            intro h4
            apply hv
            simp only [aboveE] at h3 h4
            by_cases h0 : chkL l = 0
            · rw [if_pos h0] at h3 h4
              refine ⟨h0, ?_, ?_⟩
              · by_cases hn : nmOK r = true
                · exact hn
                · rw [if_neg hn] at h3; cases h3
              · by_cases hn : nmOK s = true
                · exact hn
                · rw [if_neg hn] at h4; cases h4
            · rw [if_neg h0] at h3; exact absurd h3 h0
          simp [callFnW, ir_law06_RolesOrder, hs, e1, w1, w2, hb', e2, e3, h3, h4]
        · simp [callFnW, ir_law06_RolesOrder, hs, e1, w1, w2, hb', e2, e3, h3]
end Go.Ai.Z
