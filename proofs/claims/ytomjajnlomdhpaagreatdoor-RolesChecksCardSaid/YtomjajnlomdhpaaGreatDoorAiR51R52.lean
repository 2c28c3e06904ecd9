/-
  The reference's less and closes.
-/
import Derived.Test.YtomjajnlomdhpaaGreatDoorAiR37R38R39
set_option maxRecDepth 100000
set_option linter.unusedSimpArgs false
set_option linter.unusedVariables false
namespace Go.Ai.Z
theorem l_ref06_less (z z' : Bool) (a b : List Rl) (hl : a.length ≤ 1000000) (hab : a.length = b.length) (s : St) (cx : Ctx) :
    ∀ (ra rb : List Rl) (i : Nat), a.drop i = ra → b.drop i = rb →
    ∃ j : Int, loopW (acodeW P0.glob (acallW P0) cx false ir_ref06_less_L0) [0, 1, 5]
      [(0, .v (slf z (a.map .s))), (1, .v (slf z' (b.map .s))), (5, .v (.i .i64 i))] s =
      if ra = rb then .exit 0 [(0, .v (slf z (a.map .s))), (1, .v (slf z' (b.map .s))), (5, .v (.i .i64 j)), (9, .v (.b false))] s else .ret [(4, .v (.b (lessR ra rb)))] s
  | [], rb, i, h, h' => by
    have h1 := drop_nil h
    have hrb : rb = [] := by rw [← h']; exact List.drop_eq_nil_of_le (by omega)
    have h2 : ¬ i < a.length := Nat.not_lt.2 h1
    refine ⟨i, loop_step fun K hK => ?_⟩
    subst hrb
    simp [ir_ref06_less_L0, h2]
  | x :: ra, [], i, h, h' => by
    have h1 := drop_nil h'
    obtain ⟨_, _, g3, _⟩ := drop_cons h
    omega
  | x :: ra, y :: rb, i, h, h' => by
    obtain ⟨g1, g2, g3, g4⟩ := drop_cons h
    obtain ⟨k1, k2, k3, k4⟩ := drop_cons h'
    have g5 := g4 g3
    have k5 := k4 k3
    have hwi := wI (i := i) (by omega)
    by_cases hxy : x = y
    · subst hxy
      obtain ⟨j, ih⟩ := l_ref06_less z z' a b hl hab s cx ra rb (i + 1) g2 k2
      refine ⟨j, loop_step fun K hK => ?_⟩
      rw [← hK, show ((i + 1 : Nat) : Int) = (i : Int) + 1 from rfl] at ih
      clear hK g4 k4 hab
      have e : (x :: ra = x :: rb) = (ra = rb) := by simp
      simp only [e, lessR, if_true]
      rw [← ih]
      simp [ir_ref06_less_L0, g3, g5, k3, k5, hwi]
    · refine ⟨i, loop_step fun K hK => ?_⟩
      clear hK g4 k4 hab
      have e : ¬ (x :: ra = y :: rb) := by simp [hxy]
      rw [if_neg e]
      simp only [lessR, if_neg hxy]
      simp [ir_ref06_less_L0, g3, g5, k3, k5, hwi, hxy, bytesLess_lt]
theorem lessR_irr : ∀ a : List Rl, lessR a a = false
  | [] => rfl
  | x :: a => by simp only [lessR, if_true]; exact lessR_irr a
theorem c_ref06_less (z z' : Bool) (a b : List Rl) (hl : a.length ≤ 1000000) (hab : a.length = b.length) (s : St) (cx : Ctx) : acallW P0 (.fn (.func F_ref06_less) [] []) [slf z (a.map .s), slf z' (b.map .s)] s cx = .ret (.b (lessR a b)) s := by
  obtain ⟨j, h⟩ := l_ref06_less z z' a b hl hab s ⟨s.length, s.length⟩ a b 0 rfl rfl
  simp only [Int.ofNat_zero] at h
  refine go_ref06_less (by simp) ?_
  by_cases he : a = b
  · rw [if_pos he] at h
    subst he
    rw [lessR_irr]
    simp [callFnW, ir_ref06_less, h]
  · rw [if_neg he] at h
    simp [callFnW, ir_ref06_less, h]
def encPE (p : PE) : AV := .ag [.sl (p.1.map .s), .b p.2]
@[simp] theorem plain_encPE (p : PE) : (encPE p).plain = encPE p := by simp [encPE]
@[simp] theorem cells_encPE (p : PE) : (encPE p).cells = [.sl (p.1.map .s), .b p.2] := rfl
@[simp] theorem fold_encPE (a : List Rl) (b : Bool) : AV.ag [.sl (a.map .s), .b b] = encPE (a, b) := rfl
theorem lst_at {p : PE} {n : Nat} (h : p.1.length = n + 1) : p.1[n]? = some (lstR p) := by
  have hne : p.1 ≠ [] := fun e => by rw [e] at h; simp at h
  rw [lstR, List.getLastD_eq_getLast?, List.getLast?_eq_getElem?, h, Nat.add_sub_cancel]
  rw [List.getElem?_eq_getElem (by omega)]; rfl
theorem hd_at {p : PE} {n : Nat} (h : p.1.length = n + 1) : p.1[0]? = some (p.1.headD []) := by
  obtain ⟨l, b⟩ := p
  cases l with
  | nil => simp at h
  | cons a l => rfl
def clo1 (p : PE) (k : Rl × Rl × Bool) : Bool := decide (k.1 = lstR p) && decide (k.2.1 = p.1.headD []) && (p.2 || k.2.2)
theorem l_ref06_closes (E : RE) (hE : E.length ≤ 1000000) (p : PE) (n : Nat) (hn : p.1.length = n + 1) (hnn : n ≤ 1000000) (s : St) (cx : Ctx) :
    ∀ (rest : RE) (i : Nat), E.drop i = rest →
    ∃ j : Int, loopW (acodeW P0.glob (acallW P0) cx false ir_ref06_closes_L0) [1, 2, 5]
      [(1, .v (.sl (E.map encS))), (2, .bx [.sl (p.1.map .s), .b p.2]), (5, .v (.i .i64 i))] s =
      if (rest.any (clo1 p)) = true then .ret [(4, .v (.b true))] s else .exit 0 [(1, .v (.sl (E.map encS))), (2, .bx [.sl (p.1.map .s), .b p.2]), (5, .v (.i .i64 j)), (9, .v (.b false))] s
  | [], i, h => by
    have h1 : ¬ i < E.length := Nat.not_lt.2 (drop_nil h)
    refine ⟨i, loop_step fun K hK => ?_⟩
    simp [ir_ref06_closes_L0, h1]
  | k :: rest, i, h => by
    obtain ⟨g1, g2, g3, g4⟩ := drop_cons h
    have g5 := g4 g3
    have hwi := wI (i := i) (by omega)
    have hw : IntKind.i64.wrap (n : Int) = n := w64 (by omega) (by omega)
    obtain ⟨j, ih⟩ := l_ref06_closes E hE p n hn hnn s cx rest (i + 1) g2
    refine ⟨j, loop_step fun K hK => ?_⟩
    rw [← hK, show ((i + 1 : Nat) : Int) = (i : Int) + 1 from rfl] at ih
    clear hK g4
    have h0 := hd_at hn
    have hL := lst_at hn
    obtain ⟨k1, k2, k3⟩ := k
    rw [List.any_cons]
    generalize rest.any (clo1 p) = A at ih ⊢
    have hcl : clo1 p (k1, k2, k3) = (decide (k1 = lstR p) && decide (k2 = p.1.headD []) && (p.2 || k3)) := rfl
    rw [hcl]
    generalize lstR p = L at hL ⊢
    generalize p.1.headD [] = c at h0 ⊢
    clear hcl
    obtain ⟨pl, pb⟩ := p
    simp only at hn h0 hL ih ⊢
    obtain ⟨z1, z2⟩ := List.getElem?_eq_some_iff.1 h0
    obtain ⟨z3, z4⟩ := List.getElem?_eq_some_iff.1 hL
    have hn' : (pl.length : Int) = (n : Int) + 1 := by omega
    by_cases e1 : k1 = L
    · by_cases e2 : k2 = c
      · cases pb with
        | true =>
          simp only [e1, e2, decide_true, Bool.true_and, Bool.true_or, if_true]
          simp [ir_ref06_closes_L0, g3, g5, hwi, hn', hw, h0, hL, z2, z4, e1, e2]
        | false =>
          cases k3 with
          | true =>
            simp only [e1, e2, decide_true, Bool.true_and, Bool.or_true, Bool.true_or, if_true]
            simp [ir_ref06_closes_L0, g3, g5, hwi, hn', hw, h0, hL, z2, z4, e1, e2]
          | false =>
            simp only [Bool.or_self, Bool.and_false, Bool.false_or]
            rw [← ih]
            simp [ir_ref06_closes_L0, g3, g5, hwi, hn', hw, h0, hL, z2, z4, e1, e2]
      · simp only [e2, decide_false, Bool.and_false, Bool.false_and, Bool.false_or]
        rw [← ih]
        simp [ir_ref06_closes_L0, g3, g5, hwi, hn', hw, h0, hL, z2, z4, e1, e2]
    · simp only [e1, decide_false, Bool.false_and, Bool.false_or]
      rw [← ih]
      simp [ir_ref06_closes_L0, g3, g5, hwi, hn', hw, h0, hL, z2, z4, e1]
theorem closesM_eq (E : RE) (p : PE) : closesM E p = E.any (clo1 p) := rfl
theorem c_ref06_closes (E : RE) (hE : E.length ≤ 1000000) (p : PE) (n : Nat) (hn : p.1.length = n + 1) (hnn : n ≤ 1000000) (s : St) (cx : Ctx) : acallW P0 (.fn (.func F_ref06_closes) [] []) [encPE p, .sl (E.map encS)] s cx = .ret (.b (closesM E p)) s := by
  obtain ⟨j, h⟩ := l_ref06_closes E hE p n hn hnn s ⟨s.length, s.length⟩ E 0 rfl
  simp only [Int.ofNat_zero] at h
  refine go_ref06_closes (by simp) ?_
  rw [closesM_eq]
  cases hc : E.any (clo1 p) with
  | true =>
    rw [if_pos hc] at h
    simp [callFnW, ir_ref06_closes, h]
  | false =>
    rw [if_neg (by rw [hc]; exact Bool.false_ne_true)] at h
    simp [callFnW, ir_ref06_closes, h]
end Go.Ai.Z
namespace Go.Ai.Z
def atI : Option Nat → Int
  | none => -1
  | some i => i
theorem l_ref06_longer2 (E : RE) (hEl : E.length ≤ 1000000) (vp : AV) (i0 k : Nat) (vbx : List AV) (x : PE) (n : Nat) (hn : x.1.length = n + 1) (hnn : n ≤ 1000000) (kk : Rl × Rl × Bool) (hk : E[k]? = some kk) (hlk : kk.2.1 = lstR x) (out : List PE) (ho : ∀ y ∈ out, y.1.length = n + 1) (hol : out.length ≤ 1000000) (s : St) (cx : Ctx) :
    ∀ (rest : List PE) (m : Nat) (a : Option Nat), out.drop m = rest →
    ∃ j : Int, loopW (acodeW P0.glob (acallW P0) cx false ir_ref06_longer_L2) [0, 1, 5, 6, 7, 8, 9, 10, 11]
      [(0, .v vp), (1, .v (.sl (E.map encS))), (5, .own false T_ref06_path_1 2 (out.map encPE)), (6, .v (.i .i64 i0)), (7, .bx vbx), (8, .v (.i .i64 k)), (9, .bx [.sl (x.1.map .s), .b x.2]), (10, .v (.i .i64 (atI a))), (11, .v (.i .i64 m))] s =
      .exit 4 [(0, .v vp), (1, .v (.sl (E.map encS))), (5, .own false T_ref06_path_1 2 (out.map encPE)), (6, .v (.i .i64 i0)), (7, .bx vbx), (8, .v (.i .i64 k)), (9, .bx [.sl (x.1.map .s), .b x.2]), (10, .v (.i .i64 (atI (atM x rest m a)))), (11, .v (.i .i64 j)), (76, .v (.b false))] s
  | [], m, a, h => by
    have h1 : ¬ m < out.length := Nat.not_lt.2 (drop_nil h)
    refine ⟨m, loop_step fun K hK => ?_⟩
    simp [ir_ref06_longer_L2, h1, atM]
  | y :: rest, m, a, h => by
    obtain ⟨g1, g2, g3, g4⟩ := drop_cons h
    have g5 := g4 g3
    have hwi := wI (i := m) (by omega)
    have hy : y ∈ out := by rw [← g5]; exact List.getElem_mem g3
    have hyl := ho y hy
    have hLy := lst_at hyl
    obtain ⟨z3, z4⟩ := List.getElem?_eq_some_iff.1 hLy
    obtain ⟨k3, k4⟩ := List.getElem?_eq_some_iff.1 hk
    have hw : IntKind.i64.wrap (n : Int) = n := w64 (by omega) (by omega)
    have hn' : (x.1.length : Int) = (n : Int) + 1 := by omega
    obtain ⟨kk1, kk2, kk3⟩ := kk
    simp only at hlk
    subst hlk
    by_cases hb : y.2 = x.2
    · by_cases hl : lstR y = lstR x
      · have hs : sameP y x = true := sameP_iff.2 ⟨hb, hl⟩
        obtain ⟨j, ih⟩ := l_ref06_longer2 E hEl vp i0 k vbx x n hn hnn (kk1, lstR x, kk3) hk rfl out ho hol s cx rest (m + 1) (some m) g2
        refine ⟨j, loop_step fun K hK => ?_⟩
        rw [← hK, show ((m + 1 : Nat) : Int) = (m : Int) + 1 from rfl] at ih
        clear hK g4 ho
        simp only [atM, hs, if_true]
        rw [← ih]
        rw [hl] at hLy z4
        generalize lstR x = LX at *
        have ha : atI (some m) = (m : Int) := rfl
        simp [ir_ref06_longer_L2, g3, g5, hwi, hn', hw, hLy, z4, hk, k3, k4, ha, hb]
      · have hs : ¬ sameP y x = true := fun h => hl (sameP_iff.1 h).2
        obtain ⟨j, ih⟩ := l_ref06_longer2 E hEl vp i0 k vbx x n hn hnn (kk1, lstR x, kk3) hk rfl out ho hol s cx rest (m + 1) a g2
        refine ⟨j, loop_step fun K hK => ?_⟩
        rw [← hK, show ((m + 1 : Nat) : Int) = (m : Int) + 1 from rfl] at ih
        clear hK g4 ho
        simp only [atM, hs, Bool.false_eq_true, if_false]
        rw [← ih]
        generalize lstR x = LX at *
        generalize lstR y = LY at *
        simp [ir_ref06_longer_L2, g3, g5, hwi, hn', hw, hLy, z4, hk, k3, k4, hl, hb]
    · have hs : ¬ sameP y x = true := fun h => hb (sameP_iff.1 h).1
      have hbf : (y.2 == x.2) = false := by simpa using hb
      obtain ⟨j, ih⟩ := l_ref06_longer2 E hEl vp i0 k vbx x n hn hnn (kk1, lstR x, kk3) hk rfl out ho hol s cx rest (m + 1) a g2
      refine ⟨j, loop_step fun K hK => ?_⟩
      rw [← hK, show ((m + 1 : Nat) : Int) = (m : Int) + 1 from rfl] at ih
      clear hK g4 ho
      simp only [atM, hs, Bool.false_eq_true, if_false]
      rw [← ih]
      generalize lstR x = LX at *
      simp [ir_ref06_longer_L2, g3, g5, hwi, hk, k3, k4, hbf]
end Go.Ai.Z
