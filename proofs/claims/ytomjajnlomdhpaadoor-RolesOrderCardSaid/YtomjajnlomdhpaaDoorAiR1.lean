/-
  Roles: lists of strings, the checks of axioms and names.
-/
import Derived.Test.YtomjajnlomdhpaaDoorAiK12
import Derived.Test.YtomjajnlomdhpaaDoorAiK11
import Derived.Test.YtomjajnlomdhpaaDoorAiRch
set_option maxRecDepth 100000
set_option linter.unusedSimpArgs false
set_option linter.unusedVariables false
namespace Go.Ai.Z

theorem bytesLess_lt : ∀ (x y : List UInt8), Op.bytesLess x y = decide (x < y)
  | [], [] => by simp [Op.bytesLess]
  | [], y :: ys => by simp [Op.bytesLess]
  | x :: xs, [] => by simp [Op.bytesLess]
  | x :: xs, y :: ys => by
    have ih := bytesLess_lt xs ys
    simp only [Op.bytesLess, ih, List.cons_lt_cons_iff]
    by_cases h1 : x < y
    · simp [h1]
    · by_cases h2 : x = y
      · subst h2; simp [h1]
      · simp [h1, h2]

theorem take_tw (l : List (List UInt8)) (x : List UInt8) : l.take (l.takeWhile (fun y => decide (y < x))).length = l.takeWhile (fun y => decide (y < x)) := by
  induction l with
  | nil => rfl
  | cons a r ih =>
    by_cases h : a < x
    · simp [List.takeWhile_cons, h, ih]
    · simp [List.takeWhile_cons, h]
theorem drop_tw (l : List (List UInt8)) (x : List UInt8) : l.drop (l.takeWhile (fun y => decide (y < x))).length = l.dropWhile (fun y => decide (y < x)) := by
  induction l with
  | nil => rfl
  | cons a r ih =>
    by_cases h : a < x
    · simp [List.takeWhile_cons, List.dropWhile_cons, h, ih]
    · simp [List.takeWhile_cons, List.dropWhile_cons, h]
theorem tw_le (l : List (List UInt8)) (x : List UInt8) : (l.takeWhile (fun y => decide (y < x))).length ≤ l.length := (List.takeWhile_sublist _).length_le
theorem withS_len (l : List (List UInt8)) (x : List UInt8) : (withS l x).length ≤ l.length + 1 := by
  unfold withS
  split
  · omega
  · have := congrArg List.length (List.takeWhile_append_dropWhile (p := fun y => decide (y < x)) (l := l))
    rw [List.length_append] at this
    simp only [List.length_append, List.length_cons]; omega

theorem l_ref06_Same (z z' : Bool) (l l' : List (List UInt8)) (hl : l.length ≤ 1000000) (hll : l.length = l'.length) (s : St) (cx : Ctx) :
    ∀ (rest rest' : List (List UInt8)) (i : Nat), l.drop i = rest → l'.drop i = rest' →
    ∃ j : Int, loopW (acodeW P0.glob (acallW P0) cx false ir_ref06_Same_L0) [0, 1, 5] [(0, .v (slf z (l.map .s))), (1, .v (slf z' (l'.map .s))), (5, .v (.i .i64 i))] s =
      if rest = rest' then .exit 0 [(0, .v (slf z (l.map .s))), (1, .v (slf z' (l'.map .s))), (5, .v (.i .i64 j)), (14, .v (.b false))] s else .ret [(4, .v (.b false))] s
  | [], rest', i, h, h' => by
    have h1 : ¬ i < l.length := Nat.not_lt.2 (drop_nil h)
    have h2 : rest' = [] := by rw [← h']; exact List.drop_eq_nil_of_le (by omega)
    refine ⟨i, loop_step fun K hK => ?_⟩
    simp [ir_ref06_Same_L0, h1, h2]
  | p :: r, rest', i, h, h' => by
    obtain ⟨h1, h2, h3, h4⟩ := drop_cons h
    have h5 := h4 h3
    have hw := wI (i := i) (by omega)
    have h3' : i < l'.length := by omega
    cases rest' with
    | nil => have := drop_nil h'; omega
    | cons p' r' =>
      obtain ⟨_, k2, _, k4⟩ := drop_cons h'
      have k5 := k4 h3'
      by_cases hp : p = p'
      · subst hp
        obtain ⟨j, ih⟩ := l_ref06_Same z z' l l' hl hll s cx r r' (i + 1) h2 k2
        refine ⟨j, loop_step fun K hK => ?_⟩
        rw [← hK, show ((i + 1 : Nat) : Int) = (i : Int) + 1 from rfl] at ih
        clear hK h4 k4
        try simp at ih
        simp [ir_ref06_Same_L0, h3, h3', h5, k5, hw, ih]
      · refine ⟨0, loop_step fun K hK => ?_⟩
        clear h4 k4
        simp [ir_ref06_Same_L0, h3, h3', h5, k5, hw, hp]
theorem c_ref06_Same (z z' : Bool) (l l' : List (List UInt8)) (hl : l.length ≤ 1000000) (hl' : l'.length ≤ 1000000) (s : St) (cx : Ctx) : acallW P0 (.fn (.func F_ref06_Same) [] []) [slf z (l.map .s), slf z' (l'.map .s)] s cx = .ret (.b (decide (l = l'))) s := by
  refine go_ref06_Same (by simp) ?_
  by_cases hll : l.length = l'.length
  · obtain ⟨j, h⟩ := l_ref06_Same z z' l l' hl hll s ⟨s.length, s.length⟩ l l' 0 rfl rfl
    simp at h
    have c1 : ((l.length : Int) = (l'.length : Int)) := by omega
    by_cases he : l = l'
    · subst he; simp at h; simp [callFnW, ir_ref06_Same, h]
    · simp [he] at h; simp [callFnW, ir_ref06_Same, c1, h, he]
  · have c1 : ¬ ((l.length : Int) = (l'.length : Int)) := by omega
    have c2 : ¬ l = l' := fun h => hll (by rw [h])
    simp [callFnW, ir_ref06_Same, c1, c2]

/-! ### The checks of axioms -/

/-- The error of the first bad axiom. -/
def chkL : List Ax → Int
  | [] => 0
  | x :: r => if checkAS x = 0 then chkL r else checkAS x

theorem l_roles_check (z : Bool) (l : List Ax) (hl : l.length ≤ 1000) (hx : ∀ x ∈ l, x.Few) (s : St) (cx : Ctx) :
    ∀ (rest : List Ax) (i : Nat), l.drop i = rest →
    ∃ j : Int, loopW (acodeW P0.glob (acallW P0) cx false ir_roles_check_L0) [6, 7, 8] [(6, .v (slf z (l.map encA))), (7, .v (.i .i64 l.length)), (8, .v (.i .i64 i))] s =
      if chkL rest = 0 then .exit 0 [(6, .v (slf z (l.map encA))), (7, .v (.i .i64 l.length)), (8, .v (.i .i64 j)), (9, .v (.b false))] s else .ret [(2, .v (.i .i64 (chkL rest)))] s
  | [], i, h => by
    have h1 : ¬ i < l.length := Nat.not_lt.2 (drop_nil h)
    refine ⟨i, loop_step fun K hK => ?_⟩
    simp [ir_roles_check_L0, h1, chkL]
  | p :: r, i, h => by
    obtain ⟨h1, h2, h3, h4⟩ := drop_cons h
    have h5 := h4 h3
    have hf := hx p (by rw [← h5]; exact List.getElem_mem h3)
    have hwi := wI (i := i) (by omega)
    have e1 := c_terms_CheckAxiom p hf
    by_cases h0 : checkAS p = 0
    · obtain ⟨j, ih⟩ := l_roles_check z l hl hx s cx r (i + 1) h2
      refine ⟨j, loop_step fun K hK => ?_⟩
      rw [← hK, show ((i + 1 : Nat) : Int) = (i : Int) + 1 from rfl] at ih
      clear hK h4 hx
      try simp at ih
      simp [ir_roles_check_L0, h3, h5, hwi, e1, h0, chkL, ih]
    · refine ⟨i, loop_step fun K hK => ?_⟩
      clear hK h4 hx
      simp [ir_roles_check_L0, h3, h5, hwi, e1, h0, chkL]
theorem c_roles_check (z : Bool) (l : List Ax) (hl : l.length ≤ 1000) (hx : ∀ x ∈ l, x.Few) (s : St) (cx : Ctx) : acallW P0 (.fn (.func F_roles_check) [] []) [slf z (l.map encA)] s cx = .ret (.i .i64 (chkL l)) s := by
  obtain ⟨j, h⟩ := l_roles_check z l hl hx s ⟨s.length, s.length⟩ l 0 rfl
  refine go_roles_check (by simp) ?_
  simp at h
  by_cases h0 : chkL l = 0 <;> simp [callFnW, ir_roles_check, h, h0]

/-- A name, or a reserved one. -/
def nmOK (x : List UInt8) : Bool := plainS x || resS x
theorem l_roles_checkAll (ns : List (List UInt8)) (hl : ns.length ≤ 1000) (hx : ∀ x ∈ ns, x.length ≤ 1152921504606846976) (s : St) (cx : Ctx) :
    ∀ (rest : List (List UInt8)) (i : Nat), ns.drop i = rest →
    ∃ j : Int, loopW (acodeW P0.glob (acallW P0) cx false ir_roles_checkAll_L0) [14, 15, 16] [(14, .v (.sl (ns.map .s))), (15, .v (.i .i64 ns.length)), (16, .v (.i .i64 i))] s =
      if rest.all nmOK = true then .exit 0 [(14, .v (.sl (ns.map .s))), (15, .v (.i .i64 ns.length)), (16, .v (.i .i64 j)), (17, .v (.b false))] s else .ret [(4, .v (.i .i64 20))] s
  | [], i, h => by
    have h1 : ¬ i < ns.length := Nat.not_lt.2 (drop_nil h)
    refine ⟨i, loop_step fun K hK => ?_⟩
    simp [ir_roles_checkAll_L0, h1]
  | p :: r, i, h => by
    obtain ⟨h1, h2, h3, h4⟩ := drop_cons h
    have h5 := h4 h3
    have hf := hx p (by rw [← h5]; exact List.getElem_mem h3)
    have hwi := wI (i := i) (by omega)
    have e1 := c_terms_CheckName p hf
    by_cases h0 : nmOK p = true
    · obtain ⟨j, ih⟩ := l_roles_checkAll ns hl hx s cx r (i + 1) h2
      refine ⟨j, loop_step fun K hK => ?_⟩
      rw [← hK, show ((i + 1 : Nat) : Int) = (i : Int) + 1 from rfl] at ih
      clear hK h4 hx
      have h6 : (plainS p || resS p) = true := h0
      simp only [h6, if_true] at e1
      simp only [List.all_cons, h0, Bool.true_and]
      try simp at ih
      simp [ir_roles_checkAll_L0, h3, h5, hwi, e1, ih]
    · refine ⟨i, loop_step fun K hK => ?_⟩
      clear hK h4 hx
      have h6 : ¬ (plainS p || resS p) = true := h0
      simp only [h6, if_false] at e1
      simp only [List.all_cons, h0, Bool.false_and]
      simp [ir_roles_checkAll_L0, h3, h5, hwi, e1]
theorem c_roles_checkAll (z : Bool) (l : List Ax) (hl : l.length ≤ 1000) (hx : ∀ x ∈ l, x.Few) (ns : List (List UInt8)) (hn : ns.length ≤ 1000) (hnx : ∀ x ∈ ns, x.length ≤ 1152921504606846976) (s : St) (cx : Ctx) :
    acallW P0 (.fn (.func F_roles_checkAll) [] []) [slf z (l.map encA), .sl (ns.map .s)] s cx = .ret (.i .i64 (if chkL l = 0 then (if ns.all nmOK = true then 0 else 20) else chkL l)) s := by
  obtain ⟨j, h⟩ := l_roles_checkAll ns hn hnx s ⟨s.length, s.length⟩ ns 0 rfl
  refine go_roles_checkAll (by simp) ?_
  have e1 := c_roles_check z l hl hx
  simp at h
  by_cases h0 : chkL l = 0
  · by_cases h6 : ns.all nmOK = true
    · rw [if_pos (by simpa using h6)] at h
      simp only [h0, h6, if_true]
      simp [callFnW, ir_roles_checkAll, h, e1, h0]
    · rw [if_neg (by simpa using h6)] at h
      simp only [h0, h6, if_true, if_false]
      simp [callFnW, ir_roles_checkAll, h, e1, h0]
  · simp [callFnW, ir_roles_checkAll, e1, h0]

end Go.Ai.Z
