/-
  Which roles are contained in which: rounds of a list of pairs reach all that can be reached.
-/
import Derived.Test.YtomjajnlomdhpaaGreatDoorAiC1
import Derived.Test.YtomjajnlomdhpaaGreatDoorAiK12
import Derived.Test.YtomjajnlomdhpaaGreatDoorAiK11
set_option maxRecDepth 100000
set_option linter.unusedSimpArgs false
set_option linter.unusedVariables false
namespace Go.Ai
inductive Rch (E : List (List UInt8 × List UInt8)) : List UInt8 → List UInt8 → Prop where
  | refl (a : List UInt8) : Rch E a a
  | step {a b c : List UInt8} : Rch E a b → (b, c) ∈ E → Rch E a c
theorem Rch.trans {E : List (List UInt8 × List UInt8)} {a b c : List UInt8} (h : Rch E a b) (h' : Rch E b c) : Rch E a c := by
  induction h' with
  | refl => exact h
  | step _ he ih => exact .step ih he
theorem Rch.one {E : List (List UInt8 × List UInt8)} {a b : List UInt8} (h : (a, b) ∈ E) : Rch E a b := .step (.refl a) h
theorem Rch.mono {E E' : List (List UInt8 × List UInt8)} (hE : ∀ p ∈ E, p ∈ E') {a b : List UInt8} (h : Rch E a b) : Rch E' a b := by
  induction h with
  | refl => exact .refl _
  | step _ he ih => exact .step ih (hE _ he)
def Srt (l : List (List UInt8)) : Prop := l.Pairwise fun a b => a < b
theorem Srt.nodup {l : List (List UInt8)} (h : Srt l) : l.Nodup := h.imp fun {a b} hab he => by subst he; exact List.lt_irrefl a hab
theorem Srt.ext {l l' : List (List UInt8)} (h : Srt l) (h' : Srt l') (hm : ∀ x, x ∈ l ↔ x ∈ l') : l = l' :=
  List.Perm.eq_of_pairwise (le := fun a b => a < b) (fun a b _ _ h1 h2 => absurd h2 (List.lt_asymm h1)) h h' ((List.perm_ext_iff_of_nodup h.nodup h'.nodup).2 hm)
theorem isort_srt {l : List (List UInt8)} (h : l.Nodup) : Srt (isort l) := by
  have h1 := isort_sorted l
  have h2 : (isort l).Nodup := (isort_perm l).nodup_iff.2 h
  refine (h1.and h2).imp fun {a b} hab => ?_
  rcases List.le_iff_lt_or_eq.1 hab.1 with h | h
  · exact h
  · exact absurd h hab.2
theorem strictS_of : ∀ {l : List (List UInt8)}, Srt l → strictS l = true
  | [], _ => rfl
  | [a], _ => rfl
  | a :: b :: r, h => by
    obtain ⟨h1, h2⟩ := List.pairwise_cons.1 h
    simp only [strictS, Bool.and_eq_true, decide_eq_true_eq]
    exact ⟨h1 b (by simp), strictS_of h2⟩
def withS (l : List (List UInt8)) (s : List UInt8) : List (List UInt8) :=
  if s ∈ l then l else l.takeWhile (fun x => decide (x < s)) ++ s :: l.dropWhile (fun x => decide (x < s))
theorem mem_withS {l : List (List UInt8)} {s x : List UInt8} : x ∈ withS l s ↔ x = s ∨ x ∈ l := by
  unfold withS
  split
  · rename_i h
    constructor
    · exact .inr
    · rintro (rfl | h'); exact h; exact h'
  · have : x ∈ l ↔ x ∈ l.takeWhile (fun x => decide (x < s)) ∨ x ∈ l.dropWhile (fun x => decide (x < s)) := by
      rw [← List.mem_append, List.takeWhile_append_dropWhile]
    rw [this]
    simp only [List.mem_append, List.mem_cons]
    constructor
    · rintro (h | h | h); exact .inr (.inl h); exact .inl h; exact .inr (.inr h)
    · rintro (h | h | h); exact .inr (.inl h); exact .inl h; exact .inr (.inr h)
theorem srt_drop {s : List UInt8} : ∀ {l : List (List UInt8)}, Srt l → s ∉ l → ∀ x ∈ l.dropWhile (fun x => decide (x < s)), s < x
  | [], _, _, x, hx => by simp at hx
  | a :: r, h, hn, x, hx => by
    obtain ⟨h1, h2⟩ := List.pairwise_cons.1 h
    simp only [List.dropWhile_cons] at hx
    split at hx
    · exact srt_drop h2 (fun hm => hn (by simp [hm])) x hx
    · rename_i hlt
      have hlt' : ¬ a < s := by simpa using hlt
      have hsa : s < a := by
        rcases List.le_iff_lt_or_eq.1 (List.not_lt.1 hlt') with h | h
        · exact h
        · exact absurd (by simp [h]) hn
      rcases List.mem_cons.1 hx with rfl | hx
      · exact hsa
      · exact List.lt_trans hsa (h1 x hx)
theorem srt_withS {l : List (List UInt8)} {s : List UInt8} (h : Srt l) : Srt (withS l s) := by
  unfold withS
  split
  · exact h
  · rename_i hn
    have h0 : Srt (l.takeWhile (fun x => decide (x < s)) ++ l.dropWhile (fun x => decide (x < s))) := by rw [List.takeWhile_append_dropWhile]; exact h
    obtain ⟨h1, h2, h3⟩ := List.pairwise_append.1 h0
    have ht : ∀ a ∈ l.takeWhile (fun x => decide (x < s)), a < s := fun a ha => by
      have := List.all_eq_true.1 (List.all_takeWhile (p := fun x => decide (x < s)) (l := l)) a ha
      simpa using this
    have hd := srt_drop h hn
    refine List.pairwise_append.2 ⟨h1, List.pairwise_cons.2 ⟨hd, h2⟩, fun a ha b hb => ?_⟩
    rcases List.mem_cons.1 hb with rfl | hb
    · exact ht a ha
    · exact h3 a ha b hb
end Go.Ai
namespace Go.Ai.Z
theorem bytesLess_lt : ∀ (x y : List UInt8), Op.bytesLess x y = decide (x < y)
  | [], [] => by simp [Op.bytesLess]
  | [], y :: ys => by simp [Op.bytesLess]
  | x :: xs, [] => by simp [Op.bytesLess]
  | x :: xs, y :: ys => by
    have ih := bytesLess_lt xs ys
    simp only [Op.bytesLess, ih, List.cons_lt_cons_iff]
    by_cases h1 : x < y
    · simp [h1]
    · by_cases h2 : x = y
      · subst h2; simp [h1]
      · simp [h1, h2]
theorem l_ref06_Has (z : Bool) (l : List (List UInt8)) (x : List UInt8) (hl : l.length ≤ 1000000) (s : St) (cx : Ctx) :
    ∀ (rest : List (List UInt8)) (i : Nat), l.drop i = rest →
    ∃ j : Int, loopW (acodeW P0.glob (acallW P0) cx false ir_ref06_Has_L0) [0, 1, 5] [(0, .v (slf z (l.map .s))), (1, .v (.s x)), (5, .v (.i .i64 i))] s =
      if x ∈ rest then .ret [(4, .v (.b true))] s else .exit 0 [(0, .v (slf z (l.map .s))), (1, .v (.s x)), (5, .v (.i .i64 j)), (9, .v (.b false))] s
  | [], i, h => by
    have h1 : ¬ i < l.length := Nat.not_lt.2 (drop_nil h)
    refine ⟨i, loop_step fun K hK => ?_⟩
    simp [ir_ref06_Has_L0, h1]
  | p :: r, i, h => by
    obtain ⟨h1, h2, h3, h4⟩ := drop_cons h
    have h5 := h4 h3
    have hw := wI (i := i) (by omega)
    by_cases hp : p = x
    · refine ⟨0, loop_step fun K hK => ?_⟩
      clear h4
      simp [ir_ref06_Has_L0, h3, h5, hw, hp]
    · obtain ⟨j, ih⟩ := l_ref06_Has z l x hl s cx r (i + 1) h2
      have hp' : ¬ x = p := fun h => hp h.symm
      refine ⟨j, loop_step fun K hK => ?_⟩
      rw [← hK, show ((i + 1 : Nat) : Int) = (i : Int) + 1 from rfl] at ih
      clear hK h4
      try simp at ih
      simp [ir_ref06_Has_L0, h3, h5, hw, hp, hp', ih]
theorem c_ref06_Has (z : Bool) (l : List (List UInt8)) (x : List UInt8) (hl : l.length ≤ 1000000) (s : St) (cx : Ctx) : acallW P0 (.fn (.func F_ref06_Has) [] []) [slf z (l.map .s), .s x] s cx = .ret (.b (decide (x ∈ l))) s := by
  obtain ⟨j, h⟩ := l_ref06_Has z l x hl s ⟨s.length, s.length⟩ l 0 rfl
  refine go_ref06_Has (by simp) ?_
  simp at h
  by_cases hx : x ∈ l <;> simp [callFnW, ir_ref06_Has, h, hx]
theorem l_ref06_With (z : Bool) (l : List (List UInt8)) (x : List UInt8) (hl : l.length ≤ 1000000) (s : St) (cx : Ctx) :
    ∀ (rest : List (List UInt8)) (i : Nat), l.drop i = rest →
    loopW (acodeW P0.glob (acallW P0) cx false ir_ref06_With_L0) [0, 1, 5] [(0, .v (slf z (l.map .s))), (1, .v (.s x)), (5, .v (.i .i64 i))] s =
      .exit 0 [(0, .v (slf z (l.map .s))), (1, .v (.s x)), (5, .v (.i .i64 ((i + (rest.takeWhile (fun y => decide (y < x))).length : Nat) : Int))), (22, .v (.b false))] s
  | [], i, h => by
    have h1 : ¬ i < l.length := Nat.not_lt.2 (drop_nil h)
    refine loop_step fun K hK => ?_
    simp [ir_ref06_With_L0, h1]
  | p :: r, i, h => by
    obtain ⟨h1, h2, h3, h4⟩ := drop_cons h
    have h5 := h4 h3
    have hw := wI (i := i) (by omega)
    by_cases hp : p < x
    · have ih := l_ref06_With z l x hl s cx r (i + 1) h2
      refine loop_step fun K hK => ?_
      rw [← hK, show ((i + 1 : Nat) : Int) = (i : Int) + 1 from rfl] at ih
      clear hK h4
      have e1 : i + ((p :: r).takeWhile (fun y => decide (y < x))).length = i + 1 + (r.takeWhile (fun y => decide (y < x))).length := by simp [hp]; omega
      rw [e1]
      try simp at ih
      simp [ir_ref06_With_L0, h3, h5, hw, hp, bytesLess_lt, ih]
    · refine loop_step fun K hK => ?_
      clear h4
      simp [ir_ref06_With_L0, h3, h5, hw, hp, bytesLess_lt]
theorem take_tw (l : List (List UInt8)) (x : List UInt8) : l.take (l.takeWhile (fun y => decide (y < x))).length = l.takeWhile (fun y => decide (y < x)) := by
  induction l with
  | nil => rfl
  | cons a r ih =>
    by_cases h : a < x
    · simp [List.takeWhile_cons, h, ih]
    · simp [List.takeWhile_cons, h]
theorem drop_tw (l : List (List UInt8)) (x : List UInt8) : l.drop (l.takeWhile (fun y => decide (y < x))).length = l.dropWhile (fun y => decide (y < x)) := by
  induction l with
  | nil => rfl
  | cons a r ih =>
    by_cases h : a < x
    · simp [List.takeWhile_cons, List.dropWhile_cons, h, ih]
    · simp [List.takeWhile_cons, List.dropWhile_cons, h]
theorem tw_le (l : List (List UInt8)) (x : List UInt8) : (l.takeWhile (fun y => decide (y < x))).length ≤ l.length := (List.takeWhile_sublist _).length_le
theorem withS_len (l : List (List UInt8)) (x : List UInt8) : (withS l x).length ≤ l.length + 1 := by
  unfold withS
  split
  · omega
  · have := congrArg List.length (List.takeWhile_append_dropWhile (p := fun y => decide (y < x)) (l := l))
    rw [List.length_append] at this
    simp only [List.length_append, List.length_cons]; omega
theorem c_ref06_With (z : Bool) (l : List (List UInt8)) (x : List UInt8) (hl : l.length ≤ 1000000) (s : St) (cx : Ctx) : acallW P0 (.fn (.func F_ref06_With) [] []) [slf z (l.map .s), .s x] s cx = .ret (slf z ((withS l x).map .s)) s := by
  refine go_ref06_With (by simp) ?_
  by_cases hx : x ∈ l
  · simp [callFnW, ir_ref06_With, c_ref06_Has z l x hl, hx, withS]
  · have h := l_ref06_With z l x hl s ⟨s.length, s.length⟩ l 0 rfl
    have hw : withS l x = l.takeWhile (fun y => decide (y < x)) ++ x :: l.dropWhile (fun y => decide (y < x)) := by simp [withS, hx]
    have hres : slf z ((withS l x).map AV.s) = .sl ((withS l x).map .s) := by
      rw [hw]
      cases hc : (l.takeWhile (fun y => decide (y < x)) ++ x :: l.dropWhile (fun y => decide (y < x))).map AV.s with
      | nil => simp at hc
      | cons a r => simp
    have hn := tw_le l x
    have t1 := take_tw l x
    have t2 := drop_tw l x
    have hlen : (l.takeWhile (fun y => decide (y < x))).length + (l.dropWhile (fun y => decide (y < x))).length = l.length := by
      have := congrArg List.length (List.takeWhile_append_dropWhile (p := fun y => decide (y < x)) (l := l))
      rw [List.length_append] at this; exact this
    rw [hres, hw]
    generalize hA : l.takeWhile (fun y => decide (y < x)) = A at *
    generalize hB : l.dropWhile (fun y => decide (y < x)) = B at *
    have m1 : A.length ≤ maxSl := by unfold maxSl; omega
    have m2 : A.length + 1 ≤ maxSl := by unfold maxSl; omega
    have m3 : A.length + 1 + B.length ≤ maxSl := by unfold maxSl; omega
    have m4 : A.length + (B.length + 1) ≤ maxSl := by unfold maxSl; omega
    have m5 : A.length + (1 + B.length) ≤ maxSl := by unfold maxSl; omega
    have hd : (l.map AV.s).take A.length = A.map .s := by rw [← List.map_take, t1]
    have he : (l.map AV.s).drop A.length = B.map .s := by rw [← List.map_drop, t2]
    have hb2 : List.take B.length (B.map AV.s) = B.map .s := by rw [← List.map_take]; simp
    simp at h
    rcases slf_cases z (l.map AV.s) with hs | ⟨hs, hs2⟩
    · rw [hs] at h ⊢
      have e1 := c_ref06_Has false l x hl
      simp at e1
      simp [callFnW, ir_ref06_With, e1, hx, h, hn, m1, m2, m3, m4, m5, hd, he, hb2, ← hlen]
    · have : l = [] := by simpa using hs2
      subst this
      simp at hA hB
      subst hA hB
      rw [hs] at h ⊢
      have e1 := c_ref06_Has true [] x (by simp)
      simp at e1
      simp [callFnW, ir_ref06_With, e1, h, maxSl]
theorem l_ref06_Same (z z' : Bool) (l l' : List (List UInt8)) (hl : l.length ≤ 1000000) (hll : l.length = l'.length) (s : St) (cx : Ctx) :
    ∀ (rest rest' : List (List UInt8)) (i : Nat), l.drop i = rest → l'.drop i = rest' →
    ∃ j : Int, loopW (acodeW P0.glob (acallW P0) cx false ir_ref06_Same_L0) [0, 1, 5] [(0, .v (slf z (l.map .s))), (1, .v (slf z' (l'.map .s))), (5, .v (.i .i64 i))] s =
      if rest = rest' then .exit 0 [(0, .v (slf z (l.map .s))), (1, .v (slf z' (l'.map .s))), (5, .v (.i .i64 j)), (14, .v (.b false))] s else .ret [(4, .v (.b false))] s
  | [], rest', i, h, h' => by
    have h1 : ¬ i < l.length := Nat.not_lt.2 (drop_nil h)
    have h2 : rest' = [] := by rw [← h']; exact List.drop_eq_nil_of_le (by omega)
    refine ⟨i, loop_step fun K hK => ?_⟩
    simp [ir_ref06_Same_L0, h1, h2]
  | p :: r, rest', i, h, h' => by
    obtain ⟨h1, h2, h3, h4⟩ := drop_cons h
    have h5 := h4 h3
    have hw := wI (i := i) (by omega)
    have h3' : i < l'.length := by omega
    cases rest' with
    | nil => have := drop_nil h'; omega
    | cons p' r' =>
      obtain ⟨_, k2, _, k4⟩ := drop_cons h'
      have k5 := k4 h3'
      by_cases hp : p = p'
      · subst hp
        obtain ⟨j, ih⟩ := l_ref06_Same z z' l l' hl hll s cx r r' (i + 1) h2 k2
        refine ⟨j, loop_step fun K hK => ?_⟩
        rw [← hK, show ((i + 1 : Nat) : Int) = (i : Int) + 1 from rfl] at ih
        clear hK h4 k4
        try simp at ih
        simp [ir_ref06_Same_L0, h3, h3', h5, k5, hw, ih]
      · refine ⟨0, loop_step fun K hK => ?_⟩
        clear h4 k4
        simp [ir_ref06_Same_L0, h3, h3', h5, k5, hw, hp]
theorem c_ref06_Same (z z' : Bool) (l l' : List (List UInt8)) (hl : l.length ≤ 1000000) (hl' : l'.length ≤ 1000000) (s : St) (cx : Ctx) : acallW P0 (.fn (.func F_ref06_Same) [] []) [slf z (l.map .s), slf z' (l'.map .s)] s cx = .ret (.b (decide (l = l'))) s := by
  refine go_ref06_Same (by simp) ?_
  by_cases hll : l.length = l'.length
  · obtain ⟨j, h⟩ := l_ref06_Same z z' l l' hl hll s ⟨s.length, s.length⟩ l l' 0 rfl rfl
    simp at h
    have c1 : ((l.length : Int) = (l'.length : Int)) := by omega
    by_cases he : l = l'
    · subst he; simp at h; simp [callFnW, ir_ref06_Same, h]
    · simp [he] at h; simp [callFnW, ir_ref06_Same, c1, h, he]
  · have c1 : ¬ ((l.length : Int) = (l'.length : Int)) := by omega
    have c2 : ¬ l = l' := fun h => hll (by rw [h])
    simp [callFnW, ir_ref06_Same, c1, c2]
def chkL : List Ax → Int
  | [] => 0
  | x :: r => if checkAS x = 0 then chkL r else checkAS x
theorem l_roles_check (z : Bool) (l : List Ax) (hl : l.length ≤ 1000) (hx : ∀ x ∈ l, x.Few) (s : St) (cx : Ctx) :
    ∀ (rest : List Ax) (i : Nat), l.drop i = rest →
    ∃ j : Int, loopW (acodeW P0.glob (acallW P0) cx false ir_roles_check_L0) [6, 7, 8] [(6, .v (slf z (l.map encA))), (7, .v (.i .i64 l.length)), (8, .v (.i .i64 i))] s =
      if chkL rest = 0 then .exit 0 [(6, .v (slf z (l.map encA))), (7, .v (.i .i64 l.length)), (8, .v (.i .i64 j)), (9, .v (.b false))] s else .ret [(2, .v (.i .i64 (chkL rest)))] s
  | [], i, h => by
    have h1 : ¬ i < l.length := Nat.not_lt.2 (drop_nil h)
    refine ⟨i, loop_step fun K hK => ?_⟩
    simp [ir_roles_check_L0, h1, chkL]
  | p :: r, i, h => by
    obtain ⟨h1, h2, h3, h4⟩ := drop_cons h
    have h5 := h4 h3
    have hf := hx p (by rw [← h5]; exact List.getElem_mem h3)
    have hwi := wI (i := i) (by omega)
    have e1 := c_terms_CheckAxiom p hf
    by_cases h0 : checkAS p = 0
    · obtain ⟨j, ih⟩ := l_roles_check z l hl hx s cx r (i + 1) h2
      refine ⟨j, loop_step fun K hK => ?_⟩
      rw [← hK, show ((i + 1 : Nat) : Int) = (i : Int) + 1 from rfl] at ih
      clear hK h4 hx
      try simp at ih
      simp [ir_roles_check_L0, h3, h5, hwi, e1, h0, chkL, ih]
    · refine ⟨i, loop_step fun K hK => ?_⟩
      clear hK h4 hx
      simp [ir_roles_check_L0, h3, h5, hwi, e1, h0, chkL]
theorem c_roles_check (z : Bool) (l : List Ax) (hl : l.length ≤ 1000) (hx : ∀ x ∈ l, x.Few) (s : St) (cx : Ctx) : acallW P0 (.fn (.func F_roles_check) [] []) [slf z (l.map encA)] s cx = .ret (.i .i64 (chkL l)) s := by
  obtain ⟨j, h⟩ := l_roles_check z l hl hx s ⟨s.length, s.length⟩ l 0 rfl
  refine go_roles_check (by simp) ?_
  simp at h
  by_cases h0 : chkL l = 0 <;> simp [callFnW, ir_roles_check, h, h0]
theorem l_ref06_checked (z : Bool) (l : List Ax) (hl : l.length ≤ 1000) (hx : ∀ x ∈ l, x.Few) (s : St) (cx : Ctx) :
    ∀ (rest : List Ax) (i : Nat), l.drop i = rest →
    ∃ j : Int, loopW (acodeW P0.glob (acallW P0) cx false ir_ref06_checked_L0) [0, 3] [(0, .v (slf z (l.map encA))), (3, .v (.i .i64 i))] s =
      if chkL rest = 0 then .exit 0 [(0, .v (slf z (l.map encA))), (3, .v (.i .i64 j)), (8, .v (.b false))] s else .ret [(2, .v (.i .i64 (chkL rest)))] s
  | [], i, h => by
    have h1 : ¬ i < l.length := Nat.not_lt.2 (drop_nil h)
    refine ⟨i, loop_step fun K hK => ?_⟩
    simp [ir_ref06_checked_L0, h1, chkL]
  | p :: r, i, h => by
    obtain ⟨h1, h2, h3, h4⟩ := drop_cons h
    have h5 := h4 h3
    have hf := hx p (by rw [← h5]; exact List.getElem_mem h3)
    have hwi := wI (i := i) (by omega)
    have e1 := c_ref02_CheckAxiom p hf
    by_cases h0 : checkAS p = 0
    · obtain ⟨j, ih⟩ := l_ref06_checked z l hl hx s cx r (i + 1) h2
      refine ⟨j, loop_step fun K hK => ?_⟩
      rw [← hK, show ((i + 1 : Nat) : Int) = (i : Int) + 1 from rfl] at ih
      clear hK h4 hx
      try simp at ih
      simp [ir_ref06_checked_L0, h3, h5, hwi, e1, h0, chkL, ih]
    · refine ⟨i, loop_step fun K hK => ?_⟩
      clear hK h4 hx
      simp [ir_ref06_checked_L0, h3, h5, hwi, e1, h0, chkL]
theorem c_ref06_checked (z : Bool) (l : List Ax) (hl : l.length ≤ 1000) (hx : ∀ x ∈ l, x.Few) (s : St) (cx : Ctx) : acallW P0 (.fn (.func F_ref06_checked) [] []) [slf z (l.map encA)] s cx = .ret (.i .i64 (chkL l)) s := by
  obtain ⟨j, h⟩ := l_ref06_checked z l hl hx s ⟨s.length, s.length⟩ l 0 rfl
  refine go_ref06_checked (by simp) ?_
  simp at h
  by_cases h0 : chkL l = 0 <;> simp [callFnW, ir_ref06_checked, h, h0]
def nmOK (x : List UInt8) : Bool := plainS x || resS x
end Go.Ai.Z
