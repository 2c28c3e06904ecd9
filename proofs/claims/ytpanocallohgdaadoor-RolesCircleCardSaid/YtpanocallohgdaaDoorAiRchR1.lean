/-
 Which roles are contained in which: rounds of a list of pairs reach all that can be reached.
-/
import Derived.Test.YtpanocallohgdaaDoorAiC1
import Derived.Test.YtpanocallohgdaaDoorAiK12
import Derived.Test.YtpanocallohgdaaDoorAiK11
set_option maxRecDepth 100000
set_option linter.unusedSimpArgs false
set_option linter.unusedVariables false
namespace Go.Ai
inductive Rch (E : List (List UInt8 × List UInt8)) : List UInt8 → List UInt8 → Prop where
 | refl (a : List UInt8) : Rch E a a
 | step {a b c : List UInt8} : Rch E a b → (b, c) ∈ E → Rch E a c
theorem Rch.trans {E : List (List UInt8 × List UInt8)} {a b c : List UInt8} (h : Rch E a b) (h' : Rch E b c) : Rch E a c := by
 induction h' with
 | refl => exact h
 | step _ he ih => exact .step ih he
theorem Rch.one {E : List (List UInt8 × List UInt8)} {a b : List UInt8} (h : (a, b) ∈ E) : Rch E a b := .step (.refl a) h
theorem Rch.mono {E E' : List (List UInt8 × List UInt8)} (hE : ∀ p ∈ E, p ∈ E') {a b : List UInt8} (h : Rch E a b) : Rch E' a b := by
 induction h with
 | refl => exact .refl _
 | step _ he ih => exact .step ih (hE _ he)
def Srt (l : List (List UInt8)) : Prop := l.Pairwise fun a b => a < b
theorem Srt.nodup {l : List (List UInt8)} (h : Srt l) : l.Nodup := h.imp fun {a b} hab he => by subst he; exact List.lt_irrefl a hab
theorem Srt.ext {l l' : List (List UInt8)} (h : Srt l) (h' : Srt l') (hm : ∀ x, x ∈ l ↔ x ∈ l') : l = l' :=
 List.Perm.eq_of_pairwise (le := fun a b => a < b) (fun a b _ _ h1 h2 => absurd h2 (List.lt_asymm h1)) h h' ((List.perm_ext_iff_of_nodup h.nodup h'.nodup).2 hm)
theorem isort_srt {l : List (List UInt8)} (h : l.Nodup) : Srt (isort l) := by
 have h1 := isort_sorted l
 have h2 : (isort l).Nodup := (isort_perm l).nodup_iff.2 h
 refine (h1.and h2).imp fun {a b} hab => ?_
 rcases List.le_iff_lt_or_eq.1 hab.1 with h | h
 ·exact h
 ·exact absurd h hab.2
theorem strictS_of : ∀ {l : List (List UInt8)}, Srt l → strictS l = true
 | [], _ => rfl
 | [a], _ => rfl
 | a :: b :: r, h => by
  obtain ⟨h1, h2⟩ := List.pairwise_cons.1 h
  simp only [strictS, Bool.and_eq_true, decide_eq_true_eq]
  exact ⟨h1 b (by simp), strictS_of h2⟩
def withS (l : List (List UInt8)) (s : List UInt8) : List (List UInt8) :=
 if s ∈ l then l else l.takeWhile (fun x => decide (x < s)) ++ s :: l.dropWhile (fun x => decide (x < s))
theorem mem_withS {l : List (List UInt8)} {s x : List UInt8} : x ∈ withS l s ↔ x = s ∨ x ∈ l := by
 unfold withS
 split
 ·rename_i h
  constructor
  ·exact .inr
  ·rintro (rfl | h'); exact h; exact h'
 ·have : x ∈ l ↔ x ∈ l.takeWhile (fun x => decide (x < s)) ∨ x ∈ l.dropWhile (fun x => decide (x < s)) := by
   rw [← List.mem_append, List.takeWhile_append_dropWhile]
  rw [this]
  simp only [List.mem_append, List.mem_cons]
  constructor
  ·rintro (h | h | h); exact .inr (.inl h); exact .inl h; exact .inr (.inr h)
  ·rintro (h | h | h); exact .inr (.inl h); exact .inl h; exact .inr (.inr h)
theorem srt_drop {s : List UInt8} : ∀ {l : List (List UInt8)}, Srt l → s ∉ l → ∀ x ∈ l.dropWhile (fun x => decide (x < s)), s < x
 | [], _, _, x, hx => by simp at hx
 | a :: r, h, hn, x, hx => by
  obtain ⟨h1, h2⟩ := List.pairwise_cons.1 h
  simp only [List.dropWhile_cons] at hx
  split at hx
  ·exact srt_drop h2 (fun hm => hn (by simp [hm])) x hx
  ·rename_i hlt
   have hlt' : ¬ a < s := by simpa using hlt
   have hsa : s < a := by
    rcases List.le_iff_lt_or_eq.1 (List.not_lt.1 hlt') with h | h
    ·exact h
    ·exact absurd (by simp [h]) hn
   rcases List.mem_cons.1 hx with rfl | hx
   ·exact hsa
   ·exact List.lt_trans hsa (h1 x hx)
theorem srt_withS {l : List (List UInt8)} {s : List UInt8} (h : Srt l) : Srt (withS l s) := by
 unfold withS
 split
 ·exact h
 ·rename_i hn
  have h0 : Srt (l.takeWhile (fun x => decide (x < s)) ++ l.dropWhile (fun x => decide (x < s))) := by rw [List.takeWhile_append_dropWhile]; exact h
  obtain ⟨h1, h2, h3⟩ := List.pairwise_append.1 h0
  have ht : ∀ a ∈ l.takeWhile (fun x => decide (x < s)), a < s := fun a ha => by
   have := List.all_eq_true.1 (List.all_takeWhile (p := fun x => decide (x < s)) (l := l)) a ha
   simpa using this
  have hd := srt_drop h hn
  refine List.pairwise_append.2 ⟨h1, List.pairwise_cons.2 ⟨hd, h2⟩, fun a ha b hb => ?_⟩
  rcases List.mem_cons.1 hb with rfl | hb
  ·exact ht a ha
  ·exact h3 a ha b hb
end Go.Ai
namespace Go.Ai.Z
theorem bytesLess_lt : ∀ (x y : List UInt8), Op.bytesLess x y = decide (x < y)
 | [], [] => by simp [Op.bytesLess]
 | [], y :: ys => by simp [Op.bytesLess]
 | x :: xs, [] => by simp [Op.bytesLess]
 | x :: xs, y :: ys => by
  have ih := bytesLess_lt xs ys
  simp only [Op.bytesLess, ih, List.cons_lt_cons_iff]
  by_cases h1 : x < y
  ·simp [h1]
  ·by_cases h2 : x = y
   ·subst h2; simp [h1]
   ·simp [h1, h2]
def chkL : List Ax → Int
 | [] => 0
 | x :: r => if checkAS x = 0 then chkL r else checkAS x
theorem l_roles_check (z : Bool) (l : List Ax) (hl : l.length ≤ 1000) (hx : ∀ x ∈ l, x.Few) (s : St) (cx : Ctx) :
  ∀ (rest : List Ax) (i : Nat), l.drop i = rest →
  ∃ j : Int, loopW (acodeW P0.glob (acallW P0) cx false ir_roles_check_L0) [6, 7, 8] [(6, .v (slf z (l.map encA))), (7, .v (.i .i64 l.length)), (8, .v (.i .i64 i))] s =
   if chkL rest = 0 then .exit 0 [(6, .v (slf z (l.map encA))), (7, .v (.i .i64 l.length)), (8, .v (.i .i64 j)), (9, .v (.b false))] s else .ret [(2, .v (.i .i64 (chkL rest)))] s
 | [], i, h => by
  have h1 : ¬ i < l.length := Nat.not_lt.2 (drop_nil h)
  refine ⟨i, loop_step fun K hK => ?_⟩
  simp [ir_roles_check_L0, h1, chkL]
 | p :: r, i, h => by
  obtain ⟨h1, h2, h3, h4⟩ := drop_cons h
  have h5 := h4 h3
  have hf := hx p (by rw [← h5]; exact List.getElem_mem h3)
  have hwi := wI (i := i) (by omega)
  have e1 := c_terms_CheckAxiom p hf
  by_cases h0 : checkAS p = 0
  ·obtain ⟨j, ih⟩ := l_roles_check z l hl hx s cx r (i + 1) h2
   refine ⟨j, loop_step fun K hK => ?_⟩
   rw [← hK, show ((i + 1 : Nat) : Int) = (i : Int) + 1 from rfl] at ih
   clear hK h4 hx
   try simp at ih
   simp [ir_roles_check_L0, h3, h5, hwi, e1, h0, chkL, ih]
  ·refine ⟨i, loop_step fun K hK => ?_⟩
   clear hK h4 hx
   simp [ir_roles_check_L0, h3, h5, hwi, e1, h0, chkL]
theorem c_roles_check (z : Bool) (l : List Ax) (hl : l.length ≤ 1000) (hx : ∀ x ∈ l, x.Few) (s : St) (cx : Ctx) : acallW P0 (.fn (.func F_roles_check) [] []) [slf z (l.map encA)] s cx = .ret (.i .i64 (chkL l)) s := by
 obtain ⟨j, h⟩ := l_roles_check z l hl hx s ⟨s.length, s.length⟩ l 0 rfl
 refine go_roles_check (by simp) ?_
 simp at h
 by_cases h0 : chkL l = 0 <;> simp [callFnW, ir_roles_check, h, h0]
def nmOK (x : List UInt8) : Bool := plainS x || resS x
end Go.Ai.Z
