/-
  Equal in the order of concepts: equal but for flags of nil; the law on injective texts.
-/
import Derived.Test.YtomjajnlomdhpaaGreatDoorAiKH
import Derived.Test.YtomjajnlomdhpaaGreatDoorAiK7
import Derived.Test.YtomjajnlomdhpaaGreatDoorAiInj4
set_option maxRecDepth 100000
set_option linter.unusedSimpArgs false
set_option linter.unusedVariables false
namespace Go.Ai.Z
open Go.Lib (compareBytes)

theorem compareBytes_zero : ∀ (a b : List UInt8), compareBytes a b = 0 ↔ a = b
  | [], [] => by simp [compareBytes]
  | [], _ :: _ => by simp [compareBytes]
  | _ :: _, [] => by simp [compareBytes]
  | a :: x, b :: y => by
    unfold compareBytes
    by_cases h1 : a < b
    · simp [h1]; intro h; subst h; exact absurd h1 (by simp)
    · by_cases h2 : b < a
      · simp [h1, h2]; intro h; subst h; exact absurd h2 (by simp)
      · have hab : a = b := by
          apply UInt8.toNat_inj.1
          have q1 : ¬ a.toNat < b.toNat := fun h => h1 (UInt8.lt_iff_toNat_lt.2 h)
          have q2 : ¬ b.toNat < a.toNat := fun h => h2 (UInt8.lt_iff_toNat_lt.2 h)
          omega
        subst hab
        simp [h1, compareBytes_zero x y]

theorem size_nz : ∀ c : C, sizeC (nz c) = sizeC c := by
  refine C.ind' fun c ih => ?_
  rw [sizeC_eq, sizeC_eq c, nz_parts]
  congr 1
  have : ∀ l : List C, (∀ p ∈ l, sizeC (nz p) = sizeC p) → sizeL (l.map nz) = sizeL l := by
    intro l
    induction l with
    | nil => intro _; rfl
    | cons a r ih2 => intro h; simp only [List.map_cons, sizeL, h a (by simp), ih2 (fun p hp => h p (by simp [hp]))]
  exact this c.parts ih

theorem headT_zero {c d : C} : headT c d = 0 ↔ sizeC c = sizeC d ∧ c.kind = d.kind ∧ c.name = d.name ∧ c.lo = d.lo ∧ c.hi = d.hi := by
  unfold headT
  rw [orI_zero]
  simp [cmpI_zero, compareBytes_zero]
  intros; omega

theorem cmpTL_zero {x : List C} (ih : ∀ p ∈ x, ∀ d, cmpT p d = 0 ↔ nz p = nz d) : ∀ y : List C, cmpTL x y = 0 ↔ x.map nz = y.map nz := by
  induction x with
  | nil => intro y; cases y <;> simp [cmpTL]
  | cons a r ih2 =>
    intro y
    cases y with
    | nil => simp [cmpTL]
    | cons b q =>
      have h1 := ih a (by simp) b
      have h2 := ih2 (fun p hp => ih p (by simp [hp])) q
      by_cases hz : cmpT a b = 0
      · simp [cmpTL, hz, h2, h1.1 hz]
      · simp only [cmpTL, hz, if_false, List.map_cons, List.cons.injEq, false_iff]
        intro ⟨h3, _⟩
        exact hz (h1.2 h3)

theorem cmpT_zero : ∀ (c d : C), cmpT c d = 0 ↔ nz c = nz d := by
  refine C.ind' fun c ih d => ?_
  rw [cmpT_eq]
  have hl := cmpTL_zero ih d.parts
  constructor
  · intro h
    split at h
    · rename_i h0
      obtain ⟨h1, h2, h3, h4, h5⟩ := headT_zero.1 h0
      rw [nz_eq, nz_eq d, h2, h3, h4, h5, hl.1 h]
    · rename_i h0; exact absurd h h0
  · intro h
    have h1 : sizeC c = sizeC d := by rw [← size_nz c, h, size_nz]
    have h2 : c.kind = d.kind := by rw [← nz_kind c, h, nz_kind]
    have h3 : c.name = d.name := by rw [← nz_name c, h, nz_name]
    have h4 : c.lo = d.lo := by rw [← nz_lo c, h, nz_lo]
    have h5 : c.hi = d.hi := by rw [← nz_hi c, h, nz_hi]
    have h6 : c.parts.map nz = d.parts.map nz := by rw [← nz_parts, h, nz_parts]
    rw [if_pos (headT_zero.2 ⟨h1, h2, h3, h4, h5⟩)]
    exact hl.2 h6

theorem check_walk {c : C} (h : checkS c = 0) : walkS c = 0 := by
  unfold checkS at h
  split at h
  · cases h
  · exact h

end Go.Ai.Z
