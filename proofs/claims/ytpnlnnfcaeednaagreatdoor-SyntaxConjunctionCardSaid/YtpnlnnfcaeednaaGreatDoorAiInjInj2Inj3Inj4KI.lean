/-
 Numerals and words can be read back.
-/
import Derived.Lib.ItoaNum
import Derived.Test.YtpnlnnfcaeednaaGreatDoorAiK5K6K7
import Derived.Test.YtpnlnnfcaeednaaGreatDoorAiKGKH
set_option maxRecDepth 100000
set_option linter.unusedSimpArgs false
set_option linter.unusedVariables false
set_option linter.unusedSectionVars false
namespace Go.Ai.Inj
open Go.Lib (itoa decDigits)
def Stops (p : UInt8 → Bool) (u : List UInt8) : Prop := ∀ b r, u = b :: r → p b = false
end Go.Ai.Inj
namespace Go.Ai.Z
open Go.Ai.Inj
def nameB (b : UInt8) : Bool := innB b || b == 58
theorem tail_bytes : ∀ {l : List UInt8}, tailS l = true → ∀ b ∈ l, innB b = true
 | [], _, b, hb => by cases hb
 | a :: r, h, b, hb => by
  rw [tailS_cons, Bool.and_eq_true] at h
  rcases List.mem_cons.1 hb with rfl | hb
  ·exact h.1
  ·exact tail_bytes h.2 b hb
theorem word_parts {l : List UInt8} (h : wordS l = true) : (∃ b r, l = b :: r ∧ ltrB b = true) ∧ tailS l = true ∧ kwS l = false := by
 unfold wordS at h
 simp only [Bool.and_eq_true, Bool.not_eq_true'] at h
 obtain ⟨⟨h1, h2⟩, h3⟩ := h
 refine ⟨?_, h2, h3⟩
 cases l with
 | nil => cases h1
 | cons b r => exact ⟨b, r, rfl, h1⟩
theorem kw_colon {l : List UInt8} (h : 58 ∈ l) : kwS l = false := by
 unfold kwS
 cases e : keywords.contains l with
 | false => rfl
 | true =>
  have : l ∈ keywords := by simpa using e
  have all : ∀ k ∈ keywords, (58 : UInt8) ∉ k := by decide
  exact absurd h (all l this)
structure Name (l : List UInt8) : Prop where
 ne : l ≠ []
 bytes : ∀ b ∈ l, nameB b = true
 kw : kwS l = false
theorem plain_name {l : List UInt8} (h : plainS l = true) : Name l := by
 unfold plainS at h
 rw [Bool.and_eq_true] at h
 have h := h.2
 split at h
 ·rename_i x y e
  have el := cutB_len e
  rw [Bool.and_eq_true] at h
  obtain ⟨⟨b, r, rfl, hb⟩, t1, _⟩ := word_parts h.1
  obtain ⟨_, t2, _⟩ := word_parts h.2
  refine ⟨by rw [el]; simp, fun c hc => ?_, kw_colon (by rw [el]; simp)⟩
  rw [el] at hc
  unfold nameB
  rcases List.mem_append.1 hc with hc | hc
  ·rw [tail_bytes t1 c hc]; rfl
  ·rcases List.mem_cons.1 hc with rfl | hc
   ·simp
   ·rw [tail_bytes t2 c hc]; rfl
 ·obtain ⟨⟨b, r, rfl, hb⟩, t1, k⟩ := word_parts h
  exact ⟨by simp, fun c hc => by unfold nameB; rw [tail_bytes t1 c hc]; rfl, k⟩
end Go.Ai.Z
namespace Go.Ai.Z
open Go.Ai.Inj
open Go.Lib (itoa)
mutual
def nz : C → C
 | .mk k n l h _ ps => .mk k n l h false (nzL ps)
def nzL : List C → List C
 | [] => []
 | p :: r => nz p :: nzL r
end
theorem nzL_eq : ∀ l : List C, nzL l = l.map nz
 | [] => rfl
 | p :: r => by simp [nzL, nzL_eq r]
theorem nz_eq (c : C) : nz c = .mk c.kind c.name c.lo c.hi false (c.parts.map nz) := by
 cases c; simp [nz, nzL_eq, C.kind, C.name, C.lo, C.hi, C.parts]
inductive View (c : C) : Prop where
 | top (e : opS c = [101, 118, 101, 114, 121, 116, 104, 105, 110, 103]) (z : nz c = .mk 1 [] 0 0 false [])
 | bot (e : opS c = [110, 111, 116, 104, 105, 110, 103]) (z : nz c = .mk 2 [] 0 0 false [])
 | nam (n : List UInt8) (hn : Name n) (e : opS c = n) (z : nz c = .mk 3 n 0 0 false [])
 | nom (n : List UInt8) (hn : ∀ b ∈ n, nameB b = true) (e : opS c = 123 :: (n ++ [125])) (z : nz c = .mk 4 n 0 0 false [])
 | rng (n : List UInt8) (lo hi : Int) (hn : Name n) (e : opS c = n ++ (32 :: 105 :: 110 :: 32 :: (itoa lo ++ (32 :: 116 :: 111 :: 32 :: itoa hi)))) (z : nz c = .mk 7 n lo hi false [])
 | som (n : List UInt8) (a : C) (hn : Name n) (ha : a ∈ c.parts) (e : opS c = [115, 111, 109, 101] ++ (32 :: (n ++ (32 :: opS a)))) (z : nz c = .mk 6 n 0 0 false [nz a])
 | and (h2 : 2 ≤ c.parts.length) (e : opS c = 40 :: (joinL andB (c.parts.map opS) ++ [41])) (z : nz c = .mk 5 [] 0 0 false (c.parts.map nz))
structure Word (c : C) (u w t : List UInt8) : Prop where
 e : opS c ++ u = w ++ t
 b : ∀ x ∈ w, nameB x = true
 ne : w ≠ []
 st : Stops nameB t
 d : (w = [101, 118, 101, 114, 121, 116, 104, 105, 110, 103] ∧ t = u ∧ nz c = .mk 1 [] 0 0 false []) ∨ (w = [110, 111, 116, 104, 105, 110, 103] ∧ t = u ∧ nz c = .mk 2 [] 0 0 false []) ∨
  (kwS w = false ∧ t = u ∧ nz c = .mk 3 w 0 0 false []) ∨ (kwS w = false ∧ ∃ lo hi, t = 32 :: 105 :: 110 :: 32 :: (itoa lo ++ (32 :: 116 :: 111 :: 32 :: (itoa hi ++ u))) ∧ nz c = .mk 7 w lo hi false []) ∨
  (w = [115, 111, 109, 101] ∧ ∃ n a, Name n ∧ a ∈ c.parts ∧ t = 32 :: (n ++ 32 :: (opS a ++ u)) ∧ nz c = .mk 6 n 0 0 false [nz a])
end Go.Ai.Z
namespace Go.Ai.Z
theorem nz_kind (c : C) : (nz c).kind = c.kind := by rw [nz_eq]; rfl
theorem nz_name (c : C) : (nz c).name = c.name := by rw [nz_eq]; rfl
theorem nz_lo (c : C) : (nz c).lo = c.lo := by rw [nz_eq]; rfl
theorem nz_hi (c : C) : (nz c).hi = c.hi := by rw [nz_eq]; rfl
theorem nz_parts (c : C) : (nz c).parts = c.parts.map nz := by rw [nz_eq]; rfl
end Go.Ai.Z
namespace Go.Ai.Z
open Go.Lib (compareBytes)
theorem compareBytes_zero : ∀ (a b : List UInt8), compareBytes a b = 0 ↔ a = b
 | [], [] => by simp [compareBytes]
 | [], _ :: _ => by simp [compareBytes]
 | _ :: _, [] => by simp [compareBytes]
 | a :: x, b :: y => by
  unfold compareBytes
  by_cases h1 : a < b
  ·simp [h1]; intro h; subst h; exact absurd h1 (by simp)
  ·by_cases h2 : b < a
   ·simp [h1, h2]; intro h; subst h; exact absurd h2 (by simp)
   ·have hab : a = b := by
     apply UInt8.toNat_inj.1
     have q1 : ¬ a.toNat < b.toNat := fun h => h1 (UInt8.lt_iff_toNat_lt.2 h)
     have q2 : ¬ b.toNat < a.toNat := fun h => h2 (UInt8.lt_iff_toNat_lt.2 h)
     omega
    subst hab
    simp [h1, compareBytes_zero x y]
theorem size_nz : ∀ c : C, sizeC (nz c) = sizeC c := by
 refine C.ind' fun c ih => ?_
 rw [sizeC_eq, sizeC_eq c, nz_parts]
 congr 1
 have : ∀ l : List C, (∀ p ∈ l, sizeC (nz p) = sizeC p) → sizeL (l.map nz) = sizeL l := by
  intro l
  induction l with
  | nil => intro _; rfl
  | cons a r ih2 => intro h; simp only [List.map_cons, sizeL, h a (by simp), ih2 (fun p hp => h p (by simp [hp]))]
 exact this c.parts ih
theorem headT_zero {c d : C} : headT c d = 0 ↔ sizeC c = sizeC d ∧ c.kind = d.kind ∧ c.name = d.name ∧ c.lo = d.lo ∧ c.hi = d.hi := by
 unfold headT
 rw [orI_zero]
 simp [cmpI_zero, compareBytes_zero]
 intros; omega
theorem cmpTL_zero {x : List C} (ih : ∀ p ∈ x, ∀ d, cmpT p d = 0 ↔ nz p = nz d) : ∀ y : List C, cmpTL x y = 0 ↔ x.map nz = y.map nz := by
 induction x with
 | nil => intro y; cases y <;> simp [cmpTL]
 | cons a r ih2 =>
  intro y
  cases y with
  | nil => simp [cmpTL]
  | cons b q =>
   have h1 := ih a (by simp) b
   have h2 := ih2 (fun p hp => ih p (by simp [hp])) q
   by_cases hz : cmpT a b = 0
   ·simp [cmpTL, hz, h2, h1.1 hz]
   ·simp only [cmpTL, hz, if_false, List.map_cons, List.cons.injEq, false_iff]
    intro ⟨h3, _⟩
    exact hz (h1.2 h3)
theorem cmpT_zero : ∀ (c d : C), cmpT c d = 0 ↔ nz c = nz d := by
 refine C.ind' fun c ih d => ?_
 rw [cmpT_eq]
 have hl := cmpTL_zero ih d.parts
 constructor
 ·intro h
  split at h
  ·rename_i h0
   obtain ⟨h1, h2, h3, h4, h5⟩ := headT_zero.1 h0
   rw [nz_eq, nz_eq d, h2, h3, h4, h5, hl.1 h]
  ·rename_i h0; exact absurd h h0
 ·intro h
  have h1 : sizeC c = sizeC d := by rw [← size_nz c, h, size_nz]
  have h2 : c.kind = d.kind := by rw [← nz_kind c, h, nz_kind]
  have h3 : c.name = d.name := by rw [← nz_name c, h, nz_name]
  have h4 : c.lo = d.lo := by rw [← nz_lo c, h, nz_lo]
  have h5 : c.hi = d.hi := by rw [← nz_hi c, h, nz_hi]
  have h6 : c.parts.map nz = d.parts.map nz := by rw [← nz_parts, h, nz_parts]
  rw [if_pos (headT_zero.2 ⟨h1, h2, h3, h4, h5⟩)]
  exact hl.2 h6
theorem check_walk {c : C} (h : checkS c = 0) : walkS c = 0 := by
 unfold checkS at h
 split at h
 ·cases h
 ·exact h
end Go.Ai.Z
