/-
  Numerals and words can be read back.
-/
import Derived.Lib.ItoaNum
import Derived.Test.YtomjajnlomdhpaaDoorAiK5
set_option maxRecDepth 100000
set_option linter.unusedSimpArgs false
set_option linter.unusedVariables false
namespace Go.Ai.Inj
open Go.Lib (itoa decDigits)

def decVal (l : List UInt8) : Nat := l.foldl (fun a b => a * 10 + (b.toNat - 48)) 0
theorem decVal_dec : ∀ u : Nat, decVal (decDigits u) = u := by
  intro u
  induction u using Nat.strongRecOn with
  | ind u ih =>
    rw [decDigits]
    split
    · rename_i h
      simp [decVal, UInt8.toNat_ofNat']
      omega
    · rename_i h
      have h1 := ih (u / 10) (by omega)
      simp only [decVal, List.foldl_append, List.foldl_cons, List.foldl_nil] at h1 ⊢
      rw [h1]
      simp [UInt8.toNat_ofNat']
      omega
def isDig (b : UInt8) : Bool := decide (48 ≤ b.toNat) && decide (b.toNat ≤ 57)
theorem dec_digits : ∀ u : Nat, ∀ b ∈ decDigits u, isDig b = true := by
  intro u
  induction u using Nat.strongRecOn with
  | ind u ih =>
    rw [decDigits]
    split
    · intro b hb
      simp at hb
      subst hb
      simp [isDig, UInt8.toNat_ofNat']
      omega
    · intro b hb
      rcases List.mem_append.1 hb with hb | hb
      · exact ih (u / 10) (by omega) b hb
      · simp at hb
        subst hb
        simp [isDig, UInt8.toNat_ofNat']
        omega
theorem dec_ne (u : Nat) : decDigits u ≠ [] := by rw [decDigits]; split <;> simp
theorem itoa_inj {m n : Int} (h : itoa m = itoa n) : m = n := by
  unfold itoa at h
  have key : ∀ u v : Nat, 45 :: decDigits u ≠ decDigits v := by
    intro u v e
    have := dec_digits v 45 (by rw [← e]; simp)
    simp [isDig] at this
  split at h <;> split at h
  · have := congrArg decVal (List.cons.inj h).2
    rw [decVal_dec, decVal_dec] at this; omega
  · exact absurd h (key _ _)
  · exact absurd h.symm (key _ _)
  · have := congrArg decVal h
    rw [decVal_dec, decVal_dec] at this; omega
/-- A byte of a numeral. -/
def numB (b : UInt8) : Bool := isDig b || b == 45
theorem itoa_num (n : Int) : ∀ b ∈ itoa n, numB b = true := by
  intro b hb
  unfold itoa at hb
  split at hb
  · rcases List.mem_cons.1 hb with rfl | hb
    · rfl
    · simp [numB, dec_digits _ b hb]
  · simp [numB, dec_digits _ b hb]

/-- What comes behind begins with no byte of p. -/
def Stops (p : UInt8 → Bool) (u : List UInt8) : Prop := ∀ b r, u = b :: r → p b = false
/-- A row of bytes of p ends where the first other byte stands. -/
theorem span_eq {p : UInt8 → Bool} : ∀ {a b u v : List UInt8}, (∀ x ∈ a, p x = true) → (∀ x ∈ b, p x = true) → Stops p u → Stops p v → a ++ u = b ++ v → a = b ∧ u = v
  | [], [], u, v, _, _, _, _, h => ⟨rfl, h⟩
  | [], y :: b, u, v, _, hb, hu, _, h => by
    have := hu y (b ++ v) (by simpa using h)
    rw [hb y (by simp)] at this; cases this
  | x :: a, [], u, v, ha, _, _, hv, h => by
    have := hv x (a ++ u) (by simpa using h.symm)
    rw [ha x (by simp)] at this; cases this
  | x :: a, y :: b, u, v, ha, hb, hu, hv, h => by
    simp only [List.cons_append, List.cons.injEq] at h
    obtain ⟨e, h⟩ := h
    obtain ⟨e1, e2⟩ := span_eq (fun z hz => ha z (by simp [hz])) (fun z hz => hb z (by simp [hz])) hu hv h
    exact ⟨by rw [e, e1], e2⟩
end Go.Ai.Inj

/-
  Names: of which bytes they are, and that no keyword is one.
-/
namespace Go.Ai.Z
open Go.Ai.Inj

/-- A byte of a name. -/
def nameB (b : UInt8) : Bool := innB b || b == 58
theorem tail_bytes : ∀ {l : List UInt8}, tailS l = true → ∀ b ∈ l, innB b = true
  | [], _, b, hb => by cases hb
  | a :: r, h, b, hb => by
    rw [tailS_cons, Bool.and_eq_true] at h
    rcases List.mem_cons.1 hb with rfl | hb
    · exact h.1
    · exact tail_bytes h.2 b hb
theorem word_parts {l : List UInt8} (h : wordS l = true) : (∃ b r, l = b :: r ∧ ltrB b = true) ∧ tailS l = true ∧ kwS l = false := by
  unfold wordS at h
  simp only [Bool.and_eq_true, Bool.not_eq_true'] at h
  obtain ⟨⟨h1, h2⟩, h3⟩ := h
  refine ⟨?_, h2, h3⟩
  cases l with
  | nil => cases h1
  | cons b r => exact ⟨b, r, rfl, h1⟩
theorem kw_colon {l : List UInt8} (h : 58 ∈ l) : kwS l = false := by
  unfold kwS
  cases e : keywords.contains l with
  | false => rfl
  | true =>
    have : l ∈ keywords := by simpa using e
    have all : ∀ k ∈ keywords, (58 : UInt8) ∉ k := by decide
    exact absurd h (all l this)
structure Name (l : List UInt8) : Prop where
  ne : l ≠ []
  bytes : ∀ b ∈ l, nameB b = true
  kw : kwS l = false
theorem plain_name {l : List UInt8} (h : plainS l = true) : Name l := by
  unfold plainS at h
  rw [Bool.and_eq_true] at h
  have h := h.2
  split at h
  · rename_i x y e
    have el := cutB_len e
    rw [Bool.and_eq_true] at h
    obtain ⟨⟨b, r, rfl, hb⟩, t1, _⟩ := word_parts h.1
    obtain ⟨_, t2, _⟩ := word_parts h.2
    refine ⟨by rw [el]; simp, fun c hc => ?_, kw_colon (by rw [el]; simp)⟩
    rw [el] at hc
    unfold nameB
    rcases List.mem_append.1 hc with hc | hc
    · rw [tail_bytes t1 c hc]; rfl
    · rcases List.mem_cons.1 hc with rfl | hc
      · simp
      · rw [tail_bytes t2 c hc]; rfl
  · obtain ⟨⟨b, r, rfl, hb⟩, t1, k⟩ := word_parts h
    exact ⟨by simp, fun c hc => by unfold nameB; rw [tail_bytes t1 c hc]; rfl, k⟩
theorem res_bytes {l : List UInt8} (h : resS l = true) : ∀ b ∈ l, nameB b = true := by
  unfold resS at h
  rw [Bool.and_eq_true] at h
  intro b hb
  unfold nameB
  rw [tail_bytes h.2 b hb]; rfl
end Go.Ai.Z
