/-
  Names: of which bytes they are, and that no keyword is one.
-/
import Derived.Test.YtbdaaoohblcfhaaDoorAiInj
import Derived.Test.YtbdaaoohblcfhaaDoorAiK5
set_option maxRecDepth 100000
set_option linter.unusedSimpArgs false
set_option linter.unusedVariables false
namespace Go.Ai.Z
open Go.Ai.Inj

/-- A byte of a name. -/
def nameB (b : UInt8) : Bool := innB b || b == 58
theorem tail_bytes : ∀ {l : List UInt8}, tailS l = true → ∀ b ∈ l, innB b = true
  | [], _, b, hb => by cases hb
  | a :: r, h, b, hb => by
    rw [tailS_cons, Bool.and_eq_true] at h
    rcases List.mem_cons.1 hb with rfl | hb
    · exact h.1
    · exact tail_bytes h.2 b hb
theorem word_parts {l : List UInt8} (h : wordS l = true) : (∃ b r, l = b :: r ∧ ltrB b = true) ∧ tailS l = true ∧ kwS l = false := by
  unfold wordS at h
  simp only [Bool.and_eq_true, Bool.not_eq_true'] at h
  obtain ⟨⟨h1, h2⟩, h3⟩ := h
  refine ⟨?_, h2, h3⟩
  cases l with
  | nil => cases h1
  | cons b r => exact ⟨b, r, rfl, h1⟩
theorem kw_colon {l : List UInt8} (h : 58 ∈ l) : kwS l = false := by
  unfold kwS
  cases e : keywords.contains l with
  | false => rfl
  | true =>
    have : l ∈ keywords := by simpa using e
    have all : ∀ k ∈ keywords, (58 : UInt8) ∉ k := by decide
    exact absurd h (all l this)
structure Name (l : List UInt8) : Prop where
  ne : l ≠ []
  bytes : ∀ b ∈ l, nameB b = true
  kw : kwS l = false
theorem plain_name {l : List UInt8} (h : plainS l = true) : Name l := by
  unfold plainS at h
  rw [Bool.and_eq_true] at h
  have h := h.2
  split at h
  · rename_i x y e
    have el := cutB_len e
    rw [Bool.and_eq_true] at h
    obtain ⟨⟨b, r, rfl, hb⟩, t1, _⟩ := word_parts h.1
    obtain ⟨_, t2, _⟩ := word_parts h.2
    refine ⟨by rw [el]; simp, fun c hc => ?_, kw_colon (by rw [el]; simp)⟩
    rw [el] at hc
    unfold nameB
    rcases List.mem_append.1 hc with hc | hc
    · rw [tail_bytes t1 c hc]; rfl
    · rcases List.mem_cons.1 hc with rfl | hc
      · simp
      · rw [tail_bytes t2 c hc]; rfl
  · obtain ⟨⟨b, r, rfl, hb⟩, t1, k⟩ := word_parts h
    exact ⟨by simp, fun c hc => by unfold nameB; rw [tail_bytes t1 c hc]; rfl, k⟩
theorem res_bytes {l : List UInt8} (h : resS l = true) : ∀ b ∈ l, nameB b = true := by
  unfold resS at h
  rw [Bool.and_eq_true] at h
  intro b hb
  unfold nameB
  rw [tail_bytes h.2 b hb]; rfl
end Go.Ai.Z
