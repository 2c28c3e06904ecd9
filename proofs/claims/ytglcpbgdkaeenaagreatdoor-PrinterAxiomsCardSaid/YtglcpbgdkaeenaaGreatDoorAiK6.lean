/-
  The printers of concepts.
-/
import Derived.Test.YtglcpbgdkaeenaaGreatDoorAiK5
set_option maxRecDepth 100000
set_option linter.unusedSimpArgs false
set_option linter.unusedVariables false
namespace Go.Ai.Z
open Go.Lib (itoa)

theorem kd {x j : Int} (k : x = j) : decide (x = j) = true := by simp [k]
theorem kn {x j : Int} (i : Int) (k : x = j) (h : decide (j = i) = false) : decide (x = i) = false := by rw [k]; exact h

theorem c_ref04_Operand_of (c : C) (hl : (textS c).length ≤ 1000000) (hT : ∀ (s : St) (cx : Ctx), acallW P0 (.fn (.func F_ref04_Text) [] []) [encC c] s cx = .ret (.s (textS c)) s) (s : St) (cx : Ctx) :
    acallW P0 (.fn (.func F_ref04_Operand) [] []) [encC c] s cx = .ret (.s (opS c)) s := by
  refine go_ref04_Operand (by simp) ?_
  have l1 : (textS c).length + 1 ≤ 4611686018427387904 := by omega
  have l2 : (textS c).length + 1 + 1 ≤ 4611686018427387904 := by omega
  unfold opS
  by_cases h5 : c.kind = 5
  · rw [if_pos h5]; simp [callFnW, ir_ref04_Operand, hT, kd h5, l1, l2]
  · rw [if_neg h5]; simp [callFnW, ir_ref04_Operand, hT, h5]

theorem l_ref04_Text (s : St) (cx : Ctx) (c : C) (hps : c.parts.length ≤ 100000) 
    (ih : ∀ p ∈ c.parts, ∀ (s : St) (cx : Ctx), acallW P0 (.fn (.func F_ref04_Operand) [] []) [encC p] s cx = .ret (.s (opS p)) s) :
    ∀ (rest : List C) (i : Nat) (t : List UInt8), c.parts.drop i = rest → 0 < i → t.length + (rest.map fun p => (opS p).length + 5).sum ≤ 1000000 →
    ∃ j : Int, loopW (acodeW P0.glob (acallW P0) cx false ir_ref04_Text_L0) [1, 3, 4] [(1, .bx (encC c).cells), (3, .v (.s t)), (4, .v (.i .i64 i))] s =
      .exit 1 [(1, .bx (encC c).cells), (3, .v (.s (t ++ (rest.map opS).flatMap fun y => andB ++ y))), (4, .v (.i .i64 j)), (51, .v (.b false))] s
  | [], i, t, h, hi, ht => by
    have h1 : ¬ i < c.parts.length := Nat.not_lt.2 (drop_nil h)
    refine ⟨i, loop_step fun K hK => ?_⟩
    simp [ir_ref04_Text_L0, h1]
  | p :: r, i, t, h, hi, ht => by
    obtain ⟨h1, h2, h3, h4⟩ := drop_cons h
    have h5 := h4 h3
    have hp : p ∈ c.parts := by rw [← h5]; exact List.getElem_mem h3
    have hwi := wI (i := i) (by omega)
    simp only [List.map_cons, List.sum_cons] at ht
    obtain ⟨j, ih2⟩ := l_ref04_Text s cx c hps ih r (i + 1) (t ++ andB ++ opS p) h2 (by omega) (by simp [andB]; omega)
    refine ⟨j, loop_step fun K hK => ?_⟩
    rw [← hK] at ih2
    have e1 := ih p hp
    clear hK h4 ih
    simp [andB] at ih2
    have l1 : t.length + 5 ≤ 4611686018427387904 := by omega
    have l2 : t.length + (5 + (opS p).length) ≤ 4611686018427387904 := by omega
    have l3 : t.length + ((opS p).length + 5) ≤ 4611686018427387904 := by omega
    have l4 : t.length + ((opS p).length + 1 + 1 + 1 + 1 + 1) ≤ 4611686018427387904 := by omega
    simp [ir_ref04_Text_L0, h3, h5, hwi, hi, e1, l1, l2, l3, l4, ih2, andB]

theorem sum_ops {l : List C} (h : ∀ p ∈ l, (opS p).length + 8 ≤ 110 * wC p) : (l.map fun p => (opS p).length + 5).sum ≤ 110 * wL l := by
  induction l with
  | nil => simp
  | cons a r ih =>
    have h1 := h a (by simp)
    have h2 := ih (fun p hp => h p (by simp [hp]))
    simp [wL]; omega
theorem op_len {p : C} (h : walkS p = 0) : (opS p).length + 8 ≤ 110 * wC p := by
  have := text_len p h
  unfold opS; split <;> simp <;> omega

theorem c_ref04_Text : ∀ (c : C), wC c ≤ 1000 → walkS c = 0 → ∀ (s : St) (cx : Ctx), acallW P0 (.fn (.func F_ref04_Text) [] []) [encC c] s cx = .ret (.s (textS c)) s := by
  refine C.ind' fun c ih hw hv s cx => ?_
  obtain ⟨v1, v2, v3⟩ := walk_ok hv
  have hw' := hw
  rw [wC_eq] at hw'
  have hO : ∀ p ∈ c.parts, ∀ (s : St) (cx : Ctx), acallW P0 (.fn (.func F_ref04_Operand) [] []) [encC p] s cx = .ret (.s (opS p)) s := fun p hp =>
    c_ref04_Operand_of p (by have := text_len p (v3 p hp); have := wL_mem hp; omega) (ih p hp (by have := wL_mem hp; omega) (v3 p hp))
  have hl : ∀ p ∈ c.parts, (opS p).length + 8 ≤ 110 * wC p := fun p hp => op_len (v3 p hp)
  clear ih
  refine go_ref04_Text (by simp) ?_
  rcases shape_kind v1 with k | k | k | k | ⟨k, k1, k2, k3⟩ | ⟨k, k1⟩ | ⟨k, k1⟩
  · rw [show textS c = _ from by rw [textS_eq, if_pos k]]
    simp [callFnW, ir_ref04_Text, kd k]
  · rw [show textS c = _ from by rw [textS_eq, if_neg (by omega), if_pos k]]
    simp [callFnW, ir_ref04_Text, kd k, kn 1 k rfl]
  · rw [show textS c = _ from by rw [textS_eq, if_neg (by omega), if_neg (by omega), if_pos k]]
    simp [callFnW, ir_ref04_Text, kd k, kn 1 k rfl, kn 2 k rfl]
  · rw [show textS c = _ from by rw [textS_eq, if_neg (by omega), if_neg (by omega), if_neg (by omega), if_pos k]]
    have l1 : c.name.length + 1 ≤ 4611686018427387904 := by omega
    have l2 : c.name.length + 1 + 1 ≤ 4611686018427387904 := by omega
    simp [callFnW, ir_ref04_Text, kd k, kn 1 k rfl, kn 2 k rfl, kn 3 k rfl, l1, l2]
  · rw [show textS c = _ from by rw [textS_eq, if_neg (by omega), if_neg (by omega), if_neg (by omega), if_neg (by omega), if_pos k]]
    have l1 := Go.Lib.itoa_length_le c.lo (by omega) (by omega)
    have l2 := Go.Lib.itoa_length_le c.hi (by omega) (by omega)
    have e1 := c_ref04_Decimal c.lo (by omega) (by omega)
    have e2 := c_ref04_Decimal c.hi (by omega) (by omega)
    have hn : c.name.length ≤ 100000 := by omega
    simp [callFnW, ir_ref04_Text, kd k, kn 1 k rfl, kn 2 k rfl, kn 3 k rfl, kn 4 k rfl, e1, e2]
    clear hO hl v3
    repeat' (first | (split <;> (try simp only [opT_go, opF_go, cdT_go, qT_go, qN_go]) <;> (try simp [*])) | (simp only [opT_go, opF_go, cdT_go, qT_go, qN_go] <;> (try simp [*])) | omega)
  · rcases hps : c.parts with _ | ⟨a, r⟩
    · simp [hps] at k1
    · have e1 := hO a (by simp [hps])
      have l1 := hl a (by simp [hps])
      rw [show textS c = _ from by rw [textS_eq, if_neg (by omega), if_neg (by omega), if_neg (by omega), if_neg (by omega), if_neg (by omega), if_pos k]]
      simp [callFnW, ir_ref04_Text, kd k, kn 1 k rfl, kn 2 k rfl, kn 3 k rfl, kn 4 k rfl, kn 7 k rfl, e1, hps]
      have hwa : wC a ≤ 1000 := by have := wL_mem (p := a) (l := c.parts) (by simp [hps]); omega
      clear hO hl v3
      repeat' (first | (split <;> (try simp only [opT_go, opF_go, cdT_go, qT_go, qN_go]) <;> (try simp [*])) | (simp only [opT_go, opF_go, cdT_go, qT_go, qN_go] <;> (try simp [*])) | omega)
  · rcases hps : c.parts with _ | ⟨a, r⟩
    · simp [hps] at k1
    · have hs := sum_ops hl
      rw [hps] at hs
      simp only [List.map_cons, List.sum_cons] at hs
      have hlen := wL_len c.parts
      obtain ⟨j, h⟩ := l_ref04_Text s ⟨s.length, s.length⟩ c (by omega) hO r 1 (opS a) (by rw [hps]; rfl) (by omega) (by rw [← hps] at hs; omega)
      have e1 := hO a (by simp [hps])
      have h0 : loopW (acodeW P0.glob (acallW P0) ⟨s.length, s.length⟩ false ir_ref04_Text_L0) [1, 3, 4] [(1, .bx (encC c).cells), (3, .v (.s [])), (4, .v (.i .i64 0))] s =
          .exit 1 [(1, .bx (encC c).cells), (3, .v (.s (opS a ++ (r.map opS).flatMap fun y => andB ++ y))), (4, .v (.i .i64 j)), (51, .v (.b false))] s := by
        refine loop_step fun K hK => ?_
        rw [← hK] at h
        clear hK
        have l1 : (opS a).length ≤ 4611686018427387904 := by rw [← hps] at hs; omega
        have hw1 : IntKind.i64.wrap 1 = 1 := w64 (by omega) (by omega)
        simp [hps] at h
        simp [ir_ref04_Text_L0, e1, hps, l1, hw1, h]
      simp [hps] at h0
      rw [show textS c = _ from by rw [textS_eq, if_neg (by omega), if_neg (by omega), if_neg (by omega), if_neg (by omega), if_neg (by omega), if_neg (by omega)]]
      simp [callFnW, ir_ref04_Text, kn 1 k rfl, kn 2 k rfl, kn 3 k rfl, kn 4 k rfl, kn 7 k rfl, kn 6 k rfl, hps, h0, joinL]
end Go.Ai.Z
