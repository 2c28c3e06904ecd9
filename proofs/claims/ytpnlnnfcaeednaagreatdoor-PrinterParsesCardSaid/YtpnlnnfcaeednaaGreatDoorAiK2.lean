/-
  Concepts: what the reference's functions on them answer.
-/
import Derived.Test.YtpnlnnfcaeednaaGreatDoorAiK1
set_option maxRecDepth 100000
set_option linter.unusedSimpArgs false
set_option linter.unusedVariables false
set_option linter.unusedSectionVars false
namespace Go.Ai.Z
theorem l_ref02_count (c : C) (hps : c.parts.length ≤ 1152921504606846976) (d m : Int) (hd : d ≤ 1000) (hd' : -1000 ≤ d) (hm : 0 ≤ m) (hm' : m ≤ 100000)
    (ih : ∀ p ∈ c.parts, ∀ (d m : Int), d ≤ 1000 → -1001 ≤ d → 0 ≤ m → m ≤ 100000 →
      ∃ v : Int, (∀ s cx, acallW P0 (.fn (.func F_ref02_count) [] []) [encC p, .i .i64 d, .i .i64 m] s cx = .ret (.i .i64 v) s) ∧ 1 ≤ v ∧ v ≤ m + 1152921504606846976 ∧ (v ≤ m → wC p ≤ v)) :
    ∀ (rest : List C) (i : Nat) (n : Int), c.parts.drop i = rest → 1 ≤ n → n ≤ m + 1152921504606846976 →
    ∃ v j : Int, (∀ s cx, loopW (acodeW P0.glob (acallW P0) cx false ir_ref02_count_L0) [1, 2, 3, 7, 8] [(1, .v (.i .i64 d)), (2, .v (.i .i64 m)), (3, .bx (encC c).cells), (7, .v (.i .i64 n)), (8, .v (.i .i64 i))] s =
      .exit 0 [(1, .v (.i .i64 d)), (2, .v (.i .i64 m)), (3, .bx (encC c).cells), (7, .v (.i .i64 v)), (8, .v (.i .i64 j)), (27, .v (.b false))] s) ∧
      1 ≤ v ∧ v ≤ m + 1152921504606846976 ∧ (v ≤ m → n + wL rest ≤ v)
  | [], i, n, h, hn, hn' => by
    have h1 : ¬ i < c.parts.length := Nat.not_lt.2 (drop_nil h)
    refine ⟨n, i, fun s cx => loop_step fun K hK => ?_, hn, hn', fun _ => by simp [wL]⟩
    simp [ir_ref02_count_L0, h1]
  | p :: r, i, n, h, hn, hn' => by
    obtain ⟨h1, h2, h3, h4⟩ := drop_cons h
    have h5 := h4 h3
    have hp : p ∈ c.parts := by rw [← h5]; exact List.getElem_mem h3
    have hw := wI (i := i) (by omega)
    by_cases hnm : n ≤ m
    · obtain ⟨v', e1, q1, q2, q3⟩ := ih p hp (d - 1) (m - n) (by omega) (by omega) (by omega) (by omega)
      obtain ⟨v, j, ih2, r1, r2, r3⟩ := l_ref02_count c hps d m hd hd' hm hm' ih r (i + 1) (n + v') h2 (by omega) (by omega)
      refine ⟨v, j, fun s cx => loop_step fun K hK => ?_, r1, r2, fun hv => ?_⟩
      · have ih2 := ih2 s cx
        rw [← hK, show ((i + 1 : Nat) : Int) = (i : Int) + 1 from rfl] at ih2
        clear hK h4 ih
        have w1 : IntKind.i64.wrap (d - 1) = d - 1 := w64 (by omega) (by omega)
        have w2 : IntKind.i64.wrap (m - n) = m - n := w64 (by omega) (by omega)
        have w3 : IntKind.i64.wrap (n + v') = n + v' := w64 (by omega) (by omega)
        simp at ih2
        simp [ir_ref02_count_L0, h3, h5, hnm, w1, w2, w3, hw, e1, ih2]
      · have := r3 hv; simp only [wL]; have := q3 (by omega); omega
    · refine ⟨n, i, fun s cx => loop_step fun K hK => ?_, hn, hn', fun hv => by omega⟩
      simp [ir_ref02_count_L0, h3, hnm]
theorem c_ref02_count : ∀ (c : C), c.Ok → ∀ (d m : Int), d ≤ 1000 → -1001 ≤ d → 0 ≤ m → m ≤ 100000 →
    ∃ v : Int, (∀ s cx, acallW P0 (.fn (.func F_ref02_count) [] []) [encC c, .i .i64 d, .i .i64 m] s cx = .ret (.i .i64 v) s) ∧ 1 ≤ v ∧ v ≤ m + 1152921504606846976 ∧ (v ≤ m → wC c ≤ v) := by
  refine C.ind' fun c ih hok d m hd hd' hm hm' => ?_
  cases hok with
  | mk _ hn hps hk hl hh hp =>
    by_cases h0 : d ≤ 0
    · have w1 : IntKind.i64.wrap (m + 1) = m + 1 := w64 (by omega) (by omega)
      refine ⟨m + 1, fun s cx => go_ref02_count (by simp) ?_, by omega, by omega, by omega⟩
      simp [callFnW, ir_ref02_count, h0, w1]
    · have hdiv : ((c.name.length : Int).tdiv 40) = ((c.name.length / 40 : Nat) : Int) := by rw [Int.tdiv_eq_ediv_of_nonneg (by omega)]; omega
      have w1 : IntKind.i64.wrap ((c.name.length / 40 : Nat) : Int) = ((c.name.length / 40 : Nat) : Int) := w64 (by omega) (by omega)
      have w2 : IntKind.i64.wrap (1 + ((c.name.length / 40 : Nat) : Int)) = 1 + ((c.name.length / 40 : Nat) : Int) := w64 (by omega) (by omega)
      obtain ⟨v, j, h, r1, r2, r3⟩ := l_ref02_count c hps d m hd (by omega) hm hm' (fun p hp' => ih p hp' (hp p hp')) c.parts 0 (1 + ((c.name.length / 40 : Nat) : Int)) rfl (by omega) (by omega)
      refine ⟨v, fun s cx => go_ref02_count (by simp) ?_, r1, r2, fun hv => ?_⟩
      · simp at h
        rw [show ((c.name.length / 40 : Nat) : Int) = (c.name.length : Int) / 40 from by omega] at hdiv w1 w2
        simp [callFnW, ir_ref02_count, h0, hdiv, w1, w2, h]
      · have := r3 hv; rw [wC_eq]; omega
theorem c_ref02_Few (c : C) (h : c.Ok) : ∃ b : Bool, (∀ s cx, acallW P0 (.fn (.func F_ref02_Few) [] []) [encC c] s cx = .ret (.b b) s) ∧ (b = true → wC c ≤ 150) := by
  obtain ⟨v, e, r1, r2, r3⟩ := c_ref02_count c h 40 150 (by omega) (by omega) (by omega) (by omega)
  refine ⟨decide (v ≤ 150), fun s cx => ?_, fun hv => by simp at hv; have := r3 hv; omega⟩
  refine go_ref02_Few (by simp) ?_
  simp [callFnW, ir_ref02_Few, e]
def shapeS (c : C) : Bool :=
  let plain := decide (c.lo = 0) && decide (c.hi = 0)
  if c.kind = 1 then plain && decide (c.name = []) && decide ((c.parts.length : Int) = 0)
  else if c.kind = 2 then plain && decide (c.name = []) && decide ((c.parts.length : Int) = 0)
  else if c.kind = 3 then plain && decide ((c.parts.length : Int) = 0)
  else if c.kind = 4 then plain && decide ((c.parts.length : Int) = 0)
  else if c.kind = 5 then plain && decide (c.name = []) && decide ((2 : Int) ≤ c.parts.length) && decide ((c.parts.length : Int) ≤ 8)
  else if c.kind = 6 then plain && decide ((c.parts.length : Int) = 1)
  else if c.kind = 7 then decide ((c.parts.length : Int) = 0) && decide (-1099511627776 ≤ c.lo) && decide (c.lo ≤ c.hi) && decide (c.hi ≤ 1099511627776)
  else false
def namedS (c : C) : Bool :=
  if c.kind = 3 then plainS c.name
  else if c.kind = 6 then plainS c.name
  else if c.kind = 7 then plainS c.name
  else if c.kind = 4 then plainS c.name || resS c.name
  else true
mutual
def walkS : C → Int
  | .mk k n l h z ps => if shapeS (.mk k n l h z ps) = false then 21 else if namedS (.mk k n l h z ps) = false then 20 else walkSL ps
def walkSL : List C → Int
  | [] => 0
  | p :: r => if walkS p = 0 then walkSL r else walkS p
end
theorem walkS_eq (c : C) : walkS c = if shapeS c = false then 21 else if namedS c = false then 20 else walkSL c.parts := by cases c; simp [walkS]
def checkS (c : C) : Int := if 8 < depthC c ∨ 64 < sizeC c then 21 else walkS c
end Go.Ai.Z
