/-
  Concepts: what the reference's functions on them answer.
-/
import Derived.Test.YtomjajnlomdhpaaGreatDoorAiK1
set_option maxRecDepth 100000
set_option linter.unusedSimpArgs false
set_option linter.unusedVariables false
namespace Go.Ai.Z
theorem l_ref02_count (c : C) (hps : c.parts.length ≤ 1152921504606846976) (d m : Int) (hd : d ≤ 1000) (hd' : -1000 ≤ d) (hm : 0 ≤ m) (hm' : m ≤ 100000)
    (ih : ∀ p ∈ c.parts, ∀ (d m : Int), d ≤ 1000 → -1001 ≤ d → 0 ≤ m → m ≤ 100000 →
      ∃ v : Int, (∀ s cx, acallW P0 (.fn (.func F_ref02_count) [] []) [encC p, .i .i64 d, .i .i64 m] s cx = .ret (.i .i64 v) s) ∧ 1 ≤ v ∧ v ≤ m + 1152921504606846976 ∧ (v ≤ m → wC p ≤ v)) :
    ∀ (rest : List C) (i : Nat) (n : Int), c.parts.drop i = rest → 1 ≤ n → n ≤ m + 1152921504606846976 →
    ∃ v j : Int, (∀ s cx, loopW (acodeW P0.glob (acallW P0) cx false ir_ref02_count_L0) [1, 2, 3, 7, 8] [(1, .v (.i .i64 d)), (2, .v (.i .i64 m)), (3, .bx (encC c).cells), (7, .v (.i .i64 n)), (8, .v (.i .i64 i))] s =
      .exit 0 [(1, .v (.i .i64 d)), (2, .v (.i .i64 m)), (3, .bx (encC c).cells), (7, .v (.i .i64 v)), (8, .v (.i .i64 j)), (27, .v (.b false))] s) ∧
      1 ≤ v ∧ v ≤ m + 1152921504606846976 ∧ (v ≤ m → n + wL rest ≤ v)
  | [], i, n, h, hn, hn' => by
    have h1 : ¬ i < c.parts.length := Nat.not_lt.2 (drop_nil h)
    refine ⟨n, i, fun s cx => loop_step fun K hK => ?_, hn, hn', fun _ => by simp [wL]⟩
    simp [ir_ref02_count_L0, h1]
  | p :: r, i, n, h, hn, hn' => by
    obtain ⟨h1, h2, h3, h4⟩ := drop_cons h
    have h5 := h4 h3
    have hp : p ∈ c.parts := by rw [← h5]; exact List.getElem_mem h3
    have hw := wI (i := i) (by omega)
    by_cases hnm : n ≤ m
    · obtain ⟨v', e1, q1, q2, q3⟩ := ih p hp (d - 1) (m - n) (by omega) (by omega) (by omega) (by omega)
      obtain ⟨v, j, ih2, r1, r2, r3⟩ := l_ref02_count c hps d m hd hd' hm hm' ih r (i + 1) (n + v') h2 (by omega) (by omega)
      refine ⟨v, j, fun s cx => loop_step fun K hK => ?_, r1, r2, fun hv => ?_⟩
      · have ih2 := ih2 s cx
        rw [← hK, show ((i + 1 : Nat) : Int) = (i : Int) + 1 from rfl] at ih2
        clear hK h4 ih
        have w1 : IntKind.i64.wrap (d - 1) = d - 1 := w64 (by omega) (by omega)
        have w2 : IntKind.i64.wrap (m - n) = m - n := w64 (by omega) (by omega)
        have w3 : IntKind.i64.wrap (n + v') = n + v' := w64 (by omega) (by omega)
        simp at ih2
        simp [ir_ref02_count_L0, h3, h5, hnm, w1, w2, w3, hw, e1, ih2]
      · have := r3 hv; simp only [wL]; have := q3 (by omega); omega
    · refine ⟨n, i, fun s cx => loop_step fun K hK => ?_, hn, hn', fun hv => by omega⟩
      simp [ir_ref02_count_L0, h3, hnm]
theorem c_ref02_count : ∀ (c : C), c.Ok → ∀ (d m : Int), d ≤ 1000 → -1001 ≤ d → 0 ≤ m → m ≤ 100000 →
    ∃ v : Int, (∀ s cx, acallW P0 (.fn (.func F_ref02_count) [] []) [encC c, .i .i64 d, .i .i64 m] s cx = .ret (.i .i64 v) s) ∧ 1 ≤ v ∧ v ≤ m + 1152921504606846976 ∧ (v ≤ m → wC c ≤ v) := by
  refine C.ind' fun c ih hok d m hd hd' hm hm' => ?_
  cases hok with
  | mk _ hn hps hk hl hh hp =>
    by_cases h0 : d ≤ 0
    · have w1 : IntKind.i64.wrap (m + 1) = m + 1 := w64 (by omega) (by omega)
      refine ⟨m + 1, fun s cx => go_ref02_count (by simp) ?_, by omega, by omega, by omega⟩
      simp [callFnW, ir_ref02_count, h0, w1]
    · have hdiv : ((c.name.length : Int).tdiv 40) = ((c.name.length / 40 : Nat) : Int) := by rw [Int.tdiv_eq_ediv_of_nonneg (by omega)]; omega
      have w1 : IntKind.i64.wrap ((c.name.length / 40 : Nat) : Int) = ((c.name.length / 40 : Nat) : Int) := w64 (by omega) (by omega)
      have w2 : IntKind.i64.wrap (1 + ((c.name.length / 40 : Nat) : Int)) = 1 + ((c.name.length / 40 : Nat) : Int) := w64 (by omega) (by omega)
      obtain ⟨v, j, h, r1, r2, r3⟩ := l_ref02_count c hps d m hd (by omega) hm hm' (fun p hp' => ih p hp' (hp p hp')) c.parts 0 (1 + ((c.name.length / 40 : Nat) : Int)) rfl (by omega) (by omega)
      refine ⟨v, fun s cx => go_ref02_count (by simp) ?_, r1, r2, fun hv => ?_⟩
      · simp at h
        rw [show ((c.name.length / 40 : Nat) : Int) = (c.name.length : Int) / 40 from by omega] at hdiv w1 w2
        simp [callFnW, ir_ref02_count, h0, hdiv, w1, w2, h]
      · have := r3 hv; rw [wC_eq]; omega
theorem c_ref02_Few (c : C) (h : c.Ok) : ∃ b : Bool, (∀ s cx, acallW P0 (.fn (.func F_ref02_Few) [] []) [encC c] s cx = .ret (.b b) s) ∧ (b = true → wC c ≤ 150) := by
  obtain ⟨v, e, r1, r2, r3⟩ := c_ref02_count c h 40 150 (by omega) (by omega) (by omega) (by omega)
  refine ⟨decide (v ≤ 150), fun s cx => ?_, fun hv => by simp at hv; have := r3 hv; omega⟩
  refine go_ref02_Few (by simp) ?_
  simp [callFnW, ir_ref02_Few, e]
theorem l_ref02_Size (s : St) (cx : Ctx) (c : C) (hw : wC c ≤ 100000)
    (ih : ∀ p ∈ c.parts, ∀ (s : St) (cx : Ctx), acallW P0 (.fn (.func F_ref02_Size) [] []) [encC p] s cx = .ret (.i .i64 (sizeC p)) s) :
    ∀ (rest : List C) (i : Nat) (n : Nat), c.parts.drop i = rest → n + sizeL rest ≤ 100000 → i ≤ c.parts.length →
    loopW (acodeW P0.glob (acallW P0) cx false ir_ref02_Size_L0) [1, 3, 4] [(1, .bx (encC c).cells), (3, .v (.i .i64 n)), (4, .v (.i .i64 i))] s =
      .exit 0 [(1, .bx (encC c).cells), (3, .v (.i .i64 (n + sizeL rest : Nat))), (4, .v (.i .i64 c.parts.length)), (9, .v (.b false))] s
  | [], i, n, h, hn, hi => by
    have h0 := drop_nil h
    obtain rfl : i = c.parts.length := by omega
    refine loop_step fun K hK => ?_
    simp [ir_ref02_Size_L0, sizeL]
  | p :: r, i, n, h, hn, hi => by
    obtain ⟨h1, h2, h3, h4⟩ := drop_cons h
    have h5 := h4 h3
    have hp : p ∈ c.parts := by rw [← h5]; exact List.getElem_mem h3
    have hl := wL_len c.parts
    rw [wC_eq] at hw
    have hwi := wI (i := i) (by omega)
    simp only [sizeL] at hn
    have ih2 := l_ref02_Size s cx c (by rw [wC_eq]; exact hw) ih r (i + 1) (n + sizeC p) h2 (by omega) (by omega)
    refine loop_step fun K hK => ?_
    rw [← hK] at ih2
    have e1 := ih p hp
    clear hK h4 ih
    have w3 : IntKind.i64.wrap ((n : Int) + sizeC p) = (n : Int) + sizeC p := w64 (by omega) (by omega)
    simp at ih2
    simp [ir_ref02_Size_L0, h3, h5, w3, hwi, e1, ih2, sizeL]
    omega
theorem c_ref02_Size : ∀ (c : C), wC c ≤ 100000 → ∀ (s : St) (cx : Ctx), acallW P0 (.fn (.func F_ref02_Size) [] []) [encC c] s cx = .ret (.i .i64 (sizeC c)) s := by
  refine C.ind' fun c ih hw s cx => ?_
  have hs := sizeC_le c
  have hw' := hw
  rw [wC_eq] at hw'
  rw [sizeC_eq] at hs
  have h := l_ref02_Size s ⟨s.length, s.length⟩ c hw (fun p hp => ih p hp (by have := wL_mem hp; omega)) c.parts 0 1 rfl (by omega) (by omega)
  refine go_ref02_Size (by simp) ?_
  simp at h
  simp [callFnW, ir_ref02_Size, h, sizeC_eq c]
theorem l_ref02_Depth (s : St) (cx : Ctx) (c : C) (hw : wC c ≤ 100000)
    (ih : ∀ p ∈ c.parts, ∀ (s : St) (cx : Ctx), acallW P0 (.fn (.func F_ref02_Depth) [] []) [encC p] s cx = .ret (.i .i64 (depthC p)) s) :
    ∀ (rest : List C) (i : Nat) (n : Nat), c.parts.drop i = rest → i ≤ c.parts.length →
    loopW (acodeW P0.glob (acallW P0) cx false ir_ref02_Depth_L0) [1, 3, 4] [(1, .bx (encC c).cells), (3, .v (.i .i64 n)), (4, .v (.i .i64 i))] s =
      .exit 0 [(1, .bx (encC c).cells), (3, .v (.i .i64 (max n (depthL rest) : Nat))), (4, .v (.i .i64 c.parts.length)), (9, .v (.b false))] s
  | [], i, n, h, hi => by
    have h0 := drop_nil h
    obtain rfl : i = c.parts.length := by omega
    refine loop_step fun K hK => ?_
    simp [ir_ref02_Depth_L0, depthL]
  | p :: r, i, n, h, hi => by
    obtain ⟨h1, h2, h3, h4⟩ := drop_cons h
    have h5 := h4 h3
    have hp : p ∈ c.parts := by rw [← h5]; exact List.getElem_mem h3
    have hl := wL_len c.parts
    have hd : depthC p ≤ 100000 := by have := depthC_le p; have := sizeC_le p; have := wL_mem hp; rw [wC_eq] at hw; omega
    rw [wC_eq] at hw
    have hwi := wI (i := i) (by omega)
    have ih2 := l_ref02_Depth s cx c (by rw [wC_eq]; exact hw) ih r (i + 1) (max n (1 + depthC p)) h2 (by omega)
    refine loop_step fun K hK => ?_
    rw [← hK] at ih2
    have e1 := ih p hp
    clear hK h4 ih
    have w3 : IntKind.i64.wrap (1 + (depthC p : Int)) = ((1 + depthC p : Nat) : Int) := by rw [w64] <;> omega
    have hmx : (if ((1 + depthC p : Nat) : Int) > (n : Int) then ((1 + depthC p : Nat) : Int) else (n : Int)) = ((max n (1 + depthC p) : Nat) : Int) := by split <;> omega
    have hass : max (max n (1 + depthC p)) (depthL r) = max n (depthL (p :: r)) := by simp only [depthL]; omega
    rw [hass] at ih2
    simp only [show ((i + 1 : Nat) : Int) = (i : Int) + 1 from rfl] at ih2
    simp [ir_ref02_Depth_L0, h3, h5, hwi, e1, -Int.natCast_add, w3]
    rw [show (if n < 1 + depthC p then ((1 + depthC p : Nat) : Int) else (n : Int)) = ((max n (1 + depthC p) : Nat) : Int) from by split <;> omega]
    simp only [cells_encC] at ih2
    exact ih2
theorem c_ref02_Depth : ∀ (c : C), wC c ≤ 100000 → ∀ (s : St) (cx : Ctx), acallW P0 (.fn (.func F_ref02_Depth) [] []) [encC c] s cx = .ret (.i .i64 (depthC c)) s := by
  refine C.ind' fun c ih hw s cx => ?_
  have hw' := hw
  rw [wC_eq] at hw'
  have h := l_ref02_Depth s ⟨s.length, s.length⟩ c hw (fun p hp => ih p hp (by have := wL_mem hp; omega)) c.parts 0 0 rfl (by omega)
  refine go_ref02_Depth (by simp) ?_
  simp at h
  simp [callFnW, ir_ref02_Depth, h, depthC_eq c]
def shapeS (c : C) : Bool :=
  let plain := decide (c.lo = 0) && decide (c.hi = 0)
  if c.kind = 1 then plain && decide (c.name = []) && decide ((c.parts.length : Int) = 0)
  else if c.kind = 2 then plain && decide (c.name = []) && decide ((c.parts.length : Int) = 0)
  else if c.kind = 3 then plain && decide ((c.parts.length : Int) = 0)
  else if c.kind = 4 then plain && decide ((c.parts.length : Int) = 0)
  else if c.kind = 5 then plain && decide (c.name = []) && decide ((2 : Int) ≤ c.parts.length) && decide ((c.parts.length : Int) ≤ 8)
  else if c.kind = 6 then plain && decide ((c.parts.length : Int) = 1)
  else if c.kind = 7 then decide ((c.parts.length : Int) = 0) && decide (-1099511627776 ≤ c.lo) && decide (c.lo ≤ c.hi) && decide (c.hi ≤ 1099511627776)
  else false
def namedS (c : C) : Bool :=
  if c.kind = 3 then plainS c.name
  else if c.kind = 6 then plainS c.name
  else if c.kind = 7 then plainS c.name
  else if c.kind = 4 then plainS c.name || resS c.name
  else true
@[simp] theorem c_ref02_shape (c : C) (s : St) (cx : Ctx) : acallW P0 (.fn (.func F_ref02_shape) [] []) [encC c] s cx = .ret (.b (shapeS c)) s := by
  refine go_ref02_shape (by simp) ?_
  simp [callFnW, ir_ref02_shape, shapeS]
  repeat' (first | (split <;> (try simp only [opT_go, opF_go, cdT_go, qT_go, qN_go]) <;> (try simp [*])) | (simp only [opT_go, opF_go, cdT_go, qT_go, qN_go] <;> (try simp [*])) | omega)
@[simp] theorem c_ref02_named (c : C) (s : St) (cx : Ctx) : acallW P0 (.fn (.func F_ref02_named) [] []) [encC c] s cx = .ret (.b (namedS c)) s := by
  refine go_ref02_named (by simp) ?_
  simp [callFnW, ir_ref02_named, namedS]
  repeat' (first | (split <;> (try simp only [opT_go, opF_go, cdT_go, qT_go, qN_go]) <;> (try simp [*])) | (simp only [opT_go, opF_go, cdT_go, qT_go, qN_go] <;> (try simp [*])) | omega)
mutual
def walkS : C → Int
  | .mk k n l h z ps => if shapeS (.mk k n l h z ps) = false then 21 else if namedS (.mk k n l h z ps) = false then 20 else walkSL ps
def walkSL : List C → Int
  | [] => 0
  | p :: r => if walkS p = 0 then walkSL r else walkS p
end
theorem walkS_eq (c : C) : walkS c = if shapeS c = false then 21 else if namedS c = false then 20 else walkSL c.parts := by cases c; simp [walkS]
def checkS (c : C) : Int := if 8 < depthC c ∨ 64 < sizeC c then 21 else walkS c
theorem l_ref02_walk (s : St) (cx : Ctx) (c : C) (hw : wC c ≤ 100000)
    (ih : ∀ p ∈ c.parts, ∀ (s : St) (cx : Ctx), acallW P0 (.fn (.func F_ref02_walk) [] []) [encC p] s cx = .ret (.i .i64 (walkS p)) s) :
    ∀ (rest : List C) (i : Nat), c.parts.drop i = rest →
    ∃ j : Int, loopW (acodeW P0.glob (acallW P0) cx false ir_ref02_walk_L0) [1, 3] [(1, .bx (encC c).cells), (3, .v (.i .i64 i))] s =
      if walkSL rest = 0 then .exit 0 [(1, .bx (encC c).cells), (3, .v (.i .i64 j)), (15, .v (.b false))] s else .ret [(2, .v (.i .i64 (walkSL rest)))] s
  | [], i, h => by
    have h1 : ¬ i < c.parts.length := Nat.not_lt.2 (drop_nil h)
    refine ⟨i, loop_step fun K hK => ?_⟩
    simp [ir_ref02_walk_L0, h1, walkSL]
  | p :: r, i, h => by
    obtain ⟨h1, h2, h3, h4⟩ := drop_cons h
    have h5 := h4 h3
    have hp : p ∈ c.parts := by rw [← h5]; exact List.getElem_mem h3
    have hl := wL_len c.parts
    have hwi := wI (i := i) (by rw [wC_eq] at hw; omega)
    obtain ⟨j, ih2⟩ := l_ref02_walk s cx c hw ih r (i + 1) h2
    refine ⟨j, loop_step fun K hK => ?_⟩
    rw [← hK] at ih2
    have e1 := ih p hp
    clear hK h4 ih
    simp at ih2
    by_cases h0 : walkS p = 0 <;> simp [ir_ref02_walk_L0, h3, h5, hwi, e1, ih2, walkSL, h0]
theorem c_ref02_walk : ∀ (c : C), wC c ≤ 100000 → ∀ (s : St) (cx : Ctx), acallW P0 (.fn (.func F_ref02_walk) [] []) [encC c] s cx = .ret (.i .i64 (walkS c)) s := by
  refine C.ind' fun c ih hw s cx => ?_
  have hw' := hw
  rw [wC_eq] at hw'
  obtain ⟨j, h⟩ := l_ref02_walk s ⟨s.length, s.length⟩ c hw (fun p hp => ih p hp (by have := wL_mem hp; omega)) c.parts 0 rfl
  refine go_ref02_walk (by simp) ?_
  simp at h
  by_cases h1 : shapeS c = true <;> by_cases h2 : namedS c = true <;> by_cases h3 : walkSL c.parts = 0 <;>
    simp [callFnW, ir_ref02_walk, h, walkS_eq c, h1, h2, h3]
theorem c_ref02_CheckConcept (c : C) (hw : wC c ≤ 100000) (s : St) (cx : Ctx) : acallW P0 (.fn (.func F_ref02_CheckConcept) [] []) [encC c] s cx = .ret (.i .i64 (checkS c)) s := by
  refine go_ref02_CheckConcept (by simp) ?_
  have e1 := c_ref02_Depth c hw
  have e2 := c_ref02_Size c hw
  have e3 := c_ref02_walk c hw
  have d1 : ((8 : Int) < depthC c) = (8 < depthC c) := by simp; omega
  have d2 : ((64 : Int) < sizeC c) = (64 < sizeC c) := by simp; omega
  by_cases h1 : 8 < depthC c <;> by_cases h2 : 64 < sizeC c <;>
    simp [callFnW, ir_ref02_CheckConcept, e1, e2, e3, checkS, h1, h2, d1, d2]
end Go.Ai.Z
