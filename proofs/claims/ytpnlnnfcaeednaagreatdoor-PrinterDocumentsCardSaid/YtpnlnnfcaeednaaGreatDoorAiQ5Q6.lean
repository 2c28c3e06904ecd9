/-
 syntax.Concept on printed concepts.
-/
import Derived.Test.YtpnlnnfcaeednaaGreatDoorAiQ3Q4
import Derived.Test.YtpnlnnfcaeednaaGreatDoorAiK5K6K7
set_option maxRecDepth 100000
set_option linter.unusedSimpArgs false
set_option linter.unusedVariables false
set_option linter.unusedSectionVars false
namespace Go.Ai.Z
theorem pc_parts (c : C) : (pcC c).parts = c.parts.map pcC := by rw [pcC_eq]; rfl
theorem pc_kind (c : C) : (pcC c).kind = c.kind := by rw [pcC_eq]; rfl
theorem pc_name (c : C) : (pcC c).name = c.name := by rw [pcC_eq]; rfl
theorem pc_lo (c : C) : (pcC c).lo = c.lo := by rw [pcC_eq]; rfl
theorem pc_hi (c : C) : (pcC c).hi = c.hi := by rw [pcC_eq]; rfl
theorem pc_walk : ∀ c : C, walkS (pcC c) = walkS c := by
 refine C.ind' fun c ih => ?_
 have h : ∀ l : List C, (∀ p ∈ l, walkS (pcC p) = walkS p) → walkSL (l.map pcC) = walkSL l := by
  intro l
  induction l with
  | nil => intro _; rfl
  | cons p r ih2 => intro h; simp only [List.map_cons, walkSL, h p (by simp), ih2 (fun q hq => h q (by simp [hq]))]
 rw [walkS_eq, walkS_eq c, pc_parts, h c.parts ih]
 have h1 : shapeS (pcC c) = shapeS c := by simp only [shapeS, pc_kind, pc_name, pc_lo, pc_hi, pc_parts, List.length_map]
 have h2 : namedS (pcC c) = namedS c := by simp only [namedS, pc_kind, pc_name]
 rw [h1, h2]
theorem pc_size (c : C) : sizeC (pcC c) = sizeC c := by rw [← size_nz, nz_pcC, size_nz]
theorem pc_w (c : C) : wC (pcC c) = wC c := by rw [← wC_nz, nz_pcC, wC_nz]
theorem pc_depth : ∀ c : C, depthC (pcC c) = depthC c := by
 refine C.ind' fun c ih => ?_
 have h : ∀ l : List C, (∀ p ∈ l, depthC (pcC p) = depthC p) → depthL (l.map pcC) = depthL l := by
  intro l
  induction l with
  | nil => intro _; rfl
  | cons p r ih2 => intro h; simp only [List.map_cons, depthL, h p (by simp), ih2 (fun q hq => h q (by simp [hq]))]
 rw [depthC_eq, depthC_eq c, pc_parts, h c.parts ih]
theorem pc_check (c : C) : checkS (pcC c) = checkS c := by unfold checkS; rw [pc_depth, pc_size, pc_walk]
theorem pc_tidy (c : C) : tidyN (pcC c) = tidyN c := by rw [← tidyN_nz, nz_pcC, tidyN_nz]
theorem otk_len (c : C) : (otk c).length ≤ (ctk c).length + 2 := by
 unfold otk; split
 ·simp
 ·omega
theorem ctk_len : ∀ c : C, (ctk c).length + 3 ≤ 8 * wC c := by
 refine C.ind' fun c ih => ?_
 have hw := wC_eq c
 rw [ctk_eq]
 have h5 : ∀ l : List C, (∀ p ∈ l, (ctk p).length + 3 ≤ 8 * wC p) → (joinA (l.map otk)).length ≤ 8 * wL l := by
  intro l
  induction l with
  | nil => intro _; simp [joinA]
  | cons p r ih2 =>
   intro h
   have h1 := h p (by simp)
   have h2 := otk_len p
   have h3 := ih2 (fun q hq => h q (by simp [hq]))
   cases r with
   | nil => simp only [List.map_cons, List.map_nil, joinA, wL]; omega
   | cons q r =>
    simp only [List.map_cons, joinA, List.length_append, List.length_cons] at h3 ⊢
    have h4 : wL (p :: q :: r) = wC p + wL (q :: r) := by simp only [wL]
    rw [h4]; omega
 (repeat' split) <;> first
  | (simp only [List.length_cons, List.length_nil]; omega)
  | skip
 ·have h1 : ((c.parts.map otk).headD []).length ≤ 8 * wL c.parts := by
   cases hp : c.parts with
   | nil => simp
   | cons p r =>
    have h2 := ih p (by rw [hp]; simp)
    have h3 := otk_len p
    simp only [List.map_cons, List.headD_cons, wL]; omega
  simp only [List.length_cons]; omega
 ·have := h5 c.parts ih; omega
@[simp] theorem frz_tuC3 (S : St) (n : Nat) (d : C) (a e : Int) : frz S n (.tu [encC d, .i .i64 a, .i .i64 e]) = some (.tu [encC d, .i .i64 a, .i .i64 e]) := by
 have hu : (AV.tu [encC d, .i .i64 a, .i .i64 e]).under n = true := by simp
 rw [frz, if_pos hu]
end Go.Ai.Z
namespace Go.Ai.Z
def starB (n : List UInt8) : Bool := match n with | [] => false | b :: _ => decide ((b.toNat : Int) = 95)
mutual
def plB : C → Bool
 | .mk _ n _ _ _ ps => !starB n && plBL ps
def plBL : List C → Bool
 | [] => true
 | p :: r => plB p && plBL r
end
theorem plB_eq (c : C) : plB c = (!starB c.name && plBL c.parts) := by cases c; simp [plB, C.name, C.parts]
theorem plBL_mem : ∀ {l : List C}, plBL l = true → ∀ p ∈ l, plB p = true
 | [], _, p, hp => by cases hp
 | q :: r, h, p, hp => by
  simp only [plBL, Bool.and_eq_true] at h
  rcases List.mem_cons.1 hp with rfl | hp
  ·exact h.1
  ·exact plBL_mem h.2 p hp
theorem plain_of : ∀ c : C, walkS c = 0 → plB c = true → PlainC c := by
 refine C.ind' fun c ih hv hp => ?_
 obtain ⟨v1, v2, v3⟩ := walk_ok hv
 rw [plB_eq, Bool.and_eq_true] at hp
 refine ⟨_, fun k => ?_, fun p hpp => ih p hpp (v3 p hpp) (plBL_mem hp.2 p hpp)⟩
 have h1 : (plainS c.name || resS c.name) = true := by simpa [namedS, k] using v2
 rw [Bool.or_eq_true] at h1
 rcases h1 with h1 | h1
 ·exact h1
 ·exfalso
  have h2 := hp.1
  unfold resS at h1
  cases hn : c.name with
  | nil => rw [hn] at h1; simp at h1
  | cons b r =>
   rw [hn] at h1 h2
   simp [starB] at h2
   simp [h2] at h1
theorem l_law04_plain (s : St) (cx : Ctx) (c : C) (hw : wC c ≤ 1000) (ih : ∀ p ∈ c.parts, ∀ (s : St) (cx : Ctx), acallW P0 (.fn (.func F_law04_plain) [] []) [encC p] s cx = .ret (.b (plB p)) s) :
  ∀ (rest : List C) (i : Nat), c.parts.drop i = rest →
  ∃ j : Int, loopW (acodeW P0.glob (acallW P0) cx false ir_law04_plain_L0) [1, 3] [(1, .bx [.i .i64 c.kind, .s c.name, .i .i64 c.lo, .i .i64 c.hi, slf c.z (c.parts.map encC)]), (3, .v (.i .i64 i))] s =
   if plBL rest = true then .exit 0 [(1, .bx [.i .i64 c.kind, .s c.name, .i .i64 c.lo, .i .i64 c.hi, slf c.z (c.parts.map encC)]), (3, .v (.i .i64 j)), (18, .v (.b false))] s else .ret [(2, .v (.b false))] s
 | [], i, h => by
  have h1 : ¬ i < c.parts.length := Nat.not_lt.2 (drop_nil h)
  refine ⟨i, loop_step fun K hK => ?_⟩
  simp [ir_law04_plain_L0, h1, plBL]
 | p :: r, i, h => by
  obtain ⟨h1, h2, h3, h4⟩ := drop_cons h
  have h5 := h4 h3
  have hp : p ∈ c.parts := by rw [← h5]; exact List.getElem_mem h3
  have hl := wL_len c.parts
  have hwi := wI (i := i) (by rw [wC_eq] at hw; omega)
  obtain ⟨j, ih2⟩ := l_law04_plain s cx c hw ih r (i + 1) h2
  refine ⟨j, loop_step fun K hK => ?_⟩
  rw [← hK] at ih2
  have e1 := ih p hp
  clear hK h4 ih
  by_cases hb : plB p = true
  ·have : plBL (p :: r) = plBL r := by simp [plBL, hb]
   rw [this]
   simp at ih2
   simp [ir_law04_plain_L0, h3, h5, hwi, e1, hb]
   exact ih2
  ·have hb' : plB p = false := by simpa using hb
   have : plBL (p :: r) = false := by simp [plBL, hb']
   rw [this]
   simp [ir_law04_plain_L0, h3, h5, hwi, e1, hb']
theorem c_law04_plain : ∀ c : C, wC c ≤ 1000 → ∀ (s : St) (cx : Ctx), acallW P0 (.fn (.func F_law04_plain) [] []) [encC c] s cx = .ret (.b (plB c)) s := by
 refine C.ind' fun c ih hw s cx => ?_
 obtain ⟨j, h⟩ := l_law04_plain s ⟨s.length, s.length⟩ c hw (fun p hp => ih p hp (by have := wL_mem hp; rw [wC_eq] at hw; omega)) c.parts 0 rfl
 have hpe := plB_eq c
 refine go_law04_plain (by simp) ?_
 cases hn : c.name with
 | nil =>
  rw [hn] at h hpe
  simp at h
  by_cases hb : plBL c.parts = true
  ·rw [if_pos hb] at h
   simp [callFnW, ir_law04_plain, hn, h, hpe, starB, hb]
  ·have hb' : plBL c.parts = false := by simpa using hb
   rw [if_neg hb] at h
   simp [callFnW, ir_law04_plain, hn, h, hpe, starB, hb']
 | cons b r =>
  rw [hn] at h hpe
  simp at h
  have hlen : (0 : Int) < (r.length : Int) + 1 := by omega
  by_cases h95 : (b.toNat : Int) = 95
  ·simp [callFnW, ir_law04_plain, hn, hpe, starB, h95, hlen]
  ·by_cases hb : plBL c.parts = true
   ·rw [if_pos hb] at h
    simp [callFnW, ir_law04_plain, hn, h, hpe, starB, hb, h95, hlen]
   ·have hb' : plBL c.parts = false := by simpa using hb
    rw [if_neg hb] at h
    simp [callFnW, ir_law04_plain, hn, h, hpe, starB, hb', h95, hlen]
theorem TidyR.same {y : Option C} {x x' : C} {e e' : Int} (h : TidyR y x e) (h' : TidyR y x' e') : e = e' ∧ (e = 0 → nz x = nz x') := by
 cases y with
 | none => exact ⟨by have := h; have := h'; simp only [TidyR] at *; omega, fun h0 => by have := h; simp only [TidyR] at this; omega⟩
 | some t => exact ⟨by rw [h.2, h'.2], fun _ => by rw [h.1, h'.1]⟩
end Go.Ai.Z
