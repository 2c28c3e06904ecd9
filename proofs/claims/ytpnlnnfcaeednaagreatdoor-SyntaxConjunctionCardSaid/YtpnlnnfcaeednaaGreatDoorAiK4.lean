/-
 Concepts: the program's check, whole.
-/
import Derived.Test.YtpnlnnfcaeednaaGreatDoorAiK3
set_option maxRecDepth 100000
set_option linter.unusedSimpArgs false
set_option linter.unusedVariables false
set_option linter.unusedSectionVars false
namespace Go.Ai.Z
mutual
def fitS : C → Nat → Nat → Bool × Nat
 | .mk _ _ _ _ _ ps, d, n => if 8 < d ∨ 64 < n + 1 then (false, n + 1) else fitL ps d (n + 1)
def fitL : List C → Nat → Nat → Bool × Nat
 | [], _, n => (true, n)
 | p :: r, d, n => if (fitS p (d + 1) n).1 = true then fitL r d (fitS p (d + 1) n).2 else (false, (fitS p (d + 1) n).2)
end
theorem fitS_eq (c : C) (d n : Nat) : fitS c d n = if 8 < d ∨ 64 < n + 1 then (false, n + 1) else fitL c.parts d (n + 1) := by cases c; simp [fitS]
theorem fitS_le : ∀ (c : C) (d n : Nat), n ≤ 64 → (fitS c d n).2 ≤ 65 ∧ ((fitS c d n).1 = true → (fitS c d n).2 ≤ 64) := by
 refine C.ind' fun c ih d n hn => ?_
 have hL : ∀ (l : List C), (∀ p ∈ l, ∀ (d n : Nat), n ≤ 64 → (fitS p d n).2 ≤ 65 ∧ ((fitS p d n).1 = true → (fitS p d n).2 ≤ 64)) → ∀ n, n ≤ 64 → (fitL l d n).2 ≤ 65 ∧ ((fitL l d n).1 = true → (fitL l d n).2 ≤ 64) := by
  intro l
  induction l with
  | nil => intro _ n hn; simp [fitL]; omega
  | cons p r ih =>
   intro h n hn
   have h1 := h p (by simp) (d + 1) n hn
   simp only [fitL]
   split
   ·rename_i ht; exact ih (fun q hq => h q (by simp [hq])) _ (h1.2 ht)
   ·exact ⟨h1.1, by simp⟩
 rw [fitS_eq]
 split
 ·exact ⟨by simp; omega, by simp⟩
 ·exact hL c.parts ih _ (by omega)
theorem fitS_is : ∀ (c : C) (d n : Nat), n ≤ 64 → ((fitS c d n).1 = true ↔ d + depthC c ≤ 8 ∧ n + sizeC c ≤ 64) ∧ ((fitS c d n).1 = true → (fitS c d n).2 = n + sizeC c) := by
 refine C.ind' fun c ih d n hn => ?_
 have hL : ∀ (l : List C), (∀ p ∈ l, ∀ (d n : Nat), n ≤ 64 → ((fitS p d n).1 = true ↔ d + depthC p ≤ 8 ∧ n + sizeC p ≤ 64) ∧ ((fitS p d n).1 = true → (fitS p d n).2 = n + sizeC p)) → ∀ n, n ≤ 64 → d ≤ 8 →
   ((fitL l d n).1 = true ↔ d + depthL l ≤ 8 ∧ n + sizeL l ≤ 64) ∧ ((fitL l d n).1 = true → (fitL l d n).2 = n + sizeL l) := by
  intro l
  induction l with
  | nil => intro _ n hn hd; simp [fitL, depthL, sizeL]; omega
  | cons p r ih =>
   intro h n hn hd
   have h1 := h p (by simp) (d + 1) n hn
   simp only [fitL, depthL, sizeL]
   by_cases ht : (fitS p (d + 1) n).1 = true
   ·have h2 := h1.2 ht
    have h3 := h1.1.1 ht
    rw [if_pos ht]
    have h4 := ih (fun q hq => h q (by simp [hq])) (fitS p (d + 1) n).2 (by omega) hd
    rw [h2] at h4 ⊢
    refine ⟨h4.1.trans ⟨fun h => ⟨by omega, by omega⟩, fun h => ⟨by omega, by omega⟩⟩, fun h => by rw [h4.2 h]; omega⟩
   ·rw [if_neg ht]
    refine ⟨⟨fun h => by simp at h, fun h => absurd (h1.1.2 ⟨by omega, by omega⟩) ht⟩, fun h => by simp at h⟩
 rw [fitS_eq, depthC_eq, sizeC_eq]
 have hL := hL c.parts ih
 split
 ·rename_i h; refine ⟨⟨fun h => by simp at h, fun h => by omega⟩, fun h => by simp at h⟩
 ·have := hL (n + 1) (by omega) (by omega)
  refine ⟨this.1.trans ⟨fun h => ⟨by omega, by omega⟩, fun h => ⟨by omega, by omega⟩⟩, fun h => by rw [this.2 h]; omega⟩
theorem set_same {T : St} {l : Nat} {v : HObj} (h : T[l]? = some v) : T.set l v = T := by
 obtain ⟨h1, h2⟩ := List.getElem?_eq_some_iff.1 h
 rw [← h2]; exact List.set_getElem_self h1
theorem l_terms_fits (c : C) (hw : wC c ≤ 100000) (cx : Ctx) (l : Nat) (hcl : cx.lim ≤ l) (d : Nat) (hd : d ≤ 8)
  (ih : ∀ p ∈ c.parts, ∀ (d n : Nat) (s : St) (cx : Ctx), d ≤ 100 → n ≤ 64 → cx.lim ≤ l → s[l]? = some (.cells [.i .i64 n]) →
   acallW P0 (.fn (.func F_terms_fits) [] []) [encC p, .i .i64 d, .pt l 0] s cx = .ret (.b (fitS p d n).1) (s.set l (.cells [.i .i64 (fitS p d n).2]))) :
  ∀ (rest : List C) (i : Nat) (n : Nat) (s : St), n ≤ 64 → s[l]? = some (.cells [.i .i64 n]) → c.parts.drop i = rest →
  ∃ j : Int, loopW (acodeW P0.glob (acallW P0) cx false ir_terms_fits_L0) [1, 2, 23, 24, 25] [(1, .v (.i .i64 d)), (2, .v (.pt l 0)), (23, .v (slf c.z (c.parts.map encC))), (24, .v (.i .i64 c.parts.length)), (25, .v (.i .i64 i))] s =
   if (fitL rest d n).1 = true then .exit 0 [(1, .v (.i .i64 d)), (2, .v (.pt l 0)), (23, .v (slf c.z (c.parts.map encC))), (24, .v (.i .i64 c.parts.length)), (25, .v (.i .i64 j)), (26, .v (.b false))] (s.set l (.cells [.i .i64 (fitL rest d n).2]))
   else .ret [(6, .v (.b false))] (s.set l (.cells [.i .i64 (fitL rest d n).2]))
 | [], i, n, s, hn, hs, h => by
  have h1 : ¬ i < c.parts.length := Nat.not_lt.2 (drop_nil h)
  refine ⟨i, loop_step fun K hK => ?_⟩
  simp [ir_terms_fits_L0, h1, fitL, set_same hs]
 | p :: r, i, n, s, hn, hs, h => by
  obtain ⟨h1, h2, h3, h4⟩ := drop_cons h
  have h5 := h4 h3
  have hp : p ∈ c.parts := by rw [← h5]; exact List.getElem_mem h3
  have hl := wL_len c.parts
  have hwi := wI (i := i) (by rw [wC_eq] at hw; omega)
  have hlt : l < s.length := (List.getElem?_eq_some_iff.1 hs).1
  have e1 := ih p hp (d + 1) n s cx (by omega) hn hcl hs
  have w1 : IntKind.i64.wrap ((d : Int) + 1) = (d : Int) + 1 := w64 (by omega) (by omega)
  simp at e1
  by_cases ht : (fitS p (d + 1) n).1 = true
  ·have hle := (fitS_le p (d + 1) n hn).2 ht
   obtain ⟨j, ih2⟩ := l_terms_fits c hw cx l hcl d hd ih r (i + 1) (fitS p (d + 1) n).2 (s.set l (.cells [.i .i64 (fitS p (d + 1) n).2])) hle (by simp [hlt]) h2
   refine ⟨j, loop_step fun K hK => ?_⟩
   rw [← hK] at ih2
   clear hK h4 ih
   simp at ih2
   simp [ir_terms_fits_L0, h3, h5, hwi, w1, e1, ih2, fitL, ht]
  ·refine ⟨i, loop_step fun K hK => ?_⟩
   clear hK h4 ih
   simp [ir_terms_fits_L0, h3, h5, hwi, w1, e1, fitL, ht]
theorem c_terms_fits (l : Nat) : ∀ (c : C), wC c ≤ 100000 → ∀ (d n : Nat) (s : St) (cx : Ctx), d ≤ 100 → n ≤ 64 → cx.lim ≤ l → s[l]? = some (.cells [.i .i64 n]) →
   acallW P0 (.fn (.func F_terms_fits) [] []) [encC c, .i .i64 d, .pt l 0] s cx = .ret (.b (fitS c d n).1) (s.set l (.cells [.i .i64 (fitS c d n).2])) := by
 refine C.ind' fun c ih hw d n s cx hd hn hcl hs => ?_
 have hlt : l < s.length := (List.getElem?_eq_some_iff.1 hs).1
 have w1 : IntKind.i64.wrap ((n : Int) + 1) = (n : Int) + 1 := w64 (by omega) (by omega)
 have hs' : s[l] = .cells [.i .i64 n] := (List.getElem?_eq_some_iff.1 hs).2
 refine go_terms_fits (by simp) ?_
 by_cases h8 : (8 : Int) < d
 ·simp [callFnW, ir_terms_fits, hs', hlt, hcl, w1, h8, fitS_eq c, show 8 < d by omega]
 by_cases h64 : (64 : Int) < (n : Int) + 1
 ·simp [callFnW, ir_terms_fits, hs', hlt, hcl, w1, h8, h64, fitS_eq c, show 64 < n + 1 by omega]
 ·have hw' := hw
  rw [wC_eq] at hw'
  obtain ⟨j, h⟩ := l_terms_fits c hw ⟨cx.lim, s.length⟩ l hcl d (by omega) (fun p hp => ih p hp (by have := wL_mem hp; omega)) c.parts 0 (n + 1) (s.set l (.cells [.i .i64 (n + 1 : Nat)])) (by omega) (by simp [hlt]) rfl
  simp at h
  have hcond : ¬ (8 < d ∨ 64 < n + 1) := by omega
  simp [callFnW, ir_terms_fits, hs', hlt, hcl, w1, h8, h64, fitS_eq c, hcond, h]
  repeat' (first | (split <;> (try simp only [opT_go, opF_go, cdT_go, qT_go, qN_go]) <;> (try simp [*])) | (simp only [opT_go, opF_go, cdT_go, qT_go, qN_go] <;> (try simp [*])) | omega)
def ckEnv (a : Nat) (c : C) : Env := [(2, .v (.pt a 0)), (10, .v (.fn (.func F_terms_walk_1) [] [.ip (encC c).cells]))]
def ckLoop (a : Nat) (c : C) (p : Pend) : HObj := .loop (ckEnv a c) [11] ir_terms_CheckConcept_A0 ir_terms_CheckConcept_R0 p
theorem y_CheckConcept_A (x : C) (a : Nat) {e' : AV} (T : St) (cx : Ctx) (hb : cx.base ≤ T.length) (hlt : cx.lim ≤ T.length) :
  acodeW P0.glob (acallW P0) cx true ir_terms_CheckConcept_A0 [(11, .v (encC x)), (2, .v (.pt a 0)), (10, .v e')] T = .norm [(2, .v (.pt a 0)), (4, .v (.pt T.length 0))] (T ++ [.cells (encC x).cells]) := by
 simp [ir_terms_CheckConcept_A0, hb, hlt]
theorem y_CheckConcept_R (x : C) (hx : x.name.length ≤ 1152921504606846976) (a m : Nat) (v : AV) (S : St) (cx : Ctx) (hm : S[m]? = some (.cells (encC x).cells)) (ha : S[a]? = some (.cells [v])) (hca : cx.lim ≤ a) :
  acodeW P0.glob (acallW P0) cx true ir_terms_CheckConcept_R0 [(2, .v (.pt a 0)), (4, .v (.pt m 0))] S =
   if fieldsS x = 0 then .norm [(2, .v (.pt a 0)), (5, .v (.i .i64 (fieldsS x))), (15, .v (.b false))] S else .ret [] (S.set a (.cells [.i .i64 (fieldsS x)])) := by
 have e1 := c_terms_checkFields x hx
 simp at hm
 by_cases h0 : fieldsS x = 0 <;> simp [ir_terms_CheckConcept_R0, hm, ha, hca, e1, h0]
theorem y_CheckConcept (c x : C) (hx : x.name.length ≤ 1152921504606846976) (a l : Nat) (v : AV) (T : St) (cx : Ctx) (hl : T[l]? = some (ckLoop a c .ready)) (ha : T[a]? = some (.cells [v])) (hcl : cx.lim ≤ l) (hca : cx.lim ≤ a) (hb : cx.base ≤ T.length) (hlt : cx.lim ≤ T.length) :
  acallW P0 (.yl l) [encC x] T cx = if fieldsS x = 0 then .ret (.b true) (T ++ [.cells (encC x).cells])
   else .ret (.b false) ((T.set a (.cells [.i .i64 (fieldsS x)])).set l (ckLoop a c .ret) ++ [.cells (encC x).cells]) := by
 have hl1 : l < T.length := (List.getElem?_eq_some_iff.1 hl).1
 have ha1 : a < T.length := (List.getElem?_eq_some_iff.1 ha).1
 have hal : ¬ l = a := by intro e; subst e; rw [hl] at ha; simp [ckLoop] at ha
 have hl2 : T[l] = ckLoop a c .ready := (List.getElem?_eq_some_iff.1 hl).2
 have hA := y_CheckConcept_A (e' := .fn (.func F_terms_walk_1) [] [.ip (encC c).cells]) x a T cx hb hlt
 have hR := y_CheckConcept_R x hx a T.length v (T.set l (ckLoop a c .busy) ++ [.cells (encC x).cells]) cx (by rw [List.getElem?_append_right (by simp)]; simp) (by rw [List.getElem?_append_left (by simpa using ha1)]; rw [List.getElem?_set_ne hal]; exact ha) hca
 refine acallW_yl (by split <;> simp) ?_
 unfold yieldW
 rw [hl]
 simp only [ckLoop, ckEnv, setPs, put, lk]
 simp at hA hR
 have hset := set_same hl
 simp only [ckLoop, ckEnv] at hset hR
 simp at hset hR
 by_cases h0 : fieldsS x = 0
 ·simp [hA, hcl, hl1, hR, h0, endRnd, hset, List.getElem?_append_left, hl2, ckLoop, ckEnv]
 ·simp [hA, hcl, hl1, hR, h0, endRnd, List.getElem?_append_left, hl2, ckLoop, ckEnv, ha1, Ne.symm hal, hal]
  rw [List.set_comm _ _ hal, List.set_set]
theorem walkS_f (x : C) : walkS x = if fieldsS x = 0 then walkSL x.parts else fieldsS x := by
 rw [walkS_eq]; unfold fieldsS
 by_cases h1 : shapeS x = false <;> by_cases h2 : namedS x = false <;> simp [h1, h2]
theorem l_terms_visit (c x : C) (hw : wC x ≤ 100000) (a l : Nat) (v : AV) (cx : Ctx) (T : St) (hl : T[l]? = some (ckLoop a c .ready)) (ha : T[a]? = some (.cells [v])) (hcl : cx.lim ≤ l) (hca : cx.lim ≤ a)
  (ih : ∀ p ∈ x.parts, ∀ (T : St) (cx : Ctx), T[l]? = some (ckLoop a c .ready) → T[a]? = some (.cells [v]) → cx.lim ≤ l → cx.lim ≤ a →
   acallW P0 (.fn (.func F_terms_visit) [] []) [encC p, .yl l] T cx = if walkS p = 0 then .ret (.b true) T else .ret (.b false) ((T.set a (.cells [.i .i64 (walkS p)])).set l (ckLoop a c .ret))) :
  ∀ (rest : List C) (i : Nat), x.parts.drop i = rest →
  ∃ j : Int, loopW (acodeW P0.glob (acallW P0) cx false ir_terms_visit_L0) [1, 12, 13, 14] [(1, .v (.yl l)), (12, .v (slf x.z (x.parts.map encC))), (13, .v (.i .i64 x.parts.length)), (14, .v (.i .i64 i))] T =
   if walkSL rest = 0 then .exit 0 [(1, .v (.yl l)), (12, .v (slf x.z (x.parts.map encC))), (13, .v (.i .i64 x.parts.length)), (14, .v (.i .i64 j)), (15, .v (.b false))] T
   else .ret [(4, .v (.b false))] ((T.set a (.cells [.i .i64 (walkSL rest)])).set l (ckLoop a c .ret))
 | [], i, h => by
  have h1 : ¬ i < x.parts.length := Nat.not_lt.2 (drop_nil h)
  refine ⟨i, loop_step fun K hK => ?_⟩
  simp [ir_terms_visit_L0, h1, walkSL]
 | p :: r, i, h => by
  obtain ⟨h1, h2, h3, h4⟩ := drop_cons h
  have h5 := h4 h3
  have hp : p ∈ x.parts := by rw [← h5]; exact List.getElem_mem h3
  have hlen := wL_len x.parts
  have hwi := wI (i := i) (by rw [wC_eq] at hw; omega)
  have e1 := ih p hp T cx hl ha hcl hca
  by_cases h0 : walkS p = 0
  ·obtain ⟨j, ih2⟩ := l_terms_visit c x hw a l v cx T hl ha hcl hca ih r (i + 1) h2
   refine ⟨j, loop_step fun K hK => ?_⟩
   rw [← hK] at ih2
   clear hK h4 ih
   simp at ih2
   simp [ir_terms_visit_L0, h3, h5, hwi, e1, ih2, walkSL, h0]
  ·refine ⟨i, loop_step fun K hK => ?_⟩
   clear hK h4 ih
   simp [ir_terms_visit_L0, h3, h5, hwi, e1, walkSL, h0]
theorem c_terms_visit (c : C) (a l : Nat) (v : AV) : ∀ (x : C), wC x ≤ 100000 → ∀ (T : St) (cx : Ctx), T[l]? = some (ckLoop a c .ready) → T[a]? = some (.cells [v]) → cx.lim ≤ l → cx.lim ≤ a →
   acallW P0 (.fn (.func F_terms_visit) [] []) [encC x, .yl l] T cx = if walkS x = 0 then .ret (.b true) T else .ret (.b false) ((T.set a (.cells [.i .i64 (walkS x)])).set l (ckLoop a c .ret)) := by
 refine C.ind' fun x ih hw T cx hl ha hcl hca => ?_
 have hl1 : l < T.length := (List.getElem?_eq_some_iff.1 hl).1
 have ha1 : a < T.length := (List.getElem?_eq_some_iff.1 ha).1
 have hw' := hw
 rw [wC_eq] at hw'
 have hy := y_CheckConcept c x (by omega) a l v T ⟨cx.lim, T.length⟩ hl ha hcl hca (Nat.le_refl _) (by simp; omega)
 refine go_terms_visit (by split <;> simp) ?_
 simp at hy
 by_cases h0 : fieldsS x = 0
 ·obtain ⟨j, h⟩ := l_terms_visit c x hw a l v ⟨cx.lim, T.length⟩ (T ++ [.cells (encC x).cells]) (by rw [List.getElem?_append_left hl1]; exact hl) (by rw [List.getElem?_append_left ha1]; exact ha) hcl hca
   (fun p hp T cx => ih p hp (by have := wL_mem hp; omega) T cx) x.parts 0 rfl
  simp at h
  by_cases hz : walkSL x.parts = 0
  ·simp [callFnW, ir_terms_visit, hy, h0, h, hz, walkS_f x, frz, AV.under]
  ·simp [callFnW, ir_terms_visit, hy, h0, h, hz, walkS_f x, frz, AV.under, ha1, hl1, List.set_append_left]
 ·simp [callFnW, ir_terms_visit, hy, h0, walkS_f x, frz, AV.under, List.take_append_of_le_length]
theorem get_app (s r : St) (k : Nat) : (s ++ r)[s.length + k]? = r[k]? := by rw [List.getElem?_append_right (by omega)]; congr 1; omega
theorem set_app (s r : St) (k : Nat) (v : HObj) : (s ++ r).set (s.length + k) v = s ++ r.set k v := by rw [List.set_append_right _ _ (by omega)]; congr 2; omega
@[simp] theorem c_terms_walk (c : C) (s : St) (cx : Ctx) : acallW P0 (.fn (.func F_terms_walk) [] []) [encC c] s cx = .ret (.fn (.func F_terms_walk_1) [] [.ip (encC c).cells]) s := by
 refine go_terms_walk (by simp) ?_
 simp [callFnW, ir_terms_walk, frz, frz1]
theorem c_terms_CheckConcept (c : C) (hw : wC c ≤ 100000) (s : St) (cx : Ctx) : acallW P0 (.fn (.func F_terms_CheckConcept) [] []) [encC c] s cx = .ret (.i .i64 (checkS c)) s := by
 refine go_terms_CheckConcept (by simp) ?_
 have e1 := c_terms_fits (s.length + 1) c hw 0 0 (s ++ [.cells [.i .i64 0], .cells [.i .i64 0]]) ⟨s.length, s.length⟩ (by omega) (by omega) (by simp) (by simp)
 have hf := fitS_is c 0 0 (by omega)
 simp at e1
 by_cases hfit : (fitS c 0 0).1 = true
 ·have hcond : ¬ (8 < depthC c ∨ 64 < sizeC c) := by have := hf.1.1 hfit; omega
  let T : St := s ++ [.cells [.i .i64 0], .cells [.i .i64 (fitS c 0 0).2], .dfr, ckLoop s.length c .ready]
  have hv := c_terms_visit c s.length (s.length + 3) (.i .i64 0) c hw T ⟨s.length, T.length⟩ (by simp [T]) (by simp [T]) (by simp) (by simp)
  have hw1 : acallW P0 (.fn (.func F_terms_walk_1) [] [.ip (encC c).cells]) [.yl (s.length + 3)] T ⟨s.length, s.length⟩ =
    if walkS c = 0 then .ret (.tu []) T else .ret (.tu []) ((T.set s.length (.cells [.i .i64 (walkS c)])).set (s.length + 3) (ckLoop s.length c .ret)) := by
   refine go_terms_walk_1 (by split <;> simp) ?_
   by_cases h0 : walkS c = 0 <;> simp [h0] at hv <;> simp [callFnW, ir_terms_walk_1, hv, h0]
  simp [T] at hw1
  by_cases h0 : walkS c = 0
  ·simp [h0, ckLoop, ckEnv] at hw1
   simp [callFnW, ir_terms_CheckConcept, e1, hfit, rangeW, hw1, checkS, hcond, h0, pended, show s.length + 2 + 1 = s.length + 3 from rfl, get_app, set_app]
  ·simp [h0, ckLoop, ckEnv] at hw1
   simp [callFnW, ir_terms_CheckConcept, e1, hfit, rangeW, hw1, checkS, hcond, h0, pended, show s.length + 2 + 1 = s.length + 3 from rfl, get_app, set_app]
 ·have hcond : (8 < depthC c ∨ 64 < sizeC c) := by
   rcases Nat.lt_or_ge 8 (depthC c) with h | h
   ·exact .inl h
   ·rcases Nat.lt_or_ge 64 (sizeC c) with h' | h'
    ·exact .inr h'
    ·exact absurd (hf.1.2 ⟨by omega, by omega⟩) hfit
  simp [callFnW, ir_terms_CheckConcept, e1, hfit, checkS, hcond]
end Go.Ai.Z
