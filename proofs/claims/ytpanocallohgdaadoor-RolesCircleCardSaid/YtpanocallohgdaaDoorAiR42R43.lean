/-
 roles.newGraph: the contract.
-/
import Derived.Test.YtpanocallohgdaaDoorAiR40R41
set_option maxRecDepth 100000
set_option linter.unusedSimpArgs false
set_option linter.unusedVariables false
namespace Go.Ai.Z
def encP (p : Nat × Bool) : AV := .ag [.i .i64 p.1, .b p.2]
@[simp] theorem plain_encP (p : Nat × Bool) : (encP p).plain = encP p := by simp [encP]
@[simp] theorem cells_encP (p : Nat × Bool) : (encP p).cells = [.i .i64 p.1, .b p.2] := rfl
@[simp] theorem fold_encP (a : Nat) (b : Bool) : AV.ag [.i .i64 (a : Int), .b b] = encP (a, b) := rfl
theorem slS_slf (l : List Rl) : slS l = slf true (l.map .s) := by cases l <;> rfl
def rowOf (R : List Rl) (f : Rl → Option Bool) : List Rl → List (Nat × Bool)
 | [] => []
 | t :: T => (if t ∈ R then [(posR R t, (f t).getD false)] else []) ++ rowOf R f T
theorem rowOf_len (R : List Rl) (f : Rl → Option Bool) : ∀ T, (rowOf R f T).length ≤ T.length
 | [] => Nat.le_refl _
 | t :: T => by
  have := rowOf_len R f T
  simp only [rowOf, List.length_append, List.length_cons]; split <;> simp <;> omega
theorem l_newGraph1 (es : List (AV × AV)) (R : List Rl) (hR : Srt R) (hRl : R.length ≤ 1000000) (r : Rl) (is : List (AV × AV)) (f : Rl → Option Bool) (hes : find 1 (.s r) es = some (some (.im is))) (hf : ∀ t, find 1 (.s t) is = some ((f t).map AV.b)) (T : List Rl) (hT : ∀ t ∈ T, f t ≠ none) (hTl : T.length ≤ 1000000) (rv : AV) (n0 i0 : Int) (s : St) (cx : Ctx) :
  ∀ (rest : List Rl) (k : Nat) (g : List (Nat × Bool)), T.drop k = rest → g.length + rest.length ≤ 2000000 →
  ∃ j : Int, loopW (acodeW P0.glob (acallW P0) cx false ir_roles_newGraph_L1) [0, 2, 4, 5, 15, 16, 17, 25, 26, 27]
   [(0, .v (.im es)), (2, .bx [slf true (R.map .s), rv]), (4, .v (.s r)), (5, .own false T_roles_step_2 2 (g.map encP)), (15, .v (slf true (R.map .s))), (16, .v (.i .i64 n0)), (17, .v (.i .i64 i0)), (25, .v (slf true (T.map .s))), (26, .v (.i .i64 T.length)), (27, .v (.i .i64 k))] s =
   .exit 2 [(0, .v (.im es)), (2, .bx [slf true (R.map .s), rv]), (4, .v (.s r)), (5, .own false T_roles_step_2 2 ((g ++ rowOf R f rest).map encP)), (15, .v (slf true (R.map .s))), (16, .v (.i .i64 n0)), (17, .v (.i .i64 i0)), (25, .v (slf true (T.map .s))), (26, .v (.i .i64 T.length)), (27, .v (.i .i64 j)), (28, .v (.b false))] s
 | [], k, g, h, hg => by
  have h1 : ¬ k < T.length := Nat.not_lt.2 (drop_nil h)
  refine ⟨k, loop_step fun K hK => ?_⟩
  simp [ir_roles_newGraph_L1, h1, rowOf]
 | t :: rest, k, g, h, hg => by
  obtain ⟨g1, g2, g3, g4⟩ := drop_cons h
  have g5 := g4 g3
  have hwi := wI (i := k) (by omega)
  have ht : t ∈ T := by rw [← g5]; exact List.getElem_mem g3
  simp only [List.length_cons] at hg
  have hm : g.length + 1 ≤ maxSl := by unfold maxSl; omega
  have e1 := c_bsearch true R hR hRl t
  by_cases hmem : t ∈ R
  ·obtain ⟨b, hb⟩ : ∃ b, f t = some b := by
    cases hh : f t with
    | none => exact absurd hh (hT t ht)
    | some b => exact ⟨b, rfl⟩
   have hft := hf t
   rw [hb] at hft
   obtain ⟨j, ih⟩ := l_newGraph1 es R hR hRl r is f hes hf T hT hTl rv n0 i0 s cx rest (k + 1) (g ++ [(posR R t, b)]) g2 (by simp; omega)
   refine ⟨j, loop_step fun K hK => ?_⟩
   have hKk : ∀ e t, K e t = K (keepE e [0, 2, 4, 5, 15, 16, 17, 25, 26, 27]) t := fun e t => by rw [hK]; exact loopW_keep _ _ _ _
   rw [← hK, show ((k + 1 : Nat) : Int) = (k : Int) + 1 from rfl] at ih
   clear hK g4 hT hf
   have hn : g ++ rowOf R f (t :: rest) = g ++ [(posR R t, b)] ++ rowOf R f rest := by simp only [rowOf, hmem, if_true, hb, Option.getD_some, List.append_assoc]
   rw [hn, ← ih]
   simp only [hmem, decide_true] at e1
   simp at hft
   simp [fillC, ir_roles_newGraph_L1, g3, g5, hwi, e1, hes, hft, hm]
  ·obtain ⟨j, ih⟩ := l_newGraph1 es R hR hRl r is f hes hf T hT hTl rv n0 i0 s cx rest (k + 1) g g2 (by omega)
   refine ⟨j, loop_step fun K hK => ?_⟩
   have hKk : ∀ e t, K e t = K (keepE e [0, 2, 4, 5, 15, 16, 17, 25, 26, 27]) t := fun e t => by rw [hK]; exact loopW_keep _ _ _ _
   rw [← hK, show ((k + 1 : Nat) : Int) = (k : Int) + 1 from rfl] at ih
   clear hK g4 hT hf
   have hn : g ++ rowOf R f (t :: rest) = g ++ rowOf R f rest := by simp only [rowOf, hmem, if_false, List.nil_append]
   rw [hn, ← ih]
   simp only [hmem, decide_false] at e1
   simp [ir_roles_newGraph_L1, g3, g5, hwi, e1]
def encRow (g : List (Nat × Bool)) : AV := .sl (g.map encP)
@[simp] theorem plain_encRow (g : List (Nat × Bool)) : (encRow g).plain = encRow g := rfl
@[simp] theorem cells_encRow (g : List (Nat × Bool)) : (encRow g).cells = [encRow g] := rfl
@[simp] theorem one_encRow (g : List (Nat × Bool)) : (encRow g).one = true := rfl
def rowsV (s : St) (gs : List (List (Nat × Bool))) : AV := match gs with | [] => .ns | _ => .st s.length (gs.map encRow)
def rowsH (s : St) (gs : List (List (Nat × Bool))) : St := match gs with | [] => s | _ => s ++ [.row T_roles_step_1 1 gs.length]
theorem MapM.inner {es : List (AV × AV)} {M : Rl → Rl → Option Bool} (h : MapM es M) {r : Rl} (hr : ∃ t, M r t ≠ none) : ∃ (is : List (AV × AV)) (ks : List Rl), find 1 (.s r) es = some (some (.im is)) ∧ (∀ t, find 1 (.s t) is = some ((M r t).map AV.b)) ∧ is.map (·.1) = ks.map AV.s ∧ ks.Nodup ∧ ∀ t, t ∈ ks ↔ M r t ≠ none := by
 obtain ⟨t0, ht0⟩ := hr
 rcases h.2 r with ⟨_, h2⟩ | ⟨is, h1, h2, _, h4⟩
 ·exact absurd (h2 t0) ht0
 ·obtain ⟨ks, k1, k2⟩ := h2
  refine ⟨is, ks, h1, h4, k1, k2, fun t => ?_⟩
  constructor
  ·intro ht hn
   have : AV.s t ∈ is.map (·.1) := by rw [k1]; exact List.mem_map.2 ⟨t, ht, rfl⟩
   obtain ⟨p, hp, hpe⟩ := List.mem_map.1 this
   obtain ⟨k, e1, e2⟩ := StrK.entry ⟨ks, k1, k2⟩ hp
   rw [e1] at hpe
   cases hpe
   rw [h4, hn] at e2; simp at e2
  ·intro hne
   by_cases ht : t ∈ ks
   ·exact ht
   ·exfalso
    have hnone : ∀ (is : List (AV × AV)) (ks : List Rl), is.map (·.1) = ks.map AV.s → t ∉ ks → find 1 (.s t) is = some none := by
     intro is
     induction is with
     | nil => intro ks _ _; rfl
     | cons p is ih =>
      intro ks hk hn
      obtain ⟨a, b⟩ := p
      cases ks with
      | nil => simp at hk
      | cons k ks =>
       simp only [List.map_cons, List.cons.injEq] at hk
       obtain ⟨rfl, hk⟩ := hk
       simp only [List.mem_cons, not_or] at hn
       simp [find, keyEq, hn.1, ih ks hk hn.2]
    have := hnone is ks k1 ht
    rw [h4] at this
    cases hm : M r t with
    | none => exact hne hm
    | some b => rw [hm] at this; simp at this
theorem keysM_im {es : List (AV × AV)} {ks : List Rl} (h : es.map (·.1) = ks.map AV.s) (s : St) : keysM s (.im es) = some ks := by
 show es.mapM (fun p => strOf p.1) = some ks
 induction es generalizing ks with
 | nil => cases ks with
  | nil => rfl
  | cons => simp at h
 | cons p es ih =>
  cases ks with
  | nil => simp at h
  | cons k ks =>
   simp only [List.map_cons, List.cons.injEq] at h
   simp only [List.mapM_cons, h.1, ih h.2]; rfl
theorem c_Keys1 (es : List (AV × AV)) (s : St) (cx : Ctx) : acallW P0 (.fn (.func F_maps_Keys_map_string_bool_string_bool) [] []) [.im es] s cx = .ret (.fn (.func 44) [] [.kb (.im es)]) s := acallW_intrS (h := iKeys 44) rfl rfl
theorem c_Keys2 (es : List (AV × AV)) (s : St) (cx : Ctx) : acallW P0 (.fn (.func F_maps_Keys_map_string_map_string_bool_string_map_string_bool) [] []) [.im es] s cx = .ret (.fn (.func 49) [] [.kb (.im es)]) s := acallW_intrS (h := iKeys 49) rfl rfl
theorem c_SortedI {es : List (AV × AV)} {ks : List Rl} (h : es.map (·.1) = ks.map AV.s) (hn : ks.Nodup) (hl : ks.length ≤ 1048576) (hx : ∀ x ∈ ks, x.length ≤ 1048576) (n : Nat) (hnn : n = 44 ∨ n = 49) (s : St) (cx : Ctx) : acallW P0 (.fn (.func F_slices_Sorted_string) [] []) [.fn (.func n) [] [.kb (.im es)]] s cx = .ret (slf true ((isort ks).map .s)) s := by
 rw [← slS_slf]
 refine acallW_intrS (h := iSorted [44, 49]) rfl ?_
 have h1 := strictS_of (isort_srt hn)
 have h2 := keysM_im h s
 rcases hnn with rfl | rfl <;> simp [iSorted, h2, h1, hl] <;> exact hx
structure MFew (M : Rl → Rl → Option Bool) (U : List Rl) : Prop where
 len : U.length ≤ 100000
 fr : ∀ r t, M r t ≠ none → r ∈ U ∧ t ∈ U
 sz : ∀ x ∈ U, x.length ≤ 1048576
structure RowOK (R : List Rl) (f : Rl → Option Bool) (g : List (Nat × Bool)) : Prop where
 inc : g.Pairwise fun a b => a.1 < b.1
 mem : ∀ p, p ∈ g ↔ ∃ t ∈ R, f t = some p.2 ∧ p.1 = posR R t
theorem mem_rowOf {R : List Rl} {f : Rl → Option Bool} {p : Nat × Bool} : ∀ {T : List Rl}, p ∈ rowOf R f T ↔ ∃ t ∈ T, t ∈ R ∧ p = (posR R t, (f t).getD false)
 | [] => by simp [rowOf]
 | t :: T => by
  simp only [rowOf, List.mem_append, mem_rowOf (T := T), List.mem_cons]
  constructor
  ·rintro (h | ⟨u, hu, h⟩)
   ·split at h
    ·rename_i ht; simp at h; exact ⟨t, .inl rfl, ht, h⟩
    ·cases h
   ·exact ⟨u, .inr hu, h⟩
  ·rintro ⟨u, rfl | hu, h1, h2⟩
   ·left; rw [if_pos h1]; simp [h2]
   ·exact .inr ⟨u, hu, h1, h2⟩
theorem rowOf_inc {R : List Rl} (hR : Srt R) {f : Rl → Option Bool} : ∀ {T : List Rl}, Srt T → (rowOf R f T).Pairwise fun a b => a.1 < b.1
 | [], _ => by simp [rowOf]
 | t :: T, h => by
  obtain ⟨h1, h2⟩ := List.pairwise_cons.1 h
  have ih := rowOf_inc hR (f := f) h2
  simp only [rowOf]
  split
  ·rename_i ht
   refine List.pairwise_cons.2 ⟨fun p hp => ?_, ih⟩
   obtain ⟨u, hu, hur, rfl⟩ := mem_rowOf.1 hp
   exact (posR_mono hR ht hur).2 (h1 u hu)
  ·exact ih
theorem rowOK_of {R : List Rl} (hR : Srt R) {f : Rl → Option Bool} {T : List Rl} (hT : Srt T) (hm : ∀ t, t ∈ T ↔ f t ≠ none) : RowOK R f (rowOf R f T) := by
 refine ⟨rowOf_inc hR hT, fun p => ?_⟩
 rw [mem_rowOf]
 constructor
 ·rintro ⟨t, ht, htr, rfl⟩
  cases hf : f t with
  | none => exact absurd hf ((hm t).1 ht)
  | some b => exact ⟨t, htr, hf, rfl⟩
 ·rintro ⟨t, ht, hf, he⟩
  exact ⟨t, (hm t).2 (by rw [hf]; simp), ht, Prod.ext he (by rw [hf]; rfl)⟩
def GInv (R : List Rl) (M : Rl → Rl → Option Bool) (i : Nat) (gs : List (List (Nat × Bool))) : Prop := gs.length = i ∧ ∀ k r, k < i → R[k]? = some r → ∃ g, gs[k]? = some g ∧ RowOK R (M r) g
theorem l_newGraph0 (es : List (AV × AV)) (M : Rl → Rl → Option Bool) (hM : MapM es M) (U : List Rl) (hU : MFew M U) (R : List Rl) (hR : Srt R) (hRm : ∀ r, r ∈ R ↔ ∃ t, M r t ≠ none) (hRl : R.length ≤ 100000) (s : St) (cx : Ctx) (hcx : cx.lim ≤ s.length) :
  ∀ (rest : List Rl) (i : Nat) (gs : List (List (Nat × Bool))), R.drop i = rest → i ≤ R.length → GInv R M i gs →
  ∃ (gs' : List (List (Nat × Bool))) (j : Int), loopW (acodeW P0.glob (acallW P0) cx false ir_roles_newGraph_L0) [0, 2, 15, 16, 17]
   [(0, .v (.im es)), (2, .bx [slf true (R.map .s), rowsV s gs]), (15, .v (slf true (R.map .s))), (16, .v (.i .i64 R.length)), (17, .v (.i .i64 i))] (rowsH s gs) =
   .exit 0 [(0, .v (.im es)), (2, .bx [slf true (R.map .s), rowsV s gs']), (15, .v (slf true (R.map .s))), (16, .v (.i .i64 R.length)), (17, .v (.i .i64 j)), (18, .v (.b false))] (rowsH s gs') ∧ GInv R M R.length gs'
 | [], i, gs, h, hil, hG => by
  have h1 : ¬ i < R.length := Nat.not_lt.2 (drop_nil h)
  refine ⟨gs, i, loop_step fun K hK => ?_, ⟨?_, fun k r hk hr => ?_⟩⟩
  ·simp [ir_roles_newGraph_L0, h1]
  ·have := congrArg List.length h
   simp only [List.length_drop, List.length_nil] at this
   have hgl := hG.1
   have hile : i ≤ R.length := hil
   omega
  ·exact hG.2 k r (by omega) hr
 | r :: rest, i, gs, h, hil, hG => by
  obtain ⟨g1, g2, g3, g4⟩ := drop_cons h
  have g5 := g4 g3
  have hwi := wI (i := i) (by omega)
  have hr : r ∈ R := by rw [← g5]; exact List.getElem_mem g3
  obtain ⟨is, ks, a1, a2, a3, a4, a5⟩ := hM.inner ((hRm r).1 hr)
  have hksU : ∀ x ∈ ks, x ∈ U := fun x hx => (hU.fr r x ((a5 x).1 hx)).2
  have hksl : ks.length ≤ 100000 := Nat.le_trans (nodup_le a4 hksU) hU.len
  have e1 := c_Keys1 is
  have e2 := c_SortedI a3 a4 (by omega) (fun x hx => hU.sz x (hksU x hx)) 44 (.inl rfl)
  have hTs := isort_srt a4
  have hTm : ∀ t, t ∈ isort ks ↔ M r t ≠ none := fun t => by rw [(isort_perm ks).mem_iff, a5]
  have hTl : (isort ks).length = ks.length := (isort_perm ks).length_eq
  have hrow := rowOK_of hR (f := M r) hTs hTm
  generalize isort ks = T at e2 hTs hTm hTl hrow
  obtain ⟨j1, e3⟩ := l_newGraph1 es R hR (by omega) r is (M r) a1 a2 T (fun t ht => (hTm t).1 ht) (by omega) (rowsV s gs) R.length i (rowsH s gs) cx T 0 [] rfl (by simp; omega)
  rw [List.nil_append] at e3
  have hrl := rowOf_len R (M r) T
  generalize rowOf R (M r) T = g at e3 hrow hrl
  obtain ⟨gs', j, ih, r2⟩ := l_newGraph0 es M hM U hU R hR hRm hRl s cx hcx rest (i + 1) (gs ++ [g]) g2 (by omega) ⟨by simp [hG.1], fun k q hk hq => by
   by_cases hki : k = i
   ·subst hki
    rw [g1] at hq; cases hq
    exact ⟨g, by rw [← hG.1]; simp, hrow⟩
   ·obtain ⟨g', hg', hok⟩ := hG.2 k q (by omega) hq
    exact ⟨g', by rw [List.getElem?_append_left (List.getElem?_eq_some_iff.1 hg').1]; exact hg', hok⟩⟩
  refine ⟨gs', j, loop_step fun K hK => ?_, r2⟩
  have hKk : ∀ e t, K e t = K (keepE e [0, 2, 15, 16, 17]) t := fun e t => by rw [hK]; exact loopW_keep _ _ _ _
  rw [← hK, show ((i + 1 : Nat) : Int) = (i : Int) + 1 from rfl] at ih
  have hgl := hG.1
  clear hK g4 r2 hG hrow hM hTs hTm a2 a3 a5 hksU
  have hfold : ∀ g : List (Nat × Bool), AV.sl (g.map encP) = encRow g := fun _ => rfl
  rw [← ih]
  simp only [Int.ofNat_zero] at e3
  cases gs with
  | nil =>
   simp only [rowsV, rowsH] at e3 ⊢
   simp at e3
   simp [ir_roles_newGraph_L0, g3, g5, hwi, a1, e1, e2, e3, hfold, show 1 ≤ maxSl by unfold maxSl; omega]
  | cons g0 gs =>
   simp only [rowsV, rowsH] at e3 ⊢
   simp at e3
   have hm : gs.length + 1 + 1 ≤ maxSl := by simp only [List.length_cons] at hgl; unfold maxSl; omega
   simp [ir_roles_newGraph_L0, g3, g5, hwi, a1, e1, e2, e3, hfold, hm, hcx]
theorem frz_rows {s : St} {gs : List (List (Nat × Bool))} (R : List Rl) : frz (rowsH s gs) s.length (.ag [slf true (R.map .s), (rowsV s gs).plain1]) = some (.ag [slf true (R.map .s), slf true (gs.map encRow)]) := by
 cases gs with
 | nil =>
  have hu : (AV.ag [slf true (R.map .s), AV.ns]).under s.length = true := by
   have := slf_under s.length true R
   simp only [AV.under, underL, this]; rfl
  show frz s s.length (.ag [slf true (R.map .s), AV.ns]) = _
  unfold frz; rw [if_pos hu]; rfl
 | cons g gs =>
  have hr : ∀ n, ∀ l : List (List (Nat × Bool)), underL n (l.map encRow) = true := by
   intro n l
   induction l with
   | nil => rfl
   | cons a l ih =>
    have h1 : (encRow a).under n = true := by
     show underL n (a.map encP) = true
     induction a with
     | nil => rfl
     | cons p a ih2 =>
      simp only [List.map_cons, underL, Bool.and_eq_true]
      exact ⟨rfl, ih2⟩
    simp only [List.map_cons, underL, h1, ih]; rfl
  have hu : (AV.ag [slf true (R.map .s), .sl ((g :: gs).map encRow)]).under s.length = true := by
   have := hr s.length (g :: gs)
   simp only [AV.under, underL, slf_under, this]; rfl
  show frz _ s.length (.ag [slf true (R.map .s), .sl ((g :: gs).map encRow)]) = _
  unfold frz; rw [if_pos hu]; simp
theorem c_roles_newGraph (es : List (AV × AV)) (M : Rl → Rl → Option Bool) (hM : MapM es M) (U : List Rl) (hU : MFew M U) (s : St) (cx : Ctx) :
  ∃ (R : List Rl) (gs : List (List (Nat × Bool))), acallW P0 (.fn (.func F_roles_newGraph) [] []) [.im es] s cx = .ret (.ag [slf true (R.map .s), slf true (gs.map encRow)]) s ∧ Srt R ∧ R.length ≤ U.length ∧ (∀ r, r ∈ R ↔ ∃ t, M r t ≠ none) ∧ GInv R M R.length gs := by
 obtain ⟨ks, k1, k2⟩ := hM.1
 have hks : ∀ r, r ∈ ks ↔ ∃ t, M r t ≠ none := fun r => by
  constructor
  ·intro hr
   have : AV.s r ∈ es.map (·.1) := by rw [k1]; exact List.mem_map.2 ⟨r, hr, rfl⟩
   obtain ⟨p, hp, hpe⟩ := List.mem_map.1 this
   obtain ⟨k, e1, e2⟩ := StrK.entry ⟨ks, k1, k2⟩ hp
   rw [e1] at hpe
   cases hpe
   rcases hM.2 r with ⟨h1, _⟩ | ⟨is, h1, h2, h3, h4⟩
   ·rw [h1] at e2; cases e2
   ·cases hi : is with
    | nil => exact absurd hi h3
    | cons q is' =>
     obtain ⟨t, q1, q2⟩ := h2.entry (p := q) (by rw [hi]; simp)
     refine ⟨t, fun hn => ?_⟩
     rw [h4, hn] at q2; simp at q2
  ·rintro ⟨t, ht⟩
   obtain ⟨is, ks', q1, _⟩ := hM.inner ⟨t, ht⟩
   by_cases hr : r ∈ ks
   ·exact hr
   ·exfalso
    have hnone : ∀ (es : List (AV × AV)) (ks : List Rl), es.map (·.1) = ks.map AV.s → r ∉ ks → find 1 (.s r) es = some none := by
     intro es
     induction es with
     | nil => intro ks _ _; rfl
     | cons p es ih =>
      intro ks hk hn
      obtain ⟨a, b⟩ := p
      cases ks with
      | nil => simp at hk
      | cons k ks =>
       simp only [List.map_cons, List.cons.injEq] at hk
       obtain ⟨rfl, hk⟩ := hk
       simp only [List.mem_cons, not_or] at hn
       simp [find, keyEq, hn.1, ih ks hk hn.2]
    rw [hnone es ks k1 hr] at q1; cases q1
 have hksU : ∀ x ∈ ks, x ∈ U := fun x hx => by
  obtain ⟨t, ht⟩ := (hks x).1 hx
  exact (hU.fr x t ht).1
 have hksl : ks.length ≤ U.length := nodup_le k2 hksU
 have hUl := hU.len
 have e1 := c_Keys2 es
 have e2 := c_SortedI k1 k2 (by omega) (fun x hx => hU.sz x (hksU x hx)) 49 (.inr rfl)
 have hRs := isort_srt k2
 have hRm : ∀ r, r ∈ isort ks ↔ ∃ t, M r t ≠ none := fun r => by rw [(isort_perm ks).mem_iff, hks]
 have hRl : (isort ks).length = ks.length := (isort_perm ks).length_eq
 generalize isort ks = R at e2 hRs hRm hRl
 obtain ⟨gs, j, e3, hG⟩ := l_newGraph0 es M hM U hU R hRs hRm (by omega) s ⟨s.length, s.length⟩ (Nat.le_refl _) R 0 [] rfl (Nat.zero_le _) ⟨rfl, fun k r hk => by omega⟩
 refine ⟨R, gs, ?_, hRs, by omega, hRm, hG⟩
 have hf := frz_rows (s := s) (gs := gs) R
 have ho : (rowsV s gs).one = true := by cases gs <;> rfl
 have ho2 := slf_one true (R.map AV.s)
 have hlen : (rowsH s gs).take s.length = s := by cases gs <;> simp [rowsH]
 refine go_roles_newGraph (by simp) ?_
 clear hG hM hRm hks hksU
 simp only [Int.ofNat_zero] at e3
 have e0 : rowsV s [] = .ns := rfl
 have e00 : rowsH s [] = s := rfl
 rw [e0, e00] at e3
 have hpl : (rowsV s gs).plain1 = slf true (gs.map encRow) := by cases gs <;> rfl
 generalize rowsV s gs = rv at e3 hf ho hpl
 generalize rowsH s gs = H' at e3 hf hlen
 by_cases hH : H'.length = s.length
 ·have hHs : H' = s := by
   rw [← hlen, ← hH, List.take_of_length_le (Nat.le_refl _)]
  subst hHs
  simp [callFnW, ir_roles_newGraph, e1, e2, e3, ho, ho2, hf, hpl]
 ·simp [callFnW, ir_roles_newGraph, e1, e2, e3, ho, ho2, hf, hlen, hH]
end Go.Ai.Z
namespace Go.Ai.Z
def swp (cs : List AV) (k : Nat) (ds : List AV) : Prop := ds.length = cs.length ∧ ∀ p, p < cs.length → ds[p]? = if p < k ∨ cs.length ≤ p + k then cs[cs.length - 1 - p]? else cs[p]?
theorem swp_end {cs ds : List AV} {k : Nat} (h : swp cs k ds) (hk : cs.length ≤ 2 * k + 1) : ds = cs.reverse := by
 refine List.ext_getElem? fun p => ?_
 by_cases hp : p < cs.length
 ·rw [h.2 p hp, List.getElem?_reverse hp]
  split
  ·rfl
  ·rename_i hn
   have : p = cs.length - 1 - p := by omega
   rw [← this]
 ·rw [List.getElem?_eq_none (by rw [h.1]; omega), List.getElem?_eq_none (by rw [List.length_reverse]; omega)]
theorem swp_step {cs ds : List AV} {k : Nat} (h : swp cs k ds) (hk : 2 * k + 2 ≤ cs.length) {a b : AV} (ha : cs[k]? = some a) (hb : cs[cs.length - 1 - k]? = some b) : swp cs (k + 1) ((ds.set k b).set (cs.length - 1 - k) a) := by
 refine ⟨by simp [h.1], fun p hp => ?_⟩
 by_cases h1 : p = cs.length - 1 - k
 ·subst h1
  rw [List.getElem?_set_self (by rw [List.length_set, h.1]; omega), if_pos (by omega)]
  rw [← ha]; congr 1; omega
 ·rw [List.getElem?_set_ne (Ne.symm h1)]
  by_cases h2 : p = k
  ·subst h2
   rw [List.getElem?_set_self (by rw [h.1]; omega), if_pos (by omega), hb]
  ·rw [List.getElem?_set_ne (Ne.symm h2), h.2 p hp]
   by_cases h3 : p < k ∨ cs.length ≤ p + k
   ·rw [if_pos h3, if_pos (by omega)]
   ·rw [if_neg h3, if_neg (by omega)]
theorem set_splice {cs : List AV} {i : Nat} {v : AV} (h : i < cs.length) : cs.take i ++ v :: cs.drop (i + 1) = cs.set i v := by
 rw [List.set_eq_take_append_cons_drop, if_pos h]
theorem l_reverse (l t ver : Nat) (cs : List AV) (hn : cs.length ≤ 1000000) (hfl : ∀ c ∈ cs, c.flat = true ∧ c.one = true ∧ c.plain = c) (s : St) (hl : l < s.length) (cx : Ctx) (hcx : cx.lim ≤ l) :
  ∀ (N k : Nat) (ds : List AV), cs.length ≤ 2 * k + N → 2 * k ≤ cs.length + 1 → swp cs k ds →
  ∃ (i j : Int), loopW (acodeW P0.glob (acallW P0) cx false ir_slices_Reverse_int_int_L0) [0, 2, 3]
   [(0, .v (.sk l ver 1 0 cs.length)), (2, .v (.i .i64 k)), (3, .v (.i .i64 ((cs.length : Int) - 1 - k)))] (s.set l (.buf t 1 ver ds)) =
   .exit 0 [(0, .v (.sk l ver 1 0 cs.length)), (2, .v (.i .i64 i)), (3, .v (.i .i64 j)), (9, .v (.b false))] (s.set l (.buf t 1 ver cs.reverse)) := by
 intro N
 induction N with
 | zero =>
  intro k ds h1 h2 hs
  have hd := swp_end hs (by omega)
  subst hd
  refine ⟨k, (cs.length : Int) - 1 - k, loop_step fun K hK => ?_⟩
  have hlt : ¬ (k : Int) < (cs.length : Int) - 1 - k := by omega
  simp [ir_slices_Reverse_int_int_L0, hlt]
 | succ N ih =>
  intro k ds h1 h2 hs
  by_cases hlt : (k : Int) < (cs.length : Int) - 1 - k
  ·have hk : k < cs.length := by omega
   have hk2 : cs.length - 1 - k < cs.length := by omega
   have ha : cs[k]? = some cs[k] := List.getElem?_eq_getElem hk
   have hb : cs[cs.length - 1 - k]? = some cs[cs.length - 1 - k] := List.getElem?_eq_getElem hk2
   have hda : ds[k]? = some cs[k] := by rw [hs.2 k hk, if_neg (by omega), ha]
   have hdb : ds[cs.length - 1 - k]? = some cs[cs.length - 1 - k] := by rw [hs.2 _ hk2, if_neg (by omega), hb]
   have hfa := hfl _ (List.getElem_mem hk)
   have hfb := hfl _ (List.getElem_mem hk2)
   have hs' := swp_step hs (by omega) ha hb
   have hdl := hs.1
   obtain ⟨i, j, ih1⟩ := ih (k + 1) _ (by omega) (by omega) hs'
   refine ⟨i, j, loop_step fun K hK => ?_⟩
   have hwk := wI (i := k) (by omega)
   have hm : ((cs.length : Int) - 1 - k).toNat = cs.length - 1 - k := by omega
   have hm0 : (k : Int) ≤ (cs.length : Int) - 1 := by omega
   have hw2 : IntKind.i64.wrap ((cs.length : Int) - 1 - k - 1) = (cs.length : Int) - 1 - (k + 1) := by rw [w64 (by omega) (by omega)]; omega
   rw [← hK, show ((k + 1 : Nat) : Int) = (k : Int) + 1 from rfl] at ih1
   clear hK ih hs hs' hfl
   generalize hmm : cs.length - 1 - k = m at *
   generalize hA : cs[k] = A at *
   generalize hB : cs[m] = B at *
   have hset1 : ds.take k ++ B :: ds.drop (k + 1) = ds.set k B := set_splice (by omega)
   have hset2 : (ds.set k B).take m ++ A :: (ds.set k B).drop (m + 1) = (ds.set k B).set m A := set_splice (by rw [List.length_set]; omega)
   have c1 : A.cells = [A] := by
    have := hfa.1
    cases A <;> simp [AV.flat] at this <;> rfl
   have c2 : B.cells = [B] := by
    have := hfb.1
    cases B <;> simp [AV.flat] at this <;> rfl
   have q1 : k + 1 ≤ ds.length := by omega
   have q2 : m + 1 ≤ ds.length := by omega
   have q3 : m < cs.length := by omega
   rw [← ih1]
   simp [ir_slices_Reverse_int_int_L0, hlt, hl, hk, hm, hm0, q1, q2, q3, hda, hdb, hwk, hw2, c1, c2, hfa.1, hfa.2.1, hfa.2.2, hfb.1, hfb.2.1, hfb.2.2, hcx, hset1, hset2]
  ·have hd := swp_end hs (by omega)
   subst hd
   refine ⟨k, (cs.length : Int) - 1 - k, loop_step fun K hK => ?_⟩
   simp [ir_slices_Reverse_int_int_L0, hlt]
theorem c_slices_Reverse (l t ver : Nat) (cs : List AV) (hn : cs.length ≤ 1000000) (hfl : ∀ c ∈ cs, c.flat = true ∧ c.one = true ∧ c.plain = c) (s : St) (hs : s[l]? = some (.buf t 1 ver cs)) (cx : Ctx) (hcx : cx.lim ≤ l) :
  acallW P0 (.fn (.func F_slices_Reverse_int_int) [] []) [.sk l ver 1 0 cs.length] s cx = .ret (.tu []) (s.set l (.buf t 1 ver cs.reverse)) := by
 have hl := (List.getElem?_eq_some_iff.1 hs).1
 obtain ⟨i, j, h⟩ := l_reverse l t ver cs hn hfl s hl ⟨cx.lim, s.length⟩ hcx cs.length 0 cs (by omega) (by omega) ⟨rfl, fun p hp => by rw [if_neg (by omega)]⟩
 have hself : s.set l (.buf t 1 ver cs) = s := by
  rw [List.getElem?_eq_some_iff] at hs
  obtain ⟨_, he⟩ := hs
  rw [← he]; exact List.set_getElem_self _
 rw [hself] at h
 have hw : IntKind.i64.wrap ((cs.length : Int) - 1) = (cs.length : Int) - 1 := w64 (by omega) (by omega)
 refine go_slices_Reverse_int_int (by simp) ?_
 simp only [Int.ofNat_zero, Int.sub_zero] at h
 simp [callFnW, ir_slices_Reverse_int_int, hw, h]
end Go.Ai.Z
