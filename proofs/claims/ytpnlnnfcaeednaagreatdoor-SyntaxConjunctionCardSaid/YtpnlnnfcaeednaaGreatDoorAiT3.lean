/-
 slices.CompactFunc on trees: its loops.
-/
import Derived.Test.YtpnlnnfcaeednaaGreatDoorAiT1T2
set_option maxRecDepth 100000
set_option linter.unusedSimpArgs false
set_option linter.unusedVariables false
set_option linter.unusedSectionVars false
namespace Go.Ai.Z
def avM : AV := .fn (.func F_terms_meet_1) [] []
section
variable (L : List C) (hL : L.length ≤ 100000) (hw : ∀ c ∈ L, wC c ≤ 1000) (s : St) (cx : Ctx) (l t ver : Nat) (z : List AV) (hl : l < s.length) (hlim : cx.lim ≤ l) (hbase : cx.base ≤ l)
include hL hw hl hlim hbase
theorem l_compact1 (k0 : Nat) (hk0 : 1 ≤ k0) : ∀ (d q : Nat), k0 + q + 1 + d = L.length → (comp (L.take (k0 + q + 1))).length ≤ k0 + q →
  ∃ k2 : Int, loopW (acodeW P0.glob (acallW P0) cx true ir_slices_CompactFunc_terms_tree_terms_tree_L1) [0, 1, 5, 6, 7]
   [(0, .v (.sk l ver 7 0 L.length)), (1, .v avM), (5, .v (.i .i64 (comp (L.take (k0 + q + 1))).length)), (6, .v (.sk l ver 7 (k0 * 7) (L.length - k0))), (7, .v (.i .i64 ((q + 1 : Nat) : Int)))]
   (s.set l (.buf t 7 ver (flT (comp (L.take (k0 + q + 1)) ++ L.drop (comp (L.take (k0 + q + 1))).length) ++ z))) =
   .exit 2 [(0, .v (.sk l ver 7 0 L.length)), (1, .v avM), (5, .v (.i .i64 (comp L).length)), (6, .v (.sk l ver 7 (k0 * 7) (L.length - k0))), (7, .v (.i .i64 k2)), (35, .v (.b false))]
   (s.set l (.buf t 7 ver (flT (comp L ++ L.drop (comp L).length) ++ z)))
 | 0, q, hd, hq => by
  have h1 : L.take (k0 + q + 1) = L := List.take_of_length_le (by omega)
  have h2 : ¬ (q + 1 < L.length - k0) := by omega
  refine ⟨((q + 1 : Nat) : Int), loop_step fun K hK => ?_⟩
  rw [h1]
  simp [ir_slices_CompactFunc_terms_tree_terms_tree_L1, h2]
  repeat' (first | (split <;> (try simp only [opT_go, opF_go, cdT_go, qT_go, qN_go]) <;> (try simp [*])) | (simp only [opT_go, opF_go, cdT_go, qT_go, qN_go] <;> (try simp [*])) | omega)
 | d + 1, q, hd, hq => by
  have hj : k0 + q + 1 < L.length := by omega
  have hct := comp_take L (k0 + q) hj
  obtain ⟨k2, ih⟩ := l_compact1 k0 hk0 d (q + 1) (by omega) (by
   rw [show k0 + (q + 1) + 1 = k0 + q + 2 by omega, hct]
   split
   ·omega
   ·simp; omega)
  refine ⟨k2, loop_step fun K hK => ?_⟩
  rw [← hK] at ih
  clear hK
  have hwl := hq
  rw [show k0 + (q + 1) + 1 = k0 + q + 2 by omega, hct] at ih
  generalize hW : comp (L.take (k0 + q + 1)) = W at ih hwl
  have h2 : q + 1 < L.length - k0 := by omega
  generalize hM : W ++ L.drop W.length = M
  have hMl : M.length = L.length := by rw [← hM]; simp; omega
  have hg : ∀ i, W.length ≤ i → i < L.length → M[i]? = L[i]? := by
   intro i h3 h4
   rw [← hM, List.getElem?_append_right h3, List.getElem?_drop]; congr 1; omega
  have hp1 : AV.ag (((flT M ++ z).drop (k0 * 7 + (q + 1) * 7)).take 7) = encT L[k0 + q + 1] := by
   have h3 : k0 + q + 1 < M.length := by omega
   have h5 := hg (k0 + q + 1) (by omega) hj
   rw [List.getElem?_eq_getElem h3, List.getElem?_eq_getElem hj] at h5
   rw [show k0 * 7 + (q + 1) * 7 = (k0 + q + 1) * 7 by omega, get_flT M z _ h3, Option.some.inj h5]
  have hp2 : AV.ag (((flT M ++ z).drop (k0 * 7 + q * 7)).take 7) = encT L[k0 + q] := by
   have h3 : k0 + q < M.length := by omega
   have h5 := hg (k0 + q) (by omega) (by omega)
   rw [List.getElem?_eq_getElem h3, List.getElem?_eq_getElem (by omega : k0 + q < L.length)] at h5
   rw [show k0 * 7 + q * 7 = (k0 + q) * 7 by omega, get_flT M z _ h3, Option.some.inj h5]
  have hb1 : k0 * 7 + (q + 1) * 7 + 7 ≤ M.length * 7 + z.length := by have := fit_flT M z (k0 + q + 1) (by omega); omega
  have hb2 : k0 * 7 + q * 7 + 7 ≤ M.length * 7 + z.length := by have := fit_flT M z (k0 + q) (by omega); omega
  have e1 := c_meet_1 L[k0 + q + 1] L[k0 + q] (hw _ (List.getElem_mem _)) (hw _ (List.getElem_mem _))
  have hs := splice_flT M z W.length (by omega) L[k0 + q + 1]
  have hset : M.set W.length L[k0 + q + 1] = (W ++ [L[k0 + q + 1]]) ++ L.drop (W ++ [L[k0 + q + 1]]).length := by
   rw [← hM]
   have h3 : L.drop W.length = L[W.length]'(by omega) :: L.drop (W.length + 1) := List.drop_eq_getElem_cons (by omega)
   rw [h3, List.set_append_right _ _ (Nat.le_refl _), Nat.sub_self, List.set_cons_zero]
   simp
  rw [hset] at hs
  have hwi1 : IntKind.i64.wrap (q : Int) = (q : Int) := by rw [w64] <;> omega
  have hwi2 : IntKind.i64.wrap ((q : Int) + 1 + 1) = (q : Int) + 1 + 1 := by rw [w64] <;> omega
  have h2i : (q : Int) + 1 < ((L.length - k0 : Nat) : Int) := by omega
  have h2j : q < L.length - k0 := by omega
  have h00 : (0 : Int) ≤ (q : Int) + 1 := by omega
  have hWL : W.length < L.length := by omega
  have hwi3 := wI (i := W.length) (by omega)
  have hfit : W.length * 7 + 7 ≤ M.length * 7 + z.length := by have : (W.length + 1) * 7 ≤ M.length * 7 := Nat.mul_le_mul_right 7 (by omega); omega
  clear hct hq hW hg hset
  by_cases hc : cmpT L[k0 + q + 1] L[k0 + q] = 0
  ·rw [if_pos hc, hM] at ih
   simp [ir_slices_CompactFunc_terms_tree_terms_tree_L1, avM, h00, hWL, h2, h2i, h2j, hl, hp1, hp2, hb1, hb2, e1, hwi1, hwi2, hc] at ih ⊢
   exact ih
  ·rw [if_neg hc] at ih
   simp [ir_slices_CompactFunc_terms_tree_terms_tree_L1, avM, h00, hWL, h2, h2i, h2j, hl, hp1, hp2, hb1, hb2, e1, hwi1, hwi2, hwi3, hc, hfit, hlim, hbase] at ih ⊢
   simp [splice] at hs
   rw [hs]
   exact ih
def compCells (L : List C) (z : List AV) : List AV :=
 if (comp L).length = L.length then flT L ++ z else flT (comp L) ++ ((List.replicate (L.length - (comp L).length) [AV.i .i64 0, .s [], .i .i64 0, .i .i64 0, .ns, .i .i64 0, .ns]).flatten ++ z)
theorem l_compact0 : ∀ (d k : Nat), k + 1 + d = L.length → comp (L.take (k + 1)) = L.take (k + 1) →
  loopW (acodeW P0.glob (acallW P0) cx true ir_slices_CompactFunc_terms_tree_terms_tree_L0) [0, 1, 5]
   [(0, .v (.sk l ver 7 0 L.length)), (1, .v avM), (5, .v (.i .i64 ((k + 1 : Nat) : Int)))] (s.set l (.buf t 7 ver (flT L ++ z))) =
   if (comp L).length = L.length then .exit 0 [(0, .v (.sk l ver 7 0 L.length)), (1, .v avM), (5, .v (.i .i64 L.length)), (15, .v (.b false))] (s.set l (.buf t 7 ver (compCells L z)))
   else .ret [(4, .v (.sk l ver 7 0 (comp L).length))] (s.set l (.buf t 7 ver (compCells L z)))
 | 0, k, hd, hc => by
  have h1 : L.take (k + 1) = L := List.take_of_length_le (by omega)
  rw [h1] at hc
  have h2 : ¬ ((k : Int) + 1 < (L.length : Int)) := by omega
  have h3 : (k : Int) + 1 = (L.length : Int) := by omega
  refine loop_step fun K hK => ?_
  simp [ir_slices_CompactFunc_terms_tree_terms_tree_L0, h2, hc, compCells]
  exact h3
 | d + 1, k, hd, hcm => by
  have hj : k + 1 < L.length := by omega
  have hct := comp_take L k hj
  refine loop_step fun K hK => ?_
  have h2 : (k : Int) + 1 < (L.length : Int) := by omega
  have hp1 : AV.ag (((flT L ++ z).drop ((k + 1) * 7)).take 7) = encT L[k + 1] := get_flT L z _ hj
  have hp2 : AV.ag (((flT L ++ z).drop (k * 7)).take 7) = encT L[k] := get_flT L z _ (by omega)
  have hb1 := fit_flT L z (k + 1) hj
  have hb2 := fit_flT L z k (by omega)
  have e1 := c_meet_1 L[k + 1] L[k] (hw _ (List.getElem_mem _)) (hw _ (List.getElem_mem _))
  have hwi1 : IntKind.i64.wrap (k : Int) = (k : Int) := by rw [w64] <;> omega
  have hwi2 : IntKind.i64.wrap ((k : Int) + 1 + 1) = (k : Int) + 1 + 1 := by rw [w64] <;> omega
  have h2j : k < L.length := by omega
  have h00 : (0 : Int) ≤ (k : Int) + 1 := by omega
  by_cases hc : cmpT L[k + 1] L[k] = 0
  ·-- the first repetition: the inner loop
   rw [if_pos hc, hcm] at hct
   have hne : ¬ (comp L).length = L.length := by
    intro hel
    have he : comp L = L := (comp_sub L).eq_of_length hel
    have h3 : (comp (L.take (k + 2))).length = k + 2 := by
     have h4 : ∀ (a : C) (x y : List C), compF a (x ++ y) = x ++ y → compF a x = x := by
      intro a x
      induction x generalizing a with
      | nil => intro y _; rfl
      | cons b x ih =>
       intro y h5
       simp only [List.cons_append, compF] at h5 ⊢
       split at h5
       ·have := (compF_sub b (x ++ y)).length_le
        rw [h5] at this; simp at this; omega
       ·rename_i h6
        rw [if_neg h6]
        injection h5 with _ h7
        rw [ih b y h7]
     have h5 : comp (L.take (k + 2) ++ L.drop (k + 2)) = L.take (k + 2) ++ L.drop (k + 2) := by rw [List.take_append_drop]; exact he
     have h6 : comp (L.take (k + 2)) = L.take (k + 2) := by
      cases hx : L.take (k + 2) with
      | nil => rfl
      | cons a x =>
       rw [hx] at h5
       simp only [List.cons_append, comp] at h5 ⊢
       injection h5 with _ h7
       rw [h4 a x _ h7]
     rw [h6]; simp; omega
    rw [hct] at h3; simp at h3; omega
   obtain ⟨k2, hin⟩ := l_compact1 L hL hw s cx l t ver z hl hlim hbase (k + 1) (by omega) (L.length - (k + 2)) 0 (by omega) (by
    show (comp (L.take (k + 2))).length ≤ _
    rw [hct]; simp; omega)
   have hk2 : comp (L.take (k + 1 + 0 + 1)) = L.take (k + 1) := hct
   rw [hk2] at hin
   have htd : L.take (k + 1) ++ L.drop (L.take (k + 1)).length = L := by
    rw [List.length_take, Nat.min_eq_left (by omega)]; exact List.take_append_drop _ _
   rw [htd, List.length_take, Nat.min_eq_left (by omega)] at hin
   have hcl := comp_le L
   have hclt : (comp L).length < L.length := by omega
   rw [if_neg hne]
   obtain ⟨m, hm⟩ : ∃ m, L.length - (comp L).length = m + 1 := ⟨L.length - (comp L).length - 1, by omega⟩
   have hcells : compCells L z = flT (comp L) ++ ((List.replicate (m + 1) [AV.i .i64 0, .s [], .i .i64 0, .i .i64 0, .ns, .i .i64 0, .ns]).flatten ++ z) := by rw [compCells, if_neg hne, hm]
   have hfit : (comp L).length * 7 + (m + 1) * 7 ≤ L.length * 7 + z.length := by have : L.length = (comp L).length + (m + 1) := by omega
                                                                                 rw [this, Nat.add_mul]; omega
   have hzl : (List.replicate (m + 1) [AV.i .i64 0, .s [], .i .i64 0, .i .i64 0, .ns, .i .i64 0, .ns]).flatten.length = (m + 1) * 7 := by
    rw [List.length_flatten]; simp
   have hdl : (L.drop (comp L).length).length = m + 1 := by simp; omega
   have hspl : splice (flT (comp L ++ L.drop (comp L).length) ++ z) ((comp L).length * 7) (List.replicate (m + 1) [AV.i .i64 0, .s [], .i .i64 0, .i .i64 0, .ns, .i .i64 0, .ns]).flatten = compCells L z := by
    rw [hcells]
    unfold splice
    rw [hzl]
    have hLc : comp L ++ L.drop (comp L).length = comp L ++ L.drop (comp L).length := rfl
    rw [flT_take _ _ _ (by simp), List.take_left']
    ·rw [show (comp L).length * 7 + (m + 1) * 7 = ((comp L).length + (m + 1)) * 7 by omega, flT_drop _ _ _ (by simp; omega), List.drop_of_length_le (by simp; omega)]
     simp [flT]
    ·rfl
   have hcond : (comp L).length ≤ L.length := hcl
   clear hct hcm hk2 htd hcells hzl hdl hne hclt hK
   generalize hX : List.replicate (m + 1) [AV.i .i64 0, .s [], .i .i64 0, .i .i64 0, .ns, .i .i64 0, .ns] = X at hspl
   simp [ir_slices_CompactFunc_terms_tree_terms_tree_L0, avM, h00, h2, h2j, hj, hl, hp1, hp2, hb1, hb2, e1, hwi1, hc] at hin ⊢
   have hj1 : k + 1 ≤ L.length := by omega
   have hfit2 : (comp L).length * 7 + (m + 1) * 7 ≤ ((comp L).length + (m + 1)) * 7 + z.length := by omega
   simp [hj1, hin, hl, hcond, hm, hX, hfit, hfit2, hlim, hbase]
   simp [splice] at hspl
   rw [hspl]
  ·have hct' : comp (L.take (k + 2)) = L.take (k + 2) := by
    rw [hct, if_neg hc, hcm]; exact (List.take_succ_eq_append_getElem hj).symm
   have ih := l_compact0 d (k + 1) (by omega) hct'
   rw [← hK] at ih
   clear hK hct hct' hcm
   simp [ir_slices_CompactFunc_terms_tree_terms_tree_L0, avM, h00, h2, h2j, hj, hl, hp1, hp2, hb1, hb2, e1, hwi1, hwi2, hc] at ih ⊢
   exact ih
theorem c_compact (m : Nat) (hm : m = L.length) (hs : s[l]? = some (.buf t 7 ver (flT L ++ z))) :
  acallW P0 (.fn (.func F_slices_CompactFunc_terms_tree_terms_tree) [] []) [.sk l ver 7 0 m, avM] s cx = .ret (.sk l ver 7 0 (comp L).length) (s.set l (.buf t 7 ver (compCells L z))) := by
 subst hm
 have hset : s.set l (.buf t 7 ver (flT L ++ z)) = s := by
  apply List.ext_getElem?
  intro i
  by_cases hi : l = i
  ·subst hi; rw [List.getElem?_set_self hl, hs]
  ·rw [List.getElem?_set_ne hi]
 refine go_slices_CompactFunc_terms_tree_terms_tree (by simp) ?_
 match L, hL, hw with
 | [], _, _ =>
  have h1 : compCells [] z = flT [] ++ z := by simp [compCells, comp]
  rw [h1, hset]
  simp [callFnW, ir_slices_CompactFunc_terms_tree_terms_tree, comp]
 | [a], _, _ =>
  have h1 : compCells [a] z = flT [a] ++ z := by simp [compCells, comp, compF]
  rw [h1, hset]
  simp [callFnW, ir_slices_CompactFunc_terms_tree_terms_tree, comp, compF]
 | a :: b :: r, hL, hw =>
  have h := l_compact0 (a :: b :: r) hL hw s ⟨cx.lim, cx.base⟩ l t ver z hl hlim hbase r.length.succ 0 (by simp; omega) (by simp [comp, compF])
  rw [hset] at h
  have h2 : ¬ ((a :: b :: r).length : Int) < 2 := by simp; omega
  by_cases hc : (comp (a :: b :: r)).length = (a :: b :: r).length
  ·rw [if_pos hc] at h
   simp only [Nat.zero_add] at h
   generalize hX : a :: b :: r = X at *
   simp [avM] at h
   simp [callFnW, ir_slices_CompactFunc_terms_tree_terms_tree, h2, h, hc, avM]
  ·rw [if_neg hc] at h
   simp only [Nat.zero_add] at h
   generalize hX : a :: b :: r = X at *
   simp [avM] at h
   simp [callFnW, ir_slices_CompactFunc_terms_tree_terms_tree, h2, h, avM]
end
end Go.Ai.Z
