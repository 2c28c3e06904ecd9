/-
  The reference's longer paths: the contract.
-/
import Derived.Test.YtomjajnlomdhpaaGreatDoorAiR51R52
import Derived.Test.YtomjajnlomdhpaaGreatDoorAiR19R20R21R22R23R24R25R26R27R28R29R30R31R32R33R34R35R36
set_option maxRecDepth 100000
set_option linter.unusedSimpArgs false
set_option linter.unusedVariables false
namespace Go.Ai.Z
def ClsN (out : List PE) : Prop := (out.map fun y => (y.2, lstR y)).Nodup
theorem clsN_ins {out : List PE} (h : ClsN out) (x : PE) : ClsN (insM out x) := by
  rcases insM_cases out x with ⟨e, h2⟩ | ⟨i, y, h1, h2, ⟨_, e⟩ | ⟨_, e⟩⟩
  · rw [e, ClsN, List.map_append, List.nodup_append]
    refine ⟨h, by simp, fun a ha b hb hab => ?_⟩
    simp at hb; subst hb; subst hab
    obtain ⟨y, hy, hye⟩ := List.mem_map.1 ha
    simp only [Prod.mk.injEq] at hye
    have := h2 y hy
    rw [sameP_iff.2 ⟨hye.1, hye.2⟩] at this; cases this
  · rw [e, ClsN, List.map_set]
    have hs := sameP_iff.1 h2
    have hi : (out.map fun y => (y.2, lstR y))[i]? = some (x.2, lstR x) := by rw [List.getElem?_map, h1]; simp [hs.1, hs.2]
    obtain ⟨hl, he⟩ := List.getElem?_eq_some_iff.1 hi
    rw [← he, List.set_getElem_self]; exact h
  · rw [e]; exact h
structure PInv (U : List Rl) (n : Nat) (out : List PE) : Prop where
  len : ∀ y ∈ out, y.1.length = n
  cls : ClsN out
  fr : ∀ y ∈ out, lstR y ∈ U
theorem PInv.few {U : List Rl} {n : Nat} {out : List PE} (h : PInv U n out) : out.length ≤ U.length * 2 := by
  have h1 := nodupB_le (V := out.map fun y : PE => (y.2, lstR y)) (U := U.flatMap fun u => [(true, u), (false, u)]) h.cls fun p hp => by
    obtain ⟨y, hy, rfl⟩ := List.mem_map.1 hp
    simp only [List.mem_flatMap]
    refine ⟨lstR y, h.fr y hy, ?_⟩
    cases y.2 <;> simp
  rw [List.length_map] at h1
  have h2 : ∀ U : List Rl, (U.flatMap fun u => [(true, u), (false, u)]).length = U.length * 2 := fun U => by
    induction U with
    | nil => rfl
    | cons a U ih => rw [List.flatMap_cons, List.length_append, ih, List.length_cons]; simp; omega
  rw [h2] at h1
  exact h1
where
  nodupB_le {V U : List (Bool × Rl)} (hV : V.Nodup) (h : ∀ x ∈ V, x ∈ U) : V.length ≤ U.length := by
    induction V generalizing U with
    | nil => simp
    | cons a V ih =>
      rw [List.nodup_cons] at hV
      have ha := h a (by simp)
      have h1 := ih (U := U.erase a) hV.2 fun x hx => by
        have hne : x ≠ a := fun he => hV.1 (he ▸ hx)
        exact (List.mem_erase_of_ne hne).2 (h x (by simp [hx]))
      rw [List.length_erase_of_mem ha] at h1
      have := List.length_pos_of_mem ha
      simp only [List.length_cons]; omega
theorem lst_snoc (l : List Rl) (t : Rl) (b : Bool) : lstR (l ++ [t], b) = t := by simp [lstR, List.getLastD_eq_getLast?]
theorem PInv.step {U : List Rl} {n : Nat} {out : List PE} (h : PInv U (n + 1) out) {p : PE} (hp : p.1.length = n) {k : Rl × Rl × Bool} (hk : k.2.1 ∈ U) : PInv U (n + 1) (stepM p out k) := by
  unfold stepM
  split
  · refine ⟨fun y hy => ?_, clsN_ins h.cls _, fun y hy => ?_⟩
    · rcases ins_mem hy with rfl | hy
      · simp [hp]
      · exact h.len y hy
    · rcases ins_mem hy with rfl | hy
      · rw [lst_snoc]; exact hk
      · exact h.fr y hy
  · exact h
theorem l_ref06_longer1 (E : RE) (U : List Rl) (hU : U.length ≤ 100000) (hEl : E.length ≤ 1000000) (hEU : ∀ k ∈ E, k.2.1 ∈ U) (vp : AV) (i0 : Nat) (p : PE) (n : Nat) (hn : p.1.length = n + 1) (hnn : n ≤ 900000) (lo : Nat) (cx : Ctx) (hcx : cx.lim ≤ lo) :
    ∀ (rest : RE) (k : Nat) (out : List PE) (H : St), E.drop k = rest → PInv U (n + 2) out → lo ≤ H.length →
    ∃ (X : St) (j : Int), loopW (acodeW P0.glob (acallW P0) cx false ir_ref06_longer_L1) [0, 1, 5, 6, 7, 8]
      [(0, .v vp), (1, .v (.sl (E.map encS))), (5, .own false T_ref06_path_1 2 (out.map encPE)), (6, .v (.i .i64 i0)), (7, .bx [.sl (p.1.map .s), .b p.2]), (8, .v (.i .i64 k))] H =
      .exit 2 [(0, .v vp), (1, .v (.sl (E.map encS))), (5, .own false T_ref06_path_1 2 ((rest.foldl (stepM p) out).map encPE)), (6, .v (.i .i64 i0)), (7, .bx [.sl (p.1.map .s), .b p.2]), (8, .v (.i .i64 j)), (25, .v (.b false))] (H ++ X) ∧ PInv U (n + 2) (rest.foldl (stepM p) out)
  | [], k, out, H, h, hP, hH => by
    have h1 : ¬ k < E.length := Nat.not_lt.2 (drop_nil h)
    refine ⟨[], k, loop_step fun K hK => ?_, hP⟩
    simp [ir_ref06_longer_L1, h1]
  | kk :: rest, k, out, H, h, hP, hH => by
    obtain ⟨g1, g2, g3, g4⟩ := drop_cons h
    have g5 := g4 g3
    have hwi := wI (i := k) (by omega)
    have hkm : kk ∈ E := by rw [← g5]; exact List.getElem_mem g3
    have hP' := hP.step (p := p) hn (hEU kk hkm)
    have hw : IntKind.i64.wrap (n : Int) = n := w64 (by omega) (by omega)
    have hn' : (p.1.length : Int) = (n : Int) + 1 := by omega
    have hLp := lst_at hn
    obtain ⟨z3, z4⟩ := List.getElem?_eq_some_iff.1 hLp
    have hfew := hP.few
    have hkk : ∀ e t, loopW (acodeW P0.glob (acallW P0) cx false ir_ref06_longer_L1) [0, 1, 5, 6, 7, 8] e t = loopW (acodeW P0.glob (acallW P0) cx false ir_ref06_longer_L1) [0, 1, 5, 6, 7, 8] (keepE e [0, 1, 5, 6, 7, 8]) t := fun e t => loopW_keep _ _ _ _
    by_cases h1 : kk.1 = lstR p
    · by_cases h2 : kk.2.1 ∈ p.1
      · have hst : stepM p out kk = out := by simp [stepM, h2]
        obtain ⟨X, j, ih, r⟩ := l_ref06_longer1 E U hU hEl hEU vp i0 p n hn hnn lo cx hcx rest (k + 1) out H g2 hP hH
        refine ⟨X, j, loop_step fun K hK => ?_, by simp only [List.foldl_cons, hst]; exact r⟩
        have hKk : ∀ e t, K e t = K (keepE e [0, 1, 5, 6, 7, 8]) t := fun e t => by rw [hK]; exact hkk e t
        rw [← hK, show ((k + 1 : Nat) : Int) = (k : Int) + 1 from rfl] at ih
        have e1 := c_ref06_Has false p.1 kk.2.1 (by omega)
        simp only [h2, decide_true, slf_false] at e1
        clear hK g4 hkk r hP hP' hEU
        simp only [List.foldl_cons, hst]
        rw [← ih]
        rw [← h1] at hLp z4
        obtain ⟨k1, k2, k3⟩ := kk
        simp only at e1 hLp z4
        simp [ir_ref06_longer_L1, g3, g5, hwi, hn', hw, hLp, z4, e1]
      · obtain ⟨x, hx⟩ : ∃ x : PE, x = (p.1 ++ [kk.2.1], p.2 || kk.2.2) := ⟨_, rfl⟩
        have hst : stepM p out kk = insM out x := by rw [hx]; simp [stepM, h1, h2]
        have hxl : x.1.length = n + 1 + 1 := by rw [hx]; simp [hn]
        have hlx : kk.2.1 = lstR x := by rw [hx, lst_snoc]
        obtain ⟨X, j, ih, r⟩ := l_ref06_longer1 E U hU hEl hEU vp i0 p n hn hnn lo cx hcx rest (k + 1) (insM out x) (H ++ [.row T_string_0 1 (n + 1 + 1)]) g2 (by rw [← hst]; exact hP') (by simp; omega)
        obtain ⟨j2, e2⟩ := l_ref06_longer2 E hEl vp i0 k [.sl (p.1.map .s), .b p.2] x (n + 1) hxl (by omega) kk g1 hlx out (fun y hy => hP.len y hy) (by omega) (H ++ [.row T_string_0 1 (n + 1 + 1)]) cx out 0 none rfl
        refine ⟨.row T_string_0 1 (n + 1 + 1) :: X, j, loop_step fun K hK => ?_, by simp only [List.foldl_cons, hst]; exact r⟩
        have hKk : ∀ e t, K e t = K (keepE e [0, 1, 5, 6, 7, 8]) t := fun e t => by rw [hK]; exact hkk e t
        rw [← hK, show ((k + 1 : Nat) : Int) = (k : Int) + 1 from rfl] at ih
        have e1 := c_ref06_Has false p.1 kk.2.1 (by omega)
        simp only [h2, decide_false, slf_false] at e1
        have hpos : 0 < p.1.length := by omega
        have hm1 : n + 1 ≤ maxSl := by unfold maxSl; omega
        have hm2 : n + 1 + 1 ≤ maxSl := by unfold maxSl; omega
        have hm3 : out.length + 1 ≤ maxSl := by unfold maxSl; omega
        have hcl : cx.lim ≤ H.length := by omega
        have hset : ∀ v w : HObj, (H ++ [v]).set H.length w = H ++ [w] := fun v w => by simp
        have hget : ∀ v : HObj, (H ++ [v])[H.length]? = some v := fun v => by simp
        have hlen := hP.len
        have hspec := atM_spec x out 0 none
        clear hK g4 hkk r hP' hEU hP
        simp only [List.foldl_cons, hst]
        rw [show H ++ HObj.row T_string_0 1 (n + 1 + 1) :: X = H ++ [HObj.row T_string_0 1 (n + 1 + 1)] ++ X by simp, ← ih]
        rw [← h1] at hLp z4
        obtain ⟨k1, k2, k3⟩ := kk
        obtain ⟨pl, pb⟩ := p
        simp only at e1 hLp z4 hn hx hpos h1
        clear h1
        have he : ∀ b : Bool, encPE (pl ++ [k2], b) = AV.ag [.sl (pl.map .s ++ [.s k2]), .b b] := fun b => by simp [encPE]
        simp only [Int.ofNat_zero] at e2
        rcases hspec with ⟨a1, _⟩ | ⟨i, y, a1, a2, a3⟩
        · have hins : insM out x = out ++ [x] := by unfold insM; rw [a1]
          have ha : atI none = -1 := rfl
          rw [a1, ha] at e2
          rw [hins]
          subst hx
          cases pb with
          | true =>
            simp only [Bool.true_or] at e2 ⊢
            simp at e2
            simp [he, fillC, ir_ref06_longer_L1, g3, g5, hwi, hn, hw, hLp, z4, e1, hm1, hm2, hm3, hcl, e2]
          | false =>
            simp only [Bool.false_or] at e2 ⊢
            simp at e2
            simp [he, fillC, ir_ref06_longer_L1, g3, g5, hwi, hn, hw, hLp, z4, e1, hm1, hm2, hm3, hcl, e2]
        · rw [Nat.zero_add] at a1
          obtain ⟨y1, y2⟩ := List.getElem?_eq_some_iff.1 a2
          have hyl := hlen y (List.mem_of_getElem? a2)
          have hgd : out.getD i ([], false) = y := by simp [List.getD, a2]
          have ha : atI (some i) = (i : Int) := rfl
          have hi0 : ¬ (i : Int) < 0 := by omega
          have hey : encPE y = AV.ag [.sl (y.1.map .s), .b y.2] := rfl
          have e3 := c_ref06_less false false x.1 y.1 (by omega) (by rw [hxl, hyl])
          simp only [slf_false] at e3
          rw [a1, ha] at e2
          cases hlr : lessR x.1 y.1 with
          | true =>
            have hins : insM out x = out.set i x := by unfold insM; rw [a1]; simp only [hgd, hlr, if_true]
            rw [hins, List.map_set]
            rw [hlr] at e3
            subst hx
            have ha2 : atI none = -1 := rfl
            rw [ha2] at e2
            cases pb with
            | true =>
              simp only [Bool.true_or] at e2 e3 ⊢
              simp at e2 e3
              simp [he, fillC, splice, setElem, ir_ref06_longer_L1, g3, g5, hwi, hn, hw, hLp, z4, e1, hm1, hm2, hm3, hcl, e2, hi0, y1, y2, a2, e3]
              rfl
            | false =>
              simp only [Bool.false_or] at e2 e3 ⊢
              simp at e2 e3
              simp [he, fillC, splice, setElem, ir_ref06_longer_L1, g3, g5, hwi, hn, hw, hLp, z4, e1, hm1, hm2, hm3, hcl, e2, hi0, y1, y2, a2, e3]
              rfl
          | false =>
            have hins : insM out x = out := by unfold insM; rw [a1]; simp only [hgd, hlr, Bool.false_eq_true, if_false]
            rw [hins]
            rw [hlr] at e3
            subst hx
            have ha2 : atI none = -1 := rfl
            rw [ha2] at e2
            cases pb with
            | true =>
              simp only [Bool.true_or] at e2 e3 ⊢
              simp at e2 e3
              simp [he, fillC, ir_ref06_longer_L1, g3, g5, hwi, hn, hw, hLp, z4, e1, hm1, hm2, hm3, hcl, e2, hi0, y1, y2, a2, e3]
            | false =>
              simp only [Bool.false_or] at e2 e3 ⊢
              simp at e2 e3
              simp [he, fillC, ir_ref06_longer_L1, g3, g5, hwi, hn, hw, hLp, z4, e1, hm1, hm2, hm3, hcl, e2, hi0, y1, y2, a2, e3]
    · have hst : stepM p out kk = out := by simp [stepM, h1]
      obtain ⟨X, j, ih, r⟩ := l_ref06_longer1 E U hU hEl hEU vp i0 p n hn hnn lo cx hcx rest (k + 1) out H g2 hP hH
      refine ⟨X, j, loop_step fun K hK => ?_, by simp only [List.foldl_cons, hst]; exact r⟩
      have hKk : ∀ e t, K e t = K (keepE e [0, 1, 5, 6, 7, 8]) t := fun e t => by rw [hK]; exact hkk e t
      rw [← hK, show ((k + 1 : Nat) : Int) = (k : Int) + 1 from rfl] at ih
      clear hK g4 hkk r hP hP' hEU
      simp only [List.foldl_cons, hst]
      rw [← ih]
      obtain ⟨k1, k2, k3⟩ := kk
      simp only at h1
      generalize lstR p = LP at *
      simp [ir_ref06_longer_L1, g3, g5, hwi, hn', hw, hLp, z4, h1]
theorem PInv.nil (U : List Rl) (n : Nat) : PInv U n [] := ⟨fun y hy => (by cases hy), by simp [ClsN], fun y hy => (by cases hy)⟩
theorem l_ref06_longer0 (E : RE) (U : List Rl) (hU : U.length ≤ 100000) (hEl : E.length ≤ 1000000) (hEU : ∀ k ∈ E, k.2.1 ∈ U) (paths : List PE) (n : Nat) (hp : ∀ p ∈ paths, p.1.length = n + 1) (hpl : paths.length ≤ 1000000) (hnn : n ≤ 900000) (lo : Nat) (cx : Ctx) (hcx : cx.lim ≤ lo) :
    ∀ (rest : List PE) (i : Nat) (out : List PE) (H : St), paths.drop i = rest → PInv U (n + 2) out → lo ≤ H.length →
    ∃ (X : St) (j : Int), loopW (acodeW P0.glob (acallW P0) cx false ir_ref06_longer_L0) [0, 1, 5, 6]
      [(0, .v (.sl (paths.map encPE))), (1, .v (.sl (E.map encS))), (5, .own false T_ref06_path_1 2 (out.map encPE)), (6, .v (.i .i64 i))] H =
      .exit 0 [(0, .v (.sl (paths.map encPE))), (1, .v (.sl (E.map encS))), (5, .own false T_ref06_path_1 2 ((rest.foldl (fun out p => E.foldl (stepM p) out) out).map encPE)), (6, .v (.i .i64 j)), (15, .v (.b false))] (H ++ X) ∧ PInv U (n + 2) (rest.foldl (fun out p => E.foldl (stepM p) out) out)
  | [], i, out, H, h, hP, hH => by
    have h1 : ¬ i < paths.length := Nat.not_lt.2 (drop_nil h)
    refine ⟨[], i, loop_step fun K hK => ?_, hP⟩
    simp [ir_ref06_longer_L0, h1]
  | p :: rest, i, out, H, h, hP, hH => by
    obtain ⟨g1, g2, g3, g4⟩ := drop_cons h
    have g5 := g4 g3
    have hwi := wI (i := i) (by omega)
    have hpm : p ∈ paths := by rw [← g5]; exact List.getElem_mem g3
    obtain ⟨X1, j1, e1, r1⟩ := l_ref06_longer1 E U hU hEl hEU (.sl (paths.map encPE)) i p n (hp p hpm) hnn lo cx hcx E 0 out H rfl hP hH
    obtain ⟨X, j, ih, r⟩ := l_ref06_longer0 E U hU hEl hEU paths n hp hpl hnn lo cx hcx rest (i + 1) (E.foldl (stepM p) out) (H ++ X1) g2 r1 (by simp; omega)
    refine ⟨X1 ++ X, j, loop_step fun K hK => ?_, r⟩
    have hKk : ∀ e t, K e t = K (keepE e [0, 1, 5, 6]) t := fun e t => by rw [hK]; exact loopW_keep _ _ _ _
    rw [← hK, show ((i + 1 : Nat) : Int) = (i : Int) + 1 from rfl] at ih
    clear hK g4 r r1 hP hEU hp
    rw [List.foldl_cons, ← List.append_assoc, ← ih]
    simp only [Int.ofNat_zero] at e1
    simp [ir_ref06_longer_L0, g3, g5, hwi, e1]
theorem enc_under (n : Nat) : ∀ out : List PE, underL n (out.map encPE) = true
  | [] => rfl
  | p :: out => by
    have h1 : (encPE p).under n = true := by
      show (AV.ag [.sl (p.1.map .s), .b p.2]).under n = true
      simp [AV.under, underL, underL_strs]
    simp only [List.map_cons, underL, h1, enc_under n out]; rfl
theorem c_ref06_longer (E : RE) (U : List Rl) (hU : U.length ≤ 100000) (hEl : E.length ≤ 1000000) (hEU : ∀ k ∈ E, k.2.1 ∈ U) (paths : List PE) (n : Nat) (hp : ∀ p ∈ paths, p.1.length = n + 1) (hpl : paths.length ≤ 1000000) (hnn : n ≤ 900000) (s : St) (cx : Ctx) :
    acallW P0 (.fn (.func F_ref06_longer) [] []) [.sl (paths.map encPE), .sl (E.map encS)] s cx = .ret (.sl ((longM E paths).map encPE)) s ∧ PInv U (n + 2) (longM E paths) := by
  obtain ⟨X, j, h, r⟩ := l_ref06_longer0 E U hU hEl hEU paths n hp hpl hnn s.length ⟨s.length, s.length⟩ (Nat.le_refl _) paths 0 [] s rfl (PInv.nil U (n + 2)) (Nat.le_refl _)
  refine ⟨?_, r⟩
  refine go_ref06_longer (by simp) ?_
  have hf : frz (s ++ X) s.length (.sl ((longM E paths).map encPE)) = some (.sl ((longM E paths).map encPE)) := by
    unfold frz
    rw [if_pos (show (AV.sl ((longM E paths).map encPE)).under s.length = true from enc_under s.length _)]
  rw [show paths.foldl (fun out p => E.foldl (stepM p) out) [] = longM E paths from rfl] at h
  clear r hEU hp
  simp only [Int.ofNat_zero, List.map_nil] at h
  simp [callFnW, ir_ref06_longer, h, hf]
end Go.Ai.Z
namespace Go.Ai.Z
def addW (out ks : List Rl) : List Rl := ks.foldl withS out
def allM (out : List Rl) (l : List Ax) : List Rl := l.foldl (fun out x => addW out (namesA x)) out
theorem mem_addW {y : Rl} : ∀ {ks out : List Rl}, y ∈ addW out ks ↔ y ∈ ks ∨ y ∈ out
  | [], out => by simp [addW]
  | k :: ks, out => by
    show y ∈ addW (withS out k) ks ↔ _
    rw [mem_addW, mem_withS]
    simp only [List.mem_cons]
    constructor
    · rintro (h | h | h)
      · exact .inl (.inr h)
      · exact .inl (.inl h)
      · exact .inr h
    · rintro ((h | h) | h)
      · exact .inr (.inl h)
      · exact .inl h
      · exact .inr (.inr h)
theorem mem_allM {y : Rl} : ∀ {l : List Ax} {out : List Rl}, y ∈ allM out l ↔ (∃ x ∈ l, y ∈ namesA x) ∨ y ∈ out
  | [], out => by simp [allM]
  | x :: l, out => by
    show y ∈ allM (addW out (namesA x)) l ↔ _
    rw [mem_allM, mem_addW]
    constructor
    · rintro (⟨a, ha, h⟩ | h | h)
      · exact .inl ⟨a, by simp [ha], h⟩
      · exact .inl ⟨x, by simp, h⟩
      · exact .inr h
    · rintro (⟨a, ha, h⟩ | h)
      · rcases List.mem_cons.1 ha with rfl | ha
        · exact .inr (.inl h)
        · exact .inl ⟨a, ha, h⟩
      · exact .inr (.inr h)
theorem addW_len : ∀ (ks out : List Rl), (addW out ks).length ≤ out.length + ks.length
  | [], out => by simp [addW]
  | k :: ks, out => by
    have h1 := withS_len out k
    have h2 := addW_len ks (withS out k)
    show (addW (withS out k) ks).length ≤ _
    simp only [List.length_cons]; omega
theorem namesA_len (x : Ax) : (namesA x).length ≤ x.roles.length + 1 := by
  unfold namesA; split
  · simp
  · simp
theorem allM_len {n : Nat} : ∀ {l : List Ax} {out : List Rl}, (∀ x ∈ l, x.roles.length ≤ n) → (allM out l).length ≤ out.length + l.length * (n + 1)
  | [], out, _ => by simp [allM]
  | x :: l, out, h => by
    have h1 := addW_len (namesA x) out
    have h2 := allM_len (l := l) (out := addW out (namesA x)) fun y hy => h y (by simp [hy])
    have h3 := h x (by simp)
    have h4 := namesA_len x
    show (allM (addW out (namesA x)) l).length ≤ _
    simp only [List.length_cons, Nat.add_mul]; omega
theorem c_With0 (l : List Rl) (x : Rl) (hl : l.length ≤ 1000000) (s : St) (cx : Ctx) : acallW P0 (.fn (.func F_ref06_With) [] []) [slf true (l.map .s), .s x] s cx = .ret (slf true ((withS l x).map .s)) s := c_ref06_With true l x hl s cx
theorem l_ref06_All1 (z : Bool) (l : List Ax) (i : Nat) (x : Ax) (hi : l[i]? = some x) (hx : x.roles.length ≤ 1000) (s : St) (cx : Ctx) :
    ∀ (rest : List Rl) (k : Nat) (out : List Rl), x.roles.drop k = rest → out.length + rest.length ≤ 1000000 →
    ∃ j : Int, loopW (acodeW P0.glob (acallW P0) cx false ir_ref06_All_L1) [0, 3, 4, 5]
      [(0, .v (slf z (l.map encA))), (3, .v (slf true (out.map .s))), (4, .v (.i .i64 i)), (5, .v (.i .i64 k))] s =
      .exit 2 [(0, .v (slf z (l.map encA))), (3, .v (slf true ((addW out rest).map .s))), (4, .v (.i .i64 i)), (5, .v (.i .i64 j)), (48, .v (.b false))] s
  | [], k, out, h, ho => by
    have h1 : ¬ k < x.roles.length := Nat.not_lt.2 (drop_nil h)
    obtain ⟨i1, i2⟩ := List.getElem?_eq_some_iff.1 hi
    refine ⟨k, loop_step fun K hK => ?_⟩
    simp [ir_ref06_All_L1, i1, i2, h1, addW]
  | p :: rest, k, out, h, ho => by
    obtain ⟨g1, g2, g3, g4⟩ := drop_cons h
    have g5 := g4 g3
    have hwi := wI (i := k) (by omega)
    obtain ⟨i1, i2⟩ := List.getElem?_eq_some_iff.1 hi
    simp only [List.length_cons] at ho
    have e1 := c_With0 out p (by omega)
    have hwl := withS_len out p
    obtain ⟨j, ih⟩ := l_ref06_All1 z l i x hi hx s cx rest (k + 1) (withS out p) g2 (by omega)
    refine ⟨j, loop_step fun K hK => ?_⟩
    rw [← hK, show ((k + 1 : Nat) : Int) = (k : Int) + 1 from rfl] at ih
    clear hK g4
    rw [show addW out (p :: rest) = addW (withS out p) rest from rfl, ← ih]
    simp [ir_ref06_All_L1, i1, i2, g3, g5, hwi, e1]
theorem l_ref06_All0 (z : Bool) (l : List Ax) (hl : l.length ≤ 1000) (hx : ∀ x ∈ l, x.roles.length ≤ 600) (s : St) (cx : Ctx) :
    ∀ (rest : List Ax) (i : Nat) (out : List Rl), l.drop i = rest → out.length + rest.length * 601 ≤ 1000000 →
    ∃ j : Int, loopW (acodeW P0.glob (acallW P0) cx false ir_ref06_All_L0) [0, 3, 4]
      [(0, .v (slf z (l.map encA))), (3, .v (slf true (out.map .s))), (4, .v (.i .i64 i))] s =
      .exit 0 [(0, .v (slf z (l.map encA))), (3, .v (slf true ((allM out rest).map .s))), (4, .v (.i .i64 j)), (9, .v (.b false))] s
  | [], i, out, h, ho => by
    have h1 : ¬ i < l.length := Nat.not_lt.2 (drop_nil h)
    refine ⟨i, loop_step fun K hK => ?_⟩
    simp [ir_ref06_All_L0, h1, allM]
  | x :: rest, i, out, h, ho => by
    obtain ⟨g1, g2, g3, g4⟩ := drop_cons h
    have g5 := g4 g3
    have hwi := wI (i := i) (by omega)
    have hxl : x ∈ l := by rw [← g5]; exact List.getElem_mem g3
    have hxr := hx x hxl
    simp only [List.length_cons, Nat.add_mul] at ho
    have hal := addW_len (namesA x) out
    have hnl := namesA_len x
    obtain ⟨j, ih⟩ := l_ref06_All0 z l hl hx s cx rest (i + 1) (addW out (namesA x)) g2 (by omega)
    refine ⟨j, loop_step fun K hK => ?_⟩
    have hKk : ∀ e t, K e t = K (keepE e [0, 3, 4]) t := fun e t => by rw [hK]; exact loopW_keep _ _ _ _
    rw [← hK, show ((i + 1 : Nat) : Int) = (i : Int) + 1 from rfl] at ih
    clear hK g4
    rw [show allM out (x :: rest) = allM (addW out (namesA x)) rest from rfl, ← ih]
    by_cases h5 : x.kind = 5 ∨ x.kind = 6 ∨ x.kind = 7
    · have hwl := withS_len out x.role
      obtain ⟨j1, e1⟩ := l_ref06_All1 z l i x g1 (by omega) s cx x.roles 0 (withS out x.role) rfl (by omega)
      have e2 := c_With0 out x.role (by omega)
      have hn : addW out (namesA x) = addW (withS out x.role) x.roles := by unfold namesA; rw [if_pos h5]; rfl
      rw [hn]
      simp only [Int.ofNat_zero] at e1
      clear hx
      rcases h5 with h5 | h5 | h5
      · simp [ir_ref06_All_L0, g3, g5, hwi, h5, e1, e2]
      · simp [ir_ref06_All_L0, g3, g5, hwi, h5, e1, e2]
      · simp [ir_ref06_All_L0, g3, g5, hwi, h5, e1, e2]
    · have hn : addW out (namesA x) = out := by unfold namesA; rw [if_neg h5]; rfl
      rw [hn]
      have h1 : ¬ x.kind = 5 := fun h => h5 (.inl h)
      have h2 : ¬ x.kind = 6 := fun h => h5 (.inr (.inl h))
      have h3 : ¬ x.kind = 7 := fun h => h5 (.inr (.inr h))
      simp [ir_ref06_All_L0, g3, g5, hwi, h1, h2, h3]
theorem c_ref06_All (z : Bool) (l : List Ax) (hl : l.length ≤ 1000) (hx : ∀ x ∈ l, x.roles.length ≤ 600) (s : St) (cx : Ctx) : acallW P0 (.fn (.func F_ref06_All) [] []) [slf z (l.map encA)] s cx = .ret (slf true ((allM [] l).map .s)) s := by
  obtain ⟨j, h⟩ := l_ref06_All0 z l hl hx s ⟨s.length, s.length⟩ l 0 [] rfl (by simp; omega)
  refine go_ref06_All (by simp) ?_
  simp only [Int.ofNat_zero, List.map_nil, slf_nil] at h
  simp [callFnW, ir_ref06_All, h]
end Go.Ai.Z
