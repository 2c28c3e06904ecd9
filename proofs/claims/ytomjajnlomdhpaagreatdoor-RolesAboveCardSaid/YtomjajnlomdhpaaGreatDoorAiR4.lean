/-
  Above, here and in the reference.
-/
import Derived.Test.YtomjajnlomdhpaaGreatDoorAiR3
set_option maxRecDepth 100000
set_option linter.unusedSimpArgs false
set_option linter.unusedVariables false
namespace Go.Ai.Z

theorem strM_keys : ∀ V : List (List UInt8), (strM V).mapM (fun p => strOf p.1) = some V
  | [] => rfl
  | x :: V => by
    have ih := strM_keys V
    simp only [strM, List.map_cons, List.mapM_cons] at ih ⊢
    rw [ih]; rfl
theorem c_Keys (V : List (List UInt8)) (s : St) (cx : Ctx) : acallW P0 (.fn (.func F_maps_Keys_map_string_bool_string_bool) [] []) [.im (strM V)] s cx = .ret (.fn (.func 104) [] [.kb (.im (strM V))]) s :=
  acallW_intrS (h := iKeys 104) rfl rfl
theorem c_Sorted (V : List (List UInt8)) (hV : V.Nodup) (hl : V.length ≤ 1048576) (hx : ∀ x ∈ V, x.length ≤ 1048576) (s : St) (cx : Ctx) : acallW P0 (.fn (.func F_slices_Sorted_string) [] []) [.fn (.func 104) [] [.kb (.im (strM V))]] s cx = .ret (slS (isort V)) s := by
  refine acallW_intrS (h := iSorted [104, 122]) rfl ?_
  have h1 := strictS_of (isort_srt hV)
  have h2 : keysM s (.im (strM V)) = some V := strM_keys V
  simp [iSorted, h2, h1, hl]
  exact hx

/-- What is reached, in order. -/
def upS (l : List Ax) (role : List UInt8) : List (List UInt8) := upN (edU l) (l.length + 1) [role]
theorem mem_upS {l : List Ax} {role x : List UInt8} : x ∈ upS l role ↔ Rch (edU l) role x := mem_upN (by have := edU_len l; omega)
theorem srt_upS (l : List Ax) (role : List UInt8) : Srt (upS l role) := upN_srt _ (by simp [Srt])
theorem upS_ne (l : List Ax) (role : List UInt8) : upS l role ≠ [] := fun h => by
  have : role ∈ upS l role := mem_upS.2 (.refl _)
  rw [h] at this; cases this
theorem isort_upS {l : List Ax} {role : List UInt8} {V : List (List UInt8)} (hV : V.Nodup) (h : ∀ x, x ∈ V ↔ Rch (edU l) role x) : isort V = upS l role :=
  Srt.ext (isort_srt hV) (srt_upS l role) fun x => by rw [mem_upS, ← h, (isort_perm V).mem_iff]
theorem slS_upS (l : List Ax) (role : List UInt8) : slS (upS l role) = .sl ((upS l role).map .s) := by
  cases h : upS l role with
  | nil => exact absurd h (upS_ne l role)
  | cons a r => rfl
theorem rch_cases {E : List (List UInt8 × List UInt8)} {a x : List UInt8} (h : Rch E a x) : x = a ∨ x ∈ E.map (·.2) := by
  cases h with
  | refl => exact .inl rfl
  | step _ he => exact .inr (List.mem_map.2 ⟨_, he, rfl⟩)
theorem edU_role {l : List Ax} (hx : ∀ x ∈ l, x.Few) {p : List UInt8 × List UInt8} (hp : p ∈ edU l) : p.1.length ≤ 600 ∧ p.2.length ≤ 600 := by
  simp only [edU, List.mem_filterMap] at hp
  obtain ⟨x, hxl, h⟩ := hp
  split at h
  · cases h
    refine ⟨?_, (hx x hxl).role⟩
    cases hr : x.roles with
    | nil => simp
    | cons a r => exact (hx x hxl).rs a (by rw [hr]; simp)
  · cases h

theorem underL_strs (n : Nat) : ∀ l : List (List UInt8), underL n (l.map .s) = true
  | [] => by simp [underL]
  | x :: l => by simp [underL, underL_strs n l]
theorem frz_strs (S : St) (n : Nat) (l : List (List UInt8)) (k : IntKind) (i : Int) : frz S n (.tu [.sl (l.map .s), .i k i]) = some (.tu [.sl (l.map .s), .i k i]) := by
  unfold frz
  rw [if_pos (by simp [underL, underL_strs])]
/-- Above's answer. -/
def aboveE (l : List Ax) (role : List UInt8) : Int := if chkL l = 0 then (if nmOK role = true then 0 else 20) else chkL l
def aboveV (l : List Ax) (role : List UInt8) : AV := if chkL l = 0 ∧ nmOK role = true then .sl ((upS l role).map .s) else .ns

theorem c_roles_Above (z : Bool) (l : List Ax) (hl : l.length ≤ 100) (hx : ∀ x ∈ l, x.Few) (role : List UInt8) (hr : role.length ≤ 1000) (s : St) (cx : Ctx) :
    acallW P0 (.fn (.func F_roles_Above) [] []) [slf z (l.map encA), .s role] s cx = .ret (.tu [aboveV l role, .i .i64 (aboveE l role)]) s := by
  have e1 := c_roles_checkAll z l (by omega) hx [role] (by simp) (by simp; omega)
  refine go_roles_Above (by simp) ?_
  simp at e1
  by_cases h0 : chkL l = 0
  · by_cases h1 : nmOK role = true
    · obtain ⟨j, h⟩ := l_roles_Above s role z l (by omega) (one5_all h0) ⟨s.length, s.length⟩ ⟨Nat.le_refl _, Nat.le_refl _⟩ l 0 [] rfl (by simp)
      have el := edU_len l
      have hcl := fun cx => c_roles_closure role (s ++ .map (esG (s.length + 1) (addsG [] (edU l))) :: rowG (addsG [] (edU l))) s.length (esG (s.length + 1) (addsG [] (edU l))) (valG (addsG [] (edU l))) (by simp)
        (mapS_G _ _) (edU l) (fun k x => mem_valG) (fun k => by have := valG_len (E := edU l) (k := k); omega) (by omega) cx
      generalize hG : addsG [] (edU l) = G at h hcl
      obtain ⟨V, e2, m1, m2⟩ := hcl ⟨s.length, s.length⟩
      have hVl : V.length ≤ 1048576 := by
        have := nodup_le (U := role :: (edU l).map (·.2)) m1 fun x hx => by
          rcases rch_cases ((m2 x).1 hx) with rfl | h
          · simp
          · exact List.mem_cons_of_mem _ h
        simp at this; omega
      have hVx : ∀ x ∈ V, x.length ≤ 1048576 := fun x hxV => by
        rcases rch_cases ((m2 x).1 hxV) with rfl | h
        · omega
        · obtain ⟨p, hp, rfl⟩ := List.mem_map.1 h
          have := (edU_role hx hp).2; omega
      have e3 := c_Keys V
      have e4 := c_Sorted V m1 hVl hVx
      rw [isort_upS m1 m2, slS_upS] at e4
      have a1 : aboveV l role = .sl ((upS l role).map .s) := by simp [aboveV, h0, h1]
      have a2 : aboveE l role = 0 := by simp [aboveE, h0, h1]
      rw [a1, a2]
      simp only [h0, h1, if_true] at e1
      simp [esG, show rowG [] = [] from rfl] at h
      simp [callFnW, ir_roles_Above, e1, h, e2, e3, e4, frz_strs]
    · have a1 : aboveV l role = .ns := by simp [aboveV, h0, h1]
      have a2 : aboveE l role = 20 := by simp [aboveE, h0, h1]
      rw [a1, a2]
      simp only [h0, h1, if_true, if_false] at e1
      simp [callFnW, ir_roles_Above, e1]
  · have a1 : aboveV l role = .ns := by simp [aboveV, h0]
    have a2 : aboveE l role = chkL l := by simp [aboveE, h0]
    rw [a1, a2]
    simp only [h0, if_false] at e1
    simp [callFnW, ir_roles_Above, e1, h0]

/-! ### The reference -/

theorem c_ref02_CheckName (x : List UInt8) (s : St) (cx : Ctx) : acallW P0 (.fn (.func F_ref02_CheckName) [] []) [.s x] s cx = .ret (.i .i64 (if nmOK x = true then 0 else 20)) s := by
  refine go_ref02_CheckName (by simp) ?_
  have e1 := c_ref02_Person x
  rcases Bool.eq_false_or_eq_true (nmOK x) with h | h
  · have h' : (plainS x || resS x) = true := h
    rw [h'] at e1
    rw [h]
    simp [callFnW, ir_ref02_CheckName, e1]
  · have h' : (plainS x || resS x) = false := h
    rw [h'] at e1
    rw [h]
    simp [callFnW, ir_ref02_CheckName, e1]

theorem upR_one5 {r0 : List UInt8} {p : Ax} {l : List Ax} {out : List (List UInt8)} (hk : p.kind = 5) (hr : p.roles = [r0]) : upR (edU (p :: l)) out = upR (edU l) (if r0 ∈ out then withS out p.role else out) := by
  rw [edU_cons5 hk, hr]; rfl

theorem l_ref06_Up1 (z : Bool) (l : List Ax) (hl : l.length ≤ 1000) (h5 : One5 l) (rd : Int) (s : St) (cx : Ctx) :
    ∀ (rest : List Ax) (i : Nat) (out : List (List UInt8)), l.drop i = rest → out.length + rest.length ≤ 1000000 →
    ∃ j : Int, loopW (acodeW P0.glob (acallW P0) cx false ir_ref06_Up_L1) [0, 5, 6, 7] [(0, .v (slf z (l.map encA))), (5, .v (.sl (out.map .s))), (6, .v (.i .i64 rd)), (7, .v (.i .i64 i))] s =
      .exit 2 [(0, .v (slf z (l.map encA))), (5, .v (.sl ((upR (edU rest) out).map .s))), (6, .v (.i .i64 rd)), (7, .v (.i .i64 j)), (19, .v (.b false))] s ∧ (upR (edU rest) out).length ≤ out.length + rest.length
  | [], i, out, h, hb => by
    have h1 : ¬ i < l.length := Nat.not_lt.2 (drop_nil h)
    refine ⟨i, loop_step fun K hK => ?_, by simp [edU, upR]⟩
    simp [ir_ref06_Up_L1, h1, edU, upR]
  | p :: r, i, out, h, hb => by
    obtain ⟨g1, g2, g3, g4⟩ := drop_cons h
    have g5 := g4 g3
    have hwi := wI (i := i) (by omega)
    have hp : p ∈ l := by rw [← g5]; exact List.getElem_mem g3
    simp only [List.length_cons] at hb
    by_cases hk : p.kind = 5
    · obtain ⟨r0, hr0⟩ := h5 p hp hk
      have e1 := c_ref06_Has false out r0 (by omega)
      have e2 := c_ref06_With false out p.role (by omega)
      simp at e1 e2
      rw [upR_one5 hk hr0]
      by_cases hm : r0 ∈ out
      · have hwl := withS_len out p.role
        obtain ⟨j, ih, hle⟩ := l_ref06_Up1 z l hl h5 rd s cx r (i + 1) (withS out p.role) g2 (by omega)
        rw [if_pos hm]
        refine ⟨j, loop_step fun K hK => ?_, by simp only [List.length_cons]; omega⟩
        rw [← hK, show ((i + 1 : Nat) : Int) = (i : Int) + 1 from rfl] at ih
        clear hK g4 h5
        simp [ir_ref06_Up_L1, g3, g5, hwi, hk, hr0, e1, e2, hm, ih]
      · obtain ⟨j, ih, hle⟩ := l_ref06_Up1 z l hl h5 rd s cx r (i + 1) out g2 (by omega)
        rw [if_neg hm]
        refine ⟨j, loop_step fun K hK => ?_, by simp only [List.length_cons]; omega⟩
        rw [← hK, show ((i + 1 : Nat) : Int) = (i : Int) + 1 from rfl] at ih
        clear hK g4 h5
        simp [ir_ref06_Up_L1, g3, g5, hwi, hk, hr0, e1, e2, hm, ih]
    · obtain ⟨j, ih, hle⟩ := l_ref06_Up1 z l hl h5 rd s cx r (i + 1) out g2 (by omega)
      rw [edU_consN hk]
      refine ⟨j, loop_step fun K hK => ?_, by simp only [List.length_cons]; omega⟩
      rw [← hK, show ((i + 1 : Nat) : Int) = (i : Int) + 1 from rfl] at ih
      clear hK g4 h5
      simp [ir_ref06_Up_L1, g3, g5, hwi, hk, ih]

theorem l_ref06_Up0 (z : Bool) (l : List Ax) (hl : l.length ≤ 100) (h5 : One5 l) (s : St) (cx : Ctx) :
    ∀ (n rd : Nat) (out : List (List UInt8)), rd + n = l.length + 1 → out.length ≤ 1 + rd * 100 →
    ∃ j : Int, loopW (acodeW P0.glob (acallW P0) cx false ir_ref06_Up_L0) [0, 5, 6] [(0, .v (slf z (l.map encA))), (5, .v (.sl (out.map .s))), (6, .v (.i .i64 rd))] s =
      .exit 0 [(0, .v (slf z (l.map encA))), (5, .v (.sl ((upN (edU l) n out).map .s))), (6, .v (.i .i64 j)), (13, .v (.b false))] s
  | 0, rd, out, h, hb => by
    have h1 : ¬ rd ≤ l.length := by omega
    refine ⟨rd, loop_step fun K hK => ?_⟩
    simp [ir_ref06_Up_L0, h1, upN]
  | n + 1, rd, out, h, hb => by
    have h1 : rd ≤ l.length := by omega
    have hwi := wI (i := rd) (by omega)
    obtain ⟨j1, e1, hle⟩ := l_ref06_Up1 z l (by omega) h5 rd s cx l 0 out rfl (by omega)
    obtain ⟨j, ih⟩ := l_ref06_Up0 z l hl h5 s cx n (rd + 1) (upR (edU l) out) (by omega) (by omega)
    refine ⟨j, loop_step fun K hK => ?_⟩
    have hKk : ∀ e t, K e t = K (keepE e [0, 5, 6]) t := fun e t => by rw [hK]; exact loopW_keep _ _ _ _
    rw [← hK, show ((rd + 1 : Nat) : Int) = (rd : Int) + 1 from rfl] at ih
    clear hK h5
    simp at e1
    simp [ir_ref06_Up_L0, h1, hwi, e1]
    simp [upN, ih]
theorem c_ref06_Up (z : Bool) (l : List Ax) (hl : l.length ≤ 100) (h5 : One5 l) (role : List UInt8) (s : St) (cx : Ctx) :
    acallW P0 (.fn (.func F_ref06_Up) [] []) [slf z (l.map encA), .s role] s cx = .ret (.sl ((upS l role).map .s)) s := by
  obtain ⟨j, h⟩ := l_ref06_Up0 z l hl h5 s ⟨s.length, s.length⟩ (l.length + 1) 0 [role] (by omega) (by simp)
  refine go_ref06_Up (by simp) ?_
  simp at h
  simp [callFnW, ir_ref06_Up, h, upS]
theorem c_ref06_Above (z : Bool) (l : List Ax) (hl : l.length ≤ 100) (hx : ∀ x ∈ l, x.Few) (role : List UInt8) (s : St) (cx : Ctx) :
    acallW P0 (.fn (.func F_ref06_Above) [] []) [slf z (l.map encA), .s role] s cx = .ret (.tu [aboveV l role, .i .i64 (aboveE l role)]) s := by
  have e1 := c_ref06_checked z l (by omega) hx
  have e2 := c_ref02_CheckName role
  refine go_ref06_Above (by simp) ?_
  by_cases h0 : chkL l = 0
  · by_cases h1 : nmOK role = true
    · have e3 := c_ref06_Up z l hl (one5_all h0) role
      have a1 : aboveV l role = .sl ((upS l role).map .s) := by simp [aboveV, h0, h1]
      have a2 : aboveE l role = 0 := by simp [aboveE, h0, h1]
      rw [a1, a2]
      rw [if_pos h1] at e2
      simp [callFnW, ir_ref06_Above, e1, e2, e3, h0]
    · have a1 : aboveV l role = .ns := by simp [aboveV, h0, h1]
      have a2 : aboveE l role = 20 := by simp [aboveE, h0, h1]
      rw [a1, a2]
      rw [if_neg h1] at e2
      simp [callFnW, ir_ref06_Above, e1, e2, h0]
  · have a1 : aboveV l role = .ns := by simp [aboveV, h0]
    have a2 : aboveE l role = chkL l := by simp [aboveE, h0]
    rw [a1, a2]
    simp [callFnW, ir_ref06_Above, e1, h0]

end Go.Ai.Z
