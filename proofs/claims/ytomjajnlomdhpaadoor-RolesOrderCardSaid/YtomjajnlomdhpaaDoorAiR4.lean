/-
  Above, here and in the reference.
-/
import Derived.Test.YtomjajnlomdhpaaDoorAiR3
set_option maxRecDepth 100000
set_option linter.unusedSimpArgs false
set_option linter.unusedVariables false
namespace Go.Ai.Z

theorem strM_keys : ∀ V : List (List UInt8), (strM V).mapM (fun p => strOf p.1) = some V
  | [] => rfl
  | x :: V => by
    have ih := strM_keys V
    simp only [strM, List.map_cons, List.mapM_cons] at ih ⊢
    rw [ih]; rfl
theorem c_Keys (V : List (List UInt8)) (s : St) (cx : Ctx) : acallW P0 (.fn (.func F_maps_Keys_map_string_bool_string_bool) [] []) [.im (strM V)] s cx = .ret (.fn (.func 79) [] [.kb (.im (strM V))]) s :=
  acallW_intrS (h := iKeys 79) rfl rfl
theorem c_Sorted (V : List (List UInt8)) (hV : V.Nodup) (hl : V.length ≤ 1048576) (hx : ∀ x ∈ V, x.length ≤ 1048576) (s : St) (cx : Ctx) : acallW P0 (.fn (.func F_slices_Sorted_string) [] []) [.fn (.func 79) [] [.kb (.im (strM V))]] s cx = .ret (slS (isort V)) s := by
  refine acallW_intrS (h := iSorted [79, 101]) rfl ?_
  have h1 := strictS_of (isort_srt hV)
  have h2 : keysM s (.im (strM V)) = some V := strM_keys V
  simp [iSorted, h2, h1, hl]
  exact hx

/-- What is reached, in order. -/
def upS (l : List Ax) (role : List UInt8) : List (List UInt8) := upN (edU l) (l.length + 1) [role]
theorem mem_upS {l : List Ax} {role x : List UInt8} : x ∈ upS l role ↔ Rch (edU l) role x := mem_upN (by have := edU_len l; omega)
theorem srt_upS (l : List Ax) (role : List UInt8) : Srt (upS l role) := upN_srt _ (by simp [Srt])
theorem upS_ne (l : List Ax) (role : List UInt8) : upS l role ≠ [] := fun h => by
  have : role ∈ upS l role := mem_upS.2 (.refl _)
  rw [h] at this; cases this
theorem isort_upS {l : List Ax} {role : List UInt8} {V : List (List UInt8)} (hV : V.Nodup) (h : ∀ x, x ∈ V ↔ Rch (edU l) role x) : isort V = upS l role :=
  Srt.ext (isort_srt hV) (srt_upS l role) fun x => by rw [mem_upS, ← h, (isort_perm V).mem_iff]
theorem slS_upS (l : List Ax) (role : List UInt8) : slS (upS l role) = .sl ((upS l role).map .s) := by
  cases h : upS l role with
  | nil => exact absurd h (upS_ne l role)
  | cons a r => rfl
theorem rch_cases {E : List (List UInt8 × List UInt8)} {a x : List UInt8} (h : Rch E a x) : x = a ∨ x ∈ E.map (·.2) := by
  cases h with
  | refl => exact .inl rfl
  | step _ he => exact .inr (List.mem_map.2 ⟨_, he, rfl⟩)
theorem edU_role {l : List Ax} (hx : ∀ x ∈ l, x.Few) {p : List UInt8 × List UInt8} (hp : p ∈ edU l) : p.1.length ≤ 600 ∧ p.2.length ≤ 600 := by
  simp only [edU, List.mem_filterMap] at hp
  obtain ⟨x, hxl, h⟩ := hp
  split at h
  · cases h
    refine ⟨?_, (hx x hxl).role⟩
    cases hr : x.roles with
    | nil => simp
    | cons a r => exact (hx x hxl).rs a (by rw [hr]; simp)
  · cases h

theorem underL_strs (n : Nat) : ∀ l : List (List UInt8), underL n (l.map .s) = true
  | [] => by simp [underL]
  | x :: l => by simp [underL, underL_strs n l]
theorem frz_strs (S : St) (n : Nat) (l : List (List UInt8)) (k : IntKind) (i : Int) : frz S n (.tu [.sl (l.map .s), .i k i]) = some (.tu [.sl (l.map .s), .i k i]) := by
  unfold frz
  rw [if_pos (by simp [underL, underL_strs])]
/-- Above's answer. -/
def aboveE (l : List Ax) (role : List UInt8) : Int := if chkL l = 0 then (if nmOK role = true then 0 else 20) else chkL l
def aboveV (l : List Ax) (role : List UInt8) : AV := if chkL l = 0 ∧ nmOK role = true then .sl ((upS l role).map .s) else .ns

theorem c_roles_Above (z : Bool) (l : List Ax) (hl : l.length ≤ 100) (hx : ∀ x ∈ l, x.Few) (role : List UInt8) (hr : role.length ≤ 1000) (s : St) (cx : Ctx) :
    acallW P0 (.fn (.func F_roles_Above) [] []) [slf z (l.map encA), .s role] s cx = .ret (.tu [aboveV l role, .i .i64 (aboveE l role)]) s := by
  have e1 := c_roles_checkAll z l (by omega) hx [role] (by simp) (by simp; omega)
  refine go_roles_Above (by simp) ?_
  simp at e1
  by_cases h0 : chkL l = 0
  · by_cases h1 : nmOK role = true
    · obtain ⟨j, h⟩ := l_roles_Above s role z l (by omega) (one5_all h0) ⟨s.length, s.length⟩ ⟨Nat.le_refl _, Nat.le_refl _⟩ l 0 [] rfl (by simp)
      have el := edU_len l
      have hcl := fun cx => c_roles_closure role (s ++ .map (esG (s.length + 1) (addsG [] (edU l))) :: rowG (addsG [] (edU l))) s.length (esG (s.length + 1) (addsG [] (edU l))) (valG (addsG [] (edU l))) (by simp)
        (mapS_G _ _) (edU l) (fun k x => mem_valG) (fun k => by have := valG_len (E := edU l) (k := k); omega) (by omega) cx
      generalize hG : addsG [] (edU l) = G at h hcl
      obtain ⟨V, e2, m1, m2⟩ := hcl ⟨s.length, s.length⟩
      have hVl : V.length ≤ 1048576 := by
        have := nodup_le (U := role :: (edU l).map (·.2)) m1 fun x hx => by
          rcases rch_cases ((m2 x).1 hx) with rfl | h
          · simp
          · exact List.mem_cons_of_mem _ h
        simp at this; omega
      have hVx : ∀ x ∈ V, x.length ≤ 1048576 := fun x hxV => by
        rcases rch_cases ((m2 x).1 hxV) with rfl | h
        · omega
        · obtain ⟨p, hp, rfl⟩ := List.mem_map.1 h
          have := (edU_role hx hp).2; omega
      have e3 := c_Keys V
      have e4 := c_Sorted V m1 hVl hVx
      rw [isort_upS m1 m2, slS_upS] at e4
      have a1 : aboveV l role = .sl ((upS l role).map .s) := by simp [aboveV, h0, h1]
      have a2 : aboveE l role = 0 := by simp [aboveE, h0, h1]
      rw [a1, a2]
      simp only [h0, h1, if_true] at e1
      simp [esG, show rowG [] = [] from rfl] at h
      simp [callFnW, ir_roles_Above, e1, h, e2, e3, e4, frz_strs]
    · have a1 : aboveV l role = .ns := by simp [aboveV, h0, h1]
      have a2 : aboveE l role = 20 := by simp [aboveE, h0, h1]
      rw [a1, a2]
      simp only [h0, h1, if_true, if_false] at e1
      simp [callFnW, ir_roles_Above, e1]
  · have a1 : aboveV l role = .ns := by simp [aboveV, h0]
    have a2 : aboveE l role = chkL l := by simp [aboveE, h0]
    rw [a1, a2]
    simp only [h0, if_false] at e1
    simp [callFnW, ir_roles_Above, e1, h0]

/-! ### The reference -/

theorem upR_one5 {r0 : List UInt8} {p : Ax} {l : List Ax} {out : List (List UInt8)} (hk : p.kind = 5) (hr : p.roles = [r0]) : upR (edU (p :: l)) out = upR (edU l) (if r0 ∈ out then withS out p.role else out) := by
  rw [edU_cons5 hk, hr]; rfl

end Go.Ai.Z
