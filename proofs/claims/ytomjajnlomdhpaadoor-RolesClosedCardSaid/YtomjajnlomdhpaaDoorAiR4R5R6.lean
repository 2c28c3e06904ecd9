/-
 Above, here and in the reference.
-/
import Derived.Test.YtomjajnlomdhpaaDoorAiR2R3
set_option maxRecDepth 100000
set_option linter.unusedSimpArgs false
set_option linter.unusedVariables false
namespace Go.Ai.Z
theorem strM_keys : ∀ V : List (List UInt8), (strM V).mapM (fun p => strOf p.1) = some V
 | [] => rfl
 | x :: V => by
  have ih := strM_keys V
  simp only [strM, List.map_cons, List.mapM_cons] at ih ⊢
  rw [ih]; rfl
theorem c_Keys (V : List (List UInt8)) (s : St) (cx : Ctx) : acallW P0 (.fn (.func F_maps_Keys_map_string_bool_string_bool) [] []) [.im (strM V)] s cx = .ret (.fn (.func 79) [] [.kb (.im (strM V))]) s :=
 acallW_intrS (h := iKeys 79) rfl rfl
theorem c_Sorted (V : List (List UInt8)) (hV : V.Nodup) (hl : V.length ≤ 1048576) (hx : ∀ x ∈ V, x.length ≤ 1048576) (s : St) (cx : Ctx) : acallW P0 (.fn (.func F_slices_Sorted_string) [] []) [.fn (.func 79) [] [.kb (.im (strM V))]] s cx = .ret (slS (isort V)) s := by
 refine acallW_intrS (h := iSorted [79, 101]) rfl ?_
 have h1 := strictS_of (isort_srt hV)
 have h2 : keysM s (.im (strM V)) = some V := strM_keys V
 simp [iSorted, h2, h1, hl]
 exact hx
def upS (l : List Ax) (role : List UInt8) : List (List UInt8) := upN (edU l) (l.length + 1) [role]
theorem mem_upS {l : List Ax} {role x : List UInt8} : x ∈ upS l role ↔ Rch (edU l) role x := mem_upN (by have := edU_len l; omega)
theorem srt_upS (l : List Ax) (role : List UInt8) : Srt (upS l role) := upN_srt _ (by simp [Srt])
theorem upS_ne (l : List Ax) (role : List UInt8) : upS l role ≠ [] := fun h => by
 have : role ∈ upS l role := mem_upS.2 (.refl _)
 rw [h] at this; cases this
theorem isort_upS {l : List Ax} {role : List UInt8} {V : List (List UInt8)} (hV : V.Nodup) (h : ∀ x, x ∈ V ↔ Rch (edU l) role x) : isort V = upS l role :=
 Srt.ext (isort_srt hV) (srt_upS l role) fun x => by rw [mem_upS, ← h, (isort_perm V).mem_iff]
theorem slS_upS (l : List Ax) (role : List UInt8) : slS (upS l role) = .sl ((upS l role).map .s) := by
 cases h : upS l role with
 | nil => exact absurd h (upS_ne l role)
 | cons a r => rfl
theorem rch_cases {E : List (List UInt8 × List UInt8)} {a x : List UInt8} (h : Rch E a x) : x = a ∨ x ∈ E.map (·.2) := by
 cases h with
 | refl => exact .inl rfl
 | step _ he => exact .inr (List.mem_map.2 ⟨_, he, rfl⟩)
theorem edU_role {l : List Ax} (hx : ∀ x ∈ l, x.Few) {p : List UInt8 × List UInt8} (hp : p ∈ edU l) : p.1.length ≤ 600 ∧ p.2.length ≤ 600 := by
 simp only [edU, List.mem_filterMap] at hp
 obtain ⟨x, hxl, h⟩ := hp
 split at h
 ·cases h
  refine ⟨?_, (hx x hxl).role⟩
  cases hr : x.roles with
  | nil => simp
  | cons a r => exact (hx x hxl).rs a (by rw [hr]; simp)
 ·cases h
theorem underL_strs (n : Nat) : ∀ l : List (List UInt8), underL n (l.map .s) = true
 | [] => by simp [underL]
 | x :: l => by simp [underL, underL_strs n l]
theorem frz_strs (S : St) (n : Nat) (l : List (List UInt8)) (k : IntKind) (i : Int) : frz S n (.tu [.sl (l.map .s), .i k i]) = some (.tu [.sl (l.map .s), .i k i]) := by
 unfold frz
 rw [if_pos (by simp [underL, underL_strs])]
def aboveE (l : List Ax) (role : List UInt8) : Int := if chkL l = 0 then (if nmOK role = true then 0 else 20) else chkL l
def aboveV (l : List Ax) (role : List UInt8) : AV := if chkL l = 0 ∧ nmOK role = true then .sl ((upS l role).map .s) else .ns
theorem c_roles_Above (z : Bool) (l : List Ax) (hl : l.length ≤ 100) (hx : ∀ x ∈ l, x.Few) (role : List UInt8) (hr : role.length ≤ 1000) (s : St) (cx : Ctx) :
  acallW P0 (.fn (.func F_roles_Above) [] []) [slf z (l.map encA), .s role] s cx = .ret (.tu [aboveV l role, .i .i64 (aboveE l role)]) s := by
 have e1 := c_roles_checkAll z l (by omega) hx [role] (by simp) (by simp; omega)
 refine go_roles_Above (by simp) ?_
 simp at e1
 by_cases h0 : chkL l = 0
 ·by_cases h1 : nmOK role = true
  ·obtain ⟨j, h⟩ := l_roles_Above s role z l (by omega) (one5_all h0) ⟨s.length, s.length⟩ ⟨Nat.le_refl _, Nat.le_refl _⟩ l 0 [] rfl (by simp)
   have el := edU_len l
   have hcl := fun cx => c_roles_closure role (s ++ .map (esG (s.length + 1) (addsG [] (edU l))) :: rowG (addsG [] (edU l))) s.length (esG (s.length + 1) (addsG [] (edU l))) (valG (addsG [] (edU l))) (by simp)
    (mapS_G _ _) (edU l) (fun k x => mem_valG) (fun k => by have := valG_len (E := edU l) (k := k); omega) (by omega) cx
   generalize hG : addsG [] (edU l) = G at h hcl
   obtain ⟨V, e2, m1, m2⟩ := hcl ⟨s.length, s.length⟩
   have hVl : V.length ≤ 1048576 := by
    have := nodup_le (U := role :: (edU l).map (·.2)) m1 fun x hx => by
     rcases rch_cases ((m2 x).1 hx) with rfl | h
     ·simp
     ·exact List.mem_cons_of_mem _ h
    simp at this; omega
   have hVx : ∀ x ∈ V, x.length ≤ 1048576 := fun x hxV => by
    rcases rch_cases ((m2 x).1 hxV) with rfl | h
    ·omega
    ·obtain ⟨p, hp, rfl⟩ := List.mem_map.1 h
     have := (edU_role hx hp).2; omega
   have e3 := c_Keys V
   have e4 := c_Sorted V m1 hVl hVx
   rw [isort_upS m1 m2, slS_upS] at e4
   have a1 : aboveV l role = .sl ((upS l role).map .s) := by simp [aboveV, h0, h1]
   have a2 : aboveE l role = 0 := by simp [aboveE, h0, h1]
   rw [a1, a2]
   simp only [h0, h1, if_true] at e1
   simp [esG, show rowG [] = [] from rfl] at h
   simp [callFnW, ir_roles_Above, e1, h, e2, e3, e4, frz_strs]
  ·have a1 : aboveV l role = .ns := by simp [aboveV, h0, h1]
   have a2 : aboveE l role = 20 := by simp [aboveE, h0, h1]
   rw [a1, a2]
   simp only [h0, h1, if_true, if_false] at e1
   simp [callFnW, ir_roles_Above, e1]
 ·have a1 : aboveV l role = .ns := by simp [aboveV, h0]
  have a2 : aboveE l role = chkL l := by simp [aboveE, h0]
  rw [a1, a2]
  simp only [h0, if_false] at e1
  simp [callFnW, ir_roles_Above, e1, h0]
end Go.Ai.Z
namespace Go.Ai.Z
theorem l_roles_Simple0 (s : St) (role : List UInt8) (z : Bool) (l : List Ax) (hl : l.length ≤ 1000) (h5 : One5 l) (cx : Ctx) (hcx : cx.lim ≤ s.length ∧ cx.base ≤ s.length) :
  ∀ (rest : List Ax) (i : Nat) (G : SM), l.drop i = rest → (∀ p ∈ G, p.2.length ≤ i) →
  ∃ j : Int, loopW (acodeW P0.glob (acallW P0) cx false ir_roles_Simple_L0) [0, 1, 7, 21, 22, 23]
   [(0, .v (slf z (l.map encA))), (1, .v (.s role)), (7, .v (.mp s.length)), (21, .v (slf z (l.map encA))), (22, .v (.i .i64 l.length)), (23, .v (.i .i64 i))] (s ++ .map (esG (s.length + 1) G) :: rowG G) =
   .exit 0 [(0, .v (slf z (l.map encA))), (1, .v (.s role)), (7, .v (.mp s.length)), (21, .v (slf z (l.map encA))), (22, .v (.i .i64 l.length)), (23, .v (.i .i64 j)), (24, .v (.b false))] (s ++ .map (esG (s.length + 1) (addsG G (flipE (edU rest)))) :: rowG (addsG G (flipE (edU rest))))
 | [], i, G, h, hG => by
  have h1 : ¬ i < l.length := Nat.not_lt.2 (drop_nil h)
  refine ⟨i, loop_step fun K hK => ?_⟩
  simp [ir_roles_Simple_L0, h1, edU, addsG, flipE]
 | p :: r, i, G, h, hG => by
  obtain ⟨g1, g2, g3, g4⟩ := drop_cons h
  have g5 := g4 g3
  have hwi := wI (i := i) (by omega)
  have hp : p ∈ l := by rw [← g5]; exact List.getElem_mem g3
  by_cases hk : p.kind = 5
  ·obtain ⟨r0, hr0⟩ := h5 p hp hk
   obtain ⟨j, ih⟩ := l_roles_Simple0 s role z l hl h5 cx hcx r (i + 1) (addG G p.role r0) g2 (addG_len p.role r0 hG)
   have e0 : addsG G (flipE (edU (p :: r))) = addsG (addG G p.role r0) (flipE (edU r)) := by rw [edU_cons5 hk, hr0]; rfl
   rw [e0]
   refine ⟨j, loop_step fun K hK => ?_⟩
   rw [← hK, show ((i + 1 : Nat) : Int) = (i : Int) + 1 from rfl] at ih
   clear hK g4 h5 e0
   by_cases hm : p.role ∈ G.map (·.1)
   ·obtain ⟨G1, vs, G2, e1, e2, e3⟩ := addG_old r0 hm
    have hvs : vs.length ≤ i := hG (p.role, vs) (by rw [e1]; simp)
    rw [e3] at ih ⊢
    have f1 := find_old (vs := vs) (G2 := G2) (s.length + 1) e2
    have f2 := mput_old (vs := vs) (ws := vs ++ [r0]) (G2 := G2) (s.length + 1) e2
    have f3 := stc_row (s := s) (r1 := rowG G1) (r2 := rowG G2) (a := .map (esG (s.length + 1) (G1 ++ (p.role, vs) :: G2))) (b := .row T_string_0 1 vs.length)
    have f4 := stc_rowset (s := s) (r1 := rowG G1) (r2 := rowG G2) (a := .map (esG (s.length + 1) (G1 ++ (p.role, vs) :: G2))) (b := .row T_string_0 1 vs.length) (c := .row T_string_0 1 (vs.length + 1))
    have m1 : vs.length + 1 ≤ maxSl := by unfold maxSl; omega
    have hlim : cx.lim ≤ s.length + 1 + G1.length := by omega
    have k1 : ∀ (ws : List (List UInt8)), rowG (G1 ++ (p.role, ws) :: G2) = rowG G1 ++ .row T_string_0 1 ws.length :: rowG G2 := fun ws => by simp [rowG]
    rw [rowG_len] at f3 f4
    subst e1
    rw [k1] at ih ⊢
    simp at f2 ih
    simp [ir_roles_Simple_L0, g3, g5, hwi, hk, hr0, f1, f2, f3, f4, m1, hlim, hcx.1, hcx.2, keyK, ih]
   ·have e3 := addG_new r0 hm
    rw [e3] at ih ⊢
    have f1 := find_new (s.length + 1) hm
    have f2 := mput_new (vs := [r0]) (s.length + 1) hm
    rw [show s.length + 1 + G.length = s.length + (G.length + 1) by omega] at f2
    have k1 : rowG (G ++ [(p.role, [r0])]) = rowG G ++ [.row T_string_0 1 1] := by simp [rowG]
    rw [k1] at ih
    have m1 : 1 ≤ maxSl := by unfold maxSl; omega
    simp at f2 ih
    simp [ir_roles_Simple_L0, g3, g5, hwi, hk, hr0, f1, f2, m1, hcx.1, hcx.2, keyK, ih]
  ·obtain ⟨j, ih⟩ := l_roles_Simple0 s role z l hl h5 cx hcx r (i + 1) G g2 fun p hp => by have := hG p hp; omega
   rw [edU_consN hk]
   refine ⟨j, loop_step fun K hK => ?_⟩
   rw [← hK, show ((i + 1 : Nat) : Int) = (i : Int) + 1 from rfl] at ih
   clear hK g4 h5
   simp [ir_roles_Simple_L0, g3, g5, hwi, hk, ih]
def badS (l : List Ax) (role : List UInt8) (x : Ax) : Bool := (decide (x.kind = 7) || decide (x.kind = 6)) && decide (role ∈ upS l x.role)
theorem badS_no {l : List Ax} {role : List UInt8} {x : Ax} (h : ¬ role ∈ upS l x.role) : badS l role x = false := by simp [badS, h]
def simpS (l : List Ax) (role : List UInt8) : Bool := decide (chkL l = 0) && nmOK role && l.all fun x => !badS l role x
theorem l_roles_Simple1 (z : Bool) (l : List Ax) (hl : l.length ≤ 1000) (role : List UInt8) (V : List (List UInt8)) (hV : ∀ x, x ∈ V ↔ role ∈ upS l x) (s : St) (cx : Ctx) :
  ∀ (rest : List Ax) (i : Nat), l.drop i = rest →
  ∃ j : Int, loopW (acodeW P0.glob (acallW P0) cx false ir_roles_Simple_L1) [10, 47, 48, 49]
   [(10, .v (.im (strM V))), (47, .v (slf z (l.map encA))), (48, .v (.i .i64 l.length)), (49, .v (.i .i64 i))] s =
   if (rest.all fun x => !badS l role x) = true then .exit 2 [(10, .v (.im (strM V))), (47, .v (slf z (l.map encA))), (48, .v (.i .i64 l.length)), (49, .v (.i .i64 j)), (50, .v (.b false))] s else .ret [(4, .v (.b false)), (5, .v (.i .i64 0))] s
 | [], i, h => by
  have h1 : ¬ i < l.length := Nat.not_lt.2 (drop_nil h)
  refine ⟨i, loop_step fun K hK => ?_⟩
  simp [ir_roles_Simple_L1, h1]
 | p :: r, i, h => by
  obtain ⟨g1, g2, g3, g4⟩ := drop_cons h
  have g5 := g4 g3
  have hwi := wI (i := i) (by omega)
  obtain ⟨j, ih⟩ := l_roles_Simple1 z l hl role V hV s cx r (i + 1) g2
  refine ⟨j, loop_step fun K hK => ?_⟩
  rw [← hK, show ((i + 1 : Nat) : Int) = (i : Int) + 1 from rfl] at ih
  have hf := find_strM p.role V
  have hm := hV p.role
  clear hK g4 hV
  by_cases h7 : p.kind = 7
  ·by_cases hv : p.role ∈ V
   ·have hb : badS l role p = true := by simp [badS, h7, hm.1 hv]
    simp only [List.all_cons, hb, Bool.not_true, Bool.false_and]
    rw [if_pos hv] at hf
    simp [ir_roles_Simple_L1, g3, g5, hwi, h7, hf]
   ·have hb : badS l role p = false := badS_no fun h => hv (hm.2 h)
    simp only [List.all_cons, hb, Bool.not_false, Bool.true_and]
    rw [if_neg hv] at hf
    rw [← ih]
    simp [ir_roles_Simple_L1, g3, g5, hwi, h7, hf]
  ·by_cases h6 : p.kind = 6
   ·by_cases hv : p.role ∈ V
    ·have hb : badS l role p = true := by simp [badS, h6, hm.1 hv]
     simp only [List.all_cons, hb, Bool.not_true, Bool.false_and]
     rw [if_pos hv] at hf
     simp [ir_roles_Simple_L1, g3, g5, hwi, h6, hf]
    ·have hb : badS l role p = false := badS_no fun h => hv (hm.2 h)
     simp only [List.all_cons, hb, Bool.not_false, Bool.true_and]
     rw [if_neg hv] at hf
     rw [← ih]
     simp [ir_roles_Simple_L1, g3, g5, hwi, h6, hf]
   ·have hb : badS l role p = false := by simp [badS, h6, h7]
    simp only [List.all_cons, hb, Bool.not_false, Bool.true_and]
    rw [← ih]
    simp [ir_roles_Simple_L1, g3, g5, hwi, h6, h7]
theorem frz_bi (S : St) (n : Nat) (b : Bool) (k : IntKind) (i : Int) : frz S n (.tu [.b b, .i k i]) = some (.tu [.b b, .i k i]) := by
 unfold frz
 rw [if_pos (by simp)]
theorem flipE_len (E : List (List UInt8 × List UInt8)) : (flipE E).length = E.length := by simp [flipE]
theorem c_roles_Simple (z : Bool) (l : List Ax) (hl : l.length ≤ 100) (hx : ∀ x ∈ l, x.Few) (role : List UInt8) (hr : role.length ≤ 1000) (s : St) (cx : Ctx) :
  acallW P0 (.fn (.func F_roles_Simple) [] []) [slf z (l.map encA), .s role] s cx = .ret (.tu [.b (simpS l role), .i .i64 (aboveE l role)]) s := by
 have e1 := c_roles_checkAll z l (by omega) hx [role] (by simp) (by simp; omega)
 refine go_roles_Simple (by simp) ?_
 simp at e1
 by_cases h0 : chkL l = 0
 ·by_cases h1 : nmOK role = true
  ·obtain ⟨j, h⟩ := l_roles_Simple0 s role z l (by omega) (one5_all h0) ⟨s.length, s.length⟩ ⟨Nat.le_refl _, Nat.le_refl _⟩ l 0 [] rfl (by simp)
   have el := edU_len l
   have fl := flipE_len (edU l)
   have hcl := fun cx => c_roles_closure role (s ++ .map (esG (s.length + 1) (addsG [] (flipE (edU l)))) :: rowG (addsG [] (flipE (edU l)))) s.length (esG (s.length + 1) (addsG [] (flipE (edU l)))) (valG (addsG [] (flipE (edU l)))) (by simp)
    (mapS_G _ _) (flipE (edU l)) (fun k x => mem_valG) (fun k => by have := valG_len (E := flipE (edU l)) (k := k); omega) (by omega) cx
   generalize hG : addsG [] (flipE (edU l)) = G at h hcl
   obtain ⟨V, e2, m1, m2⟩ := hcl ⟨s.length, s.length⟩
   have hV : ∀ x, x ∈ V ↔ role ∈ upS l x := fun x => by rw [m2, mem_upS, Rch.flip_iff]
   obtain ⟨j2, h2⟩ := l_roles_Simple1 z l (by omega) role V hV (s ++ .map (esG (s.length + 1) G) :: rowG G) ⟨s.length, s.length⟩ l 0 rfl
   have a2 : aboveE l role = 0 := by simp [aboveE, h0, h1]
   rw [a2]
   simp only [h0, h1, if_true] at e1
   simp [esG, show rowG [] = [] from rfl] at h
   simp only [Int.ofNat_zero] at h2
   by_cases hb : (l.all fun x => !badS l role x) = true
   ·have a1 : simpS l role = true := by simp only [simpS, h0, h1, hb]; rfl
    rw [if_pos hb] at h2
    rw [a1]
    try simp at h2
    simp [callFnW, ir_roles_Simple, e1, h, e2, h2, frz_bi]
   ·have a1 : simpS l role = false := by simp only [simpS, h0, h1]; simpa using hb
    rw [if_neg hb] at h2
    rw [a1]
    try simp at h2
    simp [callFnW, ir_roles_Simple, e1, h, e2, h2, frz_bi]
  ·have a1 : simpS l role = false := by simp [simpS, h1]
   have a2 : aboveE l role = 20 := by simp [aboveE, h0, h1]
   rw [a1, a2]
   simp only [h0, h1, if_true, if_false] at e1
   simp [callFnW, ir_roles_Simple, e1]
 ·have a1 : simpS l role = false := by simp [simpS, h0]
  have a2 : aboveE l role = chkL l := by simp [aboveE, h0]
  rw [a1, a2]
  simp only [h0, if_false] at e1
  simp [callFnW, ir_roles_Simple, e1, h0]
theorem upS_len (l : List Ax) (role : List UInt8) : (upS l role).length ≤ 1 + l.length := by
 have := nodup_le (U := role :: (edU l).map (·.2)) (srt_upS l role).nodup fun x hx => by
  rcases rch_cases (mem_upS.1 hx) with rfl | h
  ·simp
  ·exact List.mem_cons_of_mem _ h
 have := edU_len l
 simp at *; omega
end Go.Ai.Z
namespace Go.Ai.Z
theorem aboveV_slf (l : List Ax) (role : List UInt8) : ∃ (z : Bool) (m : List (List UInt8)), aboveV l role = slf z (m.map .s) ∧ m.length ≤ 1 + l.length := by
 unfold aboveV
 split
 ·exact ⟨false, upS l role, by simp, upS_len l role⟩
 ·exact ⟨true, [], by simp, by simp⟩
theorem sane_n : acall P0 400 (.fn (.func F_law06_sane) [] []) [] [] ⟨0, 0⟩ = .ret (.b true) [] := by
 kernel_rfl
end Go.Ai.Z
