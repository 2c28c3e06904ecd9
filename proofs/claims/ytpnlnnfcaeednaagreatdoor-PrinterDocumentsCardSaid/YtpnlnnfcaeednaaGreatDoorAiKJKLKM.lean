/-
 terms.Size, terms.weight, slices.Compare, terms.CompareAxiom.
-/
import Derived.Test.YtpnlnnfcaeednaaGreatDoorAiInjInj2Inj3Inj4KI
import Derived.Test.YtpnlnnfcaeednaaGreatDoorAiK10K11K12
set_option maxRecDepth 100000
set_option linter.unusedSimpArgs false
set_option linter.unusedVariables false
set_option linter.unusedSectionVars false
namespace Go.Ai.Z
open Go.Lib (compareBytes)
theorem set_back {T : St} {l a : Nat} {X Y Z : HObj} (hl : T[l]? = some Z) (hal : l ≠ a) : ((T.set l X).set a Y).set l Z = T.set a Y := by
 rw [List.set_comm _ _ (Ne.symm hal), List.set_set]
 have h := set_same hl
 rw [h]
def szEnv (a : Nat) (c : C) : Env := [(2, .v (.pt a 0)), (4, .v (.fn (.func F_terms_walk_1) [] [.ip (encC c).cells]))]
def szLoop (a : Nat) (c : C) (p : Pend) : HObj := .loop (szEnv a c) [5] ir_terms_Size_A0 ir_terms_Size_R0 p
theorem y_Size (c x : C) (a l n : Nat) (T : St) (cx : Ctx) (hl : T[l]? = some (szLoop a c .ready)) (ha : T[a]? = some (.cells [.i .i64 (n : Int)])) (hcl : cx.lim ≤ l) (hca : cx.lim ≤ a) (hn : n ≤ 1000000) :
  acallW P0 (.yl l) [encC x] T cx = .ret (.b true) (T.set a (.cells [.i .i64 ((n + 1 : Nat) : Int)])) := by
 have hl1 : l < T.length := (List.getElem?_eq_some_iff.1 hl).1
 have ha1 : a < T.length := (List.getElem?_eq_some_iff.1 ha).1
 have hal : ¬ l = a := by intro e; subst e; rw [hl] at ha; simp [szLoop] at ha
 have hl2 : T[l] = szLoop a c .ready := (List.getElem?_eq_some_iff.1 hl).2
 have ha2 : T[a] = .cells [.i .i64 (n : Int)] := (List.getElem?_eq_some_iff.1 ha).2
 have w1 : IntKind.i64.wrap ((n : Int) + 1) = (n : Int) + 1 := w64 (by omega) (by omega)
 refine acallW_yl (by simp) ?_
 unfold yieldW
 rw [hl]
 simp only [szLoop, szEnv, setPs, put, lk]
 have hset := set_same hl
 simp only [szLoop, szEnv] at hset hl2
 simp [ir_terms_Size_A0, hcl, hl1, hl2, ir_terms_Size_R0, ha2, ha1, hca, w1, endRnd, hal, Ne.symm hal]
 exact set_back (by simpa [ir_terms_Size_A0, ir_terms_Size_R0, szLoop, szEnv] using hl) hal
theorem l_visit_size (c x : C) (hw : wC x ≤ 1000) (a l : Nat) (cx : Ctx) (hcl : cx.lim ≤ l) (hca : cx.lim ≤ a)
  (ih : ∀ p ∈ x.parts, ∀ (n : Nat) (T : St) (cx : Ctx), n + sizeC p ≤ 1000000 → T[l]? = some (szLoop a c .ready) → T[a]? = some (.cells [.i .i64 (n : Int)]) → cx.lim ≤ l → cx.lim ≤ a →
   acallW P0 (.fn (.func F_terms_visit) [] []) [encC p, .yl l] T cx = .ret (.b true) (T.set a (.cells [.i .i64 ((n + sizeC p : Nat) : Int)]))) :
  ∀ (rest : List C) (i n : Nat) (T : St), n + sizeL rest ≤ 1000000 → T[l]? = some (szLoop a c .ready) → T[a]? = some (.cells [.i .i64 (n : Int)]) → x.parts.drop i = rest →
  ∃ j : Int, loopW (acodeW P0.glob (acallW P0) cx false ir_terms_visit_L0) [1, 12, 13, 14] [(1, .v (.yl l)), (12, .v (slf x.z (x.parts.map encC))), (13, .v (.i .i64 x.parts.length)), (14, .v (.i .i64 i))] T =
   .exit 0 [(1, .v (.yl l)), (12, .v (slf x.z (x.parts.map encC))), (13, .v (.i .i64 x.parts.length)), (14, .v (.i .i64 j)), (15, .v (.b false))] (T.set a (.cells [.i .i64 ((n + sizeL rest : Nat) : Int)]))
 | [], i, n, T, hn, hl, ha, h => by
  have h1 : ¬ i < x.parts.length := Nat.not_lt.2 (drop_nil h)
  refine ⟨i, loop_step fun K hK => ?_⟩
  simp [ir_terms_visit_L0, h1, sizeL, set_same ha]
 | p :: r, i, n, T, hn, hl, ha, h => by
  obtain ⟨h1, h2, h3, h4⟩ := drop_cons h
  have h5 := h4 h3
  have hp : p ∈ x.parts := by rw [← h5]; exact List.getElem_mem h3
  have hlen := wL_len x.parts
  have hwi := wI (i := i) (by rw [wC_eq] at hw; omega)
  simp only [sizeL] at hn
  have ha1 : a < T.length := (List.getElem?_eq_some_iff.1 ha).1
  have hal : l ≠ a := by intro e; subst e; rw [hl] at ha; simp [szLoop] at ha
  have e1 := ih p hp n T cx (by omega) hl ha hcl hca
  obtain ⟨j, ih2⟩ := l_visit_size c x hw a l cx hcl hca ih r (i + 1) (n + sizeC p) (T.set a (.cells [.i .i64 ((n + sizeC p : Nat) : Int)])) (by omega) (by rw [List.getElem?_set_ne (Ne.symm hal)]; exact hl) (by simp [ha1]) h2
  refine ⟨j, loop_step fun K hK => ?_⟩
  rw [← hK] at ih2
  clear hK h4 ih
  simp at ih2 e1
  have hadd : ((n : Int) + (sizeC p : Int) + (sizeL r : Int)) = (n : Int) + ((sizeC p : Int) + (sizeL r : Int)) := by omega
  simp [ir_terms_visit_L0, h3, h5, hwi, e1, ih2, sizeL, hadd]
theorem c_visit_size (c : C) (a l : Nat) : ∀ (x : C), wC x ≤ 1000 → ∀ (n : Nat) (T : St) (cx : Ctx), n + sizeC x ≤ 1000000 → T[l]? = some (szLoop a c .ready) → T[a]? = some (.cells [.i .i64 (n : Int)]) → cx.lim ≤ l → cx.lim ≤ a →
   acallW P0 (.fn (.func F_terms_visit) [] []) [encC x, .yl l] T cx = .ret (.b true) (T.set a (.cells [.i .i64 ((n + sizeC x : Nat) : Int)])) := by
 refine C.ind' fun x ih hw n T cx hn hl ha hcl hca => ?_
 have hl1 : l < T.length := (List.getElem?_eq_some_iff.1 hl).1
 have ha1 : a < T.length := (List.getElem?_eq_some_iff.1 ha).1
 have hal : l ≠ a := by intro e; subst e; rw [hl] at ha; simp [szLoop] at ha
 have hw' := hw
 rw [wC_eq] at hw'
 have hs := sizeC_eq x
 have hy := y_Size c x a l n T ⟨cx.lim, T.length⟩ hl ha hcl hca (by omega)
 obtain ⟨j, h⟩ := l_visit_size c x hw a l ⟨cx.lim, T.length⟩ hcl hca (fun p hp n T cx => ih p hp (by have := wL_mem hp; omega) n T cx) x.parts 0 (n + 1) (T.set a (.cells [.i .i64 ((n + 1 : Nat) : Int)])) (by omega)
  (by rw [List.getElem?_set_ne (Ne.symm hal)]; exact hl) (by simp [ha1]) rfl
 refine go_terms_visit (by simp) ?_
 simp at hy h
 have hadd : ((n : Int) + 1 + (sizeL x.parts : Int)) = (n : Int) + (1 + (sizeL x.parts : Int)) := by omega
 simp [callFnW, ir_terms_visit, hy, h, hs, hadd]
theorem c_terms_Size (c : C) (hw : wC c ≤ 1000) (s : St) (cx : Ctx) : acallW P0 (.fn (.func F_terms_Size) [] []) [encC c] s cx = .ret (.i .i64 (sizeC c : Int)) s := by
 refine go_terms_Size (by simp) ?_
 have h1 := sizeC_le c
 let T : St := s ++ [.cells [.i .i64 0], .dfr, szLoop s.length c .ready]
 have hv := c_visit_size c s.length (s.length + 2) c hw 0 T ⟨s.length, T.length⟩ (by omega) (by simp [T]) (by simp [T]) (by simp) (by simp)
 have hw1 : acallW P0 (.fn (.func F_terms_walk_1) [] [.ip (encC c).cells]) [.yl (s.length + 2)] T ⟨s.length, s.length⟩ = .ret (.tu []) (T.set s.length (.cells [.i .i64 (sizeC c : Int)])) := by
  refine go_terms_walk_1 (by simp) ?_
  simp at hv
  simp [callFnW, ir_terms_walk_1, hv]
 simp [T, szLoop, szEnv] at hw1
 simp [callFnW, ir_terms_Size, rangeW, hw1, pended, show s.length + 1 + 1 = s.length + 2 from rfl, get_app, set_app]
end Go.Ai.Z
namespace Go.Ai.Z
open Go.Lib (compareBytes)
def szIf (c : C) : Nat := if c.kind = 0 then 0 else sizeC c
def sumIf : List C → Nat
 | [] => 0
 | c :: r => szIf c + sumIf r
def neIf : List (List UInt8) → Nat
 | [] => 0
 | a :: r => (if a = [] then 0 else 1) + neIf r
theorem l_weight0 (cs : List AV) (ps : List C) (hps : ps.length ≤ 2) (hw : ∀ p ∈ ps, wC p ≤ 1000) (s : St) (cx : Ctx) : ∀ (rest : List C) (i n : Nat), ps.drop i = rest → n + 1000 * rest.length ≤ 5000 →
  ∃ j : Int, loopW (acodeW P0.glob (acallW P0) cx false ir_terms_weight_L0) [1, 2, 11, 12, 13] [(1, .bx cs), (2, .v (.i .i64 (n : Int))), (11, .v (.sl (ps.map encC))), (12, .v (.i .i64 ps.length)), (13, .v (.i .i64 i))] s =
   .exit 0 [(1, .bx cs), (2, .v (.i .i64 ((n + sumIf rest : Nat) : Int))), (11, .v (.sl (ps.map encC))), (12, .v (.i .i64 ps.length)), (13, .v (.i .i64 j)), (14, .v (.b false))] s
 | [], i, n, h, hn => by
  have h1 : ¬ i < ps.length := Nat.not_lt.2 (drop_nil h)
  refine ⟨i, loop_step fun K hK => ?_⟩
  simp [ir_terms_weight_L0, h1, sumIf]
 | p :: r, i, n, h, hn => by
  obtain ⟨h1, h2, h3, h4⟩ := drop_cons h
  have h5 := h4 h3
  have hp : p ∈ ps := by rw [← h5]; exact List.getElem_mem h3
  have hwi := wI (i := i) (by omega)
  have e1 := c_terms_Size p (hw p hp)
  have hsz := sizeC_le p
  have hwp := hw p hp
  simp only [List.length_cons] at hn
  have hle : szIf p ≤ 1000 := by unfold szIf; split <;> omega
  obtain ⟨j, ih⟩ := l_weight0 cs ps hps hw s cx r (i + 1) (n + szIf p) h2 (by omega)
  refine ⟨j, loop_step fun K hK => ?_⟩
  rw [← hK] at ih
  clear hK h4
  have w1 : IntKind.i64.wrap ((n : Int) + (sizeC p : Int)) = (n : Int) + (sizeC p : Int) := w64 (by omega) (by omega)
  by_cases hk : p.kind = 0
  ·simp [szIf, hk] at ih
   simp [ir_terms_weight_L0, h3, h5, hwi, e1, ih, sumIf, szIf, hk]
  ·have hadd : ((n : Int) + (sizeC p : Int) + (sumIf r : Int)) = (n : Int) + ((sizeC p : Int) + (sumIf r : Int)) := by omega
   simp [szIf, hk] at ih
   simp [ir_terms_weight_L0, h3, h5, hwi, e1, w1, ih, sumIf, szIf, hk, hadd]
theorem l_weight1 (ps : List (List UInt8)) (hps : ps.length ≤ 3) (s : St) (cx : Ctx) : ∀ (rest : List (List UInt8)) (i n : Nat), ps.drop i = rest → n + rest.length ≤ 5000 →
  ∃ j : Int, loopW (acodeW P0.glob (acallW P0) cx false ir_terms_weight_L1) [2, 36, 37, 38] [(2, .v (.i .i64 (n : Int))), (36, .v (.sl (ps.map .s))), (37, .v (.i .i64 ps.length)), (38, .v (.i .i64 i))] s =
   .exit 2 [(2, .v (.i .i64 ((n + neIf rest : Nat) : Int))), (36, .v (.sl (ps.map .s))), (37, .v (.i .i64 ps.length)), (38, .v (.i .i64 j)), (39, .v (.b false))] s
 | [], i, n, h, hn => by
  have h1 : ¬ i < ps.length := Nat.not_lt.2 (drop_nil h)
  refine ⟨i, loop_step fun K hK => ?_⟩
  simp [ir_terms_weight_L1, h1, neIf]
 | p :: r, i, n, h, hn => by
  obtain ⟨h1, h2, h3, h4⟩ := drop_cons h
  have h5 := h4 h3
  have hwi := wI (i := i) (by omega)
  simp only [List.length_cons] at hn
  obtain ⟨j, ih⟩ := l_weight1 ps hps s cx r (i + 1) (n + if p = [] then 0 else 1) h2 (by split <;> omega)
  refine ⟨j, loop_step fun K hK => ?_⟩
  rw [← hK] at ih
  clear hK h4
  have w1 : IntKind.i64.wrap ((n : Int) + 1) = (n : Int) + 1 := w64 (by omega) (by omega)
  by_cases hk : p = []
  ·subst hk
   simp at ih
   simp [ir_terms_weight_L1, h3, h5, hwi, ih, neIf]
  ·have hadd : ((n : Int) + 1 + (neIf r : Int)) = (n : Int) + (1 + (neIf r : Int)) := by omega
   simp [hk] at ih
   simp [ir_terms_weight_L1, h3, h5, hwi, w1, ih, neIf, hk, hadd, cdT_go]
def weightS (x : Ax) : Nat := sumIf [x.left, x.right] + x.roles.length + neIf [x.role, x.a, x.b]
theorem c_terms_weight (x : Ax) (hl : wC x.left ≤ 1000) (hr : wC x.right ≤ 1000) (hn : x.roles.length ≤ 1000) (s : St) (cx : Ctx) : acallW P0 (.fn (.func F_terms_weight) [] []) [encA x] s cx = .ret (.i .i64 (weightS x : Int)) s := by
 refine go_terms_weight (by simp) ?_
 have hs1 : sumIf [x.left, x.right] ≤ 2000 := by
  have h1 := sizeC_le x.left; have h2 := sizeC_le x.right
  simp only [sumIf, szIf]; split <;> split <;> omega
 obtain ⟨j, e1⟩ := l_weight0 (encA x).cells [x.left, x.right] (by simp) (by simp; exact ⟨hl, hr⟩) s ⟨s.length, s.length⟩ [x.left, x.right] 0 0 rfl (by simp)
 obtain ⟨j', e2⟩ := l_weight1 [x.role, x.a, x.b] (by simp) s ⟨s.length, s.length⟩ [x.role, x.a, x.b] 0 (sumIf [x.left, x.right] + x.roles.length) rfl (by simp; omega)
 have w1 : IntKind.i64.wrap ((sumIf [x.left, x.right] : Int) + (x.roles.length : Int)) = (sumIf [x.left, x.right] : Int) + (x.roles.length : Int) := w64 (by omega) (by omega)
 simp at e1 e2
 simp [callFnW, ir_terms_weight, e1, e2, w1, weightS, List.range_succ]
end Go.Ai.Z
namespace Go.Ai.Z
open Go.Lib (compareBytes)
@[simp] theorem c_cmp_isNaN_string (a : List UInt8) (s : St) (cx : Ctx) : acallW P0 (.fn (.func F_cmp_isNaN_string) [] []) [.s a] s cx = .ret (.b false) s := by
 refine go_cmp_isNaN_string (by simp) ?_
 simp [callFnW, ir_cmp_isNaN_string]
theorem less_irr (a : List UInt8) : Op.bytesLess a a = false := by
 induction a with
 | nil => rfl
 | cons x r ih => simp [Op.bytesLess, ih]
def cmpS (a b : List UInt8) : Int := if Op.bytesLess a b = true then -1 else if a = b then 0 else 1
@[simp] theorem c_cmp_Compare_string (a b : List UInt8) (s : St) (cx : Ctx) : acallW P0 (.fn (.func F_cmp_Compare_string) [] []) [.s a, .s b] s cx = .ret (.i .i64 (cmpS a b)) s := by
 refine go_cmp_Compare_string (by simp) ?_
 unfold cmpS
 by_cases h1 : Op.bytesLess a b = true
 ·simp [callFnW, ir_cmp_Compare_string, h1]
 ·by_cases h2 : a = b
  ·subst h2; simp [callFnW, ir_cmp_Compare_string, less_irr]
  ·simp [callFnW, ir_cmp_Compare_string, h1, h2]
theorem cmpS_zero {a b : List UInt8} : cmpS a b = 0 ↔ a = b := by
 unfold cmpS
 by_cases h : a = b
 ·subst h; simp [less_irr]
 ·by_cases h1 : Op.bytesLess a b = true <;> simp [h, h1]
def strLoop : List (List UInt8) → List (List UInt8) → Option Int
 | [], _ => none
 | _ :: _, [] => some 1
 | a :: r, b :: q => if cmpS a b = 0 then strLoop r q else some (cmpS a b)
def cmpSL (x y : List (List UInt8)) : Int := (strLoop x y).getD (if x.length < y.length then -1 else 0)
theorem cmpSL_zero : ∀ {x y : List (List UInt8)}, cmpSL x y = 0 ↔ x = y
 | [], [] => by simp [cmpSL, strLoop]
 | [], _ :: _ => by simp [cmpSL, strLoop]
 | _ :: _, [] => by simp [cmpSL, strLoop]
 | a :: r, b :: q => by
  have ih := cmpSL_zero (x := r) (y := q)
  unfold cmpSL at ih ⊢
  by_cases h : cmpS a b = 0
  ·have he := cmpS_zero.1 h
   subst he
   rw [strLoop, if_pos h]
   simp only [List.length_cons, Nat.add_lt_add_iff_right, List.cons.injEq, true_and]
   exact ih
  ·have hne : ¬ a = b := fun e => h (cmpS_zero.2 e)
   simp [strLoop, h, hne]
theorem l_Compare (zx zy : Bool) (x y : List (List UInt8)) (hx : x.length ≤ 100000) (hy : y.length ≤ 100000) (s : St) (cx : Ctx) : ∀ (rest : List (List UInt8)) (i : Nat), x.drop i = rest →
  ∃ j : Int, loopW (acodeW P0.glob (acallW P0) cx false ir_slices_Compare_string_string_L0) [0, 1, 9, 10, 11]
   [(0, .v (slf zx (x.map .s))), (1, .v (slf zy (y.map .s))), (9, .v (slf zx (x.map .s))), (10, .v (.i .i64 x.length)), (11, .v (.i .i64 i))] s =
   match strLoop rest (y.drop i) with
   | none => .exit 0 [(0, .v (slf zx (x.map .s))), (1, .v (slf zy (y.map .s))), (9, .v (slf zx (x.map .s))), (10, .v (.i .i64 x.length)), (11, .v (.i .i64 j)), (12, .v (.b false))] s
   | some v => .ret [(4, .v (.i .i64 v))] s
 | [], i, h => by
  have h1 : ¬ i < x.length := Nat.not_lt.2 (drop_nil h)
  refine ⟨i, loop_step fun K hK => ?_⟩
  simp [ir_slices_Compare_string_string_L0, h1, strLoop]
 | p :: r, i, h => by
  obtain ⟨h1, h2, h3, h4⟩ := drop_cons h
  have h5 := h4 h3
  have hwi := wI (i := i) (by omega)
  cases hq : y.drop i with
  | nil =>
   have h6 : y.length ≤ i := drop_nil hq
   refine ⟨0, loop_step fun K hK => ?_⟩
   clear hK h4
   simp [ir_slices_Compare_string_string_L0, h3, h5, h6, strLoop]
  | cons q t =>
   obtain ⟨g1, g2, g3, g4⟩ := drop_cons hq
   have g5 := g4 g3
   have g6 : ¬ y.length ≤ i := by omega
   obtain ⟨j, ih2⟩ := l_Compare zx zy x y hx hy s cx r (i + 1) h2
   refine ⟨j, loop_step fun K hK => ?_⟩
   rw [← hK] at ih2
   clear hK h4 g4
   rw [g2] at ih2
   simp at ih2
   by_cases hz : cmpS p q = 0
   ·simp [ir_slices_Compare_string_string_L0, h3, h5, hwi, g3, g5, g6, ih2, strLoop, hz]
   ·simp [ir_slices_Compare_string_string_L0, h3, h5, hwi, g3, g5, g6, strLoop, hz]
theorem c_slices_Compare (zx zy : Bool) (x y : List (List UInt8)) (hx : x.length ≤ 100000) (hy : y.length ≤ 100000) (s : St) (cx : Ctx) :
  acallW P0 (.fn (.func F_slices_Compare_string_string) [] []) [slf zx (x.map .s), slf zy (y.map .s)] s cx = .ret (.i .i64 (cmpSL x y)) s := by
 refine go_slices_Compare_string_string (by simp) ?_
 obtain ⟨j, h⟩ := l_Compare zx zy x y hx hy s ⟨s.length, s.length⟩ x 0 rfl
 unfold cmpSL
 simp at h
 cases hc : strLoop x y with
 | none =>
  simp [hc] at h
  by_cases hl : x.length < y.length
  ·simp [callFnW, ir_slices_Compare_string_string, h, hl]
  ·simp [callFnW, ir_slices_Compare_string_string, h, hl]
 | some v =>
  simp [hc] at h
  simp [callFnW, ir_slices_Compare_string_string, h]
def headA (x y : Ax) : Int := orI [cmpI (weightS x : Int) (weightS y : Int), cmpI x.kind y.kind]
def tailA (x y : Ax) : Int := orI [cmpSL x.roles y.roles, compareBytes x.role y.role, compareBytes x.a y.a, compareBytes x.b y.b]
def cmpA (x y : Ax) : Int :=
 if headA x y = 0 then (if cmpT x.left y.left = 0 then (if cmpT x.right y.right = 0 then tailA x y else cmpT x.right y.right) else cmpT x.left y.left) else headA x y
theorem c_terms_CompareAxiom (x y : Ax) (hl : wC x.left ≤ 1000) (hr : wC x.right ≤ 1000) (hn : x.roles.length ≤ 1000) (hl' : wC y.left ≤ 1000) (hr' : wC y.right ≤ 1000) (hn' : y.roles.length ≤ 1000) (s : St) (cx : Ctx) :
  acallW P0 (.fn (.func F_terms_CompareAxiom) [] []) [encA x, encA y] s cx = .ret (.i .i64 (cmpA x y)) s := by
 refine go_terms_CompareAxiom (by simp) ?_
 have e1 := c_terms_weight x hl hr hn
 have e2 := c_terms_weight y hl' hr' hn'
 have e3 := c_terms_Compare x.left y.left hl hl'
 have e4 := c_terms_Compare x.right y.right hr hr'
 have e5 := c_slices_Compare x.z y.z x.roles y.roles (by omega) (by omega)
 have e6 := c_cmp_Or_int [cmpI (weightS x : Int) (weightS y : Int), cmpI x.kind y.kind] (by simp)
 have e7 := c_cmp_Or_int [cmpSL x.roles y.roles, compareBytes x.role y.role, compareBytes x.a y.a, compareBytes x.b y.b] (by simp)
 change ∀ (s : St) (cx : Ctx), _ = CO.ret (.i .i64 (headA x y)) s at e6
 change ∀ (s : St) (cx : Ctx), _ = CO.ret (.i .i64 (tailA x y)) s at e7
 simp at e6 e7
 unfold cmpA
 by_cases h1 : headA x y = 0
 ·by_cases h2 : cmpT x.left y.left = 0
  ·by_cases h3 : cmpT x.right y.right = 0
   ·simp [callFnW, ir_terms_CompareAxiom, e1, e2, e3, e4, e5, e6, e7, h1, h2, h3, List.range_succ]
   ·simp [callFnW, ir_terms_CompareAxiom, e1, e2, e3, e4, e6, h1, h2, h3, List.range_succ]
  ·simp [callFnW, ir_terms_CompareAxiom, e1, e2, e3, e6, h1, h2, List.range_succ]
 ·simp [callFnW, ir_terms_CompareAxiom, e1, e2, e6, h1, List.range_succ]
theorem cmpA_zero {x y : Ax} : cmpA x y = 0 ↔ weightS x = weightS y ∧ x.kind = y.kind ∧ nz x.left = nz y.left ∧ nz x.right = nz y.right ∧ x.roles = y.roles ∧ x.role = y.role ∧ x.a = y.a ∧ x.b = y.b := by
 have h1 : headA x y = 0 ↔ weightS x = weightS y ∧ x.kind = y.kind := by unfold headA; rw [orI_zero]; simp [cmpI_zero]; intros; omega
 have h2 : tailA x y = 0 ↔ x.roles = y.roles ∧ x.role = y.role ∧ x.a = y.a ∧ x.b = y.b := by unfold tailA; rw [orI_zero]; simp [cmpSL_zero, compareBytes_zero]
 have h3 := cmpT_zero x.left y.left
 have h4 := cmpT_zero x.right y.right
 unfold cmpA
 by_cases a1 : headA x y = 0
 ·by_cases a2 : cmpT x.left y.left = 0
  ·by_cases a3 : cmpT x.right y.right = 0
   ·rw [if_pos a1, if_pos a2, if_pos a3, h2]
    constructor
    ·intro h; exact ⟨(h1.1 a1).1, (h1.1 a1).2, h3.1 a2, h4.1 a3, h⟩
    ·intro h; exact h.2.2.2.2
   ·rw [if_pos a1, if_pos a2, if_neg a3]
    exact ⟨fun h => absurd h a3, fun h => absurd (h4.2 h.2.2.2.1) a3⟩
  ·rw [if_pos a1, if_neg a2]
   exact ⟨fun h => absurd h a2, fun h => absurd (h3.2 h.2.2.1) a2⟩
 ·rw [if_neg a1]
  exact ⟨fun h => absurd h a1, fun h => absurd (h1.2 ⟨h.1, h.2.1⟩) a1⟩
end Go.Ai.Z
