/-
 terms.Compare: the order of concepts.
-/
import Derived.Test.YtpnlnnfcaeednaaGreatDoorAiK4
set_option maxRecDepth 100000
set_option linter.unusedSimpArgs false
set_option linter.unusedVariables false
set_option linter.unusedSectionVars false
namespace Go.Ai.Z
open Go.Lib (compareBytes)
mutual
def encT : C → AV
 | .mk k n l h z ps => .ag [.i .i64 k, .s n, .i .i64 l, .i .i64 h, slf z (encCs ps), .i .i64 ((1 + sizeL ps : Nat) : Int), slf true (encTs ps)]
def encTs : List C → List AV
 | [] => []
 | a :: r => encT a :: encTs r
end
theorem encTs_eq : ∀ ps : List C, encTs ps = ps.map encT
 | [] => by simp [encTs]
 | a :: r => by simp [encTs, encTs_eq r]
theorem encT_eq (c : C) : encT c = .ag [.i .i64 c.kind, .s c.name, .i .i64 c.lo, .i .i64 c.hi, slf c.z (c.parts.map encC), .i .i64 (sizeC c : Int), slf true (c.parts.map encT)] := by
 cases c; simp [encT, encCs_eq, encTs_eq, sizeC]
@[simp] theorem plain_encT (c : C) : (encT c).plain = encT c := by rw [encT_eq]; simp
@[simp] theorem cells_encT (c : C) : (encT c).cells = [.i .i64 c.kind, .s c.name, .i .i64 c.lo, .i .i64 c.hi, slf c.z (c.parts.map encC), .i .i64 (sizeC c : Int), slf true (c.parts.map encT)] := by rw [encT_eq]; rfl
@[simp] theorem fold_encT (c : C) : AV.ag [.i .i64 c.kind, .s c.name, .i .i64 c.lo, .i .i64 c.hi, slf c.z (c.parts.map encC), .i .i64 (sizeC c : Int), slf true (c.parts.map encT)] = encT c := (encT_eq c).symm
mutual
theorem under_encT' (n : Nat) : ∀ c : C, (encT c).under n = true
 | .mk k nm l h z ps => by simp [encT, under_encCs' n ps, under_encTs' n ps]
theorem under_encTs' (n : Nat) : ∀ ps : List C, underL n (encTs ps) = true
 | [] => by simp [encTs]
 | a :: r => by simp [encTs, under_encT' n a, under_encTs' n r]
end
@[simp] theorem under_encT (n : Nat) (c : C) : (encT c).under n = true := under_encT' n c
@[simp] theorem under_encTs (n : Nat) (ps : List C) : underL n (ps.map encT) = true := by rw [← encTs_eq]; exact under_encTs' n ps
theorem sizeL_app : ∀ x y : List C, sizeL (x ++ y) = sizeL x + sizeL y
 | [], y => by simp [sizeL]
 | a :: x, y => by simp only [List.cons_append, sizeL, sizeL_app x y]; omega
def avP (s : St) (t : List C) : AV := match t with | [] => .ns | t => .st s.length (t.map encT)
def stP (s : St) (t : List C) : St := match t with | [] => s | t => s ++ [.row T_terms_tree_1 7 t.length]
theorem l_grow (c : C) (hps : c.parts.length ≤ 100000) (hw : sizeC c ≤ 100000) (s : St) (ih : ∀ p ∈ c.parts, ∀ (s : St) (cx : Ctx), acallW P0 (.fn (.func F_terms_grow) [] []) [encC p] s cx = .ret (encT p) s) :
  ∀ (rest : List C) (i : Nat) (t : List C), c.parts.drop i = rest → c.parts = t ++ rest → t.length = i →
  ∃ j : Int, loopW (acodeW P0.glob (acallW P0) ⟨s.length, s.length⟩ false ir_terms_grow_L0) [2, 9, 10, 11]
   [(2, .bx [.i .i64 c.kind, .s c.name, .i .i64 c.lo, .i .i64 c.hi, slf c.z (c.parts.map encC), .i .i64 ((1 + sizeL t : Nat) : Int), avP s t]), (9, .v (slf c.z (c.parts.map encC))), (10, .v (.i .i64 c.parts.length)), (11, .v (.i .i64 i))] (stP s t) =
   .exit 0 [(2, .bx [.i .i64 c.kind, .s c.name, .i .i64 c.lo, .i .i64 c.hi, slf c.z (c.parts.map encC), .i .i64 (sizeC c : Int), avP s c.parts]), (9, .v (slf c.z (c.parts.map encC))), (10, .v (.i .i64 c.parts.length)), (11, .v (.i .i64 j)), (12, .v (.b false))] (stP s c.parts)
 | [], i, t, h, hc, ht => by
  have h1 : ¬ i < c.parts.length := Nat.not_lt.2 (drop_nil h)
  have hc' : c.parts = t := by simpa using hc
  refine ⟨i, loop_step fun K hK => ?_⟩
  rw [sizeC_eq, hc']
  rw [hc'] at h1
  simp [ir_terms_grow_L0, h1]
 | p :: r, i, t, h, hc, ht => by
  obtain ⟨h1, h2, h3, h4⟩ := drop_cons h
  have h5 := h4 h3
  have hp : p ∈ c.parts := by rw [← h5]; exact List.getElem_mem h3
  have hwi := wI (i := i) (by omega)
  have hsz : sizeL (t ++ [p]) = sizeL t + sizeC p := by rw [sizeL_app]; simp [sizeL]
  have hle : sizeL (t ++ [p]) ≤ sizeL c.parts := by rw [hc, sizeL_app, sizeL_app]; simp [sizeL]
  have hw2 := sizeC_eq c
  obtain ⟨j, ih2⟩ := l_grow c hps hw s ih r (i + 1) (t ++ [p]) h2 (by simp [hc]) (by simp [ht])
  refine ⟨j, loop_step fun K hK => ?_⟩
  rw [← hK] at ih2
  have e1 := ih p hp
  have hadd : IntKind.i64.wrap (((1 + sizeL t : Nat) : Int) + (sizeC p : Int)) = ((1 + sizeL (t ++ [p]) : Nat) : Int) := by
   rw [hsz]; rw [w64] <;> omega
  clear hK h4 ih hle hw2 hsz
  have hm : t.length + 1 ≤ maxSl := by unfold maxSl; omega
  cases t with
  | nil =>
   simp at ht
   subst ht
   simp [avP, stP] at ih2 hadd hm hwi
   simp [ir_terms_grow_L0, avP, stP, h3, h5, hwi, e1, hm, ih2, hadd, List.range_succ]
  | cons a t =>
   simp [avP, stP] at ih2 hadd
   simp at ht hm
   simp [ir_terms_grow_L0, avP, stP, h3, h5, hwi, e1, hm, ih2, hadd, List.range_succ]
theorem c_terms_grow : ∀ (c : C), wC c ≤ 1000 → ∀ (s : St) (cx : Ctx), acallW P0 (.fn (.func F_terms_grow) [] []) [encC c] s cx = .ret (encT c) s := by
 refine C.ind' fun c ih hw s cx => ?_
 have h1 := sizeC_le c
 have h2 := wL_len c.parts
 have h3 := wC_eq c
 obtain ⟨j, hl⟩ := l_grow c (by omega) (by omega) s (fun p hp => ih p hp (by have := wL_mem hp; omega)) c.parts 0 [] rfl rfl rfl
 refine go_terms_grow (by simp) ?_
 have hn : ∀ k v, avP s c.parts = .st k v → k = s.length ∧ v = c.parts.map encT := by
  intro k v h
  cases hps : c.parts with
  | nil => rw [hps] at h; simp [avP] at h
  | cons a r => rw [hps] at h; simp [avP] at h; exact ⟨h.1.symm, by simpa using h.2.symm⟩
 clear hn ih
 rw [encT_eq]
 cases hps : c.parts with
 | nil =>
  rw [hps] at hl
  simp [avP, stP, sizeL] at hl
  simp [callFnW, ir_terms_grow, hps, fillC, hl]
 | cons a r =>
  rw [hps] at hl
  simp [avP, stP, sizeL] at hl
  simp [callFnW, ir_terms_grow, hps, fillC, hl, frz]
end Go.Ai.Z
namespace Go.Ai.Z
open Go.Lib (compareBytes)
def cmpI (a b : Int) : Int := if a < b then -1 else if b < a then 1 else 0
theorem cmpI_zero {a b : Int} : cmpI a b = 0 ↔ a = b := by unfold cmpI; (repeat' split) <;> simp <;> omega
@[simp] theorem c_cmp_isNaN_int (a : Int) (s : St) (cx : Ctx) : acallW P0 (.fn (.func F_cmp_isNaN_int) [] []) [.i .i64 a] s cx = .ret (.b false) s := by
 refine go_cmp_isNaN_int (by simp) ?_
 simp [callFnW, ir_cmp_isNaN_int]
@[simp] theorem c_cmp_Compare_int (a b : Int) (s : St) (cx : Ctx) : acallW P0 (.fn (.func F_cmp_Compare_int) [] []) [.i .i64 a, .i .i64 b] s cx = .ret (.i .i64 (cmpI a b)) s := by
 refine go_cmp_Compare_int (by simp) ?_
 unfold cmpI
 by_cases h1 : a < b
 ·simp [callFnW, ir_cmp_Compare_int, h1]
 ·by_cases h2 : b < a
  ·simp [callFnW, ir_cmp_Compare_int, h1, h2]
  ·simp [callFnW, ir_cmp_Compare_int, h1, h2]
def orI : List Int → Int
 | [] => 0
 | a :: r => if a = 0 then orI r else a
theorem orI_zero : ∀ {l : List Int}, orI l = 0 ↔ ∀ a ∈ l, a = 0
 | [] => by simp [orI]
 | a :: r => by
  unfold orI
  by_cases h : a = 0
  ·simp [h, orI_zero (l := r)]
  ·simp [h]
theorem l_cmp_Or (l : List Int) (hl : l.length ≤ 100000) (s : St) (cx : Ctx) : ∀ (rest : List Int) (i : Nat), l.drop i = rest →
  ∃ j : Int, loopW (acodeW P0.glob (acallW P0) cx false ir_cmp_Or_int_L0) [3, 6, 7, 8] [(3, .v (.i .i64 0)), (6, .v (.sl (l.map (AV.i .i64)))), (7, .v (.i .i64 l.length)), (8, .v (.i .i64 i))] s =
   if orI rest = 0 then .exit 0 [(3, .v (.i .i64 0)), (6, .v (.sl (l.map (AV.i .i64)))), (7, .v (.i .i64 l.length)), (8, .v (.i .i64 j)), (9, .v (.b false))] s
   else .ret [(2, .v (.i .i64 (orI rest)))] s
 | [], i, h => by
  have h1 : ¬ i < l.length := Nat.not_lt.2 (drop_nil h)
  refine ⟨i, loop_step fun K hK => ?_⟩
  simp [ir_cmp_Or_int_L0, h1, orI]
 | p :: r, i, h => by
  obtain ⟨h1, h2, h3, h4⟩ := drop_cons h
  have h5 := h4 h3
  have hwi := wI (i := i) (by omega)
  obtain ⟨j, ih⟩ := l_cmp_Or l hl s cx r (i + 1) h2
  refine ⟨j, loop_step fun K hK => ?_⟩
  rw [← hK] at ih
  clear hK h4
  simp at ih
  by_cases hp : p = 0
  ·simp [ir_cmp_Or_int_L0, h3, h5, hwi, ih, orI, hp]
  ·simp [ir_cmp_Or_int_L0, h3, h5, hwi, orI, hp]
theorem c_cmp_Or_int (l : List Int) (hl : l.length ≤ 100000) (s : St) (cx : Ctx) : acallW P0 (.fn (.func F_cmp_Or_int) [] []) [.sl (l.map (AV.i .i64))] s cx = .ret (.i .i64 (orI l)) s := by
 refine go_cmp_Or_int (by simp) ?_
 obtain ⟨j, h⟩ := l_cmp_Or l hl s ⟨s.length, s.length⟩ l 0 rfl
 simp at h
 by_cases h0 : orI l = 0
 ·simp [h0] at h
  simp [callFnW, ir_cmp_Or_int, h, h0]
 ·simp [h0] at h
  simp [callFnW, ir_cmp_Or_int, h]
@[simp] theorem c_strings_Compare (a b : List UInt8) (s : St) (cx : Ctx) : acallW P0 (.fn (.func F_strings_Compare) [] []) [.s a, .s b] s cx = .ret (.i .i64 (compareBytes a b)) s :=
 acallW_intrS (h := pureI iCompare) rfl (by simp [iCompare])
mutual
def cmpT : C → C → Int
 | .mk k n l h z ps, d =>
  let x := orI [cmpI ((1 + sizeL ps : Nat) : Int) (sizeC d : Int), cmpI k d.kind, compareBytes n d.name, cmpI l d.lo, cmpI h d.hi]
  if x = 0 then cmpTL ps d.parts else x
def cmpTL : List C → List C → Int
 | [], [] => 0
 | [], _ :: _ => -1
 | _ :: _, [] => 1
 | a :: r, b :: q => if cmpT a b = 0 then cmpTL r q else cmpT a b
end
def headT (c d : C) : Int := orI [cmpI (sizeC c : Int) (sizeC d : Int), cmpI c.kind d.kind, compareBytes c.name d.name, cmpI c.lo d.lo, cmpI c.hi d.hi]
theorem cmpT_eq (c d : C) : cmpT c d = if headT c d = 0 then cmpTL c.parts d.parts else headT c d := by
 cases c; simp only [cmpT, headT, sizeC]; rfl
def cmpLoop : List C → List C → Option Int
 | [], _ => none
 | _ :: _, [] => some 1
 | a :: r, b :: q => if cmpT a b = 0 then cmpLoop r q else some (cmpT a b)
theorem cmpTL_loop : ∀ (x y : List C), cmpTL x y = (cmpLoop x y).getD (if x.length < y.length then -1 else 0)
 | [], [] => by simp [cmpTL, cmpLoop]
 | [], _ :: _ => by simp [cmpTL, cmpLoop]
 | _ :: _, [] => by simp [cmpTL, cmpLoop]
 | a :: r, b :: q => by
  by_cases h : cmpT a b = 0
  ·simp [cmpTL, cmpLoop, h, cmpTL_loop r q]
  ·simp [cmpTL, cmpLoop, h]
theorem l_CompareFunc (x y : List C) (hx : x.length ≤ 100000) (hy : y.length ≤ 100000) (s : St) (cx : Ctx)
  (ih : ∀ p ∈ x, ∀ q ∈ y, ∀ (s : St) (cx : Ctx), acallW P0 (.fn (.func F_terms_tree_compare) [] []) [encT p, encT q] s cx = .ret (.i .i64 (cmpT p q)) s) : ∀ (rest : List C) (i : Nat), x.drop i = rest →
  ∃ j : Int, loopW (acodeW P0.glob (acallW P0) cx false ir_slices_CompareFunc_terms_tree_terms_tree_terms_tree_terms_tree_L0) [0, 1, 2, 11, 12, 13]
   [(0, .v (slf true (x.map encT))), (1, .v (slf true (y.map encT))), (2, .v (.fn (.func F_terms_tree_compare) [] [])), (11, .v (slf true (x.map encT))), (12, .v (.i .i64 x.length)), (13, .v (.i .i64 i))] s =
   match cmpLoop rest (y.drop i) with
   | none => .exit 0 [(0, .v (slf true (x.map encT))), (1, .v (slf true (y.map encT))), (2, .v (.fn (.func F_terms_tree_compare) [] [])), (11, .v (slf true (x.map encT))), (12, .v (.i .i64 x.length)), (13, .v (.i .i64 j)), (14, .v (.b false))] s
   | some v => .ret [(6, .v (.i .i64 v))] s
 | [], i, h => by
  have h1 : ¬ i < x.length := Nat.not_lt.2 (drop_nil h)
  refine ⟨i, loop_step fun K hK => ?_⟩
  simp [ir_slices_CompareFunc_terms_tree_terms_tree_terms_tree_terms_tree_L0, h1, cmpLoop]
 | p :: r, i, h => by
  obtain ⟨h1, h2, h3, h4⟩ := drop_cons h
  have h5 := h4 h3
  have hp : p ∈ x := by rw [← h5]; exact List.getElem_mem h3
  have hwi := wI (i := i) (by omega)
  cases hq : y.drop i with
  | nil =>
   have h6 : y.length ≤ i := drop_nil hq
   refine ⟨0, loop_step fun K hK => ?_⟩
   clear hK h4 ih
   simp [ir_slices_CompareFunc_terms_tree_terms_tree_terms_tree_terms_tree_L0, h3, h5, h6, cmpLoop]
  | cons q t =>
   obtain ⟨g1, g2, g3, g4⟩ := drop_cons hq
   have g5 := g4 g3
   have g6 : ¬ y.length ≤ i := by omega
   have hqm : q ∈ y := by rw [← g5]; exact List.getElem_mem g3
   obtain ⟨j, ih2⟩ := l_CompareFunc x y hx hy s cx ih r (i + 1) h2
   have e1 := ih p hp q hqm
   refine ⟨j, loop_step fun K hK => ?_⟩
   rw [← hK] at ih2
   clear hK h4 g4 ih
   rw [g2] at ih2
   simp at ih2
   by_cases hz : cmpT p q = 0
   ·simp [ir_slices_CompareFunc_terms_tree_terms_tree_terms_tree_terms_tree_L0, h3, h5, hwi, g3, g5, g6, e1, ih2, cmpLoop, hz]
   ·simp [ir_slices_CompareFunc_terms_tree_terms_tree_terms_tree_terms_tree_L0, h3, h5, hwi, g3, g5, g6, e1, cmpLoop, hz]
theorem c_CompareFunc (x y : List C) (hx : x.length ≤ 100000) (hy : y.length ≤ 100000)
  (ih : ∀ p ∈ x, ∀ q ∈ y, ∀ (s : St) (cx : Ctx), acallW P0 (.fn (.func F_terms_tree_compare) [] []) [encT p, encT q] s cx = .ret (.i .i64 (cmpT p q)) s) (s : St) (cx : Ctx) :
  acallW P0 (.fn (.func F_slices_CompareFunc_terms_tree_terms_tree_terms_tree_terms_tree) [] []) [slf true (x.map encT), slf true (y.map encT), .fn (.func F_terms_tree_compare) [] []] s cx = .ret (.i .i64 (cmpTL x y)) s := by
 refine go_slices_CompareFunc_terms_tree_terms_tree_terms_tree_terms_tree (by simp) ?_
 obtain ⟨j, h⟩ := l_CompareFunc x y hx hy s ⟨cx.lim, s.length⟩ ih x 0 rfl
 rw [cmpTL_loop]
 simp at h
 clear ih
 cases hc : cmpLoop x y with
 | none =>
  simp [hc] at h
  by_cases hl : x.length < y.length
  ·simp [callFnW, ir_slices_CompareFunc_terms_tree_terms_tree_terms_tree_terms_tree, h, hl]
  ·simp [callFnW, ir_slices_CompareFunc_terms_tree_terms_tree_terms_tree_terms_tree, h, hl]
 | some v =>
  simp [hc] at h
  simp [callFnW, ir_slices_CompareFunc_terms_tree_terms_tree_terms_tree_terms_tree, h]
theorem c_tree_compare : ∀ (c : C), wC c ≤ 1000 → ∀ (d : C), wC d ≤ 1000 → ∀ (s : St) (cx : Ctx), acallW P0 (.fn (.func F_terms_tree_compare) [] []) [encT c, encT d] s cx = .ret (.i .i64 (cmpT c d)) s := by
 refine C.ind' fun c ih hw d hd s cx => ?_
 have hwc := wC_eq c
 have hwd := wC_eq d
 have hlc := wL_len c.parts
 have hld := wL_len d.parts
 have e1 := c_CompareFunc c.parts d.parts (by omega) (by omega) (fun p hp q hq => ih p hp (by have := wL_mem hp; omega) q (by have := wL_mem hq; omega))
 have e2 := c_cmp_Or_int [cmpI (sizeC c : Int) (sizeC d : Int), cmpI c.kind d.kind, compareBytes c.name d.name, cmpI c.lo d.lo, cmpI c.hi d.hi] (by simp)
 refine go_terms_tree_compare (by simp) ?_
 rw [cmpT_eq]
 clear ih
 change ∀ (s : St) (cx : Ctx), _ = CO.ret (.i .i64 (headT c d)) s at e2
 simp at e2
 by_cases hz : headT c d = 0
 ·simp [callFnW, ir_terms_tree_compare, e1, e2, hz, List.range_succ]
 ·simp [callFnW, ir_terms_tree_compare, e2, hz, List.range_succ]
theorem c_terms_Compare (c d : C) (hc : wC c ≤ 1000) (hd : wC d ≤ 1000) (s : St) (cx : Ctx) : acallW P0 (.fn (.func F_terms_Compare) [] []) [encC c, encC d] s cx = .ret (.i .i64 (cmpT c d)) s := by
 refine go_terms_Compare (by simp) ?_
 have e1 := c_terms_grow c hc
 have e2 := c_terms_grow d hd
 have e3 := c_tree_compare c hc d hd
 simp [callFnW, ir_terms_Compare, e1, e2, e3]
end Go.Ai.Z
