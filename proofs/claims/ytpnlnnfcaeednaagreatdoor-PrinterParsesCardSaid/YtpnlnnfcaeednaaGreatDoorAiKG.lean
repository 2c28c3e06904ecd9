/-
  terms.Compare: the order of concepts.
-/
import Derived.Test.YtpnlnnfcaeednaaGreatDoorAiK4
set_option maxRecDepth 100000
set_option linter.unusedSimpArgs false
set_option linter.unusedVariables false
set_option linter.unusedSectionVars false
namespace Go.Ai.Z
open Go.Lib (compareBytes)
mutual
def encT : C → AV
  | .mk k n l h z ps => .ag [.i .i64 k, .s n, .i .i64 l, .i .i64 h, slf z (encCs ps), .i .i64 ((1 + sizeL ps : Nat) : Int), slf true (encTs ps)]
def encTs : List C → List AV
  | [] => []
  | a :: r => encT a :: encTs r
end
theorem encTs_eq : ∀ ps : List C, encTs ps = ps.map encT
  | [] => by simp [encTs]
  | a :: r => by simp [encTs, encTs_eq r]
theorem encT_eq (c : C) : encT c = .ag [.i .i64 c.kind, .s c.name, .i .i64 c.lo, .i .i64 c.hi, slf c.z (c.parts.map encC), .i .i64 (sizeC c : Int), slf true (c.parts.map encT)] := by
  cases c; simp [encT, encCs_eq, encTs_eq, sizeC]
@[simp] theorem plain_encT (c : C) : (encT c).plain = encT c := by rw [encT_eq]; simp
@[simp] theorem cells_encT (c : C) : (encT c).cells = [.i .i64 c.kind, .s c.name, .i .i64 c.lo, .i .i64 c.hi, slf c.z (c.parts.map encC), .i .i64 (sizeC c : Int), slf true (c.parts.map encT)] := by rw [encT_eq]; rfl
@[simp] theorem fold_encT (c : C) : AV.ag [.i .i64 c.kind, .s c.name, .i .i64 c.lo, .i .i64 c.hi, slf c.z (c.parts.map encC), .i .i64 (sizeC c : Int), slf true (c.parts.map encT)] = encT c := (encT_eq c).symm
mutual
theorem under_encT' (n : Nat) : ∀ c : C, (encT c).under n = true
  | .mk k nm l h z ps => by simp [encT, under_encCs' n ps, under_encTs' n ps]
theorem under_encTs' (n : Nat) : ∀ ps : List C, underL n (encTs ps) = true
  | [] => by simp [encTs]
  | a :: r => by simp [encTs, under_encT' n a, under_encTs' n r]
end
@[simp] theorem under_encT (n : Nat) (c : C) : (encT c).under n = true := under_encT' n c
@[simp] theorem under_encTs (n : Nat) (ps : List C) : underL n (ps.map encT) = true := by rw [← encTs_eq]; exact under_encTs' n ps
theorem sizeL_app : ∀ x y : List C, sizeL (x ++ y) = sizeL x + sizeL y
  | [], y => by simp [sizeL]
  | a :: x, y => by simp only [List.cons_append, sizeL, sizeL_app x y]; omega
def avP (s : St) (t : List C) : AV := match t with | [] => .ns | t => .st s.length (t.map encT)
def stP (s : St) (t : List C) : St := match t with | [] => s | t => s ++ [.row T_terms_tree_1 7 t.length]
theorem l_grow (c : C) (hps : c.parts.length ≤ 100000) (hw : sizeC c ≤ 100000) (s : St) (ih : ∀ p ∈ c.parts, ∀ (s : St) (cx : Ctx), acallW P0 (.fn (.func F_terms_grow) [] []) [encC p] s cx = .ret (encT p) s) :
    ∀ (rest : List C) (i : Nat) (t : List C), c.parts.drop i = rest → c.parts = t ++ rest → t.length = i →
    ∃ j : Int, loopW (acodeW P0.glob (acallW P0) ⟨s.length, s.length⟩ false ir_terms_grow_L0) [2, 9, 10, 11]
      [(2, .bx [.i .i64 c.kind, .s c.name, .i .i64 c.lo, .i .i64 c.hi, slf c.z (c.parts.map encC), .i .i64 ((1 + sizeL t : Nat) : Int), avP s t]), (9, .v (slf c.z (c.parts.map encC))), (10, .v (.i .i64 c.parts.length)), (11, .v (.i .i64 i))] (stP s t) =
      .exit 0 [(2, .bx [.i .i64 c.kind, .s c.name, .i .i64 c.lo, .i .i64 c.hi, slf c.z (c.parts.map encC), .i .i64 (sizeC c : Int), avP s c.parts]), (9, .v (slf c.z (c.parts.map encC))), (10, .v (.i .i64 c.parts.length)), (11, .v (.i .i64 j)), (12, .v (.b false))] (stP s c.parts)
  | [], i, t, h, hc, ht => by
    have h1 : ¬ i < c.parts.length := Nat.not_lt.2 (drop_nil h)
    have hc' : c.parts = t := by simpa using hc
    refine ⟨i, loop_step fun K hK => ?_⟩
    rw [sizeC_eq, hc']
    rw [hc'] at h1
    simp [ir_terms_grow_L0, h1]
  | p :: r, i, t, h, hc, ht => by
    obtain ⟨h1, h2, h3, h4⟩ := drop_cons h
    have h5 := h4 h3
    have hp : p ∈ c.parts := by rw [← h5]; exact List.getElem_mem h3
    have hwi := wI (i := i) (by omega)
    have hsz : sizeL (t ++ [p]) = sizeL t + sizeC p := by rw [sizeL_app]; simp [sizeL]
    have hle : sizeL (t ++ [p]) ≤ sizeL c.parts := by rw [hc, sizeL_app, sizeL_app]; simp [sizeL]
    have hw2 := sizeC_eq c
    obtain ⟨j, ih2⟩ := l_grow c hps hw s ih r (i + 1) (t ++ [p]) h2 (by simp [hc]) (by simp [ht])
    refine ⟨j, loop_step fun K hK => ?_⟩
    rw [← hK] at ih2
    have e1 := ih p hp
    have hadd : IntKind.i64.wrap (((1 + sizeL t : Nat) : Int) + (sizeC p : Int)) = ((1 + sizeL (t ++ [p]) : Nat) : Int) := by
      rw [hsz]; rw [w64] <;> omega
    clear hK h4 ih hle hw2 hsz
    have hm : t.length + 1 ≤ maxSl := by unfold maxSl; omega
    cases t with
    | nil =>
      simp at ht
      subst ht
      simp [avP, stP] at ih2 hadd hm hwi
      simp [ir_terms_grow_L0, avP, stP, h3, h5, hwi, e1, hm, ih2, hadd, List.range_succ]
    | cons a t =>
      simp [avP, stP] at ih2 hadd
      simp at ht hm
      simp [ir_terms_grow_L0, avP, stP, h3, h5, hwi, e1, hm, ih2, hadd, List.range_succ]
theorem c_terms_grow : ∀ (c : C), wC c ≤ 1000 → ∀ (s : St) (cx : Ctx), acallW P0 (.fn (.func F_terms_grow) [] []) [encC c] s cx = .ret (encT c) s := by
  refine C.ind' fun c ih hw s cx => ?_
  have h1 := sizeC_le c
  have h2 := wL_len c.parts
  have h3 := wC_eq c
  obtain ⟨j, hl⟩ := l_grow c (by omega) (by omega) s (fun p hp => ih p hp (by have := wL_mem hp; omega)) c.parts 0 [] rfl rfl rfl
  refine go_terms_grow (by simp) ?_
  have hn : ∀ k v, avP s c.parts = .st k v → k = s.length ∧ v = c.parts.map encT := by
    intro k v h
    cases hps : c.parts with
    | nil => rw [hps] at h; simp [avP] at h
    | cons a r => rw [hps] at h; simp [avP] at h; exact ⟨h.1.symm, by simpa using h.2.symm⟩
  clear hn ih
  rw [encT_eq]
  cases hps : c.parts with
  | nil =>
    rw [hps] at hl
    simp [avP, stP, sizeL] at hl
    simp [callFnW, ir_terms_grow, hps, fillC, hl]
  | cons a r =>
    rw [hps] at hl
    simp [avP, stP, sizeL] at hl
    simp [callFnW, ir_terms_grow, hps, fillC, hl, frz]
end Go.Ai.Z
