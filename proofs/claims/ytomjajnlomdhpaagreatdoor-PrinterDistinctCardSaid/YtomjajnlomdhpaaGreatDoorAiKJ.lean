/-
  terms.Size, terms.weight, slices.Compare, terms.CompareAxiom.
-/
import Derived.Test.YtomjajnlomdhpaaGreatDoorAiKI
import Derived.Test.YtomjajnlomdhpaaGreatDoorAiK12
set_option maxRecDepth 100000
set_option linter.unusedSimpArgs false
set_option linter.unusedVariables false
namespace Go.Ai.Z
open Go.Lib (compareBytes)

theorem set_back {T : St} {l a : Nat} {X Y Z : HObj} (hl : T[l]? = some Z) (hal : l ≠ a) : ((T.set l X).set a Y).set l Z = T.set a Y := by
  rw [List.set_comm _ _ (Ne.symm hal), List.set_set]
  have h := set_same hl
  rw [h]

def szEnv (a : Nat) (c : C) : Env := [(2, .v (.pt a 0)), (4, .v (.fn (.func F_terms_walk_1) [] [.ip (encC c).cells]))]
def szLoop (a : Nat) (c : C) (p : Pend) : HObj := .loop (szEnv a c) [5] ir_terms_Size_A0 ir_terms_Size_R0 p
theorem y_Size (c x : C) (a l n : Nat) (T : St) (cx : Ctx) (hl : T[l]? = some (szLoop a c .ready)) (ha : T[a]? = some (.cells [.i .i64 (n : Int)])) (hcl : cx.lim ≤ l) (hca : cx.lim ≤ a) (hn : n ≤ 1000000) :
    acallW P0 (.yl l) [encC x] T cx = .ret (.b true) (T.set a (.cells [.i .i64 ((n + 1 : Nat) : Int)])) := by
  have hl1 : l < T.length := (List.getElem?_eq_some_iff.1 hl).1
  have ha1 : a < T.length := (List.getElem?_eq_some_iff.1 ha).1
  have hal : ¬ l = a := by intro e; subst e; rw [hl] at ha; simp [szLoop] at ha
  have hl2 : T[l] = szLoop a c .ready := (List.getElem?_eq_some_iff.1 hl).2
  have ha2 : T[a] = .cells [.i .i64 (n : Int)] := (List.getElem?_eq_some_iff.1 ha).2
  have w1 : IntKind.i64.wrap ((n : Int) + 1) = (n : Int) + 1 := w64 (by omega) (by omega)
  refine acallW_yl (by simp) ?_
  unfold yieldW
  rw [hl]
  simp only [szLoop, szEnv, setPs, put, lk]
  have hset := set_same hl
  simp only [szLoop, szEnv] at hset hl2
  simp [ir_terms_Size_A0, hcl, hl1, hl2, ir_terms_Size_R0, ha2, ha1, hca, w1, endRnd, hal, Ne.symm hal]
  exact set_back (by simpa [ir_terms_Size_A0, ir_terms_Size_R0, szLoop, szEnv] using hl) hal

theorem l_visit_size (c x : C) (hw : wC x ≤ 1000) (a l : Nat) (cx : Ctx) (hcl : cx.lim ≤ l) (hca : cx.lim ≤ a)
    (ih : ∀ p ∈ x.parts, ∀ (n : Nat) (T : St) (cx : Ctx), n + sizeC p ≤ 1000000 → T[l]? = some (szLoop a c .ready) → T[a]? = some (.cells [.i .i64 (n : Int)]) → cx.lim ≤ l → cx.lim ≤ a →
      acallW P0 (.fn (.func F_terms_visit) [] []) [encC p, .yl l] T cx = .ret (.b true) (T.set a (.cells [.i .i64 ((n + sizeC p : Nat) : Int)]))) :
    ∀ (rest : List C) (i n : Nat) (T : St), n + sizeL rest ≤ 1000000 → T[l]? = some (szLoop a c .ready) → T[a]? = some (.cells [.i .i64 (n : Int)]) → x.parts.drop i = rest →
    ∃ j : Int, loopW (acodeW P0.glob (acallW P0) cx false ir_terms_visit_L0) [1, 12, 13, 14] [(1, .v (.yl l)), (12, .v (slf x.z (x.parts.map encC))), (13, .v (.i .i64 x.parts.length)), (14, .v (.i .i64 i))] T =
      .exit 0 [(1, .v (.yl l)), (12, .v (slf x.z (x.parts.map encC))), (13, .v (.i .i64 x.parts.length)), (14, .v (.i .i64 j)), (15, .v (.b false))] (T.set a (.cells [.i .i64 ((n + sizeL rest : Nat) : Int)]))
  | [], i, n, T, hn, hl, ha, h => by
    have h1 : ¬ i < x.parts.length := Nat.not_lt.2 (drop_nil h)
    refine ⟨i, loop_step fun K hK => ?_⟩
    simp [ir_terms_visit_L0, h1, sizeL, set_same ha]
  | p :: r, i, n, T, hn, hl, ha, h => by
    obtain ⟨h1, h2, h3, h4⟩ := drop_cons h
    have h5 := h4 h3
    have hp : p ∈ x.parts := by rw [← h5]; exact List.getElem_mem h3
    have hlen := wL_len x.parts
    have hwi := wI (i := i) (by rw [wC_eq] at hw; omega)
    simp only [sizeL] at hn
    have ha1 : a < T.length := (List.getElem?_eq_some_iff.1 ha).1
    have hal : l ≠ a := by intro e; subst e; rw [hl] at ha; simp [szLoop] at ha
    have e1 := ih p hp n T cx (by omega) hl ha hcl hca
    obtain ⟨j, ih2⟩ := l_visit_size c x hw a l cx hcl hca ih r (i + 1) (n + sizeC p) (T.set a (.cells [.i .i64 ((n + sizeC p : Nat) : Int)])) (by omega) (by rw [List.getElem?_set_ne (Ne.symm hal)]; exact hl) (by simp [ha1]) h2
    refine ⟨j, loop_step fun K hK => ?_⟩
    rw [← hK] at ih2
    clear hK h4 ih
    simp at ih2 e1
    have hadd : ((n : Int) + (sizeC p : Int) + (sizeL r : Int)) = (n : Int) + ((sizeC p : Int) + (sizeL r : Int)) := by omega
    simp [ir_terms_visit_L0, h3, h5, hwi, e1, ih2, sizeL, hadd]
theorem c_visit_size (c : C) (a l : Nat) : ∀ (x : C), wC x ≤ 1000 → ∀ (n : Nat) (T : St) (cx : Ctx), n + sizeC x ≤ 1000000 → T[l]? = some (szLoop a c .ready) → T[a]? = some (.cells [.i .i64 (n : Int)]) → cx.lim ≤ l → cx.lim ≤ a →
      acallW P0 (.fn (.func F_terms_visit) [] []) [encC x, .yl l] T cx = .ret (.b true) (T.set a (.cells [.i .i64 ((n + sizeC x : Nat) : Int)])) := by
  refine C.ind' fun x ih hw n T cx hn hl ha hcl hca => ?_
  have hl1 : l < T.length := (List.getElem?_eq_some_iff.1 hl).1
  have ha1 : a < T.length := (List.getElem?_eq_some_iff.1 ha).1
  have hal : l ≠ a := by intro e; subst e; rw [hl] at ha; simp [szLoop] at ha
  have hw' := hw
  rw [wC_eq] at hw'
  have hs := sizeC_eq x
  have hy := y_Size c x a l n T ⟨cx.lim, T.length⟩ hl ha hcl hca (by omega)
  obtain ⟨j, h⟩ := l_visit_size c x hw a l ⟨cx.lim, T.length⟩ hcl hca (fun p hp n T cx => ih p hp (by have := wL_mem hp; omega) n T cx) x.parts 0 (n + 1) (T.set a (.cells [.i .i64 ((n + 1 : Nat) : Int)])) (by omega)
    (by rw [List.getElem?_set_ne (Ne.symm hal)]; exact hl) (by simp [ha1]) rfl
  refine go_terms_visit (by simp) ?_
  simp at hy h
  have hadd : ((n : Int) + 1 + (sizeL x.parts : Int)) = (n : Int) + (1 + (sizeL x.parts : Int)) := by omega
  simp [callFnW, ir_terms_visit, hy, h, hs, hadd]
theorem c_terms_Size (c : C) (hw : wC c ≤ 1000) (s : St) (cx : Ctx) : acallW P0 (.fn (.func F_terms_Size) [] []) [encC c] s cx = .ret (.i .i64 (sizeC c : Int)) s := by
  refine go_terms_Size (by simp) ?_
  have h1 := sizeC_le c
  let T : St := s ++ [.cells [.i .i64 0], .dfr, szLoop s.length c .ready]
  have hv := c_visit_size c s.length (s.length + 2) c hw 0 T ⟨s.length, T.length⟩ (by omega) (by simp [T]) (by simp [T]) (by simp) (by simp)
  have hw1 : acallW P0 (.fn (.func F_terms_walk_1) [] [.ip (encC c).cells]) [.yl (s.length + 2)] T ⟨s.length, s.length⟩ = .ret (.tu []) (T.set s.length (.cells [.i .i64 (sizeC c : Int)])) := by
    refine go_terms_walk_1 (by simp) ?_
    simp at hv
    simp [callFnW, ir_terms_walk_1, hv]
  simp [T, szLoop, szEnv] at hw1
  simp [callFnW, ir_terms_Size, rangeW, hw1, pended, show s.length + 1 + 1 = s.length + 2 from rfl, get_app, set_app]
end Go.Ai.Z
