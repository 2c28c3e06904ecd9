/-
  roles.recognize: an item.
-/
import Derived.Test.YtomjajnlomdhpaaGreatDoorAiR15R16
set_option maxRecDepth 100000
set_option linter.unusedSimpArgs false
set_option linter.unusedVariables false
namespace Go.Ai.Z
@[simp] theorem st3_1 {s r : St} {a b c : HObj} : (s ++ a :: b :: c :: r)[s.length + 1]? = some b := by simp
@[simp] theorem st3_2 {s r : St} {a b c : HObj} : (s ++ a :: b :: c :: r)[s.length + 2]? = some c := by
  rw [List.getElem?_append_right (by omega)]; simp
theorem st3_r {s r : St} {a b c : HObj} {x : Nat} : (s ++ a :: b :: c :: r)[s.length + 3 + x]? = r[x]? := by
  rw [show s.length + 3 + x = s.length + (x + 3) by omega, List.getElem?_append_right (by omega)]
  simp [show s.length + (x + 3) - s.length = x + 3 by omega]
def span0 : List AV := List.replicate 4225 (.b false)
def addF : AFun := ⟨5, [], false, true,
 (.seq (.seq (.region [⟨(some 8), none, .load none (.t 3)⟩,
   ⟨(some 9), none, .mov (.t 0)⟩,
   ⟨(some 10), none, .look 1 .np false (.t 8) (.t 9)⟩,
   ⟨(some 11), none, .nileq false 3 (.t 10)⟩] none [0, 1, 2, 3, 4, 11])
 (.cond (.t 11)
  (.region [⟨(some 12), none, .load none (.t 3)⟩,
    ⟨(some 13), none, .mov (.t 0)⟩,
    ⟨(some 14), none, .halloc span0⟩,
    ⟨none, none, .hins 1 (.t 12) (.t 13) (.t 14)⟩] none [0, 1, 2, 3, 4])
  .skip))
 (.seq (.region [⟨(some 15), none, .load none (.t 3)⟩,
   ⟨(some 16), none, .mov (.t 0)⟩,
   ⟨(some 17), none, .look 1 .np false (.t 15) (.t 16)⟩,
   ⟨(some 18), none, .mov (.t 1)⟩,
   ⟨(some 19), none, .mov (.t 2)⟩,
   ⟨(some 20), none, .nilchk (.t 17)⟩,
   ⟨(some 21), none, .idxa 65 65 (.t 20) (.t 18)⟩,
   ⟨(some 22), none, .idxa 65 1 (.t 21) (.t 19)⟩,
   ⟨(some 23), none, .load none (.t 22)⟩,
   ⟨(some 24), none, .un .not (.t 23)⟩] none [0, 1, 2, 3, 4, 24])
 (.cond (.t 24)
  (.seq (.region [⟨(some 25), none, .load none (.t 3)⟩,
    ⟨(some 26), none, .mov (.t 0)⟩,
    ⟨(some 27), none, .look 1 .np false (.t 25) (.t 26)⟩,
    ⟨(some 28), none, .mov (.t 1)⟩,
    ⟨(some 29), none, .mov (.t 2)⟩,
    ⟨(some 30), none, .nilchk (.t 27)⟩,
    ⟨(some 31), none, .idxa 65 65 (.t 30) (.t 28)⟩,
    ⟨(some 32), none, .idxa 65 1 (.t 31) (.t 29)⟩,
    ⟨none, none, .store 1 (.t 32) (.c (.b true))⟩] none [0, 1, 2, 4])
  (.region [⟨(some 33), none, .load none (.t 4)⟩,
    ⟨(some 34), none, .mov (.t 0)⟩,
    ⟨(some 35), none, .mov (.t 1)⟩,
    ⟨(some 36), none, .mov (.t 2)⟩,
    ⟨(some 37), none, .build [(.s []), (.i .i64 0), (.i .i64 0)] [(0, 1, (.t 34)), (1, 1, (.t 35)), (2, 1, (.t 36))]⟩,
    ⟨(some 38), none, .bsl false T_roles_item_1 3 1 [(.s []), (.i .i64 0), (.i .i64 0)] [(0, (.t 37))]⟩,
    ⟨(some 39), none, .appk T_roles_item_1 3 (.t 33) (.t 38)⟩,
    ⟨none, none, .store 1 (.t 4) (.t 39)⟩] none []))
  .skip)))⟩
theorem addF_eq : ir_roles_recognize_1 = addF := rfl
theorem c_add_set (s : St) (es : List (AV × AV)) (q : AV) (rest : St) (role : List UInt8) (f t x : Nat) (cs : List AV) (hf : f ≤ 64) (ht : t ≤ 64) (he : find 1 (.s role) es = some (some (.pt (s.length + 3 + x) 0)))
    (hr : rest[x]? = some (.cells cs)) (hl : cs.length = 4225) (hb : cs[f * 65 + t]? = some (.b true)) (cx : Ctx) :
    acallW P0 (.fn (.func F_roles_recognize_1) [] [.pt (s.length + 1) 0, .pt (s.length + 2) 0]) [.s role, .i .i64 f, .i .i64 t] (s ++ .map es :: .cells [.mp s.length] :: .cells [q] :: rest) cx = .ret (.tu []) (s ++ .map es :: .cells [.mp s.length] :: .cells [q] :: rest) := by
  refine go_roles_recognize_1 (by simp) ?_
  have h3 := st3_r (s := s) (r := rest) (a := .map es) (b := .cells [.mp s.length]) (c := .cells [q]) (x := x)
  rw [hr] at h3
  have w1 : (f : Int) < 65 := by omega
  have w2 : (t : Int) < 65 := by omega
  have w3 : f < 65 := by omega
  have w4 : t < 65 := by omega
  rw [addF_eq]
  simp [nilK, callFnW, addF, he, h3, hb, hl, hf, ht, w1, w2, w3, w4]
theorem st3_rset {s r : St} {a b c v : HObj} {x : Nat} : (s ++ a :: b :: c :: r).set (s.length + 3 + x) v = s ++ a :: b :: c :: r.set x v := by
  rw [show s.length + 3 + x = s.length + (x + 3) by omega, List.set_append, if_neg (by omega), show s.length + (x + 3) - s.length = x + 3 by omega]
  simp
@[simp] theorem st3_s2 {s r : St} {a b c v : HObj} : (s ++ a :: b :: c :: r).set (s.length + 2) v = s ++ a :: b :: v :: r := by
  rw [List.set_append, if_neg (by omega)]; simp
@[simp] theorem st3_s0 {s r : St} {a b c v : HObj} : (s ++ a :: b :: c :: r).set s.length v = s ++ v :: b :: c :: r := by simp
theorem c_add_bit (s : St) (es : List (AV × AV)) (rest : St) (role : List UInt8) (f t x : Nat) (cs qs : List AV) (ver m : Nat) (hf : f ≤ 64) (ht : t ≤ 64) (hx : x ≠ 1) (he : find 1 (.s role) es = some (some (.pt (s.length + 3 + x) 0)))
    (hr : rest[x]? = some (.cells cs)) (hl : cs.length = 4225) (hb : cs[f * 65 + t]? = some (.b false)) (hq : rest[1]? = some (.buf T_roles_item_1 3 ver qs)) (hm : m * 3 ≤ qs.length) (hmx : m ≤ 1000000) (cx : Ctx) (hcx : cx.lim ≤ s.length ∧ cx.base ≤ s.length) :
    acallW P0 (.fn (.func F_roles_recognize_1) [] [.pt (s.length + 1) 0, .pt (s.length + 2) 0]) [.s role, .i .i64 f, .i .i64 t] (s ++ .map es :: .cells [.mp s.length] :: .cells [.sk (s.length + 3 + 1) ver 3 0 m] :: rest) cx =
      .ret (.tu []) (s ++ .map es :: .cells [.mp s.length] :: .cells [.sk (s.length + 3 + 1) (ver + 1) 3 0 (m + 1)] :: (rest.set x (.cells (cs.set (f * 65 + t) (.b true)))).set 1 (.buf T_roles_item_1 3 (ver + 1) (qs.take (m * 3) ++ [.s role, .i .i64 f, .i .i64 t]))) := by
  refine go_roles_recognize_1 (by simp) ?_
  have h3 := fun q => st3_r (s := s) (r := rest) (a := .map es) (b := .cells [.mp s.length]) (c := .cells [q]) (x := x)
  have h5 := fun q v => st3_rset (s := s) (r := rest) (a := .map es) (b := .cells [.mp s.length]) (c := .cells [q]) (x := x) (v := v)
  have h4 := fun q v => st3_r (s := s) (r := rest.set x v) (a := .map es) (b := .cells [.mp s.length]) (c := .cells [q]) (x := 1)
  have h6 := fun q v w => st3_rset (s := s) (r := rest.set x v) (a := .map es) (b := .cells [.mp s.length]) (c := .cells [q]) (x := 1) (v := w)
  have hq' : ∀ v, (rest.set x v)[1]? = some (.buf T_roles_item_1 3 ver qs) := fun v => by rw [List.getElem?_set_ne hx, hq]
  simp only [hr] at h3
  simp only [hq'] at h4
  have w1 : (f : Int) < 65 := by omega
  have w2 : (t : Int) < 65 := by omega
  have w3 : f < 65 := by omega
  have w4 : t < 65 := by omega
  have w5 : f * 65 + t < 4225 := by omega
  have w6 : cx.lim ≤ s.length + 3 + x := by omega
  have w7 : cx.base ≤ s.length + 3 + x := by omega
  have w8 : cx.lim ≤ s.length + 3 + 1 := by omega
  have w9 : cx.base ≤ s.length + 3 + 1 := by omega
  have w10 : cx.lim ≤ s.length + 2 := by omega
  have w11 : cx.base ≤ s.length + 2 := by omega
  have m1 : m + 1 ≤ maxSl := by unfold maxSl; omega
  have hb' : cs[f * 65 + t]'(by omega) = .b false := (List.getElem?_eq_some_iff.1 hb).2
  have w12 : f * 65 + t ≤ 4224 := by omega
  have hset : cs.set (f * 65 + t) (.b true) = cs.take (f * 65 + t) ++ .b true :: cs.drop (f * 65 + t + 1) := by
    rw [List.set_eq_take_append_cons_drop, if_pos (by omega)]
  rw [hset]
  rw [addF_eq]
  generalize hL : s.length + 3 + 1 = L at *
  simp [nilK, fillC, callFnW, addF, he, h3, h4, h5, h6, hb, hb', hl, hf, ht, hm, w1, w2, w3, w4, w5, w6, w7, w8, w9, w10, w11, w12, m1]
end Go.Ai.Z
namespace Go.Ai.Z
theorem span0_len : span0.length = 4225 := by unfold span0; exact List.length_replicate
theorem span0_at {k : Nat} (h : k < 4225) : span0[k]? = some (.b false) := by
  unfold span0; rw [List.getElem?_replicate, if_pos h]
theorem span0_set {k : Nat} (h : k < 4225) : span0.set k (.b true) = span0.take k ++ .b true :: span0.drop (k + 1) := by
  rw [List.set_eq_take_append_cons_drop, if_pos (by rw [span0_len]; exact h)]
theorem c_add_first (s : St) (es es' : List (AV × AV)) (role : List UInt8) (f t : Nat) (hf : f ≤ 64) (ht : t ≤ 64) (he : find 1 (.s role) es = some none)
    (hm : mput 1 (.s role) (.pt (s.length + 3) 0) es = some es') (he' : find 1 (.s role) es' = some (some (.pt (s.length + 3) 0))) (cx : Ctx) (hcx : cx.lim ≤ s.length ∧ cx.base ≤ s.length) :
    acallW P0 (.fn (.func F_roles_recognize_1) [] [.pt (s.length + 1) 0, .pt (s.length + 2) 0]) [.s role, .i .i64 f, .i .i64 t] (s ++ .map es :: .cells [.mp s.length] :: .cells [.ns] :: []) cx =
      .ret (.tu []) (s ++ .map es' :: .cells [.mp s.length] :: .cells [.sk (s.length + 3 + 1) 0 3 0 1] :: [.cells (span0.set (f * 65 + t) (.b true)), .buf T_roles_item_1 3 0 [.s role, .i .i64 f, .i .i64 t]]) := by
  refine go_roles_recognize_1 (by simp) ?_
  have h3 := fun es q r => st3_r (s := s) (r := .cells span0 :: r) (a := .map es) (b := .cells [.mp s.length]) (c := .cells [q]) (x := 0)
  have h5 := fun es q r v => st3_rset (s := s) (r := .cells span0 :: r) (a := .map es) (b := .cells [.mp s.length]) (c := .cells [q]) (x := 0) (v := v)
  simp only [List.getElem?_cons_zero, Nat.add_zero] at h3
  simp only [List.set_cons_zero, Nat.add_zero] at h5
  have w1 : (f : Int) < 65 := by omega
  have w2 : (t : Int) < 65 := by omega
  have w3 : f < 65 := by omega
  have w4 : t < 65 := by omega
  have w5 : f * 65 + t < 4225 := by omega
  have w6 : cx.lim ≤ s.length + 3 := by omega
  have w7 : cx.base ≤ s.length + 3 := by omega
  have w10 : cx.lim ≤ s.length + 2 := by omega
  have w11 : cx.base ≤ s.length + 2 := by omega
  have w12 : f * 65 + t ≤ 4224 := by omega
  have m1 : 1 ≤ maxSl := by unfold maxSl; omega
  have hb := span0_at w5
  have hl := span0_len
  have hb' : span0[f * 65 + t]'(by omega) = .b false := (List.getElem?_eq_some_iff.1 hb).2
  rw [span0_set w5]
  rw [addF_eq]
  simp [nilK, fillC, callFnW, addF, he, hm, he', h3, h5, hb, hb', hl, hf, ht, w1, w2, w3, w4, w5, w6, w7, w10, w11, w12, hcx.1, hcx.2, m1, keyK]
theorem c_add_new (s : St) (es es' : List (AV × AV)) (rest : St) (role : List UInt8) (f t : Nat) (qs : List AV) (ver m : Nat) (hf : f ≤ 64) (ht : t ≤ 64) (he : find 1 (.s role) es = some none)
    (hm : mput 1 (.s role) (.pt (s.length + 3 + rest.length) 0) es = some es') (he' : find 1 (.s role) es' = some (some (.pt (s.length + 3 + rest.length) 0)))
    (hq : rest[1]? = some (.buf T_roles_item_1 3 ver qs)) (hmq : m * 3 ≤ qs.length) (hmx : m ≤ 1000000) (cx : Ctx) (hcx : cx.lim ≤ s.length ∧ cx.base ≤ s.length) :
    acallW P0 (.fn (.func F_roles_recognize_1) [] [.pt (s.length + 1) 0, .pt (s.length + 2) 0]) [.s role, .i .i64 f, .i .i64 t] (s ++ .map es :: .cells [.mp s.length] :: .cells [.sk (s.length + 3 + 1) ver 3 0 m] :: rest) cx =
      .ret (.tu []) (s ++ .map es' :: .cells [.mp s.length] :: .cells [.sk (s.length + 3 + 1) (ver + 1) 3 0 (m + 1)] :: ((rest ++ [HObj.cells (span0.set (f * 65 + t) (.b true))]).set 1 (HObj.buf T_roles_item_1 3 (ver + 1) (qs.take (m * 3) ++ [AV.s role, AV.i .i64 f, AV.i .i64 t])))) := by
  refine go_roles_recognize_1 (by simp) ?_
  have hr1 : 1 < rest.length := (List.getElem?_eq_some_iff.1 hq).1
  have h3 := fun es q v => st3_r (s := s) (r := rest ++ [v]) (a := .map es) (b := .cells [.mp s.length]) (c := .cells [q]) (x := rest.length)
  have h5 := fun es q v w => st3_rset (s := s) (r := rest ++ [v]) (a := .map es) (b := .cells [.mp s.length]) (c := .cells [q]) (x := rest.length) (v := w)
  have h4 := fun es q v => st3_r (s := s) (r := rest ++ [v]) (a := .map es) (b := .cells [.mp s.length]) (c := .cells [q]) (x := 1)
  have h6 := fun es q v w => st3_rset (s := s) (r := rest ++ [v]) (a := .map es) (b := .cells [.mp s.length]) (c := .cells [q]) (x := 1) (v := w)
  have q1 : ∀ v : HObj, (rest ++ [v])[rest.length]? = some v := fun v => by simp
  have q2 : ∀ v w : HObj, (rest ++ [v]).set rest.length w = rest ++ [w] := fun v w => by simp
  have q3 : ∀ v : HObj, (rest ++ [v])[1]? = some (.buf T_roles_item_1 3 ver qs) := fun v => by rw [List.getElem?_append_left hr1, hq]
  simp only [q1] at h3
  simp only [q2] at h5
  simp only [q3] at h4
  have w1 : (f : Int) < 65 := by omega
  have w2 : (t : Int) < 65 := by omega
  have w3 : f < 65 := by omega
  have w4 : t < 65 := by omega
  have w5 : f * 65 + t < 4225 := by omega
  have w6 : cx.lim ≤ s.length + 3 + rest.length := by omega
  have w7 : cx.base ≤ s.length + 3 + rest.length := by omega
  have w8 : cx.lim ≤ s.length + 3 + 1 := by omega
  have w9 : cx.base ≤ s.length + 3 + 1 := by omega
  have w10 : cx.lim ≤ s.length + 2 := by omega
  have w11 : cx.base ≤ s.length + 2 := by omega
  have w12 : f * 65 + t ≤ 4224 := by omega
  have m1 : m + 1 ≤ maxSl := by unfold maxSl; omega
  have hb := span0_at w5
  have hl := span0_len
  have hb' : span0[f * 65 + t]'(by omega) = .b false := (List.getElem?_eq_some_iff.1 hb).2
  have hlen : s.length + (rest.length + 1 + 1 + 1) = s.length + 3 + rest.length := by omega
  rw [span0_set w5]
  rw [addF_eq]
  generalize hL : s.length + 3 + 1 = L at *
  generalize hM : s.length + 3 + rest.length = M at *
  simp [nilK, fillC, callFnW, addF, he, hm, he', h3, h4, h5, h6, hb, hb', hl, hf, ht, hmq, w1, w2, w3, w4, w5, w6, w7, w8, w9, w10, w11, w12, hcx.1, hcx.2, m1, keyK, hlen]
end Go.Ai.Z
