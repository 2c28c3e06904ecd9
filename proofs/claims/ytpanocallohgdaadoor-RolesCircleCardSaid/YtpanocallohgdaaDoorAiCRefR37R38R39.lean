/-
 The reference's search for a circle, in plain words.
-/
import Derived.Test.YtpanocallohgdaaDoorAiCircBfs
import Derived.Test.YtpanocallohgdaaDoorAiR4R5R6
import Derived.Test.YtpanocallohgdaaDoorAiR19R20R21R22R23R24R25R26R27R28R29R30R31R32R33R34R35R36
set_option maxRecDepth 100000
set_option linter.unusedSimpArgs false
set_option linter.unusedVariables false
namespace Go.Ai.Z
abbrev Rl := List UInt8
abbrev RE := List (Rl × Rl × Bool)
abbrev PE := List Rl × Bool
theorem linR : Lin (fun a b : Rl => a < b) := ⟨fun _ h => List.lt_irrefl _ h, fun _ _ _ h h' => List.lt_trans h h', fun a b => by
 by_cases h : a < b
 ·exact .inl h
 ·rcases List.le_iff_lt_or_eq.1 (List.not_lt.1 h) with h | h
  ·exact .inr (.inr h)
  ·exact .inr (.inl h.symm)⟩
abbrev LxR : List Rl → List Rl → Prop := Lx (fun a b : Rl => a < b)
def lstR (p : PE) : Rl := p.1.getLastD []
def sameP (y x : PE) : Bool := decide (y.2 = x.2) && decide (lstR y = lstR x)
def Snd (E : RE) (n : Nat) (c : Rl) (p : PE) : Prop := ∃ t, p.1 = c :: t ∧ t.length + 1 = n ∧ Wk E c t (lstR p) p.2
theorem Snd.len {E : RE} {n : Nat} {c : Rl} {p : PE} (h : Snd E n c p) : p.1.length = n := by obtain ⟨t, e, hl, _⟩ := h; rw [e]; simp [hl]
def Good (E : RE) (n : Nat) (c : Rl) (p : PE) : Prop := Snd E n c p ∧ ∀ q, Snd E n c q → sameP q p = true → ¬ LxR q.1 p.1
end Go.Ai.Z
namespace Go.Ai.Z
def bxA (x : Ax) : EV := .bx (cellsA x)
def cntR (role : List UInt8) : List (List UInt8) → Nat
 | [] => 0
 | r :: l => (if r = role then 1 else 0) + cntR role l
theorem cntR_le (role : List UInt8) : ∀ l, cntR role l ≤ l.length
 | [] => Nat.le_refl _
 | r :: l => by
  have := cntR_le role l
  simp only [cntR, List.length_cons]; split <;> omega
def exS (x : Ax) (i : Nat) : Bool := decide (x.roles.getD i [] = x.role) && ((decide (cntR x.role x.roles = 1) && (decide (i = 0) || decide (i + 1 = x.roles.length))) || (decide (cntR x.role x.roles = 2) && decide (x.roles.length = 2)))
theorem l_roles_exempt (x : Ax) (hx : x.roles.length ≤ 1000) (i : Int) (s : St) (cx : Ctx) :
  ∀ (rest : List (List UInt8)) (k m : Nat), x.roles.drop k = rest → m + rest.length ≤ 1000000 →
  ∃ j : Int, loopW (acodeW P0.glob (acallW P0) cx false ir_roles_exempt_L0) [1, 2, 5, 6, 21, 22, 23]
   [(1, .v (.i .i64 i)), (2, bxA x), (5, .v (.i .i64 x.roles.length)), (6, .v (.i .i64 m)), (21, .v (slf x.z (x.roles.map .s))), (22, .v (.i .i64 x.roles.length)), (23, .v (.i .i64 k))] s =
   .exit 0 [(1, .v (.i .i64 i)), (2, bxA x), (5, .v (.i .i64 x.roles.length)), (6, .v (.i .i64 (m + cntR x.role rest : Nat))), (21, .v (slf x.z (x.roles.map .s))), (22, .v (.i .i64 x.roles.length)), (23, .v (.i .i64 j)), (24, .v (.b false))] s
 | [], k, m, h, hm => by
  have h1 : ¬ k < x.roles.length := Nat.not_lt.2 (drop_nil h)
  refine ⟨k, loop_step fun K hK => ?_⟩
  simp [ir_roles_exempt_L0, h1, cntR, bxA, cellsA]
 | p :: rest, k, m, h, hm => by
  obtain ⟨g1, g2, g3, g4⟩ := drop_cons h
  have g5 := g4 g3
  have hwi := wI (i := k) (by omega)
  simp only [List.length_cons] at hm
  have hwm := wI (i := m) (by omega)
  have hc := cntR_le x.role rest
  by_cases hp : p = x.role
  ··obtain ⟨j, ih⟩ := l_roles_exempt x hx i s cx rest (k + 1) (m + 1) g2 (by omega)
    refine ⟨j, loop_step fun K hK => ?_⟩
    rw [← hK, show ((k + 1 : Nat) : Int) = (k : Int) + 1 from rfl, show ((m + 1 : Nat) : Int) = (m : Int) + 1 from rfl] at ih
    clear hK g4
    have hn : m + cntR x.role (p :: rest) = m + 1 + cntR x.role rest := by simp only [cntR, hp, if_true]; omega
    rw [hn]
    simp only [bxA, cellsA] at ih ⊢
    rw [← ih]
    simp [ir_roles_exempt_L0, g3, g5, hwi, hwm, hp]
  ·obtain ⟨j, ih⟩ := l_roles_exempt x hx i s cx rest (k + 1) m g2 (by omega)
   refine ⟨j, loop_step fun K hK => ?_⟩
   rw [← hK, show ((k + 1 : Nat) : Int) = (k : Int) + 1 from rfl] at ih
   clear hK g4
   have hn : m + cntR x.role (p :: rest) = m + cntR x.role rest := by simp only [cntR, hp, if_false]; omega
   rw [hn]
   simp only [bxA, cellsA] at ih ⊢
   rw [← ih]
   simp [ir_roles_exempt_L0, g3, g5, hwi, hp]
theorem c_roles_exempt (x : Ax) (hx : x.roles.length ≤ 1000) (i : Nat) (hi : i < x.roles.length) (s : St) (cx : Ctx) : acallW P0 (.fn (.func F_roles_exempt) [] []) [encA x, .i .i64 i] s cx = .ret (.b (exS x i)) s := by
 obtain ⟨j, h⟩ := l_roles_exempt x hx i s ⟨s.length, s.length⟩ x.roles 0 0 rfl (by omega)
 refine go_roles_exempt (by simp) ?_
 have hg : x.roles.getD i [] = x.roles[i] := by simp [List.getD, List.getElem?_eq_getElem hi]
 have hw1 : IntKind.i64.wrap ((x.roles.length : Int) - 1) = (x.roles.length : Int) - 1 := w64 (by omega) (by omega)
 rw [Nat.zero_add] at h
 by_cases hr : x.roles[i] = x.role
 ·simp only [bxA, cellsA, Int.ofNat_zero] at h
  try simp at h
  have e : exS x i = ((decide (cntR x.role x.roles = 1) && (decide (i = 0) || decide (i + 1 = x.roles.length))) || (decide (cntR x.role x.roles = 2) && decide (x.roles.length = 2))) := by
   simp only [exS, hg, hr, decide_true, Bool.true_and]
  rw [e]
  have hgi : x.roles[i]? = some x.role := by rw [List.getElem?_eq_getElem hi, hr]
  by_cases c1 : cntR x.role x.roles = 1
  ·by_cases i0 : i = 0
   ·subst i0
    simp only [Int.ofNat_zero] at h
    simp [callFnW, ir_roles_exempt, cellsA, hgi, h, c1, hw1]
   ·have i0' : ¬ (i : Int) = 0 := by omega
    by_cases i1 : i + 1 = x.roles.length
    ·have i1' : (x.roles.length : Int) = (i : Int) + 1 := by omega
     have hwi : IntKind.i64.wrap (i : Int) = i := w64 (by omega) (by omega)
     simp only [i1'] at h
     simp [callFnW, ir_roles_exempt, cellsA, hgi, h, c1, i0, i1, i0', i1', hwi]
    ·have i1' : ¬ (i : Int) = (x.roles.length : Int) - 1 := by omega
     simp [callFnW, ir_roles_exempt, cellsA, hgi, h, c1, i0, i1, i0', i1', hw1]
  ·have c1' : ¬ (cntR x.role x.roles : Int) = 1 := by omega
   by_cases c2 : cntR x.role x.roles = 2
   ·by_cases n2 : x.roles.length = 2
    ·have n2' : (x.roles.length : Int) = 2 := by omega
     simp only [n2'] at h
     simp [callFnW, ir_roles_exempt, cellsA, hgi, h, c2, n2, n2']
    ·have n2' : ¬ (x.roles.length : Int) = 2 := by omega
     simp [callFnW, ir_roles_exempt, cellsA, hgi, h, c2, n2, n2']
   ·have c2' : ¬ (cntR x.role x.roles : Int) = 2 := by omega
    simp [callFnW, ir_roles_exempt, cellsA, hgi, h, c1, c2, c1', c2']
 ·have e : exS x i = false := by simp only [exS, hg, hr, decide_false, Bool.false_and]
  rw [e]
  have hgi : x.roles[i]? = some x.roles[i] := List.getElem?_eq_getElem hi
  simp [callFnW, ir_roles_exempt, cellsA, hgi, hr]
end Go.Ai.Z
namespace Go.Ai.Z
def chE (x : Ax) : Nat → List Rl → RE
 | _, [] => []
 | k, r :: rs => (if exS x k = true then [] else [(r, x.role, true)]) ++ chE x (k + 1) rs
def subE (x : Ax) : RE := if x.kind = 5 ∧ x.roles.headD [] ≠ x.role then [(x.roles.headD [], x.role, false)] else []
def stA (x : Ax) : RE := subE x ++ (if x.kind = 6 then chE x 0 x.roles else [])
def stE (l : List Ax) : RE := l.flatMap stA
theorem stE_cons (x : Ax) (l : List Ax) : stE (x :: l) = stA x ++ stE l := rfl
def encS (k : Rl × Rl × Bool) : AV := .ag [.s k.1, .s k.2.1, .b k.2.2]
@[simp] theorem plain_encS (k : Rl × Rl × Bool) : (encS k).plain = encS k := by simp [encS]
@[simp] theorem cells_encS (k : Rl × Rl × Bool) : (encS k).cells = [.s k.1, .s k.2.1, .b k.2.2] := rfl
@[simp] theorem fold_encS (a b : Rl) (c : Bool) : AV.ag [.s a, .s b, .b c] = encS (a, b, c) := rfl
end Go.Ai.Z
namespace Go.Ai.Z
def mg (E : RE) (r t : Rl) : Option Bool := E.foldl (fun a k => if k.1 = r ∧ k.2.1 = t then some (a.getD false || k.2.2) else a) none
theorem mg_snoc (E : RE) (k : Rl × Rl × Bool) (r t : Rl) : mg (E ++ [k]) r t = if k.1 = r ∧ k.2.1 = t then some ((mg E r t).getD false || k.2.2) else mg E r t := by
 simp [mg, List.foldl_append]
structure StT (s : St) (M : Rl → Rl → Option Bool) (es : List (AV × AV)) (rest : St) : Prop where
 str : StrK es
 at_ : ∀ r, (find 1 (.s r) es = some none ∧ ∀ t, M r t = none) ∨ ∃ x is, find 1 (.s r) es = some (some (.mp (s.length + 2 + x))) ∧ rest[x]? = some (.map is) ∧ StrK is ∧ is ≠ [] ∧ ∀ t, find 1 (.s t) is = some ((M r t).map AV.b)
 inj : ∀ r1 r2 x, find 1 (.s r1) es = some (some (.mp (s.length + 2 + x))) → find 1 (.s r2) es = some (some (.mp (s.length + 2 + x))) → r1 = r2
def StM (s : St) (M : Rl → Rl → Option Bool) (H : St) : Prop := ∃ es rest, H = s ++ .map es :: .cells [.mp s.length] :: rest ∧ StT s M es rest
@[simp] theorem stm_1 {s r : St} {a b : HObj} : (s ++ a :: b :: r)[s.length + 1]? = some b := by simp
theorem st2_r {s r : St} {a b : HObj} {x : Nat} : (s ++ a :: b :: r)[s.length + 2 + x]? = r[x]? := by
 rw [show s.length + 2 + x = s.length + (x + 2) by omega, List.getElem?_append_right (by omega)]
 simp [show s.length + (x + 2) - s.length = x + 2 by omega]
theorem st2_rset {s r : St} {a b v : HObj} {x : Nat} : (s ++ a :: b :: r).set (s.length + 2 + x) v = s ++ a :: b :: r.set x v := by
 rw [show s.length + 2 + x = s.length + (x + 2) by omega, List.set_append, if_neg (by omega), show s.length + (x + 2) - s.length = x + 2 by omega]
 simp
@[simp] theorem stm_s0 {s r : St} {a b v : HObj} : (s ++ a :: b :: r).set s.length v = s ++ v :: b :: r := by simp
theorem c_steps1_old (s : St) (es : List (AV × AV)) (rest : St) (r t : Rl) (b ob : Bool) (x : Nat) (is is' : List (AV × AV)) (o : Option Bool) (hf : find 1 (.s r) es = some (some (.mp (s.length + 2 + x)))) (hx : rest[x]? = some (.map is)) (hi : find 1 (.s t) is = some (o.map AV.b)) (ho : ob = o.getD false)
  (hm : mput 1 (.s t) (.b (ob || b)) is = some is') (cx : Ctx) (hcx : cx.lim ≤ s.length ∧ cx.base ≤ s.length) :
  acallW P0 (.fn (.func F_roles_steps_1) [] [.pt (s.length + 1) 0]) [.s r, .s t, .b b] (s ++ .map es :: .cells [.mp s.length] :: rest) cx = .ret (.tu []) (s ++ .map es :: .cells [.mp s.length] :: rest.set x (.map is')) := by
 refine go_roles_steps_1 (by simp) ?_
 have h1 := st2_r (s := s) (r := rest) (a := .map es) (b := .cells [.mp s.length]) (x := x)
 have h2 := fun v => st2_rset (s := s) (r := rest) (a := .map es) (b := .cells [.mp s.length]) (x := x) (v := v)
 rw [hx] at h1
 have w1 : cx.lim ≤ s.length + 2 + x := by omega
 have w2 : cx.base ≤ s.length + 2 + x := by omega
 subst ho
 cases o with
 | none =>
  simp at hm
  simp [nilK, callFnW, ir_roles_steps_1, hf, h1, h2, hi, hm, w1, w2, keyK]
 | some ob =>
  cases ob with
  | true =>
   simp at hm
   simp [nilK, callFnW, ir_roles_steps_1, hf, h1, h2, hi, hm, w1, w2, keyK]
  | false =>
   simp at hm
   simp [nilK, callFnW, ir_roles_steps_1, hf, h1, h2, hi, hm, w1, w2, keyK]
theorem c_steps1_new (s : St) (es es' : List (AV × AV)) (rest : St) (r t : Rl) (b : Bool) (hf : find 1 (.s r) es = some none) (hm : mput 1 (.s r) (.mp (s.length + 2 + rest.length)) es = some es') (hf' : find 1 (.s r) es' = some (some (.mp (s.length + 2 + rest.length))))
  (cx : Ctx) (hcx : cx.lim ≤ s.length ∧ cx.base ≤ s.length) :
  acallW P0 (.fn (.func F_roles_steps_1) [] [.pt (s.length + 1) 0]) [.s r, .s t, .b b] (s ++ .map es :: .cells [.mp s.length] :: rest) cx = .ret (.tu []) (s ++ .map es' :: .cells [.mp s.length] :: (rest ++ [.map [(.s t, .b b)]])) := by
 refine go_roles_steps_1 (by simp) ?_
 have h1 := st2_r (s := s) (r := rest ++ [.map []]) (a := .map es') (b := .cells [.mp s.length]) (x := rest.length)
 have h2 := fun v => st2_rset (s := s) (r := rest ++ [.map []]) (a := .map es') (b := .cells [.mp s.length]) (x := rest.length) (v := v)
 have hset : ∀ v, (rest ++ [HObj.map []]).set rest.length v = rest ++ [v] := fun v => by simp
 rw [List.getElem?_concat_length] at h1
 simp only [hset] at h2
 have hlen : s.length + (rest.length + 1 + 1) = s.length + 2 + rest.length := by omega
 have w1 : cx.lim ≤ s.length + 2 + rest.length := by omega
 have w2 : cx.base ≤ s.length + 2 + rest.length := by omega
 simp [nilK, callFnW, ir_roles_steps_1, hf, hlen, hm, hf', h1, h2, hcx.1, hcx.2, w1, w2, keyK, find, mput]
theorem stM_add {s : St} {E : RE} {H : St} (h : StM s (mg E) H) (r t : Rl) (b : Bool) (cx : Ctx) (hcx : cx.lim ≤ s.length ∧ cx.base ≤ s.length) :
  ∃ H', acallW P0 (.fn (.func F_roles_steps_1) [] [.pt (s.length + 1) 0]) [.s r, .s t, .b b] H cx = .ret (.tu []) H' ∧ StM s (mg (E ++ [(r, t, b)])) H' := by
 obtain ⟨es, rest, rfl, hT⟩ := h
 have hoth : ∀ r', r' ≠ r → ∀ t', mg (E ++ [(r, t, b)]) r' t' = mg E r' t' := fun r' hr t' => by
  rw [mg_snoc, if_neg]; exact fun hh => hr hh.1.symm
 rcases hT.at_ r with ⟨h1, h2⟩ | ⟨x, is, h1, h2, h3, h4, h5⟩
 ·obtain ⟨es', m1, m2, m3⟩ := mput_str (k := r) (v := .mp (s.length + 2 + rest.length)) hT.str
  refine ⟨_, c_steps1_new s es es' rest r t b h1 m1 (by rw [m3, if_pos rfl]) cx hcx, es', _, rfl, m2, fun r' => ?_, fun r1 r2 x k1 k2 => ?_⟩
  ·by_cases hr : r' = r
   ·subst hr
    refine .inr ⟨rest.length, [(.s t, .b b)], by rw [m3, if_pos rfl], by simp, strK_one _ _, by simp, fun t' => ?_⟩
    rw [mg_snoc]
    by_cases ht : t' = t
    ·subst ht; simp [find, keyEq, h2]
    ·have ht' : ¬ t = t' := fun h => ht h.symm
     simp [find, keyEq, ht, ht', h2]
   ·rcases hT.at_ r' with ⟨g1, g2⟩ | ⟨x, is, g1, g2, g3, g4, g5⟩
    ·exact .inl ⟨by rw [m3, if_neg hr, g1], fun t' => by rw [hoth r' hr, g2]⟩
    ·exact .inr ⟨x, is, by rw [m3, if_neg hr, g1], by rw [List.getElem?_append_left (List.getElem?_eq_some_iff.1 g2).1, g2], g3, g4, fun t' => by rw [hoth r' hr, g5]⟩
  ·rw [m3] at k1 k2
   have hold : ∀ r' y, find 1 (.s r') es = some (some (.mp (s.length + 2 + y))) → y < rest.length := fun r' y hy => by
    rcases hT.at_ r' with ⟨g1, _⟩ | ⟨z, is, g1, g2, _⟩
    ·rw [g1] at hy; cases hy
    ·rw [g1] at hy
     have : z = y := by simp at hy; omega
     have := (List.getElem?_eq_some_iff.1 g2).1
     omega
   by_cases e1 : r1 = r
   ·by_cases e2 : r2 = r
    ·rw [e1, e2]
    ·rw [if_pos e1] at k1
     rw [if_neg e2] at k2
     have hx : x = rest.length := by simp at k1; omega
     have := hold r2 x k2
     omega
   ·rw [if_neg e1] at k1
    by_cases e2 : r2 = r
    ·rw [if_pos e2] at k2
     have hx : x = rest.length := by simp at k2; omega
     have := hold r1 x k1
     omega
    ·rw [if_neg e2] at k2
     exact hT.inj r1 r2 x k1 k2
 ·obtain ⟨is', m1, m2, m3⟩ := mput_str (k := t) (v := .b ((mg E r t).getD false || b)) h3
  have hne : is' ≠ [] := fun hh => by
   have := m3 t
   rw [hh, if_pos rfl] at this; simp [find] at this
  refine ⟨_, c_steps1_old s es rest r t b _ x is is' (mg E r t) h1 h2 (h5 t) rfl m1 cx hcx, es, _, rfl, hT.str, fun r' => ?_, hT.inj⟩
  by_cases hr : r' = r
  ·subst hr
   refine .inr ⟨x, is', h1, by rw [List.getElem?_set_self (List.getElem?_eq_some_iff.1 h2).1], m2, hne, fun t' => ?_⟩
   rw [m3, mg_snoc]
   by_cases ht : t' = t
   ·subst ht; simp
   ·have ht' : ¬ t = t' := fun h => ht h.symm
    simp [ht, ht', h5]
  ·rcases hT.at_ r' with ⟨g1, g2⟩ | ⟨y, is2, g1, g2, g3, g4, g5⟩
   ·exact .inl ⟨g1, fun t' => by rw [hoth r' hr, g2]⟩
   ·have hxy : x ≠ y := fun e => hr (hT.inj r' r y g1 (by rw [← e]; exact h1))
    exact .inr ⟨y, is2, g1, by rw [List.getElem?_set_ne hxy, g2], g3, g4, fun t' => by rw [hoth r' hr, g5]⟩
theorem stM_nil (s : St) : StM s (mg []) (s ++ .map [] :: .cells [.mp s.length] :: []) := ⟨[], [], rfl, strK_nil, fun r => .inl ⟨rfl, fun t => rfl⟩, fun r1 r2 x h => by simp [find] at h⟩
end Go.Ai.Z
