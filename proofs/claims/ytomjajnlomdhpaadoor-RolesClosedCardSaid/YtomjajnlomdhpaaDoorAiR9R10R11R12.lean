/-
 Several maps in the heap, and their rows behind them: each row has a tag (its map) and a key.
-/
import Derived.Test.YtomjajnlomdhpaaDoorAiR2R3
import Derived.Test.YtomjajnlomdhpaaDoorAiWrdGrm
set_option maxRecDepth 100000
set_option linter.unusedSimpArgs false
set_option linter.unusedVariables false
namespace Go.Ai.Z
structure RowT where
 tag : Nat
 key : List UInt8
 vals : List AV
abbrev RT := List RowT
def esT (j : Nat) : Nat → RT → List (AV × AV)
 | _, [] => []
 | b, p :: G => if p.tag = j then (.s p.key, .st b p.vals) :: esT j (b + 1) G else esT j (b + 1) G
def valT (j : Nat) : RT → List UInt8 → List AV
 | [], _ => []
 | p :: G, k => if p.tag = j ∧ p.key = k then p.vals else valT j G k
def addT (j : Nat) : RT → List UInt8 → AV → RT
 | [], k, v => [⟨j, k, [v]⟩]
 | p :: G, k, v => if p.tag = j ∧ p.key = k then ⟨j, k, p.vals ++ [v]⟩ :: G else p :: addT j G k v
def HasT (j : Nat) (G : RT) (k : List UInt8) : Prop := ∃ p ∈ G, p.tag = j ∧ p.key = k
theorem valT_add (j j' : Nat) (k v x) : ∀ G : RT, valT j' (addT j G k v) x = if j = j' ∧ k = x then valT j' G x ++ [v] else valT j' G x
 | [] => by
  by_cases h : j = j' ∧ k = x <;> simp [addT, valT, h]
 | p :: G => by
  have ih := valT_add j j' k v x G
  by_cases h : p.tag = j ∧ p.key = k
  ·obtain ⟨h1, h2⟩ := h
   by_cases h3 : j = j' ∧ k = x
   ·obtain ⟨rfl, rfl⟩ := h3
    simp [addT, valT, h1, h2]
   ·have h4 : ¬ (p.tag = j' ∧ p.key = x) := by rw [h1, h2]; exact h3
    simp only [addT, h1, h2, and_self, if_true, valT, h3, if_false]
  ·by_cases h3 : j = j' ∧ k = x
   ·obtain ⟨rfl, rfl⟩ := h3
    simp only [addT, valT, h, if_false, ih, and_self, if_true]
   ·by_cases h4 : p.tag = j' ∧ p.key = x
    ·rw [if_neg h3]
     simp only [addT, if_neg h]
     simp only [valT, if_pos h4]
    ·simp only [addT, valT, h, if_false, h4, ih, h3]
theorem addT_new {j : Nat} {k : List UInt8} (v : AV) : ∀ {G : RT}, ¬ HasT j G k → addT j G k v = G ++ [⟨j, k, [v]⟩]
 | [], _ => rfl
 | p :: G, h => by
  have h1 : ¬ (p.tag = j ∧ p.key = k) := fun e => h ⟨p, by simp, e⟩
  have h2 : ¬ HasT j G k := fun ⟨q, hq, e⟩ => h ⟨q, by simp [hq], e⟩
  simp only [addT, h1, if_false, addT_new v h2, List.cons_append]
theorem addT_old {j : Nat} {k : List UInt8} (v : AV) : ∀ {G : RT}, HasT j G k → ∃ G1 vs G2, G = G1 ++ ⟨j, k, vs⟩ :: G2 ∧ ¬ HasT j G1 k ∧ addT j G k v = G1 ++ ⟨j, k, vs ++ [v]⟩ :: G2
 | [], h => by obtain ⟨q, hq, _⟩ := h; cases hq
 | p :: G, h => by
  by_cases h1 : p.tag = j ∧ p.key = k
  ·refine ⟨[], p.vals, G, ?_, (fun ⟨q, hq, _⟩ => by cases hq), ?_⟩
   ·obtain ⟨t, kk, vv⟩ := p
    obtain ⟨rfl, rfl⟩ := h1; rfl
   ·simp only [addT, h1, and_self, if_true, List.nil_append]
  ·have h2 : HasT j G k := by
    obtain ⟨q, hq, e⟩ := h
    rcases List.mem_cons.1 hq with rfl | hq
    ·exact absurd e h1
    ·exact ⟨q, hq, e⟩
   obtain ⟨G1, vs, G2, e1, e2, e3⟩ := addT_old v h2
   refine ⟨p :: G1, vs, G2, by rw [e1]; rfl, fun ⟨q, hq, e⟩ => ?_, ?_⟩
   ·rcases List.mem_cons.1 hq with rfl | hq
    ·exact h1 e
    ·exact e2 ⟨q, hq, e⟩
   ·simp only [addT, h1, if_false, e3, List.cons_append]
theorem findT_new {j : Nat} {k : List UInt8} : ∀ {G : RT} (b : Nat), ¬ HasT j G k → find 1 (.s k) (esT j b G) = some none
 | [], _, _ => rfl
 | p :: G, b, h => by
  have h2 : ¬ HasT j G k := fun ⟨q, hq, e⟩ => h ⟨q, by simp [hq], e⟩
  have ih := findT_new (b + 1) h2
  by_cases ht : p.tag = j
  ·have h1 : ¬ k = p.key := fun e => h ⟨p, by simp, ht, e.symm⟩
   simp [esT, ht, find, keyEq, h1, ih]
  ·simp [esT, ht, ih]
theorem findT_old {j : Nat} {k : List UInt8} {vs : List AV} {G2 : RT} : ∀ {G1 : RT} (b : Nat), ¬ HasT j G1 k → find 1 (.s k) (esT j b (G1 ++ ⟨j, k, vs⟩ :: G2)) = some (some (.st (b + G1.length) vs))
 | [], b, _ => by simp [esT, find, keyEq]
 | p :: G, b, h => by
  have h2 : ¬ HasT j G k := fun ⟨q, hq, e⟩ => h ⟨q, by simp [hq], e⟩
  have ih := findT_old (vs := vs) (G2 := G2) (b + 1) h2
  have e : b + 1 + G.length = b + (G.length + 1) := by omega
  rw [e] at ih
  by_cases ht : p.tag = j
  ·have h1 : ¬ k = p.key := fun e => h ⟨p, by simp, ht, e.symm⟩
   simp [esT, ht, find, keyEq, h1, ih]
  ·simp [esT, ht, ih]
theorem mputT_new {j : Nat} {k : List UInt8} {vs : List AV} : ∀ {G : RT} (b : Nat), ¬ HasT j G k → mput 1 (.s k) (.st (b + G.length) vs) (esT j b G) = some (esT j b (G ++ [⟨j, k, vs⟩]))
 | [], b, _ => by simp [esT, mput]
 | p :: G, b, h => by
  have h2 : ¬ HasT j G k := fun ⟨q, hq, e⟩ => h ⟨q, by simp [hq], e⟩
  have ih := mputT_new (vs := vs) (b + 1) h2
  have e : b + 1 + G.length = b + (G.length + 1) := by omega
  rw [e] at ih
  by_cases ht : p.tag = j
  ·have h1 : ¬ k = p.key := fun e => h ⟨p, by simp, ht, e.symm⟩
   simp [esT, ht, mput, keyEq, h1, ih]
  ·simp [esT, ht, ih]
theorem mputT_old {j : Nat} {k : List UInt8} {vs ws : List AV} {G2 : RT} : ∀ {G1 : RT} (b : Nat), ¬ HasT j G1 k → mput 1 (.s k) (.st (b + G1.length) ws) (esT j b (G1 ++ ⟨j, k, vs⟩ :: G2)) = some (esT j b (G1 ++ ⟨j, k, ws⟩ :: G2))
 | [], b, _ => by simp [esT, mput, keyEq]
 | p :: G, b, h => by
  have h2 : ¬ HasT j G k := fun ⟨q, hq, e⟩ => h ⟨q, by simp [hq], e⟩
  have ih := mputT_old (vs := vs) (ws := ws) (G2 := G2) (b + 1) h2
  have e : b + 1 + G.length = b + (G.length + 1) := by omega
  rw [e] at ih
  by_cases ht : p.tag = j
  ·have h1 : ¬ k = p.key := fun e => h ⟨p, by simp, ht, e.symm⟩
   simp [esT, ht, mput, keyEq, h1, ih]
  ·simp [esT, ht, ih]
theorem esT_add_ne {j j' : Nat} (hne : j ≠ j') {k : List UInt8} {v : AV} : ∀ (G : RT) (b : Nat), esT j' b (addT j G k v) = esT j' b G
 | [], b => by simp [addT, esT, hne]
 | p :: G, b => by
  have ih := esT_add_ne hne (k := k) (v := v) G (b + 1)
  by_cases h : p.tag = j ∧ p.key = k
  ·have h1 : ¬ p.tag = j' := by rw [h.1]; exact hne
   simp only [addT, h, and_self, if_true, esT, hne, if_false, h1]
  ·simp only [addT, h, if_false, esT, ih]
end Go.Ai.Z
namespace Go.Ai.Z
def encR (p : Rul) : AV := .ag [.s p.first, .s p.second, .s p.role]
@[simp] theorem plain_encR (p : Rul) : (encR p).plain = encR p := by simp [encR]
@[simp] theorem cells_encR (p : Rul) : (encR p).cells = [.s p.first, .s p.second, .s p.role] := rfl
def seenM (S : List Rul) : List (AV × AV) := S.map fun p => (encR p, .b true)
theorem key_encR (p q : Rul) : keyEq 6 (encR p) (encR q) = some (decide (p = q)) := by
 obtain ⟨a, b, c⟩ := p
 obtain ⟨a', b', c'⟩ := q
 simp only [encR, keyEq, strsEq]
 by_cases h1 : a = a' <;> by_cases h2 : b = b' <;> by_cases h3 : c = c' <;> simp [h1, h2, h3, strsEq]
theorem find_seen (p : Rul) : ∀ S : List Rul, find 6 (encR p) (seenM S) = some (if p ∈ S then some (.b true) else none)
 | [] => rfl
 | q :: S => by
  have ih := find_seen p S
  simp only [seenM] at ih ⊢
  simp only [List.map_cons, find, key_encR]
  by_cases h : p = q
  ·simp [h]
  ·simp [h, ih]
theorem mput_seen {p : Rul} : ∀ {S : List Rul}, p ∉ S → mput 6 (encR p) (.b true) (seenM S) = some (seenM (S ++ [p]))
 | [], _ => rfl
 | q :: S, h => by
  simp only [List.mem_cons, not_or] at h
  have ih := mput_seen (S := S) h.2
  simp only [seenM] at ih ⊢
  simp only [List.map_cons, mput, key_encR, h.1, decide_false, ih]
  simp
def rowO (p : RowT) : HObj := .row (if p.tag = 1 ∨ p.tag = 2 then T_roles_rule_1 else T_string_0) (if p.tag = 1 ∨ p.tag = 2 then 3 else 1) p.vals.length
def rowsO (R : RT) : St := R.map rowO
@[simp] theorem rowsO_len (R : RT) : (rowsO R).length = R.length := by simp [rowsO]
def cellT (j : Nat) : Nat → RT → List UInt8 → AV
 | _, [], _ => .ns
 | b, p :: R, k => if p.tag = j ∧ p.key = k then .st b p.vals else cellT j (b + 1) R k
theorem cellT_add_ne {j j' : Nat} (hne : j ≠ j') {k x : List UInt8} {v : AV} : ∀ (G : RT) (b : Nat), cellT j' b (addT j G k v) x = cellT j' b G x
 | [], b => by simp [addT, cellT, hne]
 | p :: G, b => by
  have ih := cellT_add_ne hne (k := k) (x := x) (v := v) G (b + 1)
  by_cases h : p.tag = j ∧ p.key = k
  ·have h1 : ¬ p.tag = j' := by rw [h.1]; exact hne
   simp only [addT, h, and_self, if_true, cellT, hne, false_and, if_false, h1]
  ·simp only [addT, h, if_false, cellT, ih]
def gHeap (s : St) (R : RT) (S : List Rul) : St := s ++ .map (esT 0 (s.length + 4) R) :: .map (esT 1 (s.length + 4) R) :: .map (esT 2 (s.length + 4) R) :: .map (seenM S) :: rowsO R
def addRule (st : RT × List Rul) (p : Rul) : RT × List Rul := if p ∈ st.2 then st else (addT 2 (addT 1 st.1 p.first (encR p)) p.second (encR p), st.2 ++ [p])
@[simp] theorem st4_0 {s r : St} {a b c d : HObj} : (s ++ a :: b :: c :: d :: r)[s.length]? = some a := by simp
@[simp] theorem st4_1 {s r : St} {a b c d : HObj} : (s ++ a :: b :: c :: d :: r)[s.length + 1]? = some b := by simp
@[simp] theorem st4_2 {s r : St} {a b c d : HObj} : (s ++ a :: b :: c :: d :: r)[s.length + 2]? = some c := by
 rw [List.getElem?_append_right (by omega)]; simp
@[simp] theorem st4_3 {s r : St} {a b c d : HObj} : (s ++ a :: b :: c :: d :: r)[s.length + 3]? = some d := by
 rw [List.getElem?_append_right (by omega)]; simp
@[simp] theorem st4_s0 {s r : St} {a b c d x : HObj} : (s ++ a :: b :: c :: d :: r).set s.length x = s ++ x :: b :: c :: d :: r := by simp
@[simp] theorem st4_s1 {s r : St} {a b c d x : HObj} : (s ++ a :: b :: c :: d :: r).set (s.length + 1) x = s ++ a :: x :: c :: d :: r := by
 rw [List.set_append, if_neg (by omega)]; simp
@[simp] theorem st4_s2 {s r : St} {a b c d x : HObj} : (s ++ a :: b :: c :: d :: r).set (s.length + 2) x = s ++ a :: b :: x :: d :: r := by
 rw [List.set_append, if_neg (by omega)]; simp
@[simp] theorem st4_s3 {s r : St} {a b c d x : HObj} : (s ++ a :: b :: c :: d :: r).set (s.length + 3) x = s ++ a :: b :: c :: x :: r := by
 rw [List.set_append, if_neg (by omega)]; simp
theorem st4_row {s r1 r2 : St} {a b c d x : HObj} : (s ++ a :: b :: c :: d :: (r1 ++ x :: r2))[s.length + 4 + r1.length]? = some x := by
 rw [show s.length + 4 + r1.length = s.length + (r1.length + 4) by omega, List.getElem?_append_right (by omega)]
 simp [show s.length + (r1.length + 4) - s.length = r1.length + 4 by omega]
theorem st4_rowset {s r1 r2 : St} {a b c d x y : HObj} : (s ++ a :: b :: c :: d :: (r1 ++ x :: r2)).set (s.length + 4 + r1.length) y = s ++ a :: b :: c :: d :: (r1 ++ y :: r2) := by
 rw [show s.length + 4 + r1.length = s.length + (r1.length + 4) by omega, List.set_append, if_neg (by omega), show s.length + (r1.length + 4) - s.length = r1.length + 4 by omega]
 simp
theorem app_tag (s : St) (j : Nat) (R : RT) (k : List UInt8) (v : AV) (S : List Rul) :
  (HasT j R k ∧ ∃ G1 vs G2, R = G1 ++ ⟨j, k, vs⟩ :: G2 ∧ ¬ HasT j G1 k ∧ addT j R k v = G1 ++ ⟨j, k, vs ++ [v]⟩ :: G2) ∨ (¬ HasT j R k ∧ addT j R k v = R ++ [⟨j, k, [v]⟩]) := by
 by_cases h : HasT j R k
 ·exact .inl ⟨h, addT_old v h⟩
 ·exact .inr ⟨h, addT_new v h⟩
end Go.Ai.Z
namespace Go.Ai.Z
def ruleAt (x : Ax) (m : Nat) : Rul := ⟨jn (x.roles.take m), x.roles.getD m [], if m = x.roles.length - 1 then x.role else jn (x.roles.take (m + 1))⟩
theorem rulesA_eq (x : Ax) : rulesA x = (List.range' 1 (x.roles.length - 1)).map (ruleAt x) := by
 rw [rulesA, List.range_eq_range', List.range'_eq_map_range, List.range'_eq_map_range]
 simp only [List.map_map]
 refine List.map_congr_left fun a _ => ?_
 simp only [ruleAt, Function.comp_apply, Nat.mul_one, Nat.add_comm 1 a, Nat.add_assoc, Nat.zero_add]
theorem c_join46 (rs : List (List UInt8)) (h1 : rs.length ≤ 4) (h2 : ∀ r ∈ rs, r.length ≤ 600) (s : St) (cx : Ctx) : acallW P0 (.fn (.func F_strings_Join) [] []) [.sl (rs.map .s), .s [46]] s cx = .ret (.s (jn rs)) s := by
 refine c_strings_Join rs [46] ?_ (by omega) s cx
 have hb : ∀ rs : List (List UInt8), (∀ r ∈ rs, r.length ≤ 600) → (rs.flatMap fun y => [(46 : UInt8)] ++ y).length ≤ rs.length * 601 := by
  intro rs
  induction rs with
  | nil => intro _; simp
  | cons a r ih =>
   intro h
   have h3 := h a (by simp)
   have := ih fun q hq => h q (by simp [hq])
   simp only [List.flatMap_cons, List.length_append, List.length_cons, List.length_nil] at this ⊢
   omega
 cases rs with
 | nil => simp [joinL]
 | cons a r =>
  have h3 := h2 a (by simp)
  have := hb r fun q hq => h2 q (by simp [hq])
  simp only [joinL, List.length_append]
  simp only [List.length_cons] at h1
  omega
def Few4 (n : Nat) (R : RT) : Prop := ∀ p ∈ R, p.vals.length ≤ n ∧ (∀ v ∈ p.vals, v.cells.length = if p.tag = 1 ∨ p.tag = 2 then 3 else 1)
theorem few4_add {n : Nat} {j : Nat} {k : List UInt8} {v : AV} (hv : v.cells.length = if j = 1 ∨ j = 2 then 3 else 1) : ∀ {R : RT}, Few4 n R → Few4 (n + 1) (addT j R k v)
 | [], _, p, hp => by
  simp only [addT, List.mem_singleton] at hp
  subst hp
  exact ⟨by simp, fun w hw => by simp only [List.mem_singleton] at hw; subst hw; exact hv⟩
 | q :: R, h, p, hp => by
  have hq := h q (by simp)
  have ih := few4_add (k := k) hv (R := R) fun p hp => h p (by simp [hp])
  by_cases hk : q.tag = j ∧ q.key = k
  ·simp only [addT, hk, and_self, if_true, List.mem_cons] at hp
   rcases hp with rfl | hp
   ·refine ⟨by simp only [List.length_append, List.length_cons, List.length_nil]; omega, fun w hw => ?_⟩
    rcases List.mem_append.1 hw with hw | hw
    ·have := hq.2 w hw; rw [hk.1] at this; exact this
    ·simp only [List.mem_singleton] at hw; subst hw; exact hv
   ·have := h p (by simp [hp]); exact ⟨by omega, this.2⟩
  ·simp only [addT, hk, if_false, List.mem_cons] at hp
   rcases hp with rfl | hp
   ·exact ⟨by omega, hq.2⟩
   ·exact ih p hp
theorem rowsO_app (G1 G2 : RT) (p : RowT) : rowsO (G1 ++ p :: G2) = rowsO G1 ++ rowO p :: rowsO G2 := by simp [rowsO]
theorem rowsO_end (G : RT) (p : RowT) : rowsO (G ++ [p]) = rowsO G ++ [rowO p] := by simp [rowsO]
def _root_.Go.Ai.ACode.blk : ACode → ACode | .block _ c => c | c => c
def _root_.Go.Ai.ACode.cth : ACode → ACode | .cond _ c _ => c | c => c
def _root_.Go.Ai.ACode.fs : ACode → ACode | .seq a _ => a | c => c
def _root_.Go.Ai.ACode.sn : ACode → ACode | .seq _ a => a | c => c
def newGA : ACode := ir_roles_newGrammar_L1.sn.fs.blk.sn.sn.sn.cth.sn.fs
def newGB : ACode := ir_roles_newGrammar_L1.sn.fs.blk.sn.sn.sn.cth.sn.sn
theorem newG_A (s : St) (cx : Ctx) (hcx : cx.lim ≤ s.length ∧ cx.base ≤ s.length) (p : Rul) (R : RT) (S : List Rul) (n : Nat) (hn : n ≤ 100000) (hR : Few4 n R) (x2 rv : AV) (c6 : List AV) (a14 : AV) (m i1 i2 : Int) (b2 : List AV) :
  acodeW P0.glob (acallW P0) cx false newGA [(2, .bx b2), (3, .bx [.mp s.length, .mp (s.length + 1), .mp (s.length + 2), rv]), (4, .v (.mp (s.length + 3))), (6, .bx c6), (7, .v (.i .i64 m)), (8, .bx [.s p.first, .s p.second, .s p.role]), (14, .v a14), (15, .v (.i .i64 i1)), (16, .v (.i .i64 i2))] (gHeap s R S) =
   .norm [(2, .bx b2), (3, .bx [.mp s.length, .mp (s.length + 1), .mp (s.length + 2), rv]), (4, .v (.mp (s.length + 3))), (6, .bx c6), (7, .v (.i .i64 m)), (8, .bx [.s p.first, .s p.second, .s p.role]), (14, .v a14), (15, .v (.i .i64 i1)), (16, .v (.i .i64 i2))] (gHeap s (addT 1 R p.first (encR p)) S) := by
 rcases app_tag s 1 R p.first (encR p) S with ⟨_, G1, vs, G2, e1, e2, e3⟩ | ⟨hnn, e3⟩
 ·subst e1
  have h0 := esT_add_ne (j := 1) (j' := 0) (by decide) (k := p.first) (v := encR p) (G1 ++ ⟨1, p.first, vs⟩ :: G2) (s.length + 4)
  have h2 := esT_add_ne (j := 1) (j' := 2) (by decide) (k := p.first) (v := encR p) (G1 ++ ⟨1, p.first, vs⟩ :: G2) (s.length + 4)
  rw [e3] at h0 h2
  obtain ⟨hv1, hv2⟩ := hR ⟨1, p.first, vs⟩ (by simp)
  simp at hv1 hv2
  have hv3 : (∀ (x : AV), x ∈ vs → x.cells.length = 3) = True := eq_true hv2
  have f1 := findT_old (vs := vs) (G2 := G2) (s.length + 4) e2
  have f2 := mputT_old (vs := vs) (ws := vs ++ [encR p]) (G2 := G2) (s.length + 4) e2
  have k1 : ∀ ws, rowO ⟨1, p.first, ws⟩ = .row T_roles_rule_1 3 ws.length := fun ws => by simp [rowO]
  have f3 := fun a b c d => st4_row (s := s) (r1 := rowsO G1) (r2 := rowsO G2) (a := a) (b := b) (c := c) (d := d) (x := .row T_roles_rule_1 3 vs.length)
  have f4 := fun a b c d => st4_rowset (s := s) (r1 := rowsO G1) (r2 := rowsO G2) (a := a) (b := b) (c := c) (d := d) (x := .row T_roles_rule_1 3 vs.length) (y := .row T_roles_rule_1 3 (vs.length + 1))
  have m1 : vs.length + 1 ≤ maxSl := by unfold maxSl; omega
  have hlim : cx.lim ≤ s.length + 4 + G1.length := by omega
  have hl1 : cx.lim ≤ s.length + 1 := by omega
  have hl2 : cx.base ≤ s.length + 1 := by omega
  simp only [rowsO_len] at f3 f4
  rw [e3]
  unfold gHeap
  rw [rowsO_app, rowsO_app, k1, k1, h0, h2]
  rw [show vs ++ [encR p] = vs ++ [AV.ag [.s p.first, .s p.second, .s p.role]] from rfl] at f2 ⊢
  simp [newGA, ACode.sn, ACode.fs, ACode.blk, ACode.cth, ir_roles_newGrammar_L1, f1, f2, f3, f4, m1, hlim, hl1, hl2, hv3, keyK]
 ·have h0 := esT_add_ne (j := 1) (j' := 0) (by decide) (k := p.first) (v := encR p) R (s.length + 4)
  have h2 := esT_add_ne (j := 1) (j' := 2) (by decide) (k := p.first) (v := encR p) R (s.length + 4)
  rw [e3] at h0 h2
  have f1 := findT_new (s.length + 4) hnn
  have f2 := mputT_new (vs := [encR p]) (s.length + 4) hnn
  have k1 : ∀ ws, rowO ⟨1, p.first, ws⟩ = .row T_roles_rule_1 3 ws.length := fun ws => by simp [rowO]
  have m1 : 1 ≤ maxSl := by unfold maxSl; omega
  have hl1 : cx.lim ≤ s.length + 1 := by omega
  have hl2 : cx.base ≤ s.length + 1 := by omega
  rw [e3]
  unfold gHeap
  rw [rowsO_end, k1, h0, h2]
  rw [show [encR p] = [AV.ag [.s p.first, .s p.second, .s p.role]] from rfl] at f2 ⊢
  rw [show s.length + 4 + R.length = s.length + (R.length + 1 + 1 + 1 + 1) by omega] at f2
  simp [newGA, ACode.sn, ACode.fs, ACode.blk, ACode.cth, ir_roles_newGrammar_L1, f1, f2, m1, hl1, hl2, keyK]
end Go.Ai.Z
namespace Go.Ai.Z
theorem newG_B (s : St) (cx : Ctx) (hcx : cx.lim ≤ s.length ∧ cx.base ≤ s.length) (p : Rul) (R : RT) (S : List Rul) (n : Nat) (hn : n ≤ 100000) (hR : Few4 n R) (x2 rv : AV) (c6 : List AV) (a14 : AV) (m i1 i2 : Int) (b2 : List AV) :
  acodeW P0.glob (acallW P0) cx false newGB [(2, .bx b2), (3, .bx [.mp s.length, .mp (s.length + 1), .mp (s.length + 2), rv]), (4, .v (.mp (s.length + 3))), (6, .bx c6), (7, .v (.i .i64 m)), (8, .bx [.s p.first, .s p.second, .s p.role]), (14, .v a14), (15, .v (.i .i64 i1)), (16, .v (.i .i64 i2))] (gHeap s R S) =
   .norm [(2, .bx b2), (3, .bx [.mp s.length, .mp (s.length + 1), .mp (s.length + 2), rv]), (4, .v (.mp (s.length + 3))), (6, .bx c6), (7, .v (.i .i64 m)), (14, .v a14), (15, .v (.i .i64 i1)), (16, .v (.i .i64 i2))] (gHeap s (addT 2 R p.second (encR p)) S) := by
 rcases app_tag s 2 R p.second (encR p) S with ⟨_, G1, vs, G2, e1, e2, e3⟩ | ⟨hnn, e3⟩
 ·subst e1
  have h0 := esT_add_ne (j := 2) (j' := 0) (by decide) (k := p.second) (v := encR p) (G1 ++ ⟨2, p.second, vs⟩ :: G2) (s.length + 4)
  have h2 := esT_add_ne (j := 2) (j' := 1) (by decide) (k := p.second) (v := encR p) (G1 ++ ⟨2, p.second, vs⟩ :: G2) (s.length + 4)
  rw [e3] at h0 h2
  obtain ⟨hv1, hv2⟩ := hR ⟨2, p.second, vs⟩ (by simp)
  simp at hv1 hv2
  have hv3 : (∀ (x : AV), x ∈ vs → x.cells.length = 3) = True := eq_true hv2
  have f1 := findT_old (vs := vs) (G2 := G2) (s.length + 4) e2
  have f2 := mputT_old (vs := vs) (ws := vs ++ [encR p]) (G2 := G2) (s.length + 4) e2
  have k1 : ∀ ws, rowO ⟨2, p.second, ws⟩ = .row T_roles_rule_1 3 ws.length := fun ws => by simp [rowO]
  have f3 := fun a b c d => st4_row (s := s) (r1 := rowsO G1) (r2 := rowsO G2) (a := a) (b := b) (c := c) (d := d) (x := .row T_roles_rule_1 3 vs.length)
  have f4 := fun a b c d => st4_rowset (s := s) (r1 := rowsO G1) (r2 := rowsO G2) (a := a) (b := b) (c := c) (d := d) (x := .row T_roles_rule_1 3 vs.length) (y := .row T_roles_rule_1 3 (vs.length + 1))
  have m1 : vs.length + 1 ≤ maxSl := by unfold maxSl; omega
  have hlim : cx.lim ≤ s.length + 4 + G1.length := by omega
  have hl1 : cx.lim ≤ s.length + 2 := by omega
  have hl2 : cx.base ≤ s.length + 2 := by omega
  simp only [rowsO_len] at f3 f4
  rw [e3]
  unfold gHeap
  rw [rowsO_app, rowsO_app, k1, k1, h0, h2]
  rw [show vs ++ [encR p] = vs ++ [AV.ag [.s p.first, .s p.second, .s p.role]] from rfl] at f2 ⊢
  simp [newGB, ACode.sn, ACode.fs, ACode.blk, ACode.cth, ir_roles_newGrammar_L1, f1, f2, f3, f4, m1, hlim, hl1, hl2, hv3, keyK]
 ·have h0 := esT_add_ne (j := 2) (j' := 0) (by decide) (k := p.second) (v := encR p) R (s.length + 4)
  have h2 := esT_add_ne (j := 2) (j' := 1) (by decide) (k := p.second) (v := encR p) R (s.length + 4)
  rw [e3] at h0 h2
  have f1 := findT_new (s.length + 4) hnn
  have f2 := mputT_new (vs := [encR p]) (s.length + 4) hnn
  have k1 : ∀ ws, rowO ⟨2, p.second, ws⟩ = .row T_roles_rule_1 3 ws.length := fun ws => by simp [rowO]
  have m1 : 1 ≤ maxSl := by unfold maxSl; omega
  have hl1 : cx.lim ≤ s.length + 2 := by omega
  have hl2 : cx.base ≤ s.length + 2 := by omega
  rw [e3]
  unfold gHeap
  rw [rowsO_end, k1, h0, h2]
  rw [show [encR p] = [AV.ag [.s p.first, .s p.second, .s p.role]] from rfl] at f2 ⊢
  rw [show s.length + 4 + R.length = s.length + (R.length + 1 + 1 + 1 + 1) by omega] at f2
  simp [newGB, ACode.sn, ACode.fs, ACode.blk, ACode.cth, ir_roles_newGrammar_L1, f1, f2, m1, hl1, hl2, keyK]
def _root_.Go.Ai.ACode.cel : ACode → ACode | .cond _ _ c => c | c => c
def newGU : ACode := ir_roles_newGrammar_L0.sn.sn.fs.blk.sn.sn.blk.sn.cth
def newGR : ACode := ir_roles_newGrammar_L0.sn.sn.fs.blk.sn.sn.blk.sn.cel.sn.cth
theorem cellT_old {j : Nat} {k : List UInt8} {vs : List AV} {G2 : RT} : ∀ {G1 : RT} (b : Nat), ¬ HasT j G1 k → cellT j b (G1 ++ ⟨j, k, vs⟩ :: G2) k = .st (b + G1.length) vs
 | [], b, _ => by simp [cellT]
 | p :: G, b, h => by
  have h1 : ¬ (p.tag = j ∧ p.key = k) := fun e => h ⟨p, by simp, e⟩
  have ih := cellT_old (vs := vs) (G2 := G2) (G1 := G) (b + 1) fun ⟨q, hq, e⟩ => h ⟨q, by simp [hq], e⟩
  simp only [List.cons_append, cellT, if_neg h1, ih, List.length_cons]
  rw [show b + 1 + G.length = b + (G.length + 1) by omega]
theorem cellT_new {j : Nat} {k : List UInt8} : ∀ {G : RT} (b : Nat), ¬ HasT j G k → cellT j b G k = .ns
 | [], b, _ => rfl
 | p :: G, b, h => by
  have h1 : ¬ (p.tag = j ∧ p.key = k) := fun e => h ⟨p, by simp, e⟩
  have ih := cellT_new (G := G) (b + 1) fun ⟨q, hq, e⟩ => h ⟨q, by simp [hq], e⟩
  simp only [cellT, if_neg h1, ih]
theorem newG_U (s : St) (cx : Ctx) (hcx : cx.lim ≤ s.length ∧ cx.base ≤ s.length) (r0 role : List UInt8) (R : RT) (S : List Rul) (n : Nat) (hn : n ≤ 100000) (hR : Few4 n R) (rv : AV) (cs : List AV) (h12 : cs[12]? = some (.sl [.s r0])) (h13 : cs[13]? = some (.s role)) (a14 : AV) (k i1 i2 : Int) (b2 : List AV) :
  acodeW P0.glob (acallW P0) cx false newGU [(2, .bx b2), (3, .bx [.mp s.length, .mp (s.length + 1), .mp (s.length + 2), rv]), (4, .v (.mp (s.length + 3))), (6, .bx cs), (14, .v a14), (15, .v (.i .i64 i1)), (16, .v (.i .i64 i2)), (21, .v (.i .i64 k)), (22, .v (.b true))] (gHeap s R S) =
   .norm [(2, .bx b2), (3, .bx [.mp s.length, .mp (s.length + 1), .mp (s.length + 2), rv]), (4, .v (.mp (s.length + 3))), (14, .v a14), (15, .v (.i .i64 i1)), (16, .v (.i .i64 i2))] (gHeap s (addT 0 R r0 (.s role)) S) := by
 rcases app_tag s 0 R r0 (.s role) S with ⟨_, G1, vs, G2, e1, e2, e3⟩ | ⟨hnn, e3⟩
 ·subst e1
  have h0 := esT_add_ne (j := 0) (j' := 1) (by decide) (k := r0) (v := .s role) (G1 ++ ⟨0, r0, vs⟩ :: G2) (s.length + 4)
  have h2 := esT_add_ne (j := 0) (j' := 2) (by decide) (k := r0) (v := .s role) (G1 ++ ⟨0, r0, vs⟩ :: G2) (s.length + 4)
  rw [e3] at h0 h2
  obtain ⟨hv1, hv2⟩ := hR ⟨0, r0, vs⟩ (by simp)
  simp at hv1 hv2
  have hv3 : (∀ (x : AV), x ∈ vs → x.cells.length = 1) = True := eq_true hv2
  have f1 := findT_old (vs := vs) (G2 := G2) (s.length + 4) e2
  have f2 := mputT_old (vs := vs) (ws := vs ++ [.s role]) (G2 := G2) (s.length + 4) e2
  have k1 : ∀ ws, rowO ⟨0, r0, ws⟩ = .row T_string_0 1 ws.length := fun ws => by simp [rowO]
  have f3 := fun a b c d => st4_row (s := s) (r1 := rowsO G1) (r2 := rowsO G2) (a := a) (b := b) (c := c) (d := d) (x := .row T_string_0 1 vs.length)
  have f4 := fun a b c d => st4_rowset (s := s) (r1 := rowsO G1) (r2 := rowsO G2) (a := a) (b := b) (c := c) (d := d) (x := .row T_string_0 1 vs.length) (y := .row T_string_0 1 (vs.length + 1))
  have m1 : vs.length + 1 ≤ maxSl := by unfold maxSl; omega
  have hlim : cx.lim ≤ s.length + 4 + G1.length := by omega
  simp only [rowsO_len] at f3 f4
  rw [e3]
  unfold gHeap
  rw [rowsO_app, rowsO_app, k1, k1, h0, h2]
  simp [newGU, ACode.sn, ACode.fs, ACode.blk, ACode.cth, ir_roles_newGrammar_L0, h12, h13, f1, f2, f3, f4, m1, hlim, hcx.1, hcx.2, hv3, keyK]
 ·have h0 := esT_add_ne (j := 0) (j' := 1) (by decide) (k := r0) (v := .s role) R (s.length + 4)
  have h2 := esT_add_ne (j := 0) (j' := 2) (by decide) (k := r0) (v := .s role) R (s.length + 4)
  rw [e3] at h0 h2
  have f1 := findT_new (s.length + 4) hnn
  have f2 := mputT_new (vs := [.s role]) (s.length + 4) hnn
  have k1 : ∀ ws, rowO ⟨0, r0, ws⟩ = .row T_string_0 1 ws.length := fun ws => by simp [rowO]
  have m1 : 1 ≤ maxSl := by unfold maxSl; omega
  rw [e3]
  unfold gHeap
  rw [rowsO_end, k1, h0, h2]
  rw [show s.length + 4 + R.length = s.length + (R.length + 1 + 1 + 1 + 1) by omega] at f2
  simp [newGU, ACode.sn, ACode.fs, ACode.blk, ACode.cth, ir_roles_newGrammar_L0, h12, h13, f1, f2, m1, hcx.1, hcx.2, keyK]
theorem newG_R (s : St) (cx : Ctx) (hcx : cx.lim ≤ s.length ∧ cx.base ≤ s.length) (role : List UInt8) (R : RT) (S : List Rul) (n : Nat) (hn : n ≤ 100000) (hR : Few4 n R) (cs : List AV) (h13 : cs[13]? = some (.s role)) (a14 : AV) (k i1 i2 : Int) (b2 : List AV) :
  acodeW P0.glob (acallW P0) cx false newGR [(2, .bx b2), (3, .bx [.mp s.length, .mp (s.length + 1), .mp (s.length + 2), cellT 3 (s.length + 4) R []]), (4, .v (.mp (s.length + 3))), (6, .bx cs), (14, .v a14), (15, .v (.i .i64 i1)), (16, .v (.i .i64 i2)), (21, .v (.i .i64 k)), (41, .v (.b true))] (gHeap s R S) =
   .norm [(2, .bx b2), (3, .bx [.mp s.length, .mp (s.length + 1), .mp (s.length + 2), cellT 3 (s.length + 4) (addT 3 R [] (.s role)) []]), (4, .v (.mp (s.length + 3))), (14, .v a14), (15, .v (.i .i64 i1)), (16, .v (.i .i64 i2))] (gHeap s (addT 3 R [] (.s role)) S) := by
 have q0 := esT_add_ne (j := 3) (j' := 0) (by decide) (k := []) (v := .s role) R (s.length + 4)
 have q1 := esT_add_ne (j := 3) (j' := 1) (by decide) (k := []) (v := .s role) R (s.length + 4)
 have q2 := esT_add_ne (j := 3) (j' := 2) (by decide) (k := []) (v := .s role) R (s.length + 4)
 rcases app_tag s 3 R [] (.s role) S with ⟨_, G1, vs, G2, e1, e2, e3⟩ | ⟨hnn, e3⟩
 ·subst e1
  rw [e3] at q0 q1 q2
  obtain ⟨hv1, hv2⟩ := hR ⟨3, [], vs⟩ (by simp)
  simp at hv1 hv2
  have hv3 : (∀ (x : AV), x ∈ vs → x.cells.length = 1) = True := eq_true hv2
  have f1 := cellT_old (vs := vs) (G2 := G2) (s.length + 4) e2
  have f2 := cellT_old (vs := vs ++ [.s role]) (G2 := G2) (s.length + 4) e2
  have k1 : ∀ ws, rowO ⟨3, [], ws⟩ = .row T_string_0 1 ws.length := fun ws => by simp [rowO]
  have f3 := fun a b c d => st4_row (s := s) (r1 := rowsO G1) (r2 := rowsO G2) (a := a) (b := b) (c := c) (d := d) (x := .row T_string_0 1 vs.length)
  have f4 := fun a b c d => st4_rowset (s := s) (r1 := rowsO G1) (r2 := rowsO G2) (a := a) (b := b) (c := c) (d := d) (x := .row T_string_0 1 vs.length) (y := .row T_string_0 1 (vs.length + 1))
  have m1 : vs.length + 1 ≤ maxSl := by unfold maxSl; omega
  have hlim : cx.lim ≤ s.length + 4 + G1.length := by omega
  simp only [rowsO_len] at f3 f4
  rw [e3, f1, f2]
  unfold gHeap
  rw [rowsO_app, rowsO_app, k1, k1, q0, q1, q2]
  simp [newGR, ACode.sn, ACode.fs, ACode.blk, ACode.cth, ACode.cel, ir_roles_newGrammar_L0, h13, f3, f4, m1, hlim, hcx.1, hcx.2, hv3]
 ·rw [e3] at q0 q1 q2
  have f1 := cellT_new (s.length + 4) hnn
  have f2 := cellT_old (vs := [.s role]) (G2 := []) (s.length + 4) hnn
  have k1 : ∀ ws, rowO ⟨3, [], ws⟩ = .row T_string_0 1 ws.length := fun ws => by simp [rowO]
  have m1 : 1 ≤ maxSl := by unfold maxSl; omega
  rw [e3, f1, f2]
  unfold gHeap
  rw [rowsO_end, k1, q0, q1, q2]
  rw [show s.length + 4 + R.length = s.length + (R.length + 1 + 1 + 1 + 1) by omega]
  simp [newGR, ACode.sn, ACode.fs, ACode.blk, ACode.cth, ACode.cel, ir_roles_newGrammar_L0, h13, m1, hcx.1, hcx.2]
end Go.Ai.Z
