/-
  Several maps in the heap, and their rows behind them: each row has a tag (its map) and a key.
-/
import Derived.Test.YtomjajnlomdhpaaGreatDoorAiR2R3
import Derived.Test.YtomjajnlomdhpaaGreatDoorAiWrdGrm
set_option maxRecDepth 100000
set_option linter.unusedSimpArgs false
set_option linter.unusedVariables false
namespace Go.Ai.Z
structure RowT where
  tag : Nat
  key : List UInt8
  vals : List AV
abbrev RT := List RowT
def esT (j : Nat) : Nat → RT → List (AV × AV)
  | _, [] => []
  | b, p :: G => if p.tag = j then (.s p.key, .st b p.vals) :: esT j (b + 1) G else esT j (b + 1) G
def valT (j : Nat) : RT → List UInt8 → List AV
  | [], _ => []
  | p :: G, k => if p.tag = j ∧ p.key = k then p.vals else valT j G k
def addT (j : Nat) : RT → List UInt8 → AV → RT
  | [], k, v => [⟨j, k, [v]⟩]
  | p :: G, k, v => if p.tag = j ∧ p.key = k then ⟨j, k, p.vals ++ [v]⟩ :: G else p :: addT j G k v
def HasT (j : Nat) (G : RT) (k : List UInt8) : Prop := ∃ p ∈ G, p.tag = j ∧ p.key = k
theorem valT_add (j j' : Nat) (k v x) : ∀ G : RT, valT j' (addT j G k v) x = if j = j' ∧ k = x then valT j' G x ++ [v] else valT j' G x
  | [] => by
    by_cases h : j = j' ∧ k = x <;> simp [addT, valT, h]
  | p :: G => by
    have ih := valT_add j j' k v x G
    by_cases h : p.tag = j ∧ p.key = k
    · obtain ⟨h1, h2⟩ := h
      by_cases h3 : j = j' ∧ k = x
      · obtain ⟨rfl, rfl⟩ := h3
        simp [addT, valT, h1, h2]
      · have h4 : ¬ (p.tag = j' ∧ p.key = x) := by rw [h1, h2]; exact h3
        simp only [addT, h1, h2, and_self, if_true, valT, h3, if_false]
    · by_cases h3 : j = j' ∧ k = x
      · obtain ⟨rfl, rfl⟩ := h3
        simp only [addT, valT, h, if_false, ih, and_self, if_true]
      · by_cases h4 : p.tag = j' ∧ p.key = x
        · rw [if_neg h3]
          simp only [addT, if_neg h]
          simp only [valT, if_pos h4]
        · simp only [addT, valT, h, if_false, h4, ih, h3]
theorem addT_new {j : Nat} {k : List UInt8} (v : AV) : ∀ {G : RT}, ¬ HasT j G k → addT j G k v = G ++ [⟨j, k, [v]⟩]
  | [], _ => rfl
  | p :: G, h => by
    have h1 : ¬ (p.tag = j ∧ p.key = k) := fun e => h ⟨p, by simp, e⟩
    have h2 : ¬ HasT j G k := fun ⟨q, hq, e⟩ => h ⟨q, by simp [hq], e⟩
    simp only [addT, h1, if_false, addT_new v h2, List.cons_append]
theorem addT_old {j : Nat} {k : List UInt8} (v : AV) : ∀ {G : RT}, HasT j G k → ∃ G1 vs G2, G = G1 ++ ⟨j, k, vs⟩ :: G2 ∧ ¬ HasT j G1 k ∧ addT j G k v = G1 ++ ⟨j, k, vs ++ [v]⟩ :: G2
  | [], h => by obtain ⟨q, hq, _⟩ := h; cases hq
  | p :: G, h => by
    by_cases h1 : p.tag = j ∧ p.key = k
    · refine ⟨[], p.vals, G, ?_, (fun ⟨q, hq, _⟩ => by cases hq), ?_⟩
      · obtain ⟨t, kk, vv⟩ := p
        obtain ⟨rfl, rfl⟩ := h1; rfl
      · simp only [addT, h1, and_self, if_true, List.nil_append]
    · have h2 : HasT j G k := by
        obtain ⟨q, hq, e⟩ := h
        rcases List.mem_cons.1 hq with rfl | hq
        · exact absurd e h1
        · exact ⟨q, hq, e⟩
      obtain ⟨G1, vs, G2, e1, e2, e3⟩ := addT_old v h2
      refine ⟨p :: G1, vs, G2, by rw [e1]; rfl, fun ⟨q, hq, e⟩ => ?_, ?_⟩
      · rcases List.mem_cons.1 hq with rfl | hq
        · exact h1 e
        · exact e2 ⟨q, hq, e⟩
      · simp only [addT, h1, if_false, e3, List.cons_append]
theorem findT_new {j : Nat} {k : List UInt8} : ∀ {G : RT} (b : Nat), ¬ HasT j G k → find 1 (.s k) (esT j b G) = some none
  | [], _, _ => rfl
  | p :: G, b, h => by
    have h2 : ¬ HasT j G k := fun ⟨q, hq, e⟩ => h ⟨q, by simp [hq], e⟩
    have ih := findT_new (b + 1) h2
    by_cases ht : p.tag = j
    · have h1 : ¬ k = p.key := fun e => h ⟨p, by simp, ht, e.symm⟩
      simp [esT, ht, find, keyEq, h1, ih]
    · simp [esT, ht, ih]
theorem findT_old {j : Nat} {k : List UInt8} {vs : List AV} {G2 : RT} : ∀ {G1 : RT} (b : Nat), ¬ HasT j G1 k → find 1 (.s k) (esT j b (G1 ++ ⟨j, k, vs⟩ :: G2)) = some (some (.st (b + G1.length) vs))
  | [], b, _ => by simp [esT, find, keyEq]
  | p :: G, b, h => by
    have h2 : ¬ HasT j G k := fun ⟨q, hq, e⟩ => h ⟨q, by simp [hq], e⟩
    have ih := findT_old (vs := vs) (G2 := G2) (b + 1) h2
    have e : b + 1 + G.length = b + (G.length + 1) := by omega
    rw [e] at ih
    by_cases ht : p.tag = j
    · have h1 : ¬ k = p.key := fun e => h ⟨p, by simp, ht, e.symm⟩
      simp [esT, ht, find, keyEq, h1, ih]
    · simp [esT, ht, ih]
theorem mputT_new {j : Nat} {k : List UInt8} {vs : List AV} : ∀ {G : RT} (b : Nat), ¬ HasT j G k → mput 1 (.s k) (.st (b + G.length) vs) (esT j b G) = some (esT j b (G ++ [⟨j, k, vs⟩]))
  | [], b, _ => by simp [esT, mput]
  | p :: G, b, h => by
    have h2 : ¬ HasT j G k := fun ⟨q, hq, e⟩ => h ⟨q, by simp [hq], e⟩
    have ih := mputT_new (vs := vs) (b + 1) h2
    have e : b + 1 + G.length = b + (G.length + 1) := by omega
    rw [e] at ih
    by_cases ht : p.tag = j
    · have h1 : ¬ k = p.key := fun e => h ⟨p, by simp, ht, e.symm⟩
      simp [esT, ht, mput, keyEq, h1, ih]
    · simp [esT, ht, ih]
theorem mputT_old {j : Nat} {k : List UInt8} {vs ws : List AV} {G2 : RT} : ∀ {G1 : RT} (b : Nat), ¬ HasT j G1 k → mput 1 (.s k) (.st (b + G1.length) ws) (esT j b (G1 ++ ⟨j, k, vs⟩ :: G2)) = some (esT j b (G1 ++ ⟨j, k, ws⟩ :: G2))
  | [], b, _ => by simp [esT, mput, keyEq]
  | p :: G, b, h => by
    have h2 : ¬ HasT j G k := fun ⟨q, hq, e⟩ => h ⟨q, by simp [hq], e⟩
    have ih := mputT_old (vs := vs) (ws := ws) (G2 := G2) (b + 1) h2
    have e : b + 1 + G.length = b + (G.length + 1) := by omega
    rw [e] at ih
    by_cases ht : p.tag = j
    · have h1 : ¬ k = p.key := fun e => h ⟨p, by simp, ht, e.symm⟩
      simp [esT, ht, mput, keyEq, h1, ih]
    · simp [esT, ht, ih]
theorem esT_add_ne {j j' : Nat} (hne : j ≠ j') {k : List UInt8} {v : AV} : ∀ (G : RT) (b : Nat), esT j' b (addT j G k v) = esT j' b G
  | [], b => by simp [addT, esT, hne]
  | p :: G, b => by
    have ih := esT_add_ne hne (k := k) (v := v) G (b + 1)
    by_cases h : p.tag = j ∧ p.key = k
    · have h1 : ¬ p.tag = j' := by rw [h.1]; exact hne
      simp only [addT, h, and_self, if_true, esT, hne, if_false, h1]
    · simp only [addT, h, if_false, esT, ih]
end Go.Ai.Z
namespace Go.Ai.Z
def encR (p : Rul) : AV := .ag [.s p.first, .s p.second, .s p.role]
@[simp] theorem plain_encR (p : Rul) : (encR p).plain = encR p := by simp [encR]
@[simp] theorem cells_encR (p : Rul) : (encR p).cells = [.s p.first, .s p.second, .s p.role] := rfl
def seenM (S : List Rul) : List (AV × AV) := S.map fun p => (encR p, .b true)
theorem key_encR (p q : Rul) : keyEq 6 (encR p) (encR q) = some (decide (p = q)) := by
  obtain ⟨a, b, c⟩ := p
  obtain ⟨a', b', c'⟩ := q
  simp only [encR, keyEq, strsEq]
  by_cases h1 : a = a' <;> by_cases h2 : b = b' <;> by_cases h3 : c = c' <;> simp [h1, h2, h3, strsEq]
theorem find_seen (p : Rul) : ∀ S : List Rul, find 6 (encR p) (seenM S) = some (if p ∈ S then some (.b true) else none)
  | [] => rfl
  | q :: S => by
    have ih := find_seen p S
    simp only [seenM] at ih ⊢
    simp only [List.map_cons, find, key_encR]
    by_cases h : p = q
    · simp [h]
    · simp [h, ih]
theorem mput_seen {p : Rul} : ∀ {S : List Rul}, p ∉ S → mput 6 (encR p) (.b true) (seenM S) = some (seenM (S ++ [p]))
  | [], _ => rfl
  | q :: S, h => by
    simp only [List.mem_cons, not_or] at h
    have ih := mput_seen (S := S) h.2
    simp only [seenM] at ih ⊢
    simp only [List.map_cons, mput, key_encR, h.1, decide_false, ih]
    simp
def rowO (p : RowT) : HObj := .row (if p.tag = 1 ∨ p.tag = 2 then T_roles_rule_1 else T_string_0) (if p.tag = 1 ∨ p.tag = 2 then 3 else 1) p.vals.length
def rowsO (R : RT) : St := R.map rowO
@[simp] theorem rowsO_len (R : RT) : (rowsO R).length = R.length := by simp [rowsO]
def cellT (j : Nat) : Nat → RT → List UInt8 → AV
  | _, [], _ => .ns
  | b, p :: R, k => if p.tag = j ∧ p.key = k then .st b p.vals else cellT j (b + 1) R k
theorem cellT_add_ne {j j' : Nat} (hne : j ≠ j') {k x : List UInt8} {v : AV} : ∀ (G : RT) (b : Nat), cellT j' b (addT j G k v) x = cellT j' b G x
  | [], b => by simp [addT, cellT, hne]
  | p :: G, b => by
    have ih := cellT_add_ne hne (k := k) (x := x) (v := v) G (b + 1)
    by_cases h : p.tag = j ∧ p.key = k
    · have h1 : ¬ p.tag = j' := by rw [h.1]; exact hne
      simp only [addT, h, and_self, if_true, cellT, hne, false_and, if_false, h1]
    · simp only [addT, h, if_false, cellT, ih]
def gHeap (s : St) (R : RT) (S : List Rul) : St := s ++ .map (esT 0 (s.length + 4) R) :: .map (esT 1 (s.length + 4) R) :: .map (esT 2 (s.length + 4) R) :: .map (seenM S) :: rowsO R
def addRule (st : RT × List Rul) (p : Rul) : RT × List Rul := if p ∈ st.2 then st else (addT 2 (addT 1 st.1 p.first (encR p)) p.second (encR p), st.2 ++ [p])
@[simp] theorem st4_0 {s r : St} {a b c d : HObj} : (s ++ a :: b :: c :: d :: r)[s.length]? = some a := by simp
@[simp] theorem st4_1 {s r : St} {a b c d : HObj} : (s ++ a :: b :: c :: d :: r)[s.length + 1]? = some b := by simp
@[simp] theorem st4_2 {s r : St} {a b c d : HObj} : (s ++ a :: b :: c :: d :: r)[s.length + 2]? = some c := by
  rw [List.getElem?_append_right (by omega)]; simp
@[simp] theorem st4_3 {s r : St} {a b c d : HObj} : (s ++ a :: b :: c :: d :: r)[s.length + 3]? = some d := by
  rw [List.getElem?_append_right (by omega)]; simp
@[simp] theorem st4_s0 {s r : St} {a b c d x : HObj} : (s ++ a :: b :: c :: d :: r).set s.length x = s ++ x :: b :: c :: d :: r := by simp
@[simp] theorem st4_s1 {s r : St} {a b c d x : HObj} : (s ++ a :: b :: c :: d :: r).set (s.length + 1) x = s ++ a :: x :: c :: d :: r := by
  rw [List.set_append, if_neg (by omega)]; simp
@[simp] theorem st4_s2 {s r : St} {a b c d x : HObj} : (s ++ a :: b :: c :: d :: r).set (s.length + 2) x = s ++ a :: b :: x :: d :: r := by
  rw [List.set_append, if_neg (by omega)]; simp
@[simp] theorem st4_s3 {s r : St} {a b c d x : HObj} : (s ++ a :: b :: c :: d :: r).set (s.length + 3) x = s ++ a :: b :: c :: x :: r := by
  rw [List.set_append, if_neg (by omega)]; simp
theorem st4_row {s r1 r2 : St} {a b c d x : HObj} : (s ++ a :: b :: c :: d :: (r1 ++ x :: r2))[s.length + 4 + r1.length]? = some x := by
  rw [show s.length + 4 + r1.length = s.length + (r1.length + 4) by omega, List.getElem?_append_right (by omega)]
  simp [show s.length + (r1.length + 4) - s.length = r1.length + 4 by omega]
theorem st4_rowset {s r1 r2 : St} {a b c d x y : HObj} : (s ++ a :: b :: c :: d :: (r1 ++ x :: r2)).set (s.length + 4 + r1.length) y = s ++ a :: b :: c :: d :: (r1 ++ y :: r2) := by
  rw [show s.length + 4 + r1.length = s.length + (r1.length + 4) by omega, List.set_append, if_neg (by omega), show s.length + (r1.length + 4) - s.length = r1.length + 4 by omega]
  simp
theorem app_tag (s : St) (j : Nat) (R : RT) (k : List UInt8) (v : AV) (S : List Rul) :
    (HasT j R k ∧ ∃ G1 vs G2, R = G1 ++ ⟨j, k, vs⟩ :: G2 ∧ ¬ HasT j G1 k ∧ addT j R k v = G1 ++ ⟨j, k, vs ++ [v]⟩ :: G2) ∨ (¬ HasT j R k ∧ addT j R k v = R ++ [⟨j, k, [v]⟩]) := by
  by_cases h : HasT j R k
  · exact .inl ⟨h, addT_old v h⟩
  · exact .inr ⟨h, addT_new v h⟩
end Go.Ai.Z
