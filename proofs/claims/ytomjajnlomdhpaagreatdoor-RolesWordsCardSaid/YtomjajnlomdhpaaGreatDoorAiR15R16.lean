/-
  roles.newGrammar: the contract.
-/
import Derived.Test.YtomjajnlomdhpaaGreatDoorAiR13R14
set_option maxRecDepth 100000
set_option linter.unusedSimpArgs false
set_option linter.unusedVariables false
namespace Go.Ai.Z
theorem val0_rule {p : Rul} {st : RT × List Rul} {j : Nat} (h1 : 1 ≠ j) (h2 : 2 ≠ j) {k : List UInt8} : valT j (addRule st p).1 k = valT j st.1 k := by
  unfold addRule
  split
  · rfl
  · rw [valT_add, if_neg (by simp [h2]), valT_add, if_neg (by simp [h1])]
theorem val0_fold {j : Nat} (h1 : 1 ≠ j) (h2 : 2 ≠ j) {k : List UInt8} : ∀ {L : List Rul} {st : RT × List Rul}, valT j (L.foldl addRule st).1 k = valT j st.1 k
  | [], _ => rfl
  | p :: L, st => by simp only [List.foldl_cons]; rw [val0_fold h1 h2, val0_rule h1 h2]
theorem val_0 {k : List UInt8} : ∀ (l : List Ax) (st : RT × List Rul), valT 0 (l.foldl grA st).1 k = valT 0 st.1 k ++ ((edU l).filter fun p => decide (p.1 = k)).map fun p => .s p.2
  | [], st => by simp [edU]
  | x :: l, st => by
    simp only [List.foldl_cons]
    rw [val_0 l]
    by_cases h5 : x.kind = 5
    · rw [edU_cons5 h5]
      simp only [grA, h5, if_true]
      rw [valT_add]
      generalize x.roles.headD [] = r
      by_cases hk : r = k
      · rw [if_pos ⟨rfl, hk⟩]; simp [hk]
      · rw [if_neg (by simp [hk])]; simp [hk]
    · rw [edU_consN h5]
      congr 1
      simp only [grA, if_neg h5]
      split
      · rw [valT_add, if_neg (by simp)]
      · split
        · exact val0_fold (by decide) (by decide)
        · rfl
theorem val_3 : ∀ (l : List Ax) (st : RT × List Rul), valT 3 (l.foldl grA st).1 [] = valT 3 st.1 [] ++ (reflA l).map .s
  | [], st => by simp [reflA]
  | x :: l, st => by
    simp only [List.foldl_cons]
    rw [val_3 l]
    by_cases h7 : x.kind = 7
    · have h5 : ¬ x.kind = 5 := by omega
      have : reflA (x :: l) = x.role :: reflA l := by simp [reflA, h7]
      rw [this]
      simp only [grA, if_neg h5, if_pos h7]
      rw [valT_add, if_pos ⟨rfl, rfl⟩]; simp
    · have : reflA (x :: l) = reflA l := by simp [reflA, h7]
      rw [this]
      congr 1
      simp only [grA, if_neg h7]
      split
      · rw [valT_add, if_neg (by simp)]
      · split
        · exact val0_fold (by decide) (by decide)
        · rfl
def RInv (st : RT × List Rul) : Prop := ∀ k, valT 1 st.1 k = ((st.2.filter fun p => decide (p.first = k)).map encR) ∧ valT 2 st.1 k = ((st.2.filter fun p => decide (p.second = k)).map encR)
theorem rinv_rule {st : RT × List Rul} {p : Rul} (h : RInv st) : RInv (addRule st p) := by
  unfold addRule
  split
  · exact h
  · intro k
    obtain ⟨h1, h2⟩ := h k
    simp only
    refine ⟨?_, ?_⟩
    · rw [valT_add, if_neg (by simp), valT_add, h1]
      by_cases hk : p.first = k <;> simp [hk]
    · have hh : valT 2 (addT 1 st.1 p.first (encR p)) k = valT 2 st.1 k := by rw [valT_add, if_neg (by simp)]
      rw [valT_add, hh, h2]
      by_cases hk : p.second = k <;> simp [hk]
theorem rinv_fold : ∀ {L : List Rul} {st : RT × List Rul}, RInv st → RInv (L.foldl addRule st)
  | [], _, h => h
  | p :: L, st, h => rinv_fold (L := L) (rinv_rule h)
theorem rinv_add {st : RT × List Rul} (h : RInv st) {j : Nat} (h1 : j ≠ 1) (h2 : j ≠ 2) {k : List UInt8} {v : AV} : RInv (addT j st.1 k v, st.2) := fun x => by
  simp only
  rw [valT_add, valT_add, if_neg (by simp [h1]), if_neg (by simp [h2])]
  exact h x
theorem rinv_gr : ∀ {l : List Ax} {st : RT × List Rul}, RInv st → RInv (l.foldl grA st)
  | [], _, h => h
  | x :: l, st, h => by
    simp only [List.foldl_cons]
    refine rinv_gr ?_
    unfold grA
    split
    · exact rinv_add h (by decide) (by decide)
    · split
      · exact rinv_add h (by decide) (by decide)
      · split
        · exact rinv_fold h
        · exact h
theorem mem_rule {st : RT × List Rul} {p q : Rul} : q ∈ (addRule st p).2 ↔ q ∈ st.2 ∨ q = p := by
  unfold addRule
  split
  · rename_i h
    constructor
    · exact .inl
    · rintro (h' | rfl)
      · exact h'
      · exact h
  · simp
theorem mem_fold {q : Rul} : ∀ {L : List Rul} {st : RT × List Rul}, q ∈ (L.foldl addRule st).2 ↔ q ∈ st.2 ∨ q ∈ L
  | [], st => by simp
  | p :: L, st => by
    simp only [List.foldl_cons]
    rw [mem_fold, mem_rule]; simp [or_assoc]
theorem mem_gr {q : Rul} : ∀ {l : List Ax} {st : RT × List Rul}, q ∈ (l.foldl grA st).2 ↔ q ∈ st.2 ∨ q ∈ rules l
  | [], st => by simp [rules]
  | x :: l, st => by
    simp only [List.foldl_cons]
    rw [mem_gr]
    have hr : q ∈ rules (x :: l) ↔ (x.kind = 6 ∧ q ∈ rulesA x) ∨ q ∈ rules l := by
      simp only [rules, List.flatMap_cons, List.mem_append]
      by_cases h6 : x.kind = 6 <;> simp [h6]
    rw [hr]
    unfold grA
    split
    · rename_i h5
      have : ¬ x.kind = 6 := by omega
      simp [this]
    · split
      · rename_i h7
        have : ¬ x.kind = 6 := by omega
        simp [this]
      · split
        · rename_i h6
          rw [mem_fold, ← rulesA_eq]; simp [h6, or_assoc]
        · rename_i h6
          simp [h6]
def esF (j : Nat) (R : RT) : List (AV × AV) := (R.filter fun p => decide (p.tag = j)).map fun p => (.s p.key, .sl p.vals)
theorem frz1_st {S : St} {n m l : Nat} {es : List AV} (hl : n ≤ l) (hu : underL n es = true) : frz1 S n (m + 1) (.st l es) = some (.sl es) := by
  have h0 : (AV.st l es).under n = false := by simp; omega
  rw [frz1, if_neg (by rw [h0]; exact Bool.false_ne_true)]
  simp only [hu, if_true]
theorem frz_esT {S : St} {n m j : Nat} : ∀ {R : RT} {b : Nat}, n ≤ b → (∀ p ∈ R, underL n p.vals = true) → (esT j b R).mapM (frzP (frz1 S n (m + 1))) = some (esF j R)
  | [], _, _, _ => rfl
  | p :: R, b, hb, hu => by
    have ih := frz_esT (S := S) (m := m) (j := j) (R := R) (b := b + 1) (by omega) fun q hq => hu q (by simp [hq])
    by_cases ht : p.tag = j
    · have h1 : frz1 S n (m + 1) (.s p.key) = some (.s p.key) := by simp [frz1]
      have h2 := frz1_st (S := S) (m := m) hb (hu p (by simp))
      simp only [esT, ht, if_true, List.mapM_cons, frzP, h1, h2, ih]
      simp [esF, ht]
    · simp only [esT, ht, if_false, ih]
      simp [esF, ht]
theorem find_esF (j : Nat) (k : List UInt8) : ∀ R : RT, ∃ r, find 1 (.s k) (esF j R) = some r ∧ ((r = none ∧ valT j R k = []) ∨ r = some (.sl (valT j R k)))
  | [] => ⟨none, rfl, .inl ⟨rfl, rfl⟩⟩
  | p :: R => by
    obtain ⟨r, h1, h2⟩ := find_esF j k R
    by_cases ht : p.tag = j
    · by_cases hk : p.key = k
      · refine ⟨some (.sl p.vals), ?_, .inr ?_⟩
        · simp [esF, ht, hk, find, keyEq]
        · simp [valT, ht, hk]
      · have hk' : ¬ k = p.key := fun h => hk h.symm
        refine ⟨r, ?_, ?_⟩
        · simp only [esF] at h1 ⊢
          simp [ht, find, keyEq, hk', h1]
        · simpa [valT, ht, hk] using h2
    · refine ⟨r, ?_, ?_⟩
      · simp only [esF] at h1 ⊢
        simp [ht, h1]
      · simpa [valT, ht] using h2
end Go.Ai.Z
namespace Go.Ai.Z
def AllU (R : RT) : Prop := ∀ p ∈ R, ∀ n, underL n p.vals = true
theorem underL_app (n : Nat) : ∀ a b : List AV, underL n (a ++ b) = (underL n a && underL n b)
  | [], b => by simp
  | x :: a, b => by simp [underL_app n a b, Bool.and_assoc]
theorem allU_add {j : Nat} {k : List UInt8} {v : AV} (hv : ∀ n, v.under n = true) : ∀ {R : RT}, AllU R → AllU (addT j R k v)
  | [], _, p, hp, n => by
    simp only [addT, List.mem_singleton] at hp
    subst hp; simp [hv n]
  | q :: R, h, p, hp, n => by
    have ih := allU_add (k := k) (j := j) hv (R := R) fun p hp => h p (by simp [hp])
    by_cases hk : q.tag = j ∧ q.key = k
    · simp only [addT, hk, and_self, if_true, List.mem_cons] at hp
      rcases hp with rfl | hp
      · simp only [underL_app, h q (by simp) n, underL_cons, hv n, underL_nil]; rfl
      · exact h p (by simp [hp]) n
    · simp only [addT, hk, if_false, List.mem_cons] at hp
      rcases hp with rfl | hp
      · exact h p (by simp) n
      · exact ih p hp n
theorem allU_rule {p : Rul} {st : RT × List Rul} (h : AllU st.1) : AllU (addRule st p).1 := by
  unfold addRule
  split
  · exact h
  · exact allU_add (fun n => by simp [encR]) (allU_add (fun n => by simp [encR]) h)
theorem allU_fold : ∀ {L : List Rul} {st : RT × List Rul}, AllU st.1 → AllU (L.foldl addRule st).1
  | [], _, h => h
  | p :: L, st, h => allU_fold (L := L) (allU_rule h)
theorem allU_gr : ∀ {l : List Ax} {st : RT × List Rul}, AllU st.1 → AllU (l.foldl grA st).1
  | [], _, h => h
  | x :: l, st, h => by
    simp only [List.foldl_cons]
    refine allU_gr ?_
    unfold grA
    split
    · exact allU_add (fun n => by simp) h
    · split
      · exact allU_add (fun n => by simp) h
      · split
        · exact allU_fold h
        · exact h
theorem cellT_frz {S : St} {n m j : Nat} {k : List UInt8} : ∀ {R : RT} {b : Nat}, n ≤ b → AllU R → frz1 S n (m + 1) (cellT j b R k) = some (match cellT j b R k with | .ns => .ns | _ => .sl (valT j R k)) ∧ ((cellT j b R k = .ns ∧ valT j R k = []) ∨ ∃ l, cellT j b R k = .st l (valT j R k))
  | [], b, _, _ => ⟨by simp [cellT, frz1], .inl ⟨rfl, rfl⟩⟩
  | p :: R, b, hb, hu => by
    by_cases h : p.tag = j ∧ p.key = k
    · simp only [cellT, h, and_self, if_true, valT]
      exact ⟨frz1_st hb (hu p (by simp) n), .inr ⟨b, rfl⟩⟩
    · simp only [cellT, h, if_false, valT]
      exact cellT_frz (R := R) (by omega) fun q hq => hu q (by simp [hq])
def grR (l : List Ax) : RT := (l.foldl grA ([], [])).1
def grS (l : List Ax) : List Rul := (l.foldl grA ([], [])).2
def encG (l : List Ax) : AV := .ag [.im (esF 0 (grR l)), .im (esF 1 (grR l)), .im (esF 2 (grR l)), match valT 3 (grR l) [] with | [] => .ns | vs => .sl vs]
def NeT (R : RT) : Prop := ∀ p ∈ R, p.vals ≠ []
theorem ne_add {j : Nat} {k : List UInt8} {v : AV} : ∀ {R : RT}, NeT R → NeT (addT j R k v)
  | [], _, p, hp => by simp only [addT, List.mem_singleton] at hp; subst hp; simp
  | q :: R, h, p, hp => by
    have ih := ne_add (k := k) (j := j) (v := v) (R := R) fun p hp => h p (by simp [hp])
    by_cases hk : q.tag = j ∧ q.key = k
    · simp only [addT, hk, and_self, if_true, List.mem_cons] at hp
      rcases hp with rfl | hp
      · simp
      · exact h p (by simp [hp])
    · simp only [addT, hk, if_false, List.mem_cons] at hp
      rcases hp with rfl | hp
      · exact h p (by simp)
      · exact ih p hp
theorem ne_rule {p : Rul} {st : RT × List Rul} (h : NeT st.1) : NeT (addRule st p).1 := by
  unfold addRule
  split
  · exact h
  · exact ne_add (ne_add h)
theorem ne_fold : ∀ {L : List Rul} {st : RT × List Rul}, NeT st.1 → NeT (L.foldl addRule st).1
  | [], _, h => h
  | p :: L, st, h => ne_fold (L := L) (ne_rule h)
theorem ne_gr : ∀ {l : List Ax} {st : RT × List Rul}, NeT st.1 → NeT (l.foldl grA st).1
  | [], _, h => h
  | x :: l, st, h => by
    simp only [List.foldl_cons]
    refine ne_gr ?_
    unfold grA
    split
    · exact ne_add h
    · split
      · exact ne_add h
      · split
        · exact ne_fold h
        · exact h
theorem cellT_ne {j b : Nat} {k : List UInt8} : ∀ {R : RT}, NeT R → ∀ l, cellT j b R k = .st l (valT j R k) → valT j R k ≠ [] := by
  intro R
  induction R generalizing b with
  | nil => intro _ l h; simp [cellT] at h
  | cons p R ih =>
    intro hn l h
    by_cases hk : p.tag = j ∧ p.key = k
    · simp only [valT, hk, and_self, if_true]; exact hn p (by simp)
    · simp only [cellT, valT, hk, if_false] at h ⊢
      exact ih (fun q hq => hn q (by simp [hq])) l h
theorem cellT_one {j : Nat} {k : List UInt8} : ∀ {R : RT} {b : Nat}, (cellT j b R k).one = true
  | [], _ => rfl
  | p :: R, b => by
    simp only [cellT]
    split
    · rfl
    · exact cellT_one
theorem valT_u {j : Nat} {k : List UInt8} (n : Nat) : ∀ {R : RT}, AllU R → underL n (valT j R k) = true
  | [], _ => by simp [valT]
  | p :: R, h => by
    simp only [valT]
    split
    · exact h p (by simp) n
    · exact valT_u n fun q hq => h q (by simp [hq])
theorem gheap_ne (s : St) (R : RT) (S : List Rul) : ¬ (gHeap s R S).length = s.length := by simp [gHeap]
theorem gheap_0 (s : St) (R : RT) (S : List Rul) : (gHeap s R S)[s.length]? = some (.map (esT 0 (s.length + 4) R)) := st4_0
theorem gheap_1 (s : St) (R : RT) (S : List Rul) : (gHeap s R S)[s.length + 1]? = some (.map (esT 1 (s.length + 4) R)) := st4_1
theorem gheap_2 (s : St) (R : RT) (S : List Rul) : (gHeap s R S)[s.length + 2]? = some (.map (esT 2 (s.length + 4) R)) := st4_2
theorem frz_gr (s : St) (l : List Ax) : frz (gHeap s (grR l) (grS l)) s.length (.ag [.mp s.length, .mp (s.length + 1), .mp (s.length + 2), (cellT 3 (s.length + 4) (grR l) []).plain1]) = some (encG l) := by
  have hU : AllU (grR l) := allU_gr fun p hp => by cases hp
  have hN : NeT (grR l) := ne_gr fun p hp => by cases hp
  have u : ∀ k, (AV.mp (s.length + k)).under s.length = false := fun k => by simp [AV.under]
  have u0 : (AV.ag [.mp s.length, .mp (s.length + 1), .mp (s.length + 2), (cellT 3 (s.length + 4) (grR l) []).plain1]).under s.length = false := by
    have := u 0
    simp only [Nat.add_zero] at this
    simp [this]
  have hu := fun p hp => hU p hp s.length
  have m0 : frz1 (gHeap s (grR l) (grS l)) s.length 5 (.mp s.length) = some (.im (esF 0 (grR l))) := by
    have f := frz1_mp (m := 4) (u 0) (gheap_0 s (grR l) (grS l))
    simp only [Nat.add_zero] at f
    rw [show (5 : Nat) = 4 + 1 from rfl, f, frz_esT (m := 3) (by omega) hu]; rfl
  have m1 : frz1 (gHeap s (grR l) (grS l)) s.length 5 (.mp (s.length + 1)) = some (.im (esF 1 (grR l))) := by
    rw [show (5 : Nat) = 4 + 1 from rfl, frz1_mp (m := 4) (u 1) (gheap_1 s (grR l) (grS l)), frz_esT (m := 3) (by omega) hu]; rfl
  have m2 : frz1 (gHeap s (grR l) (grS l)) s.length 5 (.mp (s.length + 2)) = some (.im (esF 2 (grR l))) := by
    rw [show (5 : Nat) = 4 + 1 from rfl, frz1_mp (m := 4) (u 2) (gheap_2 s (grR l) (grS l)), frz_esT (m := 3) (by omega) hu]; rfl
  have c2 := (cellT_frz (S := gHeap s (grR l) (grS l)) (n := s.length) (m := 4) (j := 3) (k := []) (R := grR l) (b := s.length + 4) (by omega) hU).2
  have c1 : frz1 (gHeap s (grR l) (grS l)) s.length 5 (cellT 3 (s.length + 4) (grR l) []).plain1 = some (cellT 3 (s.length + 4) (grR l) []).plain1 := by
    have hv := valT_u (j := 3) (k := []) s.length hU
    rcases c2 with ⟨h1, _⟩ | ⟨q, h1⟩
    · rw [h1]; simp [frz1, AV.plain1]
    · rw [h1]; simp [frz1, AV.plain1, hv]
  unfold frz
  rw [if_neg (by rw [u0]; exact Bool.false_ne_true)]
  have e1 : ∀ cs : List AV, (AV.ag cs).under s.length = false → frz1 (gHeap s (grR l) (grS l)) s.length 6 (.ag cs) = (cs.mapM (frz1 (gHeap s (grR l) (grS l)) s.length 5)).map .ag := fun cs h => by
    rw [frz1, if_neg (by rw [h]; exact Bool.false_ne_true)]
  rw [e1 _ u0]
  simp only [List.mapM_cons, List.mapM_nil, m0, m1, m2, c1]
  rcases c2 with ⟨h1, h2⟩ | ⟨q, h1⟩
  · simp [encG, h1, h2, AV.plain1]
  · have hne := cellT_ne hN q h1
    cases hv : valT 3 (grR l) [] with
    | nil => exact absurd hv hne
    | cons a r => rw [h1, hv]; simp [encG, hv, AV.plain1]
theorem c_roles_newGrammar (z : Bool) (l : List Ax) (hl : l.length ≤ 1000) (hG : GrOK l) (s : St) (cx : Ctx) : acallW P0 (.fn (.func F_roles_newGrammar) [] []) [slf z (l.map encA)] s cx = .ret (encG l) s := by
  obtain ⟨j, h⟩ := l_newG0 s ⟨s.length, s.length⟩ ⟨Nat.le_refl _, Nat.le_refl _⟩ z l hl hG [.nm, .nm, .nm, .ns] l 0 0 [] [] rfl (fun p hp => by cases hp) (by omega)
  have hf := frz_gr s l
  refine go_roles_newGrammar (by simp) ?_
  have e0 : gHeap s [] [] = s ++ [.map [], .map [], .map [], .map []] := rfl
  have e1 : cellT 3 (s.length + 4) [] [] = .ns := rfl
  rw [e0, e1] at h
  rw [show (l.foldl grA ([], [])).1 = grR l from rfl, show (l.foldl grA ([], [])).2 = grS l from rfl] at h
  have ho : (cellT 3 (s.length + 4) (grR l) []).one = true := cellT_one
  generalize hc : cellT 3 (s.length + 4) (grR l) [] = rv at h hf ho
  simp at h
  simp [fillC, callFnW, ir_roles_newGrammar, h, hf, ho, gheap_ne]
end Go.Ai.Z
