/-
  roles.Compose: the contract.
-/
import Derived.Test.YtomjajnlomdhpaaGreatDoorAiR33R34
set_option maxRecDepth 100000
set_option linter.unusedSimpArgs false
set_option linter.unusedVariables false
namespace Go.Ai.Z
def kput (k : List UInt8) : List (List UInt8) → List (List UInt8)
  | [] => [k]
  | k' :: r => if k = k' then k :: r else if k < k' then k :: k' :: r else k' :: kput k r
def uM (K : List (List UInt8)) : List (List UInt8 × AV) := K.map fun k => (k, .b true)
theorem uput_uM (k : List UInt8) : ∀ K, uput k (.b true) (uM K) = uM (kput k K)
  | [] => rfl
  | k' :: r => by
    have ih := uput_uM k r
    simp only [uM] at ih
    simp only [uM, List.map_cons, uput, kput]
    split
    · rfl
    · split
      · rfl
      · rw [ih]; rfl
theorem mem_kput {k x : List UInt8} : ∀ {K}, x ∈ kput k K ↔ x = k ∨ x ∈ K
  | [] => by simp [kput]
  | k' :: r => by
    simp only [kput]
    split
    · rename_i h; subst h; simp
    · split
      · simp
      · simp only [List.mem_cons, mem_kput (K := r)]
        constructor
        · rintro (h | h | h)
          · exact .inr (.inl h)
          · exact .inl h
          · exact .inr (.inr h)
        · rintro (h | h | h)
          · exact .inr (.inl h)
          · exact .inl h
          · exact .inr (.inr h)
theorem srt_kput {k : List UInt8} : ∀ {K}, Srt K → Srt (kput k K)
  | [], _ => by simp [kput, Srt]
  | k' :: r, h => by
    obtain ⟨h1, h2⟩ := List.pairwise_cons.1 h
    simp only [kput]
    split
    · rename_i he; subst he; exact h
    · rename_i hne
      split
      · rename_i hlt
        refine List.pairwise_cons.2 ⟨fun z hz => ?_, h⟩
        rcases List.mem_cons.1 hz with rfl | hz
        · exact hlt
        · exact List.lt_trans hlt (h1 z hz)
      · rename_i hnlt
        have hk : k' < k := by
          rcases List.le_iff_lt_or_eq.1 (List.not_lt.1 hnlt) with h | h
          · exact h
          · exact absurd h.symm hne
        refine List.pairwise_cons.2 ⟨fun z hz => ?_, srt_kput h2⟩
        rcases mem_kput.1 hz with rfl | hz
        · exact hk
        · exact h1 z hz
def kputs (K ks : List (List UInt8)) : List (List UInt8) := ks.foldl (fun K k => kput k K) K
theorem mem_kputs {x : List UInt8} : ∀ {ks K : List (List UInt8)}, x ∈ kputs K ks ↔ x ∈ ks ∨ x ∈ K
  | [], K => by simp [kputs]
  | k :: ks, K => by
    show x ∈ kputs (kput k K) ks ↔ _
    rw [mem_kputs, mem_kput]
    simp only [List.mem_cons]
    constructor
    · rintro (h | h | h)
      · exact .inl (.inr h)
      · exact .inl (.inl h)
      · exact .inr h
    · rintro ((h | h) | h)
      · exact .inr (.inl h)
      · exact .inl h
      · exact .inr (.inr h)
theorem srt_kputs : ∀ {ks K : List (List UInt8)}, Srt K → Srt (kputs K ks)
  | [], _, h => h
  | k :: ks, K, h => srt_kputs (ks := ks) (srt_kput h)
def namesA (x : Ax) : List (List UInt8) := if x.kind = 5 ∨ x.kind = 6 ∨ x.kind = 7 then x.role :: x.roles else []
def candK (K : List (List UInt8)) (l : List Ax) : List (List UInt8) := l.foldl (fun K x => kputs K (namesA x)) K
theorem mem_candK {y : List UInt8} : ∀ {l : List Ax} {K : List (List UInt8)}, y ∈ candK K l ↔ (∃ x ∈ l, y ∈ namesA x) ∨ y ∈ K
  | [], K => by simp [candK]
  | x :: l, K => by
    show y ∈ candK (kputs K (namesA x)) l ↔ _
    rw [mem_candK, mem_kputs]
    constructor
    · rintro (⟨a, ha, h⟩ | h | h)
      · exact .inl ⟨a, by simp [ha], h⟩
      · exact .inl ⟨x, by simp, h⟩
      · exact .inr h
    · rintro (⟨a, ha, h⟩ | h)
      · rcases List.mem_cons.1 ha with rfl | ha
        · exact .inr (.inl h)
        · exact .inl ⟨a, ha, h⟩
      · exact .inr (.inr h)
theorem srt_candK : ∀ {l : List Ax} {K : List (List UInt8)}, Srt K → Srt (candK K l)
  | [], _, h => h
  | x :: l, K, h => srt_candK (l := l) (srt_kputs h)
theorem kput_len (k : List UInt8) : ∀ K, (kput k K).length ≤ K.length + 1
  | [] => by simp [kput]
  | k' :: r => by
    have := kput_len k r
    simp only [kput]
    split
    · simp
    · split
      · simp
      · simp only [List.length_cons]; omega
theorem kputs_len : ∀ (ks K : List (List UInt8)), (kputs K ks).length ≤ K.length + ks.length
  | [], K => by simp [kputs]
  | k :: ks, K => by
    have h1 := kput_len k K
    have h2 := kputs_len ks (kput k K)
    show (kputs (kput k K) ks).length ≤ _
    simp only [List.length_cons]; omega
theorem candK_len {n : Nat} : ∀ {l : List Ax} {K : List (List UInt8)}, (∀ x ∈ l, x.roles.length ≤ n) → (candK K l).length ≤ K.length + l.length * (n + 1)
  | [], K, _ => by simp [candK]
  | x :: l, K, h => by
    have h1 := kputs_len (namesA x) K
    have h2 := candK_len (l := l) (K := kputs K (namesA x)) fun y hy => h y (by simp [hy])
    have h3 : (namesA x).length ≤ n + 1 := by
      have := h x (by simp)
      unfold namesA; split
      · simp only [List.length_cons]; omega
      · simp
    show (candK (kputs K (namesA x)) l).length ≤ _
    simp only [List.length_cons, Nat.add_mul]; omega
theorem drv_cand {l : List Ax} {w : List (List UInt8)} {r : List UInt8} {i j : Nat} (h : Drv l w r i j) : r ∈ w ∨ ∃ x ∈ l, r ∈ namesA x := by
  refine h (fun r _ _ => r ∈ w ∨ ∃ x ∈ l, r ∈ namesA x) ⟨fun i r hr => .inl (List.mem_of_getElem? hr), fun x hx hk i hi => .inr ⟨x, hx, ?_⟩, fun x hx hk i j hc => .inr ⟨x, hx, ?_⟩, fun x hx hk i j hc => .inr ⟨x, hx, ?_⟩⟩ <;> simp [namesA, hk]
theorem l_comp1 (s : St) (cx : Ctx) (hcx : cx.lim ≤ s.length) (a0 a1 a2 a29 : AV) (n0 i0 : Int) (z : Bool) (rs : List (List UInt8)) (hrs : rs.length ≤ 1000) :
    ∀ (rest : List (List UInt8)) (i : Nat) (K : List (List UInt8)), rs.drop i = rest →
    ∃ j : Int, loopW (acodeW P0.glob (acallW P0) cx false ir_roles_Compose_L1) [0, 1, 2, 6, 9, 29, 30, 31, 45, 46, 47]
      [(0, .v a0), (1, .v a1), (2, .v a2), (6, .own false T_string_0 1 []), (9, .v (.mp s.length)), (29, .v a29), (30, .v (.i .i64 n0)), (31, .v (.i .i64 i0)), (45, .v (slf z (rs.map .s))), (46, .v (.i .i64 rs.length)), (47, .v (.i .i64 i))] (s ++ [.umap (uM K)]) =
      .exit 3 [(0, .v a0), (1, .v a1), (2, .v a2), (6, .own false T_string_0 1 []), (9, .v (.mp s.length)), (29, .v a29), (30, .v (.i .i64 n0)), (31, .v (.i .i64 i0)), (45, .v (slf z (rs.map .s))), (46, .v (.i .i64 rs.length)), (47, .v (.i .i64 j)), (48, .v (.b false))] (s ++ [.umap (uM (kputs K rest))])
  | [], i, K, h => by
    have h1 : ¬ i < rs.length := Nat.not_lt.2 (drop_nil h)
    refine ⟨i, loop_step fun K hK => ?_⟩
    simp [ir_roles_Compose_L1, h1, kputs]
  | p :: rest, i, K, h => by
    obtain ⟨g1, g2, g3, g4⟩ := drop_cons h
    have g5 := g4 g3
    have hwi := wI (i := i) (by omega)
    obtain ⟨j, ih⟩ := l_comp1 s cx hcx a0 a1 a2 a29 n0 i0 z rs hrs rest (i + 1) (kput p K) g2
    refine ⟨j, loop_step fun K' hK => ?_⟩
    rw [← hK, show ((i + 1 : Nat) : Int) = (i : Int) + 1 from rfl] at ih
    clear hK g4
    rw [← uput_uM] at ih
    rw [show kputs K (p :: rest) = kputs (kput p K) rest from rfl, ← ih]
    simp [ir_roles_Compose_L1, g3, g5, hwi, hcx]
theorem l_comp0 (s : St) (cx : Ctx) (hcx : cx.lim ≤ s.length) (a1 a2 : AV) (z : Bool) (l : List Ax) (hl : l.length ≤ 1000) (hrl : ∀ x ∈ l, x.roles.length ≤ 1000) :
    ∀ (rest : List Ax) (i : Nat) (K : List (List UInt8)), l.drop i = rest →
    ∃ j : Int, loopW (acodeW P0.glob (acallW P0) cx false ir_roles_Compose_L0) [0, 1, 2, 6, 9, 29, 30, 31]
      [(0, .v (slf z (l.map encA))), (1, .v a1), (2, .v a2), (6, .own false T_string_0 1 []), (9, .v (.mp s.length)), (29, .v (slf z (l.map encA))), (30, .v (.i .i64 l.length)), (31, .v (.i .i64 i))] (s ++ [.umap (uM K)]) =
      .exit 0 [(0, .v (slf z (l.map encA))), (1, .v a1), (2, .v a2), (6, .own false T_string_0 1 []), (9, .v (.mp s.length)), (29, .v (slf z (l.map encA))), (30, .v (.i .i64 l.length)), (31, .v (.i .i64 j)), (32, .v (.b false))] (s ++ [.umap (uM (candK K rest))])
  | [], i, K, h => by
    have h1 : ¬ i < l.length := Nat.not_lt.2 (drop_nil h)
    refine ⟨i, loop_step fun K hK => ?_⟩
    simp [ir_roles_Compose_L0, h1, candK]
  | x :: rest, i, K, h => by
    obtain ⟨g1, g2, g3, g4⟩ := drop_cons h
    have g5 := g4 g3
    have hwi := wI (i := i) (by omega)
    have hx : x ∈ l := by rw [← g5]; exact List.getElem_mem g3
    obtain ⟨j, ih⟩ := l_comp0 s cx hcx a1 a2 z l hl hrl rest (i + 1) (kputs K (namesA x)) g2
    refine ⟨j, loop_step fun K' hK => ?_⟩
    have hKk : ∀ e t, K' e t = K' (keepE e [0, 1, 2, 6, 9, 29, 30, 31]) t := fun e t => by rw [hK]; exact loopW_keep _ _ _ _
    rw [← hK, show ((i + 1 : Nat) : Int) = (i : Int) + 1 from rfl] at ih
    have hr := hrl x hx
    clear hK g4 hrl
    rw [show candK K (x :: rest) = candK (kputs K (namesA x)) rest from rfl, ← ih]
    by_cases h5 : x.kind = 5 ∨ x.kind = 6 ∨ x.kind = 7
    · obtain ⟨j1, e1⟩ := l_comp1 s cx hcx (slf z (l.map encA)) a1 a2 (slf z (l.map encA)) l.length i x.z x.roles hr x.roles 0 (kput x.role K) rfl
      have hn : kputs K (namesA x) = kputs (kput x.role K) x.roles := by unfold namesA; rw [if_pos h5]; rfl
      rw [hn]
      simp only [Int.ofNat_zero, ← uput_uM] at e1
      try simp at e1
      rcases h5 with h5 | h5 | h5
      · simp [ir_roles_Compose_L0, g3, g5, hwi, hcx, h5, e1]
      · simp [ir_roles_Compose_L0, g3, g5, hwi, hcx, h5, e1]
      · simp [ir_roles_Compose_L0, g3, g5, hwi, hcx, h5, e1]
    · have hn : kputs K (namesA x) = K := by unfold namesA; rw [if_neg h5]; rfl
      rw [hn]
      have h1 : ¬ x.kind = 5 := fun h => h5 (.inl h)
      have h2 : ¬ x.kind = 6 := fun h => h5 (.inr (.inl h))
      have h3 : ¬ x.kind = 7 := fun h => h5 (.inr (.inr h))
      simp [ir_roles_Compose_L0, g3, g5, hwi, h1, h2, h3]
open Classical in
noncomputable def drvB (l : List Ax) (w : List (List UInt8)) (i j : Nat) (t : List UInt8) : Bool := decide (Drv l w t i j)
open Classical in
theorem drvB_iff {l : List Ax} {w : List (List UInt8)} {i j : Nat} {t : List UInt8} : drvB l w i j t = true ↔ Drv l w t i j := by
  unfold drvB; exact decide_eq_true_iff
theorem l_comp2 (l : List Ax) (h0 : chkL l = 0) (w : List (List UInt8)) (hw : ∀ r ∈ w, nmOK r = true) (es : List (AV × AV)) (hT : TabOK es (DG l w)) (K : List (List UInt8)) (hK1 : K.length ≤ 1000000) (hK2 : ∀ k ∈ K, nmOK k = true) (s : St) (cx : Ctx) :
    ∀ (rest : List (List UInt8)) (i : Nat) (X : List (List UInt8)), K.drop i = rest → X.length + rest.length ≤ 2000000 →
    ∃ j : Int, loopW (acodeW P0.glob (acallW P0) cx false ir_roles_Compose_L2) [6, 14, 62, 63, 64]
      [(6, .own false T_string_0 1 (X.map .s)), (14, .v (.im es)), (62, .v (.sl (K.map .s))), (63, .v (.i .i64 K.length)), (64, .v (.i .i64 i))] s =
      .exit 5 [(6, .own false T_string_0 1 ((X ++ rest.filter (drvB l w 0 2)).map .s)), (14, .v (.im es)), (62, .v (.sl (K.map .s))), (63, .v (.i .i64 K.length)), (64, .v (.i .i64 j)), (65, .v (.b false))] s
  | [], i, X, h, hX => by
    have h1 : ¬ i < K.length := Nat.not_lt.2 (drop_nil h)
    refine ⟨i, loop_step fun K' hK => ?_⟩
    simp [ir_roles_Compose_L2, h1]
  | p :: rest, i, X, h, hX => by
    obtain ⟨g1, g2, g3, g4⟩ := drop_cons h
    have g5 := g4 g3
    have hwi := wI (i := i) (by omega)
    have hp : p ∈ K := by rw [← g5]; exact List.getElem_mem g3
    simp only [List.length_cons] at hX
    have hm : X.length + 1 ≤ maxSl := by unfold maxSl; omega
    rcases tab_at h0 hw hT (hK2 p hp) (Nat.zero_le 64) (show 2 ≤ 64 by omega) with ⟨f1, f2⟩ | ⟨cs, b, f1, f2, f3, f4⟩
    · have hb : drvB l w 0 2 p = false := by
        cases hh : drvB l w 0 2 p with
        | false => rfl
        | true => exact absurd (drvB_iff.1 hh) f2
      obtain ⟨j, ih⟩ := l_comp2 l h0 w hw es hT K hK1 hK2 s cx rest (i + 1) X g2 (by omega)
      refine ⟨j, loop_step fun K' hK => ?_⟩
      rw [← hK, show ((i + 1 : Nat) : Int) = (i : Int) + 1 from rfl] at ih
      clear hK g4 hT hK2
      rw [List.filter_cons_of_neg (by rw [hb]; exact Bool.false_ne_true), ← ih]
      simp [ir_roles_Compose_L2, nilK, g3, g5, hwi, f1]
    · rw [Nat.zero_mul, Nat.zero_add] at f3
      have hbe : drvB l w 0 2 p = b := by
        cases b with
        | true => exact drvB_iff.2 (f4.1 rfl)
        | false =>
          cases hh : drvB l w 0 2 p with
          | false => rfl
          | true => exact absurd (f4.2 (drvB_iff.1 hh)) (by simp)
      cases b with
      | false =>
        obtain ⟨j, ih⟩ := l_comp2 l h0 w hw es hT K hK1 hK2 s cx rest (i + 1) X g2 (by omega)
        refine ⟨j, loop_step fun K' hK => ?_⟩
        rw [← hK, show ((i + 1 : Nat) : Int) = (i : Int) + 1 from rfl] at ih
        clear hK g4 hT hK2
        rw [List.filter_cons_of_neg (by rw [hbe]; exact Bool.false_ne_true), ← ih]
        simp [ir_roles_Compose_L2, nilK, g3, g5, hwi, f1, f3]
      | true =>
        obtain ⟨j, ih⟩ := l_comp2 l h0 w hw es hT K hK1 hK2 s cx rest (i + 1) (X ++ [p]) g2 (by simp; omega)
        refine ⟨j, loop_step fun K' hK => ?_⟩
        rw [← hK, show ((i + 1 : Nat) : Int) = (i : Int) + 1 from rfl] at ih
        clear hK g4 hT hK2
        rw [List.filter_cons_of_pos hbe, show X ++ p :: rest.filter (drvB l w 0 2) = X ++ [p] ++ rest.filter (drvB l w 0 2) by simp, ← ih]
        simp [ir_roles_Compose_L2, nilK, g3, g5, hwi, f1, f3, hm]
def compE (l : List Ax) (r t : List UInt8) : Int := if chkL l = 0 then (if [r, t].all nmOK = true then 0 else 20) else chkL l
def CompOK (l : List Ax) (r t : List UInt8) (X : List (List UInt8)) : Prop := X.length ≤ 1000000 ∧ Srt X ∧ ((chkL l = 0 ∧ [r, t].all nmOK = true) → ∀ x, x ∈ X ↔ Drv l [r, t] x 0 2) ∧ (¬ (chkL l = 0 ∧ [r, t].all nmOK = true) → X = [])
theorem CompOK.uniq {l : List Ax} {r t : List UInt8} {X Y : List (List UInt8)} (h : CompOK l r t X) (h' : CompOK l r t Y) : X = Y := by
  by_cases hc : chkL l = 0 ∧ [r, t].all nmOK = true
  · exact h.2.1.ext h'.2.1 fun x => by rw [h.2.2.1 hc, h'.2.2.1 hc]
  · rw [h.2.2.2 hc, h'.2.2.2 hc]
end Go.Ai.Z
namespace Go.Ai.Z
theorem srt_filter {p : List UInt8 → Bool} {l : List (List UInt8)} (h : Srt l) : Srt (l.filter p) := List.Pairwise.filter p h
theorem c_KeysU (s : St) (a : Nat) (cx : Ctx) : acallW P0 (.fn (.func F_maps_Keys_map_string_bool_string_bool) [] []) [.mp a] s cx = .ret (.fn (.func 104) [] [.kb (.mp a)]) s :=
  acallW_intrS (h := iKeys 104) rfl rfl
theorem c_SortedU (K : List (List UInt8)) (hK : Srt K) (hl : K.length ≤ 1048576) (hx : ∀ x ∈ K, x.length ≤ 1048576) (s : St) (a : Nat) (ha : s[a]? = some (.umap (uM K))) (cx : Ctx) : acallW P0 (.fn (.func F_slices_Sorted_string) [] []) [.fn (.func 104) [] [.kb (.mp a)]] s cx = .ret (slS K) s := by
  refine acallW_intrS (h := iSorted [104, 122]) rfl ?_
  have h2 : keysM s (.mp a) = some K := by
    simp only [keysM, ha]
    simp [uM, Function.comp_def]
  have h1 : isort K = K := isort_of_srt hK
  have h3 := strictS_of hK
  simp [iSorted, h2, h1, h3, hl]
  exact hx
theorem c_roles_Compose (z : Bool) (l : List Ax) (hl : l.length ≤ 100) (hx : ∀ x ∈ l, x.Few) (r t : List UInt8) (hr : r.length ≤ 1000) (ht : t.length ≤ 1000) (s : St) (cx : Ctx) :
    ∃ X, acallW P0 (.fn (.func F_roles_Compose) [] []) [slf z (l.map encA), .s r, .s t] s cx = .ret (.tu [.sl (X.map .s), .i .i64 (compE l r t)]) s ∧ CompOK l r t X := by
  have e1 := c_roles_checkAll z l (by omega) hx [r, t] (by simp) (by simp; omega)
  simp only [List.map_cons, List.map_nil] at e1
  by_cases h0 : chkL l = 0
  · by_cases h1 : [r, t].all nmOK = true
    · have a2 : compE l r t = 0 := by simp only [compE, h0, h1, if_true]
      simp only [h0, h1, if_true] at e1
      have hK0 : Srt (kput t (kput r [])) := srt_kput (srt_kput (by simp [Srt]))
      obtain ⟨j1, e2⟩ := l_comp0 s ⟨s.length, s.length⟩ (Nat.le_refl _) (.s r) (.s t) z l (by omega) (fun x hxl => by have := (hx x hxl).roles; omega) l 0 (kput t (kput r [])) rfl
      have hKs : Srt (candK (kput t (kput r [])) l) := srt_candK hK0
      have hKl : (candK (kput t (kput r [])) l).length ≤ 1000000 := by
        have h2 := candK_len (n := 600) (l := l) (K := kput t (kput r [])) fun x hxl => (hx x hxl).roles
        have h3 := kput_len t (kput r [])
        have h4 := kput_len r []
        have h5 := Nat.mul_le_mul_right (600 + 1) hl
        simp only [List.length_nil] at h4
        omega
      have hmem : ∀ x, x ∈ candK (kput t (kput r [])) l ↔ (∃ y ∈ l, x ∈ namesA y) ∨ x = t ∨ x = r := fun x => by
        rw [mem_candK, mem_kput, mem_kput]; simp
      have hall := List.all_eq_true.1 h1
      have hKn : ∀ k ∈ candK (kput t (kput r [])) l, nmOK k = true := fun k hk => by
        rcases (hmem k).1 hk with ⟨y, hy, hk⟩ | rfl | rfl
        · unfold namesA at hk
          split at hk
          · rename_i h5
            rcases List.mem_cons.1 hk with rfl | hk
            · exact role_nm (chkL_mem h0 y hy) h5
            · exact roles_nm (chkL_mem h0 y hy) k hk
          · cases hk
        · exact hall _ (by simp)
        · exact hall _ (by simp)
      have hKx : ∀ k ∈ candK (kput t (kput r [])) l, k.length ≤ 1048576 := fun k hk => by
        rcases (hmem k).1 hk with ⟨y, hy, hk⟩ | rfl | rfl
        · unfold namesA at hk
          split at hk
          · rcases List.mem_cons.1 hk with rfl | hk
            · have := (hx y hy).role; omega
            · have := (hx y hy).rs k hk; omega
          · cases hk
        · omega
        · omega
      have hKne : candK (kput t (kput r [])) l ≠ [] := fun h => by
        have : t ∈ candK (kput t (kput r [])) l := (hmem t).2 (.inr (.inl rfl))
        rw [h] at this; cases this
      generalize hKK : candK (kput t (kput r [])) l = K at e2 hKs hKl hmem hKn hKx hKne
      obtain ⟨es, e3, hT⟩ := c_roles_recognize z l hl (grOK_of h0 hx) false [r, t] (by simp) (s ++ [.umap (uM K)]) ⟨s.length, s.length⟩ (by simp)
      have e4 := c_SortedU K hKs (by omega) hKx (s ++ [.umap (uM K)]) s.length (by simp)
      obtain ⟨j2, e5⟩ := l_comp2 l h0 [r, t] (fun q hq => hall q hq) es hT K hKl hKn (s ++ [.umap (uM K)]) ⟨s.length, s.length⟩ K 0 [] rfl (by simp; omega)
      refine ⟨K.filter (drvB l [r, t] 0 2), ?_, ?_, srt_filter hKs, fun _ x => ?_, fun h => absurd ⟨h0, h1⟩ h⟩
      · rw [a2]
        refine go_roles_Compose (by simp) ?_
        have hsl : slS K = .sl (K.map .s) := by
          cases hk : K with
          | nil => exact absurd hk hKne
          | cons a b => rfl
        rw [hsl] at e4
        rw [← uput_uM, ← uput_uM] at e2
        simp only [uM, List.map_nil] at e2
        have hf := frz_strs (s ++ [.umap (uM K)]) s.length (K.filter (drvB l [r, t] 0 2)) .i64 0
        clear hT hKs hKl hmem hKn hKx hKne hall hx hsl
        simp only [Int.ofNat_zero, List.map_nil, List.nil_append, slf_false, List.map_cons] at e2 e3 e5
        simp only [uM] at e2 e3 e4 e5 hf
        try simp at e2
        try simp at e5
        simp [callFnW, ir_roles_Compose, show List.range 2 = [0, 1] from rfl, e1, e2, e3, c_KeysU, e4, e5, hf]
      · have := List.length_filter_le (drvB l [r, t] 0 2) K; omega
      · rw [List.mem_filter, drvB_iff, hmem]
        refine ⟨fun h => h.2, fun h => ⟨?_, h⟩⟩
        rcases drv_cand h with h | h
        · simp at h
          rcases h with h | h
          · exact .inr (.inr h)
          · exact .inr (.inl h)
        · exact .inl h
    · refine ⟨[], ?_, by simp, by simp [Srt], fun h => absurd h.2 h1, fun _ => rfl⟩
      have a2 : compE l r t = 20 := by simp only [compE, h0, h1, if_true]; rfl
      simp only [h0, h1, if_true] at e1
      rw [a2]
      refine go_roles_Compose (by simp) ?_
      simp [callFnW, ir_roles_Compose, show List.range 2 = [0, 1] from rfl, e1]
  · refine ⟨[], ?_, by simp, by simp [Srt], fun h => absurd h.1 h0, fun _ => rfl⟩
    have a2 : compE l r t = chkL l := by simp only [compE, h0, if_false]
    simp only [h0, if_false] at e1
    rw [a2]
    refine go_roles_Compose (by simp) ?_
    simp [callFnW, ir_roles_Compose, show List.range 2 = [0, 1] from rfl, e1, h0]
theorem l_ref06_Word (z : Bool) (l : List Ax) (zw : Bool) (w : List (List UInt8)) (hw : w.length ≤ 1000) (role : List UInt8) (s : St) (cx : Ctx) :
    ∀ (rest : List (List UInt8)) (i : Nat), w.drop i = rest →
    ∃ j : Int, loopW (acodeW P0.glob (acallW P0) cx false ir_ref06_Word_L0) [0, 1, 2, 9] [(0, .v (slf z (l.map encA))), (1, .v (slf zw (w.map .s))), (2, .v (.s role)), (9, .v (.i .i64 i))] s =
      if rest.all nmOK = true then .exit 0 [(0, .v (slf z (l.map encA))), (1, .v (slf zw (w.map .s))), (2, .v (.s role)), (9, .v (.i .i64 j)), (21, .v (.b false))] s else .ret [(6, .v (.b false)), (7, .v (.i .i64 20))] s
  | [], i, h => by
    have h1 : ¬ i < w.length := Nat.not_lt.2 (drop_nil h)
    refine ⟨i, loop_step fun K hK => ?_⟩
    simp [ir_ref06_Word_L0, h1]
  | p :: rest, i, h => by
    obtain ⟨g1, g2, g3, g4⟩ := drop_cons h
    have g5 := g4 g3
    have hwi := wI (i := i) (by omega)
    have e1 := c_ref02_CheckName p
    obtain ⟨j, ih⟩ := l_ref06_Word z l zw w hw role s cx rest (i + 1) g2
    refine ⟨j, loop_step fun K' hK => ?_⟩
    rw [← hK, show ((i + 1 : Nat) : Int) = (i : Int) + 1 from rfl] at ih
    clear hK g4
    by_cases hp : nmOK p = true
    · rw [if_pos hp] at e1
      simp only [List.all_cons, hp, Bool.true_and]
      rw [← ih]
      simp [ir_ref06_Word_L0, g3, g5, hwi, e1]
    · rw [if_neg hp] at e1
      simp only [List.all_cons, hp, Bool.false_and]
      simp [ir_ref06_Word_L0, g3, g5, hwi, e1]
theorem c_ref06_Word (z : Bool) (l : List Ax) (hl : l.length ≤ 100) (hx : ∀ x ∈ l, x.Few) (zw : Bool) (w : List (List UInt8)) (hw : w.length ≤ 7) (role : List UInt8) (s : St) (cx : Ctx) :
    acallW P0 (.fn (.func F_ref06_Word) [] []) [slf z (l.map encA), slf zw (w.map .s), .s role] s cx = .ret (.tu [.b (wordV l w role), .i .i64 (wordE l w role)]) s := by
  have e1 := c_ref06_checked z l (by omega) hx
  have e2 := c_ref02_CheckName role
  obtain ⟨j, e3⟩ := l_ref06_Word z l zw w (by omega) role s ⟨s.length, s.length⟩ w 0 rfl
  simp only [Int.ofNat_zero] at e3
  refine go_ref06_Word (by simp) ?_
  have w64' : ¬ (64 : Int) < w.length := by omega
  by_cases h0 : chkL l = 0
  · by_cases h1 : nmOK role = true
    · rw [if_pos h1] at e2
      by_cases h2 : w.all nmOK = true
      · have h12 : (role :: w).all nmOK = true := by simp only [List.all_cons, h1, h2]; rfl
        have a2 : wordE l w role = 0 := by simp only [wordE, h0, h12, if_true]
        rw [if_pos h2] at e3
        obtain ⟨vss, tab, e4, hR, hs, hlen, hd⟩ := c_ref06_Words z l hl h0 hx zw w (by omega) s ⟨s.length, s.length⟩
        obtain ⟨vs, v1, v2, v3⟩ := hR.2 0 (Nat.zero_le _)
        obtain ⟨z4, v4⟩ := v3 w.length (Nat.le_refl _)
        have e5 := c_ref06_Has z4 (tab 0 w.length) role (by have := hlen 0 w.length; omega)
        have a1 : wordV l w role = decide (role ∈ tab 0 w.length) := by
          rcases Bool.eq_false_or_eq_true (wordV l w role) with h | h
          · rw [h, eq_comm, decide_eq_true_iff, hd 0 w.length (Nat.zero_le _) (Nat.le_refl _)]
            exact (wordV_iff.1 h).2.2
          · rw [h, eq_comm, decide_eq_false_iff_not, hd 0 w.length (Nat.zero_le _) (Nat.le_refl _)]
            intro hh
            rw [wordV_iff.2 ⟨h0, h12, hh⟩] at h; cases h
        rw [a1, a2]
        have hv5 := (List.getElem?_eq_some_iff.1 v1)
        obtain ⟨hv5, hv6⟩ := hv5
        obtain ⟨hv7, hv8⟩ := List.getElem?_eq_some_iff.1 v4
        clear hR hs hlen hd v3 hx
        try simp at e3
        simp [callFnW, ir_ref06_Word, e1, e2, e3, e4, e5, h0, w64', v1, v4, hv5, hv6, hv7, hv8]
      · have h12 : ¬ (role :: w).all nmOK = true := by simp only [List.all_cons, h1, Bool.true_and]; exact h2
        have a1 : wordV l w role = false := by
          rcases Bool.eq_false_or_eq_true (wordV l w role) with h | h
          · exact absurd (wordV_iff.1 h).2.1 h12
          · exact h
        have a2 : wordE l w role = 20 := by simp only [wordE, h0, h12, if_true]; rfl
        rw [if_neg h2] at e3
        rw [a1, a2]
        try simp at e3
        simp [callFnW, ir_ref06_Word, e1, e2, e3, h0]
    · have h12 : ¬ (role :: w).all nmOK = true := by simp only [List.all_cons, h1, Bool.false_and]; exact Bool.false_ne_true
      have a1 : wordV l w role = false := by
        rcases Bool.eq_false_or_eq_true (wordV l w role) with h | h
        · exact absurd (wordV_iff.1 h).2.1 h12
        · exact h
      have a2 : wordE l w role = 20 := by simp only [wordE, h0, h12, if_true]; rfl
      rw [if_neg h1] at e2
      rw [a1, a2]
      simp [callFnW, ir_ref06_Word, e1, e2, h0]
  · have a1 : wordV l w role = false := by
      rcases Bool.eq_false_or_eq_true (wordV l w role) with h | h
      · exact absurd (wordV_iff.1 h).1 h0
      · exact h
    have a2 : wordE l w role = chkL l := by simp only [wordE, h0, if_false]
    rw [a1, a2]
    simp [callFnW, ir_ref06_Word, e1, h0]
theorem c_ref06_Compose (z : Bool) (l : List Ax) (hl : l.length ≤ 100) (hx : ∀ x ∈ l, x.Few) (r t : List UInt8) (s : St) (cx : Ctx) :
    ∃ X z', acallW P0 (.fn (.func F_ref06_Compose) [] []) [slf z (l.map encA), .s r, .s t] s cx = .ret (.tu [slf z' (X.map .s), .i .i64 (compE l r t)]) s ∧ CompOK l r t X := by
  have e1 := c_ref06_checked z l (by omega) hx
  have e2 := c_ref02_CheckName r
  have e3 := c_ref02_CheckName t
  by_cases h0 : chkL l = 0
  · by_cases h1 : [r, t].all nmOK = true
    · have hall := List.all_eq_true.1 h1
      have hr := hall r (by simp)
      have ht := hall t (by simp)
      have a2 : compE l r t = 0 := by simp only [compE, h0, h1, if_true]
      obtain ⟨vss, tab, e4, hR, hs, hlen, hd⟩ := c_ref06_Words z l hl h0 hx false [r, t] (by simp) s ⟨s.length, s.length⟩
      obtain ⟨vs, v1, v2, v3⟩ := hR.2 0 (Nat.zero_le _)
      obtain ⟨z4, v4⟩ := v3 2 (Nat.le_refl _)
      have hl2 := hlen 0 2
      simp only [List.length_cons, List.length_nil] at hl2
      refine ⟨tab 0 2, z4, ?_, by omega, hs 0 2, fun _ x => hd 0 2 (by omega) (Nat.le_refl _) x, fun h => absurd ⟨h0, h1⟩ h⟩
      rw [a2]
      rw [if_pos hr] at e2
      rw [if_pos ht] at e3
      obtain ⟨hv5, hv6⟩ := List.getElem?_eq_some_iff.1 v1
      obtain ⟨hv7, hv8⟩ := List.getElem?_eq_some_iff.1 v4
      clear hR hs hlen hd v3 hx hall
      simp only [slf_false, List.map_cons, List.map_nil] at e4
      refine go_ref06_Compose (by simp) ?_
      simp [callFnW, ir_ref06_Compose, show List.range 2 = [0, 1] from rfl, e1, e2, e3, e4, h0, v1, v4, hv5, hv6, hv7, hv8]
    · refine ⟨[], true, ?_, by simp, by simp [Srt], fun h => absurd h.2 h1, fun _ => rfl⟩
      have a2 : compE l r t = 20 := by simp only [compE, h0, h1, if_true]; rfl
      rw [a2]
      refine go_ref06_Compose (by simp) ?_
      by_cases hr : nmOK r = true
      · have ht : ¬ nmOK t = true := fun h => h1 (by simp [hr, h])
        rw [if_pos hr] at e2
        rw [if_neg ht] at e3
        simp [callFnW, ir_ref06_Compose, e1, e2, e3, h0]
      · rw [if_neg hr] at e2
        simp [callFnW, ir_ref06_Compose, e1, e2, h0]
  · refine ⟨[], true, ?_, by simp, by simp [Srt], fun h => absurd h.1 h0, fun _ => rfl⟩
    have a2 : compE l r t = chkL l := by simp only [compE, h0, if_false]
    rw [a2]
    refine go_ref06_Compose (by simp) ?_
    simp [callFnW, ir_ref06_Compose, e1, h0]
theorem l_law06_short (z : Bool) (w : List (List UInt8)) (hw : w.length ≤ 1000) (s : St) (cx : Ctx) :
    ∀ (rest : List (List UInt8)) (i : Nat), w.drop i = rest →
    ∃ j : Int, loopW (acodeW P0.glob (acallW P0) cx false ir_law06_short_L0) [0, 3] [(0, .v (slf z (w.map .s))), (3, .v (.i .i64 i))] s =
      if (rest.all fun r => decide (r.length ≤ 100)) = true then .exit 0 [(0, .v (slf z (w.map .s))), (3, .v (.i .i64 j)), (10, .v (.b false))] s else .ret [(2, .v (.b false))] s
  | [], i, h => by
    have h1 : ¬ i < w.length := Nat.not_lt.2 (drop_nil h)
    refine ⟨i, loop_step fun K hK => ?_⟩
    simp [ir_law06_short_L0, h1]
  | p :: rest, i, h => by
    obtain ⟨g1, g2, g3, g4⟩ := drop_cons h
    have g5 := g4 g3
    have hwi := wI (i := i) (by omega)
    obtain ⟨j, ih⟩ := l_law06_short z w hw s cx rest (i + 1) g2
    refine ⟨j, loop_step fun K' hK => ?_⟩
    rw [← hK, show ((i + 1 : Nat) : Int) = (i : Int) + 1 from rfl] at ih
    clear hK g4
    by_cases hp : p.length ≤ 100
    · have hp' : ¬ (100 : Int) < p.length := by omega
      simp only [List.all_cons, hp, decide_true, Bool.true_and]
      rw [← ih]
      simp [ir_law06_short_L0, g3, g5, hwi, hp']
    · have hp' : (100 : Int) < p.length := by omega
      simp only [List.all_cons, hp, decide_false, Bool.false_and]
      simp [ir_law06_short_L0, g3, g5, hwi, hp']
def shortW (w : List (List UInt8)) : Bool := decide (w.length ≤ 7) && w.all fun r => decide (r.length ≤ 100)
theorem c_law06_short (z : Bool) (w : List (List UInt8)) (s : St) (cx : Ctx) : acallW P0 (.fn (.func F_law06_short) [] []) [slf z (w.map .s)] s cx = .ret (.b (shortW w)) s := by
  refine go_law06_short (by simp) ?_
  by_cases h7 : w.length ≤ 7
  · have h7' : ¬ (7 : Int) < w.length := by omega
    obtain ⟨j, h⟩ := l_law06_short z w (by omega) s ⟨s.length, s.length⟩ w 0 rfl
    simp only [Int.ofNat_zero] at h
    by_cases hb : (w.all fun r => decide (r.length ≤ 100)) = true
    · rw [if_pos hb] at h
      have hv : shortW w = true := by simp only [shortW, h7, hb]; rfl
      rw [hv]
      try simp at h
      simp [callFnW, ir_law06_short, h7', h]
    · rw [if_neg hb] at h
      have hv : shortW w = false := by simp only [shortW, h7, decide_true, Bool.true_and]; simpa using hb
      rw [hv]
      try simp at h
      simp [callFnW, ir_law06_short, h7', h]
  · have h7' : (7 : Int) < w.length := by omega
    have hv : shortW w = false := by simp [shortW, h7]
    rw [hv]
    simp [callFnW, ir_law06_short, h7']
theorem c_words_law (z : Bool) (l : List Ax) (hl : l.length ≤ 1125899906842624) (hx : ∀ x ∈ l, x.Ok) (zw : Bool) (w : List (List UInt8)) (role : List UInt8) (hs : acallW P0 (.fn (.func F_law06_sane) [] []) [] [] ⟨0, 0⟩ = .ret (.b true) []) (cx : Ctx) :
    acallW P0 (.fn (.func F_law06_RolesWords) [] []) [slf z (l.map encA), slf zw (w.map .s), .s role] [] cx = .ret (.b true) [] := by
  obtain ⟨b, e1, hb⟩ := c_law06_few z l hl hx
  have e0 := c_law06_short zw w
  refine go_law06_RolesWords (by simp) ?_
  cases b with
  | false => simp [callFnW, ir_law06_RolesWords, hs, e1]
  | true =>
    obtain ⟨h12, hf⟩ := hb rfl
    cases hsw : shortW w with
    | false =>
      rw [hsw] at e0
      simp [callFnW, ir_law06_RolesWords, hs, e1, e0]
    | true =>
      rw [hsw] at e0
      simp only [shortW, Bool.and_eq_true, decide_eq_true_eq, List.all_eq_true] at hsw
      obtain ⟨hw7, hwx⟩ := hsw
      by_cases hr : 100 < role.length
      · have hr' : (100 : Int) < role.length := by omega
        simp [callFnW, ir_law06_RolesWords, hs, e1, e0, hr']
      · have hr' : ¬ (100 : Int) < role.length := by omega
        have e2 := c_roles_Word z l (by omega) hf zw w hw7 (fun r hr => by have := hwx r hr; omega) role (by omega)
        have e3 := c_ref06_Word z l (by omega) hf zw w hw7 role
        rcases w with _ | ⟨a, _ | ⟨b, w⟩⟩
        · clear hwx hf hx hb
          simp at e0 e2 e3
          simp [callFnW, ir_law06_RolesWords, hs, e1, e0, hr', e2, e3]
        · clear hwx hf hx hb
          simp at e0 e2 e3
          simp [callFnW, ir_law06_RolesWords, hs, e1, e0, hr', e2, e3]
        · have hla : a.length ≤ 100 := hwx a (by simp)
          have hlb : b.length ≤ 100 := hwx b (by simp)
          obtain ⟨X, e4, x1⟩ := c_roles_Compose z l (by omega) hf a b (by omega) (by omega) [] ⟨0, 0⟩
          obtain ⟨Y, zy, e5, y1⟩ := c_ref06_Compose z l (by omega) hf a b [] ⟨0, 0⟩
          obtain rfl := x1.uniq y1
          have e6 := c_ref06_Same false zy X X x1.1 x1.1
          have hw2 : ¬ ((w.length : Int) + 1 + 1 < 2) := by omega
          simp only [slf_false] at e6
          simp at e6
          clear hwx hf hx hb
          simp at e0 e2 e3
          simp [callFnW, ir_law06_RolesWords, hs, e1, e0, hr', e2, e3, e4, e5, e6, hw2]
end Go.Ai.Z
