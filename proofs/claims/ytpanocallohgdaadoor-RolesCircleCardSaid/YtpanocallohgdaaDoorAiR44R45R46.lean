/-
 roles.circle: the heap; the way back.
-/
import Derived.Test.YtpanocallohgdaaDoorAiR42R43
import Derived.Test.YtpanocallohgdaaDoorAiCircBfs
set_option maxRecDepth 100000
set_option linter.unusedSimpArgs false
set_option linter.unusedVariables false
namespace Go.Ai.Z
theorem nodupG_le {α : Type} [BEq α] [LawfulBEq α] {V U : List α} (hV : V.Nodup) (h : ∀ x ∈ V, x ∈ U) : V.length ≤ U.length := by
 induction V generalizing U with
 | nil => simp
 | cons a V ih =>
  rw [List.nodup_cons] at hV
  have ha := h a (by simp)
  have h1 := ih (U := U.erase a) hV.2 fun x hx => by
   have hne : x ≠ a := fun he => hV.1 (he ▸ hx)
   exact (List.mem_erase_of_ne hne).2 (h x (by simp [hx]))
  rw [List.length_erase_of_mem ha] at h1
  have := List.length_pos_of_mem ha
  simp only [List.length_cons]; omega
def gE (gs : List (List (Nat × Bool))) : NE := (List.range gs.length).flatMap fun i => (gs.getD i []).map fun p => (i, p.1, p.2)
theorem mem_gE {gs : List (List (Nat × Bool))} {a b : Nat} {f : Bool} : (a, b, f) ∈ gE gs ↔ ∃ g, gs[a]? = some g ∧ (b, f) ∈ g := by
 simp only [gE, List.mem_flatMap, List.mem_range, List.mem_map, Prod.mk.injEq]
 constructor
 ·rintro ⟨i, hi, p, hp, rfl, rfl, rfl⟩
  refine ⟨gs[i], List.getElem?_eq_getElem hi, ?_⟩
  simpa [List.getD, List.getElem?_eq_getElem hi] using hp
 ·rintro ⟨g, hg, hp⟩
  have ha := (List.getElem?_eq_some_iff.1 hg).1
  exact ⟨a, ha, (b, f), by simpa [List.getD, hg] using hp, rfl, rfl, rfl⟩
structure GrW (gs : List (List (Nat × Bool))) : Prop where
 inc : ∀ g ∈ gs, g.Pairwise fun a b => a.1 < b.1
 lt : ∀ g ∈ gs, ∀ p ∈ g, p.1 < gs.length
theorem wk_lt {gs : List (List (Nat × Bool))} (hg : GrW gs) {c : Nat} {t : List Nat} {r : Nat} {b : Bool} (h : Wk (gE gs) c t r b) (hc : c < gs.length) : r < gs.length := by
 induction h with
 | nil => exact hc
 | cons he _ ih =>
  obtain ⟨g, h1, h2⟩ := mem_gE.1 he
  exact ih (hg.lt g (List.mem_of_getElem? h1) _ h2)
theorem BP.few {gs : List (List (Nat × Bool))} (hg : GrW gs) {start : Nat} (hs : start < gs.length) {W : List W4} {Ps : List (List Nat)} {seen : Nat → Bool → Bool} {m : Nat} {pre : List (Nat × Bool)} (h : BP (gE gs) start W Ps seen m pre) : W.length ≤ gs.length * 2 := by
 have h1 := nodupG_le (V := W.map fun w => (w.role, w.strict)) (U := (List.range gs.length).flatMap fun r => [(r, true), (r, false)]) h.dist fun p hp => by
  obtain ⟨w, hw, rfl⟩ := List.mem_map.1 hp
  obtain ⟨i, hi⟩ := List.mem_iff_getElem?.1 hw
  obtain ⟨t, ht⟩ := h.at_ hi
  have := wk_lt hg (h.way i w t hi ht).1 hs
  simp only [List.mem_flatMap, List.mem_range]
  refine ⟨w.role, this, ?_⟩
  cases w.strict <;> simp
 rw [List.length_map] at h1
 rw [flatMap_len _ 2 _ fun r _ => rfl, List.length_range] at h1
 exact h1
def wayC (w : W4) : List AV := [.i .i64 w.role, .b w.strict, .i .i64 w.before, .i .i64 w.many]
theorem wayC_len (W : List W4) : (W.flatMap wayC).length = W.length * 4 := flatMap_len _ 4 _ fun _ _ => rfl
theorem wayC_at {W : List W4} {i : Nat} {w : W4} (h : W[i]? = some w) : ((W.flatMap wayC).drop (i * 4)).take 4 = wayC w ∧ i * 4 + 4 ≤ W.length * 4 := by
 induction W generalizing i with
 | nil => simp at h
 | cons a W ih =>
  cases i with
  | zero =>
   simp at h; subst h
   exact ⟨by simp [List.flatMap_cons, wayC], by simp only [List.length_cons]; omega⟩
  | succ i =>
   simp at h
   obtain ⟨h1, h2⟩ := ih h
   refine ⟨?_, by simp only [List.length_cons]; omega⟩
   rw [List.flatMap_cons, show (i + 1) * 4 = (wayC a).length + i * 4 by simp [wayC]; omega, List.drop_append, List.drop_eq_nil_of_le (by omega), List.nil_append, Nat.add_sub_cancel_left]
   exact h1
theorem wayC_get {W : List W4} {i : Nat} {w : W4} (h : W[i]? = some w) : (W.flatMap wayC)[i * 4]? = some (.i .i64 w.role) ∧ (W.flatMap wayC)[i * 4 + 2]? = some (.i .i64 w.before) := by
 obtain ⟨h1, h2⟩ := wayC_at h
 have h3 : ∀ k, k < 4 → (W.flatMap wayC)[i * 4 + k]? = (wayC w)[k]? := fun k hk => by
  rw [← h1, List.getElem?_take_of_lt hk, List.getElem?_drop]
 exact ⟨by have := h3 0 (by omega); rw [Nat.add_zero] at this; rw [this]; rfl, by rw [h3 2 (by omega)]; rfl⟩
def SnOK (n : Nat) (sn : List AV) (seen : Nat → Bool → Bool) : Prop := sn.length = n * 2 ∧ ∀ r, r < n → sn[r * 2]? = some (.b (seen r false)) ∧ sn[r * 2 + 1]? = some (.b (seen r true))
theorem SnOK.set {n : Nat} {sn : List AV} {seen : Nat → Bool → Bool} (h : SnOK n sn seen) {r : Nat} (hr : r < n) (b : Bool) :
  SnOK n (sn.set (r * 2 + (if b = true then 1 else 0)) (.b true)) (fun q c => if q = r ∧ c = b then true else seen q c) := by
 have hl := h.1
 refine ⟨by rw [List.length_set, hl], fun q hq => ?_⟩
 obtain ⟨h1, h2⟩ := h.2 q hq
 cases b with
 | true =>
  simp only [if_true]
  refine ⟨?_, ?_⟩
  ·rw [List.getElem?_set_ne (by omega), h1]; simp
  ·by_cases hqr : q = r
   ·subst hqr; rw [List.getElem?_set_self (by omega)]; simp
   ·rw [List.getElem?_set_ne (by omega), h2]; simp [hqr]
 | false =>
  simp only [Bool.false_eq_true, if_false, Nat.add_zero]
  refine ⟨?_, ?_⟩
  ·by_cases hqr : q = r
   ·subst hqr; rw [List.getElem?_set_self (by omega)]; simp
   ·rw [List.getElem?_set_ne (by omega), h1]; simp [hqr]
  ·rw [List.getElem?_set_ne (by omega), h2]; simp
def cH (s : St) (ver : Nat) (W : List W4) (sn : List AV) : St := s ++ [.buf T_roles_way_0 4 ver (W.flatMap wayC), .buf T_2_bool_1 2 0 sn]
def intV (n : Nat) : AV := .i .i64 n
def lV (b : Nat) (acc : List Nat) : AV := match acc with
 | [] => .ns
 | _ :: r => .sk b r.length 1 0 (r.length + 1)
def lH (H : St) (acc : List Nat) : St := match acc with
 | [] => H
 | a :: r => H ++ [.buf T_int_0 1 r.length ((a :: r).map intV)]
theorem ch_len (s : St) (ver : Nat) (W : List W4) (sn : List AV) : (cH s ver W sn).length = s.length + 2 := by simp [cH]
theorem ch_0 (s : St) (ver : Nat) (W : List W4) (sn : List AV) (acc : List Nat) : (lH (cH s ver W sn) acc)[s.length]? = some (.buf T_roles_way_0 4 ver (W.flatMap wayC)) := by
 cases acc with
 | nil => simp [lH, cH]
 | cons a r => simp [lH, cH]
theorem l_circle6 (s : St) (cx : Ctx) (hcx : cx.lim ≤ s.length ∧ cx.base ≤ s.length) (E : NE) (start : Nat) (W : List W4) (Ps : List (List Nat)) (seen : Nat → Bool → Bool) (m : Nat) (pre : List (Nat × Bool)) (hB : BP E start W Ps seen m pre) (hW : W.length ≤ 1000000) (ver : Nat) (sn : List AV) :
  ∀ (N i : Nat) (acc t : List Nat), i ≤ N → i < W.length → acc.length + i ≤ 1000000 → Ps[i]? = some t →
  loopW (acodeW P0.glob (acallW P0) cx false ir_roles_graph_circle_L6) [1, 6, 7, 9]
   [(1, .v (.i .i64 start)), (6, .v (lV (s.length + 2) acc)), (7, .v (.sk s.length ver 4 0 W.length)), (9, .v (.i .i64 i))] (lH (cH s ver W sn) acc) =
   .exit 4 [(1, .v (.i .i64 start)), (6, .v (lV (s.length + 2) (acc ++ t.reverse))), (7, .v (.sk s.length ver 4 0 W.length)), (9, .v (.i .i64 0)), (66, .v (.b false))] (lH (cH s ver W sn) (acc ++ t.reverse)) := by
 have fin : ∀ (acc t : List Nat), Ps[0]? = some t → loopW (acodeW P0.glob (acallW P0) cx false ir_roles_graph_circle_L6) [1, 6, 7, 9]
   [(1, .v (.i .i64 start)), (6, .v (lV (s.length + 2) acc)), (7, .v (.sk s.length ver 4 0 W.length)), (9, .v (.i .i64 0))] (lH (cH s ver W sn) acc) =
   .exit 4 [(1, .v (.i .i64 start)), (6, .v (lV (s.length + 2) (acc ++ t.reverse))), (7, .v (.sk s.length ver 4 0 W.length)), (9, .v (.i .i64 0)), (66, .v (.b false))] (lH (cH s ver W sn) (acc ++ t.reverse)) := by
  intro acc t ht
  rw [hB.head.2] at ht; cases ht
  rw [List.reverse_nil, List.append_nil]
  refine loop_step fun K hK => ?_
  simp [ir_roles_graph_circle_L6]
 intro N
 induction N with
 | zero =>
  intro i acc t h1 h2 h3 h4
  obtain rfl : i = 0 := by omega
  exact fin acc t h4
 | succ N ih =>
  intro i acc t h1 h2 h3 h4
  by_cases h0 : i = 0
  ·subst h0; exact fin acc t h4
  ·have hw : W[i]? = some W[i] := List.getElem?_eq_getElem h2
   obtain ⟨hb, t0, e0, rfl⟩ := hB.back i W[i] t (by omega) hw h4
   have ih1 := ih W[i].before (acc ++ [W[i].role]) t0 (by omega) (by omega) (by rw [List.length_append, List.length_singleton]; omega) e0
   have hx := ch_0 s ver W sn acc
   have hx2 := ch_0 s ver W sn (acc ++ [W[i].role])
   obtain ⟨g1, g2⟩ := wayC_get hw
   have h0' : 0 < i := by omega
   have hrev : acc ++ (t0 ++ [W[i].role]).reverse = acc ++ [W[i].role] ++ t0.reverse := by simp
   rw [hrev]
   have hlen := wayC_len W
   have q1 : i * 4 < W.length * 4 := by omega
   have q2 : i * 4 + 2 < W.length * 4 := by omega
   clear hB fin ih
   generalize W[i] = w at *
   refine loop_step fun K hK => ?_
   rw [← hK] at ih1
   clear hK
   have hm : acc.length + 1 ≤ maxSl := by unfold maxSl; omega
   rw [← ih1]
   cases acc with
   | nil =>
    simp only [lV, lH, List.nil_append, List.map_cons, List.map_nil, List.length_nil, intV] at hx hx2 ⊢
    have hcl := ch_len s ver W sn
    generalize cH s ver W sn = CC at *
    obtain ⟨y1, y2⟩ := List.getElem?_eq_some_iff.1 hx
    obtain ⟨y3, y4⟩ := List.getElem?_eq_some_iff.1 hx2
    simp [ir_roles_graph_circle_L6, h0', h2, hx, hx2, y2, y4, g1, g2, hm, hcl, show 1 ≤ maxSl by unfold maxSl; omega]
   | cons a r =>
    have l1 : (lH (cH s ver W sn) (a :: r))[s.length + 2]? = some (.buf T_int_0 1 r.length ((a :: r).map intV)) := by simp [lH, cH]
    have l2 : ∀ v, (lH (cH s ver W sn) (a :: r)).set (s.length + 2) v = cH s ver W sn ++ [v] := fun v => by simp [lH, cH]
    have hl1 : cx.lim ≤ s.length + 2 := by omega
    have hl2 : cx.base ≤ s.length + 2 := by omega
    have htk : ((a :: r).map intV).take ((r.length + 1) * 1) = (a :: r).map intV := List.take_of_length_le (by simp)
    have hle : (r.length + 1) * 1 ≤ ((a :: r).map intV).length := by simp
    simp only [List.length_cons] at hm
    have e2 : lH (cH s ver W sn) (a :: r ++ [w.role]) = cH s ver W sn ++ [.buf T_int_0 1 (r.length + 1) ((a :: r).map intV ++ [intV w.role])] := by simp [lH]
    have e3 : lV (s.length + 2) (a :: r ++ [w.role]) = .sk (s.length + 2) (r.length + 1) 1 0 (r.length + 1 + 1) := by simp [lV]
    rw [e2] at hx2
    rw [e2, e3]
    have e4 : lV (s.length + 2) (a :: r) = .sk (s.length + 2) r.length 1 0 (r.length + 1) := rfl
    rw [e4]
    generalize hHH : lH (cH s ver W sn) (a :: r) = HH at *
    generalize hCC : cH s ver W sn = CC at *
    generalize hLL : (a :: r).map intV = LL at *
    rw [Nat.mul_one] at htk hle
    simp only [intV] at hx2
    clear e2 hCC hHH
    simp [ir_roles_graph_circle_L6, h0', h2, hx, hx2, g1, g2, hm, l1, l2, hl1, hl2, htk, hle, intV]
end Go.Ai.Z
namespace Go.Ai.Z
def e5 (s : St) (start most : Nat) (R : List Rl) (gs : List (List (Nat × Bool))) (v ver : Nat) (m i : Nat) (w : W4) (g : List (Nat × Bool)) (k : Int) : Env :=
 [(1, .v (.i .i64 start)), (2, .v (.i .i64 most)), (3, .bx [slf true (R.map .s), slf true (gs.map encRow)]), (6, .v .ns), (7, .v (.sk s.length ver 4 0 m)), (8, .v (.sk (s.length + 1) 0 2 0 v)), (9, .v (.i .i64 i)), (10, .bx (wayC w)), (46, .v (encRow g)), (47, .v (.i .i64 g.length)), (48, .v (.i .i64 k))]
theorem ch_sn (s : St) (ver : Nat) (W : List W4) (sn : List AV) : (cH s ver W sn)[s.length + 1]? = some (.buf T_2_bool_1 2 0 sn) := by simp [cH]
theorem ch_w (s : St) (ver : Nat) (W : List W4) (sn : List AV) : (cH s ver W sn)[s.length]? = some (.buf T_roles_way_0 4 ver (W.flatMap wayC)) := by simp [cH]
theorem ch_setsn (s : St) (ver : Nat) (W : List W4) (sn sn' : List AV) : (cH s ver W sn).set (s.length + 1) (.buf T_2_bool_1 2 0 sn') = cH s ver W sn' := by simp [cH]
theorem ch_setw (s : St) (ver : Nat) (W : List W4) (sn : List AV) (w : W4) : (cH s ver W sn).set s.length (.buf T_roles_way_0 4 (ver + 1) (W.flatMap wayC ++ wayC w)) = cH s (ver + 1) (W ++ [w]) sn := by simp [cH]
theorem s5_old (s : St) (cx : Ctx) (start most : Nat) (R : List Rl) (gs : List (List (Nat × Bool))) (v ver : Nat) (W : List W4) (i : Nat) (w : W4) (g : List (Nat × Bool)) (k : Nat) (sn : List AV) (to : Nat) (f : Bool) (hk : k < g.length) (hk1 : k ≤ 1000000) (hg : g[k] = (to, f)) (hv : to < v)
  (hc : ¬ (to = start ∧ (w.strict || f) = true)) (hsl : sn.length = v * 2) (hs : sn[to * 2 + (if (w.strict || f) = true then 1 else 0)]? = some (.b true)) {K : Env → St → Out} {o : Out} (hK : K (e5 s start most R gs v ver W.length i w g (k + 1 : Nat)) (cH s ver W sn) = o) :
  (acodeW P0.glob (acallW P0) cx false ir_roles_graph_circle_L5 (e5 s start most R gs v ver W.length i w g k) (cH s ver W sn)).thn K = o := by
 have hwi := wI (i := k) (by omega)
 have h1 := ch_sn s ver W sn
 obtain ⟨y1, y2⟩ := List.getElem?_eq_some_iff.1 h1
 have hgk : g[k]? = some (to, f) := by rw [List.getElem?_eq_getElem hk, hg]
 obtain ⟨role, strict, before, many⟩ := w
 rw [show ((k + 1 : Nat) : Int) = (k : Int) + 1 from rfl] at hK
 simp only [e5, wayC] at hK ⊢
 have hto : to * 2 + 1 ≤ sn.length := by omega
 cases strict with
 | true =>
  have hne : ¬ to = start := fun h => hc ⟨h, rfl⟩
  have hne' : ¬ (to : Int) = start := by omega
  simp only [Bool.true_or, if_true] at hs
  obtain ⟨z1, z2⟩ := List.getElem?_eq_some_iff.1 hs
  rw [← hK]
  simp [ir_roles_graph_circle_L5, encRow, hk, hg, hgk, hwi, hne, hne', h1, y2, hs, z2, hv]
 | false =>
  cases f with
  | true =>
   have hne : ¬ to = start := fun h => hc ⟨h, rfl⟩
   have hne' : ¬ (to : Int) = start := by omega
   simp only [Bool.or_true, if_true] at hs
   obtain ⟨z1, z2⟩ := List.getElem?_eq_some_iff.1 hs
   rw [← hK]
   simp [ir_roles_graph_circle_L5, encRow, hk, hg, hgk, hwi, hne, hne', h1, y2, hs, z2, hv]
  | false =>
   simp only [Bool.or_false, Bool.false_eq_true, if_false, Nat.add_zero] at hs
   obtain ⟨z1, z2⟩ := List.getElem?_eq_some_iff.1 hs
   rw [← hK]
   by_cases hne : to = start
   ·subst hne
    simp [ir_roles_graph_circle_L5, encRow, hk, hg, hgk, hwi, h1, y2, hs, z2, hv]
   ·have hne' : ¬ (to : Int) = start := by omega
    simp [ir_roles_graph_circle_L5, encRow, hk, hg, hgk, hwi, hne, hne', h1, y2, hs, z2, hv]
end Go.Ai.Z
namespace Go.Ai.Z
theorem s5_new (s : St) (cx : Ctx) (hcx : cx.lim ≤ s.length ∧ cx.base ≤ s.length) (start most : Nat) (R : List Rl) (gs : List (List (Nat × Bool))) (v ver : Nat) (W : List W4) (hW : W.length ≤ 1000000) (i : Nat) (w : W4) (hmany : w.many ≤ 1000000) (g : List (Nat × Bool)) (k : Nat) (sn : List AV) (to : Nat) (f : Bool) (hk : k < g.length) (hk1 : k ≤ 1000000) (hg : g[k] = (to, f)) (hv : to < v)
  (hc : ¬ (to = start ∧ (w.strict || f) = true)) (hsl : sn.length = v * 2) (hs : sn[to * 2 + (if (w.strict || f) = true then 1 else 0)]? = some (.b false)) {K : Env → St → Out} {o : Out}
  (hK : K (e5 s start most R gs v (ver + 1) (W.length + 1) i w g (k + 1 : Nat)) (cH s (ver + 1) (W ++ [⟨to, (w.strict || f), i, w.many + 1⟩]) (sn.set (to * 2 + (if (w.strict || f) = true then 1 else 0)) (.b true))) = o) :
  (acodeW P0.glob (acallW P0) cx false ir_roles_graph_circle_L5 (e5 s start most R gs v ver W.length i w g k) (cH s ver W sn)).thn K = o := by
 have hwi := wI (i := k) (by omega)
 have h1 := ch_sn s ver W sn
 obtain ⟨y1, y2⟩ := List.getElem?_eq_some_iff.1 h1
 have hgk : g[k]? = some (to, f) := by rw [List.getElem?_eq_getElem hk, hg]
 obtain ⟨role, strict, before, many⟩ := w
 have hwm := wI (i := many) (by simp only at hmany; omega)
 rw [show ((k + 1 : Nat) : Int) = (k : Int) + 1 from rfl] at hK
 simp only at hc hs hK
 have hsw := fun b sn' => ch_setw s ver W sn' ⟨to, b, i, many + 1⟩
 have hss := fun sn' => ch_setsn s ver W sn sn'
 have hww := fun sn' => ch_w s ver W sn'
 have hwg : ∀ sn', ∃ h, (cH s ver W sn')[s.length]'h = .buf T_roles_way_0 4 ver (W.flatMap wayC) := fun sn' => List.getElem?_eq_some_iff.1 (hww sn')
 have hwl := wayC_len W
 have htk : (W.flatMap wayC).take (W.length * 4) = W.flatMap wayC := List.take_of_length_le (by omega)
 have hle : W.length * 4 ≤ (W.flatMap wayC).length := by omega
 have hm : W.length + 1 ≤ maxSl := by unfold maxSl; omega
 have hl1 : cx.lim ≤ s.length + 1 := by omega
 have hl2 : cx.base ≤ s.length + 1 := by omega
 have hto : to * 2 + 1 ≤ sn.length := by omega
 have hto1 : to * 2 + 1 + 1 ≤ sn.length := by omega
 simp only [wayC, show ((many + 1 : Nat) : Int) = (many : Int) + 1 from rfl] at hsw
 simp only [e5, wayC] at hK ⊢
 clear hmany
 have hset0 : sn.take (to * 2) ++ .b true :: sn.drop (to * 2 + 1) = sn.set (to * 2) (.b true) := set_splice (by omega)
 have hset1 : sn.take (to * 2 + 1) ++ .b true :: sn.drop (to * 2 + 1 + 1) = sn.set (to * 2 + 1) (.b true) := set_splice (by omega)
 clear hwl
 generalize W.flatMap wayC = WW at *
 generalize hCC : cH s ver W sn = CC at *
 cases strict with
 | true =>
  have hne : ¬ to = start := fun h => hc ⟨h, rfl⟩
  have hne' : ¬ (to : Int) = start := by omega
  simp only [Bool.true_or, if_true] at hs hK
  obtain ⟨z1, z2⟩ := List.getElem?_eq_some_iff.1 hs
  obtain ⟨u1, u2⟩ := hwg (sn.set (to * 2 + 1) (.b true))
  have hw1 := hww (sn.set (to * 2 + 1) (.b true))
  have hw2 := hsw true (sn.set (to * 2 + 1) (.b true))
  have hw3 := hss (sn.set (to * 2 + 1) (.b true))
  generalize cH s ver W (sn.set (to * 2 + 1) (.b true)) = C1 at *
  rw [← hK]
  simp [fillC, ir_roles_graph_circle_L5, encRow, hk, hg, hgk, hwi, hne, hne', h1, y2, hs, z2, hv, hl1, hl2, hcx.1, hcx.2, hto, hto1, hset1, hw3, hw1, u2, htk, hle, hm, hwm, hw2]
 | false =>
  cases f with
  | true =>
   have hne : ¬ to = start := fun h => hc ⟨h, rfl⟩
   have hne' : ¬ (to : Int) = start := by omega
   simp only [Bool.or_true, if_true] at hs hK
   obtain ⟨z1, z2⟩ := List.getElem?_eq_some_iff.1 hs
   obtain ⟨u1, u2⟩ := hwg (sn.set (to * 2 + 1) (.b true))
   have hw1 := hww (sn.set (to * 2 + 1) (.b true))
   have hw2 := hsw true (sn.set (to * 2 + 1) (.b true))
   have hw3 := hss (sn.set (to * 2 + 1) (.b true))
   generalize cH s ver W (sn.set (to * 2 + 1) (.b true)) = C1 at *
   rw [← hK]
   simp [fillC, ir_roles_graph_circle_L5, encRow, hk, hg, hgk, hwi, hne, hne', h1, y2, hs, z2, hv, hl1, hl2, hcx.1, hcx.2, hto, hto1, hset1, hw3, hw1, u2, htk, hle, hm, hwm, hw2]
  | false =>
   simp only [Bool.or_false, Bool.false_eq_true, if_false, Nat.add_zero] at hs hK
   obtain ⟨z1, z2⟩ := List.getElem?_eq_some_iff.1 hs
   obtain ⟨u1, u2⟩ := hwg (sn.set (to * 2) (.b true))
   have hw1 := hww (sn.set (to * 2) (.b true))
   have hw2 := hsw false (sn.set (to * 2) (.b true))
   have hw3 := hss (sn.set (to * 2) (.b true))
   generalize cH s ver W (sn.set (to * 2) (.b true)) = C1 at *
   rw [← hK]
   by_cases hne : to = start
   ·subst hne
    simp [fillC, ir_roles_graph_circle_L5, encRow, hk, hg, hgk, hwi, h1, y2, hs, z2, hv, hl1, hl2, hcx.1, hcx.2, hto, hto1, hset0, hw3, hw1, u2, htk, hle, hm, hwm, hw2]
   ·have hne' : ¬ (to : Int) = start := by omega
    simp [fillC, ir_roles_graph_circle_L5, encRow, hk, hg, hgk, hwi, hne, hne', h1, y2, hs, z2, hv, hl1, hl2, hcx.1, hcx.2, hto, hto1, hset0, hw3, hw1, u2, htk, hle, hm, hwm, hw2]
end Go.Ai.Z
