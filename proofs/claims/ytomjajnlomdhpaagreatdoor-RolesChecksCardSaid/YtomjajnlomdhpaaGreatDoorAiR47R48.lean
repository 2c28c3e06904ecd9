/-
  roles.circle: the contract.
-/
import Derived.Test.YtomjajnlomdhpaaGreatDoorAiR44R45R46
set_option maxRecDepth 100000
set_option linter.unusedSimpArgs false
set_option linter.unusedVariables false
namespace Go.Ai.Z
theorem lH_2 (s : St) (ver : Nat) (W : List W4) (sn : List AV) (a : Nat) (r : List Nat) : (lH (cH s ver W sn) (a :: r))[s.length + 2]? = some (.buf T_int_0 1 r.length ((a :: r).map intV)) := by simp [lH, cH]
theorem s5_end (s : St) (cx : Ctx) (hcx : cx.lim ≤ s.length ∧ cx.base ≤ s.length) (ver : Nat) (W : List W4) (sn : List AV) (acc : List Nat) (hacc : acc.length ≤ 900000) (start : Nat) :
    acallW P0 (.fn (.func F_slices_Reverse_int_int) [] []) [lV (s.length + 2) (acc ++ [start])] (lH (cH s ver W sn) (acc ++ [start])) cx = .ret (.tu []) (cH s ver W sn ++ [.buf T_int_0 1 acc.length ((start :: acc.reverse).map intV)]) := by
  obtain ⟨a, r, e⟩ : ∃ a r, acc ++ [start] = a :: r := by
    cases acc with
    | nil => exact ⟨start, [], rfl⟩
    | cons a r => exact ⟨a, r ++ [start], rfl⟩
  have hlen : r.length = acc.length := by
    have := congrArg List.length e
    simp only [List.length_append, List.length_cons, List.length_nil] at this; omega
  have h := c_slices_Reverse (s.length + 2) T_int_0 r.length ((a :: r).map intV) (by simp; omega) (fun c hc => by
    obtain ⟨n, _, rfl⟩ := List.mem_map.1 hc
    exact ⟨rfl, rfl, rfl⟩) (lH (cH s ver W sn) (a :: r)) (lH_2 s ver W sn a r) cx (by omega)
  have hset : ∀ v, (lH (cH s ver W sn) (a :: r)).set (s.length + 2) v = cH s ver W sn ++ [v] := fun v => by simp [lH, cH]
  rw [hset] at h
  have hrev : ((a :: r).map intV).reverse = (start :: acc.reverse).map intV := by
    rw [← e, ← List.map_reverse]; simp
  rw [hrev, hlen] at h
  rw [e]
  have hl2 : ((a :: r).map intV).length = r.length + 1 := by simp
  rw [hl2] at h
  show acallW P0 _ [.sk (s.length + 2) r.length 1 0 (r.length + 1)] _ cx = _
  rw [hlen] at h ⊢
  exact h
theorem s5_close (s : St) (cx : Ctx) (hcx : cx.lim ≤ s.length ∧ cx.base ≤ s.length) (E : NE) (start most : Nat) (R : List Rl) (gs : List (List (Nat × Bool))) (v ver : Nat) (W : List W4) (Ps : List (List Nat)) (seen : Nat → Bool → Bool) (pre : List (Nat × Bool)) (i : Nat) (hB : BP E start W Ps seen i pre) (hW : W.length ≤ 900000) (w : W4) (hw : W[i]? = some w) (t : List Nat) (ht : Ps[i]? = some t) (htl : t.length ≤ 900000)
    (g : List (Nat × Bool)) (k : Nat) (sn : List AV) (f : Bool) (hk : k < g.length) (hg : g[k] = (start, f)) (hc : (w.strict || f) = true) {K : Env → St → Out} :
    (acodeW P0.glob (acallW P0) cx false ir_roles_graph_circle_L5 (e5 s start most R gs v ver W.length i w g k) (cH s ver W sn)).thn K =
      .exit 0 [(6, .v (.sk (s.length + 2) t.length 1 0 (t.length + 1)))] (cH s ver W sn ++ [.buf T_int_0 1 t.length ((start :: t).map intV)]) := by
  have hi := (List.getElem?_eq_some_iff.1 hw).1
  have e6 := l_circle6 s cx hcx E start W Ps seen i pre hB (by omega) ver sn i i [] t (Nat.le_refl _) hi (by simp; omega) ht
  have er := s5_end s cx hcx ver W sn t.reverse (by simp; omega) start
  rw [List.nil_append] at e6
  have hgk : g[k]? = some (start, f) := by rw [List.getElem?_eq_getElem hk, hg]
  have hm : t.reverse.length + 1 ≤ maxSl := by rw [List.length_reverse]; unfold maxSl; omega
  have hrr : t.reverse.reverse = t := List.reverse_reverse t
  have hrl : t.reverse.length = t.length := List.length_reverse
  rw [hrr] at er
  rw [← hrl]
  clear hB htl hrr hrl
  obtain ⟨role, strict, before, many⟩ := w
  simp only at hc
  have hb : strict = true ∨ (strict = false ∧ f = true) := by cases strict <;> simp_all
  have hl1 : cx.lim ≤ s.length + 2 := by omega
  have hl2 : cx.base ≤ s.length + 2 := by omega
  have hcl := ch_len s ver W sn
  have e60 : lV (s.length + 2) [] = .ns := rfl
  have e61 : lH (cH s ver W sn) [] = cH s ver W sn := rfl
  rw [e60, e61] at e6
  cases hacc : t.reverse with
  | nil =>
    rw [hacc] at e6 er hm
    have l1 : lV (s.length + 2) ([] ++ [start]) = .sk (s.length + 2) 0 1 0 1 := rfl
    have l2 : lH (cH s ver W sn) ([] ++ [start]) = cH s ver W sn ++ [.buf T_int_0 1 0 [.i .i64 start]] := rfl
    rw [l1, l2] at er
    rw [e60, e61] at e6
    simp only [List.length_nil] at er hm ⊢
    generalize cH s ver W sn = CC at *
    rcases hb with rfl | ⟨rfl, rfl⟩
    · simp only [e5, wayC]
      simp [ir_roles_graph_circle_L5, encRow, hk, hg, hgk]
      rw [loopW_keep]
      simp at er
      simp [e6, hm, hcl, er, show 1 ≤ maxSl by unfold maxSl; omega]
    · simp only [e5, wayC]
      simp [ir_roles_graph_circle_L5, encRow, hk, hg, hgk]
      rw [loopW_keep]
      simp at er
      simp [e6, hm, hcl, er, show 1 ≤ maxSl by unfold maxSl; omega]
  | cons a r =>
    rw [hacc] at e6 er hm
    have l1 : lV (s.length + 2) (a :: r ++ [start]) = .sk (s.length + 2) (r.length + 1) 1 0 (r.length + 1 + 1) := by simp [lV]
    have l2 : lH (cH s ver W sn) (a :: r ++ [start]) = cH s ver W sn ++ [.buf T_int_0 1 (r.length + 1) ((a :: r).map intV ++ [.i .i64 start])] := by simp [lH, intV]
    have l3 := lH_2 s ver W sn a r
    have l4 : ∀ v, (lH (cH s ver W sn) (a :: r)).set (s.length + 2) v = cH s ver W sn ++ [v] := fun v => by simp [lH, cH]
    have l5 : lV (s.length + 2) (a :: r) = .sk (s.length + 2) r.length 1 0 (r.length + 1) := rfl
    rw [l1, l2] at er
    rw [l5] at e6
    have htk : ((a :: r).map intV).take (r.length + 1) = (a :: r).map intV := List.take_of_length_le (by simp)
    have hle : r.length + 1 ≤ ((a :: r).map intV).length := by simp
    obtain ⟨y1, y2⟩ := List.getElem?_eq_some_iff.1 l3
    simp only [List.length_cons] at er hm ⊢
    generalize (a :: r).map intV = LL at *
    generalize lH (cH s ver W sn) (a :: r) = HH at *
    generalize cH s ver W sn = CC at *
    rcases hb with rfl | ⟨rfl, rfl⟩
    · simp only [e5, wayC]
      simp [ir_roles_graph_circle_L5, encRow, hk, hg, hgk]
      rw [loopW_keep]
      try simp at er
      simp [e6, hm, hl1, hl2, l3, y2, l4, htk, hle, er]
    · simp only [e5, wayC]
      simp [ir_roles_graph_circle_L5, encRow, hk, hg, hgk]
      rw [loopW_keep]
      try simp at er
      simp [e6, hm, hl1, hl2, l3, y2, l4, htk, hle, er]
end Go.Ai.Z
namespace Go.Ai.Z
theorem BP.plen {E : NE} {start : Nat} {W : List W4} {Ps : List (List Nat)} {seen : Nat → Bool → Bool} {m : Nat} {pre : List (Nat × Bool)} (h : BP E start W Ps seen m pre) : ∀ (N i : Nat) (t : List Nat), i ≤ N → Ps[i]? = some t → t.length ≤ i := by
  intro N
  induction N with
  | zero =>
    intro i t hi ht
    obtain rfl : i = 0 := by omega
    rw [h.head.2] at ht; cases ht; simp
  | succ N ih =>
    intro i t hi ht
    by_cases h0 : i = 0
    · subst h0; rw [h.head.2] at ht; cases ht; simp
    · have hlt := (List.getElem?_eq_some_iff.1 ht).1
      rw [h.len] at hlt
      obtain ⟨hb, t0, e0, rfl⟩ := h.back i W[i] t (by omega) (List.getElem?_eq_getElem hlt) ht
      have := ih _ t0 (by omega) e0
      simp only [List.length_append, List.length_singleton]; omega
theorem take_snoc {α : Type} {g : List α} {k : Nat} {p : α} {rest : List α} (h : g.drop k = p :: rest) : g.take (k + 1) = g.take k ++ [p] := by
  have hk : g[k]? = some p := by
    have := congrArg (fun l => l[0]?) h
    simpa [List.getElem?_drop] using this
  rw [List.take_add_one, hk]; rfl
theorem inc_pre {g : List (Nat × Bool)} (hg : g.Pairwise fun a b => a.1 < b.1) {k : Nat} {p : Nat × Bool} {rest : List (Nat × Bool)} (h : g.drop k = p :: rest) : ∀ q ∈ g.take k, q.1 < p.1 := fun q hq => by
  have h0 : (g.take k ++ g.drop k).Pairwise fun a b => a.1 < b.1 := by rw [List.take_append_drop]; exact hg
  rw [List.pairwise_append] at h0
  exact h0.2.2 q hq p (by rw [h]; simp)
theorem SnOK.at_ {n : Nat} {sn : List AV} {seen : Nat → Bool → Bool} (h : SnOK n sn seen) {r : Nat} (hr : r < n) (b : Bool) : sn[r * 2 + (if b = true then 1 else 0)]? = some (.b (seen r b)) := by
  obtain ⟨h1, h2⟩ := h.2 r hr
  cases b
  · simpa using h1
  · simpa using h2
theorem l_circle5 (s : St) (cx : Ctx) (hcx : cx.lim ≤ s.length ∧ cx.base ≤ s.length) (start most : Nat) (R : List Rl) (gs : List (List (Nat × Bool))) (hG : GrW gs) (hn : gs.length ≤ 100000) (hs : start < gs.length) (i : Nat) (w : W4) (t : List Nat) (g : List (Nat × Bool)) (hgw : gs[w.role]? = some g) :
    ∀ (rest : List (Nat × Bool)) (k : Nat) (W : List W4) (Ps : List (List Nat)) (seen : Nat → Bool → Bool) (sn : List AV) (ver : Nat), g.drop k = rest → BP (gE gs) start W Ps seen i (g.take k) → W[i]? = some w → Ps[i]? = some t → SnOK gs.length sn seen →
    (∃ (W' : List W4) (Ps' : List (List Nat)) (seen' : Nat → Bool → Bool) (sn' : List AV) (ver' : Nat) (j : Int), loopW (acodeW P0.glob (acallW P0) cx false ir_roles_graph_circle_L5) [1, 2, 3, 6, 7, 8, 9, 10, 46, 47, 48] (e5 s start most R gs gs.length ver W.length i w g k) (cH s ver W sn) =
        .exit 2 (e5 s start most R gs gs.length ver' W'.length i w g j ++ [(49, .v (.b false))]) (cH s ver' W' sn') ∧ BP (gE gs) start W' Ps' seen' i g ∧ W'[i]? = some w ∧ SnOK gs.length sn' seen') ∨
    (∃ (W' : List W4) (sn' : List AV) (ver' : Nat) (f : Bool), loopW (acodeW P0.glob (acallW P0) cx false ir_roles_graph_circle_L5) [1, 2, 3, 6, 7, 8, 9, 10, 46, 47, 48] (e5 s start most R gs gs.length ver W.length i w g k) (cH s ver W sn) =
        .exit 0 [(6, .v (.sk (s.length + 2) t.length 1 0 (t.length + 1)))] (cH s ver' W' sn' ++ [.buf T_int_0 1 t.length ((start :: t).map intV)]) ∧ (w.role, start, f) ∈ gE gs ∧ (w.strict || f) = true)
  | [], k, W, Ps, seen, sn, ver, h, hB, hw, ht, hS => by
    have h1 : ¬ k < g.length := Nat.not_lt.2 (drop_nil h)
    have htk : g.take k = g := List.take_of_length_le (drop_nil h)
    rw [htk] at hB
    refine .inl ⟨W, Ps, seen, sn, ver, k, loop_step fun K hK => ?_, hB, hw, hS⟩
    simp [ir_roles_graph_circle_L5, e5, wayC, encRow, h1]
  | (to, f) :: rest, k, W, Ps, seen, sn, ver, h, hB, hw, ht, hS => by
    obtain ⟨g1, g2, g3, g4⟩ := drop_cons h
    have g5 := g4 g3
    have hp : (to, f) ∈ g := by rw [← g5]; exact List.getElem_mem g3
    have hgm := List.mem_of_getElem? hgw
    have hto := hG.lt g hgm (to, f) hp
    have hE : (w.role, to, f) ∈ gE gs := mem_gE.2 ⟨g, hgw, hp⟩
    have hpre := inc_pre (hG.inc g hgm) h
    have htk := take_snoc h
    have hWl := hB.few hG hs
    have htl := hB.plen i i t (Nat.le_refl _) ht
    have hil := (List.getElem?_eq_some_iff.1 hw).1
    have hmany := (hB.way i w t hw ht).2
    by_cases hc : to = start ∧ (w.strict || f) = true
    · obtain ⟨rfl, hc⟩ := hc
      exact .inr ⟨W, sn, ver, f, loop_step fun K hK => s5_close s cx hcx (gE gs) to most R gs gs.length ver W Ps seen (g.take k) i hB (by omega) w hw t ht (by omega) g k sn f g3 g5 hc, hE, hc⟩
    · have hsn := hS.at_ hto (w.strict || f)
      have hkk : k ≤ 1000000 := by
        have : (g.take k).length ≤ gs.length := by
          have hnd : ((g.take k).map (·.1)).Nodup := by
            rw [List.nodup_iff_pairwise_ne, List.pairwise_map]
            exact ((hG.inc g hgm).sublist (List.take_sublist _ _)).imp fun {a b} hab he => by omega
          have := nodupG_le (U := List.range gs.length) hnd fun x hx => by
            obtain ⟨q, hq, rfl⟩ := List.mem_map.1 hx
            exact List.mem_range.2 (hG.lt g hgm q (List.mem_of_mem_take hq))
          simpa using this
        rw [List.length_take] at this; omega
      cases hse : seen to (w.strict || f) with
      | true =>
        rw [hse] at hsn
        have hB' := hB.old hw ht (f := f) hc hse hpre
        rw [← htk] at hB'
        rcases l_circle5 s cx hcx start most R gs hG hn hs i w t g hgw rest (k + 1) W Ps seen sn ver g2 hB' hw ht hS with ⟨W', Ps', seen', sn', ver', j, e, r⟩ | ⟨W', sn', ver', f', e, r⟩
        · exact .inl ⟨W', Ps', seen', sn', ver', j, loop_step fun K hK => s5_old s cx start most R gs gs.length ver W i w g k sn to f g3 hkk g5 hto hc hS.1 hsn (by rw [hK]; exact e), r⟩
        · exact .inr ⟨W', sn', ver', f', loop_step fun K hK => s5_old s cx start most R gs gs.length ver W i w g k sn to f g3 hkk g5 hto hc hS.1 hsn (by rw [hK]; exact e), r⟩
      | false =>
        rw [hse] at hsn
        have hB' := hB.new hw ht hE hc hse hpre
        rw [← htk] at hB'
        have hS' := hS.set hto (w.strict || f)
        rcases l_circle5 s cx hcx start most R gs hG hn hs i w t g hgw rest (k + 1) _ _ _ _ (ver + 1) g2 hB' (getElem?_keep hw) (getElem?_keep ht) hS' with ⟨W', Ps', seen', sn', ver', j, e, r⟩ | ⟨W', sn', ver', f', e, r⟩
        · rw [List.length_append, List.length_singleton] at e
          exact .inl ⟨W', Ps', seen', sn', ver', j, loop_step fun K hK => s5_new s cx hcx start most R gs gs.length ver W (by omega) i w (by omega) g k sn to f g3 hkk g5 hto hc hS.1 hsn (by rw [hK]; exact e), r⟩
        · rw [List.length_append, List.length_singleton] at e
          exact .inr ⟨W', sn', ver', f', loop_step fun K hK => s5_new s cx hcx start most R gs gs.length ver W (by omega) i w (by omega) g k sn to f g3 hkk g5 hto hc hS.1 hsn (by rw [hK]; exact e), r⟩
def e4 (s : St) (start most : Nat) (R : List Rl) (gs : List (List (Nat × Bool))) (ver m i : Nat) : Env :=
  [(1, .v (.i .i64 start)), (2, .v (.i .i64 most)), (3, .bx [slf true (R.map .s), slf true (gs.map encRow)]), (6, .v .ns), (7, .v (.sk s.length ver 4 0 m)), (8, .v (.sk (s.length + 1) 0 2 0 gs.length)), (9, .v (.i .i64 i))]
inductive CRes (s : St) (start most : Nat) (R : List Rl) (gs : List (List (Nat × Bool))) : Out → Prop where
  | done (ver : Nat) (W : List W4) (sn : List AV) (i : Nat) (h : ∀ t', Circ (gE gs) (start :: t') → most ≤ t'.length + 1) : CRes s start most R gs (.exit 0 (e4 s start most R gs ver W.length i ++ [(29, .v (.b false))]) (cH s ver W sn))
  | stop (ver : Nat) (W : List W4) (sn : List AV) (i : Nat) (w : W4) (h : ∀ t', Circ (gE gs) (start :: t') → most ≤ t'.length + 1) : CRes s start most R gs (.exit 0 (e4 s start most R gs ver W.length i ++ [(10, .bx (wayC w)), (40, .v (.b true))]) (cH s ver W sn))
  | found (ver : Nat) (W : List W4) (sn : List AV) (t : List Nat) (h1 : Circ (gE gs) (start :: t)) (h2 : t.length + 1 < most) (h3 : ∀ t', Circ (gE gs) (start :: t') → ¬ SlN t' t) (h4 : t.length ≤ 900000) : CRes s start most R gs (.exit 0 [(6, .v (.sk (s.length + 2) t.length 1 0 (t.length + 1)))] (cH s ver W sn ++ [.buf T_int_0 1 t.length ((start :: t).map intV)]))
theorem l_circle4 (s : St) (cx : Ctx) (hcx : cx.lim ≤ s.length ∧ cx.base ≤ s.length) (start most : Nat) (R : List Rl) (gs : List (List (Nat × Bool))) (hG : GrW gs) (hn : gs.length ≤ 100000) (hs : start < gs.length) :
    ∀ (N i : Nat) (W : List W4) (Ps : List (List Nat)) (seen : Nat → Bool → Bool) (sn : List AV) (ver : Nat), gs.length * 2 ≤ i + N → i ≤ W.length → BP (gE gs) start W Ps seen i [] → SnOK gs.length sn seen →
    CRes s start most R gs (loopW (acodeW P0.glob (acallW P0) cx false ir_roles_graph_circle_L4) [1, 2, 3, 6, 7, 8, 9] (e4 s start most R gs ver W.length i) (cH s ver W sn)) := by
  intro N
  induction N with
  | zero =>
    intro i W Ps seen sn ver h1 h2 hB hS
    have hWl := hB.few hG hs
    have hi : i = W.length := by omega
    have hlt : ¬ (i : Int) < W.length := by omega
    have e : loopW (acodeW P0.glob (acallW P0) cx false ir_roles_graph_circle_L4) [1, 2, 3, 6, 7, 8, 9] (e4 s start most R gs ver W.length i) (cH s ver W sn) = .exit 0 (e4 s start most R gs ver W.length i ++ [(29, .v (.b false))]) (cH s ver W sn) := by
      refine loop_step fun K hK => ?_
      have hlt' : ¬ i < W.length := by omega
      simp [ir_roles_graph_circle_L4, e4, hlt']
    rw [e]
    exact .done ver W sn i fun t' hc => (hB.done hi hc).elim
  | succ N ih =>
    intro i W Ps seen sn ver h1 h2 hB hS
    have hWl := hB.few hG hs
    by_cases hi : i < W.length
    · have hw : W[i]? = some W[i] := List.getElem?_eq_getElem hi
      obtain ⟨t, ht⟩ := hB.at_ hw
      have hway := hB.way i W[i] t hw ht
      have htl := hB.plen i i t (Nat.le_refl _) ht
      have hrl := wk_lt hG hway.1 hs
      have hgw : gs[W[i].role]? = some gs[W[i].role] := List.getElem?_eq_getElem hrl
      obtain ⟨wa1, wa2⟩ := wayC_at hw
      have hww := ch_w s ver W sn
      obtain ⟨y1, y2⟩ := List.getElem?_eq_some_iff.1 hww
      have hwl := wayC_len W
      have hwm := wI (i := W[i].many) (by omega)
      have hq : i * 4 + 4 ≤ (W.flatMap wayC).length := by omega
      by_cases hmost : most ≤ W[i].many + 1
      · have e : loopW (acodeW P0.glob (acallW P0) cx false ir_roles_graph_circle_L4) [1, 2, 3, 6, 7, 8, 9] (e4 s start most R gs ver W.length i) (cH s ver W sn) = .exit 0 (e4 s start most R gs ver W.length i ++ [(10, .bx (wayC W[i])), (40, .v (.b true))]) (cH s ver W sn) := by
          refine loop_step fun K hK => ?_
          have hmost' : (most : Int) ≤ (W[i].many : Int) + 1 := by omega
          clear hK ih hB hS hG hway hwl
          generalize W[i] = w at *
          simp only [wayC] at wa1 ⊢
          generalize W.flatMap _ = WW at *
          generalize cH s ver W sn = CC at *
          simp [ir_roles_graph_circle_L4, e4, hi, hww, y2, wa1, hq, hwm, hmost, hmost']
        rw [e]
        exact .stop ver W sn i W[i] fun t' hc => hB.stop hw hmost hc
      · have hmost' : ¬ (most : Int) ≤ (W[i].many : Int) + 1 := by omega
        have l5 := l_circle5 s cx hcx start most R gs hG hn hs i W[i] t gs[W[i].role] hgw gs[W[i].role] 0 W Ps seen sn ver rfl hB hw ht hS
        have hall : ∀ o : Out, loopW (acodeW P0.glob (acallW P0) cx false ir_roles_graph_circle_L5) [1, 2, 3, 6, 7, 8, 9, 10, 46, 47, 48] (e5 s start most R gs gs.length ver W.length i W[i] gs[W[i].role] 0) (cH s ver W sn) = o →
            ∀ K, (acodeW P0.glob (acallW P0) cx false ir_roles_graph_circle_L4 (e4 s start most R gs ver W.length i) (cH s ver W sn)).thn K = ((((o.blk 2).blk 1).thn (acodeW P0.glob (acallW P0) cx false (.region [⟨(some 30), none, .mov (.t 9)⟩, ⟨(some 31), none, .bin .add (.t 30) (.c (.i .i64 1))⟩, ⟨(some 9), none, .asg (.t 31)⟩] none [1, 2, 3, 6, 7, 8, 9]))).thn K) := by
          intro o ho K
          clear ih hB hS hG hway hwl l5
          generalize W[i] = w at *
          simp only [e5, wayC, encRow] at wa1 ho
          generalize W.flatMap _ = WW at *
          generalize cH s ver W sn = CC at *
          simp [ir_roles_graph_circle_L4, e4, encRow, hi, hww, y2, wa1, hq, hwm, hmost, hmost', hgw, hrl, ho]
        rcases l5 with ⟨W', Ps', seen', sn', ver', j, e, b1, b2, b3⟩ | ⟨W', sn', ver', f, e, b1, b2⟩
        · have hWl' := b1.few hG hs
          have hwi := wI (i := i) (by omega)
          have e' : loopW (acodeW P0.glob (acallW P0) cx false ir_roles_graph_circle_L4) [1, 2, 3, 6, 7, 8, 9] (e4 s start most R gs ver W.length i) (cH s ver W sn) = loopW (acodeW P0.glob (acallW P0) cx false ir_roles_graph_circle_L4) [1, 2, 3, 6, 7, 8, 9] (e4 s start most R gs ver' W'.length (i + 1)) (cH s ver' W' sn') := by
            refine loop_step fun K hK => ?_
            refine (hall _ e K).trans ?_
            rw [← hK]
            simp [e5, e4, hwi]
          rw [e']
          exact ih (i + 1) W' Ps' seen' sn' ver' (by omega) (by have := (List.getElem?_eq_some_iff.1 b2).1; omega) (b1.next b2 fun q f he => by
            obtain ⟨g, hg1, hg2⟩ := mem_gE.1 he
            rw [hgw] at hg1; cases hg1
            exact hg2) b3
        · have e' : loopW (acodeW P0.glob (acallW P0) cx false ir_roles_graph_circle_L4) [1, 2, 3, 6, 7, 8, 9] (e4 s start most R gs ver W.length i) (cH s ver W sn) = .exit 0 [(6, .v (.sk (s.length + 2) t.length 1 0 (t.length + 1)))] (cH s ver' W' sn' ++ [.buf T_int_0 1 t.length ((start :: t).map intV)]) := by
            refine loop_step fun K hK => ?_
            refine (hall _ e K).trans ?_
            simp
          rw [e']
          obtain ⟨c1, c2⟩ := hB.closed hw ht b1 b2
          exact .found ver' W' sn' t c1 (by omega) c2 (by omega)
    · have hi' : i = W.length := by omega
      have e : loopW (acodeW P0.glob (acallW P0) cx false ir_roles_graph_circle_L4) [1, 2, 3, 6, 7, 8, 9] (e4 s start most R gs ver W.length i) (cH s ver W sn) = .exit 0 (e4 s start most R gs ver W.length i ++ [(29, .v (.b false))]) (cH s ver W sn) := by
        refine loop_step fun K hK => ?_
        simp [ir_roles_graph_circle_L4, e4, hi]
      rw [e]
      exact .done ver W sn i fun t' hc => (hB.done hi' hc).elim
def optV : Option (List Nat) → AV
  | none => .ns
  | some c => .sl (c.map intV)
theorem frz_ints {H : St} {n a ver : Nat} {c : List Nat} (ha : n ≤ a) (h : H[a]? = some (.buf T_int_0 1 ver (c.map intV))) : frz H n (.sk a ver 1 0 c.length) = some (.sl (c.map intV)) := by
  have hu : (AV.sk a ver 1 0 c.length).under n = false := by simp [AV.under]; omega
  unfold frz
  rw [if_neg (by rw [hu]; exact Bool.false_ne_true), show (6 : Nat) = 5 + 1 from rfl, frz1, if_neg (by rw [hu]; exact Bool.false_ne_true)]
  have hl : (c.map intV).length = c.length := List.length_map _
  have ht : ((c.map intV).drop 0).take (c.length * 1) = c.map intV := by rw [List.drop_zero, List.take_of_length_le (by omega)]
  have hc : 0 + c.length * 1 ≤ (c.map intV).length := by omega
  have h1 : (c.map intV).all AV.one = true := List.all_eq_true.2 fun x hx => by
    obtain ⟨k, _, rfl⟩ := List.mem_map.1 hx; rfl
  have hm : (c.map intV).mapM (frz1 H n 5) = some (c.map intV) := mapM_one fun x hx => by
    obtain ⟨k, _, rfl⟩ := List.mem_map.1 hx
    exact frz1_under rfl
  simp only [h, hc, and_self, if_true, ht, hm, Option.bind_some, Nat.zero_lt_one, h1, chunk_one c.length (c.map intV) hl]
def CircOK (gs : List (List (Nat × Bool))) (start most : Nat) : Option (List Nat) → Prop
  | none => ∀ t', Circ (gE gs) (start :: t') → most ≤ t'.length + 1
  | some c => ∃ t, c = start :: t ∧ Circ (gE gs) (start :: t) ∧ t.length + 1 < most ∧ ∀ t', Circ (gE gs) (start :: t') → ¬ SlN t' t
theorem c_roles_circle (start most : Nat) (R : List Rl) (hR : R.length ≤ 100000) (gs : List (List (Nat × Bool))) (hG : GrW gs) (hgR : gs.length = R.length) (hs : start < gs.length) (s : St) (cx : Ctx) :
    ∃ o, acallW P0 (.fn (.func F_roles_graph_circle) [] []) [.ag [slf true (R.map .s), slf true (gs.map encRow)], .i .i64 start, .i .i64 most] s cx = .ret (optV o) s ∧ CircOK gs start most o := by
  have l4 := l_circle4 s ⟨s.length, s.length⟩ ⟨Nat.le_refl _, Nat.le_refl _⟩ start most R gs hG (by omega) hs (gs.length * 2) 0 [⟨start, false, 0, 0⟩] [[]] (fun r b => decide (r = start) && !b) ((List.replicate (gs.length * 2) (.b false)).set (start * 2) (.b true)) 0 (by omega) (Nat.zero_le _) (BP.start (gE gs) start) ⟨by simp, fun r hr => by
    refine ⟨?_, ?_⟩
    · by_cases hrs : r = start
      · subst hrs; rw [List.getElem?_set_self (by simp; omega)]; simp
      · rw [List.getElem?_set_ne (by omega), List.getElem?_replicate, if_pos (by omega)]; simp [hrs]
    · rw [List.getElem?_set_ne (by omega), List.getElem?_replicate, if_pos (by omega)]; simp⟩
  have hfl : (List.replicate gs.length [AV.b false, AV.b false]).flatten = List.replicate (gs.length * 2) (.b false) := by
    generalize gs.length = n
    induction n with
    | zero => rfl
    | succ n ih => rw [List.replicate_succ, List.flatten_cons, ih, show (n + 1) * 2 = n * 2 + 1 + 1 by omega, List.replicate_succ, List.replicate_succ]; rfl
  have h16 : R.length ≤ 16777216 := by omega
  have hrl' : start * 2 + 1 ≤ R.length * 2 := by omega
  have hst : start < R.length := by omega
  have hset : (List.replicate (gs.length * 2) (AV.b false)).take (start * 2) ++ .b true :: (List.replicate (gs.length * 2) (AV.b false)).drop (start * 2 + 1) = (List.replicate (gs.length * 2) (AV.b false)).set (start * 2) (.b true) := set_splice (by rw [List.length_replicate]; omega)
  have hlr : (List.replicate (gs.length * 2) (AV.b false)).length = gs.length * 2 := List.length_replicate
  generalize (List.replicate (gs.length * 2) (AV.b false)) = rep at *
  rw [hgR] at hfl
  have hrl : start * 2 + 1 ≤ rep.length := by omega
  have ho := slf_one true (R.map AV.s)
  have ho2 := slf_one true (gs.map encRow)
  generalize hsn0 : rep.set (start * 2) (.b true) = sn0 at *
  generalize hL : loopW (acodeW P0.glob (acallW P0) ⟨s.length, s.length⟩ false ir_roles_graph_circle_L4) [1, 2, 3, 6, 7, 8, 9] (e4 s start most R gs 0 [(⟨start, false, 0, 0⟩ : W4)].length 0) (cH s 0 [⟨start, false, 0, 0⟩] sn0) = L at l4
  simp only [e4, cH, wayC, List.flatMap_cons, List.flatMap_nil, List.length_singleton, hgR, Int.ofNat_zero] at hL
  simp at hL
  cases l4 with
  | done ver W sn i h =>
    refine ⟨none, ?_, h⟩
    refine go_roles_graph_circle (by simp) ?_
    have hf : frz (cH s ver W sn) s.length .ns = some .ns := by unfold frz; rw [if_pos (show AV.ns.under s.length = true from rfl)]
    have hne : ¬ (cH s ver W sn).length = s.length := by rw [ch_len]; omega
    simp only [e4] at hL
    generalize cH s ver W sn = CC at *
    clear h hG
    simp [callFnW, ir_roles_graph_circle, fillC, hfl, h16, hst, hset, hrl, hrl', ho, ho2, hL, hf, hne, optV]
  | stop ver W sn i w h =>
    refine ⟨none, ?_, h⟩
    refine go_roles_graph_circle (by simp) ?_
    have hf : frz (cH s ver W sn) s.length .ns = some .ns := by unfold frz; rw [if_pos (show AV.ns.under s.length = true from rfl)]
    have hne : ¬ (cH s ver W sn).length = s.length := by rw [ch_len]; omega
    simp only [e4] at hL
    generalize cH s ver W sn = CC at *
    clear h hG
    simp [callFnW, ir_roles_graph_circle, fillC, hfl, h16, hst, hset, hrl, hrl', ho, ho2, hL, hf, hne, optV]
  | found ver W sn t h1 h2 h3 h4 =>
    refine ⟨some (start :: t), ?_, t, rfl, h1, h2, h3⟩
    refine go_roles_graph_circle (by simp) ?_
    have hf : frz (cH s ver W sn ++ [.buf T_int_0 1 t.length ((start :: t).map intV)]) s.length (.sk (s.length + 2) t.length 1 0 (t.length + 1)) = some (.sl ((start :: t).map intV)) :=
      frz_ints (c := start :: t) (by omega) (by simp [cH])
    have hne : ¬ (cH s ver W sn ++ [HObj.buf T_int_0 1 t.length ((start :: t).map intV)]).length = s.length := by rw [List.length_append, ch_len]; omega
    generalize hLL : (start :: t).map intV = LL at *
    have hLL' : intV start :: t.map intV = LL := hLL
    generalize cH s ver W sn ++ [HObj.buf T_int_0 1 t.length LL] = CC at *
    clear h1 h3 hG
    simp [callFnW, ir_roles_graph_circle, fillC, hfl, h16, hst, hset, hrl, hrl', ho, ho2, hL, hf, hne, optV, hLL']
end Go.Ai.Z
