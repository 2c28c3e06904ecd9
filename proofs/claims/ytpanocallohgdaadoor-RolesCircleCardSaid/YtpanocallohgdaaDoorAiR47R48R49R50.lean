/-
 roles.circle: the contract.
-/
import Derived.Test.YtpanocallohgdaaDoorAiR44R45R46
set_option maxRecDepth 100000
set_option linter.unusedSimpArgs false
set_option linter.unusedVariables false
namespace Go.Ai.Z
theorem lH_2 (s : St) (ver : Nat) (W : List W4) (sn : List AV) (a : Nat) (r : List Nat) : (lH (cH s ver W sn) (a :: r))[s.length + 2]? = some (.buf T_int_0 1 r.length ((a :: r).map intV)) := by simp [lH, cH]
theorem s5_end (s : St) (cx : Ctx) (hcx : cx.lim ≤ s.length ∧ cx.base ≤ s.length) (ver : Nat) (W : List W4) (sn : List AV) (acc : List Nat) (hacc : acc.length ≤ 900000) (start : Nat) :
  acallW P0 (.fn (.func F_slices_Reverse_int_int) [] []) [lV (s.length + 2) (acc ++ [start])] (lH (cH s ver W sn) (acc ++ [start])) cx = .ret (.tu []) (cH s ver W sn ++ [.buf T_int_0 1 acc.length ((start :: acc.reverse).map intV)]) := by
 obtain ⟨a, r, e⟩ : ∃ a r, acc ++ [start] = a :: r := by
  cases acc with
  | nil => exact ⟨start, [], rfl⟩
  | cons a r => exact ⟨a, r ++ [start], rfl⟩
 have hlen : r.length = acc.length := by
  have := congrArg List.length e
  simp only [List.length_append, List.length_cons, List.length_nil] at this; omega
 have h := c_slices_Reverse (s.length + 2) T_int_0 r.length ((a :: r).map intV) (by simp; omega) (fun c hc => by
  obtain ⟨n, _, rfl⟩ := List.mem_map.1 hc
  exact ⟨rfl, rfl, rfl⟩) (lH (cH s ver W sn) (a :: r)) (lH_2 s ver W sn a r) cx (by omega)
 have hset : ∀ v, (lH (cH s ver W sn) (a :: r)).set (s.length + 2) v = cH s ver W sn ++ [v] := fun v => by simp [lH, cH]
 rw [hset] at h
 have hrev : ((a :: r).map intV).reverse = (start :: acc.reverse).map intV := by
  rw [← e, ← List.map_reverse]; simp
 rw [hrev, hlen] at h
 rw [e]
 have hl2 : ((a :: r).map intV).length = r.length + 1 := by simp
 rw [hl2] at h
 show acallW P0 _ [.sk (s.length + 2) r.length 1 0 (r.length + 1)] _ cx = _
 rw [hlen] at h ⊢
 exact h
theorem s5_close (s : St) (cx : Ctx) (hcx : cx.lim ≤ s.length ∧ cx.base ≤ s.length) (E : NE) (start most : Nat) (R : List Rl) (gs : List (List (Nat × Bool))) (v ver : Nat) (W : List W4) (Ps : List (List Nat)) (seen : Nat → Bool → Bool) (pre : List (Nat × Bool)) (i : Nat) (hB : BP E start W Ps seen i pre) (hW : W.length ≤ 900000) (w : W4) (hw : W[i]? = some w) (t : List Nat) (ht : Ps[i]? = some t) (htl : t.length ≤ 900000)
  (g : List (Nat × Bool)) (k : Nat) (sn : List AV) (f : Bool) (hk : k < g.length) (hg : g[k] = (start, f)) (hc : (w.strict || f) = true) {K : Env → St → Out} :
  (acodeW P0.glob (acallW P0) cx false ir_roles_graph_circle_L5 (e5 s start most R gs v ver W.length i w g k) (cH s ver W sn)).thn K =
   .exit 0 [(6, .v (.sk (s.length + 2) t.length 1 0 (t.length + 1)))] (cH s ver W sn ++ [.buf T_int_0 1 t.length ((start :: t).map intV)]) := by
 have hi := (List.getElem?_eq_some_iff.1 hw).1
 have e6 := l_circle6 s cx hcx E start W Ps seen i pre hB (by omega) ver sn i i [] t (Nat.le_refl _) hi (by simp; omega) ht
 have er := s5_end s cx hcx ver W sn t.reverse (by simp; omega) start
 rw [List.nil_append] at e6
 have hgk : g[k]? = some (start, f) := by rw [List.getElem?_eq_getElem hk, hg]
 have hm : t.reverse.length + 1 ≤ maxSl := by rw [List.length_reverse]; unfold maxSl; omega
 have hrr : t.reverse.reverse = t := List.reverse_reverse t
 have hrl : t.reverse.length = t.length := List.length_reverse
 rw [hrr] at er
 rw [← hrl]
 clear hB htl hrr hrl
 obtain ⟨role, strict, before, many⟩ := w
 simp only at hc
 have hb : strict = true ∨ (strict = false ∧ f = true) := by cases strict <;> simp_all
 have hl1 : cx.lim ≤ s.length + 2 := by omega
 have hl2 : cx.base ≤ s.length + 2 := by omega
 have hcl := ch_len s ver W sn
 have e60 : lV (s.length + 2) [] = .ns := rfl
 have e61 : lH (cH s ver W sn) [] = cH s ver W sn := rfl
 rw [e60, e61] at e6
 cases hacc : t.reverse with
 | nil =>
  rw [hacc] at e6 er hm
  have l1 : lV (s.length + 2) ([] ++ [start]) = .sk (s.length + 2) 0 1 0 1 := rfl
  have l2 : lH (cH s ver W sn) ([] ++ [start]) = cH s ver W sn ++ [.buf T_int_0 1 0 [.i .i64 start]] := rfl
  rw [l1, l2] at er
  rw [e60, e61] at e6
  simp only [List.length_nil] at er hm ⊢
  generalize cH s ver W sn = CC at *
  rcases hb with rfl | ⟨rfl, rfl⟩
  ·simp only [e5, wayC]
   simp [ir_roles_graph_circle_L5, encRow, hk, hg, hgk]
   rw [loopW_keep]
   simp at er
   simp [e6, hm, hcl, er, show 1 ≤ maxSl by unfold maxSl; omega]
  ·simp only [e5, wayC]
   simp [ir_roles_graph_circle_L5, encRow, hk, hg, hgk]
   rw [loopW_keep]
   simp at er
   simp [e6, hm, hcl, er, show 1 ≤ maxSl by unfold maxSl; omega]
 | cons a r =>
  rw [hacc] at e6 er hm
  have l1 : lV (s.length + 2) (a :: r ++ [start]) = .sk (s.length + 2) (r.length + 1) 1 0 (r.length + 1 + 1) := by simp [lV]
  have l2 : lH (cH s ver W sn) (a :: r ++ [start]) = cH s ver W sn ++ [.buf T_int_0 1 (r.length + 1) ((a :: r).map intV ++ [.i .i64 start])] := by simp [lH, intV]
  have l3 := lH_2 s ver W sn a r
  have l4 : ∀ v, (lH (cH s ver W sn) (a :: r)).set (s.length + 2) v = cH s ver W sn ++ [v] := fun v => by simp [lH, cH]
  have l5 : lV (s.length + 2) (a :: r) = .sk (s.length + 2) r.length 1 0 (r.length + 1) := rfl
  rw [l1, l2] at er
  rw [l5] at e6
  have htk : ((a :: r).map intV).take (r.length + 1) = (a :: r).map intV := List.take_of_length_le (by simp)
  have hle : r.length + 1 ≤ ((a :: r).map intV).length := by simp
  obtain ⟨y1, y2⟩ := List.getElem?_eq_some_iff.1 l3
  simp only [List.length_cons] at er hm ⊢
  generalize (a :: r).map intV = LL at *
  generalize lH (cH s ver W sn) (a :: r) = HH at *
  generalize cH s ver W sn = CC at *
  rcases hb with rfl | ⟨rfl, rfl⟩
  ·simp only [e5, wayC]
   simp [ir_roles_graph_circle_L5, encRow, hk, hg, hgk]
   rw [loopW_keep]
   try simp at er
   simp [e6, hm, hl1, hl2, l3, y2, l4, htk, hle, er]
  ·simp only [e5, wayC]
   simp [ir_roles_graph_circle_L5, encRow, hk, hg, hgk]
   rw [loopW_keep]
   try simp at er
   simp [e6, hm, hl1, hl2, l3, y2, l4, htk, hle, er]
end Go.Ai.Z
namespace Go.Ai.Z
theorem BP.plen {E : NE} {start : Nat} {W : List W4} {Ps : List (List Nat)} {seen : Nat → Bool → Bool} {m : Nat} {pre : List (Nat × Bool)} (h : BP E start W Ps seen m pre) : ∀ (N i : Nat) (t : List Nat), i ≤ N → Ps[i]? = some t → t.length ≤ i := by
 intro N
 induction N with
 | zero =>
  intro i t hi ht
  obtain rfl : i = 0 := by omega
  rw [h.head.2] at ht; cases ht; simp
 | succ N ih =>
  intro i t hi ht
  by_cases h0 : i = 0
  ·subst h0; rw [h.head.2] at ht; cases ht; simp
  ·have hlt := (List.getElem?_eq_some_iff.1 ht).1
   rw [h.len] at hlt
   obtain ⟨hb, t0, e0, rfl⟩ := h.back i W[i] t (by omega) (List.getElem?_eq_getElem hlt) ht
   have := ih _ t0 (by omega) e0
   simp only [List.length_append, List.length_singleton]; omega
theorem take_snoc {α : Type} {g : List α} {k : Nat} {p : α} {rest : List α} (h : g.drop k = p :: rest) : g.take (k + 1) = g.take k ++ [p] := by
 have hk : g[k]? = some p := by
  have := congrArg (fun l => l[0]?) h
  simpa [List.getElem?_drop] using this
 rw [List.take_add_one, hk]; rfl
theorem inc_pre {g : List (Nat × Bool)} (hg : g.Pairwise fun a b => a.1 < b.1) {k : Nat} {p : Nat × Bool} {rest : List (Nat × Bool)} (h : g.drop k = p :: rest) : ∀ q ∈ g.take k, q.1 < p.1 := fun q hq => by
 have h0 : (g.take k ++ g.drop k).Pairwise fun a b => a.1 < b.1 := by rw [List.take_append_drop]; exact hg
 rw [List.pairwise_append] at h0
 exact h0.2.2 q hq p (by rw [h]; simp)
theorem SnOK.at_ {n : Nat} {sn : List AV} {seen : Nat → Bool → Bool} (h : SnOK n sn seen) {r : Nat} (hr : r < n) (b : Bool) : sn[r * 2 + (if b = true then 1 else 0)]? = some (.b (seen r b)) := by
 obtain ⟨h1, h2⟩ := h.2 r hr
 cases b
 ·simpa using h1
 ·simpa using h2
theorem l_circle5 (s : St) (cx : Ctx) (hcx : cx.lim ≤ s.length ∧ cx.base ≤ s.length) (start most : Nat) (R : List Rl) (gs : List (List (Nat × Bool))) (hG : GrW gs) (hn : gs.length ≤ 100000) (hs : start < gs.length) (i : Nat) (w : W4) (t : List Nat) (g : List (Nat × Bool)) (hgw : gs[w.role]? = some g) :
  ∀ (rest : List (Nat × Bool)) (k : Nat) (W : List W4) (Ps : List (List Nat)) (seen : Nat → Bool → Bool) (sn : List AV) (ver : Nat), g.drop k = rest → BP (gE gs) start W Ps seen i (g.take k) → W[i]? = some w → Ps[i]? = some t → SnOK gs.length sn seen →
  (∃ (W' : List W4) (Ps' : List (List Nat)) (seen' : Nat → Bool → Bool) (sn' : List AV) (ver' : Nat) (j : Int), loopW (acodeW P0.glob (acallW P0) cx false ir_roles_graph_circle_L5) [1, 2, 3, 6, 7, 8, 9, 10, 46, 47, 48] (e5 s start most R gs gs.length ver W.length i w g k) (cH s ver W sn) =
      .exit 2 (e5 s start most R gs gs.length ver' W'.length i w g j ++ [(49, .v (.b false))]) (cH s ver' W' sn') ∧ BP (gE gs) start W' Ps' seen' i g ∧ W'[i]? = some w ∧ SnOK gs.length sn' seen') ∨
  (∃ (W' : List W4) (sn' : List AV) (ver' : Nat) (f : Bool), loopW (acodeW P0.glob (acallW P0) cx false ir_roles_graph_circle_L5) [1, 2, 3, 6, 7, 8, 9, 10, 46, 47, 48] (e5 s start most R gs gs.length ver W.length i w g k) (cH s ver W sn) =
      .exit 0 [(6, .v (.sk (s.length + 2) t.length 1 0 (t.length + 1)))] (cH s ver' W' sn' ++ [.buf T_int_0 1 t.length ((start :: t).map intV)]) ∧ (w.role, start, f) ∈ gE gs ∧ (w.strict || f) = true)
 | [], k, W, Ps, seen, sn, ver, h, hB, hw, ht, hS => by
  have h1 : ¬ k < g.length := Nat.not_lt.2 (drop_nil h)
  have htk : g.take k = g := List.take_of_length_le (drop_nil h)
  rw [htk] at hB
  refine .inl ⟨W, Ps, seen, sn, ver, k, loop_step fun K hK => ?_, hB, hw, hS⟩
  simp [ir_roles_graph_circle_L5, e5, wayC, encRow, h1]
 | (to, f) :: rest, k, W, Ps, seen, sn, ver, h, hB, hw, ht, hS => by
  obtain ⟨g1, g2, g3, g4⟩ := drop_cons h
  have g5 := g4 g3
  have hp : (to, f) ∈ g := by rw [← g5]; exact List.getElem_mem g3
  have hgm := List.mem_of_getElem? hgw
  have hto := hG.lt g hgm (to, f) hp
  have hE : (w.role, to, f) ∈ gE gs := mem_gE.2 ⟨g, hgw, hp⟩
  have hpre := inc_pre (hG.inc g hgm) h
  have htk := take_snoc h
  have hWl := hB.few hG hs
  have htl := hB.plen i i t (Nat.le_refl _) ht
  have hil := (List.getElem?_eq_some_iff.1 hw).1
  have hmany := (hB.way i w t hw ht).2
  by_cases hc : to = start ∧ (w.strict || f) = true
  ·obtain ⟨rfl, hc⟩ := hc
   exact .inr ⟨W, sn, ver, f, loop_step fun K hK => s5_close s cx hcx (gE gs) to most R gs gs.length ver W Ps seen (g.take k) i hB (by omega) w hw t ht (by omega) g k sn f g3 g5 hc, hE, hc⟩
  ·have hsn := hS.at_ hto (w.strict || f)
   have hkk : k ≤ 1000000 := by
    have : (g.take k).length ≤ gs.length := by
     have hnd : ((g.take k).map (·.1)).Nodup := by
      rw [List.nodup_iff_pairwise_ne, List.pairwise_map]
      exact ((hG.inc g hgm).sublist (List.take_sublist _ _)).imp fun {a b} hab he => by omega
     have := nodupG_le (U := List.range gs.length) hnd fun x hx => by
      obtain ⟨q, hq, rfl⟩ := List.mem_map.1 hx
      exact List.mem_range.2 (hG.lt g hgm q (List.mem_of_mem_take hq))
     simpa using this
    rw [List.length_take] at this; omega
   cases hse : seen to (w.strict || f) with
   | true =>
    rw [hse] at hsn
    have hB' := hB.old hw ht (f := f) hc hse hpre
    rw [← htk] at hB'
    rcases l_circle5 s cx hcx start most R gs hG hn hs i w t g hgw rest (k + 1) W Ps seen sn ver g2 hB' hw ht hS with ⟨W', Ps', seen', sn', ver', j, e, r⟩ | ⟨W', sn', ver', f', e, r⟩
    ·exact .inl ⟨W', Ps', seen', sn', ver', j, loop_step fun K hK => s5_old s cx start most R gs gs.length ver W i w g k sn to f g3 hkk g5 hto hc hS.1 hsn (by rw [hK]; exact e), r⟩
    ·exact .inr ⟨W', sn', ver', f', loop_step fun K hK => s5_old s cx start most R gs gs.length ver W i w g k sn to f g3 hkk g5 hto hc hS.1 hsn (by rw [hK]; exact e), r⟩
   | false =>
    rw [hse] at hsn
    have hB' := hB.new hw ht hE hc hse hpre
    rw [← htk] at hB'
    have hS' := hS.set hto (w.strict || f)
    rcases l_circle5 s cx hcx start most R gs hG hn hs i w t g hgw rest (k + 1) _ _ _ _ (ver + 1) g2 hB' (getElem?_keep hw) (getElem?_keep ht) hS' with ⟨W', Ps', seen', sn', ver', j, e, r⟩ | ⟨W', sn', ver', f', e, r⟩
    ·rw [List.length_append, List.length_singleton] at e
     exact .inl ⟨W', Ps', seen', sn', ver', j, loop_step fun K hK => s5_new s cx hcx start most R gs gs.length ver W (by omega) i w (by omega) g k sn to f g3 hkk g5 hto hc hS.1 hsn (by rw [hK]; exact e), r⟩
    ·rw [List.length_append, List.length_singleton] at e
     exact .inr ⟨W', sn', ver', f', loop_step fun K hK => s5_new s cx hcx start most R gs gs.length ver W (by omega) i w (by omega) g k sn to f g3 hkk g5 hto hc hS.1 hsn (by rw [hK]; exact e), r⟩
def e4 (s : St) (start most : Nat) (R : List Rl) (gs : List (List (Nat × Bool))) (ver m i : Nat) : Env :=
 [(1, .v (.i .i64 start)), (2, .v (.i .i64 most)), (3, .bx [slf true (R.map .s), slf true (gs.map encRow)]), (6, .v .ns), (7, .v (.sk s.length ver 4 0 m)), (8, .v (.sk (s.length + 1) 0 2 0 gs.length)), (9, .v (.i .i64 i))]
inductive CRes (s : St) (start most : Nat) (R : List Rl) (gs : List (List (Nat × Bool))) : Out → Prop where
 | done (ver : Nat) (W : List W4) (sn : List AV) (i : Nat) (h : ∀ t', Circ (gE gs) (start :: t') → most ≤ t'.length + 1) : CRes s start most R gs (.exit 0 (e4 s start most R gs ver W.length i ++ [(29, .v (.b false))]) (cH s ver W sn))
 | stop (ver : Nat) (W : List W4) (sn : List AV) (i : Nat) (w : W4) (h : ∀ t', Circ (gE gs) (start :: t') → most ≤ t'.length + 1) : CRes s start most R gs (.exit 0 (e4 s start most R gs ver W.length i ++ [(10, .bx (wayC w)), (40, .v (.b true))]) (cH s ver W sn))
 | found (ver : Nat) (W : List W4) (sn : List AV) (t : List Nat) (h1 : Circ (gE gs) (start :: t)) (h2 : t.length + 1 < most) (h3 : ∀ t', Circ (gE gs) (start :: t') → ¬ SlN t' t) (h4 : t.length ≤ 900000) : CRes s start most R gs (.exit 0 [(6, .v (.sk (s.length + 2) t.length 1 0 (t.length + 1)))] (cH s ver W sn ++ [.buf T_int_0 1 t.length ((start :: t).map intV)]))
theorem l_circle4 (s : St) (cx : Ctx) (hcx : cx.lim ≤ s.length ∧ cx.base ≤ s.length) (start most : Nat) (R : List Rl) (gs : List (List (Nat × Bool))) (hG : GrW gs) (hn : gs.length ≤ 100000) (hs : start < gs.length) :
  ∀ (N i : Nat) (W : List W4) (Ps : List (List Nat)) (seen : Nat → Bool → Bool) (sn : List AV) (ver : Nat), gs.length * 2 ≤ i + N → i ≤ W.length → BP (gE gs) start W Ps seen i [] → SnOK gs.length sn seen →
  CRes s start most R gs (loopW (acodeW P0.glob (acallW P0) cx false ir_roles_graph_circle_L4) [1, 2, 3, 6, 7, 8, 9] (e4 s start most R gs ver W.length i) (cH s ver W sn)) := by
 intro N
 induction N with
 | zero =>
  intro i W Ps seen sn ver h1 h2 hB hS
  have hWl := hB.few hG hs
  have hi : i = W.length := by omega
  have hlt : ¬ (i : Int) < W.length := by omega
  have e : loopW (acodeW P0.glob (acallW P0) cx false ir_roles_graph_circle_L4) [1, 2, 3, 6, 7, 8, 9] (e4 s start most R gs ver W.length i) (cH s ver W sn) = .exit 0 (e4 s start most R gs ver W.length i ++ [(29, .v (.b false))]) (cH s ver W sn) := by
   refine loop_step fun K hK => ?_
   have hlt' : ¬ i < W.length := by omega
   simp [ir_roles_graph_circle_L4, e4, hlt']
  rw [e]
  exact .done ver W sn i fun t' hc => (hB.done hi hc).elim
 | succ N ih =>
  intro i W Ps seen sn ver h1 h2 hB hS
  have hWl := hB.few hG hs
  by_cases hi : i < W.length
  ·have hw : W[i]? = some W[i] := List.getElem?_eq_getElem hi
   obtain ⟨t, ht⟩ := hB.at_ hw
   have hway := hB.way i W[i] t hw ht
   have htl := hB.plen i i t (Nat.le_refl _) ht
   have hrl := wk_lt hG hway.1 hs
   have hgw : gs[W[i].role]? = some gs[W[i].role] := List.getElem?_eq_getElem hrl
   obtain ⟨wa1, wa2⟩ := wayC_at hw
   have hww := ch_w s ver W sn
   obtain ⟨y1, y2⟩ := List.getElem?_eq_some_iff.1 hww
   have hwl := wayC_len W
   have hwm := wI (i := W[i].many) (by omega)
   have hq : i * 4 + 4 ≤ (W.flatMap wayC).length := by omega
   by_cases hmost : most ≤ W[i].many + 1
   ·have e : loopW (acodeW P0.glob (acallW P0) cx false ir_roles_graph_circle_L4) [1, 2, 3, 6, 7, 8, 9] (e4 s start most R gs ver W.length i) (cH s ver W sn) = .exit 0 (e4 s start most R gs ver W.length i ++ [(10, .bx (wayC W[i])), (40, .v (.b true))]) (cH s ver W sn) := by
     refine loop_step fun K hK => ?_
     have hmost' : (most : Int) ≤ (W[i].many : Int) + 1 := by omega
     clear hK ih hB hS hG hway hwl
     generalize W[i] = w at *
     simp only [wayC] at wa1 ⊢
     generalize W.flatMap _ = WW at *
     generalize cH s ver W sn = CC at *
     simp [ir_roles_graph_circle_L4, e4, hi, hww, y2, wa1, hq, hwm, hmost, hmost']
    rw [e]
    exact .stop ver W sn i W[i] fun t' hc => hB.stop hw hmost hc
   ·have hmost' : ¬ (most : Int) ≤ (W[i].many : Int) + 1 := by omega
    have l5 := l_circle5 s cx hcx start most R gs hG hn hs i W[i] t gs[W[i].role] hgw gs[W[i].role] 0 W Ps seen sn ver rfl hB hw ht hS
    have hall : ∀ o : Out, loopW (acodeW P0.glob (acallW P0) cx false ir_roles_graph_circle_L5) [1, 2, 3, 6, 7, 8, 9, 10, 46, 47, 48] (e5 s start most R gs gs.length ver W.length i W[i] gs[W[i].role] 0) (cH s ver W sn) = o →
      ∀ K, (acodeW P0.glob (acallW P0) cx false ir_roles_graph_circle_L4 (e4 s start most R gs ver W.length i) (cH s ver W sn)).thn K = ((((o.blk 2).blk 1).thn (acodeW P0.glob (acallW P0) cx false (.region [⟨(some 30), none, .mov (.t 9)⟩, ⟨(some 31), none, .bin .add (.t 30) (.c (.i .i64 1))⟩, ⟨(some 9), none, .asg (.t 31)⟩] none [1, 2, 3, 6, 7, 8, 9]))).thn K) := by
     intro o ho K
     clear ih hB hS hG hway hwl l5
     generalize W[i] = w at *
     simp only [e5, wayC, encRow] at wa1 ho
     generalize W.flatMap _ = WW at *
     generalize cH s ver W sn = CC at *
     simp [ir_roles_graph_circle_L4, e4, encRow, hi, hww, y2, wa1, hq, hwm, hmost, hmost', hgw, hrl, ho]
    rcases l5 with ⟨W', Ps', seen', sn', ver', j, e, b1, b2, b3⟩ | ⟨W', sn', ver', f, e, b1, b2⟩
    ·have hWl' := b1.few hG hs
     have hwi := wI (i := i) (by omega)
     have e' : loopW (acodeW P0.glob (acallW P0) cx false ir_roles_graph_circle_L4) [1, 2, 3, 6, 7, 8, 9] (e4 s start most R gs ver W.length i) (cH s ver W sn) = loopW (acodeW P0.glob (acallW P0) cx false ir_roles_graph_circle_L4) [1, 2, 3, 6, 7, 8, 9] (e4 s start most R gs ver' W'.length (i + 1)) (cH s ver' W' sn') := by
      refine loop_step fun K hK => ?_
      refine (hall _ e K).trans ?_
      rw [← hK]
      simp [e5, e4, hwi]
     rw [e']
     exact ih (i + 1) W' Ps' seen' sn' ver' (by omega) (by have := (List.getElem?_eq_some_iff.1 b2).1; omega) (b1.next b2 fun q f he => by
      obtain ⟨g, hg1, hg2⟩ := mem_gE.1 he
      rw [hgw] at hg1; cases hg1
      exact hg2) b3
    ·have e' : loopW (acodeW P0.glob (acallW P0) cx false ir_roles_graph_circle_L4) [1, 2, 3, 6, 7, 8, 9] (e4 s start most R gs ver W.length i) (cH s ver W sn) = .exit 0 [(6, .v (.sk (s.length + 2) t.length 1 0 (t.length + 1)))] (cH s ver' W' sn' ++ [.buf T_int_0 1 t.length ((start :: t).map intV)]) := by
      refine loop_step fun K hK => ?_
      refine (hall _ e K).trans ?_
      simp
     rw [e']
     obtain ⟨c1, c2⟩ := hB.closed hw ht b1 b2
     exact .found ver' W' sn' t c1 (by omega) c2 (by omega)
  ·have hi' : i = W.length := by omega
   have e : loopW (acodeW P0.glob (acallW P0) cx false ir_roles_graph_circle_L4) [1, 2, 3, 6, 7, 8, 9] (e4 s start most R gs ver W.length i) (cH s ver W sn) = .exit 0 (e4 s start most R gs ver W.length i ++ [(29, .v (.b false))]) (cH s ver W sn) := by
    refine loop_step fun K hK => ?_
    simp [ir_roles_graph_circle_L4, e4, hi]
   rw [e]
   exact .done ver W sn i fun t' hc => (hB.done hi' hc).elim
def optV : Option (List Nat) → AV
 | none => .ns
 | some c => .sl (c.map intV)
theorem frz_ints {H : St} {n a ver : Nat} {c : List Nat} (ha : n ≤ a) (h : H[a]? = some (.buf T_int_0 1 ver (c.map intV))) : frz H n (.sk a ver 1 0 c.length) = some (.sl (c.map intV)) := by
 have hu : (AV.sk a ver 1 0 c.length).under n = false := by simp [AV.under]; omega
 unfold frz
 rw [if_neg (by rw [hu]; exact Bool.false_ne_true), show (6 : Nat) = 5 + 1 from rfl, frz1, if_neg (by rw [hu]; exact Bool.false_ne_true)]
 have hl : (c.map intV).length = c.length := List.length_map _
 have ht : ((c.map intV).drop 0).take (c.length * 1) = c.map intV := by rw [List.drop_zero, List.take_of_length_le (by omega)]
 have hc : 0 + c.length * 1 ≤ (c.map intV).length := by omega
 have h1 : (c.map intV).all AV.one = true := List.all_eq_true.2 fun x hx => by
  obtain ⟨k, _, rfl⟩ := List.mem_map.1 hx; rfl
 have hm : (c.map intV).mapM (frz1 H n 5) = some (c.map intV) := mapM_one fun x hx => by
  obtain ⟨k, _, rfl⟩ := List.mem_map.1 hx
  exact frz1_under rfl
 simp only [h, hc, and_self, if_true, ht, hm, Option.bind_some, Nat.zero_lt_one, h1, chunk_one c.length (c.map intV) hl]
def CircOK (gs : List (List (Nat × Bool))) (start most : Nat) : Option (List Nat) → Prop
 | none => ∀ t', Circ (gE gs) (start :: t') → most ≤ t'.length + 1
 | some c => ∃ t, c = start :: t ∧ Circ (gE gs) (start :: t) ∧ t.length + 1 < most ∧ ∀ t', Circ (gE gs) (start :: t') → ¬ SlN t' t
theorem c_roles_circle (start most : Nat) (R : List Rl) (hR : R.length ≤ 100000) (gs : List (List (Nat × Bool))) (hG : GrW gs) (hgR : gs.length = R.length) (hs : start < gs.length) (s : St) (cx : Ctx) :
  ∃ o, acallW P0 (.fn (.func F_roles_graph_circle) [] []) [.ag [slf true (R.map .s), slf true (gs.map encRow)], .i .i64 start, .i .i64 most] s cx = .ret (optV o) s ∧ CircOK gs start most o := by
 have l4 := l_circle4 s ⟨s.length, s.length⟩ ⟨Nat.le_refl _, Nat.le_refl _⟩ start most R gs hG (by omega) hs (gs.length * 2) 0 [⟨start, false, 0, 0⟩] [[]] (fun r b => decide (r = start) && !b) ((List.replicate (gs.length * 2) (.b false)).set (start * 2) (.b true)) 0 (by omega) (Nat.zero_le _) (BP.start (gE gs) start) ⟨by simp, fun r hr => by
  refine ⟨?_, ?_⟩
  ·by_cases hrs : r = start
   ·subst hrs; rw [List.getElem?_set_self (by simp; omega)]; simp
   ·rw [List.getElem?_set_ne (by omega), List.getElem?_replicate, if_pos (by omega)]; simp [hrs]
  ·rw [List.getElem?_set_ne (by omega), List.getElem?_replicate, if_pos (by omega)]; simp⟩
 have hfl : (List.replicate gs.length [AV.b false, AV.b false]).flatten = List.replicate (gs.length * 2) (.b false) := by
  generalize gs.length = n
  induction n with
  | zero => rfl
  | succ n ih => rw [List.replicate_succ, List.flatten_cons, ih, show (n + 1) * 2 = n * 2 + 1 + 1 by omega, List.replicate_succ, List.replicate_succ]; rfl
 have h16 : R.length ≤ 16777216 := by omega
 have hrl' : start * 2 + 1 ≤ R.length * 2 := by omega
 have hst : start < R.length := by omega
 have hset : (List.replicate (gs.length * 2) (AV.b false)).take (start * 2) ++ .b true :: (List.replicate (gs.length * 2) (AV.b false)).drop (start * 2 + 1) = (List.replicate (gs.length * 2) (AV.b false)).set (start * 2) (.b true) := set_splice (by rw [List.length_replicate]; omega)
 have hlr : (List.replicate (gs.length * 2) (AV.b false)).length = gs.length * 2 := List.length_replicate
 generalize (List.replicate (gs.length * 2) (AV.b false)) = rep at *
 rw [hgR] at hfl
 have hrl : start * 2 + 1 ≤ rep.length := by omega
 have ho := slf_one true (R.map AV.s)
 have ho2 := slf_one true (gs.map encRow)
 generalize hsn0 : rep.set (start * 2) (.b true) = sn0 at *
 generalize hL : loopW (acodeW P0.glob (acallW P0) ⟨s.length, s.length⟩ false ir_roles_graph_circle_L4) [1, 2, 3, 6, 7, 8, 9] (e4 s start most R gs 0 [(⟨start, false, 0, 0⟩ : W4)].length 0) (cH s 0 [⟨start, false, 0, 0⟩] sn0) = L at l4
 simp only [e4, cH, wayC, List.flatMap_cons, List.flatMap_nil, List.length_singleton, hgR, Int.ofNat_zero] at hL
 simp at hL
 cases l4 with
 | done ver W sn i h =>
  refine ⟨none, ?_, h⟩
  refine go_roles_graph_circle (by simp) ?_
  have hf : frz (cH s ver W sn) s.length .ns = some .ns := by unfold frz; rw [if_pos (show AV.ns.under s.length = true from rfl)]
  have hne : ¬ (cH s ver W sn).length = s.length := by rw [ch_len]; omega
  simp only [e4] at hL
  generalize cH s ver W sn = CC at *
  clear h hG
  simp [callFnW, ir_roles_graph_circle, fillC, hfl, h16, hst, hset, hrl, hrl', ho, ho2, hL, hf, hne, optV]
 | stop ver W sn i w h =>
  refine ⟨none, ?_, h⟩
  refine go_roles_graph_circle (by simp) ?_
  have hf : frz (cH s ver W sn) s.length .ns = some .ns := by unfold frz; rw [if_pos (show AV.ns.under s.length = true from rfl)]
  have hne : ¬ (cH s ver W sn).length = s.length := by rw [ch_len]; omega
  simp only [e4] at hL
  generalize cH s ver W sn = CC at *
  clear h hG
  simp [callFnW, ir_roles_graph_circle, fillC, hfl, h16, hst, hset, hrl, hrl', ho, ho2, hL, hf, hne, optV]
 | found ver W sn t h1 h2 h3 h4 =>
  refine ⟨some (start :: t), ?_, t, rfl, h1, h2, h3⟩
  refine go_roles_graph_circle (by simp) ?_
  have hf : frz (cH s ver W sn ++ [.buf T_int_0 1 t.length ((start :: t).map intV)]) s.length (.sk (s.length + 2) t.length 1 0 (t.length + 1)) = some (.sl ((start :: t).map intV)) :=
   frz_ints (c := start :: t) (by omega) (by simp [cH])
  have hne : ¬ (cH s ver W sn ++ [HObj.buf T_int_0 1 t.length ((start :: t).map intV)]).length = s.length := by rw [List.length_append, ch_len]; omega
  generalize hLL : (start :: t).map intV = LL at *
  have hLL' : intV start :: t.map intV = LL := hLL
  generalize cH s ver W sn ++ [HObj.buf T_int_0 1 t.length LL] = CC at *
  clear h1 h3 hG
  simp [callFnW, ir_roles_graph_circle, fillC, hfl, h16, hst, hset, hrl, hrl', ho, ho2, hL, hf, hne, optV, hLL']
end Go.Ai.Z
namespace Go.Ai.Z
theorem mg_from {r t : Rl} {f : Bool} : ∀ (E : RE) (a : Option Bool), E.foldl (fun a k => if k.1 = r ∧ k.2.1 = t then some (a.getD false || k.2.2) else a) a = some f → (r, t, f) ∈ E ∨ a = some f
 | [], a, h => .inr h
 | k :: E, a, h => by
  simp only [List.foldl_cons] at h
  rcases mg_from E _ h with h | h
  ·exact .inl (by simp [h])
  ·split at h
   ·rename_i hk
    obtain ⟨k1, k2, k3⟩ := k
    simp only at hk h
    obtain ⟨rfl, rfl⟩ := hk
    by_cases h3 : k3 = f
    ·subst h3; exact .inl (by simp)
    ·right
     cases a with
     | none => cases k3 <;> cases f <;> simp_all
     | some a0 =>
      simp at h
      cases a0 <;> cases k3 <;> cases f <;> simp_all
   ·exact .inr h
theorem mg_some {E : RE} {r t : Rl} {f : Bool} (h : mg E r t = some f) : (r, t, f) ∈ E := by
 rcases mg_from E none h with h | h
 ·exact h
 ·cases h
theorem mg_keep {r t : Rl} : ∀ (E : RE) (g : Bool), ∃ f', E.foldl (fun a k => if k.1 = r ∧ k.2.1 = t then some (a.getD false || k.2.2) else a) (some g) = some f' ∧ (g = true → f' = true)
 | [], g => ⟨g, rfl, fun h => h⟩
 | k :: E, g => by
  simp only [List.foldl_cons]
  split
  ·obtain ⟨f', h1, h2⟩ := mg_keep (r := r) (t := t) E (g || k.2.2)
   exact ⟨f', h1, fun hg => h2 (by simp [hg])⟩
  ·exact mg_keep E g
theorem mg_mem {r t : Rl} {f : Bool} : ∀ (E : RE) (a : Option Bool), (r, t, f) ∈ E → ∃ f', E.foldl (fun a k => if k.1 = r ∧ k.2.1 = t then some (a.getD false || k.2.2) else a) a = some f' ∧ (f = true → f' = true)
 | k :: E, a, h => by
  simp only [List.foldl_cons]
  rcases List.mem_cons.1 h with rfl | h
  ·simp only [and_self, if_true]
   obtain ⟨f', h1, h2⟩ := mg_keep (r := r) (t := t) E (a.getD false || f)
   exact ⟨f', h1, fun hf => h2 (by simp [hf])⟩
  ·exact mg_mem E _ h
theorem posR_get {R : List Rl} (hR : Srt R) {j : Nat} (hj : j < R.length) : posR R R[j] = j := by
 have hm : R[j] ∈ R := List.getElem_mem hj
 have h1 := posR_mem hR hm
 obtain ⟨hl, he⟩ := List.getElem?_eq_some_iff.1 h1
 have hp := List.pairwise_iff_getElem.1 hR
 rcases Nat.lt_trichotomy (posR R R[j]) j with h | h | h
 ·have := hp _ _ hl hj h
  rw [he] at this; exact absurd this (List.lt_irrefl _)
 ·exact h
 ·have := hp _ _ hj hl h
  rw [he] at this; exact absurd this (List.lt_irrefl _)
structure GrE (R : List Rl) (gs : List (List (Nat × Bool))) (E : RE) : Prop where
 srt : Srt R
 mem : ∀ r, r ∈ R ↔ ∃ t, mg E r t ≠ none
 inv : GInv R (mg E) R.length gs
variable {R : List Rl} {gs : List (List (Nat × Bool))} {E : RE}
theorem GrE.froms (h : GrE R gs E) {r t : Rl} {f : Bool} (he : (r, t, f) ∈ E) : r ∈ R := (h.mem r).2 ⟨t, by
 obtain ⟨f', h1, _⟩ := mg_mem E none he
 show mg E r t ≠ none
 rw [show mg E r t = some f' from h1]; simp⟩
theorem GrE.edge (h : GrE R gs E) {r t : Rl} {f : Bool} (he : (r, t, f) ∈ E) (ht : t ∈ R) : ∃ f', (posR R r, posR R t, f') ∈ gE gs ∧ (f = true → f' = true) := by
 have hr := h.froms he
 obtain ⟨f', h1, h2⟩ := mg_mem E none he
 have hp := posR_mem h.srt hr
 have hl := (List.getElem?_eq_some_iff.1 hp).1
 obtain ⟨g, g1, g2⟩ := h.inv.2 _ r hl hp
 exact ⟨f', mem_gE.2 ⟨g, g1, (g2.mem (posR R t, f')).2 ⟨t, ht, h1, rfl⟩⟩, h2⟩
def nmR (R : List Rl) (i : Nat) : Rl := R.getD i []
theorem nm_pos (hR : Srt R) {x : Rl} (hx : x ∈ R) : nmR R (posR R x) = x := by
 simp [nmR, List.getD, posR_mem hR hx]
theorem GrE.back (h : GrE R gs E) {a b : Nat} {f : Bool} (he : (a, b, f) ∈ gE gs) : (nmR R a, nmR R b, f) ∈ E ∧ a < R.length ∧ b < R.length := by
 obtain ⟨g, g1, g2⟩ := mem_gE.1 he
 have ha := (List.getElem?_eq_some_iff.1 g1).1
 rw [h.inv.1] at ha
 have hra : R[a]? = some R[a] := List.getElem?_eq_getElem ha
 obtain ⟨g', g3, g4⟩ := h.inv.2 a R[a] ha hra
 rw [g1] at g3; cases g3
 obtain ⟨t, t1, t2, t3⟩ := (g4.mem (b, f)).1 g2
 simp only at t2 t3
 subst t3
 have hp := posR_mem h.srt t1
 refine ⟨?_, ha, (List.getElem?_eq_some_iff.1 hp).1⟩
 rw [nm_pos h.srt t1, show nmR R a = R[a] by simp [nmR, List.getD, hra]]
 exact mg_some t2
theorem GrE.wkb (h : GrE R gs E) {a : Nat} {t : List Nat} {d : Nat} {b : Bool} (hw : Wk (gE gs) a t d b) : Wk E (nmR R a) (t.map (nmR R)) (nmR R d) b := by
 induction hw with
 | nil c => exact .nil _
 | cons he _ ih => exact .cons (h.back he).1 ih
theorem GrE.circb (h : GrE R gs E) {l : List Nat} (hc : Circ (gE gs) l) : Circ E (l.map (nmR R)) := by
 obtain ⟨c, t, r, b, f, rfl, h1, h2, h3⟩ := hc
 exact ⟨nmR R c, t.map (nmR R), nmR R r, b, f, rfl, h.wkb h1, (h.back h2).1, h3⟩
theorem GrE.wkf (h : GrE R gs E) {c : Rl} {t : List Rl} {r : Rl} {b : Bool} (hw : Wk E c t r b) (ht : ∀ x ∈ t, x ∈ R) : ∃ b', Wk (gE gs) (posR R c) (t.map (posR R)) (posR R r) b' ∧ (b = true → b' = true) := by
 induction hw with
 | nil c => exact ⟨false, .nil _, fun h => h⟩
 | @cons c s f t r b he _ ih =>
  obtain ⟨f', e1, e2⟩ := h.edge he (ht s (by simp))
  obtain ⟨b', w1, w2⟩ := ih fun x hx => ht x (by simp [hx])
  exact ⟨f' || b', .cons e1 w1, fun hb => by
   rcases Bool.or_eq_true _ _ ▸ hb with hb | hb
   ·simp [e2 hb]
   ·simp [w2 hb]⟩
theorem GrE.inR (h : GrE R gs E) {l : List Rl} (hc : Circ E l) : ∀ x ∈ l, x ∈ R := fun x hx => by
 obtain ⟨p, hp, rfl⟩ := List.mem_map.1 (hc.froms x hx)
 exact h.froms hp
theorem GrE.circf (h : GrE R gs E) {l : List Rl} (hc : Circ E l) : Circ (gE gs) (l.map (posR R)) := by
 have hin := h.inR hc
 obtain ⟨c, t, r, b, f, rfl, h1, h2, h3⟩ := hc
 obtain ⟨b', w1, w2⟩ := h.wkf h1 fun x hx => hin x (by simp [hx])
 obtain ⟨f', e1, e2⟩ := h.edge h2 (hin c (by simp))
 refine ⟨posR R c, t.map (posR R), posR R r, b', f', rfl, w1, e1, ?_⟩
 rcases Bool.or_eq_true _ _ ▸ h3 with hb | hb
 ·simp [w2 hb]
 ·simp [e2 hb]
theorem GrE.inN (h : GrE R gs E) {l : List Nat} (hc : Circ (gE gs) l) : ∀ x ∈ l, x < R.length := fun x hx => by
 obtain ⟨p, hp, rfl⟩ := List.mem_map.1 (hc.froms x hx)
 obtain ⟨a, b, f⟩ := p
 exact (h.back hp).2.1
theorem lx_pos (hR : Srt R) : ∀ {d : List Rl} {li : List Nat}, (∀ x ∈ d, x ∈ R) → (∀ j ∈ li, j < R.length) → LxR d (li.map (nmR R)) → Lx (fun a b : Nat => a < b) (d.map (posR R)) li
 | [], _, _, _, h => h.elim
 | _ :: _, [], _, _, h => h.elim
 | x :: d, j :: li, hd, hl, h => by
  have hx := hd x (by simp)
  have hj := hl j (by simp)
  have hnj : nmR R j = R[j] := by simp [nmR, List.getD, List.getElem?_eq_getElem hj]
  rcases h with h | ⟨h, h'⟩
  ·left
   rw [hnj] at h
   have h1 := (posR_mono hR hx (List.getElem_mem hj)).2 h
   rwa [posR_get hR hj] at h1
  ·right
   refine ⟨?_, lx_pos hR (fun y hy => hd y (by simp [hy])) (fun k hk => hl k (by simp [hk])) h'⟩
   rw [h, hnj, posR_get hR hj]
theorem GrE.best (h : GrE R gs E) {li : List Nat} (hB : Best (fun a b : Nat => a < b) (gE gs) li) : Best (fun a b : Rl => a < b) E (li.map (nmR R)) := by
 refine ⟨h.circb hB.1, fun d hd hs => hB.2 _ (h.circf hd) ?_⟩
 rcases hs with hs | ⟨e, hs⟩
 ·exact .inl (by simpa using hs)
 ·exact .inr ⟨by simpa using e, lx_pos h.srt (h.inR hd) (h.inN hB.1) hs⟩
def CInv (gs : List (List (Nat × Bool))) (n i : Nat) (least : Option (List Nat)) (most : Nat) : Prop :=
 match least with
 | none => most = n + 1 ∧ ∀ st t', st < i → Circ (gE gs) (st :: t') → n + 1 ≤ t'.length + 1
 | some c => most = c.length ∧ Circ (gE gs) c ∧ (∀ a r, c = a :: r → a < i) ∧ ∀ st t', st < i → Circ (gE gs) (st :: t') → ¬ SlN (st :: t') c
theorem sl_cons {a : Nat} {t t' : List Nat} (h : SlN (a :: t') (a :: t)) : SlN t' t := by
 rcases h with h | ⟨e, h⟩
 ·exact .inl (by simpa using h)
 ·rcases h with h | ⟨_, h⟩
  ·exact absurd h (Nat.lt_irrefl _)
  ·exact .inr ⟨by simpa using e, h⟩
theorem CInv.none_ {n i : Nat} {least : Option (List Nat)} {most : Nat} (h : CInv gs n i least most) (ho : CircOK gs i most none) : CInv gs n (i + 1) least most := by
 cases least with
 | none =>
  refine ⟨h.1, fun st t' hst hc => ?_⟩
  by_cases hi : st = i
  ·subst hi; have := ho t' hc; rw [h.1] at this; exact this
  ·exact h.2 st t' (by omega) hc
 | some c =>
  refine ⟨h.1, h.2.1, fun a r e => by have := h.2.2.1 a r e; omega, fun st t' hst hc hs => ?_⟩
  by_cases hi : st = i
  ·subst hi
   have hl := ho t' hc
   rw [h.1] at hl
   rcases hs with hs | ⟨e, hs⟩
   ·simp only [List.length_cons] at hs; omega
   ·cases hcc : c with
    | nil => rw [hcc] at hs; exact hs
    | cons a r =>
     have := h.2.2.1 a r hcc
     rw [hcc] at hs
     rcases hs with hs | ⟨he, _⟩ <;> omega
  ·exact h.2.2.2 st t' (by omega) hc hs
theorem CInv.some_ {n i : Nat} {least : Option (List Nat)} {most : Nat} (h : CInv gs n i least most) {d : List Nat} (ho : CircOK gs i most (some d)) : CInv gs n (i + 1) (some d) d.length := by
 obtain ⟨t, rfl, h1, h2, h3⟩ := ho
 refine ⟨rfl, h1, fun a r e => by cases e; omega, fun st t' hst hc hs => ?_⟩
 by_cases hi : st = i
 ·subst hi
  exact h3 t' hc (sl_cons hs)
 ·have hst' : st < i := by omega
  have hle : t'.length ≤ t.length := by
   rcases hs with hs | ⟨e, _⟩
   ·simp only [List.length_cons] at hs; omega
   ·simp only [List.length_cons] at e; omega
  cases least with
  | none =>
   have := h.2 st t' hst' hc
   rw [h.1] at h2; omega
  | some c =>
   refine h.2.2.2 st t' hst' hc (.inl ?_)
   rw [h.1] at h2
   simp only [List.length_cons]; omega
theorem CInv.end_ (hG : GrE R gs E) {least : Option (List Nat)} {most : Nat} (h : CInv gs R.length R.length least most) : match least with
  | none => ∀ c, ¬ Circ E c
  | some c => Best (fun a b : Rl => a < b) E (c.map (nmR R)) := by
 cases least with
 | none =>
  intro c hc
  obtain ⟨d, hd, hn, _⟩ := circ_simple _ (Nat.le_refl _) (hG.circf hc)
  have hlt := hG.inN hd
  have hlen := nodupG_le (U := List.range R.length) hn fun x hx => List.mem_range.2 (hlt x hx)
  rw [List.length_range] at hlen
  cases d with
  | nil => obtain ⟨_, _, _, _, _, e, _⟩ := hd; cases e
  | cons a t =>
   have := h.2 a t (hlt a (by simp)) hd
   simp only [List.length_cons] at hlen; omega
 | some c =>
  refine hG.best ⟨h.2.1, fun d hd hs => ?_⟩
  cases d with
  | nil => obtain ⟨_, _, _, _, _, e, _⟩ := hd; cases e
  | cons a t => exact h.2.2.2 a t (hG.inN hd a (by simp)) hd hs
end Go.Ai.Z
namespace Go.Ai.Z
theorem GrE.grW {R : List Rl} {gs : List (List (Nat × Bool))} {E : RE} (h : GrE R gs E) : GrW gs := by
 have key : ∀ g ∈ gs, ∃ r, RowOK R (mg E r) g := fun g hg => by
  obtain ⟨k, hk⟩ := List.mem_iff_getElem?.1 hg
  have hkl := (List.getElem?_eq_some_iff.1 hk).1
  rw [h.inv.1] at hkl
  obtain ⟨g', g1, g2⟩ := h.inv.2 k R[k] hkl (List.getElem?_eq_getElem hkl)
  rw [hk] at g1; cases g1
  exact ⟨_, g2⟩
 refine ⟨fun g hg => ?_, fun g hg p hp => ?_⟩
 ·obtain ⟨r, hr⟩ := key g hg; exact hr.inc
 ·obtain ⟨r, hr⟩ := key g hg
  obtain ⟨t, t1, _, t3⟩ := (hr.mem p).1 hp
  rw [t3, h.inv.1]
  exact (List.getElem?_eq_some_iff.1 (posR_mem h.srt t1)).1
def namesU (l : List Ax) : List Rl := l.flatMap fun x => x.role :: x.roles
theorem chE_mem {x : Ax} {k : Rl × Rl × Bool} : ∀ {rs : List Rl} {i : Nat}, k ∈ chE x i rs → k.1 ∈ rs ∧ k.2.1 = x.role
 | [], _, h => by cases h
 | r :: rs, i, h => by
  simp only [chE, List.mem_append] at h
  rcases h with h | h
  ·split at h
   ·cases h
   ·simp at h; subst h; exact ⟨by simp, rfl⟩
  ·obtain ⟨h1, h2⟩ := chE_mem h
   exact ⟨by simp [h1], h2⟩
theorem stE_names {l : List Ax} (h5 : One5 l) {k : Rl × Rl × Bool} (hk : k ∈ stE l) : k.1 ∈ namesU l ∧ k.2.1 ∈ namesU l := by
 simp only [stE, List.mem_flatMap] at hk
 obtain ⟨x, hx, hk⟩ := hk
 have key : k.1 ∈ x.roles ∧ k.2.1 = x.role := by
  simp only [stA, List.mem_append] at hk
  rcases hk with hk | hk
  ·unfold subE at hk
   split at hk
   ·rename_i hc
    simp at hk; subst hk
    obtain ⟨r, hr⟩ := h5 x hx hc.1
    simp [hr]
   ·cases hk
  ·split at hk
   ·exact chE_mem hk
   ·cases hk
 simp only [namesU, List.mem_flatMap]
 exact ⟨⟨x, hx, by simp [key.1]⟩, ⟨x, hx, by simp [key.2]⟩⟩
theorem namesU_len {n : Nat} : ∀ {l : List Ax}, (∀ x ∈ l, x.roles.length ≤ n) → (namesU l).length ≤ l.length * (n + 1)
 | [], _ => by simp [namesU]
 | x :: l, h => by
  have h1 := namesU_len (l := l) fun y hy => h y (by simp [hy])
  have h2 := h x (by simp)
  have e : namesU (x :: l) = (x.role :: x.roles) ++ namesU l := rfl
  rw [e, List.length_append, List.length_cons, List.length_cons, Nat.add_mul]; omega
theorem mfew_of {l : List Ax} (hl : l.length ≤ 100) (h5 : One5 l) (hx : ∀ x ∈ l, x.Few) : MFew (mg (stE l)) (namesU l) := by
 refine ⟨?_, fun r t h => ?_, fun y hy => ?_⟩
 ·have := namesU_len (n := 600) fun x hxl => (hx x hxl).roles
  have := Nat.mul_le_mul_right (600 + 1) hl
  omega
 ·cases hm : mg (stE l) r t with
  | none => exact absurd hm h
  | some f => exact stE_names h5 (mg_some hm)
 ·simp only [namesU, List.mem_flatMap] at hy
  obtain ⟨x, hxl, hy⟩ := hy
  rcases List.mem_cons.1 hy with rfl | hy
  ·have := (hx x hxl).role; omega
  ·have := (hx x hxl).rs y hy; omega
theorem l_roles_Check0 (R : List Rl) (hR : R.length ≤ 100000) (gs : List (List (Nat × Bool))) (hG : GrW gs) (hgR : gs.length = R.length) (s : St) (cx : Ctx) :
  ∀ (N i : Nat) (least : Option (List Nat)) (most : Nat), i + N = R.length → CInv gs R.length i least most →
  ∃ (least' : Option (List Nat)) (most' : Nat) (j : Int), loopW (acodeW P0.glob (acallW P0) cx false ir_roles_Check_L0) [2, 5, 6, 7, 26, 27]
   [(2, .own false T_string_0 1 []), (5, .bx [slf true (R.map .s), slf true (gs.map encRow)]), (6, .v (.i .i64 most)), (7, .v (optV least)), (26, .v (.i .i64 R.length)), (27, .v (.i .i64 i))] s =
   .exit 0 [(2, .own false T_string_0 1 []), (5, .bx [slf true (R.map .s), slf true (gs.map encRow)]), (6, .v (.i .i64 most')), (7, .v (optV least')), (26, .v (.i .i64 R.length)), (27, .v (.i .i64 j)), (28, .v (.b false))] s ∧ CInv gs R.length R.length least' most'
 | 0, i, least, most, h, hI => by
  have h1 : ¬ i < R.length := by omega
  have hi : i = R.length := by omega
  refine ⟨least, most, i, loop_step fun K hK => ?_, by rw [← hi]; rw [hi] at hI ⊢; exact hI⟩
  simp [ir_roles_Check_L0, h1]
 | N + 1, i, least, most, h, hI => by
  have h1 : i < R.length := by omega
  have hwi := wI (i := i) (by omega)
  obtain ⟨o, e1, ho⟩ := c_roles_circle i most R hR gs hG hgR (by omega) s cx
  have ho1 := slf_one true (R.map AV.s)
  cases o with
  | none =>
   obtain ⟨least', most', j, ih, r⟩ := l_roles_Check0 R hR gs hG hgR s cx N (i + 1) least most (by omega) (hI.none_ ho)
   refine ⟨least', most', j, loop_step fun K hK => ?_, r⟩
   have hKk : ∀ e t, K e t = K (keepE e [2, 5, 6, 7, 26, 27]) t := fun e t => by rw [hK]; exact loopW_keep _ _ _ _
   rw [← hK, show ((i + 1 : Nat) : Int) = (i : Int) + 1 from rfl] at ih
   clear hK r ho hI hG
   have e0 : optV none = AV.ns := rfl
   rw [e0] at e1
   rw [← ih]
   simp [nilK, ir_roles_Check_L0, h1, hwi, e1]
  | some d =>
   obtain ⟨least', most', j, ih, r⟩ := l_roles_Check0 R hR gs hG hgR s cx N (i + 1) (some d) d.length (by omega) (hI.some_ ho)
   refine ⟨least', most', j, loop_step fun K hK => ?_, r⟩
   have hKk : ∀ e t, K e t = K (keepE e [2, 5, 6, 7, 26, 27]) t := fun e t => by rw [hK]; exact loopW_keep _ _ _ _
   rw [← hK, show ((i + 1 : Nat) : Int) = (i : Int) + 1 from rfl] at ih
   have hnk : nilK 0 (.sl (d.map intV)) = some false := by
    obtain ⟨t, e, _⟩ := ho
    rw [e]; rfl
   clear hK r ho hI hG
   have e0 : optV (some d) = AV.sl (d.map intV) := rfl
   rw [e0] at e1 ih
   rw [← ih]
   simp [hnk, ir_roles_Check_L0, h1, hwi, e1]
theorem l_roles_Check1 (R : List Rl) (hR : R.length ≤ 100000) (v1 : AV) (c : List Nat) (hc : ∀ i ∈ c, i < R.length) (hcl : c.length ≤ 1000000) (s : St) (cx : Ctx) :
  ∀ (rest : List Nat) (k : Nat) (X : List Rl), c.drop k = rest → X.length + rest.length ≤ 2000000 →
  ∃ j : Int, loopW (acodeW P0.glob (acallW P0) cx false ir_roles_Check_L1) [2, 5, 42, 43, 44]
   [(2, .own false T_string_0 1 (X.map .s)), (5, .bx [slf true (R.map .s), v1]), (42, .v (.sl (c.map intV))), (43, .v (.i .i64 c.length)), (44, .v (.i .i64 k))] s =
   .exit 2 [(2, .own false T_string_0 1 ((X ++ rest.map (nmR R)).map .s)), (5, .bx [slf true (R.map .s), v1]), (42, .v (.sl (c.map intV))), (43, .v (.i .i64 c.length)), (44, .v (.i .i64 j)), (45, .v (.b false))] s
 | [], k, X, h, hX => by
  have h1 : ¬ k < c.length := Nat.not_lt.2 (drop_nil h)
  refine ⟨k, loop_step fun K hK => ?_⟩
  simp [ir_roles_Check_L1, h1]
 | p :: rest, k, X, h, hX => by
  obtain ⟨g1, g2, g3, g4⟩ := drop_cons h
  have g5 := g4 g3
  have hwi := wI (i := k) (by omega)
  have hp : p ∈ c := by rw [← g5]; exact List.getElem_mem g3
  have hpl := hc p hp
  have hnm : R[p]? = some (nmR R p) := by simp [nmR, List.getD, List.getElem?_eq_getElem hpl]
  have hnm' : R[p] = nmR R p := by simp [nmR, List.getD, List.getElem?_eq_getElem hpl]
  simp only [List.length_cons] at hX
  have hm : X.length + 1 ≤ maxSl := by unfold maxSl; omega
  obtain ⟨j, ih⟩ := l_roles_Check1 R hR v1 c hc hcl s cx rest (k + 1) (X ++ [nmR R p]) g2 (by simp; omega)
  refine ⟨j, loop_step fun K hK => ?_⟩
  have hKk : ∀ e t, K e t = K (keepE e [2, 5, 42, 43, 44]) t := fun e t => by rw [hK]; exact loopW_keep _ _ _ _
  rw [← hK, show ((k + 1 : Nat) : Int) = (k : Int) + 1 from rfl] at ih
  clear hK g4 hc
  rw [show X ++ (p :: rest).map (nmR R) = X ++ [nmR R p] ++ rest.map (nmR R) by simp, ← ih]
  simp [ir_roles_Check_L1, g3, g5, hwi, hpl, hnm, hnm', hm, intV]
def CkOK (l : List Ax) (X : List Rl) (e : Int) : Prop := X.length ≤ 1000000 ∧ (chkL l ≠ 0 → X = [] ∧ e = chkL l) ∧ (chkL l = 0 → (Best (fun a b : Rl => a < b) (stE l) X ∧ e = 60) ∨ ((∀ c, ¬ Circ (stE l) c) ∧ X = [] ∧ e = 0))
theorem CkOK.uniq {l : List Ax} {X Y : List Rl} {e f : Int} (h : CkOK l X e) (h' : CkOK l Y f) : X = Y ∧ e = f := by
 by_cases h0 : chkL l = 0
 ·rcases h.2.2 h0 with ⟨a, rfl⟩ | ⟨a, rfl, rfl⟩
  ·rcases h'.2.2 h0 with ⟨b, rfl⟩ | ⟨b, _, _⟩
   ·exact ⟨a.uniq linR b, rfl⟩
   ·exact absurd a.1 (b _)
  ·rcases h'.2.2 h0 with ⟨b, _⟩ | ⟨b, rfl, rfl⟩
   ·exact absurd b.1 (a _)
   ·exact ⟨rfl, rfl⟩
 ·obtain ⟨rfl, rfl⟩ := h.2.1 h0
  obtain ⟨rfl, rfl⟩ := h'.2.1 h0
  exact ⟨rfl, rfl⟩
theorem c_roles_Check (z : Bool) (l : List Ax) (hl : l.length ≤ 100) (hx : ∀ x ∈ l, x.Few) (s : St) (cx : Ctx) :
  ∃ (X : List Rl) (e : Int), acallW P0 (.fn (.func F_roles_Check) [] []) [slf z (l.map encA)] s cx = .ret (.tu [.sl (X.map .s), .i .i64 e]) s ∧ CkOK l X e := by
 have e1 := c_roles_check z l (by omega) hx
 by_cases h0 : chkL l = 0
 ·have h5 := one5_all h0
  obtain ⟨es, e2, hM⟩ := c_roles_steps z l (by omega) h5 (fun x hxl => (hx x hxl).roles) s ⟨s.length, s.length⟩ (Nat.le_refl _)
  have hU := mfew_of hl h5 hx
  obtain ⟨R, gs, e3, hR, hRl, hRm, hI⟩ := c_roles_newGraph es (mg (stE l)) hM (namesU l) hU s ⟨s.length, s.length⟩
  have hUl := hU.len
  have hG : GrE R gs (stE l) := ⟨hR, hRm, hI⟩
  obtain ⟨least, most, j, e4, hC⟩ := l_roles_Check0 R (by omega) gs hG.grW hI.1 s ⟨s.length, s.length⟩ R.length 0 none (R.length + 1) (by omega) ⟨rfl, fun st t' h => by omega⟩
  have hend := hC.end_ hG
  have hw := wI (i := R.length) (by omega)
  have ho1 := slf_one true (R.map AV.s)
  have ho2 := slf_one true (gs.map encRow)
  have e00 : optV none = AV.ns := rfl
  rw [e00, show ((R.length + 1 : Nat) : Int) = (R.length : Int) + 1 from rfl] at e4
  simp only [Int.ofNat_zero] at e4
  cases least with
  | none =>
   refine ⟨[], 0, ?_, by simp, fun h => absurd h0 h, fun _ => .inr ⟨hend, rfl, rfl⟩⟩
   refine go_roles_Check (by simp) ?_
   rw [e00] at e4
   clear hend hC hG hI hRm hM hU hx
   simp [callFnW, ir_roles_Check, e1, h0, e2, e3, ho1, ho2, hw, e4, nilK]
  | some c =>
   have hcN := hG.inN hC.2.1
   have hcl : c.length ≤ 1000000 := by
    have hn : (c.map (nmR R)).Nodup := hend.nodup
    have := nodup_le hn (hG.inR hend.1)
    rw [List.length_map] at this; omega
   obtain ⟨j2, e5⟩ := l_roles_Check1 R (by omega) (slf true (gs.map encRow)) c hcN hcl s ⟨s.length, s.length⟩ c 0 [] rfl (by simp; omega)
   refine ⟨c.map (nmR R), 60, ?_, by rw [List.length_map]; exact hcl, fun h => absurd h0 h, fun _ => .inl ⟨hend, rfl⟩⟩
   refine go_roles_Check (by simp) ?_
   have e01 : optV (some c) = AV.sl (c.map intV) := rfl
   rw [e01] at e4
   rw [List.nil_append] at e5
   simp only [Int.ofNat_zero, List.map_nil] at e5
   have hnk : nilK 0 (.sl (c.map intV)) = some false := by
    obtain ⟨a, t, _, _, _, e, _⟩ := hC.2.1
    rw [e]; rfl
   clear hend hC hG hI hRm hM hU hx hcN
   simp [callFnW, ir_roles_Check, e1, h0, e2, e3, ho1, ho2, hw, e4, e5, hnk]
 ·refine ⟨[], chkL l, ?_, by simp, fun _ => ⟨rfl, rfl⟩, fun h => absurd h h0⟩
  refine go_roles_Check (by simp) ?_
  simp [callFnW, ir_roles_Check, e1, h0]
end Go.Ai.Z
