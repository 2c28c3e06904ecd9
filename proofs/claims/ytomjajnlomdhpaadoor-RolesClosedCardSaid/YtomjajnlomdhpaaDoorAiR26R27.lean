/-
 roles.recognize: an item's consequences by rules.
-/
import Derived.Test.YtomjajnlomdhpaaDoorAiR19R20R21R22R23R24R25
set_option maxRecDepth 100000
set_option linter.unusedSimpArgs false
set_option linter.unusedVariables false
namespace Go.Ai.Z
theorem RecHF.cell {s : St} {F : List UInt8 → Option Nat} {T : TB} {Q : List Item} {H : St} (h : RecHF s F T Q H) {r : List UInt8} {x : Nat} (hF : F r = some x) :
  ∃ cs, H[s.length + 3 + x]? = some (.cells cs) ∧ cs.length = 4225 ∧ ∀ f t, f ≤ 64 → t ≤ 64 → cs[f * 65 + t]? = some (.b (T r f t)) := by
 obtain ⟨es, q, rest, rfl, hR, hq⟩ := h
 rcases hR.at_ r with ⟨h0, _⟩ | ⟨y, cs, h0, h1, h2, h3, h4, h5⟩
 ·rw [h0] at hF; cases hF
 ·rw [h0] at hF; cases hF
  exact ⟨cs, by rw [st3_r, h3], h4, h5⟩
theorem RecHF.nocell {s : St} {F : List UInt8 → Option Nat} {T : TB} {Q : List Item} {H : St} (h : RecHF s F T Q H) {r : List UInt8} (hF : F r = none) : ∀ f t, T r f t = false := by
 obtain ⟨es, q, rest, rfl, hR, hq⟩ := h
 rcases hR.at_ r with ⟨_, _, h1⟩ | ⟨y, cs, h0, _⟩
 ·exact h1
 ·rw [h0] at hF; cases hF
theorem RecHF.look {s : St} {F : List UInt8 → Option Nat} {T : TB} {Q : List Item} {H : St} (h : RecHF s F T Q H) (r : List UInt8) :
  ∃ es, H[s.length]? = some (.map es) ∧ H[s.length + 1]? = some (.cells [.mp s.length]) ∧ find 1 (.s r) es = some ((F r).map fun x => .pt (s.length + 3 + x) 0) := by
 obtain ⟨es, q, rest, rfl, hR, hq⟩ := h
 refine ⟨es, by simp, by simp, ?_⟩
 rcases hR.at_ r with ⟨h0, h1, _⟩ | ⟨y, cs, h0, h1, _⟩
 ·rw [h0, h1]; rfl
 ·rw [h0, h1]; rfl
structure RecR (l : List Ax) (w : List (List UInt8)) (s : St) (P : List Item) (F : List UInt8 → Option Nat) (T : TB) (F' : List UInt8 → Option Nat) (T' : TB) (Q' : List Item) (H' : St) : Prop where
 hf : RecHF s F' T' Q' H'
 hi : RecI l w P T' Q'
 fk : ∀ r z, F r = some z → F' r = some z
 le : LeT T T'
theorem RecR.trans {l : List Ax} {w : List (List UInt8)} {s : St} {P : List Item} {F F' F'' : List UInt8 → Option Nat} {T T' T'' : TB} {Q' Q'' : List Item} {H' H'' : St} (h : RecR l w s P F T F' T' Q' H') (h' : RecR l w s P F' T' F'' T'' Q'' H'') : RecR l w s P F T F'' T'' Q'' H'' :=
 ⟨h'.hf, h'.hi, fun r z hz => h'.fk r z (h.fk r z hz), h.le.trans h'.le⟩
theorem rec_addR {l : List Ax} {w : List (List UInt8)} (hw : w.length ≤ 64) (hU : (univ l w).length ≤ 90000) {s : St} {P : List Item} {F : List UInt8 → Option Nat} {T : TB} {Q : List Item} {H : St} (h : RecHF s F T Q H) (hi : RecI l w P T Q) (q : Item) (hq : DG l w q.1 q.2.1 q.2.2) (cx : Ctx) (hcx : cx.lim ≤ s.length ∧ cx.base ≤ s.length) :
  ∃ H' F', acallW P0 (.fn (.func F_roles_recognize_1) [] [.pt (s.length + 1) 0, .pt (s.length + 2) 0]) [.s q.1, .i .i64 q.2.1, .i .i64 q.2.2] H cx = .ret (.tu []) H' ∧ RecR l w s P F T F' (addI (T, Q) q).1 (addI (T, Q) q).2 H' := by
 have hb := dg_bound hq
 have hl := hi.le
 obtain ⟨H', F', e1, e2, e3⟩ := rec_addF h q (by omega) (by omega) (by omega) cx hcx
 exact ⟨H', F', e1, e2, hi.add hq, e3, addI_le (T, Q) q⟩
theorem l_rec6 (l : List Ax) (w : List (List UInt8)) (hw : w.length ≤ 64) (hU : (univ l w).length ≤ 90000) (s : St) (cx : Ctx) (hcx : cx.lim ≤ s.length ∧ cx.base ≤ s.length) (g : List AV) (P : List Item) (x : Item) (hx : DG l w x.1 x.2.1 x.2.2) (y : Rul) (hy : y ∈ rules l) (hyx : y.first = x.1) (x0 : Nat) (a100 : AV) (k1 k2 : Int) :
  ∀ (c k : Nat) (F : List UInt8 → Option Nat) (T : TB) (Q : List Item) (H : St), k + c = w.length + 1 → RecHF s F T Q H → RecI l w P T Q → F y.second = some x0 →
  ∃ (H' : St) (j : Int) (F' : List UInt8 → Option Nat) (T' : TB) (Q' : List Item), loopW (acodeW P0.glob (acallW P0) cx false ir_roles_recognize_L6) [5, 6, 7, 8, 9, 15, 19, 20, 21, 100, 101, 102]
   [(5, .bx g), (6, .v (.pt (s.length + 1) 0)), (7, .v (.pt (s.length + 2) 0)), (8, .v (fnAdd s)), (9, .v (.i .i64 w.length)), (15, .bx [.s x.1, .i .i64 x.2.1, .i .i64 x.2.2]), (19, .bx [.s y.first, .s y.second, .s y.role]), (20, .v (.pt (s.length + 3 + x0) 0)), (21, .v (.i .i64 k)), (100, .v a100), (101, .v (.i .i64 k1)), (102, .v (.i .i64 k2))] H =
   .exit 12 [(5, .bx g), (6, .v (.pt (s.length + 1) 0)), (7, .v (.pt (s.length + 2) 0)), (8, .v (fnAdd s)), (9, .v (.i .i64 w.length)), (15, .bx [.s x.1, .i .i64 x.2.1, .i .i64 x.2.2]), (19, .bx [.s y.first, .s y.second, .s y.role]), (20, .v (.pt (s.length + 3 + x0) 0)), (21, .v (.i .i64 j)), (100, .v a100), (101, .v (.i .i64 k1)), (102, .v (.i .i64 k2)), (116, .v (.b false))] H' ∧
   RecR l w s P F T F' T' Q' H' ∧ ∀ e, k ≤ e → T y.second x.2.2 e = true → T' y.role x.2.1 e = true
 | 0, k, F, T, Q, H, h, hR, hI, hF => by
  have h1 : ¬ k ≤ w.length := by omega
  refine ⟨H, k, F, T, Q, loop_step fun K hK => ?_, ⟨hR, hI, fun _ _ h => h, LeT.refl T⟩, fun e he hT => ?_⟩
  ·simp [ir_roles_recognize_L6, h1]
  ·have := dg_bound (hI.dg hT); omega
 | c + 1, k, F, T, Q, H, h, hR, hI, hF => by
  have h1 : k ≤ w.length := by omega
  have hwi := wI (i := k) (by omega)
  have hb := dg_bound hx
  obtain ⟨cs, c1, c2, c3⟩ := hR.cell hF
  have c4 := c3 x.2.2 k (by omega) (by omega)
  have hidx : x.2.2 * 65 + k < cs.length := by omega
  have c5 : cs[x.2.2 * 65 + k] = .b (T y.second x.2.2 k) := (List.getElem?_eq_some_iff.1 c4).2
  have w1 : (x.2.2 : Int) < 65 := by omega
  have w2 : (k : Int) < 65 := by omega
  have w3 : x.2.2 < 65 := by omega
  have w4 : k < 65 := by omega
  have hkk : ∀ e t, loopW (acodeW P0.glob (acallW P0) cx false ir_roles_recognize_L6) [5, 6, 7, 8, 9, 15, 19, 20, 21, 100, 101, 102] e t = loopW (acodeW P0.glob (acallW P0) cx false ir_roles_recognize_L6) [5, 6, 7, 8, 9, 15, 19, 20, 21, 100, 101, 102] (keepE e [5, 6, 7, 8, 9, 15, 19, 20, 21, 100, 101, 102]) t := fun e t => loopW_keep _ _ _ _
  cases hT : T y.second x.2.2 k with
  | true =>
   have hq : DG l w y.role x.2.1 k := (dg_closed l w).bin y hy x.2.1 x.2.2 k (by rw [hyx]; exact hx) (hI.dg hT)
   obtain ⟨H1, F1, e1, e2⟩ := rec_addR hw hU hR hI (y.role, x.2.1, k) hq cx hcx
   obtain ⟨H', j, F', T', Q', ih, r1, r2⟩ := l_rec6 l w hw hU s cx hcx g P x hx y hy hyx x0 a100 k1 k2 c (k + 1) F1 (addI (T, Q) (y.role, x.2.1, k)).1 (addI (T, Q) (y.role, x.2.1, k)).2 H1 (by omega) e2.hf e2.hi (e2.fk _ _ hF)
   refine ⟨H', j, F', T', Q', loop_step fun K hK => ?_, e2.trans r1, fun e he hTe => ?_⟩
   ·have hKk : ∀ e t, K e t = K (keepE e [5, 6, 7, 8, 9, 15, 19, 20, 21, 100, 101, 102]) t := fun e t => by rw [hK]; exact hkk e t
    rw [← hK, show ((k + 1 : Nat) : Int) = (k : Int) + 1 from rfl] at ih
    clear hK hR hI e2 r1 r2 hkk
    rw [hT] at c5 c4
    rw [← ih]
    simp [fnAdd]
    simp [ir_roles_recognize_L6, h1, hwi, c1, c2, c4, c5, w1, w2, w3, w4, e1]
   ·by_cases hek : e = k
    ·subst hek
     exact r1.le _ _ _ (addI_in (T, Q) (y.role, x.2.1, e))
    ·exact r2 e (by omega) (e2.le _ _ _ hTe)
  | false =>
   obtain ⟨H', j, F', T', Q', ih, r1, r2⟩ := l_rec6 l w hw hU s cx hcx g P x hx y hy hyx x0 a100 k1 k2 c (k + 1) F T Q H (by omega) hR hI hF
   refine ⟨H', j, F', T', Q', loop_step fun K hK => ?_, r1, fun e he hTe => ?_⟩
   ·have hKk : ∀ e t, K e t = K (keepE e [5, 6, 7, 8, 9, 15, 19, 20, 21, 100, 101, 102]) t := fun e t => by rw [hK]; exact hkk e t
    rw [← hK, show ((k + 1 : Nat) : Int) = (k : Int) + 1 from rfl] at ih
    clear hK hR hI r1 r2 hkk
    rw [hT] at c5 c4
    rw [← ih]
    simp [fnAdd]
    simp [ir_roles_recognize_L6, h1, hwi, c1, c2, c4, c5, w1, w2, w3, w4]
   ·by_cases hek : e = k
    ·subst hek; rw [hT] at hTe; cases hTe
    ·exact r2 e (by omega) hTe
end Go.Ai.Z
namespace Go.Ai.Z
theorem l_rec8 (l : List Ax) (w : List (List UInt8)) (hw : w.length ≤ 64) (hU : (univ l w).length ≤ 90000) (s : St) (cx : Ctx) (hcx : cx.lim ≤ s.length ∧ cx.base ≤ s.length) (g : List AV) (P : List Item) (x : Item) (hx : DG l w x.1 x.2.1 x.2.2) (y : Rul) (hy : y ∈ rules l) (hyx : y.second = x.1) (x0 : Nat) (a139 : AV) (k1 k2 : Int) :
  ∀ (c k : Nat) (F : List UInt8 → Option Nat) (T : TB) (Q : List Item) (H : St), k + c = x.2.1 + 1 → RecHF s F T Q H → RecI l w P T Q → F y.first = some x0 →
  ∃ (H' : St) (j : Int) (F' : List UInt8 → Option Nat) (T' : TB) (Q' : List Item), loopW (acodeW P0.glob (acallW P0) cx false ir_roles_recognize_L8) [5, 6, 7, 8, 9, 15, 23, 24, 25, 139, 140, 141]
   [(5, .bx g), (6, .v (.pt (s.length + 1) 0)), (7, .v (.pt (s.length + 2) 0)), (8, .v (fnAdd s)), (9, .v (.i .i64 w.length)), (15, .bx [.s x.1, .i .i64 x.2.1, .i .i64 x.2.2]), (23, .bx [.s y.first, .s y.second, .s y.role]), (24, .v (.pt (s.length + 3 + x0) 0)), (25, .v (.i .i64 k)), (139, .v a139), (140, .v (.i .i64 k1)), (141, .v (.i .i64 k2))] H =
   .exit 16 [(5, .bx g), (6, .v (.pt (s.length + 1) 0)), (7, .v (.pt (s.length + 2) 0)), (8, .v (fnAdd s)), (9, .v (.i .i64 w.length)), (15, .bx [.s x.1, .i .i64 x.2.1, .i .i64 x.2.2]), (23, .bx [.s y.first, .s y.second, .s y.role]), (24, .v (.pt (s.length + 3 + x0) 0)), (25, .v (.i .i64 j)), (139, .v a139), (140, .v (.i .i64 k1)), (141, .v (.i .i64 k2)), (154, .v (.b false))] H' ∧
   RecR l w s P F T F' T' Q' H' ∧ ∀ e, k ≤ e → T y.first e x.2.1 = true → T' y.role e x.2.2 = true
 | 0, k, F, T, Q, H, h, hR, hI, hF => by
  have h1 : ¬ k ≤ x.2.1 := by omega
  refine ⟨H, k, F, T, Q, loop_step fun K hK => ?_, ⟨hR, hI, fun _ _ h => h, LeT.refl T⟩, fun e he hT => ?_⟩
  ·simp [ir_roles_recognize_L8, h1]
  ·have := dg_bound (hI.dg hT); omega
 | c + 1, k, F, T, Q, H, h, hR, hI, hF => by
  have h1 : k ≤ x.2.1 := by omega
  have hb := dg_bound hx
  have hwi := wI (i := k) (by omega)
  obtain ⟨cs, c1, c2, c3⟩ := hR.cell hF
  have c4 := c3 k x.2.1 (by omega) (by omega)
  have hidx : k * 65 + x.2.1 < cs.length := by omega
  have c5 : cs[k * 65 + x.2.1] = .b (T y.first k x.2.1) := (List.getElem?_eq_some_iff.1 c4).2
  have w1 : (x.2.1 : Int) < 65 := by omega
  have w2 : (k : Int) < 65 := by omega
  have w3 : x.2.1 < 65 := by omega
  have w4 : k < 65 := by omega
  have hkk : ∀ e t, loopW (acodeW P0.glob (acallW P0) cx false ir_roles_recognize_L8) [5, 6, 7, 8, 9, 15, 23, 24, 25, 139, 140, 141] e t = loopW (acodeW P0.glob (acallW P0) cx false ir_roles_recognize_L8) [5, 6, 7, 8, 9, 15, 23, 24, 25, 139, 140, 141] (keepE e [5, 6, 7, 8, 9, 15, 23, 24, 25, 139, 140, 141]) t := fun e t => loopW_keep _ _ _ _
  cases hT : T y.first k x.2.1 with
  | true =>
   have hq : DG l w y.role k x.2.2 := (dg_closed l w).bin y hy k x.2.1 x.2.2 (hI.dg hT) (by rw [hyx]; exact hx)
   obtain ⟨H1, F1, e1, e2⟩ := rec_addR hw hU hR hI (y.role, k, x.2.2) hq cx hcx
   obtain ⟨H', j, F', T', Q', ih, r1, r2⟩ := l_rec8 l w hw hU s cx hcx g P x hx y hy hyx x0 a139 k1 k2 c (k + 1) F1 (addI (T, Q) (y.role, k, x.2.2)).1 (addI (T, Q) (y.role, k, x.2.2)).2 H1 (by omega) e2.hf e2.hi (e2.fk _ _ hF)
   refine ⟨H', j, F', T', Q', loop_step fun K hK => ?_, e2.trans r1, fun e he hTe => ?_⟩
   ·have hKk : ∀ e t, K e t = K (keepE e [5, 6, 7, 8, 9, 15, 23, 24, 25, 139, 140, 141]) t := fun e t => by rw [hK]; exact hkk e t
    rw [← hK, show ((k + 1 : Nat) : Int) = (k : Int) + 1 from rfl] at ih
    clear hK hR hI e2 r1 r2 hkk
    rw [hT] at c5 c4
    rw [← ih]
    simp [fnAdd]
    simp [ir_roles_recognize_L8, h1, hwi, c1, c2, c4, c5, w1, w2, w3, w4, e1]
   ·by_cases hek : e = k
    ·subst hek
     exact r1.le _ _ _ (addI_in (T, Q) (y.role, e, x.2.2))
    ·exact r2 e (by omega) (e2.le _ _ _ hTe)
  | false =>
   obtain ⟨H', j, F', T', Q', ih, r1, r2⟩ := l_rec8 l w hw hU s cx hcx g P x hx y hy hyx x0 a139 k1 k2 c (k + 1) F T Q H (by omega) hR hI hF
   refine ⟨H', j, F', T', Q', loop_step fun K hK => ?_, r1, fun e he hTe => ?_⟩
   ·have hKk : ∀ e t, K e t = K (keepE e [5, 6, 7, 8, 9, 15, 23, 24, 25, 139, 140, 141]) t := fun e t => by rw [hK]; exact hkk e t
    rw [← hK, show ((k + 1 : Nat) : Int) = (k : Int) + 1 from rfl] at ih
    clear hK hR hI r1 r2 hkk
    rw [hT] at c5 c4
    rw [← ih]
    simp [fnAdd]
    simp [ir_roles_recognize_L8, h1, hwi, c1, c2, c4, c5, w1, w2, w3, w4]
   ·by_cases hek : e = k
    ·subst hek; rw [hT] at hTe; cases hTe
    ·exact r2 e (by omega) hTe
theorem l_rec5 (l : List Ax) (w : List (List UInt8)) (hw : w.length ≤ 64) (hU : (univ l w).length ≤ 90000) (s : St) (cx : Ctx) (hcx : cx.lim ≤ s.length ∧ cx.base ≤ s.length) (g : List AV) (P : List Item) (x : Item) (hx : DG l w x.1 x.2.1 x.2.2) (z : Bool) (rs : List Rul) (hrs : rs.length ≤ 1000) (hin : ∀ y ∈ rs, y ∈ rules l ∧ y.first = x.1) :
  ∀ (rest : List Rul) (i : Nat) (F : List UInt8 → Option Nat) (T : TB) (Q : List Item) (H : St), rs.drop i = rest → RecHF s F T Q H → RecI l w P T Q →
  ∃ (H' : St) (j : Int) (F' : List UInt8 → Option Nat) (T' : TB) (Q' : List Item), loopW (acodeW P0.glob (acallW P0) cx false ir_roles_recognize_L5) [5, 6, 7, 8, 9, 15, 100, 101, 102]
   [(5, .bx g), (6, .v (.pt (s.length + 1) 0)), (7, .v (.pt (s.length + 2) 0)), (8, .v (fnAdd s)), (9, .v (.i .i64 w.length)), (15, .bx [.s x.1, .i .i64 x.2.1, .i .i64 x.2.2]), (100, .v (slf z (rs.map encR))), (101, .v (.i .i64 rs.length)), (102, .v (.i .i64 i))] H =
   .exit 10 [(5, .bx g), (6, .v (.pt (s.length + 1) 0)), (7, .v (.pt (s.length + 2) 0)), (8, .v (fnAdd s)), (9, .v (.i .i64 w.length)), (15, .bx [.s x.1, .i .i64 x.2.1, .i .i64 x.2.2]), (100, .v (slf z (rs.map encR))), (101, .v (.i .i64 rs.length)), (102, .v (.i .i64 j)), (103, .v (.b false))] H' ∧
   RecR l w s P F T F' T' Q' H' ∧ ∀ y ∈ rest, ∀ e, T y.second x.2.2 e = true → T' y.role x.2.1 e = true
 | [], i, F, T, Q, H, h, hR, hI => by
  have h1 : ¬ i < rs.length := Nat.not_lt.2 (drop_nil h)
  refine ⟨H, i, F, T, Q, loop_step fun K hK => ?_, ⟨hR, hI, fun _ _ h => h, LeT.refl T⟩, fun y hy => by cases hy⟩
  simp [ir_roles_recognize_L5, h1]
 | y :: rest, i, F, T, Q, H, h, hR, hI => by
  obtain ⟨g1, g2, g3, g4⟩ := drop_cons h
  have g5 := g4 g3
  have hwi := wI (i := i) (by omega)
  have hb := dg_bound hx
  have hym : y ∈ rs := by rw [← g5]; exact List.getElem_mem g3
  obtain ⟨hyr, hyx⟩ := hin y hym
  obtain ⟨es, m1, m2, m3⟩ := hR.look y.second
  have hkk : ∀ e t, loopW (acodeW P0.glob (acallW P0) cx false ir_roles_recognize_L5) [5, 6, 7, 8, 9, 15, 100, 101, 102] e t = loopW (acodeW P0.glob (acallW P0) cx false ir_roles_recognize_L5) [5, 6, 7, 8, 9, 15, 100, 101, 102] (keepE e [5, 6, 7, 8, 9, 15, 100, 101, 102]) t := fun e t => loopW_keep _ _ _ _
  cases hF : F y.second with
  | none =>
   obtain ⟨H', j, F', T', Q', ih, r1, r2⟩ := l_rec5 l w hw hU s cx hcx g P x hx z rs hrs hin rest (i + 1) F T Q H g2 hR hI
   refine ⟨H', j, F', T', Q', loop_step fun K hK => ?_, r1, fun q hq e he => ?_⟩
   ·have hKk : ∀ e t, K e t = K (keepE e [5, 6, 7, 8, 9, 15, 100, 101, 102]) t := fun e t => by rw [hK]; exact hkk e t
    rw [← hK, show ((i + 1 : Nat) : Int) = (i : Int) + 1 from rfl] at ih
    rw [hF] at m3
    clear hK hR hI r1 r2 hkk g4 hin
    rw [← ih]
    simp [fnAdd] at m3 ⊢
    simp [ir_roles_recognize_L5, nilK, g3, g5, hwi, m1, m2, m3]
   ·rcases List.mem_cons.1 hq with rfl | hq
    ·rw [hR.nocell hF] at he; cases he
    ·exact r2 q hq e he
  | some x0 =>
   obtain ⟨H1, j1, F1, T1, Q1, e1, e2, e3⟩ := l_rec6 l w hw hU s cx hcx g P x hx y hyr hyx x0 (slf z (rs.map encR)) rs.length i (w.length + 1 - x.2.2) x.2.2 F T Q H (by omega) hR hI hF
   obtain ⟨H', j, F', T', Q', ih, r1, r2⟩ := l_rec5 l w hw hU s cx hcx g P x hx z rs hrs hin rest (i + 1) F1 T1 Q1 H1 g2 e2.hf e2.hi
   refine ⟨H', j, F', T', Q', loop_step fun K hK => ?_, e2.trans r1, fun q hq e he => ?_⟩
   ·have hKk : ∀ e t, K e t = K (keepE e [5, 6, 7, 8, 9, 15, 100, 101, 102]) t := fun e t => by rw [hK]; exact hkk e t
    rw [← hK, show ((i + 1 : Nat) : Int) = (i : Int) + 1 from rfl] at ih
    rw [hF] at m3
    clear hK hR hI r1 r2 hkk g4 e2 e3 hin
    rw [← ih]
    simp [fnAdd] at e1 m3 ⊢
    simp [ir_roles_recognize_L5, nilK, g3, g5, hwi, m1, m2, m3, e1]
   ·rcases List.mem_cons.1 hq with rfl | hq
    ·have hbe := dg_bound (hI.dg he)
     exact r1.le _ _ _ (e3 e (by omega) he)
    ·exact r2 q hq e (e2.le _ _ _ he)
theorem l_rec7 (l : List Ax) (w : List (List UInt8)) (hw : w.length ≤ 64) (hU : (univ l w).length ≤ 90000) (s : St) (cx : Ctx) (hcx : cx.lim ≤ s.length ∧ cx.base ≤ s.length) (g : List AV) (P : List Item) (x : Item) (hx : DG l w x.1 x.2.1 x.2.2) (z : Bool) (rs : List Rul) (hrs : rs.length ≤ 1000) (hin : ∀ y ∈ rs, y ∈ rules l ∧ y.second = x.1) :
  ∀ (rest : List Rul) (i : Nat) (F : List UInt8 → Option Nat) (T : TB) (Q : List Item) (H : St), rs.drop i = rest → RecHF s F T Q H → RecI l w P T Q →
  ∃ (H' : St) (j : Int) (F' : List UInt8 → Option Nat) (T' : TB) (Q' : List Item), loopW (acodeW P0.glob (acallW P0) cx false ir_roles_recognize_L7) [5, 6, 7, 8, 9, 15, 139, 140, 141]
   [(5, .bx g), (6, .v (.pt (s.length + 1) 0)), (7, .v (.pt (s.length + 2) 0)), (8, .v (fnAdd s)), (9, .v (.i .i64 w.length)), (15, .bx [.s x.1, .i .i64 x.2.1, .i .i64 x.2.2]), (139, .v (slf z (rs.map encR))), (140, .v (.i .i64 rs.length)), (141, .v (.i .i64 i))] H =
   .exit 14 [(5, .bx g), (6, .v (.pt (s.length + 1) 0)), (7, .v (.pt (s.length + 2) 0)), (8, .v (fnAdd s)), (9, .v (.i .i64 w.length)), (15, .bx [.s x.1, .i .i64 x.2.1, .i .i64 x.2.2]), (139, .v (slf z (rs.map encR))), (140, .v (.i .i64 rs.length)), (141, .v (.i .i64 j)), (142, .v (.b false))] H' ∧
   RecR l w s P F T F' T' Q' H' ∧ ∀ y ∈ rest, ∀ e, T y.first e x.2.1 = true → T' y.role e x.2.2 = true
 | [], i, F, T, Q, H, h, hR, hI => by
  have h1 : ¬ i < rs.length := Nat.not_lt.2 (drop_nil h)
  refine ⟨H, i, F, T, Q, loop_step fun K hK => ?_, ⟨hR, hI, fun _ _ h => h, LeT.refl T⟩, fun y hy => by cases hy⟩
  simp [ir_roles_recognize_L7, h1]
 | y :: rest, i, F, T, Q, H, h, hR, hI => by
  obtain ⟨g1, g2, g3, g4⟩ := drop_cons h
  have g5 := g4 g3
  have hwi := wI (i := i) (by omega)
  have hb := dg_bound hx
  have hym : y ∈ rs := by rw [← g5]; exact List.getElem_mem g3
  obtain ⟨hyr, hyx⟩ := hin y hym
  obtain ⟨es, m1, m2, m3⟩ := hR.look y.first
  have hkk : ∀ e t, loopW (acodeW P0.glob (acallW P0) cx false ir_roles_recognize_L7) [5, 6, 7, 8, 9, 15, 139, 140, 141] e t = loopW (acodeW P0.glob (acallW P0) cx false ir_roles_recognize_L7) [5, 6, 7, 8, 9, 15, 139, 140, 141] (keepE e [5, 6, 7, 8, 9, 15, 139, 140, 141]) t := fun e t => loopW_keep _ _ _ _
  cases hF : F y.first with
  | none =>
   obtain ⟨H', j, F', T', Q', ih, r1, r2⟩ := l_rec7 l w hw hU s cx hcx g P x hx z rs hrs hin rest (i + 1) F T Q H g2 hR hI
   refine ⟨H', j, F', T', Q', loop_step fun K hK => ?_, r1, fun q hq e he => ?_⟩
   ·have hKk : ∀ e t, K e t = K (keepE e [5, 6, 7, 8, 9, 15, 139, 140, 141]) t := fun e t => by rw [hK]; exact hkk e t
    rw [← hK, show ((i + 1 : Nat) : Int) = (i : Int) + 1 from rfl] at ih
    rw [hF] at m3
    clear hK hR hI r1 r2 hkk g4 hin
    rw [← ih]
    simp [fnAdd] at m3 ⊢
    simp [ir_roles_recognize_L7, nilK, g3, g5, hwi, m1, m2, m3]
   ·rcases List.mem_cons.1 hq with rfl | hq
    ·rw [hR.nocell hF] at he; cases he
    ·exact r2 q hq e he
  | some x0 =>
   obtain ⟨H1, j1, F1, T1, Q1, e1, e2, e3⟩ := l_rec8 l w hw hU s cx hcx g P x hx y hyr hyx x0 (slf z (rs.map encR)) rs.length i (x.2.1 + 1) 0 F T Q H (by omega) hR hI hF
   obtain ⟨H', j, F', T', Q', ih, r1, r2⟩ := l_rec7 l w hw hU s cx hcx g P x hx z rs hrs hin rest (i + 1) F1 T1 Q1 H1 g2 e2.hf e2.hi
   refine ⟨H', j, F', T', Q', loop_step fun K hK => ?_, e2.trans r1, fun q hq e he => ?_⟩
   ·have hKk : ∀ e t, K e t = K (keepE e [5, 6, 7, 8, 9, 15, 139, 140, 141]) t := fun e t => by rw [hK]; exact hkk e t
    rw [← hK, show ((i + 1 : Nat) : Int) = (i : Int) + 1 from rfl] at ih
    rw [hF] at m3
    clear hK hR hI r1 r2 hkk g4 e2 e3 hin
    rw [← ih]
    simp [fnAdd] at e1 m3 ⊢
    simp [ir_roles_recognize_L7, nilK, g3, g5, hwi, m1, m2, m3, e1]
   ·rcases List.mem_cons.1 hq with rfl | hq
    ·exact r1.le _ _ _ (e3 e (by omega) he)
    ·exact r2 q hq e (e2.le _ _ _ he)
end Go.Ai.Z
