/-
 Fewer axioms: the plain facts behind RolesInvariant and RolesFewer.
-/
import Derived.Test.YtomjajnlomdhpaaDoorAiR47R48R49R50
import Derived.Test.YtomjajnlomdhpaaDoorAiR31R32R33R34R35R36
import Derived.Test.YtomjajnlomdhpaaDoorAiR4R5R6
set_option maxRecDepth 100000
set_option linter.unusedSimpArgs false
set_option linter.unusedVariables false
namespace Go.Ai.Z
mutual
theorem walkS_le : ∀ c : C, walkS c ≤ 22
 | .mk k n l h z ps => by
  have := walkSL_le ps
  simp only [walkS]
  split
  ·decide
  ·split
   ·decide
   ·exact this
theorem walkSL_le : ∀ l : List C, walkSL l ≤ 22
 | [] => by simp [walkSL]
 | p :: r => by
  have h1 := walkS_le p
  have h2 := walkSL_le r
  simp only [walkSL]
  split
  ·exact h2
  ·exact h1
end
theorem checkS_le (c : C) : checkS c ≤ 22 := by
 unfold checkS
 split
 ·decide
 ·exact walkS_le c
theorem checkAS_le (x : Ax) : checkAS x ≤ 22 := by
 have h1 := checkS_le x.left
 have h2 := checkS_le x.right
 unfold checkAS
 split
 ·decide
 ·split
  ·decide
  ·unfold tailK
   split
   ·exact h1
   ·split
    ·exact h2
    ·split <;> decide
theorem chkL_le : ∀ l : List Ax, chkL l ≤ 22
 | [] => by simp [chkL]
 | x :: r => by
  have h1 := checkAS_le x
  have h2 := chkL_le r
  simp only [chkL]
  split
  ·exact h2
  ·exact h1
theorem chkL_of : ∀ {l : List Ax}, (∀ x ∈ l, checkAS x = 0) → chkL l = 0
 | [], _ => rfl
 | x :: r, h => by
  simp only [chkL]
  rw [if_pos (h x (by simp))]
  exact chkL_of fun y hy => h y (by simp [hy])
theorem CkOK.zero {l : List Ax} {X : List Rl} {e : Int} (h : CkOK l X e) (he : e = 0 ∨ e = 60) : chkL l = 0 := by
 by_cases h0 : chkL l = 0
 ·exact h0
 ·obtain ⟨_, rfl⟩ := h.2.1 h0
  have := chkL_le l
  omega
def RSub (l l' : List Ax) : Prop := ∀ x ∈ l, (x.kind = 5 ∨ x.kind = 6 ∨ x.kind = 7) → x ∈ l'
theorem edU_sub {l l' : List Ax} (h : RSub l l') : ∀ p ∈ edU l, p ∈ edU l' := fun p hp => by
 simp only [edU, List.mem_filterMap] at hp ⊢
 obtain ⟨x, hx, he⟩ := hp
 by_cases h5 : x.kind = 5
 ·exact ⟨x, h x hx (.inl h5), he⟩
 ·rw [if_neg h5] at he; cases he
theorem stE_sub {l l' : List Ax} (h : RSub l l') : ∀ p ∈ stE l, p ∈ stE l' := fun p hp => by
 simp only [stE, List.mem_flatMap] at hp ⊢
 obtain ⟨x, hx, he⟩ := hp
 refine ⟨x, ?_, he⟩
 by_cases h5 : x.kind = 5
 ·exact h x hx (.inl h5)
 ·by_cases h6 : x.kind = 6
  ·exact h x hx (.inr (.inl h6))
  ·exfalso
   simp [stA, subE, h5, h6] at he
theorem upS_sub {l l' : List Ax} (h : RSub l l') {a b : Rl} (hb : b ∈ upS l a) : b ∈ upS l' a := mem_upS.2 ((mem_upS.1 hb).mono (edU_sub h))
theorem simpS_anti {l l' : List Ax} (h : RSub l l') (h0 : chkL l = 0) {r : Rl} (hs : simpS l' r = true) : simpS l r = true := by
 simp only [simpS, Bool.and_eq_true, decide_eq_true_eq, List.all_eq_true] at hs ⊢
 refine ⟨⟨h0, hs.1.2⟩, fun x hx => ?_⟩
 cases hb : badS l r x with
 | false => rfl
 | true =>
  simp only [badS, Bool.and_eq_true, Bool.or_eq_true, decide_eq_true_eq] at hb
  have hx' := h x hx (by
   rcases hb.1 with a | a
   ·exact .inr (.inr a)
   ·exact .inr (.inl a))
  have hb' : badS l' r x = true := by
   simp only [badS, Bool.and_eq_true, Bool.or_eq_true, decide_eq_true_eq]
   exact ⟨hb.1, upS_sub h hb.2⟩
  have := hs.2 x hx'
  rw [hb'] at this
  cases this
theorem wordV_sub {l l' : List Ax} (h : RSub l l') (h0' : chkL l' = 0) {w : List Rl} {r : Rl} (hw : wordV l w r = true) : wordV l' w r = true := by
 obtain ⟨_, b, c⟩ := wordV_iff.1 hw
 exact wordV_iff.2 ⟨h0', b, drv_mono h c⟩
theorem CkOK.same {l l' : List Ax} (h : RSub l l') (h' : RSub l' l) (h0 : chkL l = 0) (h0' : chkL l' = 0) {X : List Rl} {e : Int} (hC : CkOK l X e) : CkOK l' X e := by
 refine ⟨hC.1, fun hh => absurd h0' hh, fun _ => ?_⟩
 rcases hC.2.2 h0 with ⟨a, b⟩ | ⟨a, b⟩
 ·exact .inl ⟨a.congr fun p => ⟨stE_sub h p, stE_sub h' p⟩, b⟩
 ·exact .inr ⟨fun c hc => a c (hc.mono (stE_sub h')), b⟩
theorem CkOK.fewer {l l' : List Ax} (h : RSub l l') (h0 : chkL l = 0) {X Y : List Rl} {f : Int} (hC : CkOK l' X 0) (hC' : CkOK l Y f) : f = 0 := by
 have h0' := hC.zero (.inl rfl)
 rcases hC.2.2 h0' with ⟨_, b⟩ | ⟨a, _⟩
 ·cases b
 ·rcases hC'.2.2 h0 with ⟨b, _⟩ | ⟨_, _, b⟩
  ·exact absurd (b.1.mono (stE_sub h)) (a _)
  ·exact b
theorem rsub_take (l : List Ax) (n : Nat) : RSub (l.take n) l := fun x hx _ => List.mem_of_mem_take hx
theorem chk_take {l : List Ax} (h : chkL l = 0) (n : Nat) : chkL (l.take n) = 0 := chkL_of fun x hx => chkL_mem h x (List.mem_of_mem_take hx)
end Go.Ai.Z
namespace Go.Ai.Z
theorem l_law06_has (z : Bool) (l : List (List UInt8)) (x : List UInt8) (hl : l.length ≤ 1000000) (s : St) (cx : Ctx) :
  ∀ (rest : List (List UInt8)) (i : Nat), l.drop i = rest →
  ∃ j : Int, loopW (acodeW P0.glob (acallW P0) cx false ir_law06_has_L0) [0, 1, 5] [(0, .v (slf z (l.map .s))), (1, .v (.s x)), (5, .v (.i .i64 i))] s =
   if x ∈ rest then .ret [(4, .v (.b true))] s else .exit 0 [(0, .v (slf z (l.map .s))), (1, .v (.s x)), (5, .v (.i .i64 j)), (9, .v (.b false))] s
 | [], i, h => by
  have h1 : ¬ i < l.length := Nat.not_lt.2 (drop_nil h)
  refine ⟨i, loop_step fun K hK => ?_⟩
  simp [ir_law06_has_L0, h1]
 | p :: r, i, h => by
  obtain ⟨h1, h2, h3, h4⟩ := drop_cons h
  have h5 := h4 h3
  have hw := wI (i := i) (by omega)
  by_cases hp : p = x
  ·refine ⟨0, loop_step fun K hK => ?_⟩
   clear h4
   simp [ir_law06_has_L0, h3, h5, hw, hp]
  ·obtain ⟨j, ih⟩ := l_law06_has z l x hl s cx r (i + 1) h2
   have hp' : ¬ x = p := fun h => hp h.symm
   refine ⟨j, loop_step fun K hK => ?_⟩
   rw [← hK, show ((i + 1 : Nat) : Int) = (i : Int) + 1 from rfl] at ih
   clear hK h4
   try simp at ih
   simp [ir_law06_has_L0, h3, h5, hw, hp, hp', ih]
theorem c_law06_has (l : List (List UInt8)) (x : List UInt8) (hl : l.length ≤ 1000000) (s : St) (cx : Ctx) : acallW P0 (.fn (.func F_law06_has) [] []) [.sl (l.map .s), .s x] s cx = .ret (.b (decide (x ∈ l))) s := by
 obtain ⟨j, h⟩ := l_law06_has false l x hl s ⟨s.length, s.length⟩ l 0 rfl
 refine go_law06_has (by simp) ?_
 simp at h
 by_cases hx : x ∈ l <;> simp [callFnW, ir_law06_has, h, hx]
theorem l_law06_fewer (A : AV) (n : Nat) (role : Rl) (x y : List Rl) (hx : x.length ≤ 1000000) (hy : y.length ≤ 1000000) (hxy : ∀ r ∈ y, r ∈ x) (s : St) (cx : Ctx) :
  ∀ (rest : List Rl) (i : Nat), y.drop i = rest →
  ∃ j : Int, loopW (acodeW P0.glob (acallW P0) cx false ir_law06_RolesFewer_L0) [0, 1, 3, 13, 15, 17]
   [(0, .v A), (1, .v (.i .i64 n)), (3, .v (.s role)), (13, .v (.sl (x.map .s))), (15, .v (.sl (y.map .s))), (17, .v (.i .i64 i))] s =
   .exit 0 [(0, .v A), (1, .v (.i .i64 n)), (3, .v (.s role)), (13, .v (.sl (x.map .s))), (15, .v (.sl (y.map .s))), (17, .v (.i .i64 j)), (103, .v (.b false))] s
 | [], i, h => by
  have h1 : ¬ i < y.length := Nat.not_lt.2 (drop_nil h)
  refine ⟨i, loop_step fun K hK => ?_⟩
  simp [ir_law06_RolesFewer_L0, h1]
 | r :: rest, i, h => by
  obtain ⟨g1, g2, g3, g4⟩ := drop_cons h
  have g5 := g4 g3
  have hwi := wI (i := i) (by omega)
  have hr : r ∈ x := hxy r (by rw [← g5]; exact List.getElem_mem g3)
  obtain ⟨j, ih⟩ := l_law06_fewer A n role x y hx hy hxy s cx rest (i + 1) g2
  refine ⟨j, loop_step fun K hK => ?_⟩
  rw [← hK, show ((i + 1 : Nat) : Int) = (i : Int) + 1 from rfl] at ih
  clear hK g4 hxy
  have e1 := c_law06_has x r hx
  rw [← ih]
  simp [ir_law06_RolesFewer_L0, g3, g5, hwi, e1, hr]
theorem cells16 (l : List Ax) : ∀ x ∈ l, (encA x).cells.length = 16 := fun x _ => rfl
theorem c_fewer_sl (A : AV) (l : List Ax) (h12 : l.length ≤ 12) (hf : ∀ x ∈ l, x.Few) (hA : A = .sl (l.map encA) ∨ (A = .ns ∧ l = [])) (m : Nat) (hm : m ≤ l.length) (zw : Bool) (w : List (List UInt8)) (role : List UInt8) (hs : acallW P0 (.fn (.func F_law06_sane) [] []) [] [] ⟨0, 0⟩ = .ret (.b true) [])
  (e1 : ∀ s cx, acallW P0 (.fn (.func F_law06_few) [] []) [A] s cx = .ret (.b true) s) (hsw : shortW w = true) (hr : role.length ≤ 100) (cx : Ctx) :
  acallW P0 (.fn (.func F_law06_RolesFewer) [] []) [A, .i .i64 m, slf zw (w.map .s), .s role] [] cx = .ret (.b true) [] := by
 have e0 := c_law06_short zw w
 rw [hsw] at e0
 simp only [shortW, Bool.and_eq_true, decide_eq_true_eq, List.all_eq_true] at hsw
 obtain ⟨hw7, hwx⟩ := hsw
 refine go_law06_RolesFewer (by simp) ?_
 have hr' : ¬ (100 : Int) < role.length := by omega
 have hn0 : ¬ (m : Int) < 0 := by omega
 have hnl : ¬ (l.length : Int) < m := by omega
 obtain ⟨z, hz⟩ : ∃ z, A = slf z (l.map encA) := by
  rcases hA with rfl | ⟨rfl, rfl⟩
  ·exact ⟨false, by rw [slf_false]⟩
  ·exact ⟨true, rfl⟩
 obtain ⟨B, zb, hB, hz'⟩ : ∃ (B : AV) (zb : Bool), ((A = .sl (l.map encA) ∧ B = .sl ((l.take m).map encA)) ∨ (B = .ns ∧ m = 0 ∧ A = .ns)) ∧ B = slf zb ((l.take m).map encA) := by
  rcases hA with rfl | ⟨rfl, rfl⟩
  ·exact ⟨_, false, .inl ⟨rfl, rfl⟩, by rw [slf_false]⟩
  ·exact ⟨.ns, true, .inr ⟨rfl, by simpa using hm, rfl⟩, by simp⟩
 have hml : (l.take m).length ≤ 12 := by rw [List.length_take]; omega
 have hmf : ∀ x ∈ l.take m, x.Few := fun x hx => hf x (List.mem_of_mem_take hx)
 have a1 := c_roles_Word z l (by omega) hf zw w hw7 (fun r hr => by have := hwx r hr; omega) role (by omega)
 have a2 := c_roles_Word zb (l.take m) (by omega) hmf zw w hw7 (fun r hr => by have := hwx r hr; omega) role (by omega)
 have b1 := c_roles_Above z l (by omega) hf role (by omega)
 have b2 := c_roles_Above zb (l.take m) (by omega) hmf role (by omega)
 have d1 := c_roles_Simple z l (by omega) hf role (by omega)
 have d2 := c_roles_Simple zb (l.take m) (by omega) hmf role (by omega)
 obtain ⟨X, e, k1, hC⟩ := c_roles_Check z l (by omega) hf [] ⟨0, 0⟩
 obtain ⟨Y, f, k2, hC'⟩ := c_roles_Check zb (l.take m) (by omega) hmf [] ⟨0, 0⟩
 rw [← hz] at a1 b1 d1 k1
 rw [← hz'] at a2 b2 d2 k2
 have hpA : A.plain = A := by rcases hA with rfl | ⟨rfl, _⟩ <;> rfl
 have hcut : ∀ (glob : Nat → Option (List AV)) (s : St) (env : Env) (y : Nat), lk env y = some (.v (.i .i64 m)) → slcV glob 16 none (some (.t y)) s (some (A, env)) = .ok (.v B) env s := by
  intro glob s env y hy
  rcases hB with ⟨rfl, rfl⟩ | ⟨rfl, rfl, rfl⟩
  ·have hc := cells16 l
   have hall : ((l.map encA).all fun e => e.cells.length == 16) = true := by
    simp only [List.all_eq_true, List.mem_map, beq_iff_eq]
    rintro _ ⟨x, hx, rfl⟩
    exact hc x hx
   have h0m : (0 : Int) ≤ (m : Int) := by omega
   rw [slcV_sl]
   simp only [bound, rd, ev, hy, AV.plain, if_pos h0m, Int.toNat_natCast, List.length_map]
   rw [if_pos ⟨Nat.zero_le _, hm, hall⟩]
   simp [List.map_take]
  ·rw [slcV_ns]; simp [bound, rd, ev, hy, AV.plain]
 have hpB : B.plain = B := by
  rcases hB with ⟨_, rfl⟩ | ⟨rfl, _⟩ <;> rfl
 have hel : ∀ env, elemsE env (some (.v A)) = some (l.map encA) := fun env => by rw [hz]; exact elemsE_slf
 clear hA hB hz hz'
 by_cases hE : wordE l w role = 0
 ·obtain ⟨h0, hnm⟩ : chkL l = 0 ∧ (role :: w).all nmOK = true := by
   by_cases h0 : chkL l = 0
   ·by_cases hn : (role :: w).all nmOK = true
    ·exact ⟨h0, hn⟩
    ·simp only [wordE, if_pos h0, if_neg hn] at hE; cases hE
   ·simp only [wordE, if_neg h0] at hE; exact absurd hE h0
  have hr1 : nmOK role = true := by
   simp only [List.all_cons, Bool.and_eq_true] at hnm; exact hnm.1
  have h0' := chk_take h0 m
  have p1 : wordE (l.take m) w role = 0 := by simp only [wordE, if_pos h0', if_pos hnm]
  have p2 : aboveE l role = 0 := by simp only [aboveE, if_pos h0, if_pos hr1]
  have p3 : aboveE (l.take m) role = 0 := by simp only [aboveE, if_pos h0', if_pos hr1]
  have p4 : aboveV l role = .sl ((upS l role).map .s) := by simp only [aboveV, if_pos (And.intro h0 hr1)]
  have p5 : aboveV (l.take m) role = .sl ((upS (l.take m) role).map .s) := by simp only [aboveV, if_pos (And.intro h0' hr1)]
  have hup : ∀ r ∈ upS (l.take m) role, r ∈ upS l role := fun r h => upS_sub (rsub_take l m) h
  have hwd : wordV (l.take m) w role = true → wordV l w role = true := wordV_sub (rsub_take l m) h0
  have hsi : simpS l role = true → simpS (l.take m) role = true := simpS_anti (rsub_take l m) h0'
  have hck : e = 0 → f = 0 := fun he => by subst he; exact hC.fewer (rsub_take l m) h0' hC'
  have hl1 := upS_len l role
  have hl2 := upS_len (l.take m) role
  obtain ⟨j, hL⟩ := l_law06_fewer A m role (upS l role) (upS (l.take m) role) (by omega) (by omega) hup [] ⟨0, 0⟩ (upS (l.take m) role) 0 rfl
  rw [hE] at a1
  rw [p1] at a2
  rw [p2, p4] at b1
  rw [p3, p5] at b2
  rw [p2] at d1
  rw [p3] at d2
  clear hC hC' hf hmf hwx hup p1 p2 p3 p4 p5 hl1 hl2 hE h0 h0' hnm
  generalize wordV l w role = v1 at *
  generalize wordV (l.take m) w role = v2 at *
  generalize simpS l role = t1 at *
  generalize simpS (l.take m) role = t2 at *
  generalize upS l role = u1 at *
  generalize upS (l.take m) role = u2 at *
  simp only [Int.ofNat_zero] at hL
  cases v2 with
  | false =>
   cases t1 with
   | false =>
    by_cases he : e = 0
    ·rw [hck he] at k2
     subst he
     simp [callFnW, ir_law06_RolesFewer, hs, e1, e0, hr', hn0, hnl, hpA, hpB, hel, hcut, a1, a2, b1, b2, d1, d2, k1, k2, hL]
    ·simp [callFnW, ir_law06_RolesFewer, hs, e1, e0, hr', hn0, hnl, hpA, hpB, hel, hcut, a1, a2, b1, b2, d1, d2, k1, k2, hL, he]
   | true =>
    rw [hsi rfl] at d2
    by_cases he : e = 0
    ·rw [hck he] at k2
     subst he
     simp [callFnW, ir_law06_RolesFewer, hs, e1, e0, hr', hn0, hnl, hpA, hpB, hel, hcut, a1, a2, b1, b2, d1, d2, k1, k2, hL]
    ·simp [callFnW, ir_law06_RolesFewer, hs, e1, e0, hr', hn0, hnl, hpA, hpB, hel, hcut, a1, a2, b1, b2, d1, d2, k1, k2, hL, he]
  | true =>
   rw [hwd rfl] at a1
   cases t1 with
   | false =>
    by_cases he : e = 0
    ·rw [hck he] at k2
     subst he
     simp [callFnW, ir_law06_RolesFewer, hs, e1, e0, hr', hn0, hnl, hpA, hpB, hel, hcut, a1, a2, b1, b2, d1, d2, k1, k2, hL]
    ·simp [callFnW, ir_law06_RolesFewer, hs, e1, e0, hr', hn0, hnl, hpA, hpB, hel, hcut, a1, a2, b1, b2, d1, d2, k1, k2, hL, he]
   | true =>
    rw [hsi rfl] at d2
    by_cases he : e = 0
    ·rw [hck he] at k2
     subst he
     simp [callFnW, ir_law06_RolesFewer, hs, e1, e0, hr', hn0, hnl, hpA, hpB, hel, hcut, a1, a2, b1, b2, d1, d2, k1, k2, hL]
    ·simp [callFnW, ir_law06_RolesFewer, hs, e1, e0, hr', hn0, hnl, hpA, hpB, hel, hcut, a1, a2, b1, b2, d1, d2, k1, k2, hL, he]
 ·simp [callFnW, ir_law06_RolesFewer, hs, e1, e0, hr', hn0, hnl, hpA, hpB, hel, hcut, a1, a2, b1, b2, hE]
theorem c_fewer_law (z : Bool) (l : List Ax) (hl : l.length ≤ 1125899906842624) (hx : ∀ x ∈ l, x.Ok) (n : Int) (zw : Bool) (w : List (List UInt8)) (role : List UInt8) (hs : acallW P0 (.fn (.func F_law06_sane) [] []) [] [] ⟨0, 0⟩ = .ret (.b true) []) (cx : Ctx) :
  acallW P0 (.fn (.func F_law06_RolesFewer) [] []) [slf z (l.map encA), .i .i64 n, slf zw (w.map .s), .s role] [] cx = .ret (.b true) [] := by
 obtain ⟨b, e1, hb⟩ := c_law06_few z l hl hx
 have e0 := c_law06_short zw w
 cases b with
 | false =>
  refine go_law06_RolesFewer (by simp) ?_
  simp [callFnW, ir_law06_RolesFewer, hs, e1]
 | true =>
  obtain ⟨h12, hf⟩ := hb rfl
  cases hsw : shortW w with
  | false =>
   rw [hsw] at e0
   refine go_law06_RolesFewer (by simp) ?_
   simp [callFnW, ir_law06_RolesFewer, hs, e1, e0]
  | true =>
   rw [hsw] at e0
   by_cases hr : 100 < role.length
   ·have hr' : (100 : Int) < role.length := by omega
    refine go_law06_RolesFewer (by simp) ?_
    simp [callFnW, ir_law06_RolesFewer, hs, e1, e0, hr']
   ·have hr' : ¬ (100 : Int) < role.length := by omega
    by_cases hn0 : n < 0
    ·refine go_law06_RolesFewer (by simp) ?_
     simp [callFnW, ir_law06_RolesFewer, hs, e1, e0, hr', hn0]
    ·by_cases hnl : (l.length : Int) < n
     ·refine go_law06_RolesFewer (by simp) ?_
      simp [callFnW, ir_law06_RolesFewer, hs, e1, e0, hr', hn0, hnl]
     ·obtain ⟨m, rfl⟩ : ∃ m : Nat, n = m := ⟨n.toNat, by omega⟩
      refine c_fewer_sl (slf z (l.map encA)) l h12 hf ?_ m (by omega) zw w role hs e1 hsw (by omega) cx
      rcases slf_cases z (l.map encA) with h | ⟨h, h'⟩
      ·exact .inl h
      ·exact .inr ⟨h, by simpa using h'⟩
end Go.Ai.Z
