/-
 Fewer axioms: the plain facts behind RolesInvariant and RolesFewer.
-/
import Derived.Test.YtomjajnlomdhpaaDoorAiR47R48R49R50
import Derived.Test.YtomjajnlomdhpaaDoorAiR31R32R33R34R35R36
import Derived.Test.YtomjajnlomdhpaaDoorAiR4R5R6
set_option maxRecDepth 100000
set_option linter.unusedSimpArgs false
set_option linter.unusedVariables false
namespace Go.Ai.Z
mutual
theorem walkS_le : ∀ c : C, walkS c ≤ 22
 | .mk k n l h z ps => by
  have := walkSL_le ps
  simp only [walkS]
  split
  ·decide
  ·split
   ·decide
   ·exact this
theorem walkSL_le : ∀ l : List C, walkSL l ≤ 22
 | [] => by simp [walkSL]
 | p :: r => by
  have h1 := walkS_le p
  have h2 := walkSL_le r
  simp only [walkSL]
  split
  ·exact h2
  ·exact h1
end
theorem checkS_le (c : C) : checkS c ≤ 22 := by
 unfold checkS
 split
 ·decide
 ·exact walkS_le c
theorem checkAS_le (x : Ax) : checkAS x ≤ 22 := by
 have h1 := checkS_le x.left
 have h2 := checkS_le x.right
 unfold checkAS
 split
 ·decide
 ·split
  ·decide
  ·unfold tailK
   split
   ·exact h1
   ·split
    ·exact h2
    ·split <;> decide
theorem chkL_le : ∀ l : List Ax, chkL l ≤ 22
 | [] => by simp [chkL]
 | x :: r => by
  have h1 := checkAS_le x
  have h2 := chkL_le r
  simp only [chkL]
  split
  ·exact h2
  ·exact h1
theorem chkL_of : ∀ {l : List Ax}, (∀ x ∈ l, checkAS x = 0) → chkL l = 0
 | [], _ => rfl
 | x :: r, h => by
  simp only [chkL]
  rw [if_pos (h x (by simp))]
  exact chkL_of fun y hy => h y (by simp [hy])
theorem CkOK.zero {l : List Ax} {X : List Rl} {e : Int} (h : CkOK l X e) (he : e = 0 ∨ e = 60) : chkL l = 0 := by
 by_cases h0 : chkL l = 0
 ·exact h0
 ·obtain ⟨_, rfl⟩ := h.2.1 h0
  have := chkL_le l
  omega
def RSub (l l' : List Ax) : Prop := ∀ x ∈ l, (x.kind = 5 ∨ x.kind = 6 ∨ x.kind = 7) → x ∈ l'
theorem edU_sub {l l' : List Ax} (h : RSub l l') : ∀ p ∈ edU l, p ∈ edU l' := fun p hp => by
 simp only [edU, List.mem_filterMap] at hp ⊢
 obtain ⟨x, hx, he⟩ := hp
 by_cases h5 : x.kind = 5
 ·exact ⟨x, h x hx (.inl h5), he⟩
 ·rw [if_neg h5] at he; cases he
theorem stE_sub {l l' : List Ax} (h : RSub l l') : ∀ p ∈ stE l, p ∈ stE l' := fun p hp => by
 simp only [stE, List.mem_flatMap] at hp ⊢
 obtain ⟨x, hx, he⟩ := hp
 refine ⟨x, ?_, he⟩
 by_cases h5 : x.kind = 5
 ·exact h x hx (.inl h5)
 ·by_cases h6 : x.kind = 6
  ·exact h x hx (.inr (.inl h6))
  ·exfalso
   simp [stA, subE, h5, h6] at he
theorem upS_sub {l l' : List Ax} (h : RSub l l') {a b : Rl} (hb : b ∈ upS l a) : b ∈ upS l' a := mem_upS.2 ((mem_upS.1 hb).mono (edU_sub h))
theorem upS_same {l l' : List Ax} (h : RSub l l') (h' : RSub l' l) (a : Rl) : upS l a = upS l' a :=
 (srt_upS l a).ext (srt_upS l' a) fun x => ⟨upS_sub h, upS_sub h'⟩
theorem simpS_anti {l l' : List Ax} (h : RSub l l') (h0 : chkL l = 0) {r : Rl} (hs : simpS l' r = true) : simpS l r = true := by
 simp only [simpS, Bool.and_eq_true, decide_eq_true_eq, List.all_eq_true] at hs ⊢
 refine ⟨⟨h0, hs.1.2⟩, fun x hx => ?_⟩
 cases hb : badS l r x with
 | false => rfl
 | true =>
  simp only [badS, Bool.and_eq_true, Bool.or_eq_true, decide_eq_true_eq] at hb
  have hx' := h x hx (by
   rcases hb.1 with a | a
   ·exact .inr (.inr a)
   ·exact .inr (.inl a))
  have hb' : badS l' r x = true := by
   simp only [badS, Bool.and_eq_true, Bool.or_eq_true, decide_eq_true_eq]
   exact ⟨hb.1, upS_sub h hb.2⟩
  have := hs.2 x hx'
  rw [hb'] at this
  cases this
theorem simpS_same {l l' : List Ax} (h : RSub l l') (h' : RSub l' l) (h0 : chkL l = 0) (h0' : chkL l' = 0) (r : Rl) : simpS l r = simpS l' r :=
 Bool.eq_iff_iff.2 ⟨simpS_anti h' h0', simpS_anti h h0⟩
theorem wordV_sub {l l' : List Ax} (h : RSub l l') (h0' : chkL l' = 0) {w : List Rl} {r : Rl} (hw : wordV l w r = true) : wordV l' w r = true := by
 obtain ⟨_, b, c⟩ := wordV_iff.1 hw
 exact wordV_iff.2 ⟨h0', b, drv_mono h c⟩
theorem wordV_same {l l' : List Ax} (h : RSub l l') (h' : RSub l' l) (h0 : chkL l = 0) (h0' : chkL l' = 0) (w : List Rl) (r : Rl) : wordV l w r = wordV l' w r :=
 Bool.eq_iff_iff.2 ⟨wordV_sub h h0', wordV_sub h' h0⟩
theorem CkOK.same {l l' : List Ax} (h : RSub l l') (h' : RSub l' l) (h0 : chkL l = 0) (h0' : chkL l' = 0) {X : List Rl} {e : Int} (hC : CkOK l X e) : CkOK l' X e := by
 refine ⟨hC.1, fun hh => absurd h0' hh, fun _ => ?_⟩
 rcases hC.2.2 h0 with ⟨a, b⟩ | ⟨a, b⟩
 ·exact .inl ⟨a.congr fun p => ⟨stE_sub h p, stE_sub h' p⟩, b⟩
 ·exact .inr ⟨fun c hc => a c (hc.mono (stE_sub h')), b⟩
theorem CkOK.fewer {l l' : List Ax} (h : RSub l l') (h0 : chkL l = 0) {X Y : List Rl} {f : Int} (hC : CkOK l' X 0) (hC' : CkOK l Y f) : f = 0 := by
 have h0' := hC.zero (.inl rfl)
 rcases hC.2.2 h0' with ⟨_, b⟩ | ⟨a, _⟩
 ·cases b
 ·rcases hC'.2.2 h0 with ⟨b, _⟩ | ⟨_, _, b⟩
  ·exact absurd (b.1.mono (stE_sub h)) (a _)
  ·exact b
def roleAx (x : Ax) : Bool := decide (x.kind = 5) || decide (x.kind = 6) || decide (x.kind = 7)
def revR (l : List Ax) : List Ax := l.reverse.filter roleAx
theorem roleAx_iff {x : Ax} : roleAx x = true ↔ (x.kind = 5 ∨ x.kind = 6 ∨ x.kind = 7) := by
 simp [roleAx, or_assoc]
theorem mem_revR {l : List Ax} {x : Ax} : x ∈ revR l ↔ x ∈ l ∧ (x.kind = 5 ∨ x.kind = 6 ∨ x.kind = 7) := by
 simp [revR, roleAx_iff]
theorem rsub_rev (l : List Ax) : RSub l (revR l) := fun x hx hk => mem_revR.2 ⟨hx, hk⟩
theorem rsub_of_rev (l : List Ax) : RSub (revR l) l := fun x hx _ => (mem_revR.1 hx).1
theorem chk_rev {l : List Ax} (h : chkL l = 0) : chkL (revR l) = 0 := chkL_of fun x hx => chkL_mem h x (mem_revR.1 hx).1
theorem revR_len (l : List Ax) : (revR l).length ≤ l.length := by
 have := List.length_filter_le roleAx l.reverse
 simpa [revR] using this
end Go.Ai.Z
namespace Go.Ai.Z
theorem revR_succ {l : List Ax} {n : Nat} (h : n < l.length) : revR (l.take (n + 1)) = (if roleAx l[n] = true then [l[n]] else []) ++ revR (l.take n) := by
 unfold revR
 rw [List.take_succ_eq_append_getElem h, List.reverse_append, List.reverse_singleton, List.filter_append]
 congr 1
 by_cases hr : roleAx l[n] = true <;> simp [hr]
theorem l_law06_inv (z : Bool) (l : List Ax) (hl : l.length ≤ 1000) (zw : Bool) (w : List Rl) (role : Rl) (s : St) (cx : Ctx) :
  ∀ (n : Nat) (out : List Ax), n ≤ l.length → out.length + n ≤ 1000 →
  loopW (acodeW P0.glob (acallW P0) cx false ir_law06_RolesInvariant_L0) [0, 1, 2, 9, 10]
   [(0, .v (slf z (l.map encA))), (1, .v (slf zw (w.map .s))), (2, .v (.s role)), (9, .own false T_api_Axiom_1 16 (out.map encA)), (10, .v (.i .i64 ((n : Int) - 1)))] s =
   .exit 0 [(0, .v (slf z (l.map encA))), (1, .v (slf zw (w.map .s))), (2, .v (.s role)), (9, .own false T_api_Axiom_1 16 ((out ++ revR (l.take n)).map encA)), (10, .v (.i .i64 (-1))), (57, .v (.b false))] s
 | 0, out, _, _ => by
  refine loop_step fun K hK => ?_
  simp [ir_law06_RolesInvariant_L0, revR]
 | n + 1, out, hn, ho => by
  have hlt : n < l.length := by omega
  obtain ⟨x, hx⟩ : ∃ x, x = l[n] := ⟨_, rfl⟩
  have g5 : l[n] = x := hx.symm
  have e10 : ((n + 1 : Nat) : Int) - 1 = (n : Int) := by omega
  have hge : (0 : Int) ≤ (n : Int) := by omega
  have hw : IntKind.i64.wrap ((n : Int) - 1) = (n : Int) - 1 := w64 (by omega) (by omega)
  have hm : out.length + 1 ≤ maxSl := by unfold maxSl; omega
  have hrs := revR_succ hlt
  rw [g5] at hrs
  refine loop_step fun K hK => ?_
  have hKk : ∀ e t, K e t = K (keepE e [0, 1, 2, 9, 10]) t := fun e t => by rw [hK]; exact loopW_keep _ _ _ _
  rw [e10, hrs]
  by_cases hr : roleAx x = true
  ·have ih := l_law06_inv z l hl zw w role s cx n (out ++ [x]) (by omega) (by simp; omega)
   rw [← hK] at ih
   clear hK
   rw [if_pos hr, ← List.append_assoc, ← ih]
   rcases roleAx_iff.1 hr with h5 | h5 | h5
   ·simp [fillC, ir_law06_RolesInvariant_L0, hlt, g5, hge, hw, hm, h5]
    rw [← h5]; rfl
   ·simp [fillC, ir_law06_RolesInvariant_L0, hlt, g5, hge, hw, hm, h5]
    rw [← h5]; rfl
   ·simp [fillC, ir_law06_RolesInvariant_L0, hlt, g5, hge, hw, hm, h5]
    rw [← h5]; rfl
  ·have ih := l_law06_inv z l hl zw w role s cx n out (by omega) (by omega)
   rw [← hK] at ih
   clear hK
   rw [if_neg hr, List.nil_append, ← ih]
   have hn' : ¬ (x.kind = 5 ∨ x.kind = 6 ∨ x.kind = 7) := fun h => hr (roleAx_iff.2 h)
   have h1 : ¬ x.kind = 5 := fun h => hn' (.inl h)
   have h2 : ¬ x.kind = 6 := fun h => hn' (.inr (.inl h))
   have h3 : ¬ x.kind = 7 := fun h => hn' (.inr (.inr h))
   simp [ir_law06_RolesInvariant_L0, hlt, g5, hge, hw, h1, h2, h3]
theorem c_invariant_law (z : Bool) (l : List Ax) (hl : l.length ≤ 1125899906842624) (hx : ∀ x ∈ l, x.Ok) (zw : Bool) (w : List (List UInt8)) (role : List UInt8) (hs : acallW P0 (.fn (.func F_law06_sane) [] []) [] [] ⟨0, 0⟩ = .ret (.b true) []) (cx : Ctx) :
  acallW P0 (.fn (.func F_law06_RolesInvariant) [] []) [slf z (l.map encA), slf zw (w.map .s), .s role] [] cx = .ret (.b true) [] := by
 obtain ⟨b, e1, hb⟩ := c_law06_few z l hl hx
 have e0 := c_law06_short zw w
 refine go_law06_RolesInvariant (by simp) ?_
 cases b with
 | false => simp [callFnW, ir_law06_RolesInvariant, hs, e1]
 | true =>
  obtain ⟨h12, hf⟩ := hb rfl
  cases hsw : shortW w with
  | false =>
   rw [hsw] at e0
   simp [callFnW, ir_law06_RolesInvariant, hs, e1, e0]
  | true =>
   rw [hsw] at e0
   simp only [shortW, Bool.and_eq_true, decide_eq_true_eq, List.all_eq_true] at hsw
   obtain ⟨hw7, hwx⟩ := hsw
   by_cases hr : 100 < role.length
   ·have hr' : (100 : Int) < role.length := by omega
    simp [callFnW, ir_law06_RolesInvariant, hs, e1, e0, hr']
   ·have hr' : ¬ (100 : Int) < role.length := by omega
    obtain ⟨X, e, e2, hC⟩ := c_roles_Check z l (by omega) hf [] ⟨0, 0⟩
    by_cases hee : e = 0 ∨ e = 60
    ·have h0 := hC.zero hee
     have h0' := chk_rev h0
     have hml := revR_len l
     have hmf : ∀ x ∈ revR l, x.Few := fun x hx => hf x (mem_revR.1 hx).1
     have hL := l_law06_inv z l (by omega) zw w role [] ⟨0, 0⟩ l.length [] (Nat.le_refl _) (by simp; omega)
     rw [List.take_length, List.nil_append] at hL
     obtain ⟨Y, f, e3, hC'⟩ := c_roles_Check false (revR l) (by omega) hmf [] ⟨0, 0⟩
     obtain ⟨rfl, rfl⟩ := hC'.uniq (hC.same (rsub_rev l) (rsub_of_rev l) h0 h0')
     have e4 := c_roles_Word z l (by omega) hf zw w hw7 (fun r hr => by have := hwx r hr; omega) role (by omega)
     have e5 := c_roles_Word false (revR l) (by omega) hmf zw w hw7 (fun r hr => by have := hwx r hr; omega) role (by omega)
     have e6 := c_roles_Above z l (by omega) hf role (by omega)
     have e7 := c_roles_Above false (revR l) (by omega) hmf role (by omega)
     have e8 := c_roles_Simple z l (by omega) hf role (by omega)
     have e9 := c_roles_Simple false (revR l) (by omega) hmf role (by omega)
     rw [← wordV_same (rsub_rev l) (rsub_of_rev l) h0 h0'] at e5
     rw [← simpS_same (rsub_rev l) (rsub_of_rev l) h0 h0'] at e9
     have q1 : wordE (revR l) w role = wordE l w role := by simp [wordE, h0, h0']
     have q2 : aboveE (revR l) role = aboveE l role := by simp [aboveE, h0, h0']
     have q3 : aboveV (revR l) role = aboveV l role := by simp [aboveV, h0, h0', upS_same (rsub_rev l) (rsub_of_rev l)]
     rw [q1] at e5
     rw [q2, q3] at e7
     rw [q2] at e9
     have c1 := c_ref06_Same false false Y Y hC'.1 hC'.1
     obtain ⟨za, V, hV, hVl⟩ := aboveV_slf l role
     have c2 := c_ref06_Same za za V V (by omega) (by omega)
     have hap : (aboveV l role).plain = aboveV l role := by rw [hV]; cases za <;> (try rw [slf_false]) <;> simp
     rw [← hV] at c2
     simp only [slf_false] at c1 e3 e5 e7 e9
     simp only [decide_true] at c1 c2
     generalize wordV l w role = wv at *
     generalize wordE l w role = we at *
     generalize aboveV l role = av at *
     generalize aboveE l role = ae at *
     generalize simpS l role = sv at *
     clear hC hC' hf hx hb hmf hwx h0' hml
     simp only [List.map_nil] at hL
     have hwl : IntKind.i64.wrap ((l.length : Int) - 1) = (l.length : Int) - 1 := w64 (by omega) (by omega)
     rcases hee with rfl | rfl
     ·simp [callFnW, ir_law06_RolesInvariant, hs, e1, e0, hr', hap, e2, hwl, hL, e3, e4, e5, e6, e7, e8, e9, c1, c2]
     ·simp [callFnW, ir_law06_RolesInvariant, hs, e1, e0, hr', hap, e2, hwl, hL, e3, e4, e5, e6, e7, e8, e9, c1, c2]
    ·have q1 : ¬ e = 0 := fun h => hee (.inl h)
     have q2 : ¬ e = 60 := fun h => hee (.inr h)
     clear hC hf hx hb hwx
     simp [callFnW, ir_law06_RolesInvariant, hs, e1, e0, hr', e2, q1, q2]
end Go.Ai.Z
