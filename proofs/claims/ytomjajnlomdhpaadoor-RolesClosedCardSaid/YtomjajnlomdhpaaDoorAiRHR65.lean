/-
 veilstonelaw06.has: the contract.
-/
import Derived.Test.YtomjajnlomdhpaaDoorAiRchR1
import Derived.Test.YtomjajnlomdhpaaDoorAiR31R32R33R34R35R36
import Derived.Test.YtomjajnlomdhpaaDoorAiR4R5R6
import Derived.Test.YtomjajnlomdhpaaDoorAiR61R62R63
set_option maxRecDepth 100000
set_option linter.unusedSimpArgs false
set_option linter.unusedVariables false
namespace Go.Ai.Z
theorem l_law06_has (z : Bool) (l : List (List UInt8)) (x : List UInt8) (hl : l.length ≤ 1000000) (s : St) (cx : Ctx) :
  ∀ (rest : List (List UInt8)) (i : Nat), l.drop i = rest →
  ∃ j : Int, loopW (acodeW P0.glob (acallW P0) cx false ir_law06_has_L0) [0, 1, 5] [(0, .v (slf z (l.map .s))), (1, .v (.s x)), (5, .v (.i .i64 i))] s =
   if x ∈ rest then .ret [(4, .v (.b true))] s else .exit 0 [(0, .v (slf z (l.map .s))), (1, .v (.s x)), (5, .v (.i .i64 j)), (9, .v (.b false))] s
 | [], i, h => by
  have h1 : ¬ i < l.length := Nat.not_lt.2 (drop_nil h)
  refine ⟨i, loop_step fun K hK => ?_⟩
  simp [ir_law06_has_L0, h1]
 | p :: r, i, h => by
  obtain ⟨h1, h2, h3, h4⟩ := drop_cons h
  have h5 := h4 h3
  have hw := wI (i := i) (by omega)
  by_cases hp : p = x
  ·refine ⟨0, loop_step fun K hK => ?_⟩
   clear h4
   simp [ir_law06_has_L0, h3, h5, hw, hp]
  ·obtain ⟨j, ih⟩ := l_law06_has z l x hl s cx r (i + 1) h2
   have hp' : ¬ x = p := fun h => hp h.symm
   refine ⟨j, loop_step fun K hK => ?_⟩
   rw [← hK, show ((i + 1 : Nat) : Int) = (i : Int) + 1 from rfl] at ih
   clear hK h4
   try simp at ih
   simp [ir_law06_has_L0, h3, h5, hw, hp, hp', ih]
theorem c_law06_has (l : List (List UInt8)) (x : List UInt8) (hl : l.length ≤ 1000000) (s : St) (cx : Ctx) : acallW P0 (.fn (.func F_law06_has) [] []) [.sl (l.map .s), .s x] s cx = .ret (.b (decide (x ∈ l))) s := by
 obtain ⟨j, h⟩ := l_law06_has false l x hl s ⟨s.length, s.length⟩ l 0 rfl
 refine go_law06_has (by simp) ?_
 simp at h
 by_cases hx : x ∈ l <;> simp [callFnW, ir_law06_has, h, hx]
end Go.Ai.Z
namespace Go.Ai.Z
theorem l_law06_cls0 (A W : AV) (role : Rl) (p q : Int) (up : List Rl) (hul : up.length ≤ 1000000) (wv sv : Bool) (hW : wv = true → ∀ u ∈ up, ∀ s cx, acallW P0 (.fn (.func F_roles_Word) [] []) [A, W, .s u] s cx = .ret (.tu [.b true, .i .i64 0]) s)
  (hA : A.plain = A) (hWp : W.plain = W) (s : St) (cx : Ctx) :
  ∀ (rest : List Rl) (i : Nat), up.drop i = rest →
  ∃ j : Int, loopW (acodeW P0.glob (acallW P0) cx false ir_law06_RolesClosed_L0) [0, 1, 2, 3, 4, 11, 13, 15, 17]
   [(0, .v A), (1, .v W), (2, .v (.s role)), (3, .v (.i .i64 p)), (4, .v (.i .i64 q)), (11, .v (.b wv)), (13, .v (.sl (up.map .s))), (15, .v (.b sv)), (17, .v (.i .i64 i))] s =
   .exit 0 [(0, .v A), (1, .v W), (2, .v (.s role)), (3, .v (.i .i64 p)), (4, .v (.i .i64 q)), (11, .v (.b wv)), (13, .v (.sl (up.map .s))), (15, .v (.b sv)), (17, .v (.i .i64 j)), (81, .v (.b false))] s
 | [], i, h => by
  have h1 : ¬ i < up.length := Nat.not_lt.2 (drop_nil h)
  refine ⟨i, loop_step fun K hK => ?_⟩
  simp [ir_law06_RolesClosed_L0, h1]
 | u :: rest, i, h => by
  obtain ⟨g1, g2, g3, g4⟩ := drop_cons h
  have g5 := g4 g3
  have hwi := wI (i := i) (by omega)
  cases wv with
  | false =>
   refine ⟨i, loop_step fun K hK => ?_⟩
   clear hK g4 hW
   simp [ir_law06_RolesClosed_L0, g3]
  | true =>
   have e1 := hW rfl u (by rw [← g5]; exact List.getElem_mem g3)
   obtain ⟨j, ih⟩ := l_law06_cls0 A W role p q up hul true sv hW hA hWp s cx rest (i + 1) g2
   refine ⟨j, loop_step fun K hK => ?_⟩
   rw [← hK, show ((i + 1 : Nat) : Int) = (i : Int) + 1 from rfl] at ih
   clear hK g4 hW
   rw [← ih]
   simp [ir_law06_RolesClosed_L0, g3, g5, hwi, e1, hA, hWp]
def ClsR (A Bpq : AV) (P Q : List Rl) (role : Rl) (wv : Bool) (r : Rl) : Prop :=
 ∃ (b1 b2 : Bool) (e1 e2 : Int), (∀ s cx, acallW P0 (.fn (.func F_roles_Word) [] []) [A, Bpq, .s r] s cx = .ret (.tu [.b b1, .i .i64 e1]) s) ∧
  (∀ s cx, acallW P0 (.fn (.func F_roles_Word) [] []) [A, .sl ((P ++ r :: Q).map .s), .s role] s cx = .ret (.tu [.b b2, .i .i64 e2]) s) ∧ (b1 = true → b2 = true → wv = true)
theorem l_law06_cls1 (A W Bpq Bp Bq a0 a2 a3 : AV) (P Q : List Rl) (hP : P.length ≤ 1000) (hQ : Q.length ≤ 1000) (role : Rl) (p q : Nat) (R : List Rl) (hR : R.length ≤ 1000000) (wv : Bool) (hC : ∀ r ∈ R, ClsR A Bpq P Q role wv r)
  (hA : A.plain = A) (hWp : W.plain = W) (hB : Bpq.plain = Bpq)
  (H1 : ∀ s env, lk env 146 = some (.v (.i .i64 p)) → lk env 147 = some (.v (.i .i64 q)) → slcV P0.glob 1 (some (.t 146)) (some (.t 147)) s (some (W, env)) = .ok (.v Bpq) env s)
  (H2 : ∀ s env, lk env 159 = some (.v (.i .i64 p)) → slcV P0.glob 1 none (some (.t 159)) s (some (W, env)) = .ok (.v Bp) env s)
  (H3 : ∀ s env, lk env 172 = some (.v (.i .i64 q)) → slcV P0.glob 1 (some (.t 172)) none s (some (W, env)) = .ok (.v Bq) env s)
  (h2 : ∀ env, elemsE env (some (.v Bp)) = some (P.map .s)) (h3 : ∀ env, elemsE env (some (.v Bq)) = some (Q.map .s)) (s : St) (cx : Ctx) :
  ∀ (rest : List Rl) (i : Nat), R.drop i = rest →
  ∃ j : Int, loopW (acodeW P0.glob (acallW P0) cx false ir_law06_RolesClosed_L1) [0, 1, 2, 3, 4, 11, 23, 25]
   [(0, .v A), (1, .v W), (2, .v (.s role)), (3, .v (.i .i64 p)), (4, .v (.i .i64 q)), (11, .v (.b wv)), (23, .bx [a0, slf true (R.map .s), a2, a3]), (25, .v (.i .i64 i))] s =
   .exit 2 [(0, .v A), (1, .v W), (2, .v (.s role)), (3, .v (.i .i64 p)), (4, .v (.i .i64 q)), (11, .v (.b wv)), (23, .bx [a0, slf true (R.map .s), a2, a3]), (25, .v (.i .i64 j)), (140, .v (.b false))] s
 | [], i, h => by
  have h1 : ¬ i < R.length := Nat.not_lt.2 (drop_nil h)
  refine ⟨i, loop_step fun K hK => ?_⟩
  simp [ir_law06_RolesClosed_L1, h1]
 | r :: rest, i, h => by
  obtain ⟨g1, g2, g3, g4⟩ := drop_cons h
  have g5 := g4 g3
  have hwi := wI (i := i) (by omega)
  obtain ⟨b1, b2, n1, n2, e1, e2, hb⟩ := hC r (by rw [← g5]; exact List.getElem_mem g3)
  obtain ⟨j, ih⟩ := l_law06_cls1 A W Bpq Bp Bq a0 a2 a3 P Q hP hQ role p q R hR wv hC hA hWp hB H1 H2 H3 h2 h3 s cx rest (i + 1) g2
  refine ⟨j, loop_step fun K hK => ?_⟩
  rw [← hK, show ((i + 1 : Nat) : Int) = (i : Int) + 1 from rfl] at ih
  clear hK g4 hC
  rw [← ih]
  have m1 : P.length ≤ maxSl := by unfold maxSl; omega
  have m2 : P.length + 1 ≤ maxSl := by unfold maxSl; omega
  have m3 : P.length + 1 + Q.length ≤ maxSl := by unfold maxSl; omega
  have m4 : P.length + (Q.length + 1) ≤ maxSl := by unfold maxSl; omega
  simp at e2
  cases b1 with
  | false => simp [ir_law06_RolesClosed_L1, show List.range 1 = [0] from rfl, g3, g5, hwi, e1, e2, hA, hWp, hB, H1, H2, H3, h2, h3, m1, m2, m3, m4]
  | true =>
   cases b2 with
   | false => simp [ir_law06_RolesClosed_L1, show List.range 1 = [0] from rfl, g3, g5, hwi, e1, e2, hA, hWp, hB, H1, H2, H3, h2, h3, m1, m2, m3, m4]
   | true =>
    obtain rfl := hb rfl rfl
    simp [ir_law06_RolesClosed_L1, show List.range 1 = [0] from rfl, g3, g5, hwi, e1, e2, hA, hWp, hB, H1, H2, H3, h2, h3, m1, m2, m3, m4]
theorem cells1 (w : List Rl) : (w.map AV.s).all (fun e => e.cells.length == 1) = true := by
 simp only [List.all_eq_true, List.mem_map, beq_iff_eq]
 rintro _ ⟨x, _, rfl⟩; rfl
theorem cut_word (zw : Bool) (w : List Rl) (p q : Nat) (hpq : p ≤ q) (hq : q ≤ w.length) : ∃ (zb : Bool) (Bp Bq : AV),
  (∀ s env, lk env 146 = some (.v (.i .i64 p)) → lk env 147 = some (.v (.i .i64 q)) → slcV P0.glob 1 (some (.t 146)) (some (.t 147)) s (some (slf zw (w.map .s), env)) = .ok (.v (slf zb (((w.drop p).take (q - p)).map .s))) env s) ∧
  (∀ s env, lk env 159 = some (.v (.i .i64 p)) → slcV P0.glob 1 none (some (.t 159)) s (some (slf zw (w.map .s), env)) = .ok (.v Bp) env s) ∧
  (∀ s env, lk env 172 = some (.v (.i .i64 q)) → slcV P0.glob 1 (some (.t 172)) none s (some (slf zw (w.map .s), env)) = .ok (.v Bq) env s) ∧
  (∀ env, elemsE env (some (.v Bp)) = some ((w.take p).map .s)) ∧ (∀ env, elemsE env (some (.v Bq)) = some ((w.drop q).map .s)) := by
 have hp0 : (0 : Int) ≤ (p : Int) := by omega
 have hq0 : (0 : Int) ≤ (q : Int) := by omega
 rcases slf_cases zw (w.map AV.s) with h | ⟨h, h'⟩
 ·rw [h]
  refine ⟨false, .sl ((w.take p).map .s), .sl ((w.drop q).map .s), fun s env h1 h2 => ?_, fun s env h1 => ?_, fun s env h1 => ?_, fun _ => rfl, fun _ => rfl⟩
  ·rw [slcV_sl, slf_false]
   simp only [bound, rd, ev, h1, h2, AV.plain, if_pos hp0, if_pos hq0, Int.toNat_natCast]
   rw [if_pos ⟨hpq, by simpa using hq, cells1 w⟩, List.map_take, List.map_drop]
  ·rw [slcV_sl]
   simp only [bound, rd, ev, h1, AV.plain, if_pos hp0, Int.toNat_natCast]
   rw [if_pos ⟨Nat.zero_le _, by simp; omega, cells1 w⟩]
   simp [List.map_take]
  ·rw [slcV_sl]
   simp only [bound, rd, ev, h1, AV.plain, if_pos hq0, Int.toNat_natCast]
   rw [if_pos ⟨by simpa using hq, Nat.le_refl _, cells1 w⟩]
   rw [List.take_of_length_le (by simp), List.map_drop]
 ·rw [h]
  obtain rfl : w = [] := by simpa using h'
  obtain rfl : q = 0 := by simpa using hq
  obtain rfl : p = 0 := by omega
  refine ⟨true, .ns, .ns, fun s env h1 h2 => ?_, fun s env h1 => ?_, fun s env h1 => ?_, fun _ => rfl, fun _ => rfl⟩
  ·rw [slcV_ns]; simp [bound, rd, ev, h1, h2, AV.plain]
  ·rw [slcV_ns]; simp [bound, rd, ev, h1, AV.plain]
  ·rw [slcV_ns]; simp [bound, rd, ev, h1, AV.plain]
theorem up_nm {l : List Ax} (h0 : chkL l = 0) (hx : ∀ x ∈ l, x.Few) {role u : Rl} (hr : nmOK role = true) (hrl : role.length ≤ 600) (hu : u ∈ upS l role) : nmOK u = true ∧ u.length ≤ 600 := by
 rcases rch_cases (mem_upS.1 hu) with rfl | h
 ·exact ⟨hr, hrl⟩
 ·obtain ⟨pr, hp, rfl⟩ := List.mem_map.1 h
  refine ⟨?_, (edU_role hx hp).2⟩
  simp only [edU, List.mem_filterMap] at hp
  obtain ⟨x, hx', he⟩ := hp
  split at he
  ·rename_i h5
   cases he
   exact role_nm (chkL_mem h0 x hx') (.inl h5)
  ·cases he
theorem word_up {l : List Ax} (h0 : chkL l = 0) (hx : ∀ x ∈ l, x.Few) {w : List Rl} {role u : Rl} (hn : (role :: w).all nmOK = true) (hrl : role.length ≤ 600) (hu : u ∈ upS l role) (hw : wordV l w role = true) : wordV l w u = true ∧ wordE l w u = 0 := by
 have hr : nmOK role = true := by simp only [List.all_cons, Bool.and_eq_true] at hn; exact hn.1
 have hn' : (u :: w).all nmOK = true := by
  simp only [List.all_cons, Bool.and_eq_true] at hn ⊢
  exact ⟨(up_nm h0 hx hr hrl hu).1, hn.2⟩
 refine ⟨wordV_iff.2 ⟨h0, hn', drv_up (one5_all h0) (wordV_iff.1 hw).2.2 (mem_upS.1 hu)⟩, ?_⟩
 simp only [wordE, if_pos h0, if_pos hn']
theorem simp_word {l : List Ax} (h0 : chkL l = 0) {w : List Rl} {role : Rl} (hn : (role :: w).all nmOK = true) (hs : simpS l role = true) : wordV l w role = true ↔ ∃ r, w = [r] ∧ role ∈ upS l r := by
 simp only [simpS, Bool.and_eq_true, decide_eq_true_eq, List.all_eq_true] at hs
 have hb : ∀ x ∈ l, (x.kind = 6 ∨ x.kind = 7) → ¬ Rch (edU l) x.role role := fun x hx hk hu => by
  have := hs.2 x hx
  have hbad : badS l role x = true := by
   simp only [badS, Bool.and_eq_true, Bool.or_eq_true, decide_eq_true_eq]
   exact ⟨hk.symm, mem_upS.2 hu⟩
  rw [hbad] at this; cases this
 constructor
 ·intro hw
  obtain ⟨h1, r, h2, h3⟩ := drv_simple (one5_all h0) hb (wordV_iff.1 hw).2.2
  refine ⟨r, ?_, mem_upS.2 h3⟩
  match w, h1, h2 with
  | [a], _, h2 => simp at h2; subst h2; rfl
 ·rintro ⟨r, rfl, hu⟩
  exact wordV_iff.2 ⟨h0, hn, drv_up (one5_all h0) ((drv_closed l [r]).word 0 r rfl) (mem_upS.1 hu)⟩
theorem word_part {l : List Ax} (h0 : chkL l = 0) {w : List Rl} {role r : Rl} (hn : (role :: w).all nmOK = true) {p q : Nat} (hpq : p ≤ q) (hq : q ≤ w.length) (h1 : wordV l ((w.drop p).take (q - p)) r = true) (h2 : wordV l (w.take p ++ r :: w.drop q) role = true) : wordV l w role = true := by
 have hR := hasR_of h0
 have d1 := (wordV_iff.1 h1).2.2
 rw [← List.drop_take] at d1
 have d1' := drv_sub hR hpq hq d1
 have hlen : ((w.take q).drop p).length = q - p := by simp; omega
 rw [hlen, Nat.add_zero, show p + (q - p) = q by omega] at d1'
 have d2 := drv_part hR hpq hq d1' (wordV_iff.1 h2).2.2
 have hlen2 : (w.take p ++ r :: w.drop q).length = p + 1 + (w.length - q) := by simp; omega
 rw [hlen2, if_pos (Nat.zero_le p), if_neg (by omega), show p + 1 + (w.length - q) + (q - p) - 1 = w.length by omega] at d2
 exact wordV_iff.2 ⟨h0, hn, d2⟩
theorem slS_slf' (l : List Rl) : slS l = slf true (l.map .s) := by cases l <;> rfl
theorem c_closed_in (z : Bool) (l : List Ax) (h12 : l.length ≤ 12) (hf : ∀ x ∈ l, x.Few) (zw : Bool) (w : List (List UInt8)) (hw7 : w.length ≤ 7) (hwx : ∀ r ∈ w, r.length ≤ 100) (role : List UInt8) (hr : role.length ≤ 100) (p q : Nat) (hpq : p ≤ q) (hq : q ≤ w.length) (h0 : chkL l = 0) (hn : (role :: w).all nmOK = true) (s : St) (cx : Ctx) :
  ∃ (a0 a2 a3 : AV) (R : List Rl) (j : Int), (a0.one = true ∧ a2.one = true ∧ a3.one = true) ∧ (∀ s cx, acallW P0 (.fn (.func F_terms_Vocabulary) [] []) [slf z (l.map encA)] s cx = .ret (.tu [.ag [a0, slf true (R.map .s), a2, a3], .i .i64 0]) s) ∧
   loopW (acodeW P0.glob (acallW P0) cx false ir_law06_RolesClosed_L1) [0, 1, 2, 3, 4, 11, 23, 25]
    [(0, .v (slf z (l.map encA))), (1, .v (slf zw (w.map .s))), (2, .v (.s role)), (3, .v (.i .i64 p)), (4, .v (.i .i64 q)), (11, .v (.b (wordV l w role))), (23, .bx [a0, slf true (R.map .s), a2, a3]), (25, .v (.i .i64 0))] s =
   .exit 2 [(0, .v (slf z (l.map encA))), (1, .v (slf zw (w.map .s))), (2, .v (.s role)), (3, .v (.i .i64 p)), (4, .v (.i .i64 q)), (11, .v (.b (wordV l w role))), (23, .bx [a0, slf true (R.map .s), a2, a3]), (25, .v (.i .i64 j)), (140, .v (.b false))] s := by
 obtain ⟨zb, Bp, Bq, H1, H2, H3, h2, h3⟩ := cut_word zw w p q hpq hq
 obtain ⟨A, R, F, I, hRl, hRx, hv⟩ := c_terms_Vocabulary z l (by omega) hf h0
 have hC : ∀ r ∈ R, ClsR (slf z (l.map encA)) (slf zb (((w.drop p).take (q - p)).map .s)) (w.take p) (w.drop q) role (wordV l w role) r := fun r hr' => by
  have hrl := hRx r hr'
  refine ⟨wordV l ((w.drop p).take (q - p)) r, wordV l (w.take p ++ r :: w.drop q) role, wordE l ((w.drop p).take (q - p)) r, wordE l (w.take p ++ r :: w.drop q) role, fun s cx => c_roles_Word8 z l (by omega) hf zb ((w.drop p).take (q - p)) (by simp; omega) (fun x hx => ?_) r (by omega) s cx, fun s cx => ?_, fun a b => word_part h0 hn hpq hq a b⟩
  ·have := hwx x (List.mem_of_mem_drop (List.mem_of_mem_take hx)); omega
  ·have := c_roles_Word8 z l (by omega) hf false (w.take p ++ r :: w.drop q) (by simp; omega) (fun x hx => by
    rcases List.mem_append.1 hx with hx | hx
    ·have := hwx x (List.mem_of_mem_take hx); omega
    ·rcases List.mem_cons.1 hx with rfl | hx
     ·omega
     ·have := hwx x (List.mem_of_mem_drop hx); omega) role (by omega) s cx
   rwa [slf_false] at this
 obtain ⟨j, hL⟩ := l_law06_cls1 (slf z (l.map encA)) (slf zw (w.map .s)) _ Bp Bq (slS A) (slS F) (slS I) (w.take p) (w.drop q) (by simp; omega) (by simp; omega) role p q R hRl (wordV l w role) hC (by simp) (by simp) (by simp) H1 H2 H3 h2 h3 s cx R 0 rfl
 exact ⟨slS A, slS F, slS I, R, j, ⟨slS_one A, slS_one F, slS_one I⟩, fun s cx => by rw [← slS_slf']; exact hv s cx, hL⟩
def _root_.Go.Ai.ACode.ca : ACode → ACode
 | .seq a _ => a
 | c => c
def _root_.Go.Ai.ACode.cd : ACode → ACode
 | .seq _ b => b
 | c => c
def clsC : ACode := ir_law06_RolesClosed.code
def clsM : ACode := clsC.cd.cd.cd.cd
def clsS : ACode := clsM.cd.cd.cd.cd.ca
def clsT : ACode := clsM.cd.cd.cd.cd.cd
theorem cls_split : ir_law06_RolesClosed.code = .seq clsC.ca (.seq clsC.cd.ca (.seq clsC.cd.cd.ca (.seq clsC.cd.cd.cd.ca (.seq clsM.ca (.seq clsM.cd.ca (.seq clsM.cd.cd.ca (.seq clsM.cd.cd.cd.ca (.seq clsS clsT)))))))) := rfl
def clsE (A W : AV) (role : Rl) (p q : Int) (wv : Bool) (X : Env) : Env := (0, .v A) :: (1, .v W) :: (2, .v (.s role)) :: (3, .v (.i .i64 p)) :: (4, .v (.i .i64 q)) :: (11, .v (.b wv)) :: X
theorem t_cls (A W : AV) (hA : A.plain = A) (hWp : W.plain = W) (ws : List Rl) (hWl : ∀ env, elemsE env (some (.v W)) = some (ws.map .s)) (role : Rl) (p q : Int) (wv : Bool) (k : Nat) (hk : k = 100 ∨ k = 117)
  (h : p < 0 ∨ (¬ p < 0 ∧ q < p) ∨ (¬ p < 0 ∧ ¬ q < p ∧ (ws.length : Int) < q) ∨ (¬ p < 0 ∧ ¬ q < p ∧ ¬ (ws.length : Int) < q ∧ ∃ (a0 a2 a3 : AV) (R : List Rl) (j : Int), (a0.one = true ∧ a2.one = true ∧ a3.one = true) ∧ (∀ s cx, acallW P0 (.fn (.func F_terms_Vocabulary) [] []) [A] s cx = .ret (.tu [.ag [a0, slf true (R.map .s), a2, a3], .i .i64 0]) s) ∧
   loopW (acodeW P0.glob (acallW P0) ⟨0, 0⟩ false ir_law06_RolesClosed_L1) [0, 1, 2, 3, 4, 11, 23, 25] (clsE A W role p q wv [(23, .bx [a0, slf true (R.map .s), a2, a3]), (25, .v (.i .i64 0))]) [] =
    .exit 2 (clsE A W role p q wv [(23, .bx [a0, slf true (R.map .s), a2, a3]), (25, .v (.i .i64 j)), (140, .v (.b false))]) [])) :
  acodeW P0.glob (acallW P0) ⟨0, 0⟩ false clsT (clsE A W role p q wv [(k, .v (.b false))]) [] = .ret [(10, .v (.b true))] [] := by
 rcases h with c1 | ⟨c1, c2⟩ | ⟨c1, c2, c3⟩ | ⟨c1, c2, c3, a0, a2, a3, R, j1, ⟨o0, o2, o3⟩, hV, hL1⟩
 ·rcases hk with rfl | rfl <;> simp [clsT, clsM, clsC, ACode.cd, clsE, ir_law06_RolesClosed, hA, hWp, hWl, c1]
 ·rcases hk with rfl | rfl <;> simp [clsT, clsM, clsC, ACode.cd, clsE, ir_law06_RolesClosed, hA, hWp, hWl, c1, c2]
 ·rcases hk with rfl | rfl <;> simp [clsT, clsM, clsC, ACode.cd, clsE, ir_law06_RolesClosed, hA, hWp, hWl, c1, c2, c3]
 ·simp only [clsE] at hL1
  rcases hk with rfl | rfl <;> simp [clsT, clsM, clsC, ACode.cd, clsE, ir_law06_RolesClosed, hA, hWp, hWl, c1, c2, c3, hV, hL1, o0, o2, o3]
theorem s_cls (z : Bool) (l : List Ax) (zw : Bool) (w : List Rl) (role : Rl) (p q : Int) (wv sv : Bool) (up : AV) (j0 : Int)
  (hsv : sv = false ∨ (sv = true ∧ ∃ (r : Rl) (u : List Rl), w = [r] ∧ wv = decide (role ∈ u) ∧ (∀ s cx, acallW P0 (.fn (.func F_roles_Above) [] []) [slf z (l.map encA), .s r] s cx = .ret (.tu [.sl (u.map .s), .i .i64 0]) s) ∧ u.length ≤ 1000000) ∨ (sv = true ∧ ¬ w.length = 1 ∧ wv = false)) :
  ∃ k : Nat, (k = 100 ∨ k = 117) ∧ acodeW P0.glob (acallW P0) ⟨0, 0⟩ false clsS (clsE (slf z (l.map encA)) (slf zw (w.map .s)) role p q wv [(13, .v up), (15, .v (.b sv)), (17, .v (.i .i64 j0)), (81, .v (.b false))]) [] = .norm (clsE (slf z (l.map encA)) (slf zw (w.map .s)) role p q wv [(k, .v (.b false))]) [] := by
 rcases hsv with rfl | ⟨rfl, r, u, rfl, rfl, k1, k2⟩ | ⟨rfl, hw1, rfl⟩
 ·exact ⟨100, .inl rfl, by simp [clsS, clsM, clsC, ACode.cd, ACode.ca, clsE, ir_law06_RolesClosed]⟩
 ·have k3 := c_law06_has u role k2
  exact ⟨117, .inr rfl, by simp [clsS, clsM, clsC, ACode.cd, ACode.ca, clsE, ir_law06_RolesClosed, k1, k3]⟩
 ·have hw1' : ¬ (w.length : Int) = 1 := by omega
  exact ⟨117, .inr rfl, by simp [clsS, clsM, clsC, ACode.cd, ACode.ca, clsE, ir_law06_RolesClosed, hw1']⟩
theorem c_closed_law (z : Bool) (l : List Ax) (hl : l.length ≤ 1125899906842624) (hx : ∀ x ∈ l, x.Ok) (zw : Bool) (w : List (List UInt8)) (role : List UInt8) (p q : Int) (hs : acallW P0 (.fn (.func F_law06_sane) [] []) [] [] ⟨0, 0⟩ = .ret (.b true) []) (cx : Ctx) :
  acallW P0 (.fn (.func F_law06_RolesClosed) [] []) [slf z (l.map encA), slf zw (w.map .s), .s role, .i .i64 p, .i .i64 q] [] cx = .ret (.b true) [] := by
 obtain ⟨b, e1, hb⟩ := c_law06_few z l hl hx
 have e0 := c_law06_short zw w
 refine go_law06_RolesClosed (by simp) ?_
 cases b with
 | false => simp [callFnW, ir_law06_RolesClosed, hs, e1]
 | true =>
  obtain ⟨h12, hf⟩ := hb rfl
  cases hsw : shortW w with
  | false =>
   rw [hsw] at e0
   simp [callFnW, ir_law06_RolesClosed, hs, e1, e0]
  | true =>
   rw [hsw] at e0
   simp only [shortW, Bool.and_eq_true, decide_eq_true_eq, List.all_eq_true] at hsw
   obtain ⟨hw7, hwx⟩ := hsw
   by_cases hr : 100 < role.length
   ·have hr' : (100 : Int) < role.length := by omega
    simp [callFnW, ir_law06_RolesClosed, hs, e1, e0, hr']
   ·have hr' : ¬ (100 : Int) < role.length := by omega
    have a1 := c_roles_Word z l (by omega) hf zw w hw7 (fun r hr => by have := hwx r hr; omega) role (by omega)
    have b1 := c_roles_Above z l (by omega) hf role (by omega)
    have d1 := c_roles_Simple z l (by omega) hf role (by omega)
    have hap : (aboveV l role).plain = aboveV l role := by
     obtain ⟨za, V, hV, hVl⟩ := aboveV_slf l role
     rw [hV]; cases za <;> (try rw [slf_false]) <;> simp
    by_cases hE : wordE l w role = 0
    ·obtain ⟨h0, hnm⟩ : chkL l = 0 ∧ (role :: w).all nmOK = true := by
      by_cases h0 : chkL l = 0
      ·by_cases hn : (role :: w).all nmOK = true
       ·exact ⟨h0, hn⟩
       ·simp only [wordE, if_pos h0, if_neg hn] at hE; cases hE
      ·simp only [wordE, if_neg h0] at hE; exact absurd hE h0
     have hr1 : nmOK role = true := by
      simp only [List.all_cons, Bool.and_eq_true] at hnm; exact hnm.1
     have p2 : aboveE l role = 0 := by simp only [aboveE, if_pos h0, if_pos hr1]
     have p4 : aboveV l role = .sl ((upS l role).map .s) := by simp only [aboveV, if_pos (And.intro h0 hr1)]
     rw [hE] at a1
     rw [p2, p4] at b1
     rw [p2] at d1
     have hul := upS_len l role
     obtain ⟨j0, hL0⟩ := l_law06_cls0 (slf z (l.map encA)) (slf zw (w.map .s)) role p q (upS l role) (by omega) (wordV l w role) (simpS l role) (fun hv u hu s cx => by
      have h1 := word_up h0 hf hnm (by omega) hu hv
      have h2 := c_roles_Word z l (by omega) hf zw w hw7 (fun r hr => by have := hwx r hr; omega) u (by have := (up_nm h0 hf hr1 (by omega) hu).2; omega) s cx
      rw [h1.1, h1.2] at h2; exact h2) (by simp) (by simp) [] ⟨0, 0⟩ (upS l role) 0 rfl
     have hup : ∀ r ∈ w, (∀ s cx, acallW P0 (.fn (.func F_roles_Above) [] []) [slf z (l.map encA), .s r] s cx = .ret (.tu [.sl ((upS l r).map .s), .i .i64 0]) s) ∧ (upS l r).length ≤ 1000000 := fun r hrw => ⟨fun s cx => by
      have hrn : nmOK r = true := List.all_eq_true.1 hnm r (by simp [hrw])
      have := c_roles_Above z l (by omega) hf r (by have := hwx r hrw; omega) s cx
      rw [show aboveE l r = 0 by simp only [aboveE, if_pos h0, if_pos hrn], show aboveV l r = .sl ((upS l r).map .s) by simp only [aboveV, if_pos (And.intro h0 hrn)]] at this
      exact this, by have := upS_len l r; omega⟩
     have hsv : simpS l role = false ∨ (simpS l role = true ∧ ∃ (r : Rl) (u : List Rl), w = [r] ∧ wordV l w role = decide (role ∈ u) ∧ (∀ s cx, acallW P0 (.fn (.func F_roles_Above) [] []) [slf z (l.map encA), .s r] s cx = .ret (.tu [.sl (u.map .s), .i .i64 0]) s) ∧ u.length ≤ 1000000) ∨ (simpS l role = true ∧ ¬ w.length = 1 ∧ wordV l w role = false) := by
      cases hs : simpS l role with
      | false => exact .inl rfl
      | true =>
       have hsw := simp_word h0 hnm hs
       by_cases hw1 : w.length = 1
       ·obtain ⟨r, rfl⟩ := List.length_eq_one_iff.1 hw1
        obtain ⟨k1, k2⟩ := hup r (by simp)
        refine .inr (.inl ⟨rfl, r, upS l r, rfl, ?_, k1, k2⟩)
        rw [Bool.eq_iff_iff, hsw, decide_eq_true_eq]
        exact ⟨fun ⟨r', h, h'⟩ => by cases h; exact h', fun h => ⟨r, rfl, h⟩⟩
       ·refine .inr (.inr ⟨rfl, hw1, ?_⟩)
        rw [← Bool.not_eq_true, hsw]
        rintro ⟨r, rfl, _⟩
        exact hw1 rfl
     have hpq : p < 0 ∨ (¬ p < 0 ∧ q < p) ∨ (¬ p < 0 ∧ ¬ q < p ∧ (w.length : Int) < q) ∨ ∃ p' q' : Nat, p = p' ∧ q = q' ∧ p' ≤ q' ∧ q' ≤ w.length := by
      by_cases h1 : p < 0
      ·exact .inl h1
      ·by_cases h2 : q < p
       ·exact .inr (.inl ⟨h1, h2⟩)
       ·by_cases h3 : (w.length : Int) < q
        ·exact .inr (.inr (.inl ⟨h1, h2, h3⟩))
        ·exact .inr (.inr (.inr ⟨p.toNat, q.toNat, by omega, by omega, by omega, by omega⟩))
     simp only [Int.ofNat_zero] at hL0
     have hin : ∀ p' q' : Nat, p = p' → q = q' → p' ≤ q' → q' ≤ w.length → ∃ (a0 a2 a3 : AV) (R : List Rl) (j : Int), (a0.one = true ∧ a2.one = true ∧ a3.one = true) ∧ (∀ s cx, acallW P0 (.fn (.func F_terms_Vocabulary) [] []) [slf z (l.map encA)] s cx = .ret (.tu [.ag [a0, slf true (R.map .s), a2, a3], .i .i64 0]) s) ∧
       loopW (acodeW P0.glob (acallW P0) ⟨0, 0⟩ false ir_law06_RolesClosed_L1) [0, 1, 2, 3, 4, 11, 23, 25]
        [(0, .v (slf z (l.map encA))), (1, .v (slf zw (w.map .s))), (2, .v (.s role)), (3, .v (.i .i64 p)), (4, .v (.i .i64 q)), (11, .v (.b (wordV l w role))), (23, .bx [a0, slf true (R.map .s), a2, a3]), (25, .v (.i .i64 0))] [] =
       .exit 2 [(0, .v (slf z (l.map encA))), (1, .v (slf zw (w.map .s))), (2, .v (.s role)), (3, .v (.i .i64 p)), (4, .v (.i .i64 q)), (11, .v (.b (wordV l w role))), (23, .bx [a0, slf true (R.map .s), a2, a3]), (25, .v (.i .i64 j)), (140, .v (.b false))] [] := by
      rintro p' q' rfl rfl hpq hq
      exact c_closed_in z l h12 hf zw w hw7 hwx role (by omega) p' q' hpq hq h0 hnm [] ⟨0, 0⟩
     clear hE hf p2 p4 hap hul hx hb hwx hnm h0 hr1
     generalize wordV l w role = wv at *
     generalize simpS l role = sv at *
     generalize upS l role = up at *
     obtain ⟨k, hk, hS⟩ := s_cls z l zw w role p q wv sv (.sl (up.map .s)) j0 hsv
     have hT := t_cls (slf z (l.map encA)) (slf zw (w.map .s)) (by simp) (by simp) w (fun env => elemsE_slf) role p q wv k hk (by
      rcases hpq with c1 | ⟨c1, c2⟩ | ⟨c1, c2, c3⟩ | ⟨p', q', hp', hq', hpq', hql⟩
      ·exact .inl c1
      ·exact .inr (.inl ⟨c1, c2⟩)
      ·exact .inr (.inr (.inl ⟨c1, c2, c3⟩))
      ·exact .inr (.inr (.inr ⟨by omega, by omega, by omega, hin p' q' hp' hq' hpq' hql⟩)))
     clear hin hsv hup hpq
     simp only [clsE] at hS hT
     unfold callFnW
     rw [cls_split]
     simp [clsC, clsM, ACode.ca, ACode.cd, ir_law06_RolesClosed, hs, e1, e0, hr', a1, b1, d1, hL0, hS, hT]
    ·simp [callFnW, ir_law06_RolesClosed, hs, e1, e0, hr', a1, b1, d1, hap, hE]
end Go.Ai.Z
