/-
  roles.Word: the contract.
-/
import Derived.Test.YtomjajnlomdhpaaGreatDoorAiR28R29
set_option maxRecDepth 100000
set_option linter.unusedSimpArgs false
set_option linter.unusedVariables false
namespace Go.Ai.Z
theorem tail_nodot : ∀ {l : List UInt8}, tailS l = true → NoDot l
  | [], _ => by simp [NoDot]
  | b :: r, h => by
    rw [tailS_cons, Bool.and_eq_true] at h
    have ih := tail_nodot h.2
    simp only [NoDot, List.mem_cons, not_or] at ih ⊢
    refine ⟨?_, ih⟩
    rintro rfl
    have : innB 46 = false := by decide
    rw [this] at h; exact absurd h.1 (by decide)
theorem word_nodot {l : List UInt8} (h : wordS l = true) : NoDot l := by
  simp only [wordS, Bool.and_eq_true] at h
  exact tail_nodot h.1.2
theorem nm_nodot {l : List UInt8} (h : nmOK l = true) : NoDot l := by
  simp only [nmOK, Bool.or_eq_true] at h
  rcases h with h | h
  · simp only [plainS, Bool.and_eq_true] at h
    obtain ⟨_, h⟩ := h
    cases hc : cutB 58 l with
    | none => rw [hc] at h; exact word_nodot h
    | some p =>
      obtain ⟨x, y⟩ := p
      rw [hc] at h
      simp only [Bool.and_eq_true] at h
      have h1 := word_nodot h.1
      have h2 := word_nodot h.2
      rw [cutB_len hc]
      simp only [NoDot, List.mem_append, List.mem_cons, not_or] at h1 h2 ⊢
      exact ⟨h1, by decide, h2⟩
  · simp only [resS, Bool.and_eq_true] at h
    exact tail_nodot h.2
theorem plain_nm {l : List UInt8} (h : plainS l = true) : nmOK l = true := by simp [nmOK, h]
theorem allPlain_mem : ∀ {l : List (List UInt8)}, allPlain l = true → ∀ r ∈ l, plainS r = true
  | [], _, r, hr => by cases hr
  | a :: l, h, r, hr => by
    simp only [allPlain, Bool.and_eq_true] at h
    rcases List.mem_cons.1 hr with rfl | hr
    · exact h.1
    · exact allPlain_mem h.2 r hr
theorem check_parts {x : Ax} (h : checkAS x = 0) : shapedS x = true ∧ namedU x (useS x.kind) = true := by
  unfold checkAS at h
  split at h
  · cases h
  · rename_i h1
    split at h
    · cases h
    · rename_i h2
      exact ⟨by simpa using h1, by simpa using h2⟩
theorem use567 {x : Ax} (hk : x.kind = 5 ∨ x.kind = 6 ∨ x.kind = 7) : (useS x.kind).role = true := by
  rcases hk with h | h | h <;> simp [useS, h]
theorem role_nm {x : Ax} (h : checkAS x = 0) (hk : x.kind = 5 ∨ x.kind = 6 ∨ x.kind = 7) : nmOK x.role = true := by
  have h1 := (check_parts h).2
  have h2 := use567 hk
  simp only [namedU, Bool.and_eq_true, h2, Bool.not_true, Bool.false_or] at h1
  exact plain_nm h1.1.1.1
theorem roles_nm {x : Ax} (h : checkAS x = 0) : ∀ r ∈ x.roles, nmOK r = true := by
  have h1 := (check_parts h).2
  simp only [namedU, Bool.and_eq_true] at h1
  exact fun r hr => plain_nm (allPlain_mem h1.2 r hr)
theorem two_of {x : Ax} (h : checkAS x = 0) (h6 : x.kind = 6) : 2 ≤ x.roles.length ∧ x.roles.length ≤ 4 := by
  have hs := (check_parts h).1
  simp [shapedS, kindOK, h6, useS] at hs
  omega
theorem grOK_of {l : List Ax} (h : chkL l = 0) (hx : ∀ x ∈ l, x.Few) : GrOK l :=
  ⟨hx, one5_all h, fun x hxl h6 => two_of (chkL_mem h x hxl) h6⟩
theorem namesOK_of {l : List Ax} (h : chkL l = 0) : NamesOK l where
  one := one5_all h
  two := fun x hx h6 => (two_of (chkL_mem h x hx) h6).1
  role := fun x hx hk => nm_nodot (role_nm (chkL_mem h x hx) hk)
  roles := fun x hx hk r hr => nm_nodot (roles_nm (chkL_mem h x hx) r hr)
def wordE (l : List Ax) (w : List (List UInt8)) (role : List UInt8) : Int := if chkL l = 0 then (if (role :: w).all nmOK = true then 0 else 20) else chkL l
open Classical in
noncomputable def wordV (l : List Ax) (w : List (List UInt8)) (role : List UInt8) : Bool := decide (chkL l = 0 ∧ (role :: w).all nmOK = true ∧ Drv l w role 0 w.length)
open Classical in
theorem wordV_iff {l : List Ax} {w : List (List UInt8)} {role : List UInt8} : wordV l w role = true ↔ chkL l = 0 ∧ (role :: w).all nmOK = true ∧ Drv l w role 0 w.length := by
  unfold wordV; exact decide_eq_true_iff
theorem tab_at {l : List Ax} (h0 : chkL l = 0) {w : List (List UInt8)} (hw : ∀ r ∈ w, nmOK r = true) {es : List (AV × AV)} (hT : TabOK es (DG l w)) {role : List UInt8} (hr : nmOK role = true) {i j : Nat} (hi : i ≤ 64) (hj : j ≤ 64) :
    (find 1 (.s role) es = some none ∧ ¬ Drv l w role i j) ∨ ∃ cs b, find 1 (.s role) es = some (some (.ip cs)) ∧ cs.length = 4225 ∧ cs[i * 65 + j]? = some (.b b) ∧ (b = true ↔ Drv l w role i j) := by
  have hd : ∀ i j, DG l w role i j ↔ Drv l w role i j := fun i j => dg_iff (namesOK_of h0) (fun r hr => nm_nodot (hw r hr)) (nm_nodot hr)
  rcases hT role with ⟨h1, h2⟩ | ⟨cs, h1, h2, h3⟩
  · exact .inl ⟨h1, fun hh => h2 i j ((hd i j).2 hh)⟩
  · obtain ⟨b, h4, h5⟩ := h3 i j hi hj
    exact .inr ⟨cs, b, h1, h2, h4, by rw [h5, hd]⟩
theorem c_roles_Word (z : Bool) (l : List Ax) (hl : l.length ≤ 100) (hx : ∀ x ∈ l, x.Few) (zw : Bool) (w : List (List UInt8)) (hw : w.length ≤ 7) (hwx : ∀ r ∈ w, r.length ≤ 1000) (role : List UInt8) (hr : role.length ≤ 1000) (s : St) (cx : Ctx) :
    acallW P0 (.fn (.func F_roles_Word) [] []) [slf z (l.map encA), slf zw (w.map .s), .s role] s cx = .ret (.tu [.b (wordV l w role), .i .i64 (wordE l w role)]) s := by
  have e1 := c_roles_checkAll z l (by omega) hx (role :: w) (by simp; omega) (fun x hx => by
    rcases List.mem_cons.1 hx with rfl | hx
    · omega
    · have := hwx x hx; omega)
  refine go_roles_Word (by simp) ?_
  have hm : 1 + w.length ≤ maxSl := by unfold maxSl; omega
  have w64' : ¬ (64 : Int) < w.length := by omega
  simp only [List.map_cons] at e1
  by_cases h0 : chkL l = 0
  · by_cases h1 : (role :: w).all nmOK = true
    · have a2 : wordE l w role = 0 := by simp only [wordE, h0, h1, if_true]
      simp only [h0, h1, if_true] at e1
      obtain ⟨es, e2, hT⟩ := c_roles_recognize z l hl (grOK_of h0 hx) zw w hw s ⟨s.length, s.length⟩ (Nat.le_refl _)
      have hall := List.all_eq_true.1 h1
      rw [a2]
      have w1 : w.length < 65 := by omega
      have w2 : (w.length : Int) < 65 := by omega
      rcases tab_at h0 (fun r hr => hall r (by simp [hr])) hT (hall role (by simp)) (Nat.zero_le 64) (show w.length ≤ 64 by omega) with ⟨f1, f2⟩ | ⟨cs, b, f1, f2, f3, f4⟩
      · have a1 : wordV l w role = false := by
          cases hv : wordV l w role with
          | false => rfl
          | true => exact absurd (wordV_iff.1 hv).2.2 f2
        rw [a1]
        clear hT hall
        simp [callFnW, ir_roles_Word, e1, e2, hm, w64', f1, nilK]
      · have a1 : wordV l w role = b := by
          cases b with
          | true => exact wordV_iff.2 ⟨h0, h1, f4.1 rfl⟩
          | false =>
            cases hv : wordV l w role with
            | false => rfl
            | true => exact absurd (f4.2 (wordV_iff.1 hv).2.2) (by simp)
        rw [a1]
        rw [Nat.zero_mul, Nat.zero_add] at f3
        clear hT hall f4
        simp [callFnW, ir_roles_Word, e1, e2, hm, w64', f1, f3, w1, w2, nilK]
    · have a1 : wordV l w role = false := by
        cases hv : wordV l w role with
        | false => rfl
        | true => exact absurd (wordV_iff.1 hv).2.1 h1
      have a2 : wordE l w role = 20 := by simp only [wordE, h0, h1, if_true]; rfl
      rw [a1, a2]
      simp only [h0, h1, if_true] at e1
      simp [callFnW, ir_roles_Word, e1, hm]
  · have a1 : wordV l w role = false := by
      cases hv : wordV l w role with
      | false => rfl
      | true => exact absurd (wordV_iff.1 hv).1 h0
    have a2 : wordE l w role = chkL l := by simp only [wordE, h0, if_false]
    rw [a1, a2]
    simp only [h0, if_false] at e1
    simp [callFnW, ir_roles_Word, e1, hm, h0]
end Go.Ai.Z
namespace Go.Ai.Z
abbrev TbL := Nat → Nat → List (List UInt8)
def covF (p : Nat → Bool) : Nat → Nat → Bool
  | 0, _ => false
  | c + 1, k => p k || covF p c (k + 1)
theorem covF_iff (p : Nat → Bool) : ∀ c k, covF p c k = true ↔ ∃ m, k ≤ m ∧ m < k + c ∧ p m = true
  | 0, k => by simp [covF]; intro m h1 h2; omega
  | c + 1, k => by
    rw [covF, Bool.or_eq_true, covF_iff p c (k + 1)]
    constructor
    · rintro (h | ⟨m, h1, h2, h3⟩)
      · exact ⟨k, by omega, by omega, h⟩
      · exact ⟨m, by omega, by omega, h3⟩
    · rintro ⟨m, h1, h2, h3⟩
      by_cases hk : m = k
      · subst hk; exact .inl h3
      · exact .inr ⟨m, by omega, by omega, h3⟩
def covB (tab : TbL) : List (List UInt8) → Nat → Nat → Bool
  | [], f, t => decide (f = t)
  | r :: rs, f, t => covF (fun k => decide (r ∈ tab f k) && covB tab rs k t) (t + 1 - f) f
def TabT (tab : TbL) (n : Nat) : Tab := fun r i j => i ≤ j ∧ j ≤ n ∧ r ∈ tab i j
theorem cov_of_covB {tab : TbL} {n : Nat} : ∀ {rs : List (List UInt8)} {f t : Nat}, t ≤ n → covB tab rs f t = true → Cov (TabT tab n) rs f t
  | [], f, t, _, h => by show f = t; simpa [covB] using h
  | r :: rs, f, t, ht, h => by
    rw [covB, covF_iff] at h
    obtain ⟨m, h1, h2, h3⟩ := h
    simp only [Bool.and_eq_true, decide_eq_true_eq] at h3
    exact ⟨m, ⟨h1, by omega, h3.1⟩, cov_of_covB ht h3.2⟩
theorem covB_of_cov {tab : TbL} {n : Nat} : ∀ {rs : List (List UInt8)} {f t : Nat}, Cov (TabT tab n) rs f t → f ≤ t → t ≤ n → covB tab rs f t = true
  | [], f, t, h, _, _ => by have h : f = t := h; simpa [covB] using h
  | r :: rs, f, t, ⟨m, h1, h2⟩, hf, ht => by
    rw [covB, covF_iff]
    have hm : m ≤ t := (Cov.le (n := n) (fun _ _ _ h => ⟨h.1, h.2.1⟩) h1.2.1 h2).1
    refine ⟨m, h1.1, by omega, ?_⟩
    simp only [Bool.and_eq_true, decide_eq_true_eq]
    exact ⟨h1.2.2, covB_of_cov h2 hm ht⟩
structure WT (s : St) (n : Nat) (tab : TbL) (H : St) : Prop where
  pre : H.take s.length = s
  lt : s.length < H.length
  top : ∃ oc, H[s.length]? = some (.buf T_string_2 1 0 oc) ∧ oc.length = n + 1 ∧ ∀ i, i ≤ n → oc[i]? = some (.sk (s.length + 1 + i) 0 1 0 (n + 1))
  row : ∀ i, i ≤ n → ∃ rc, H[s.length + 1 + i]? = some (.buf T_string_1 1 0 rc) ∧ rc.length = n + 1 ∧ ∀ j, j ≤ n → ∃ z, rc[j]? = some (slf z ((tab i j).map .s))
theorem l_covers (s : St) (n : Nat) (hn : n ≤ 64) (tab : TbL) (H : St) (hW : WT s n tab H) (hb : ∀ i j, (tab i j).length ≤ 1000) (z : Bool) (chain : List (List UInt8)) (at_ : Nat) (r : List UInt8) (rs : List (List UInt8)) (hch : chain.length ≤ 1000) (hd : chain.drop at_ = r :: rs) (f t : Nat) (hft : f ≤ t) (ht : t ≤ n)
    (hrec : ∀ k, f ≤ k → k ≤ t → ∀ cx, acallW P0 (.fn (.func F_ref06_covers) [] []) [slf z (chain.map .s), .i .i64 (at_ + 1 : Nat), .sk s.length 0 1 0 (n + 1), .i .i64 k, .i .i64 t] H cx = .ret (.b (covB tab rs k t)) H) (cx : Ctx) :
    ∀ (c k : Nat), k + c = t + 1 → f ≤ k →
    ∃ j : Int, loopW (acodeW P0.glob (acallW P0) cx false ir_ref06_covers_L0) [0, 1, 2, 3, 4, 11]
      [(0, .v (slf z (chain.map .s))), (1, .v (.i .i64 at_)), (2, .v (.sk s.length 0 1 0 (n + 1))), (3, .v (.i .i64 f)), (4, .v (.i .i64 t)), (11, .v (.i .i64 k))] H =
      if covF (fun k => decide (r ∈ tab f k) && covB tab rs k t) c k = true then .ret [(10, .v (.b true))] H else
      .exit 0 [(0, .v (slf z (chain.map .s))), (1, .v (.i .i64 at_)), (2, .v (.sk s.length 0 1 0 (n + 1))), (3, .v (.i .i64 f)), (4, .v (.i .i64 t)), (11, .v (.i .i64 j)), (22, .v (.b false))] H
  | 0, k, h, hk => by
    have h1 : ¬ k ≤ t := by omega
    refine ⟨k, loop_step fun K hK => ?_⟩
    simp [ir_ref06_covers_L0, h1, covF]
  | c + 1, k, h, hk => by
    have h1 : k ≤ t := by omega
    have hwi := wI (i := k) (by omega)
    obtain ⟨g1, g2, g3, g4⟩ := drop_cons hd
    have g5 := g4 g3
    have hwa := wI (i := at_) (by omega)
    obtain ⟨oc, o1, o2, o3⟩ := hW.top
    obtain ⟨rc, r1, r2, r3⟩ := hW.row f (by omega)
    obtain ⟨zk, r4⟩ := r3 k (by omega)
    have o4 := o3 f (by omega)
    have e1 := c_ref06_Has zk (tab f k) r (by have := hb f k; omega)
    have e2 := hrec k hk h1
    have w1 : f < n + 1 := by omega
    have w2 : k < n + 1 := by omega
    have p1 : f + 1 ≤ oc.length := by omega
    have p2 : k + 1 ≤ rc.length := by omega
    have o5 : oc[f]'(by omega) = .sk (s.length + 1 + f) 0 1 0 (n + 1) := (List.getElem?_eq_some_iff.1 o4).2
    have r5 : rc[k]'(by omega) = slf zk ((tab f k).map .s) := (List.getElem?_eq_some_iff.1 r4).2
    obtain ⟨j, ih⟩ := l_covers s n hn tab H hW hb z chain at_ r rs hch hd f t hft ht hrec cx c (k + 1) (by omega) (by omega)
    refine ⟨j, loop_step fun K hK => ?_⟩
    rw [← hK, show ((k + 1 : Nat) : Int) = (k : Int) + 1 from rfl] at ih
    clear hK hW hb hrec o3 r3 g4
    simp only [show ((at_ + 1 : Nat) : Int) = (at_ : Int) + 1 from rfl] at e2
    by_cases hm : r ∈ tab f k
    · simp only [hm, decide_true] at e1
      cases hc : covB tab rs k t with
      | true =>
        rw [hc] at e2
        simp only [covF, hm, hc, decide_true, Bool.true_and, Bool.true_or, if_true]
        simp [ir_ref06_covers_L0, h1, hwi, hwa, g3, g5, o1, o4, o5, r1, r4, r5, w1, w2, e1, e2]
      | false =>
        rw [hc] at e2
        simp only [covF, hm, hc, decide_true, Bool.true_and, Bool.false_or]
        rw [← ih]
        simp [ir_ref06_covers_L0, h1, hwi, hwa, g3, g5, o1, o4, o5, r1, r4, r5, w1, w2, e1, e2]
    · simp only [hm, decide_false] at e1
      simp only [covF, hm, decide_false, Bool.false_and, Bool.false_or]
      rw [← ih]
      simp [ir_ref06_covers_L0, h1, hwi, hwa, g3, g5, o1, o4, o5, r1, r4, r5, w1, w2, e1]
theorem c_covers (s : St) (n : Nat) (hn : n ≤ 64) (tab : TbL) (H : St) (hW : WT s n tab H) (hb : ∀ i j, (tab i j).length ≤ 1000) (z : Bool) (chain : List (List UInt8)) (hch : chain.length ≤ 1000) :
    ∀ (rs : List (List UInt8)) (at_ : Nat), chain.drop at_ = rs → at_ ≤ chain.length → ∀ f t, f ≤ t → t ≤ n → ∀ cx, acallW P0 (.fn (.func F_ref06_covers) [] []) [slf z (chain.map .s), .i .i64 at_, .sk s.length 0 1 0 (n + 1), .i .i64 f, .i .i64 t] H cx = .ret (.b (covB tab rs f t)) H
  | [], at_, hd, hat, f, t, hft, ht, cx => by
    have h1 : at_ = chain.length := by have := drop_nil hd; omega
    refine go_ref06_covers (by simp) ?_
    subst h1
    simp [callFnW, ir_ref06_covers, covB]
    constructor <;> intro h <;> omega
  | r :: rs, at_, hd, hat, f, t, hft, ht, cx => by
    obtain ⟨g1, g2, g3, g4⟩ := drop_cons hd
    have h1 : ¬ (at_ : Int) = chain.length := by omega
    obtain ⟨j, h⟩ := l_covers s n hn tab H hW hb z chain at_ r rs hch hd f t hft ht (fun k hk hkt cx => c_covers s n hn tab H hW hb z chain hch rs (at_ + 1) g2 (by omega) k t hkt ht cx) ⟨H.length, H.length⟩ (t + 1 - f) f (by omega) (Nat.le_refl _)
    refine go_ref06_covers (by simp) ?_
    rw [covB]
    cases hc : covF (fun k => decide (r ∈ tab f k) && covB tab rs k t) (t + 1 - f) f with
    | true =>
      rw [hc] at h
      simp only [if_true] at h
      simp [callFnW, ir_ref06_covers, h1, h]
    | false =>
      rw [hc] at h
      simp only [Bool.false_eq_true, if_false] at h
      simp [callFnW, ir_ref06_covers, h1, h]
end Go.Ai.Z
