/-
 roles.closure: what is reached by a map's lists.
-/
import Derived.Test.YtpanocallohgdaaDoorAiK1
import Derived.Test.YtpanocallohgdaaDoorAiRchR1
set_option maxRecDepth 100000
set_option linter.unusedSimpArgs false
set_option linter.unusedVariables false
namespace Go.Ai.Z
def strM (V : List (List UInt8)) : List (AV × AV) := V.map fun x => (.s x, .b true)
theorem mput_strM {k : List UInt8} : ∀ {V : List (List UInt8)}, k ∉ V → mput 1 (.s k) (.b true) (strM V) = some (strM (V ++ [k]))
 | [], _ => rfl
 | x :: V, h => by
  simp only [List.mem_cons, not_or] at h
  have ih := mput_strM (V := V) h.2
  simp only [strM] at ih ⊢
  simp [mput, keyEq, h.1, ih]
def SlV (v : AV) (vs : List (List UInt8)) : Prop := (v = .ns ∧ vs = []) ∨ v = .sl (vs.map .s) ∨ ∃ r, v = .st r (vs.map .s)
theorem SlV.elems {v : AV} {vs : List (List UInt8)} (h : SlV v vs) (env : Env) : elemsE env (some (.v v)) = some (vs.map .s) := by
 rcases h with ⟨rfl, rfl⟩ | rfl | ⟨r, rfl⟩ <;> rfl
theorem SlV.plain {v : AV} {vs : List (List UInt8)} (h : SlV v vs) (hne : vs ≠ []) : v.plain = .sl (vs.map .s) := by
 rcases h with ⟨_, rfl⟩ | rfl | ⟨r, rfl⟩
 ·exact absurd rfl hne
 ·rfl
 ·rfl
@[simp] theorem st2_0 {s : St} {a b : HObj} : (s ++ [a, b])[s.length]? = some a := by simp
@[simp] theorem st2_1 {s : St} {a b : HObj} : (s ++ [a, b])[s.length + 1]? = some b := by simp
@[simp] theorem set2_0 {s : St} {a b c : HObj} : (s ++ [a, b]).set s.length c = s ++ [c, b] := by simp
@[simp] theorem set2_1 {s : St} {a b c : HObj} : (s ++ [a, b]).set (s.length + 1) c = s ++ [a, c] := by
 rw [List.set_append, if_neg (by omega)]; simp
@[simp] theorem elemsE_sk {env : Env} {l ver sz o n : Nat} : elemsE env (some (.v (.sk l ver sz o n))) = none := rfl
theorem keepE_keepE (ks0 : List Nat) (env : Env) : ∀ ks : List Nat, (∀ k ∈ ks, k ∈ ks0) → keepE (keepE env ks0) ks = keepE env ks := by
 have hl : ∀ (ks : List Nat) (k : Nat), lk (keepE env ks) k = if k ∈ ks then (match lk env k with | some e => bif e.isRef then none else some e | none => none) else none := by
  intro ks
  induction ks with
  | nil => intro k; simp [keepE, lk]
  | cons a r ih =>
   intro k
   by_cases hk : k = a
   ·subst hk
    cases hc : lk env k with
    | none => simp only [keepE, ih, hc, ite_self]
    | some e =>
     cases hr : e.isRef with
     | true => simp only [keepE, hr, if_true, ih, hc, cond_true, ite_self]
     | false => simp only [keepE, hr, hc, lk, if_true, if_false, Bool.false_eq_true, cond_false, List.mem_cons, true_or]
   ·have hk' : ¬ a = k := fun h => hk h.symm
    cases hc : lk env a with
    | none => simp only [keepE, ih, hc, List.mem_cons, hk, false_or]
    | some e =>
     cases hr : e.isRef with
     | true => simp only [keepE, hr, if_true, ih, hc, List.mem_cons, hk, false_or]
     | false => simp only [keepE, hr, hc, lk, if_false, Bool.false_eq_true, ih, List.mem_cons, hk, hk', false_or]
 intro ks
 induction ks with
 | nil => intro _; rfl
 | cons a r ih =>
  intro h
  have ha := h a (by simp)
  have ih := ih fun k hk => h k (by simp [hk])
  simp only [keepE, hl ks0 a, ha, if_true, ih]
  cases lk env a with
  | none => rfl
  | some e => cases hr : e.isRef with
   | true => simp only [hr, cond_true, if_true]
   | false => simp only [cond_false, hr, Bool.false_eq_true, if_false]
theorem loopW_keep (body : Env → St → Out) (keep : List Nat) (env : Env) (s : St) : loopW body keep env s = loopW body keep (keepE env keep) s := by
 rw [loopW_eq, loopW_eq body keep (keepE env keep), keepE_keepE keep env keep fun _ h => h]
theorem nodup_le {V U : List (List UInt8)} (hV : V.Nodup) (h : ∀ x ∈ V, x ∈ U) : V.length ≤ U.length := by
 induction V generalizing U with
 | nil => simp
 | cons a V ih =>
  obtain ⟨h1, h2⟩ := List.nodup_cons.1 hV
  have ha := h a (by simp)
  have h3 : ∀ x ∈ V, x ∈ U.erase a := fun x hx => (List.mem_erase_of_ne (fun he => h1 (by rw [← he]; exact hx))).2 (h x (by simp [hx]))
  have := ih h2 h3
  have h4 : 0 < U.length := List.length_pos_of_mem ha
  rw [List.length_erase_of_mem ha] at this
  simp only [List.length_cons]; omega
theorem frz1_mp {S : St} {n m l : Nat} {es : List (AV × AV)} (h0 : (AV.mp l).under n = false) (h : S[l]? = some (.map es)) : frz1 S n (m + 1) (.mp l) = (es.mapM (frzP (frz1 S n m))).map .im := by
 rw [frz1, if_neg (by rw [h0]; exact Bool.false_ne_true)]
 simp only [h]
end Go.Ai.Z
namespace Go.Ai.Z
theorem c_ref02_FewAxioms12 (z : Bool) (l : List Ax) (hl : l.length ≤ 1125899906842624) (hx : ∀ x ∈ l, x.Ok) : ∃ b : Bool, (∀ s cx, acallW P0 (.fn (.func F_ref02_FewAxioms) [] []) [slf z (l.map encA), .i .i64 12] s cx = .ret (.b b) s) ∧ (b = true → l.length ≤ 12 ∧ ∀ x ∈ l, x.Few) := by
 by_cases h : l.length ≤ 12
 ·have c1 : ¬ ((12 : Int) < l.length) := by omega
  obtain ⟨b, j, e, q⟩ := l_ref02_FewAxioms z l (by omega) hx l 0 rfl
  refine ⟨b, fun s cx => go_ref02_FewAxioms (by simp) ?_, fun hb => ⟨h, q hb⟩⟩
  simp at e
  cases b <;> simp [callFnW, ir_ref02_FewAxioms, c1, e]
 ·have c1 : (12 : Int) < l.length := by omega
  refine ⟨false, fun s cx => go_ref02_FewAxioms (by simp) ?_, fun h => by cases h⟩
  simp [callFnW, ir_ref02_FewAxioms, c1]
theorem c_law06_few (z : Bool) (l : List Ax) (hl : l.length ≤ 1125899906842624) (hx : ∀ x ∈ l, x.Ok) : ∃ b : Bool, (∀ s cx, acallW P0 (.fn (.func F_law06_few) [] []) [slf z (l.map encA)] s cx = .ret (.b b) s) ∧ (b = true → l.length ≤ 12 ∧ ∀ x ∈ l, x.Few) := by
 obtain ⟨b, e, q⟩ := c_ref02_FewAxioms12 z l hl hx
 refine ⟨b, fun s cx => go_law06_few (by simp) ?_, q⟩
 simp [callFnW, ir_law06_few, e]
def edU (l : List Ax) : List (List UInt8 × List UInt8) := l.filterMap fun x => if x.kind = 5 then some (x.roles.headD [], x.role) else none
def One5 (l : List Ax) : Prop := ∀ x ∈ l, x.kind = 5 → ∃ r, x.roles = [r]
theorem one5_of {x : Ax} (h : checkAS x = 0) (h5 : x.kind = 5) : ∃ r, x.roles = [r] := by
 have hs : shapedS x = true := by
  unfold checkAS at h
  split at h
  ·cases h
  ·rename_i hn; simpa using hn
 have : 1 ≤ x.roles.length ∧ x.roles.length ≤ 1 := by
  simp [shapedS, kindOK, h5, useS] at hs
  omega
 match h1 : x.roles with
 | [] => rw [h1] at this; simp at this
 | [r] => exact ⟨r, rfl⟩
 | _ :: _ :: _ => rw [h1] at this; simp at this
theorem chkL_mem : ∀ {l : List Ax}, chkL l = 0 → ∀ x ∈ l, checkAS x = 0
 | [], _, x, hx => by cases hx
 | y :: l, h, x, hx => by
  unfold chkL at h
  split at h
  ·rcases List.mem_cons.1 hx with rfl | hx
   ·assumption
   ·exact chkL_mem h x hx
  ·contradiction
theorem one5_all {l : List Ax} (h : chkL l = 0) : One5 l := fun x hx h5 => one5_of (chkL_mem h x hx) h5
abbrev SM := List (List UInt8 × List (List UInt8))
def rowG (G : SM) : St := G.map fun p => .row T_string_0 1 p.2.length
@[simp] theorem rowG_len (G : SM) : (rowG G).length = G.length := by simp [rowG]
@[simp] theorem stc_0 {s r : St} {a : HObj} : (s ++ a :: r)[s.length]? = some a := by simp
@[simp] theorem stc_set {s r : St} {a b : HObj} : (s ++ a :: r).set s.length b = s ++ b :: r := by simp
end Go.Ai.Z
