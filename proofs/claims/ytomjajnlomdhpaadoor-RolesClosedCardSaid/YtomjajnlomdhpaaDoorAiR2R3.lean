/-
 roles.closure: what is reached by a map's lists.
-/
import Derived.Test.YtomjajnlomdhpaaDoorAiK1
import Derived.Test.YtomjajnlomdhpaaDoorAiRchR1
set_option maxRecDepth 100000
set_option linter.unusedSimpArgs false
set_option linter.unusedVariables false
namespace Go.Ai.Z
def strM (V : List (List UInt8)) : List (AV × AV) := V.map fun x => (.s x, .b true)
theorem find_strM (k : List UInt8) : ∀ V : List (List UInt8), find 1 (.s k) (strM V) = some (if k ∈ V then some (.b true) else none)
 | [] => rfl
 | x :: V => by
  have ih := find_strM k V
  simp only [strM] at ih ⊢
  by_cases h : k = x
  ·subst h; simp [find, keyEq]
  ·simp [find, keyEq, h, ih]
theorem mput_strM {k : List UInt8} : ∀ {V : List (List UInt8)}, k ∉ V → mput 1 (.s k) (.b true) (strM V) = some (strM (V ++ [k]))
 | [], _ => rfl
 | x :: V, h => by
  simp only [List.mem_cons, not_or] at h
  have ih := mput_strM (V := V) h.2
  simp only [strM] at ih ⊢
  simp [mput, keyEq, h.1, ih]
def SlV (v : AV) (vs : List (List UInt8)) : Prop := (v = .ns ∧ vs = []) ∨ v = .sl (vs.map .s) ∨ ∃ r, v = .st r (vs.map .s)
theorem SlV.elems {v : AV} {vs : List (List UInt8)} (h : SlV v vs) (env : Env) : elemsE env (some (.v v)) = some (vs.map .s) := by
 rcases h with ⟨rfl, rfl⟩ | rfl | ⟨r, rfl⟩ <;> rfl
theorem SlV.plain {v : AV} {vs : List (List UInt8)} (h : SlV v vs) (hne : vs ≠ []) : v.plain = .sl (vs.map .s) := by
 rcases h with ⟨_, rfl⟩ | rfl | ⟨r, rfl⟩
 ·exact absurd rfl hne
 ·rfl
 ·rfl
def MapS (es : List (AV × AV)) (f : List UInt8 → List (List UInt8)) : Prop := ∀ k, ∃ r, find 1 (.s k) es = some r ∧ SlV (r.getD .ns) (f k)
@[simp] theorem st2_0 {s : St} {a b : HObj} : (s ++ [a, b])[s.length]? = some a := by simp
@[simp] theorem st2_1 {s : St} {a b : HObj} : (s ++ [a, b])[s.length + 1]? = some b := by simp
@[simp] theorem set2_0 {s : St} {a b c : HObj} : (s ++ [a, b]).set s.length c = s ++ [c, b] := by simp
@[simp] theorem set2_1 {s : St} {a b c : HObj} : (s ++ [a, b]).set (s.length + 1) c = s ++ [a, c] := by
 rw [List.set_append, if_neg (by omega)]; simp
@[simp] theorem elemsE_sk {env : Env} {l ver sz o n : Nat} : elemsE env (some (.v (.sk l ver sz o n))) = none := rfl
theorem st2_old {s : St} {a b o : HObj} {l : Nat} (h : s[l]? = some o) : (s ++ [a, b])[l]? = some o := by
 rw [List.getElem?_append_left (List.getElem?_eq_some_iff.1 h).1]; exact h
theorem keepE_keepE (ks0 : List Nat) (env : Env) : ∀ ks : List Nat, (∀ k ∈ ks, k ∈ ks0) → keepE (keepE env ks0) ks = keepE env ks := by
 have hl : ∀ (ks : List Nat) (k : Nat), lk (keepE env ks) k = if k ∈ ks then (match lk env k with | some e => bif e.isRef then none else some e | none => none) else none := by
  intro ks
  induction ks with
  | nil => intro k; simp [keepE, lk]
  | cons a r ih =>
   intro k
   by_cases hk : k = a
   ·subst hk
    cases hc : lk env k with
    | none => simp only [keepE, ih, hc, ite_self]
    | some e =>
     cases hr : e.isRef with
     | true => simp only [keepE, hr, if_true, ih, hc, cond_true, ite_self]
     | false => simp only [keepE, hr, hc, lk, if_true, if_false, Bool.false_eq_true, cond_false, List.mem_cons, true_or]
   ·have hk' : ¬ a = k := fun h => hk h.symm
    cases hc : lk env a with
    | none => simp only [keepE, ih, hc, List.mem_cons, hk, false_or]
    | some e =>
     cases hr : e.isRef with
     | true => simp only [keepE, hr, if_true, ih, hc, List.mem_cons, hk, false_or]
     | false => simp only [keepE, hr, hc, lk, if_false, Bool.false_eq_true, ih, List.mem_cons, hk, hk', false_or]
 intro ks
 induction ks with
 | nil => intro _; rfl
 | cons a r ih =>
  intro h
  have ha := h a (by simp)
  have ih := ih fun k hk => h k (by simp [hk])
  simp only [keepE, hl ks0 a, ha, if_true, ih]
  cases lk env a with
  | none => rfl
  | some e => cases hr : e.isRef with
   | true => simp only [hr, cond_true, if_true]
   | false => simp only [cond_false, hr, Bool.false_eq_true, if_false]
theorem loopW_keep (body : Env → St → Out) (keep : List Nat) (env : Env) (s : St) : loopW body keep env s = loopW body keep (keepE env keep) s := by
 rw [loopW_eq, loopW_eq body keep (keepE env keep), keepE_keepE keep env keep fun _ h => h]
theorem l_closure1 (s : St) (l : Nat) (v : AV) (vs : List (List UInt8)) (hv : SlV v vs) (hvl : vs.length ≤ 100000) (cx : Ctx) (hcx : cx.lim ≤ s.length ∧ cx.base ≤ s.length) :
  ∀ (rest : List (List UInt8)) (i : Nat) (V Q : List (List UInt8)) (ver o : Nat) (qs : List AV), vs.drop i = rest → V.Nodup → o + Q.length = qs.length → qs.drop o = Q.map .s → Q.length + rest.length ≤ 1000000 →
  ∃ (N : List (List UInt8)) (ver' o' : Nat) (qs' : List AV) (j : Int), loopW (acodeW P0.glob (acallW P0) cx false ir_roles_closure_L1) [1, 5, 6, 25, 26, 27]
   [(1, .v (.mp l)), (5, .v (.mp s.length)), (6, .v (.sk (s.length + 1) ver 1 o Q.length)), (25, .v v), (26, .v (.i .i64 vs.length)), (27, .v (.i .i64 i))] (s ++ [.map (strM V), .buf T_string_0 1 ver qs]) =
   .exit 2 [(1, .v (.mp l)), (5, .v (.mp s.length)), (6, .v (.sk (s.length + 1) ver' 1 o' (Q ++ N).length)), (25, .v v), (26, .v (.i .i64 vs.length)), (27, .v (.i .i64 j)), (28, .v (.b false))] (s ++ [.map (strM (V ++ N)), .buf T_string_0 1 ver' qs']) ∧
   (V ++ N).Nodup ∧ o' + (Q ++ N).length = qs'.length ∧ qs'.drop o' = (Q ++ N).map .s ∧ (∀ x ∈ N, x ∈ rest) ∧ ∀ x ∈ rest, x ∈ V ++ N
 | [], i, V, Q, ver, o, qs, h, hV, h1, h2, hb => by
  have hi : ¬ i < vs.length := Nat.not_lt.2 (drop_nil h)
  refine ⟨[], ver, o, qs, i, loop_step fun K hK => ?_, by simpa using hV, by simpa using h1, by simpa using h2, fun x hx => (by cases hx), fun x hx => (by cases hx)⟩
  simp [ir_roles_closure_L1, hi]
 | p :: r, i, V, Q, ver, o, qs, h, hV, h1, h2, hb => by
  obtain ⟨g1, g2, g3, g4⟩ := drop_cons h
  have g5 := g4 g3
  have hwi := wI (i := i) (by omega)
  have hpl := hv.plain (fun hn => by rw [hn] at g3; simp at g3)
  simp only [List.length_cons] at hb
  by_cases hp : p ∈ V
  ·obtain ⟨N, ver', o', qs', j, ih, k1, k2, k3, k4, k5⟩ := l_closure1 s l v vs hv hvl cx hcx r (i + 1) V Q ver o qs g2 hV h1 h2 (by omega)
   refine ⟨N, ver', o', qs', j, loop_step fun K hK => ?_, k1, k2, k3, fun x hx => by simp [k4 x hx], fun x hx => ?_⟩
   ·rw [← hK, show ((i + 1 : Nat) : Int) = (i : Int) + 1 from rfl] at ih
    clear hK g4
    have hf := find_strM p V
    simp only [hp, if_true] at hf
    simp at ih
    simp [ir_roles_closure_L1, g3, g5, hwi, hpl, hf, ih]
   ·rcases List.mem_cons.1 hx with rfl | hx
    ·simp [hp]
    ·exact k5 x hx
  ·have hV' : (V ++ [p]).Nodup := List.nodup_append.2 ⟨hV, by simp, fun a ha b hb => by simp at hb; subst hb; exact fun h => hp (h ▸ ha)⟩
   obtain ⟨N, ver', o', qs', j, ih, k1, k2, k3, k4, k5⟩ := l_closure1 s l v vs hv hvl cx hcx r (i + 1) (V ++ [p]) (Q ++ [p]) (ver + 1) 0 (Q.map .s ++ [.s p]) g2 hV' (by simp) (by simp) (by simp; omega)
   refine ⟨p :: N, ver', o', qs', j, loop_step fun K hK => ?_, by simpa using k1, by simpa using k2, by simpa using k3, fun x hx => ?_, fun x hx => ?_⟩
   ·rw [← hK, show ((i + 1 : Nat) : Int) = (i : Int) + 1 from rfl] at ih
    clear hK g4
    have hf := find_strM p V
    simp only [hp, if_false] at hf
    have hm := mput_strM hp
    have m1 : Q.length + 1 ≤ maxSl := by unfold maxSl; omega
    have hq : List.take Q.length (List.drop o qs) = Q.map .s := by rw [h2]; rw [List.take_of_length_le (by simp)]
    have hfit : o + Q.length ≤ qs.length := by omega
    simp at ih
    simp [ir_roles_closure_L1, g3, g5, hwi, hpl, hf, hm, m1, hq, hfit, hcx.1, hcx.2, ih, Nat.le_succ_of_le hcx.1, Nat.le_succ_of_le hcx.2, keyK]
   ·rcases List.mem_cons.1 hx with rfl | hx
    ·simp
    ·simp [k4 x hx]
   ·rcases List.mem_cons.1 hx with rfl | hx
    ·simp
    ·have := k5 x hx
     simpa using this
theorem nodup_le {V U : List (List UInt8)} (hV : V.Nodup) (h : ∀ x ∈ V, x ∈ U) : V.length ≤ U.length := by
 induction V generalizing U with
 | nil => simp
 | cons a V ih =>
  obtain ⟨h1, h2⟩ := List.nodup_cons.1 hV
  have ha := h a (by simp)
  have h3 : ∀ x ∈ V, x ∈ U.erase a := fun x hx => (List.mem_erase_of_ne (fun he => h1 (by rw [← he]; exact hx))).2 (h x (by simp [hx]))
  have := ih h2 h3
  have h4 : 0 < U.length := List.length_pos_of_mem ha
  rw [List.length_erase_of_mem ha] at this
  simp only [List.length_cons]; omega
theorem l_closure0 (s : St) (l : Nat) (es : List (AV × AV)) (f : List UInt8 → List (List UInt8)) (hs : s[l]? = some (.map es)) (hM : MapS es f) (E : List (List UInt8 × List UInt8)) (hE : ∀ k x, x ∈ f k → (k, x) ∈ E)
  (hf : ∀ k, (f k).length ≤ 100000) (role : List UInt8) (U : List (List UInt8)) (hU : ∀ k, ∀ x ∈ f k, x ∈ U) (hUl : U.length ≤ 200000) (cx : Ctx) (hcx : cx.lim ≤ s.length ∧ cx.base ≤ s.length) :
  ∀ (n : Nat) (V Q : List (List UInt8)) (ver o : Nat) (qs : List AV), 2 * (U.length - V.length) + Q.length ≤ n → V.Nodup → (∀ x ∈ V, x ∈ U) → (∀ x ∈ Q, x ∈ V) → Q.length ≤ V.length → (∀ x ∈ V, Rch E role x) → (∀ x ∈ V, x ∉ Q → ∀ y ∈ f x, y ∈ V) →
  o + Q.length = qs.length → qs.drop o = Q.map .s →
  ∃ (V' : List (List UInt8)) (q : AV) (ver' : Nat) (qs' : List AV), loopW (acodeW P0.glob (acallW P0) cx false ir_roles_closure_L0) [1, 5, 6]
   [(1, .v (.mp l)), (5, .v (.mp s.length)), (6, .v (.sk (s.length + 1) ver 1 o Q.length))] (s ++ [.map (strM V), .buf T_string_0 1 ver qs]) =
   .exit 0 [(1, .v (.mp l)), (5, .v (.mp s.length)), (6, .v q), (17, .v (.b false))] (s ++ [.map (strM V'), .buf T_string_0 1 ver' qs']) ∧
   V'.Nodup ∧ (∀ x ∈ V, x ∈ V') ∧ (∀ x ∈ V', Rch E role x) ∧ ∀ x ∈ V', ∀ y ∈ f x, y ∈ V'
 | n, V, [], ver, o, qs, hn, hV, hVU, hQ, hQl, hR, hC, h1, h2 => by
  refine ⟨V, .sk (s.length + 1) ver 1 o 0, ver, qs, loop_step fun K hK => ?_, hV, fun x hx => hx, hR, fun x hx => hC x hx (by simp)⟩
  simp [ir_roles_closure_L0]
 | 0, V, r :: Q, ver, o, qs, hn, hV, hVU, hQ, hQl, hR, hC, h1, h2 => by simp at hn
 | n + 1, V, r :: Q, ver, o, qs, hn, hV, hVU, hQ, hQl, hR, hC, h1, h2 => by
  simp only [List.length_cons] at hn h1 hQl
  have hVl := nodup_le hV hVU
  obtain ⟨ro, hro, hv⟩ := hM r
  have hq0 : qs[o]? = some (.s r) := by
   have := congrArg (fun x => x[0]?) h2
   simpa using this
  have hq1 : qs.drop (o + 1) = Q.map .s := by
   have := congrArg (fun x => x.drop 1) h2
   simpa [List.drop_drop] using this
  obtain ⟨N, ver1, o1, qs1, j, e1, k1, k2, k3, k4, k5⟩ := l_closure1 s l (ro.getD .ns) (f r) hv (hf r) cx hcx (f r) 0 V Q ver (o + 1) qs rfl hV (by omega) hq1 (by have := hf r; omega)
  have hNU : ∀ x ∈ V ++ N, x ∈ U := fun x hx => by
   rcases List.mem_append.1 hx with hx | hx
   ·exact hVU x hx
   ·exact hU r x (k4 x hx)
  have hl2 := nodup_le k1 hNU
  simp only [List.length_append] at hl2
  have hr := hR r (hQ r (by simp))
  obtain ⟨V', q, ver', qs', e2, m1, m2, m3, m4⟩ := l_closure0 s l es f hs hM E hE hf role U hU hUl cx hcx n (V ++ N) (Q ++ N) ver1 o1 qs1 (by simp only [List.length_append]; omega) k1 hNU
   (fun x hx => by
    rcases List.mem_append.1 hx with hx | hx
    ·exact List.mem_append_left _ (hQ x (by simp [hx]))
    ·exact List.mem_append_right _ hx)
   (by simp only [List.length_append]; omega)
   (fun x hx => by
    rcases List.mem_append.1 hx with hx | hx
    ·exact hR x hx
    ·exact .step hr (hE r x (k4 x hx)))
   (fun x hx hxQ y hy => by
    simp only [List.mem_append, not_or] at hxQ
    by_cases hxr : x = r
    ·subst hxr; exact k5 y hy
    ·rcases List.mem_append.1 hx with hx | hx
     ·exact List.mem_append_left _ (hC x hx (by simp [hxr, hxQ.1]) y hy)
     ·exact absurd hx hxQ.2)
   k2 k3
  refine ⟨V', q, ver', qs', loop_step fun K hK => ?_, m1, fun x hx => m2 x (List.mem_append_left _ hx), m3, m4⟩
  have hKk : ∀ e t, K e t = K (keepE e [1, 5, 6]) t := fun e t => by rw [hK]; exact loopW_keep _ _ _ _
  rw [← hK] at e2
  clear hK
  have hsl := st2_old (a := .map (strM V)) (b := .buf T_string_0 1 ver qs) hs
  have hel := fun env => hv.elems env
  have c1 : (0 : Int) < ((Q.length : Int) + 1) := by omega
  have c2 : 1 ≤ Q.length + 1 := by omega
  simp at e1 e2
  simp [ir_roles_closure_L0, hq0, hsl, hro, hel, c1, c2, e1]
  rw [hKk]
  simp [e2]
theorem frz1_mp {S : St} {n m l : Nat} {es : List (AV × AV)} (h0 : (AV.mp l).under n = false) (h : S[l]? = some (.map es)) : frz1 S n (m + 1) (.mp l) = (es.mapM (frzP (frz1 S n m))).map .im := by
 rw [frz1, if_neg (by rw [h0]; exact Bool.false_ne_true)]
 simp only [h]
theorem frz_strM (S : St) (n m : Nat) : ∀ V : List (List UInt8), (strM V).mapM (frzP (frz1 S n m)) = some (strM V)
 | [] => rfl
 | x :: V => by
  have ih := frz_strM S n m V
  have h1 : frz1 S n m (.s x) = some (.s x) := by cases m <;> simp [frz1, AV.under]
  have h2 : frz1 S n m (.b true) = some (.b true) := by cases m <;> simp [frz1, AV.under]
  simp only [strM, List.map_cons, List.mapM_cons, frzP, h1, h2] at ih ⊢
  simp [ih]
theorem c_roles_closure (role : List UInt8) (s : St) (l : Nat) (es : List (AV × AV)) (f : List UInt8 → List (List UInt8)) (hs : s[l]? = some (.map es)) (hM : MapS es f) (E : List (List UInt8 × List UInt8)) (hE : ∀ k x, x ∈ f k ↔ (k, x) ∈ E)
  (hf : ∀ k, (f k).length ≤ 100000) (hEl : E.length ≤ 100000) (cx : Ctx) :
  ∃ V : List (List UInt8), acallW P0 (.fn (.func F_roles_closure) [] []) [.s role, .mp l] s cx = .ret (.im (strM V)) s ∧ V.Nodup ∧ ∀ x, x ∈ V ↔ Rch E role x := by
 obtain ⟨V, q, ver, qs, e1, m1, m2, m3, m4⟩ := l_closure0 s l es f hs hM E (fun k x h => (hE k x).1 h) hf role (role :: E.map (·.2)) (fun k x hx => by
   have := (hE k x).1 hx
   exact List.mem_cons_of_mem _ (List.mem_map.2 ⟨_, this, rfl⟩)) (by simp; omega) ⟨s.length, s.length⟩ ⟨Nat.le_refl _, Nat.le_refl _⟩ _ [role] [role] 0 0 [.s role] (Nat.le_refl _) (by simp) (fun x hx => by simp at hx; simp [hx]) (fun x hx => hx) (by simp) (fun x hx => by simp at hx; subst hx; exact .refl _)
   (fun x hx hxq => absurd hx hxq) (by simp) (by simp)
 refine ⟨V, go_roles_closure (by simp) ?_, m1, fun x => ⟨m3 x, fun h => ?_⟩⟩
 ·have hfz : frz (s ++ [.map (strM V), .buf T_string_0 1 ver qs]) s.length (.mp s.length) = some (.im (strM V)) := by
   have h0 : (AV.mp s.length).under s.length = false := by simp [AV.under]
   unfold frz
   rw [if_neg (by rw [h0]; exact Bool.false_ne_true), frz1_mp h0 st2_0, frz_strM]; rfl
  have e0 : strM [role] = [(.s role, .b true)] := rfl
  rw [e0] at e1
  simp at e1
  simp [callFnW, ir_roles_closure, e1, mput, hfz, keyK]
  done
 ·exact ClosedE.rch (fun r y he hr => m4 r hr y ((hE r y).2 he)) h (m2 role (by simp))
end Go.Ai.Z
namespace Go.Ai.Z
theorem c_ref02_FewAxioms12 (z : Bool) (l : List Ax) (hl : l.length ≤ 1125899906842624) (hx : ∀ x ∈ l, x.Ok) : ∃ b : Bool, (∀ s cx, acallW P0 (.fn (.func F_ref02_FewAxioms) [] []) [slf z (l.map encA), .i .i64 12] s cx = .ret (.b b) s) ∧ (b = true → l.length ≤ 12 ∧ ∀ x ∈ l, x.Few) := by
 by_cases h : l.length ≤ 12
 ·have c1 : ¬ ((12 : Int) < l.length) := by omega
  obtain ⟨b, j, e, q⟩ := l_ref02_FewAxioms z l (by omega) hx l 0 rfl
  refine ⟨b, fun s cx => go_ref02_FewAxioms (by simp) ?_, fun hb => ⟨h, q hb⟩⟩
  simp at e
  cases b <;> simp [callFnW, ir_ref02_FewAxioms, c1, e]
 ·have c1 : (12 : Int) < l.length := by omega
  refine ⟨false, fun s cx => go_ref02_FewAxioms (by simp) ?_, fun h => by cases h⟩
  simp [callFnW, ir_ref02_FewAxioms, c1]
theorem c_law06_few (z : Bool) (l : List Ax) (hl : l.length ≤ 1125899906842624) (hx : ∀ x ∈ l, x.Ok) : ∃ b : Bool, (∀ s cx, acallW P0 (.fn (.func F_law06_few) [] []) [slf z (l.map encA)] s cx = .ret (.b b) s) ∧ (b = true → l.length ≤ 12 ∧ ∀ x ∈ l, x.Few) := by
 obtain ⟨b, e, q⟩ := c_ref02_FewAxioms12 z l hl hx
 refine ⟨b, fun s cx => go_law06_few (by simp) ?_, q⟩
 simp [callFnW, ir_law06_few, e]
def edU (l : List Ax) : List (List UInt8 × List UInt8) := l.filterMap fun x => if x.kind = 5 then some (x.roles.headD [], x.role) else none
theorem edU_cons5 {x : Ax} {l : List Ax} (h : x.kind = 5) : edU (x :: l) = (x.roles.headD [], x.role) :: edU l := by simp [edU, h]
theorem edU_consN {x : Ax} {l : List Ax} (h : ¬ x.kind = 5) : edU (x :: l) = edU l := by simp [edU, h]
theorem edU_len (l : List Ax) : (edU l).length ≤ l.length := List.length_filterMap_le _ _
def One5 (l : List Ax) : Prop := ∀ x ∈ l, x.kind = 5 → ∃ r, x.roles = [r]
theorem one5_of {x : Ax} (h : checkAS x = 0) (h5 : x.kind = 5) : ∃ r, x.roles = [r] := by
 have hs : shapedS x = true := by
  unfold checkAS at h
  split at h
  ·cases h
  ·rename_i hn; simpa using hn
 have : 1 ≤ x.roles.length ∧ x.roles.length ≤ 1 := by
  simp [shapedS, kindOK, h5, useS] at hs
  omega
 match h1 : x.roles with
 | [] => rw [h1] at this; simp at this
 | [r] => exact ⟨r, rfl⟩
 | _ :: _ :: _ => rw [h1] at this; simp at this
theorem chkL_mem : ∀ {l : List Ax}, chkL l = 0 → ∀ x ∈ l, checkAS x = 0
 | [], _, x, hx => by cases hx
 | y :: l, h, x, hx => by
  unfold chkL at h
  split at h
  ·rcases List.mem_cons.1 hx with rfl | hx
   ·assumption
   ·exact chkL_mem h x hx
  ·contradiction
theorem one5_all {l : List Ax} (h : chkL l = 0) : One5 l := fun x hx h5 => one5_of (chkL_mem h x hx) h5
abbrev SM := List (List UInt8 × List (List UInt8))
def esG : Nat → SM → List (AV × AV)
 | _, [] => []
 | b, p :: G => (.s p.1, .st b (p.2.map .s)) :: esG (b + 1) G
def rowG (G : SM) : St := G.map fun p => .row T_string_0 1 p.2.length
def valG : SM → List UInt8 → List (List UInt8)
 | [], _ => []
 | p :: G, k => if p.1 = k then p.2 else valG G k
def addG : SM → List UInt8 → List UInt8 → SM
 | [], k, v => [(k, [v])]
 | p :: G, k, v => if p.1 = k then (p.1, p.2 ++ [v]) :: G else p :: addG G k v
def addsG (G : SM) (E : List (List UInt8 × List UInt8)) : SM := E.foldl (fun G p => addG G p.1 p.2) G
@[simp] theorem rowG_len (G : SM) : (rowG G).length = G.length := by simp [rowG]
theorem valG_add (k v x : List UInt8) : ∀ G : SM, valG (addG G k v) x = if k = x then valG G x ++ [v] else valG G x
 | [] => by simp [addG, valG]
 | p :: G => by
  have ih := valG_add k v x G
  by_cases h : p.1 = k
  ·by_cases h2 : k = x
   ·simp [addG, valG, h, h2]
   ·have h3 : ¬ p.1 = x := by rw [h]; exact h2
    simp [addG, valG, h, h2]
  ·by_cases h2 : p.1 = x
   ·have h3 : ¬ k = x := fun h3 => h (by rw [h2, h3])
    have h4 : ¬ x = k := fun h4 => h3 h4.symm
    simp [addG, valG, h2, h3, h4]
   ·simp [addG, valG, h, h2, ih]
theorem valG_adds (x : List UInt8) : ∀ (E : List (List UInt8 × List UInt8)) (G : SM), valG (addsG G E) x = valG G x ++ (E.filter fun p => decide (p.1 = x)).map (·.2)
 | [], G => by simp [addsG]
 | p :: E, G => by
  have ih := valG_adds x E (addG G p.1 p.2)
  simp only [addsG, List.foldl_cons] at ih ⊢
  rw [ih, valG_add]
  by_cases h : p.1 = x <;> simp [h]
theorem mem_valG {E : List (List UInt8 × List UInt8)} {k x : List UInt8} : x ∈ valG (addsG [] E) k ↔ (k, x) ∈ E := by
 rw [valG_adds]
 simp [valG]
theorem valG_len {E : List (List UInt8 × List UInt8)} {k : List UInt8} : (valG (addsG [] E) k).length ≤ E.length := by
 rw [valG_adds]
 simp [valG, List.length_filter_le]
theorem addG_len {n : Nat} (k v : List UInt8) : ∀ {G : SM}, (∀ p ∈ G, p.2.length ≤ n) → ∀ p ∈ addG G k v, p.2.length ≤ n + 1
 | [], _, p, hp => by simp [addG] at hp; subst hp; simp
 | q :: G, h, p, hp => by
  have hq := h q (by simp)
  have ih := addG_len k v (G := G) fun p hp => h p (by simp [hp])
  by_cases hk : q.1 = k
  ·simp only [addG, hk, if_true, List.mem_cons] at hp
   rcases hp with rfl | hp
   ·simp; omega
   ·have := h p (by simp [hp]); omega
  ·simp only [addG, hk, if_false, List.mem_cons] at hp
   rcases hp with rfl | hp
   ·omega
   ·exact ih p hp
theorem addG_new {k : List UInt8} (v : List UInt8) : ∀ {G : SM}, k ∉ G.map (·.1) → addG G k v = G ++ [(k, [v])]
 | [], _ => rfl
 | p :: G, h => by
  simp only [List.map_cons, List.mem_cons, not_or] at h
  have h1 : ¬ p.1 = k := fun e => h.1 e.symm
  simp [addG, h1, addG_new v h.2]
theorem addG_old {k : List UInt8} (v : List UInt8) : ∀ {G : SM}, k ∈ G.map (·.1) → ∃ G1 vs G2, G = G1 ++ (k, vs) :: G2 ∧ k ∉ G1.map (·.1) ∧ addG G k v = G1 ++ (k, vs ++ [v]) :: G2
 | [], h => by cases h
 | p :: G, h => by
  by_cases h1 : p.1 = k
  ·refine ⟨[], p.2, G, ?_, by simp, ?_⟩
   ·rw [← h1]; rfl
   ·simp [addG, h1]
  ·simp only [List.map_cons, List.mem_cons] at h
   have h2 := h.resolve_left fun e => h1 e.symm
   obtain ⟨G1, vs, G2, e1, e2, e3⟩ := addG_old v h2
   refine ⟨p :: G1, vs, G2, by rw [e1]; rfl, ?_, ?_⟩
   ·simp only [List.map_cons, List.mem_cons, not_or]
    exact ⟨fun e => h1 e.symm, e2⟩
   ·simp [addG, h1, e3]
theorem find_new {k : List UInt8} : ∀ {G : SM} (b : Nat), k ∉ G.map (·.1) → find 1 (.s k) (esG b G) = some none
 | [], _, _ => rfl
 | p :: G, b, h => by
  simp only [List.map_cons, List.mem_cons, not_or] at h
  have ih := find_new (b + 1) h.2
  simp [esG, find, keyEq, h.1, ih]
theorem find_old {k : List UInt8} {vs : List (List UInt8)} {G2 : SM} : ∀ {G1 : SM} (b : Nat), k ∉ G1.map (·.1) → find 1 (.s k) (esG b (G1 ++ (k, vs) :: G2)) = some (some (.st (b + G1.length) (vs.map .s)))
 | [], b, _ => by simp [esG, find, keyEq]
 | p :: G, b, h => by
  simp only [List.map_cons, List.mem_cons, not_or] at h
  have ih := find_old (vs := vs) (G2 := G2) (b + 1) h.2
  have e : b + 1 + G.length = b + (G.length + 1) := by omega
  rw [e] at ih
  simp [esG, find, keyEq, h.1, ih]
theorem mput_new {k : List UInt8} {vs : List (List UInt8)} : ∀ {G : SM} (b : Nat), k ∉ G.map (·.1) → mput 1 (.s k) (.st (b + G.length) (vs.map .s)) (esG b G) = some (esG b (G ++ [(k, vs)]))
 | [], _, _ => rfl
 | p :: G, b, h => by
  simp only [List.map_cons, List.mem_cons, not_or] at h
  have ih := mput_new (vs := vs) (b + 1) h.2
  have e : b + 1 + G.length = b + (G.length + 1) := by omega
  rw [e] at ih
  simp [esG, mput, keyEq, h.1, ih]
theorem mput_old {k : List UInt8} {vs ws : List (List UInt8)} {G2 : SM} : ∀ {G1 : SM} (b : Nat), k ∉ G1.map (·.1) → mput 1 (.s k) (.st (b + G1.length) (ws.map .s)) (esG b (G1 ++ (k, vs) :: G2)) = some (esG b (G1 ++ (k, ws) :: G2))
 | [], b, _ => by simp [esG, mput, keyEq]
 | p :: G, b, h => by
  simp only [List.map_cons, List.mem_cons, not_or] at h
  have ih := mput_old (vs := vs) (ws := ws) (G2 := G2) (b + 1) h.2
  have e : b + 1 + G.length = b + (G.length + 1) := by omega
  rw [e] at ih
  simp [esG, mput, keyEq, h.1, ih]
theorem mapS_G (b : Nat) (G : SM) : MapS (esG b G) (valG G) := by
 intro k
 by_cases h : k ∈ G.map (·.1)
 ·obtain ⟨G1, vs, G2, e1, e2, e3⟩ := addG_old [] h
  clear e3
  refine ⟨_, by rw [e1]; exact find_old b e2, ?_⟩
  have : valG G k = vs := by
   rw [e1]; clear e1
   induction G1 with
   | nil => simp [valG]
   | cons p G1 ih =>
    simp only [List.map_cons, List.mem_cons, not_or] at e2
    have h1 : ¬ p.1 = k := fun e => e2.1 e.symm
    simp [valG, h1, ih e2.2]
  rw [this]
  exact .inr (.inr ⟨_, rfl⟩)
 ·refine ⟨_, find_new b h, .inl ⟨rfl, ?_⟩⟩
  clear b
  induction G with
  | nil => rfl
  | cons p G ih =>
   simp only [List.map_cons, List.mem_cons, not_or] at h
   have h1 : ¬ p.1 = k := fun e => h.1 e.symm
   simp [valG, h1, ih h.2]
@[simp] theorem stc_0 {s r : St} {a : HObj} : (s ++ a :: r)[s.length]? = some a := by simp
@[simp] theorem stc_set {s r : St} {a b : HObj} : (s ++ a :: r).set s.length b = s ++ b :: r := by simp
theorem stc_row {s r1 r2 : St} {a b : HObj} : (s ++ a :: (r1 ++ b :: r2))[s.length + 1 + r1.length]? = some b := by
 rw [show s.length + 1 + r1.length = s.length + (1 + r1.length) by omega, List.getElem?_append_right (by omega)]
 simp [show s.length + (1 + r1.length) - s.length = r1.length + 1 by omega]
theorem stc_rowset {s r1 r2 : St} {a b c : HObj} : (s ++ a :: (r1 ++ b :: r2)).set (s.length + 1 + r1.length) c = s ++ a :: (r1 ++ c :: r2) := by
 rw [show s.length + 1 + r1.length = s.length + (r1.length + 1) by omega, List.set_append, if_neg (by omega), show s.length + (r1.length + 1) - s.length = r1.length + 1 by omega]
 simp
theorem l_roles_Above (s : St) (role : List UInt8) (z : Bool) (l : List Ax) (hl : l.length ≤ 1000) (h5 : One5 l) (cx : Ctx) (hcx : cx.lim ≤ s.length ∧ cx.base ≤ s.length) :
  ∀ (rest : List Ax) (i : Nat) (G : SM), l.drop i = rest → (∀ p ∈ G, p.2.length ≤ i) →
  ∃ j : Int, loopW (acodeW P0.glob (acallW P0) cx false ir_roles_Above_L0) [1, 7, 18, 19, 20]
   [(1, .v (.s role)), (7, .v (.mp s.length)), (18, .v (slf z (l.map encA))), (19, .v (.i .i64 l.length)), (20, .v (.i .i64 i))] (s ++ .map (esG (s.length + 1) G) :: rowG G) =
   .exit 0 [(1, .v (.s role)), (7, .v (.mp s.length)), (18, .v (slf z (l.map encA))), (19, .v (.i .i64 l.length)), (20, .v (.i .i64 j)), (21, .v (.b false))] (s ++ .map (esG (s.length + 1) (addsG G (edU rest))) :: rowG (addsG G (edU rest)))
 | [], i, G, h, hG => by
  have h1 : ¬ i < l.length := Nat.not_lt.2 (drop_nil h)
  refine ⟨i, loop_step fun K hK => ?_⟩
  simp [ir_roles_Above_L0, h1, edU, addsG]
 | p :: r, i, G, h, hG => by
  obtain ⟨g1, g2, g3, g4⟩ := drop_cons h
  have g5 := g4 g3
  have hwi := wI (i := i) (by omega)
  have hp : p ∈ l := by rw [← g5]; exact List.getElem_mem g3
  by_cases hk : p.kind = 5
  ·obtain ⟨r0, hr0⟩ := h5 p hp hk
   obtain ⟨j, ih⟩ := l_roles_Above s role z l hl h5 cx hcx r (i + 1) (addG G r0 p.role) g2 (addG_len r0 p.role hG)
   have e0 : addsG G (edU (p :: r)) = addsG (addG G r0 p.role) (edU r) := by rw [edU_cons5 hk, hr0]; rfl
   rw [e0]
   refine ⟨j, loop_step fun K hK => ?_⟩
   rw [← hK, show ((i + 1 : Nat) : Int) = (i : Int) + 1 from rfl] at ih
   clear hK g4 h5 e0
   by_cases hm : r0 ∈ G.map (·.1)
   ·obtain ⟨G1, vs, G2, e1, e2, e3⟩ := addG_old p.role hm
    have hvs : vs.length ≤ i := hG (r0, vs) (by rw [e1]; simp)
    rw [e3] at ih ⊢
    have f1 := find_old (vs := vs) (G2 := G2) (s.length + 1) e2
    have f2 := mput_old (vs := vs) (ws := vs ++ [p.role]) (G2 := G2) (s.length + 1) e2
    have f3 := stc_row (s := s) (r1 := rowG G1) (r2 := rowG G2) (a := .map (esG (s.length + 1) (G1 ++ (r0, vs) :: G2))) (b := .row T_string_0 1 vs.length)
    have f4 := stc_rowset (s := s) (r1 := rowG G1) (r2 := rowG G2) (a := .map (esG (s.length + 1) (G1 ++ (r0, vs) :: G2))) (b := .row T_string_0 1 vs.length) (c := .row T_string_0 1 (vs.length + 1))
    have m1 : vs.length + 1 ≤ maxSl := by unfold maxSl; omega
    have hlim : cx.lim ≤ s.length + 1 + G1.length := by omega
    have k1 : ∀ (ws : List (List UInt8)), rowG (G1 ++ (r0, ws) :: G2) = rowG G1 ++ .row T_string_0 1 ws.length :: rowG G2 := fun ws => by simp [rowG]
    rw [rowG_len] at f3 f4
    subst e1
    rw [k1] at ih ⊢
    simp at f2 ih
    simp [ir_roles_Above_L0, g3, g5, hwi, hk, hr0, f1, f2, f3, f4, m1, hlim, hcx.1, hcx.2, keyK, ih]
   ·have e3 := addG_new p.role hm
    rw [e3] at ih ⊢
    have f1 := find_new (s.length + 1) hm
    have f2 := mput_new (vs := [p.role]) (s.length + 1) hm
    rw [show s.length + 1 + G.length = s.length + (G.length + 1) by omega] at f2
    have k1 : rowG (G ++ [(r0, [p.role])]) = rowG G ++ [.row T_string_0 1 1] := by simp [rowG]
    rw [k1] at ih
    have m1 : 1 ≤ maxSl := by unfold maxSl; omega
    simp at f2 ih
    simp [ir_roles_Above_L0, g3, g5, hwi, hk, hr0, f1, f2, m1, hcx.1, hcx.2, keyK, ih]
  ·obtain ⟨j, ih⟩ := l_roles_Above s role z l hl h5 cx hcx r (i + 1) G g2 fun p hp => by have := hG p hp; omega
   rw [edU_consN hk]
   refine ⟨j, loop_step fun K hK => ?_⟩
   rw [← hK, show ((i + 1 : Nat) : Int) = (i : Int) + 1 from rfl] at ih
   clear hK g4 h5
   simp [ir_roles_Above_L0, g3, g5, hwi, hk, ih]
end Go.Ai.Z
