/-
  roles.closure: what is reached by a map's lists.
-/
import Derived.Test.YtomjajnlomdhpaaDoorAiK1
import Derived.Test.YtomjajnlomdhpaaDoorAiRch
set_option maxRecDepth 100000
set_option linter.unusedSimpArgs false
set_option linter.unusedVariables false
namespace Go.Ai.Z

/-- A set of strings as a map. -/
def strM (V : List (List UInt8)) : List (AV × AV) := V.map fun x => (.s x, .b true)
theorem find_strM (k : List UInt8) : ∀ V : List (List UInt8), find 1 (.s k) (strM V) = some (if k ∈ V then some (.b true) else none)
  | [] => rfl
  | x :: V => by
    have ih := find_strM k V
    simp only [strM] at ih ⊢
    by_cases h : k = x
    · subst h; simp [find, keyEq]
    · simp [find, keyEq, h, ih]
theorem mput_strM {k : List UInt8} : ∀ {V : List (List UInt8)}, k ∉ V → mput 1 (.s k) (.b true) (strM V) = some (strM (V ++ [k]))
  | [], _ => rfl
  | x :: V, h => by
    simp only [List.mem_cons, not_or] at h
    have ih := mput_strM (V := V) h.2
    simp only [strM] at ih ⊢
    simp [mput, keyEq, h.1, ih]

/-- A value that holds these strings. -/
def SlV (v : AV) (vs : List (List UInt8)) : Prop := (v = .ns ∧ vs = []) ∨ v = .sl (vs.map .s) ∨ ∃ r, v = .st r (vs.map .s)
theorem SlV.elems {v : AV} {vs : List (List UInt8)} (h : SlV v vs) (env : Env) : elemsE env (some (.v v)) = some (vs.map .s) := by
  rcases h with ⟨rfl, rfl⟩ | rfl | ⟨r, rfl⟩ <;> rfl
theorem SlV.plain {v : AV} {vs : List (List UInt8)} (h : SlV v vs) (hne : vs ≠ []) : v.plain = .sl (vs.map .s) := by
  rcases h with ⟨_, rfl⟩ | rfl | ⟨r, rfl⟩
  · exact absurd rfl hne
  · rfl
  · rfl
/-- A map whose lists are f's. -/
def MapS (es : List (AV × AV)) (f : List UInt8 → List (List UInt8)) : Prop := ∀ k, ∃ r, find 1 (.s k) es = some r ∧ SlV (r.getD .ns) (f k)

@[simp] theorem st2_0 {s : St} {a b : HObj} : (s ++ [a, b])[s.length]? = some a := by simp
@[simp] theorem st2_1 {s : St} {a b : HObj} : (s ++ [a, b])[s.length + 1]? = some b := by simp
@[simp] theorem set2_0 {s : St} {a b c : HObj} : (s ++ [a, b]).set s.length c = s ++ [c, b] := by simp
@[simp] theorem set2_1 {s : St} {a b c : HObj} : (s ++ [a, b]).set (s.length + 1) c = s ++ [a, c] := by
  rw [List.set_append, if_neg (by omega)]; simp
@[simp] theorem elemsE_sk {env : Env} {l ver sz o n : Nat} : elemsE env (some (.v (.sk l ver sz o n))) = none := rfl
theorem st2_old {s : St} {a b o : HObj} {l : Nat} (h : s[l]? = some o) : (s ++ [a, b])[l]? = some o := by
  rw [List.getElem?_append_left (List.getElem?_eq_some_iff.1 h).1]; exact h

theorem keepE_keepE (ks0 : List Nat) (env : Env) : ∀ ks : List Nat, (∀ k ∈ ks, k ∈ ks0) → keepE (keepE env ks0) ks = keepE env ks := by
  have hl : ∀ (ks : List Nat) (k : Nat), lk (keepE env ks) k = if k ∈ ks then (match lk env k with | some e => bif e.isRef then none else some e | none => none) else none := by
    intro ks
    induction ks with
    | nil => intro k; simp [keepE, lk]
    | cons a r ih =>
      intro k
      by_cases hk : k = a
      · subst hk
        cases hc : lk env k with
        | none => simp only [keepE, ih, hc, ite_self]
        | some e =>
          cases hr : e.isRef with
          | true => simp only [keepE, hr, if_true, ih, hc, cond_true, ite_self]
          | false => simp only [keepE, hr, hc, lk, if_true, if_false, Bool.false_eq_true, cond_false, List.mem_cons, true_or]
      · have hk' : ¬ a = k := fun h => hk h.symm
        cases hc : lk env a with
        | none => simp only [keepE, ih, hc, List.mem_cons, hk, false_or]
        | some e =>
          cases hr : e.isRef with
          | true => simp only [keepE, hr, if_true, ih, hc, List.mem_cons, hk, false_or]
          | false => simp only [keepE, hr, hc, lk, if_false, Bool.false_eq_true, ih, List.mem_cons, hk, hk', false_or]
  intro ks
  induction ks with
  | nil => intro _; rfl
  | cons a r ih =>
    intro h
    have ha := h a (by simp)
    have ih := ih fun k hk => h k (by simp [hk])
    simp only [keepE, hl ks0 a, ha, if_true, ih]
    cases lk env a with
    | none => rfl
    | some e => cases hr : e.isRef with
      | true => simp only [hr, cond_true, if_true]
      | false => simp only [cond_false, hr, Bool.false_eq_true, if_false]
theorem loopW_keep (body : Env → St → Out) (keep : List Nat) (env : Env) (s : St) : loopW body keep env s = loopW body keep (keepE env keep) s := by
  rw [loopW_eq, loopW_eq body keep (keepE env keep), keepE_keepE keep env keep fun _ h => h]

theorem l_closure1 (s : St) (l : Nat) (v : AV) (vs : List (List UInt8)) (hv : SlV v vs) (hvl : vs.length ≤ 100000) (cx : Ctx) (hcx : cx.lim ≤ s.length ∧ cx.base ≤ s.length) :
    ∀ (rest : List (List UInt8)) (i : Nat) (V Q : List (List UInt8)) (ver o : Nat) (qs : List AV), vs.drop i = rest → V.Nodup → o + Q.length = qs.length → qs.drop o = Q.map .s → Q.length + rest.length ≤ 1000000 →
    ∃ (N : List (List UInt8)) (ver' o' : Nat) (qs' : List AV) (j : Int), loopW (acodeW P0.glob (acallW P0) cx false ir_roles_closure_L1) [1, 5, 6, 25, 26, 27]
      [(1, .v (.mp l)), (5, .v (.mp s.length)), (6, .v (.sk (s.length + 1) ver 1 o Q.length)), (25, .v v), (26, .v (.i .i64 vs.length)), (27, .v (.i .i64 i))] (s ++ [.map (strM V), .buf T_string_0 1 ver qs]) =
      .exit 2 [(1, .v (.mp l)), (5, .v (.mp s.length)), (6, .v (.sk (s.length + 1) ver' 1 o' (Q ++ N).length)), (25, .v v), (26, .v (.i .i64 vs.length)), (27, .v (.i .i64 j)), (28, .v (.b false))] (s ++ [.map (strM (V ++ N)), .buf T_string_0 1 ver' qs']) ∧
      (V ++ N).Nodup ∧ o' + (Q ++ N).length = qs'.length ∧ qs'.drop o' = (Q ++ N).map .s ∧ (∀ x ∈ N, x ∈ rest) ∧ ∀ x ∈ rest, x ∈ V ++ N
  | [], i, V, Q, ver, o, qs, h, hV, h1, h2, hb => by
    have hi : ¬ i < vs.length := Nat.not_lt.2 (drop_nil h)
    refine ⟨[], ver, o, qs, i, loop_step fun K hK => ?_, by simpa using hV, by simpa using h1, by simpa using h2, fun x hx => (by cases hx), fun x hx => (by cases hx)⟩
    simp [ir_roles_closure_L1, hi]
  | p :: r, i, V, Q, ver, o, qs, h, hV, h1, h2, hb => by
    obtain ⟨g1, g2, g3, g4⟩ := drop_cons h
    have g5 := g4 g3
    have hwi := wI (i := i) (by omega)
    have hpl := hv.plain (fun hn => by rw [hn] at g3; simp at g3)
    simp only [List.length_cons] at hb
    by_cases hp : p ∈ V
    · obtain ⟨N, ver', o', qs', j, ih, k1, k2, k3, k4, k5⟩ := l_closure1 s l v vs hv hvl cx hcx r (i + 1) V Q ver o qs g2 hV h1 h2 (by omega)
      refine ⟨N, ver', o', qs', j, loop_step fun K hK => ?_, k1, k2, k3, fun x hx => by simp [k4 x hx], fun x hx => ?_⟩
      · rw [← hK, show ((i + 1 : Nat) : Int) = (i : Int) + 1 from rfl] at ih
        clear hK g4
        have hf := find_strM p V
        simp only [hp, if_true] at hf
        simp at ih
        simp [ir_roles_closure_L1, g3, g5, hwi, hpl, hf, ih]
      · rcases List.mem_cons.1 hx with rfl | hx
        · simp [hp]
        · exact k5 x hx
    · have hV' : (V ++ [p]).Nodup := List.nodup_append.2 ⟨hV, by simp, fun a ha b hb => by simp at hb; subst hb; exact fun h => hp (h ▸ ha)⟩
      obtain ⟨N, ver', o', qs', j, ih, k1, k2, k3, k4, k5⟩ := l_closure1 s l v vs hv hvl cx hcx r (i + 1) (V ++ [p]) (Q ++ [p]) (ver + 1) 0 (Q.map .s ++ [.s p]) g2 hV' (by simp) (by simp) (by simp; omega)
      refine ⟨p :: N, ver', o', qs', j, loop_step fun K hK => ?_, by simpa using k1, by simpa using k2, by simpa using k3, fun x hx => ?_, fun x hx => ?_⟩
      · rw [← hK, show ((i + 1 : Nat) : Int) = (i : Int) + 1 from rfl] at ih
        clear hK g4
        have hf := find_strM p V
        simp only [hp, if_false] at hf
        have hm := mput_strM hp
        have m1 : Q.length + 1 ≤ maxSl := by unfold maxSl; omega
        have hq : List.take Q.length (List.drop o qs) = Q.map .s := by rw [h2]; rw [List.take_of_length_le (by simp)]
        have hfit : o + Q.length ≤ qs.length := by omega
        simp at ih
        simp [ir_roles_closure_L1, g3, g5, hwi, hpl, hf, hm, m1, hq, hfit, hcx.1, hcx.2, ih, Nat.le_succ_of_le hcx.1, Nat.le_succ_of_le hcx.2, keyK]
      · rcases List.mem_cons.1 hx with rfl | hx
        · simp
        · simp [k4 x hx]
      · rcases List.mem_cons.1 hx with rfl | hx
        · simp
        · have := k5 x hx
          simpa using this

theorem nodup_le {V U : List (List UInt8)} (hV : V.Nodup) (h : ∀ x ∈ V, x ∈ U) : V.length ≤ U.length := by
  induction V generalizing U with
  | nil => simp
  | cons a V ih =>
    obtain ⟨h1, h2⟩ := List.nodup_cons.1 hV
    have ha := h a (by simp)
    have h3 : ∀ x ∈ V, x ∈ U.erase a := fun x hx => (List.mem_erase_of_ne (fun he => h1 (by rw [← he]; exact hx))).2 (h x (by simp [hx]))
    have := ih h2 h3
    have h4 : 0 < U.length := List.length_pos_of_mem ha
    rw [List.length_erase_of_mem ha] at this
    simp only [List.length_cons]; omega

theorem l_closure0 (s : St) (l : Nat) (es : List (AV × AV)) (f : List UInt8 → List (List UInt8)) (hs : s[l]? = some (.map es)) (hM : MapS es f) (E : List (List UInt8 × List UInt8)) (hE : ∀ k x, x ∈ f k → (k, x) ∈ E)
    (hf : ∀ k, (f k).length ≤ 100000) (role : List UInt8) (U : List (List UInt8)) (hU : ∀ k, ∀ x ∈ f k, x ∈ U) (hUl : U.length ≤ 200000) (cx : Ctx) (hcx : cx.lim ≤ s.length ∧ cx.base ≤ s.length) :
    ∀ (n : Nat) (V Q : List (List UInt8)) (ver o : Nat) (qs : List AV), 2 * (U.length - V.length) + Q.length ≤ n → V.Nodup → (∀ x ∈ V, x ∈ U) → (∀ x ∈ Q, x ∈ V) → Q.length ≤ V.length → (∀ x ∈ V, Rch E role x) → (∀ x ∈ V, x ∉ Q → ∀ y ∈ f x, y ∈ V) →
    o + Q.length = qs.length → qs.drop o = Q.map .s →
    ∃ (V' : List (List UInt8)) (q : AV) (ver' : Nat) (qs' : List AV), loopW (acodeW P0.glob (acallW P0) cx false ir_roles_closure_L0) [1, 5, 6]
      [(1, .v (.mp l)), (5, .v (.mp s.length)), (6, .v (.sk (s.length + 1) ver 1 o Q.length))] (s ++ [.map (strM V), .buf T_string_0 1 ver qs]) =
      .exit 0 [(1, .v (.mp l)), (5, .v (.mp s.length)), (6, .v q), (17, .v (.b false))] (s ++ [.map (strM V'), .buf T_string_0 1 ver' qs']) ∧
      V'.Nodup ∧ (∀ x ∈ V, x ∈ V') ∧ (∀ x ∈ V', Rch E role x) ∧ ∀ x ∈ V', ∀ y ∈ f x, y ∈ V'
  | n, V, [], ver, o, qs, hn, hV, hVU, hQ, hQl, hR, hC, h1, h2 => by
    refine ⟨V, .sk (s.length + 1) ver 1 o 0, ver, qs, loop_step fun K hK => ?_, hV, fun x hx => hx, hR, fun x hx => hC x hx (by simp)⟩
    simp [ir_roles_closure_L0]
  | 0, V, r :: Q, ver, o, qs, hn, hV, hVU, hQ, hQl, hR, hC, h1, h2 => by simp at hn
  | n + 1, V, r :: Q, ver, o, qs, hn, hV, hVU, hQ, hQl, hR, hC, h1, h2 => by
    simp only [List.length_cons] at hn h1 hQl
    have hVl := nodup_le hV hVU
    obtain ⟨ro, hro, hv⟩ := hM r
    have hq0 : qs[o]? = some (.s r) := by
      have := congrArg (fun x => x[0]?) h2
      simpa using this
    have hq1 : qs.drop (o + 1) = Q.map .s := by
      have := congrArg (fun x => x.drop 1) h2
      simpa [List.drop_drop] using this
    obtain ⟨N, ver1, o1, qs1, j, e1, k1, k2, k3, k4, k5⟩ := l_closure1 s l (ro.getD .ns) (f r) hv (hf r) cx hcx (f r) 0 V Q ver (o + 1) qs rfl hV (by omega) hq1 (by have := hf r; omega)
    have hNU : ∀ x ∈ V ++ N, x ∈ U := fun x hx => by
      rcases List.mem_append.1 hx with hx | hx
      · exact hVU x hx
      · exact hU r x (k4 x hx)
    have hl2 := nodup_le k1 hNU
    simp only [List.length_append] at hl2
    have hr := hR r (hQ r (by simp))
    obtain ⟨V', q, ver', qs', e2, m1, m2, m3, m4⟩ := l_closure0 s l es f hs hM E hE hf role U hU hUl cx hcx n (V ++ N) (Q ++ N) ver1 o1 qs1 (by simp only [List.length_append]; omega) k1 hNU
      (fun x hx => by
        rcases List.mem_append.1 hx with hx | hx
        · exact List.mem_append_left _ (hQ x (by simp [hx]))
        · exact List.mem_append_right _ hx)
      (by simp only [List.length_append]; omega)
      (fun x hx => by
        rcases List.mem_append.1 hx with hx | hx
        · exact hR x hx
        · exact .step hr (hE r x (k4 x hx)))
      (fun x hx hxQ y hy => by
        simp only [List.mem_append, not_or] at hxQ
        by_cases hxr : x = r
        · subst hxr; exact k5 y hy
        · rcases List.mem_append.1 hx with hx | hx
          · exact List.mem_append_left _ (hC x hx (by simp [hxr, hxQ.1]) y hy)
          · exact absurd hx hxQ.2)
      k2 k3
    refine ⟨V', q, ver', qs', loop_step fun K hK => ?_, m1, fun x hx => m2 x (List.mem_append_left _ hx), m3, m4⟩
    have hKk : ∀ e t, K e t = K (keepE e [1, 5, 6]) t := fun e t => by rw [hK]; exact loopW_keep _ _ _ _
    rw [← hK] at e2
    clear hK
    have hsl := st2_old (a := .map (strM V)) (b := .buf T_string_0 1 ver qs) hs
    have hel := fun env => hv.elems env
    have c1 : (0 : Int) < ((Q.length : Int) + 1) := by omega
    have c2 : 1 ≤ Q.length + 1 := by omega
    simp at e1 e2
    simp [ir_roles_closure_L0, hq0, hsl, hro, hel, c1, c2, e1]
    rw [hKk]
    simp [e2]

theorem frz1_mp {S : St} {n m l : Nat} {es : List (AV × AV)} (h0 : (AV.mp l).under n = false) (h : S[l]? = some (.map es)) : frz1 S n (m + 1) (.mp l) = (es.mapM (frzP (frz1 S n m))).map .im := by
  rw [frz1, if_neg (by rw [h0]; exact Bool.false_ne_true)]
  simp only [h]
theorem frz_strM (S : St) (n m : Nat) : ∀ V : List (List UInt8), (strM V).mapM (frzP (frz1 S n m)) = some (strM V)
  | [] => rfl
  | x :: V => by
    have ih := frz_strM S n m V
    have h1 : frz1 S n m (.s x) = some (.s x) := by cases m <;> simp [frz1, AV.under]
    have h2 : frz1 S n m (.b true) = some (.b true) := by cases m <;> simp [frz1, AV.under]
    simp only [strM, List.map_cons, List.mapM_cons, frzP, h1, h2] at ih ⊢
    simp [ih]

/-- closure: what is reached, each once. -/
theorem c_roles_closure (role : List UInt8) (s : St) (l : Nat) (es : List (AV × AV)) (f : List UInt8 → List (List UInt8)) (hs : s[l]? = some (.map es)) (hM : MapS es f) (E : List (List UInt8 × List UInt8)) (hE : ∀ k x, x ∈ f k ↔ (k, x) ∈ E)
    (hf : ∀ k, (f k).length ≤ 100000) (hEl : E.length ≤ 100000) (cx : Ctx) :
    ∃ V : List (List UInt8), acallW P0 (.fn (.func F_roles_closure) [] []) [.s role, .mp l] s cx = .ret (.im (strM V)) s ∧ V.Nodup ∧ ∀ x, x ∈ V ↔ Rch E role x := by
  obtain ⟨V, q, ver, qs, e1, m1, m2, m3, m4⟩ := l_closure0 s l es f hs hM E (fun k x h => (hE k x).1 h) hf role (role :: E.map (·.2)) (fun k x hx => by
      have := (hE k x).1 hx
      exact List.mem_cons_of_mem _ (List.mem_map.2 ⟨_, this, rfl⟩)) (by simp; omega) ⟨s.length, s.length⟩ ⟨Nat.le_refl _, Nat.le_refl _⟩ _ [role] [role] 0 0 [.s role] (Nat.le_refl _) (by simp) (fun x hx => by simp at hx; simp [hx]) (fun x hx => hx) (by simp) (fun x hx => by simp at hx; subst hx; exact .refl _)
      (fun x hx hxq => absurd hx hxq) (by simp) (by simp)
  refine ⟨V, go_roles_closure (by simp) ?_, m1, fun x => ⟨m3 x, fun h => ?_⟩⟩
  · have hfz : frz (s ++ [.map (strM V), .buf T_string_0 1 ver qs]) s.length (.mp s.length) = some (.im (strM V)) := by
      have h0 : (AV.mp s.length).under s.length = false := by simp [AV.under]
      unfold frz
      rw [if_neg (by rw [h0]; exact Bool.false_ne_true), frz1_mp h0 st2_0, frz_strM]; rfl
    have e0 : strM [role] = [(.s role, .b true)] := rfl
    rw [e0] at e1
    simp at e1
    simp [callFnW, ir_roles_closure, e1, mput, hfz, keyK]
    done
  · exact ClosedE.rch (fun r y he hr => m4 r hr y ((hE r y).2 he)) h (m2 role (by simp))

end Go.Ai.Z
