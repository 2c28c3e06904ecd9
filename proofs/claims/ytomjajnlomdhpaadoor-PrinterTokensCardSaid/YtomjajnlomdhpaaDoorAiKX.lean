/-
  The law on tokens.
-/
import Derived.Test.YtomjajnlomdhpaaDoorAiKXa
import Derived.Test.YtomjajnlomdhpaaDoorAiKXb
import Derived.Test.YtomjajnlomdhpaaDoorAiKXc
set_option maxRecDepth 100000
set_option linter.unusedSimpArgs false
set_option linter.unusedVariables false
namespace Go.Ai.Z

theorem l_law_tok (s : St) (cx : Ctx) (txt : List UInt8) (R : List Tok) (all : List Tk) (hR : R.map tkOf = all ++ [(4, [])]) (hL : (joinT none all).length ≤ 65536) (hn : all.length ≤ 65536) (d' : Int) :
    ∀ (rest : List Tk) (i : Nat) (d : Int), all.drop i = rest → i ≤ all.length → 0 ≤ d → d ≤ i → deepT rest d = some d' →
    loopW (acodeW P0.glob (acallW P0) cx false ir_law04_PrinterTokens_L0) [3, 5, 8, 9, 10] [(3, .v (.s txt)), (5, .v (.sl (R.map encTok))), (8, .v (.i .i64 d)), (9, .v (.s (joinT none (all.take i)))), (10, .v (.i .i64 i))] s =
      .exit 0 [(3, .v (.s txt)), (5, .v (.sl (R.map encTok))), (8, .v (.i .i64 d')), (9, .v (.s (joinT none all))), (10, .v (.i .i64 all.length)), (47, .v (.b false))] s
  | [], i, d, h, hi, h0, h1, hd => by
    have hi' : i = all.length := by have := drop_nil h; omega
    subst hi'
    have hlen : R.length = all.length + 1 := by have := congrArg List.length hR; simpa using this
    have w1 : IntKind.i64.wrap (all.length : Int) = all.length := w64 (by omega) (by omega)
    simp [deepT] at hd
    subst hd
    refine loop_step fun K hK => ?_
    simp [ir_law04_PrinterTokens_L0, hlen, w1]
  | x :: r, i, d, h, hi, h0, h1, hd => by
    obtain ⟨g1, g2, g3, g4⟩ := drop_cons h
    have hlen : R.length = all.length + 1 := by have := congrArg List.length hR; simpa using this
    have w1 : IntKind.i64.wrap (all.length : Int) = all.length := w64 (by omega) (by omega)
    have hw := wI (i := i) (by omega)
    have hRi : R[i]?.map tkOf = some x := by
      have := congrArg (·[i]?) hR
      simp only [List.getElem?_map] at this
      rw [this, List.getElem?_append_left g3, g1]
    obtain ⟨⟨k, t, a⟩, hRi', hx⟩ : ∃ y, R[i]? = some y ∧ tkOf y = x := by
      cases hy : R[i]? with
      | none => rw [hy] at hRi; cases hRi
      | some y => rw [hy] at hRi; exact ⟨y, rfl, by simpa using hRi⟩
    have hRg : ∀ h, R[i]'h = (k, t, a) := fun h => Option.some.inj ((List.getElem?_eq_getElem h).symm.trans hRi')
    subst hx
    have hj := joinT_take all i _ none g1
    have hjl := joinT_len all (i + 1) none
    simp only [deepT] at hd
    split at hd
    · cases hd
    rename_i hneg
    have hstep : 0 ≤ stepD d (tkOf (k, t, a)) := by omega
    have hsle : stepD d (tkOf (k, t, a)) ≤ ((i + 1 : Nat) : Int) := by
      unfold stepD; simp only []; repeat' split
      all_goals omega
    have ih := l_law_tok s cx txt R all hR hL hn d' r (i + 1) (stepD d (tkOf (k, t, a))) g2 (by omega) hstep hsle hd
    refine loop_step fun K hK => ?_
    rw [← hK, show ((i + 1 : Nat) : Int) = (i : Int) + 1 from rfl] at ih
    clear hK
    rw [hj] at ih
    have hlj : (joinT none (all.take i)).length + t.length ≤ 65536 := by
      have := congrArg List.length hj
      simp only [List.length_append, tkOf] at this
      omega
    by_cases hi0 : i = 0
    · subst hi0
      rw [show ((0 : Nat) : Int) = 0 from rfl] at ih ⊢
      rw [tok_round0 s cx txt _ R all.length hlen hn d h0 (by omega) k t a hRi' (by omega) hneg hlj K]
      simpa [tkOf] using ih
    · obtain ⟨⟨k', t', a'⟩, hp1, hp2⟩ : ∃ y, R[i - 1]? = some y ∧ all[i - 1]? = some (y.1, y.2.1) := by
        have := congrArg (·[i - 1]?) hR
        simp only [List.getElem?_map] at this
        rw [List.getElem?_append_left (by omega)] at this
        cases hy : R[i - 1]? with
        | none => rw [hy] at this; rw [List.getElem?_eq_getElem (by omega)] at this; cases this
        | some y => rw [hy] at this; exact ⟨y, rfl, by rw [← this]; rfl⟩
      simp only [hi0, if_false, hp2, Option.map_some] at ih
      by_cases k3 : k = 3
      · rw [tok_round1 s cx txt _ R all.length hlen hn d h0 (by omega) i (by omega) g3 k t a hRi' k' t' a' hp1 k3 hneg hlj K]; exact ih
      · rw [tok_round2 s cx txt _ R all.length hlen hn d h0 (by omega) i (by omega) g3 k t a hRi' k' t' a' hp1 k3 hneg hlj K]; exact ih

theorem c_law_tok (c : C) (hc : c.Ok) (hs : acallW P0 (.fn (.func F_law04_sane) [] []) [] [] ⟨0, 0⟩ = .ret (.b true) []) (cx : Ctx) :
    acallW P0 (.fn (.func F_law04_PrinterTokens) [] []) [encC c] [] cx = .ret (.b true) [] := by
  obtain ⟨b, e1, hb⟩ := c_ref02_Few c hc
  refine go_law04_PrinterTokens (by simp) ?_
  cases b with
  | false => simp [callFnW, ir_law04_PrinterTokens, hs, e1]
  | true =>
    have hw := hb rfl
    have e2 := c_printer_Concept c (by omega)
    by_cases h0 : checkS c = 0
    · have hv : walkS c = 0 := by
        unfold checkS at h0
        split at h0
        · cases h0
        · exact h0
      have hp := piece_ctk c hv
      obtain ⟨f, e, f1, f2, f3, f4, hj⟩ := hp.join
      have hjt : joinT none (ctk c) = textS c := by
        have := hj none []
        simpa [joinT, sep] using this
      have htl := text_len c hv
      have hlen : (textS c).length ≤ 65536 := by omega
      obtain ⟨R, hR, hR2⟩ := lex_join (ctk c) none 0 hp.tok
      rw [hjt] at hR
      have e3 := c_lexis_Tokens (textS c) hlen _ R hR [] ⟨0, 0⟩ (Nat.le_refl _)
      have hn : (ctk c).length ≤ 65536 := by
        have key : ∀ (l : List Tk) (p : Option (List UInt8)), (∀ x ∈ l, IsTok x.1 x.2) → l.length ≤ (joinT p l).length := by
          intro l
          induction l with
          | nil => intro p _; simp
          | cons x r ih =>
            intro p h
            have h1 := ih (some x.2) (fun y hy => h y (by simp [hy]))
            have h2 : 0 < x.2.length := List.length_pos_iff.2 (h x (by simp)).ne
            simp [joinT]; omega
        have := key (ctk c) none hp.tok
        rw [hjt] at this; omega
      have hbal : deepT (ctk c) 0 = some 0 := by
        have := hp.bal 0 [] (by omega)
        simpa [deepT] using this
      have hl := l_law_tok [] ⟨0, 0⟩ (textS c) R (ctk c) hR2 (by rw [hjt]; exact hlen) hn 0 (ctk c) 0 0 rfl (Nat.zero_le _) (by omega) (by omega) hbal
      have hRl : R.length = (ctk c).length + 1 := by have := congrArg List.length hR2; simpa using this
      have hpos : 0 < (ctk c).length := List.length_pos_iff.2 hp.ne
      have h2 : ¬ ((ctk c).length : Int) + 1 < 2 := by omega
      simp only [List.take_zero, show ((0 : Nat) : Int) = 0 from rfl, joinT, hjt] at hl
      simp [callFnW, ir_law04_PrinterTokens, hs, e1, e2, h0, e3, hRl, h2, hl]
    · simp [callFnW, ir_law04_PrinterTokens, hs, e1, e2, h0]
end Go.Ai.Z
