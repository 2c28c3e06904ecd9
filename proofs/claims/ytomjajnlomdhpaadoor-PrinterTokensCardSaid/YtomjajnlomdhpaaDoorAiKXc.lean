/-
  The law on tokens: a round on a word behind another token.
-/
import Derived.Test.YtomjajnlomdhpaaDoorAiKX0
set_option maxRecDepth 100000
set_option linter.unusedSimpArgs false
set_option linter.unusedVariables false
namespace Go.Ai.Z

set_option maxHeartbeats 8000000 in
theorem tok_round2 (s : St) (cx : Ctx) (txt J : List UInt8) (R : List Tok) (N : Nat) (hlen : R.length = N + 1) (hN : N ≤ 65536) (d : Int) (h0 : 0 ≤ d) (h1 : d ≤ 65536) (i : Nat) (hi : 0 < i) (hiN : i < N) (k : Int) (t : List UInt8) (a : Nat) (hR : R[i]? = some (k, t, a)) (k' : Int) (t' : List UInt8) (a' : Nat) (hR' : R[i - 1]? = some (k', t', a')) (k3 : ¬ k = 3)
    (hneg : ¬ stepD d (k, t) < 0) (hlj : J.length + t.length ≤ 65536) (K : Env → St → Out) :
    (acodeW P0.glob (acallW P0) cx false ir_law04_PrinterTokens_L0 (keepE [(3, .v (.s txt)), (5, .v (.sl (R.map encTok))), (8, .v (.i .i64 d)), (9, .v (.s J)), (10, .v (.i .i64 i))] [3, 5, 8, 9, 10]) s).thn K =
      K [(3, .v (.s txt)), (5, .v (.sl (R.map encTok))), (8, .v (.i .i64 (stepD d (k, t)))), (9, .v (.s (J ++ (sep (some t') t ++ t)))), (10, .v (.i .i64 ((i : Int) + 1)))] s := by
  have w1 : IntKind.i64.wrap (N : Int) = N := w64 (by omega) (by omega)
  have wp : IntKind.i64.wrap (d + 1) = d + 1 := w64 (by omega) (by omega)
  have wm : IntKind.i64.wrap (d - 1) = d - 1 := w64 (by omega) (by omega)
  have a1 : J.length + 1 ≤ 4611686018427387904 := by omega
  have a2 : J.length + t.length ≤ 4611686018427387904 := by omega
  have a3 : J.length + (t.length + 1) ≤ 4611686018427387904 := by omega
  have a5 : J.length ≤ 4611686018427387902 := by omega
  have a6 : J.length < 4611686018427387904 := by omega
  have nd0 : ¬ d < 0 := by omega
  have nd1 : ¬ d + 1 < 0 := by omega
  have hw := wI (i := i) (by omega)
  have hRg : ∀ h, R[i]'h = (k, t, a) := fun h => Option.some.inj ((List.getElem?_eq_getElem h).symm.trans hR)
  have hRp : ∀ h, R[i - 1]'h = (k', t', a') := fun h => Option.some.inj ((List.getElem?_eq_getElem h).symm.trans hR')
  have ws : IntKind.i64.wrap ((i : Int) - 1) = (i : Int) - 1 := w64 (by omega) (by omega)
  have nt : ((i : Int) - 1).toNat = i - 1 := by omega
  have zs : (0 : Int) ≤ (i : Int) - 1 := by omega
  have zs' : (1 : Int) ≤ (i : Int) := by omega
  have hi1 : i < N + 1 := by omega
  have hi2 : i - 1 < N + 1 := by omega
  have g3 : (i : Int) < N := by omega
  clear hR hR' hN h1 hlj
  rcases five_t t with ht | ht | ht | ht | ⟨t1, t2, t3, t4⟩ <;> rcases three_t t' with hp | hp | ⟨p1, p2⟩
  all_goals
    simp [stepD, *] at hneg
    try have nd2 : ¬ d < 1 := by omega
    try have nd3 : ¬ d - 1 < 0 := by omega
    simp [ir_law04_PrinterTokens_L0, encTok, stepD, sep, *]
end Go.Ai.Z
