/-
 The examples of the chapter on syntax.
-/
import Derived.Test.YtpnlnnfcaeednaaGreatDoorAiC2
import Derived.Test.YtpnlnnfcaeednaaGreatDoorAiB2
import Derived.Test.YtpnlnnfcaeednaaGreatDoorAiDat
import Derived.Test.YtpnlnnfcaeednaaGreatDoorAiY12
import Derived.Test.YtpnlnnfcaeednaaGreatDoorAiKGKH
set_option maxRecDepth 100000
set_option linter.unusedSimpArgs false
set_option linter.unusedVariables false
set_option linter.unusedSectionVars false
namespace Go.Ai.Z
theorem sane3_n : acall P0 200 (.fn (.func F_law03_sane) [] []) [] [] ⟨0, 0⟩ = .ret (.b true) [] := by kernel_rfl
end Go.Ai.Z
namespace Go.Ai
open Go.ChangeShapes Go.WideShapes Go.WideElems
section
variable {H : Type} {enc : TypeId × Value → H} {P : Program} {W : World}
theorem rep_bytesT {R Z : TypeId} (uR : P.underlying R = some (.slice Z)) (uZ : P.underlying Z = some (.int .u8)) (cZ : P.cellsOf Z = 1) (bZ : 0 < P.bytesOf Z)
  {r : Go.Reach} {b0 : Nat} {v : Value} {d : DataW H} {p : List MemPlace} (hok : Value.okWide P W r b0 R v) (h : DataW.Trod enc P W 0 (fun _ => true) true R v d p) (hl : Light P R d) :
  ∃ l : List UInt8, l.length ≤ 1125899906842624 ∧ Rep (g0 W) 0 v (.sl (bytesAV l)) := by
 obtain ⟨a, len, cap, rfl⟩ := okWide_slice uR hok
 obtain ⟨fuel, hf⟩ := h
 simp only [Value.cells] at hf
 obtain ⟨es, q1, q2, ⟨r4, a4⟩⟩ := cr_slice uR cZ (by omega) bZ (fun a => ∃ b : UInt8, a = .i .u8 b.toNat ∧ True) hf hl (fun m hm cs y hy hly => by
  obtain ⟨n, h1, h2, hr⟩ := cr_int uZ hy
  have e1 : (0 : Int) ≤ n := h1
  have e2 : n ≤ 255 := h2
  refine ⟨.i .u8 n, ⟨UInt8.ofNat n.toNat, ?_, trivial⟩, rfl, hr⟩
  congr 1
  simp
  omega)
 obtain ⟨l, rfl, _⟩ := list_enc q1
 have hb : reachBytes ≤ 1125899906842624 := by decide
 simp only [List.length_map] at q2
 exact ⟨l, by omega, r4.head⟩
end
end Go.Ai
namespace Go.Ai.Z
def sumL : List (List UInt8) → Nat
 | [] => 0
 | x :: r => x.length + sumL r
theorem l_law03_few (s : St) (cx : Ctx) (L : List (List UInt8)) (hL : sumL L ≤ 4000000000000000) (hN : L.length ≤ 1000) : ∀ (rest : List (List UInt8)) (i n : Nat) (v5 : AV), L.drop i = rest → n + sumL rest ≤ 4000000000000000 →
  ∃ (j : Int) (v5' : AV), loopW (acodeW P0.glob (acallW P0) cx false ir_law03_few_L0) [3, 6, 7, 8] [(3, .v (.i .i64 n)), (6, .v (.sl (L.map fun x => .sl (bytesAV x)))), (7, .v (.i .i64 L.length)), (8, .v (.i .i64 i))] s =
   .exit 0 [(3, .v (.i .i64 (n + sumL rest : Nat))), (6, .v (.sl (L.map fun x => .sl (bytesAV x)))), (7, .v (.i .i64 L.length)), (8, .v (.i .i64 j)), (9, .v (.b false))] s
 | [], i, n, v5, h, hn => by
  have h1 : ¬ i < L.length := Nat.not_lt.2 (drop_nil h)
  refine ⟨i, v5, loop_step fun K hK => ?_⟩
  simp [ir_law03_few_L0, h1, sumL]
 | x :: r, i, n, v5, h, hn => by
  obtain ⟨h1, h2, h3, h4⟩ := drop_cons h
  have h5 := h4 h3
  have hx : (L.map fun x => AV.sl (bytesAV x))[i]? = some (.sl (bytesAV x)) := by simp [h1]
  have hwi := wI (i := i) (by omega)
  have hsum : sumL (x :: r) = x.length + sumL r := rfl
  have hb : (bytesAV x).length = x.length := by simp [bytesAV]
  have w1 : IntKind.i64.wrap ((n : Int) + (x.length : Int)) = ((n + x.length : Nat) : Int) := by rw [w64 (by omega) (by omega)]; omega
  obtain ⟨j, v, ih⟩ := l_law03_few s cx L hL hN r (i + 1) (n + x.length) .u h2 (by omega)
  refine ⟨j, v, loop_step fun K hK => ?_⟩
  rw [← hK] at ih
  rw [show n + sumL (x :: r) = n + x.length + sumL r by omega]
  clear hK h4
  simp at ih
  simp [ir_law03_few_L0, h3, h5, hwi, hb, w1]
  exact ih
theorem c_law03_few (L : List (List UInt8)) (hL : sumL L ≤ 4000000000000000) (hN : L.length ≤ 1000) (s : St) (cx : Ctx) : acallW P0 (.fn (.func F_law03_few) [] []) [.sl (L.map fun x => .sl (bytesAV x))] s cx = .ret (.b (decide (sumL L ≤ 3000))) s := by
 obtain ⟨j, v, h⟩ := l_law03_few s ⟨s.length, s.length⟩ L hL hN L 0 0 .u rfl (by omega)
 refine go_law03_few (by simp) ?_
 simp at h
 have hcast : ((sumL L : Int) ≤ 3000) ↔ sumL L ≤ 3000 := by omega
 by_cases hs : sumL L ≤ 3000
 ·have : (sumL L : Int) ≤ 3000 := by omega
  simp [callFnW, ir_law03_few, h, hs, this]
 ·have : ¬ (sumL L : Int) ≤ 3000 := by omega
  simp [callFnW, ir_law03_few, h, hs, this]
theorem cellsB (l : List UInt8) : (∀ z ∈ bytesAV l, z.cells.length = 1) = True := by
 simp [bytesAV]
theorem lenB (l : List UInt8) : (bytesAV l).length = l.length := by simp [bytesAV]
theorem c_law_conj (x y : List UInt8) (hx : x.length ≤ 1125899906842624) (hy : y.length ≤ 1125899906842624) (hs : acallW P0 (.fn (.func F_law03_sane) [] []) [] [] ⟨0, 0⟩ = .ret (.b true) []) (cx : Ctx) :
  acallW P0 (.fn (.func F_law03_SyntaxConjunction) [] []) [.sl (bytesAV x), .sl (bytesAV y)] [] cx = .ret (.b true) [] := by
 have hf := fun s cx => c_law03_few [x, y] (by simp [sumL]; omega) (by simp) s cx
 simp only [List.map_cons, List.map_nil, sumL, Nat.add_zero] at hf
 refine go_law03_SyntaxConjunction (by simp) ?_
 by_cases hl : x.length + y.length ≤ 3000
 case neg => simp [callFnW, ir_law03_SyntaxConjunction, hs, hf, hl, List.range_succ]
 obtain ⟨a, ata, e, qa, wa, ca⟩ := y_Concept x (by omega)
 obtain ⟨b, atb, f, qb, wb, cb⟩ := y_Concept y (by omega)
 by_cases he : e = 0
 case neg => simp [callFnW, ir_law03_SyntaxConjunction, hs, hf, hl, List.range_succ, ca, cb, he, splice]
 by_cases hf0 : f = 0
 case neg => simp [callFnW, ir_law03_SyntaxConjunction, hs, hf, hl, List.range_succ, ca, cb, he, hf0, splice]
 subst he hf0
 obtain ⟨one, ato, g, qo, wo, co⟩ := y_Concept (oneX x) (by simp [oneX]; omega)
 obtain ⟨c, atc, h, qc, wc, cc⟩ := y_Concept (twoX x y) (by simp [twoX]; omega)
 obtain ⟨d, i, qd, wd, cd⟩ := y_Tidy (.mk 5 [] 0 0 false [a, b]) (by rw [wC_eq]; simp [C.parts, C.name, wL]; omega)
 obtain ⟨r1, r2, r3, r4⟩ := conj_law hl qa qb qo qc qd
 subst r1
 have o1 : AV.i .u8 40 :: (bytesAV x ++ bytesAV [10, 41]) = bytesAV (oneX x) := by simp [bytesAV, oneX]
 have k1 := fun s cx => c_terms_Compare one a wo wa s cx
 have k2 := fun s cx => c_terms_Compare c d wc wd s cx
 rw [r2] at k1
 simp [encC_and] at cd
 have o1' : AV.i .u8 40 :: (bytesAV x ++ [AV.i .u8 10, AV.i .u8 41]) = bytesAV (oneX x) := by simp [bytesAV, oneX]
 have o2 : AV.i .u8 40 :: (bytesAV x ++ (bytesAV [10, 41, 32, 97, 110, 100, 32, 40] ++ (bytesAV y ++ bytesAV [10, 41]))) = bytesAV (twoX x y) := by simp [bytesAV, twoX]
 have m1 : 1 + x.length ≤ maxSl := by simp only [maxSl]; omega
 have m2 : x.length + 1 + 2 ≤ maxSl := by simp only [maxSl]; omega
 have m3 : x.length + 1 + 8 ≤ maxSl := by simp only [maxSl]; omega
 have m4 : x.length + 8 + 1 + y.length ≤ maxSl := by simp only [maxSl]; omega
 have m5 : x.length + (8 + y.length) + 1 + 2 ≤ maxSl := by simp only [maxSl]; omega
 have m6 : x.length + (y.length + 8) + 1 + 2 ≤ maxSl := by simp only [maxSl]; omega
 by_cases hi : i = 0
 ·by_cases hh : h = 0
  ·rw [r3 hi hh] at k2
   simp [callFnW, ir_law03_SyntaxConjunction, hs, hf, hl, List.range_succ, ca, cb, splice, cellsB, lenB, m1, m2, m3, m4, m5, m6, o1, o2, co, cc, k1, k2, fillC, cd, hi, hh, -List.mem_map]
  ·rcases r4 with r4 | r4 | r4
   ·exact absurd r4 hh
   all_goals simp [callFnW, ir_law03_SyntaxConjunction, hs, hf, hl, List.range_succ, ca, cb, splice, cellsB, lenB, m1, m2, m3, m4, m5, m6, o1, o2, co, cc, k1, k2, fillC, cd, hi, r4, -List.mem_map]
 ·simp [callFnW, ir_law03_SyntaxConjunction, hs, hf, hl, List.range_succ, ca, cb, splice, cellsB, lenB, m1, m2, m3, m4, m5, m6, o1, o2, co, cc, k1, k2, fillC, cd, hi, -List.mem_map]
end Go.Ai.Z
