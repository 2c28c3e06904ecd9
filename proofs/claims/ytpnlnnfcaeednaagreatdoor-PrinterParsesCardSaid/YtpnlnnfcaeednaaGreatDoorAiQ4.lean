/-
  The parser of a whole text; syntax.Concept.
-/
import Derived.Test.YtpnlnnfcaeednaaGreatDoorAiQ3
set_option maxRecDepth 100000
set_option linter.unusedSimpArgs false
set_option linter.unusedVariables false
set_option linter.unusedSectionVars false
namespace Go.Ai.Z
def mapV (l : Nat) : AV := .im [(.s [100, 111, 109, 97, 105, 110], .fn (.func F_syntax_parser_domain) [.pt l 0] []), (.s [114, 111, 108, 101], .fn (.func F_syntax_parser_role) [.pt l 0] []),
  (.s [99, 104, 97, 105, 110], .fn (.func F_syntax_parser_chain) [.pt l 0] []), (.s [114, 101, 102, 108, 101, 120, 105, 118, 101], .fn (.func F_syntax_parser_reflexive) [.pt l 0] []),
  (.s [116, 121, 112, 101], .fn (.func F_syntax_parser_typing) [.pt l 0] []), (.s [108, 105, 110, 107], .fn (.func F_syntax_parser_link) [.pt l 0] [])]
theorem c_newParser (T : List Tok) (s : St) (cx : Ctx) (hl : cx.lim ≤ s.length) (hb : cx.base ≤ s.length) :
    acallW P0 (.fn (.func F_syntax_newParser) [] []) [.sl (T.map encTok)] s cx = .ret (.pt s.length 0) (s ++ [psO T 0 (mapV s.length)]) := by
  refine go_syntax_newParser (by simp) ?_
  simp [callFnW, ir_syntax_newParser, fillC, splice, hl, hb, find, keyK, keyEq, psO, mapV]
theorem c_try (fp : AV) (f : Nat) (as cs : List AV) (hf : fp = .fn (.func f) as cs) (s s' : St) (cx : Ctx) (r : AV) (h : acallW P0 fp [] s cx = .ret r s') :
    acallW P0 (.fn (.func F_syntax_try) [] []) [fp] s cx = .ret (.tu [.ag [.i .i64 0, .i .i64 0], .b false]) s' := by
  subst hf
  refine acallW_hi (A := P0) (k := .tryK (.tu [.ag [.i .i64 0, .i .i64 0], .b false])) rfl rfl (by simp) ?_
  show callHi (acallW P0) (acallW P0.quiet) (.tryK (.tu [.ag [.i .i64 0, .i .i64 0], .b false])) [.fn (.func f) as cs] s cx = _
  unfold callHi
  dsimp only
  rw [h]
theorem c_whole (src : List UInt8) (hl : src.length ≤ 65536) (k : Nat) (T : List Tok) (hT : lexN k src 0 = some T) (hTl : T.length ≤ 100000) (n : Nat) (ta : Nat) (hend : T[n]? = some (4, [], ta)) (t0 : Tok) (h0 : T[0]? = some t0)
    (fp ft : AV) (f : Nat) (as cs : List AV) (hfp : fp = .fn (.func f) as cs) (g : Fn) (as2 cs2 : List AV) (hft : ft = .fn g as2 cs2) (s s1 s2 : St) (hs1 : s1.length = s.length) (cx : Ctx) (hlim : cx.lim ≤ s.length) (hbase : cx.base ≤ s.length) (r : AV) (e : Int)
    (hp : acallW P0 fp [.pt (s.length + 1) 0] (s ++ [.cells [fp], psO T 0 (mapV (s.length + 1)), .cells [.pt (s.length + 1) 0]]) cx = .ret r (s1 ++ [.cells [fp], psO T n (mapV (s.length + 1)), .cells [.pt (s.length + 1) 0]]))
    (ht : acallW P0 ft [] (s1 ++ [.cells [fp], psO T n (mapV (s.length + 1)), .cells [.pt (s.length + 1) 0]]) cx = .ret (.i .i64 e) s2) :
    acallW P0 (.fn (.func F_syntax_whole) [] []) [.sl (bytesAV src), fp, ft] s cx = .ret (.tu [.i .i64 (if e = 0 then 0 else (t0.2.2 : Int)), .i .i64 e]) s2 := by
  have hcx : (⟨cx.lim, cx.base⟩ : Ctx) = cx := rfl
  have e1 := c_lexis_Tokens src hl k T hT (s ++ [.cells [fp]]) cx (by simp; omega)
  have e2 := c_newParser T (s ++ [.cells [fp]]) cx (by simp; omega) (by simp; omega)
  have hlen : (s ++ [HObj.cells [fp]]).length = s.length + 1 := by simp
  rw [hlen] at e2
  rw [List.append_assoc] at e2
  have hw1 : acallW P0 (.fn (.func F_syntax_whole_1) [] [.pt s.length 0, .pt (s.length + 2) 0]) [] (s ++ [.cells [fp], psO T 0 (mapV (s.length + 1)), .cells [.pt (s.length + 1) 0]]) cx = .ret (.tu []) (s1 ++ [.cells [fp], psO T n (mapV (s.length + 1)), .cells [.pt (s.length + 1) 0]]) := by
    have hend2 := c_end T hTl n (mapV (s.length + 1)) (s1 ++ [.cells [fp], psO T n (mapV (s.length + 1)), .cells [.pt (s.length + 1) 0]]) (s.length + 1) (by rw [← hs1]; simp) 4 [] ta hend rfl
    refine go_syntax_whole_1 (by simp) ?_
    have a1 : (s ++ [.cells [fp], psO T 0 (mapV (s.length + 1)), .cells [.pt (s.length + 1) 0]])[s.length]? = some (HObj.cells [fp]) := by simp
    have a2 : (s ++ [.cells [fp], psO T 0 (mapV (s.length + 1)), .cells [.pt (s.length + 1) 0]])[s.length + 2]? = some (HObj.cells [.pt (s.length + 1) 0]) := by simp
    have a3 : (s1 ++ [.cells [fp], psO T n (mapV (s.length + 1)), .cells [.pt (s.length + 1) 0]])[s.length + 2]? = some (HObj.cells [.pt (s.length + 1) 0]) := by rw [← hs1]; simp
    generalize s1 ++ [.cells [fp], psO T n (mapV (s.length + 1)), .cells [.pt (s.length + 1) 0]] = S1 at *
    generalize s ++ [.cells [fp], psO T 0 (mapV (s.length + 1)), .cells [.pt (s.length + 1) 0]] = S0 at *
    subst hfp
    simp [callFnW, ir_syntax_whole_1, a1, a2, a3, hp, hend2]
  have e3 := c_try _ _ _ _ rfl _ _ cx _ hw1
  have hT0 : (T.map encTok)[0]? = some (encTok t0) := by rw [List.getElem?_map, h0]; rfl
  refine go_syntax_whole (by simp) ?_
  subst hft hfp
  have hone : ((AV.fn (.func f) as cs).cells).all AV.one = true := rfl
  generalize mapV (s.length + 1) = M at *
  have b1 : cx.lim ≤ s.length + 2 := by omega
  have b2 : cx.base ≤ s.length + 2 := by omega
  have h0' : T.head? = some t0 := by cases T with
    | nil => simp at h0
    | cons a r => simpa using h0
  by_cases he : e = 0
  · simp [callFnW, ir_syntax_whole, e1, e2, e3, ht, he, hcx, b1, b2, splice]
  · simp [callFnW, ir_syntax_whole, e1, e2, e3, ht, he, hcx, b1, b2, splice, h0, h0', encTok]
end Go.Ai.Z
