/-
 The parser: tokens, names, numbers.
-/
import Derived.Test.YtpnlnnfcaeednaaGreatDoorAiT8
import Derived.Test.YtpnlnnfcaeednaaGreatDoorAiKW
import Derived.Test.YtpnlnnfcaeednaaGreatDoorAiLex1Lex2
set_option maxRecDepth 100000
set_option linter.unusedSimpArgs false
set_option linter.unusedVariables false
set_option linter.unusedSectionVars false
namespace Go.Ai.Z
open Go.Lib (itoa)
def psO (T : List Tok) (i : Nat) (m : AV) : HObj := .cells [.sl (T.map encTok), .i .i64 i, m]
section
variable (T : List Tok) (hT : T.length ≤ 100000) (i : Nat) (m : AV) (hm1 : m.plain = m) (s : St) (l : Nat) (hs : s[l]? = some (psO T i m)) (k : Int) (t : List UInt8) (a : Nat) (hi : T[i]? = some (k, t, a))
include hT hs hi
theorem c_token (cx : Ctx) : acallW P0 (.fn (.func F_syntax_parser_token) [] []) [.pt l 0] s cx = .ret (encTok (k, t, a)) s := by
 have hlt : i < T.length := (List.getElem?_eq_some_iff.1 hi).1
 have h1 : (T.map encTok)[i]? = some (encTok (k, t, a)) := by rw [List.getElem?_map, hi]; rfl
 refine go_syntax_parser_token (by simp) ?_
 unfold psO at hs
 simp [callFnW, ir_syntax_parser_token, hs, hi, encTok]
theorem c_is (w : List UInt8) (cx : Ctx) : acallW P0 (.fn (.func F_syntax_parser_is) [] []) [.pt l 0, .s w] s cx = .ret (.b (t == w)) s := by
 have h1 := c_token T hT i m s l hs k t a hi
 refine go_syntax_parser_is (by simp) ?_
 simp [callFnW, ir_syntax_parser_is, h1, encTok]
theorem c_skip_no (w : List UInt8) (hw : t ≠ w) (cx : Ctx) : acallW P0 (.fn (.func F_syntax_parser_skip) [] []) [.pt l 0, .s w] s cx = .ret (.b false) s := by
 have h1 := c_is T hT i m s l hs k t a hi w
 refine go_syntax_parser_skip (by simp) ?_
 simp [callFnW, ir_syntax_parser_skip, h1, hw]
theorem c_skip_yes (cx : Ctx) (hl : cx.lim ≤ l) : acallW P0 (.fn (.func F_syntax_parser_skip) [] []) [.pt l 0, .s t] s cx = .ret (.b true) (s.set l (psO T (i + 1) m)) := by
 have h1 := c_is T hT i m s l hs k t a hi t
 have hlt : i < T.length := (List.getElem?_eq_some_iff.1 hi).1
 have hwi := wI (i := i) (by omega)
 refine go_syntax_parser_skip (by simp) ?_
 unfold psO at hs ⊢
 simp [callFnW, ir_syntax_parser_skip, h1, hs, hwi, hl, splice]
theorem c_atName (cx : Ctx) : acallW P0 (.fn (.func F_syntax_parser_atName) [] []) [.pt l 0] s cx = .ret (.b (decide (k = 1) && !kwS t)) s := by
 have h1 := c_token T hT i m s l hs k t a hi
 refine go_syntax_parser_atName (by simp) ?_
 by_cases hk : k = 1
 ·simp [callFnW, ir_syntax_parser_atName, h1, encTok, hk]
 ·simp [callFnW, ir_syntax_parser_atName, h1, encTok, hk]
end
theorem c_CheckName_plain (t : List UInt8) (h : plainS t = true) (s : St) (cx : Ctx) : acallW P0 (.fn (.func F_terms_CheckName) [] []) [.s t] s cx = .ret (.i .i64 0) s := by
 refine go_terms_CheckName (by simp) ?_
 simp [callFnW, ir_terms_CheckName, h]
section
variable (T : List Tok) (hT : T.length ≤ 100000) (i : Nat) (m : AV) (s : St) (l : Nat) (hs : s[l]? = some (psO T i m)) (k : Int) (t : List UInt8) (a : Nat) (hi : T[i]? = some (k, t, a))
include hT hs hi
theorem c_name (hk : k = 1) (hp : plainS t = true) (cx : Ctx) (hl : cx.lim ≤ l) : acallW P0 (.fn (.func F_syntax_parser_name) [] []) [.pt l 0] s cx = .ret (.s t) (s.set l (psO T (i + 1) m)) := by
 have h1 := c_token T hT i m s l hs k t a hi
 have h2 := c_atName T hT i m s l hs k t a hi
 have hlt : i < T.length := (List.getElem?_eq_some_iff.1 hi).1
 have hwi := wI (i := i) (by omega)
 have hkw := (plain_name hp).kw
 have h3 := c_CheckName_plain t hp
 obtain ⟨b, r, hbr⟩ : ∃ b r, t = b :: r := by
  cases t with
  | nil => exact absurd rfl (plain_name hp).ne
  | cons b r => exact ⟨b, r, rfl⟩
 have hb : ¬ ((b.toNat : Int) = 95) := by
  have h4 : ltrB b = true := by
   unfold plainS at hp
   rw [Bool.and_eq_true] at hp
   have h5 := hp.2
   rw [hbr] at h5
   unfold cutB at h5
   by_cases hb58 : b = 58
   ·rw [if_pos hb58] at h5
    simp [wordS] at h5
   ·rw [if_neg hb58] at h5
    cases hc : cutB 58 r with
    | none => rw [hc] at h5; simp [wordS] at h5; exact h5.1.1
    | some p => rw [hc] at h5; simp [wordS] at h5; exact h5.1.1.1
  intro h6
  unfold ltrB at h4
  rw [h6] at h4
  exact absurd h4 (by decide)
 refine go_syntax_parser_name (by simp) ?_
 unfold psO at hs ⊢
 subst hk
 rw [hbr] at h1 h2 h3 hkw ⊢
 simp [callFnW, ir_syntax_parser_name, h1, h2, h3, hkw, hs, hwi, hl, splice, encTok, hb]
end
end Go.Ai.Z
namespace Go.Ai.Z
open Go.Lib (itoa decDigits)
def At (T : List Tok) (i : Nat) (R : List Tk) : Prop := (T.drop i).map (fun t => (t.1, t.2.1)) = R
theorem At.head {T : List Tok} {i : Nat} {x : Tk} {R : List Tk} (h : At T i (x :: R)) : (∃ a, T[i]? = some (x.1, x.2, a)) ∧ At T (i + 1) R := by
 unfold At at h ⊢
 cases hd : T.drop i with
 | nil => rw [hd] at h; simp at h
 | cons y r =>
  rw [hd] at h
  simp only [List.map_cons, List.cons.injEq] at h
  have h1 : T[i]? = some y := by
   have : (T.drop i)[0]? = some y := by rw [hd]; rfl
   simpa using this
  have h2 : T.drop (i + 1) = r := by rw [← List.drop_drop, hd]; rfl
  obtain ⟨y1, y2, y3⟩ := y
  refine ⟨⟨y3, ?_⟩, by rw [h2]; exact h.2⟩
  rw [h1, ← h.1]
structure PEnv (T : List Tok) (m : AV) (S : Nat → St) (l N : Nat) : Prop where
 len : T.length ≤ 100000
 cell : ∀ j, (S j)[l]? = some (psO T j m)
 sets : ∀ j k, (S j).set l (psO T k m) = S k
 n : ∀ j, (S j).length = N
def inB : List UInt8 := [105, 110]
def andW : List UInt8 := [97, 110, 100]
section
variable {T : List Tok} {m : AV} {S : Nat → St} {l N : Nat} (hE : PEnv T m S l N) {i : Nat} {x : Tk} {R : List Tk} (h : At T i (x :: R))
include hE h
end
end Go.Ai.Z
