/-
 The parser: tokens, names, numbers.
-/
import Derived.Test.YtpnlnnfcaeednaaGreatDoorAiT8
import Derived.Test.YtpnlnnfcaeednaaGreatDoorAiKW
import Derived.Test.YtpnlnnfcaeednaaGreatDoorAiLex1Lex2
set_option maxRecDepth 100000
set_option linter.unusedSimpArgs false
set_option linter.unusedVariables false
set_option linter.unusedSectionVars false
namespace Go.Ai.Z
open Go.Lib (itoa)
def psO (T : List Tok) (i : Nat) (m : AV) : HObj := .cells [.sl (T.map encTok), .i .i64 i, m]
section
variable (T : List Tok) (hT : T.length ≤ 100000) (i : Nat) (m : AV) (hm1 : m.plain = m) (s : St) (l : Nat) (hs : s[l]? = some (psO T i m)) (k : Int) (t : List UInt8) (a : Nat) (hi : T[i]? = some (k, t, a))
include hT hs hi
theorem c_token (cx : Ctx) : acallW P0 (.fn (.func F_syntax_parser_token) [] []) [.pt l 0] s cx = .ret (encTok (k, t, a)) s := by
 have hlt : i < T.length := (List.getElem?_eq_some_iff.1 hi).1
 have h1 : (T.map encTok)[i]? = some (encTok (k, t, a)) := by rw [List.getElem?_map, hi]; rfl
 refine go_syntax_parser_token (by simp) ?_
 unfold psO at hs
 simp [callFnW, ir_syntax_parser_token, hs, hi, encTok]
theorem c_is (w : List UInt8) (cx : Ctx) : acallW P0 (.fn (.func F_syntax_parser_is) [] []) [.pt l 0, .s w] s cx = .ret (.b (t == w)) s := by
 have h1 := c_token T hT i m s l hs k t a hi
 refine go_syntax_parser_is (by simp) ?_
 simp [callFnW, ir_syntax_parser_is, h1, encTok]
theorem c_skip_no (w : List UInt8) (hw : t ≠ w) (cx : Ctx) : acallW P0 (.fn (.func F_syntax_parser_skip) [] []) [.pt l 0, .s w] s cx = .ret (.b false) s := by
 have h1 := c_is T hT i m s l hs k t a hi w
 refine go_syntax_parser_skip (by simp) ?_
 simp [callFnW, ir_syntax_parser_skip, h1, hw]
theorem c_skip_yes (cx : Ctx) (hl : cx.lim ≤ l) : acallW P0 (.fn (.func F_syntax_parser_skip) [] []) [.pt l 0, .s t] s cx = .ret (.b true) (s.set l (psO T (i + 1) m)) := by
 have h1 := c_is T hT i m s l hs k t a hi t
 have hlt : i < T.length := (List.getElem?_eq_some_iff.1 hi).1
 have hwi := wI (i := i) (by omega)
 refine go_syntax_parser_skip (by simp) ?_
 unfold psO at hs ⊢
 simp [callFnW, ir_syntax_parser_skip, h1, hs, hwi, hl, splice]
theorem c_want (cx : Ctx) (hl : cx.lim ≤ l) : acallW P0 (.fn (.func F_syntax_parser_want) [] []) [.pt l 0, .s t] s cx = .ret (.tu []) (s.set l (psO T (i + 1) m)) := by
 have h1 := c_skip_yes T hT i m s l hs k t a hi ⟨cx.lim, s.length⟩ hl
 refine go_syntax_parser_want (by simp) ?_
 simp [callFnW, ir_syntax_parser_want, h1]
theorem c_atName (cx : Ctx) : acallW P0 (.fn (.func F_syntax_parser_atName) [] []) [.pt l 0] s cx = .ret (.b (decide (k = 1) && !kwS t)) s := by
 have h1 := c_token T hT i m s l hs k t a hi
 refine go_syntax_parser_atName (by simp) ?_
 by_cases hk : k = 1
 ·simp [callFnW, ir_syntax_parser_atName, h1, encTok, hk]
 ·simp [callFnW, ir_syntax_parser_atName, h1, encTok, hk]
end
theorem c_CheckName_plain (t : List UInt8) (h : plainS t = true) (s : St) (cx : Ctx) : acallW P0 (.fn (.func F_terms_CheckName) [] []) [.s t] s cx = .ret (.i .i64 0) s := by
 refine go_terms_CheckName (by simp) ?_
 simp [callFnW, ir_terms_CheckName, h]
theorem c_Atoi (t : List UInt8) (n : Int) (h : Go.Lib.atoi t = some n) (hl : t.length ≤ 18) (s : St) (cx : Ctx) : acallW P0 (.fn (.func F_strconv_Atoi) [] []) [.s t] s cx = .ret (.tu [.i .i64 n, .ni]) s :=
 acallW_intrS (h := pureI iAtoi) rfl (by simp [iAtoi, h, hl])
section
variable (T : List Tok) (hT : T.length ≤ 100000) (i : Nat) (m : AV) (s : St) (l : Nat) (hs : s[l]? = some (psO T i m)) (k : Int) (t : List UInt8) (a : Nat) (hi : T[i]? = some (k, t, a))
include hT hs hi
theorem c_name (hk : k = 1) (hp : plainS t = true) (cx : Ctx) (hl : cx.lim ≤ l) : acallW P0 (.fn (.func F_syntax_parser_name) [] []) [.pt l 0] s cx = .ret (.s t) (s.set l (psO T (i + 1) m)) := by
 have h1 := c_token T hT i m s l hs k t a hi
 have h2 := c_atName T hT i m s l hs k t a hi
 have hlt : i < T.length := (List.getElem?_eq_some_iff.1 hi).1
 have hwi := wI (i := i) (by omega)
 have hkw := (plain_name hp).kw
 have h3 := c_CheckName_plain t hp
 obtain ⟨b, r, hbr⟩ : ∃ b r, t = b :: r := by
  cases t with
  | nil => exact absurd rfl (plain_name hp).ne
  | cons b r => exact ⟨b, r, rfl⟩
 have hb : ¬ ((b.toNat : Int) = 95) := by
  have h4 : ltrB b = true := by
   unfold plainS at hp
   rw [Bool.and_eq_true] at hp
   have h5 := hp.2
   rw [hbr] at h5
   unfold cutB at h5
   by_cases hb58 : b = 58
   ·rw [if_pos hb58] at h5
    simp [wordS] at h5
   ·rw [if_neg hb58] at h5
    cases hc : cutB 58 r with
    | none => rw [hc] at h5; simp [wordS] at h5; exact h5.1.1
    | some p => rw [hc] at h5; simp [wordS] at h5; exact h5.1.1.1
  intro h6
  unfold ltrB at h4
  rw [h6] at h4
  exact absurd h4 (by decide)
 refine go_syntax_parser_name (by simp) ?_
 unfold psO at hs ⊢
 subst hk
 rw [hbr] at h1 h2 h3 hkw ⊢
 simp [callFnW, ir_syntax_parser_name, h1, h2, h3, hkw, hs, hwi, hl, splice, encTok, hb]
theorem c_number (hk : k = 2) (n least : Int) (hn : Go.Lib.atoi t = some n) (ht : t.length ≤ 18) (h1 : least ≤ n) (h2 : n ≤ 1099511627776) (cx : Ctx) (hl : cx.lim ≤ l) :
  acallW P0 (.fn (.func F_syntax_parser_number) [] []) [.pt l 0, .i .i64 least] s cx = .ret (.i .i64 n) (s.set l (psO T (i + 1) m)) := by
 have h3 := c_token T hT i m s l hs k t a hi
 have hlt : i < T.length := (List.getElem?_eq_some_iff.1 hi).1
 have hwi := wI (i := i) (by omega)
 have h4 := c_Atoi t n hn ht
 have q1 : ¬ (1099511627776 : Int) < n := by omega
 have q2 : ¬ n < least := by omega
 refine go_syntax_parser_number (by simp) ?_
 unfold psO at hs ⊢
 subst hk
 simp [callFnW, ir_syntax_parser_number, h3, h4, hs, hwi, hl, splice, encTok, q1, q2, nilK]
end
end Go.Ai.Z
namespace Go.Ai.Z
open Go.Lib (itoa decDigits)
def pcC : C → C
 | .mk k n l h _ ps => .mk k n l h true (pcL ps)
where pcL : List C → List C
 | [] => []
 | p :: r => pcC p :: pcL r
theorem pcL_eq : ∀ l : List C, pcC.pcL l = l.map pcC
 | [] => rfl
 | p :: r => by simp [pcC.pcL, pcL_eq r]
theorem pcC_eq (c : C) : pcC c = .mk c.kind c.name c.lo c.hi true (c.parts.map pcC) := by
 cases c; simp [pcC, pcL_eq, C.kind, C.name, C.lo, C.hi, C.parts]
theorem nz_pcC : ∀ c : C, nz (pcC c) = nz c := by
 refine C.ind' fun c ih => ?_
 have h : (c.parts.map pcC).map nz = c.parts.map nz := by
  rw [List.map_map]
  exact List.map_congr_left (fun x hx => ih x hx)
 rw [nz_eq (pcC c), nz_eq c, pcC_eq]
 simp only [C.kind, C.name, C.lo, C.hi, C.parts] at h ⊢
 rw [h]
def At (T : List Tok) (i : Nat) (R : List Tk) : Prop := (T.drop i).map (fun t => (t.1, t.2.1)) = R
theorem At.head {T : List Tok} {i : Nat} {x : Tk} {R : List Tk} (h : At T i (x :: R)) : (∃ a, T[i]? = some (x.1, x.2, a)) ∧ At T (i + 1) R := by
 unfold At at h ⊢
 cases hd : T.drop i with
 | nil => rw [hd] at h; simp at h
 | cons y r =>
  rw [hd] at h
  simp only [List.map_cons, List.cons.injEq] at h
  have h1 : T[i]? = some y := by
   have : (T.drop i)[0]? = some y := by rw [hd]; rfl
   simpa using this
  have h2 : T.drop (i + 1) = r := by rw [← List.drop_drop, hd]; rfl
  obtain ⟨y1, y2, y3⟩ := y
  refine ⟨⟨y3, ?_⟩, by rw [h2]; exact h.2⟩
  rw [h1, ← h.1]
def Hd (R : List Tk) (w : List UInt8) : Prop := ∃ x R', R = x :: R' ∧ x.2 ≠ w
structure PEnv (T : List Tok) (m : AV) (S : Nat → St) (l N : Nat) : Prop where
 len : T.length ≤ 100000
 cell : ∀ j, (S j)[l]? = some (psO T j m)
 sets : ∀ j k, (S j).set l (psO T k m) = S k
 n : ∀ j, (S j).length = N
def inB : List UInt8 := [105, 110]
def andW : List UInt8 := [97, 110, 100]
def SingleOK (c : C) : Prop := ∀ (T : List Tok) (m : AV) (S : Nat → St) (l N : Nat), PEnv T m S l N → ∀ (i : Nat) (R : List Tk), At T i (otk c ++ R) → Hd R inB → ∀ cx : Ctx, cx.lim ≤ l →
 acallW P0 (.fn (.func F_syntax_parser_single) [] []) [.pt l 0] (S i) cx = .ret (encC (pcC c)) (S (i + (otk c).length))
def ConceptOK (c : C) : Prop := ∀ (T : List Tok) (m : AV) (S : Nat → St) (l N : Nat), PEnv T m S l N → ∀ (i : Nat) (R : List Tk), At T i (ctk c ++ R) → Hd R inB → Hd R andW → ∀ cx : Ctx, cx.lim ≤ l →
 acallW P0 (.fn (.func F_syntax_parser_concept) [] []) [.pt l 0] (S i) cx = .ret (encC (pcC c)) (S (i + (ctk c).length))
section
variable {T : List Tok} {m : AV} {S : Nat → St} {l N : Nat} (hE : PEnv T m S l N) {i : Nat} {x : Tk} {R : List Tk} (h : At T i (x :: R))
include hE h
theorem p_skip_no (w : List UInt8) (hw : x.2 ≠ w) (cx : Ctx) : acallW P0 (.fn (.func F_syntax_parser_skip) [] []) [.pt l 0, .s w] (S i) cx = .ret (.b false) (S i) := by
 obtain ⟨⟨a, ha⟩, _⟩ := h.head
 exact c_skip_no T hE.len i m (S i) l (hE.cell i) x.1 x.2 a ha w hw cx
theorem p_skip_yes (cx : Ctx) (hl : cx.lim ≤ l) : acallW P0 (.fn (.func F_syntax_parser_skip) [] []) [.pt l 0, .s x.2] (S i) cx = .ret (.b true) (S (i + 1)) := by
 obtain ⟨⟨a, ha⟩, _⟩ := h.head
 have := c_skip_yes T hE.len i m (S i) l (hE.cell i) x.1 x.2 a ha cx hl
 rwa [hE.sets] at this
theorem p_want (cx : Ctx) (hl : cx.lim ≤ l) : acallW P0 (.fn (.func F_syntax_parser_want) [] []) [.pt l 0, .s x.2] (S i) cx = .ret (.tu []) (S (i + 1)) := by
 obtain ⟨⟨a, ha⟩, _⟩ := h.head
 have := c_want T hE.len i m (S i) l (hE.cell i) x.1 x.2 a ha cx hl
 rwa [hE.sets] at this
theorem p_name (hk : x.1 = 1) (hp : plainS x.2 = true) (cx : Ctx) (hl : cx.lim ≤ l) : acallW P0 (.fn (.func F_syntax_parser_name) [] []) [.pt l 0] (S i) cx = .ret (.s x.2) (S (i + 1)) := by
 obtain ⟨⟨a, ha⟩, _⟩ := h.head
 have := c_name T hE.len i m (S i) l (hE.cell i) x.1 x.2 a ha hk hp cx hl
 rwa [hE.sets] at this
theorem p_number (hk : x.1 = 2) (n least : Int) (hn : Go.Lib.atoi x.2 = some n) (ht : x.2.length ≤ 18) (h1 : least ≤ n) (h2 : n ≤ 1099511627776) (cx : Ctx) (hl : cx.lim ≤ l) :
  acallW P0 (.fn (.func F_syntax_parser_number) [] []) [.pt l 0, .i .i64 least] (S i) cx = .ret (.i .i64 n) (S (i + 1)) := by
 obtain ⟨⟨a, ha⟩, _⟩ := h.head
 have := c_number T hE.len i m (S i) l (hE.cell i) x.1 x.2 a ha hk n least hn ht h1 h2 cx hl
 rwa [hE.sets] at this
end
theorem name_ne {t w : List UInt8} (hp : plainS t = true) (hw : kwS w = true ∨ ∃ b, w = [b] ∧ nameB b = false) : t ≠ w := by
 rintro rfl
 rcases hw with hw | ⟨b, rfl, hb⟩
 ·rw [(plain_name hp).kw] at hw; cases hw
 ·have := (plain_name hp).bytes b (by simp)
  rw [hb] at this; cases this
theorem single_and {c : C} (k5 : c.kind = 5) (hc : ConceptOK c) : SingleOK c := by
 intro T m S l N hE i R hA hR cx hl
 have ho : otk c = (3, [40]) :: (ctk c ++ [(3, [41])]) := by unfold otk; rw [if_pos k5]
 rw [ho] at hA ⊢
 simp only [List.cons_append, List.append_assoc, List.nil_append] at hA
 have h1 := hA.head.2
 have e1 := p_skip_no hE hA [101, 118, 101, 114, 121, 116, 104, 105, 110, 103] (by decide)
 have e2 := p_skip_no hE hA [110, 111, 116, 104, 105, 110, 103] (by decide)
 have e3 := p_skip_no hE hA [123] (by decide)
 have e4 := p_skip_no hE hA [115, 111, 109, 101] (by decide)
 have e5 := p_skip_yes hE hA ⟨cx.lim, (S i).length⟩ hl
 have e6 := hc T m S l N hE (i + 1) ((3, [41]) :: R) h1 ⟨_, _, rfl, by decide⟩ ⟨_, _, rfl, by decide⟩ ⟨cx.lim, (S i).length⟩ hl
 have h2 : At T (i + 1 + (ctk c).length) ((3, [41]) :: R) := by
  unfold At at h1 ⊢
  rw [← List.drop_drop, List.map_drop, h1, List.drop_left]
 have e7 := p_want hE h2 ⟨cx.lim, (S i).length⟩ hl
 have hlen : i + 1 + (ctk c).length + 1 = i + ((3, [40]) :: (ctk c ++ [(3, [41])])).length := by simp; omega
 rw [← hlen]
 refine go_syntax_parser_single (by simp) ?_
 have hN := hE.n
 simp only [hN] at e5 e6 e7
 simp [callFnW, ir_syntax_parser_single, hN, e1, e2, e3, e4, e5, e6, e7]
theorem concept_single {c : C} (k5 : c.kind ≠ 5) (hc : SingleOK c) : ConceptOK c := by
 intro T m S l N hE i R hA hR hR2 cx hl
 have ho : otk c = ctk c := by unfold otk; rw [if_neg k5]
 have e1 := hc T m S l N hE i R (by rw [ho]; exact hA) hR ⟨cx.lim, (S i).length⟩ hl
 rw [ho] at e1
 obtain ⟨x, R', hx, hxw⟩ := hR2
 have h2 : At T (i + (ctk c).length) (x :: R') := by
  unfold At at hA ⊢
  rw [← List.drop_drop, List.map_drop, hA, List.drop_left, hx]
 have e2 := p_skip_no hE h2 [97, 110, 100] hxw
 have hN := hE.n
 simp only [hN] at e1
 refine go_syntax_parser_concept (by simp) ?_
 have hloop : loopW (acodeW P0.glob (acallW P0) ⟨cx.lim, N⟩ false ir_syntax_parser_concept_L0) [0, 2, 3]
   [(0, .v (.pt l 0)), (2, .bx [.i .i64 0, .s [], .i .i64 0, .i .i64 0, .ns]), (3, .own false T_api_Concept_1 5 [encC (pcC c)])] (S (i + (ctk c).length)) =
   .exit 0 [(0, .v (.pt l 0)), (2, .bx [.i .i64 0, .s [], .i .i64 0, .i .i64 0, .ns]), (3, .own false T_api_Concept_1 5 [encC (pcC c)]), (8, .v (.b false))] (S (i + (ctk c).length)) :=
  loop_step fun K hK => by simp [ir_syntax_parser_concept_L0, e2]
 simp [callFnW, ir_syntax_parser_concept, hN, e1, hloop, List.range_succ]
end Go.Ai.Z
