/-
 The parser: every printed concept is parsed.
-/
import Derived.Test.YtpnlnnfcaeednaaGreatDoorAiQ1Q2
set_option maxRecDepth 100000
set_option linter.unusedSimpArgs false
set_option linter.unusedVariables false
set_option linter.unusedSectionVars false
namespace Go.Ai.Z
open Go.Ai.Inj
open Go.Lib (itoa decDigits nDigits decFrom decNat digitVal decDigits_length nDigits_small nDigits_big)
theorem digit_val (d : Nat) (h : d < 10) : digitVal (UInt8.ofNat (48 + d)) = some d := by
 unfold digitVal
 have : (UInt8.ofNat (48 + d)).toNat = 48 + d := by simp; omega
 rw [this, if_pos ⟨by omega, by omega⟩]
 congr 1; omega
theorem decFrom_digits : ∀ (u : Nat) (r : List UInt8), decFrom 0 (decDigits u ++ r) = decFrom u r := by
 intro u
 induction u using Nat.strongRecOn with
 | _ u ih =>
  intro r
  rw [decDigits]
  split
  ·rename_i h
   simp only [List.cons_append, List.nil_append, decFrom, digit_val u h]
   simp
  ·rename_i h
   rw [List.append_assoc, ih (u / 10) (by omega)]
   simp only [List.cons_append, List.nil_append, decFrom, digit_val (u % 10) (by omega)]
   congr 1; omega
theorem decNat_digits (u : Nat) : decNat (decDigits u) = some u := by
 have h := decFrom_digits u []
 rw [List.append_nil] at h
 have hne : (decDigits u).isEmpty = false := by
  cases hd : decDigits u with
  | nil => have := decDigits_length u; rw [hd] at this; have := Go.Lib.nDigits_pos u; simp at *; omega
  | cons b r => rfl
 unfold decNat
 rw [hne]
 simpa [decFrom] using h
theorem nDigits_le : ∀ (k u : Nat), 1 ≤ k → u < 10 ^ k → nDigits u ≤ k
 | 0, u, h, _ => by omega
 | k + 1, u, _, h => by
  by_cases hu : u < 10
  ·rw [nDigits_small hu]; omega
  ·rw [nDigits_big hu]
   cases k with
   | zero => simp at h; omega
   | succ k =>
    have := nDigits_le (k + 1) (u / 10) (by omega) (by rw [Nat.pow_succ] at h; omega)
    omega
theorem atoi_itoa (n : Int) (h1 : -1099511627776 ≤ n) (h2 : n ≤ 1099511627776) : Go.Lib.atoi (itoa n) = some n ∧ (itoa n).length ≤ 18 := by
 have hd : ∀ u : Nat, u ≤ 1099511627776 → (decDigits u).length ≤ 17 := fun u hu => by
  rw [decDigits_length]; exact nDigits_le 17 u (by omega) (by omega)
 unfold itoa
 by_cases hn : n < 0
 ·rw [if_pos hn]
  have := hd n.natAbs (by omega)
  refine ⟨?_, by simp; omega⟩
  simp only [Go.Lib.atoi, beq_self_eq_true, if_true, decNat_digits, Option.map_some, Option.some.injEq]
  omega
 ·rw [if_neg hn]
  have hl := hd n.toNat (by omega)
  refine ⟨?_, by omega⟩
  have hdn := decNat_digits n.toNat
  cases he : decDigits n.toNat with
  | nil => rw [he] at hdn; simp [decNat] at hdn
  | cons b r =>
   rw [he] at hdn
   have hb := dec_digits n.toNat b (by rw [he]; simp)
   have b1 : (b == 45) = false := by cases hq : (b == 45) with
    | false => rfl
    | true => rw [beq_iff_eq] at hq; subst hq; exact absurd hb (by decide)
   have b2 : (b == 43) = false := by cases hq : (b == 43) with
    | false => rfl
    | true => rw [beq_iff_eq] at hq; subst hq; exact absurd hb (by decide)
   simp only [Go.Lib.atoi, b1, b2, hdn, Option.map_some, Bool.false_eq_true, if_false, Option.some.injEq]
   omega
theorem joinA_cons (a : List Tk) : ∀ l : List (List Tk), joinA (a :: l) = a ++ l.flatMap (fun b => andT :: b)
 | [] => by simp [joinA]
 | b :: r => by rw [joinA, joinA_cons b r]; simp
theorem l_concept {T : List Tok} {m : AV} {S : Nat → St} {l N : Nat} (hE : PEnv T m S l N) (lim : Nat) (hl : lim ≤ l) (R : List Tk) (hR : Hd R inB) (hR2 : Hd R andW) :
  ∀ (rest : List C) (hs : ∀ p ∈ rest, SingleOK p) (acc : List C) (hacc : acc.length + rest.length ≤ 1000) (i : Nat), At T i (rest.flatMap (fun p => andT :: otk p) ++ R) →
  loopW (acodeW P0.glob (acallW P0) ⟨lim, N⟩ false ir_syntax_parser_concept_L0) [0, 2, 3]
   [(0, .v (.pt l 0)), (2, .bx z5), (3, .own false T_api_Concept_1 5 (acc.map fun p => encC (pcC p)))] (S i) =
   .exit 0 [(0, .v (.pt l 0)), (2, .bx z5), (3, .own false T_api_Concept_1 5 ((acc ++ rest).map fun p => encC (pcC p))), (8, .v (.b false))] (S (i + (rest.flatMap (fun p => andT :: otk p)).length))
 | [], _, acc, hacc, i, hA => by
  obtain ⟨x, R', hx, hxw⟩ := hR2
  rw [hx] at hA
  have e2 := p_skip_no hE hA [97, 110, 100] hxw
  refine loop_step fun K hK => ?_
  simp [ir_syntax_parser_concept_L0, z5, e2]
 | p :: r, hs, acc, hacc, i, hA => by
  simp only [List.flatMap_cons, List.cons_append, List.append_assoc] at hA
  have e1 := p_skip_yes hE hA ⟨lim, N⟩ hl
  have h1 := hA.head.2
  have hR' : Hd (r.flatMap (fun p => andT :: otk p) ++ R) inB := by
   cases r with
   | nil => exact hR
   | cons q r => exact ⟨andT, _, rfl, by decide⟩
  have e2 := hs p (by simp) T m S l N hE (i + 1) _ h1 hR' ⟨lim, N⟩ hl
  have h2 : At T (i + 1 + (otk p).length) (r.flatMap (fun p => andT :: otk p) ++ R) := by
   unfold At at h1 ⊢
   rw [← List.drop_drop, List.map_drop, h1, List.drop_left]
  have ih := l_concept hE lim hl R hR hR2 r (fun q hq => hs q (by simp [hq])) (acc ++ [p]) (by simp at hacc ⊢; omega) _ h2
  have hlen : i + 1 + (otk p).length + (r.flatMap (fun p => andT :: otk p)).length = i + ((p :: r).flatMap (fun p => andT :: otk p)).length := by simp; omega
  rw [hlen] at ih
  rw [show acc ++ [p] ++ r = acc ++ p :: r by simp] at ih
  refine loop_step fun K hK => ?_
  rw [← hK] at ih
  have hm : acc.length + 1 ≤ maxSl := by simp at hacc; unfold maxSl; omega
  generalize hW : (acc ++ p :: r).map (fun p => encC (pcC p)) = W at ih ⊢
  generalize i + ((p :: r).flatMap (fun p => andT :: otk p)).length = J at ih ⊢
  have e1' : acallW P0 (.fn (.func F_syntax_parser_skip) [] []) [.pt l 0, .s [97, 110, 100]] (S i) ⟨lim, N⟩ = .ret (.b true) (S (i + 1)) := e1
  clear hK e1
  simp [z5] at ih
  simp [ir_syntax_parser_concept_L0, z5, e1', e2, hm, List.range_succ]
  exact ih
theorem concept_and {c : C} (hv : walkS c = 0) (k5 : c.kind = 5) (hs : ∀ p ∈ c.parts, SingleOK p) : ConceptOK c := by
 intro T m S l N hE i R hA hR hR2 cx hl
 obtain ⟨v1, v2, v3⟩ := walk_ok hv
 have hk : c.name = [] ∧ c.lo = 0 ∧ c.hi = 0 ∧ 2 ≤ c.parts.length ∧ c.parts.length ≤ 8 := by
  simp [shapeS, k5] at v1
  exact ⟨v1.1.1.2, v1.1.1.1.1, v1.1.1.1.2, by omega, by omega⟩
 obtain ⟨q1, q2, q3, q4, q5⟩ := hk
 have hct : ctk c = joinA (c.parts.map otk) := by
  rw [ctk_eq]; simp [k5]
 obtain ⟨p, r, hp⟩ : ∃ p r, c.parts = p :: r := by
  cases h : c.parts with
  | nil => rw [h] at q4; simp at q4
  | cons p r => exact ⟨p, r, rfl⟩
 have hfm : (r.map otk).flatMap (fun b => andT :: b) = r.flatMap (fun p => andT :: otk p) := by rw [List.flatMap_map]
 rw [hct, hp, List.map_cons, joinA_cons, hfm] at hA ⊢
 rw [List.append_assoc] at hA
 have hR' : Hd (r.flatMap (fun p => andT :: otk p) ++ R) inB := by
  cases r with
  | nil => exact hR
  | cons q r => exact ⟨andT, _, rfl, by decide⟩
 have e1 := hs p (by rw [hp]; simp) T m S l N hE i _ hA hR' ⟨cx.lim, N⟩ hl
 have h2 : At T (i + (otk p).length) (r.flatMap (fun p => andT :: otk p) ++ R) := by
  unfold At at hA ⊢
  rw [← List.drop_drop, List.map_drop, hA, List.drop_left]
 have e2 := l_concept hE cx.lim hl R hR hR2 r (fun q hq => hs q (by rw [hp]; simp [hq])) [p] (by rw [hp] at q5; simp at q5 ⊢; omega) _ h2
 have hlen : i + (otk p).length + (r.flatMap (fun p => andT :: otk p)).length = i + (otk p ++ r.flatMap (fun p => andT :: otk p)).length := by simp; omega
 rw [hlen] at e2
 have hrl : ¬ (r.length = 0) := by rw [hp] at q4; simp at q4; omega
 have hpc : encC (pcC c) = .ag [.i .i64 5, .s [], .i .i64 0, .i .i64 0, .sl (encC (pcC p) :: r.map fun p => encC (pcC p))] := by
  rw [pcC_eq, k5, q1, q2, q3, hp, encC_eq]
  simp [C.kind, C.name, C.lo, C.hi, C.z, C.parts]
 rw [hpc]
 generalize i + (otk p ++ r.flatMap (fun p => andT :: otk p)).length = J at e2 ⊢
 have hN := hE.n
 refine go_syntax_parser_concept (by simp) ?_
 simp [z5] at e2
 have hnl : ¬ (r.length : Int) + 1 = 1 := by omega
 have hnl2 : ¬ r = [] := by intro h; rw [h] at hrl; exact hrl rfl
 simp [callFnW, ir_syntax_parser_concept, hN, e1, e2, hnl, hnl2, List.range_succ, fillC, splice]
theorem enc_leaf (k : Int) (n : List UInt8) (lo hi : Int) : encC (.mk k n lo hi true []) = .ag [.i .i64 k, .s n, .i .i64 lo, .i .i64 hi, .ns] := by
 rw [encC_eq]; simp [C.kind, C.name, C.lo, C.hi, C.z, C.parts]
inductive PlainC : C → Prop where
 | mk (c : C) (h : c.kind = 4 → plainS c.name = true) (hp : ∀ p ∈ c.parts, PlainC p) : PlainC c
theorem single_leaf {c : C} (hv : walkS c = 0) (hpl : PlainC c) (k5 : c.kind ≠ 5) (hs : ∀ p ∈ c.parts, SingleOK p) : SingleOK c := by
 intro T m S l N hE i R hA hR cx hl
 obtain ⟨v1, v2, v3⟩ := walk_ok hv
 have ho : otk c = ctk c := by unfold otk; rw [if_neg k5]
 rw [ho] at hA ⊢
 have hN := hE.n
 have hkd := shape_kind v1
 have w1 : kwS [101, 118, 101, 114, 121, 116, 104, 105, 110, 103] = true := by decide
 have w2 : kwS [110, 111, 116, 104, 105, 110, 103] = true := by decide
 have w3 : kwS [115, 111, 109, 101] = true := by decide
 have names : ∀ {n : List UInt8} {R : List Tk} {j : Nat}, plainS n = true → At T j ((1, n) :: R) → (∀ cx, acallW P0 (.fn (.func F_syntax_parser_skip) [] []) [.pt l 0, .s [101, 118, 101, 114, 121, 116, 104, 105, 110, 103]] (S j) cx = .ret (.b false) (S j)) ∧
   (∀ cx, acallW P0 (.fn (.func F_syntax_parser_skip) [] []) [.pt l 0, .s [110, 111, 116, 104, 105, 110, 103]] (S j) cx = .ret (.b false) (S j)) ∧
   (∀ cx, acallW P0 (.fn (.func F_syntax_parser_skip) [] []) [.pt l 0, .s [123]] (S j) cx = .ret (.b false) (S j)) ∧
   (∀ cx, acallW P0 (.fn (.func F_syntax_parser_skip) [] []) [.pt l 0, .s [115, 111, 109, 101]] (S j) cx = .ret (.b false) (S j)) ∧
   (∀ cx, acallW P0 (.fn (.func F_syntax_parser_skip) [] []) [.pt l 0, .s [40]] (S j) cx = .ret (.b false) (S j)) := by
  intro n R j hp h
  exact ⟨p_skip_no hE h _ (name_ne hp (.inl w1)), p_skip_no hE h _ (name_ne hp (.inl w2)), p_skip_no hE h _ (name_ne hp (.inr ⟨123, rfl, by decide⟩)), p_skip_no hE h _ (name_ne hp (.inl w3)), p_skip_no hE h _ (name_ne hp (.inr ⟨40, rfl, by decide⟩))⟩
 have hct := ctk_eq c
 have hpc := pcC_eq c
 rcases hkd with k | k | k | k | ⟨k, k1, k2, k3⟩ | ⟨k, k1⟩ | ⟨k, k1⟩
 ·-- everything
  simp [k] at hct
  have hsh : c.name = [] ∧ c.lo = 0 ∧ c.hi = 0 ∧ c.parts = [] := by
   simp [shapeS, k] at v1; exact ⟨v1.1.2, v1.1.1.1, v1.1.1.2, by simpa using v1.2⟩
  obtain ⟨q1, q2, q3, q4⟩ := hsh
  rw [hct] at hA ⊢
  rw [k, q1, q2, q3, q4] at hpc
  have e1 := p_skip_yes hE hA ⟨cx.lim, N⟩ hl
  refine go_syntax_parser_single (by simp) ?_
  rw [hpc, List.map_nil, enc_leaf]
  have e1' : acallW P0 (.fn (.func F_syntax_parser_skip) [] []) [.pt l 0, .s [101, 118, 101, 114, 121, 116, 104, 105, 110, 103]] (S i) ⟨cx.lim, N⟩ = .ret (.b true) (S (i + 1)) := e1
  simp [callFnW, ir_syntax_parser_single, hN, e1', fillC, splice]
 ·-- nothing
  simp [k] at hct
  have hsh : c.name = [] ∧ c.lo = 0 ∧ c.hi = 0 ∧ c.parts = [] := by
   simp [shapeS, k] at v1; exact ⟨v1.1.2, v1.1.1.1, v1.1.1.2, by simpa using v1.2⟩
  obtain ⟨q1, q2, q3, q4⟩ := hsh
  rw [hct] at hA ⊢
  rw [k, q1, q2, q3, q4] at hpc
  have e0 := p_skip_no hE hA [101, 118, 101, 114, 121, 116, 104, 105, 110, 103] (by decide)
  have e1 := p_skip_yes hE hA ⟨cx.lim, N⟩ hl
  refine go_syntax_parser_single (by simp) ?_
  rw [hpc, List.map_nil, enc_leaf]
  have e1' : acallW P0 (.fn (.func F_syntax_parser_skip) [] []) [.pt l 0, .s [110, 111, 116, 104, 105, 110, 103]] (S i) ⟨cx.lim, N⟩ = .ret (.b true) (S (i + 1)) := e1
  simp [callFnW, ir_syntax_parser_single, hN, e0, e1', fillC, splice]
 ·-- a name
  simp [k] at hct
  have hsh : c.lo = 0 ∧ c.hi = 0 ∧ c.parts = [] := by
   simp [shapeS, k] at v1; exact ⟨v1.1.1, v1.1.2, by simpa using v1.2⟩
  obtain ⟨q2, q3, q4⟩ := hsh
  have hn : plainS c.name = true := by simpa [namedS, k] using v2
  rw [hct] at hA ⊢
  rw [k, q2, q3, q4] at hpc
  obtain ⟨e1, e2, e3, e4, e5⟩ := names hn hA
  have e6 := p_name hE hA rfl hn ⟨cx.lim, N⟩ hl
  obtain ⟨x, R', hx, hxw⟩ := hR
  have h2 : At T (i + 1) (x :: R') := by have := hA.head.2; rw [hx] at this; exact this
  have e7 := p_skip_no hE h2 [105, 110] hxw
  refine go_syntax_parser_single (by simp) ?_
  rw [hpc, List.map_nil, enc_leaf]
  simp at e6
  simp [callFnW, ir_syntax_parser_single, hN, e1, e2, e3, e4, e5, e6, e7, fillC, splice]
 ·-- an individual
  simp [k] at hct
  have hsh : c.lo = 0 ∧ c.hi = 0 ∧ c.parts = [] := by
   simp [shapeS, k] at v1; exact ⟨v1.1.1, v1.1.2, by simpa using v1.2⟩
  obtain ⟨q2, q3, q4⟩ := hsh
  have hn : plainS c.name = true := by cases hpl with | mk _ h _ => exact h k
  rw [hct] at hA ⊢
  rw [k, q2, q3, q4] at hpc
  simp only [List.cons_append, List.nil_append] at hA
  have e1 := p_skip_no hE hA [101, 118, 101, 114, 121, 116, 104, 105, 110, 103] (by decide)
  have e2 := p_skip_no hE hA [110, 111, 116, 104, 105, 110, 103] (by decide)
  have e3 := p_skip_yes hE hA ⟨cx.lim, N⟩ hl
  have e6 := p_name hE hA.head.2 rfl hn ⟨cx.lim, N⟩ hl
  have e7 := p_want hE hA.head.2.head.2 ⟨cx.lim, N⟩ hl
  refine go_syntax_parser_single (by simp) ?_
  rw [hpc, List.map_nil, enc_leaf]
  simp at e3 e6 e7
  simp [callFnW, ir_syntax_parser_single, hN, e1, e2, e3, e6, e7, fillC, splice]
 ·-- a range
  simp [k] at hct
  have hsh : c.parts = [] := by
   simp [shapeS, k] at v1; simpa using v1.1.1.1
  have hn : plainS c.name = true := by simpa [namedS, k] using v2
  rw [hct] at hA ⊢
  rw [k, hsh] at hpc
  simp only [List.cons_append, List.nil_append] at hA
  obtain ⟨e1, e2, e3, e4, e5⟩ := names hn hA
  have h1 := hA.head.2
  have h2 := h1.head.2
  have h3 := h2.head.2
  have h4 := h3.head.2
  obtain ⟨a1, a2⟩ := atoi_itoa c.lo k1 (by omega)
  obtain ⟨a3, a4⟩ := atoi_itoa c.hi (by omega) k3
  have e6 := p_name hE hA rfl hn ⟨cx.lim, N⟩ hl
  have e7 := p_skip_yes hE h1 ⟨cx.lim, N⟩ hl
  have e8 := p_number hE h2 rfl c.lo (-1099511627776) a1 a2 k1 (by omega) ⟨cx.lim, N⟩ hl
  have e9 := p_want hE h3 ⟨cx.lim, N⟩ hl
  have e10 := p_number hE h4 rfl c.hi c.lo a3 a4 k2 k3 ⟨cx.lim, N⟩ hl
  refine go_syntax_parser_single (by simp) ?_
  rw [hpc, List.map_nil, enc_leaf]
  simp at e6 e7 e8 e9 e10
  simp [callFnW, ir_syntax_parser_single, hN, e1, e2, e3, e4, e5, e6, e7, e8, e9, e10, fillC, splice]
 ·-- some
  simp [k] at hct
  have hsh : c.lo = 0 ∧ c.hi = 0 := by simp [shapeS, k] at v1; exact v1.1
  obtain ⟨q2, q3⟩ := hsh
  have hn : plainS c.name = true := by simpa [namedS, k] using v2
  obtain ⟨p, hp⟩ := List.length_eq_one_iff.1 k1
  have hct' : ctk c = (1, [115, 111, 109, 101]) :: (1, c.name) :: otk p := by rw [hct, hp]; rfl
  rw [hct'] at hA ⊢
  rw [k, q2, q3, hp] at hpc
  simp only [List.cons_append] at hA
  have e1 := p_skip_no hE hA [101, 118, 101, 114, 121, 116, 104, 105, 110, 103] (by decide)
  have e2 := p_skip_no hE hA [110, 111, 116, 104, 105, 110, 103] (by decide)
  have e3 := p_skip_no hE hA [123] (by decide)
  have e4 := p_skip_yes hE hA ⟨cx.lim, N⟩ hl
  have e5 := p_name hE hA.head.2 rfl hn ⟨cx.lim, N⟩ hl
  have e6 := hs p (by rw [hp]; simp) T m S l N hE (i + 1 + 1) R hA.head.2.head.2 hR ⟨cx.lim, N⟩ hl
  have hlen : i + 1 + 1 + (otk p).length = i + ((1, [115, 111, 109, 101]) :: (1, c.name) :: otk p : List Tk).length := by simp; omega
  rw [hlen] at e6
  generalize i + ((1, [115, 111, 109, 101]) :: (1, c.name) :: otk p : List Tk).length = J at e6 ⊢
  have hpe : encC (pcC c) = .ag [.i .i64 6, .s c.name, .i .i64 0, .i .i64 0, .sl [encC (pcC p)]] := by
   rw [hpc, encC_eq]; simp [C.kind, C.name, C.lo, C.hi, C.z, C.parts]
  refine go_syntax_parser_single (by simp) ?_
  rw [hpe]
  simp at e4 e5
  simp [callFnW, ir_syntax_parser_single, hN, e1, e2, e3, e4, e5, e6, fillC, splice, List.range_succ]
 ·exact absurd k k5
theorem parses : ∀ c : C, walkS c = 0 → PlainC c → SingleOK c ∧ ConceptOK c := by
 refine C.ind' fun c ih hv hpl => ?_
 obtain ⟨v1, v2, v3⟩ := walk_ok hv
 have hp : ∀ p ∈ c.parts, PlainC p := by cases hpl with | mk _ _ h => exact h
 have hs : ∀ p ∈ c.parts, SingleOK p := fun p hpp => (ih p hpp (v3 p hpp) (hp p hpp)).1
 by_cases k5 : c.kind = 5
 ·have hc := concept_and hv k5 hs
  exact ⟨single_and k5 hc, hc⟩
 ·have h1 := single_leaf hv hpl k5 hs
  exact ⟨h1, concept_single k5 h1⟩
end Go.Ai.Z
namespace Go.Ai.Z
def mapV (l : Nat) : AV := .im [(.s [100, 111, 109, 97, 105, 110], .fn (.func F_syntax_parser_domain) [.pt l 0] []), (.s [114, 111, 108, 101], .fn (.func F_syntax_parser_role) [.pt l 0] []),
 (.s [99, 104, 97, 105, 110], .fn (.func F_syntax_parser_chain) [.pt l 0] []), (.s [114, 101, 102, 108, 101, 120, 105, 118, 101], .fn (.func F_syntax_parser_reflexive) [.pt l 0] []),
 (.s [116, 121, 112, 101], .fn (.func F_syntax_parser_typing) [.pt l 0] []), (.s [108, 105, 110, 107], .fn (.func F_syntax_parser_link) [.pt l 0] [])]
theorem c_newParser (T : List Tok) (s : St) (cx : Ctx) (hl : cx.lim ≤ s.length) (hb : cx.base ≤ s.length) :
  acallW P0 (.fn (.func F_syntax_newParser) [] []) [.sl (T.map encTok)] s cx = .ret (.pt s.length 0) (s ++ [psO T 0 (mapV s.length)]) := by
 refine go_syntax_newParser (by simp) ?_
 simp [callFnW, ir_syntax_newParser, fillC, splice, hl, hb, find, keyK, keyEq, psO, mapV]
theorem c_try (fp : AV) (f : Nat) (as cs : List AV) (hf : fp = .fn (.func f) as cs) (s s' : St) (cx : Ctx) (r : AV) (h : acallW P0 fp [] s cx = .ret r s') :
  acallW P0 (.fn (.func F_syntax_try) [] []) [fp] s cx = .ret (.tu [.ag [.i .i64 0, .i .i64 0], .b false]) s' := by
 subst hf
 refine acallW_hi (A := P0) (k := .tryK (.tu [.ag [.i .i64 0, .i .i64 0], .b false])) rfl rfl (by simp) ?_
 show callHi (acallW P0) (acallW P0.quiet) (.tryK (.tu [.ag [.i .i64 0, .i .i64 0], .b false])) [.fn (.func f) as cs] s cx = _
 unfold callHi
 dsimp only
 rw [h]
end Go.Ai.Z
