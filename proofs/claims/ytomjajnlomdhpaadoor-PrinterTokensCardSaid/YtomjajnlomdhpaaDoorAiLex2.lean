/-
  The tokens of a printed concept.
-/
import Derived.Test.YtomjajnlomdhpaaDoorAiLex1
set_option maxRecDepth 100000
set_option linter.unusedSimpArgs false
set_option linter.unusedVariables false
namespace Go.Ai.Z
open Go.Lib (itoa decDigits)
open Go.Ai.Inj

abbrev Tk := Int × List UInt8
/-- What stands between a token and the one before it. -/
def sep (p : Option (List UInt8)) (t : List UInt8) : List UInt8 :=
  match p with
  | none => []
  | some p => if t = [41] ∨ t = [125] ∨ p = [40] ∨ p = [123] then [] else [32]
def joinT : Option (List UInt8) → List Tk → List UInt8
  | _, [] => []
  | p, t :: r => sep p t.2 ++ (t.2 ++ joinT (some t.2) r)

theorem tail_join (t : List UInt8) (l : List Tk) (h : ∀ x ∈ l, x.2 ≠ []) : Tail (joinT (some t) l) ∨ t = [40] ∨ t = [123] := by
  by_cases h1 : t = [40]
  · exact .inr (.inl h1)
  by_cases h2 : t = [123]
  · exact .inr (.inr h2)
  left
  intro b r e
  cases l with
  | nil => cases e
  | cons y l =>
    simp only [joinT, sep] at e
    split at e
    · rename_i hc
      rcases hc with hc | hc | hc | hc
      · rw [hc] at e; obtain ⟨rfl, -⟩ := List.cons.inj e; exact .inr (.inl rfl)
      · rw [hc] at e; obtain ⟨rfl, -⟩ := List.cons.inj e; exact .inr (.inr rfl)
      · exact absurd hc h1
      · exact absurd hc h2
    · obtain ⟨rfl, -⟩ := List.cons.inj e; exact .inl rfl

theorem lex_join : ∀ (l : List Tk) (p : Option (List UInt8)) (a : Nat), (∀ x ∈ l, IsTok x.1 x.2) → ∃ res : List Tok, lexN (l.length + 1) (joinT p l) a = some res ∧ res.map (fun t => (t.1, t.2.1)) = l ++ [(4, [])]
  | [], p, a, _ => ⟨[(4, [], a)], by simp [joinT, lexN], rfl⟩
  | x :: r, p, a, h => by
    have hx := h x (by simp)
    have hne : ∀ y ∈ r, y.2 ≠ [] := fun y hy => (h y (by simp [hy])).ne
    have hsc := hx.sc (joinT (some x.2) r) (tail_join x.2 r hne)
    obtain ⟨c, q, e⟩ : ∃ c q, x.2 = c :: q := by
      cases hc : x.2 with
      | nil => exact absurd hc hx.ne
      | cons c q => exact ⟨c, q, rfl⟩
    obtain ⟨b1, b2⟩ := hx.b0 c q e
    have hd : (joinT p (x :: r)).dropWhile blkB = c :: (q ++ joinT (some x.2) r) := by
      have hb : blkB c = false := by simp [blkB, b1]
      have h0 : (x.2 ++ joinT (some x.2) r).dropWhile blkB = c :: (q ++ joinT (some x.2) r) := by
        rw [e, List.cons_append, List.dropWhile_cons, hb]; simp
      show (sep p x.2 ++ (x.2 ++ joinT (some x.2) r)).dropWhile blkB = _
      cases p with
      | none => exact h0
      | some p =>
        simp only [sep]
        split
        · exact h0
        · show (32 :: (x.2 ++ joinT (some x.2) r)).dropWhile blkB = _
          rw [List.dropWhile_cons, show blkB 32 = true by decide, if_pos rfl]; exact h0
    have hsc' : scanS (c :: (q ++ joinT (some x.2) r)) = (x.1, x.2.length) := by rw [← List.cons_append, ← e]; exact hsc
    have hdr : (c :: (q ++ joinT (some x.2) r)).drop x.2.length = joinT (some x.2) r := by rw [← List.cons_append, ← e]; exact List.drop_left
    have htk : (c :: (q ++ joinT (some x.2) r)).take x.2.length = x.2 := by rw [← List.cons_append, ← e]; exact List.take_left
    obtain ⟨res, h1, h2⟩ := lex_join r (some x.2) (a + ((joinT p (x :: r)).length - (c :: (q ++ joinT (some x.2) r)).length) + x.2.length) (fun y hy => h y (by simp [hy]))
    refine ⟨(x.1, x.2, a + ((joinT p (x :: r)).length - (c :: (q ++ joinT (some x.2) r)).length)) :: res, ?_, by simp [h2]⟩
    rw [List.length_cons, lexN, hd]
    simp only [b2, if_false, hsc', hx.k0, hdr, htk, h1]
    rfl

/-- How deep one stands behind the tokens, if never below 0. -/
def stepD (d : Int) (t : Tk) : Int :=
  let d := if t.1 = 3 ∧ (t.2 = [40] ∨ t.2 = [123]) then d + 1 else d
  if t.1 = 3 ∧ (t.2 = [41] ∨ t.2 = [125]) then d - 1 else d
def deepT : List Tk → Int → Option Int
  | [], d => some d
  | t :: r, d => if stepD d t < 0 then none else deepT r (stepD d t)

/-- No parenthesis or brace. -/
def Flat (t : List UInt8) : Prop := t ≠ [41] ∧ t ≠ [125] ∧ t ≠ [40] ∧ t ≠ [123]
instance (t : List UInt8) : Decidable (Flat t) := by unfold Flat; infer_instance
/-- These tokens are the tokens of this text. -/
structure Piece (l : List Tk) (x : List UInt8) : Prop where
  tok : ∀ t ∈ l, IsTok t.1 t.2
  bal : ∀ d r, 0 ≤ d → deepT (l ++ r) d = deepT r d
  ne : l ≠ []
  join : ∃ f e, f ≠ [41] ∧ f ≠ [125] ∧ e ≠ [40] ∧ e ≠ [123] ∧ ∀ p r, joinT p (l ++ r) = sep p f ++ (x ++ joinT (some e) r)

theorem Piece.one {k : Int} {t : List UInt8} (h : IsTok k t) (hf : Flat t) : Piece [(k, t)] t := by
  refine ⟨fun y hy => by simp at hy; rw [hy]; exact h, fun d r hd => ?_, by simp, t, t, hf.1, hf.2.1, hf.2.2.1, hf.2.2.2, fun p r => rfl⟩
  have : stepD d (k, t) = d := by simp [stepD, hf.1, hf.2.1, hf.2.2.1, hf.2.2.2]
  simp only [List.cons_append, List.nil_append, deepT, this]
  rw [if_neg (by omega)]
theorem Piece.app {l m : List Tk} {x y : List UInt8} (h : Piece l x) (h' : Piece m y) : Piece (l ++ m) (x ++ 32 :: y) := by
  obtain ⟨f, e, f1, f2, e1, e2, hj⟩ := h.join
  obtain ⟨f', e', f1', f2', e1', e2', hj'⟩ := h'.join
  refine ⟨fun t ht => ?_, fun d r hd => by rw [List.append_assoc, h.bal d _ hd, h'.bal d _ hd], by simp [h.ne], f, e', f1, f2, e1', e2', fun p r => ?_⟩
  · rcases List.mem_append.1 ht with ht | ht
    · exact h.tok t ht
    · exact h'.tok t ht
  · rw [List.append_assoc, hj, hj']
    have : sep (some e) f' = [32] := by simp [sep, f1', f2', e1, e2]
    rw [this]; simp
theorem Piece.par {l : List Tk} {x : List UInt8} (h : Piece l x) : Piece ((3, [40]) :: (l ++ [(3, [41])])) (40 :: (x ++ [41])) := by
  obtain ⟨f, e, f1, f2, e1, e2, hj⟩ := h.join
  refine ⟨fun t ht => ?_, fun d r hd => ?_, by simp, [40], [41], by decide, by decide, by decide, by decide, fun p r => ?_⟩
  · rcases List.mem_cons.1 ht with rfl | ht
    · exact sign_tok (by decide)
    · rcases List.mem_append.1 ht with ht | ht
      · exact h.tok t ht
      · simp at ht; rw [ht]; exact sign_tok (by decide)
  · have s1 : stepD d (3, [40]) = d + 1 := by simp [stepD]
    have s2 : stepD (d + 1) (3, [41]) = d := by simp [stepD]
    simp only [List.cons_append, deepT, s1]
    rw [if_neg (by omega), List.append_assoc, h.bal (d + 1) _ (by omega)]
    simp only [List.cons_append, List.nil_append, deepT, s2]
    rw [if_neg (by omega)]
  · simp only [List.cons_append, List.append_assoc, joinT, hj]
    have : sep (some [40]) f = [] := by simp [sep]
    have q : sep (some e) [41] = [] := by simp [sep]
    simp [joinT, this, q]
theorem Piece.brace {n : List UInt8} (h : IsTok 1 n) (hf : Flat n) : Piece [(3, [123]), (1, n), (3, [125])] (123 :: (n ++ [125])) := by
  refine ⟨fun t ht => ?_, fun d r hd => ?_, by simp, [123], [125], by decide, by decide, by decide, by decide, fun p r => ?_⟩
  · simp at ht
    rcases ht with rfl | rfl | rfl
    · exact sign_tok (by decide)
    · exact h
    · exact sign_tok (by decide)
  · have s1 : stepD d (3, [123]) = d + 1 := by simp [stepD]
    have s2 : stepD (d + 1) (1, n) = d + 1 := by simp [stepD]
    have s3 : stepD (d + 1) (3, [125]) = d := by simp [stepD]
    simp only [List.cons_append, List.nil_append, deepT, s1, s2, s3]
    rw [if_neg (by omega), if_neg (by omega), if_neg (by omega)]
  · have q1 : sep (some [123]) n = [] := by simp [sep]
    have q2 : sep (some n) [125] = [] := by simp [sep]
    simp [joinT, q1, q2]

def andT : Tk := (1, [97, 110, 100])
def joinA : List (List Tk) → List Tk
  | [] => []
  | [a] => a
  | a :: b :: r => a ++ (andT :: joinA (b :: r))
mutual
/-- The tokens of a concept. -/
def ctk : C → List Tk
  | .mk k n lo hi _ ps =>
    if k = 1 then [(1, [101, 118, 101, 114, 121, 116, 104, 105, 110, 103])]
    else if k = 2 then [(1, [110, 111, 116, 104, 105, 110, 103])]
    else if k = 3 then [(1, n)]
    else if k = 4 then [(3, [123]), (1, n), (3, [125])]
    else if k = 7 then [(1, n), (1, [105, 110]), (2, itoa lo), (1, [116, 111]), (2, itoa hi)]
    else if k = 6 then (1, [115, 111, 109, 101]) :: (1, n) :: (otkL ps).headD []
    else joinA (otkL ps)
def otkL : List C → List (List Tk)
  | [] => []
  | .mk k n lo hi z ps :: r => (if k = 5 then (3, [40]) :: (ctk (.mk k n lo hi z ps) ++ [(3, [41])]) else ctk (.mk k n lo hi z ps)) :: otkL r
end
def otk (c : C) : List Tk := if c.kind = 5 then (3, [40]) :: (ctk c ++ [(3, [41])]) else ctk c
theorem otkL_eq : ∀ l : List C, otkL l = l.map otk
  | [] => by simp [otkL]
  | .mk k n lo hi z ps :: r => by simp [otkL, otk, otkL_eq r]; rfl
theorem ctk_eq (c : C) : ctk c = if c.kind = 1 then [(1, [101, 118, 101, 114, 121, 116, 104, 105, 110, 103])]
    else if c.kind = 2 then [(1, [110, 111, 116, 104, 105, 110, 103])]
    else if c.kind = 3 then [(1, c.name)]
    else if c.kind = 4 then [(3, [123]), (1, c.name), (3, [125])]
    else if c.kind = 7 then [(1, c.name), (1, [105, 110]), (2, itoa c.lo), (1, [116, 111]), (2, itoa c.hi)]
    else if c.kind = 6 then (1, [115, 111, 109, 101]) :: (1, c.name) :: (c.parts.map otk).headD []
    else joinA (c.parts.map otk) := by cases c; simp [ctk, otkL_eq]

theorem flat_cls {t : List UInt8} {c : UInt8} {r : List UInt8} (e : t = c :: r) (h : clsB c ≠ 6) : Flat t := by
  have key : ∀ b : UInt8, clsB b = 6 → t ≠ [b] := fun b hb ht => by rw [e] at ht; obtain ⟨rfl, -⟩ := List.cons.inj ht; exact h hb
  exact ⟨key 41 (by decide), key 125 (by decide), key 40 (by decide), key 123 (by decide)⟩
theorem flat_wrd {t : List UInt8} (hne : t ≠ []) (h : ∀ b ∈ t, nameB b = true) : Flat t := by
  cases t with
  | nil => exact absurd rfl hne
  | cons c r =>
    have hc := h c (by simp)
    refine flat_cls rfl fun h6 => ?_
    unfold nameB at hc
    rw [inn_wrd] at hc
    unfold wrdB at hc
    rw [h6] at hc
    have : c = 58 := by simpa using hc
    rw [this] at h6; exact absurd h6 (by decide)
theorem flat_plain {t : List UInt8} (h : plainS t = true) : Flat t := flat_wrd (plain_name h).ne (plain_name h).bytes
theorem flat_res {t : List UInt8} (h : resS t = true) : Flat t := flat_wrd (res_tok h).ne (res_bytes h)
theorem flat_itoa {n : Int} : Flat (itoa n) := by
  have hb := itoa_num n
  cases e : itoa n with
  | nil => exact ⟨by simp, by simp, by simp, by simp⟩
  | cons c r =>
    refine flat_cls rfl fun h6 => ?_
    have := hb c (by rw [e]; simp)
    unfold numB at this
    rw [Bool.or_eq_true] at this
    rcases this with h | h
    · rw [dig_cls h] at h6; exact absurd h6 (by decide)
    · have : c = 45 := by simpa using h
      rw [this] at h6; exact absurd h6 (by decide)

theorem and_piece : Piece [andT] [97, 110, 100] := .one (word_tok rfl (by decide) (by decide)) (by decide)
theorem join_piece : ∀ (l : List C), l ≠ [] → (∀ c ∈ l, Piece (otk c) (opS c)) → Piece (joinA (l.map otk)) (joinL andB (l.map opS))
  | [], h, _ => absurd rfl h
  | [a], _, h => by simpa [joinA, joinL] using h a (by simp)
  | a :: b :: r, _, h => by
    have ih := join_piece (b :: r) (by simp) (fun c hc => h c (List.mem_cons_of_mem _ hc))
    have := (h a (by simp)).app (and_piece.app ih)
    simpa [joinA, joinL, andB, andT] using this

theorem piece_ctk : ∀ (c : C), walkS c = 0 → Piece (ctk c) (textS c) := by
  refine C.ind' fun c ih h => ?_
  obtain ⟨v1, v2, v3⟩ := walk_ok h
  have iho : ∀ p ∈ c.parts, Piece (otk p) (opS p) := fun p hp => by
    have := ih p hp (v3 p hp)
    unfold otk opS
    split
    · exact this.par
    · exact this
  unfold namedS at v2
  rw [ctk_eq, textS_eq]
  rcases shape_kind v1 with k | k | k | k | ⟨k, k1, k2, k3⟩ | ⟨k, k1⟩ | ⟨k, k1⟩
  · simp only [k, if_true]; exact .one (word_tok rfl (by decide) (by decide)) (by decide)
  · simp [k]; exact .one (word_tok rfl (by decide) (by decide)) (by decide)
  · simp [k] at v2
    simp [k]; exact .one (plain_tok v2) (flat_plain v2)
  · simp [k] at v2
    simp [k]
    rcases v2 with v2 | v2
    · exact .brace (plain_tok v2) (flat_plain v2)
    · exact .brace (res_tok v2) (flat_res v2)
  · simp [k] at v2
    have := (Piece.one (plain_tok v2) (flat_plain v2)).app ((Piece.one (k := 1) (t := [105, 110]) (word_tok rfl (by decide) (by decide)) (by decide)).app ((Piece.one (int_tok (n := c.lo) (by omega) (by omega)) flat_itoa).app
      ((Piece.one (k := 1) (t := [116, 111]) (word_tok rfl (by decide) (by decide)) (by decide)).app (Piece.one (int_tok (n := c.hi) (by omega) (by omega)) flat_itoa))))
    simpa [k] using this
  · simp [k] at v2
    rcases hps : c.parts with _ | ⟨a, _ | ⟨b, r⟩⟩
    · simp [hps] at k1
    · have := (Piece.one (k := 1) (t := [115, 111, 109, 101]) (word_tok rfl (by decide) (by decide)) (by decide)).app ((Piece.one (plain_tok v2) (flat_plain v2)).app (iho a (by rw [hps]; simp)))
      simpa [k, hps] using this
    · simp [hps] at k1
  · have := join_piece c.parts (fun hn => by rw [hn] at k1; simp at k1) iho
    simpa [k] using this
end Go.Ai.Z
