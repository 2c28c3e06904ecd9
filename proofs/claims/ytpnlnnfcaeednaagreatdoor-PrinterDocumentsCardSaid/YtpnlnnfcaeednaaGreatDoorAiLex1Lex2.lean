/-
 Words, integers and signs are read as they are printed.
-/
import Derived.Test.YtpnlnnfcaeednaaGreatDoorAiKW
import Derived.Test.YtpnlnnfcaeednaaGreatDoorAiInjInj2Inj3Inj4KI
set_option maxRecDepth 100000
set_option linter.unusedSimpArgs false
set_option linter.unusedVariables false
set_option linter.unusedSectionVars false
namespace Go.Ai.Z
open Go.Lib (itoa decDigits)
open Go.Ai.Inj
theorem inn_wrd (b : UInt8) : innB b = wrdB b := by
 unfold innB wrdB clsB clsN innI ltrI
 generalize b.toNat = n
 repeat' split
 all_goals simp
 all_goals omega
theorem ltr_cls {b : UInt8} (h : ltrB b = true) : clsB b = 3 ∧ b ≠ 95 := by
 constructor
 ·unfold ltrB ltrI at h
  unfold clsB clsN
  generalize b.toNat = n at *
  simp at h
  repeat' split
  all_goals omega
 ·rintro rfl; simp [ltrB, ltrI] at h
def Tail (u : List UInt8) : Prop := ∀ b r, u = b :: r → b = 32 ∨ b = 41 ∨ b = 125 ∨ b = 46
theorem Tail.stops {u : List UInt8} (h : Tail u) : Stops wrdB u := by
 intro b r e
 rcases h b r e with rfl | rfl | rfl | rfl <;> decide
theorem runS_app : ∀ {t u : List UInt8}, (∀ b ∈ t, wrdB b = true) → Stops wrdB u → runS (t ++ u) = t.length
 | [], [], _, _ => rfl
 | [], b :: r, _, hu => by rw [List.nil_append, runS_cons, hu b r rfl]; rfl
 | a :: t, u, ht, hu => by rw [List.cons_append, runS_cons, ht a (by simp), if_pos rfl, runS_app (fun b hb => ht b (by simp [hb])) hu]; rfl
theorem Stops.colon {u : List UInt8} : Stops wrdB (58 :: u) := by intro b r e; obtain ⟨rfl, -⟩ := List.cons.inj e; decide
theorem scan_word {t u : List UInt8} {c : UInt8} {r : List UInt8} (e : t = c :: r) (hc : clsB c = 3) (ht : ∀ b ∈ t, wrdB b = true) (hu : Tail u) : scanS (t ++ u) = (1, t.length) := by
 subst e
 have hr := runS_app ht hu.stops
 rw [List.cons_append] at hr ⊢
 rw [scan_cons, if_pos hc, hr]
 have hd : (c :: (r ++ u)).drop (c :: r).length = u := by rw [← List.cons_append]; exact List.drop_left
 rw [hd]
 cases u with
 | nil => rfl
 | cons d q =>
  cases q with
  | nil => rfl
  | cons e q =>
   have : d ≠ 58 := by rcases hu d _ rfl with rfl | rfl | rfl | rfl <;> decide
   simp [this]
theorem scan_colon {x y u : List UInt8} {c e : UInt8} {r q : List UInt8} (ex : x = c :: r) (hc : clsB c = 3) (hx : ∀ b ∈ x, wrdB b = true) (ey : y = e :: q) (he : clsB e = 3) (he' : e ≠ 95) (hy : ∀ b ∈ y, wrdB b = true) (hu : Tail u) :
  scanS ((x ++ 58 :: y) ++ u) = (1, (x ++ 58 :: y).length) := by
 have hr := runS_app (u := 58 :: (y ++ u)) hx Stops.colon
 have hr2 := runS_app hy hu.stops
 have e0 : (x ++ 58 :: y) ++ u = c :: (r ++ 58 :: (y ++ u)) := by rw [ex]; simp
 have e1 : x ++ 58 :: (y ++ u) = c :: (r ++ 58 :: (y ++ u)) := by rw [ex]; simp
 rw [e1] at hr
 rw [e0, scan_cons, if_pos hc, hr]
 have hd : (c :: (r ++ 58 :: (y ++ u))).drop x.length = 58 :: e :: (q ++ u) := by rw [← e1, List.drop_left, ey]; rfl
 rw [hd]
 rw [ey, List.cons_append] at hr2
 simp only [he', he, ne_eq, not_false_eq_true, and_self, if_true, hr2]
 rw [ey]; simp; omega
structure IsTok (k : Int) (t : List UInt8) : Prop where
 k0 : k ≠ 0
 ne : t ≠ []
 b0 : ∀ c r, t = c :: r → clsB c ≠ 1 ∧ clsB c ≠ 2
 sc : ∀ u, Tail u ∨ t = [40] ∨ t = [123] → scanS (t ++ u) = (k, t.length)
theorem word_tok {t : List UInt8} {c : UInt8} {r : List UInt8} (e : t = c :: r) (hc : clsB c = 3) (ht : ∀ b ∈ t, wrdB b = true) : IsTok 1 t := by
 have h1 : t ≠ [40] := fun h => by rw [h] at e; obtain ⟨rfl, -⟩ := List.cons.inj e; exact absurd hc (by decide)
 have h2 : t ≠ [123] := fun h => by rw [h] at e; obtain ⟨rfl, -⟩ := List.cons.inj e; exact absurd hc (by decide)
 refine ⟨by decide, by rw [e]; simp, fun c' r' e' => ?_, fun u hu => ?_⟩
 ·rw [e] at e'; obtain ⟨rfl, -⟩ := List.cons.inj e'; rw [hc]; decide
 ·rcases hu with hu | hu | hu
  ·exact scan_word e hc ht hu
  ·exact absurd hu h1
  ·exact absurd hu h2
theorem wordS_tok {t : List UInt8} (h : wordS t = true) : IsTok 1 t := by
 obtain ⟨⟨b, r, e, hb⟩, h2, _⟩ := word_parts h
 exact word_tok e (ltr_cls hb).1 fun x hx => by rw [← inn_wrd]; exact tail_bytes h2 x hx
theorem plain_tok {t : List UInt8} (h : plainS t = true) : IsTok 1 t := by
 unfold plainS at h
 rw [Bool.and_eq_true] at h
 have h := h.2
 split at h
 ·rename_i x y ec
  have el := cutB_len ec
  rw [Bool.and_eq_true] at h
  obtain ⟨⟨b, r, e, hb⟩, t1, _⟩ := word_parts h.1
  obtain ⟨⟨b', r', e', hb'⟩, t2, _⟩ := word_parts h.2
  have hc := (ltr_cls hb).1
  have hl : 2 ≤ t.length := by rw [el, e]; simp; omega
  have w1 : ∀ z ∈ x, wrdB z = true := fun z hz => by rw [← inn_wrd]; exact tail_bytes t1 z hz
  have w2 : ∀ z ∈ y, wrdB z = true := fun z hz => by rw [← inn_wrd]; exact tail_bytes t2 z hz
  refine ⟨by decide, by rw [el]; simp, fun c q ec' => ?_, fun u hu => ?_⟩
  ·rw [el, e] at ec'; obtain ⟨rfl, -⟩ := List.cons.inj ec'; rw [hc]; decide
  ·rcases hu with hu | hu | hu
   ·rw [el]; exact scan_colon e hc w1 e' (ltr_cls hb').1 (ltr_cls hb').2 w2 hu
   ·rw [hu] at hl; simp at hl
   ·rw [hu] at hl; simp at hl
 ·exact wordS_tok h
theorem res_tok {t : List UInt8} (h : resS t = true) : IsTok 1 t := by
 unfold resS at h
 simp only [Bool.and_eq_true, decide_eq_true_eq] at h
 obtain ⟨⟨⟨h1, h2⟩, h3⟩, h4⟩ := h
 cases t with
 | nil => simp at h1
 | cons b r =>
  have hb : b = 95 := by
   have h3' : (b.toNat : Int) = 95 := by simpa using h3
   exact UInt8.toNat_inj.1 (by have : (95 : UInt8).toNat = 95 := rfl; omega)
  exact word_tok rfl (by rw [hb]; decide) fun x hx => by rw [← inn_wrd]; exact tail_bytes h4 x hx
theorem sign_tok {c : UInt8} (h : clsB c = 6) : IsTok 3 [c] := by
 refine ⟨by decide, by simp, fun c' r' e => ?_, fun u _ => ?_⟩
 ·obtain ⟨rfl, -⟩ := List.cons.inj e; rw [h]; decide
 ·rw [List.cons_append, scan_cons, if_neg (by rw [h]; decide), if_neg (by rw [h]; decide), if_neg (by rw [h]; decide), if_pos h]; rfl
theorem dig_cls {b : UInt8} (h : isDig b = true) : clsB b = 4 := by
 unfold isDig at h
 unfold clsB clsN
 generalize b.toNat = n at *
 simp at h
 repeat' split
 all_goals omega
theorem dec_head : ∀ u : Nat, 0 < u → ∃ b r, decDigits u = b :: r ∧ b ≠ 48 := by
 intro u
 induction u using Nat.strongRecOn with
 | ind u ih =>
  intro hu
  by_cases h10 : u < 10
  ·refine ⟨_, [], dec_small h10, fun h => ?_⟩
   have := congrArg UInt8.toNat h
   simp [UInt8.toNat_ofNat'] at this
   omega
  ·obtain ⟨b, r, e, hb⟩ := ih (u / 10) (by omega) (by omega)
   exact ⟨b, r ++ [UInt8.ofNat (48 + u % 10)], by rw [dec_big h10, e]; rfl, hb⟩
theorem dec_len18 {u : Nat} (h : u ≤ 1099511627776) : (decDigits u).length ≤ 18 := by
 have key : ∀ (k : Nat) (u : Nat), u < 10 ^ (k + 1) → (decDigits u).length ≤ k + 1 := by
  intro k
  induction k with
  | zero => intro u hu; rw [dec_small (by simpa using hu)]; simp
  | succ k ih =>
   intro u hu
   by_cases h10 : u < 10
   ·rw [dec_small h10]; simp
   ·rw [dec_big h10]
    have := ih (u / 10) (by rw [Nat.pow_succ] at hu; omega)
    simp; omega
 exact key 17 u (by omega)
theorem dec_body {u : Nat} (h0 : 0 < u) (h : u ≤ 1099511627776) : intBody (decDigits u) = true := by
 obtain ⟨b, r, e, hb⟩ := dec_head u h0
 have hl := dec_len18 h
 have hd := dec_digits u
 unfold intBody
 rw [e] at hl hd ⊢
 have hall : (b :: r).all digB = true := by
  rw [List.all_eq_true]; intro x hx; have := hd x hx; simpa [isDig, digB] using this
 simp only [List.length_cons] at hl
 rw [hall]
 simp [hb]; omega
theorem int_tok {n : Int} (h1 : -1099511627776 ≤ n) (h2 : n ≤ 1099511627776) : IsTok 2 (itoa n) := by
 have hw : ∀ u, ∀ b ∈ decDigits u, wrdB b = true := fun u b hb => by unfold wrdB; rw [dig_cls (dec_digits u b hb)]; rfl
 by_cases hneg : n < 0
 ·have hpos : 0 < n.natAbs := by omega
  obtain ⟨b, r, e, hb⟩ := dec_head n.natAbs hpos
  have ei : itoa n = 45 :: decDigits n.natAbs := by unfold itoa; rw [if_pos hneg]
  have hbd : isDig b = true := dec_digits n.natAbs b (by rw [e]; simp)
  refine ⟨by decide, by rw [ei]; simp, fun c q ec => ?_, fun u hu => ?_⟩
  ·rw [ei] at ec; obtain ⟨rfl, -⟩ := List.cons.inj ec; decide
  ·have hu' : Tail u := by
    rcases hu with hu | hu | hu
    ·exact hu
    ·rw [ei] at hu; simp at hu
    ·rw [ei] at hu; simp at hu
   have hr := runS_app (hw n.natAbs) hu'.stops
   rw [ei, List.cons_append, scan_cons, if_neg (by decide), if_pos (by decide)]
   have hne : b ≠ 62 := fun h => by rw [h] at hbd; exact absurd hbd (by decide)
   have hint : integerS (45 :: decDigits n.natAbs) = true := by
    simp [integerS, dec_body hpos (by omega)]
   have htk : (45 :: (decDigits n.natAbs ++ u)).take (1 + (decDigits n.natAbs).length) = 45 :: decDigits n.natAbs := by
    rw [Nat.add_comm, List.take_succ_cons, List.take_left]
   have hr' := hr
   rw [e] at hr' ⊢
   simp only [List.cons_append] at hr' ⊢
   rw [if_neg hne, if_pos (dig_cls hbd), hr']
   unfold intTok
   rw [e] at htk hint
   simp only [List.cons_append] at htk
   rw [htk, if_pos hint]
   simp; omega
 ·have ei : itoa n = decDigits n.toNat := by unfold itoa; rw [if_neg hneg]
  have hint : integerS (decDigits n.toNat) = true := by
   by_cases h0 : n.toNat = 0
   ·rw [h0, dec_small (by omega)]; decide
   ·obtain ⟨b, r, e, hb⟩ := dec_head n.toNat (by omega)
    have hbd : isDig b = true := dec_digits n.toNat b (by rw [e]; simp)
    have h45 : ¬ (decDigits n.toNat).head? = some 45 := by
     rw [e]; simp; intro h; rw [h] at hbd; exact absurd hbd (by decide)
    simp [integerS, h45, dec_body (u := n.toNat) (by omega) (by omega)]
  obtain ⟨b, r, e⟩ : ∃ b r, decDigits n.toNat = b :: r := by
   cases hd : decDigits n.toNat with
   | nil => exact absurd hd (dec_ne _)
   | cons b r => exact ⟨b, r, rfl⟩
  have hbd : isDig b = true := dec_digits n.toNat b (by rw [e]; simp)
  have hc := dig_cls hbd
  refine ⟨by decide, by rw [ei]; exact dec_ne _, fun c q ec => ?_, fun u hu => ?_⟩
  ·rw [ei, e] at ec; obtain ⟨rfl, -⟩ := List.cons.inj ec; rw [hc]; decide
  ·have hu' : Tail u := by
    rcases hu with hu | hu | hu
    ·exact hu
    ·rw [ei, e] at hu; obtain ⟨rfl, -⟩ := List.cons.inj hu; exact absurd hc (by decide)
    ·rw [ei, e] at hu; obtain ⟨rfl, -⟩ := List.cons.inj hu; exact absurd hc (by decide)
   have hr := runS_app (hw n.toNat) hu'.stops
   have htk : (decDigits n.toNat ++ u).take (decDigits n.toNat).length = decDigits n.toNat := List.take_left
   rw [ei]
   rw [e] at hr htk hint ⊢
   simp only [List.cons_append] at hr htk ⊢
   rw [scan_cons, if_neg (by rw [hc]; decide), if_neg (by rw [hc]; decide), if_pos hc, hr]
   unfold intTok
   rw [htk, if_pos hint]
end Go.Ai.Z
namespace Go.Ai.Z
open Go.Lib (itoa decDigits)
open Go.Ai.Inj
abbrev Tk := Int × List UInt8
def sep (p : Option (List UInt8)) (t : List UInt8) : List UInt8 :=
 match p with
 | none => []
 | some p => if t = [41] ∨ t = [125] ∨ p = [40] ∨ p = [123] then [] else [32]
def joinT : Option (List UInt8) → List Tk → List UInt8
 | _, [] => []
 | p, t :: r => sep p t.2 ++ (t.2 ++ joinT (some t.2) r)
theorem tail_join (t : List UInt8) (l : List Tk) (h : ∀ x ∈ l, x.2 ≠ []) : Tail (joinT (some t) l) ∨ t = [40] ∨ t = [123] := by
 by_cases h1 : t = [40]
 ·exact .inr (.inl h1)
 by_cases h2 : t = [123]
 ·exact .inr (.inr h2)
 left
 intro b r e
 cases l with
 | nil => cases e
 | cons y l =>
  simp only [joinT, sep] at e
  split at e
  ·rename_i hc
   rcases hc with hc | hc | hc | hc
   ·rw [hc] at e; obtain ⟨rfl, -⟩ := List.cons.inj e; exact .inr (.inl rfl)
   ·rw [hc] at e; obtain ⟨rfl, -⟩ := List.cons.inj e; exact .inr (.inr (.inl rfl))
   ·exact absurd hc h1
   ·exact absurd hc h2
  ·obtain ⟨rfl, -⟩ := List.cons.inj e; exact .inl rfl
def stepD (d : Int) (t : Tk) : Int :=
 let d := if t.1 = 3 ∧ (t.2 = [40] ∨ t.2 = [123]) then d + 1 else d
 if t.1 = 3 ∧ (t.2 = [41] ∨ t.2 = [125]) then d - 1 else d
def deepT : List Tk → Int → Option Int
 | [], d => some d
 | t :: r, d => if stepD d t < 0 then none else deepT r (stepD d t)
def Flat (t : List UInt8) : Prop := t ≠ [41] ∧ t ≠ [125] ∧ t ≠ [40] ∧ t ≠ [123]
instance (t : List UInt8) : Decidable (Flat t) := by unfold Flat; infer_instance
structure Piece (l : List Tk) (x : List UInt8) : Prop where
 tok : ∀ t ∈ l, IsTok t.1 t.2
 bal : ∀ d r, 0 ≤ d → deepT (l ++ r) d = deepT r d
 ne : l ≠ []
 join : ∃ f e, f ≠ [41] ∧ f ≠ [125] ∧ e ≠ [40] ∧ e ≠ [123] ∧ ∀ p r, joinT p (l ++ r) = sep p f ++ (x ++ joinT (some e) r)
theorem Piece.one {k : Int} {t : List UInt8} (h : IsTok k t) (hf : Flat t) : Piece [(k, t)] t := by
 refine ⟨fun y hy => by simp at hy; rw [hy]; exact h, fun d r hd => ?_, by simp, t, t, hf.1, hf.2.1, hf.2.2.1, hf.2.2.2, fun p r => rfl⟩
 have : stepD d (k, t) = d := by simp [stepD, hf.1, hf.2.1, hf.2.2.1, hf.2.2.2]
 simp only [List.cons_append, List.nil_append, deepT, this]
 rw [if_neg (by omega)]
theorem Piece.app {l m : List Tk} {x y : List UInt8} (h : Piece l x) (h' : Piece m y) : Piece (l ++ m) (x ++ 32 :: y) := by
 obtain ⟨f, e, f1, f2, e1, e2, hj⟩ := h.join
 obtain ⟨f', e', f1', f2', e1', e2', hj'⟩ := h'.join
 refine ⟨fun t ht => ?_, fun d r hd => by rw [List.append_assoc, h.bal d _ hd, h'.bal d _ hd], by simp [h.ne], f, e', f1, f2, e1', e2', fun p r => ?_⟩
 ·rcases List.mem_append.1 ht with ht | ht
  ·exact h.tok t ht
  ·exact h'.tok t ht
 ·rw [List.append_assoc, hj, hj']
  have : sep (some e) f' = [32] := by simp [sep, f1', f2', e1, e2]
  rw [this]; simp
theorem Piece.par {l : List Tk} {x : List UInt8} (h : Piece l x) : Piece ((3, [40]) :: (l ++ [(3, [41])])) (40 :: (x ++ [41])) := by
 obtain ⟨f, e, f1, f2, e1, e2, hj⟩ := h.join
 refine ⟨fun t ht => ?_, fun d r hd => ?_, by simp, [40], [41], by decide, by decide, by decide, by decide, fun p r => ?_⟩
 ·rcases List.mem_cons.1 ht with rfl | ht
  ·exact sign_tok (by decide)
  ·rcases List.mem_append.1 ht with ht | ht
   ·exact h.tok t ht
   ·simp at ht; rw [ht]; exact sign_tok (by decide)
 ·have s1 : stepD d (3, [40]) = d + 1 := by simp [stepD]
  have s2 : stepD (d + 1) (3, [41]) = d := by simp [stepD]
  simp only [List.cons_append, deepT, s1]
  rw [if_neg (by omega), List.append_assoc, h.bal (d + 1) _ (by omega)]
  simp only [List.cons_append, List.nil_append, deepT, s2]
  rw [if_neg (by omega)]
 ·simp only [List.cons_append, List.append_assoc, joinT, hj]
  have : sep (some [40]) f = [] := by simp [sep]
  have q : sep (some e) [41] = [] := by simp [sep]
  simp [joinT, this, q]
theorem Piece.brace {n : List UInt8} (h : IsTok 1 n) (hf : Flat n) : Piece [(3, [123]), (1, n), (3, [125])] (123 :: (n ++ [125])) := by
 refine ⟨fun t ht => ?_, fun d r hd => ?_, by simp, [123], [125], by decide, by decide, by decide, by decide, fun p r => ?_⟩
 ·simp at ht
  rcases ht with rfl | rfl | rfl
  ·exact sign_tok (by decide)
  ·exact h
  ·exact sign_tok (by decide)
 ·have s1 : stepD d (3, [123]) = d + 1 := by simp [stepD]
  have s2 : stepD (d + 1) (1, n) = d + 1 := by simp [stepD]
  have s3 : stepD (d + 1) (3, [125]) = d := by simp [stepD]
  simp only [List.cons_append, List.nil_append, deepT, s1, s2, s3]
  rw [if_neg (by omega), if_neg (by omega), if_neg (by omega)]
 ·have q1 : sep (some [123]) n = [] := by simp [sep]
  have q2 : sep (some n) [125] = [] := by simp [sep]
  simp [joinT, q1, q2]
def andT : Tk := (1, [97, 110, 100])
def joinA : List (List Tk) → List Tk
 | [] => []
 | [a] => a
 | a :: b :: r => a ++ (andT :: joinA (b :: r))
mutual
def ctk : C → List Tk
 | .mk k n lo hi _ ps =>
  if k = 1 then [(1, [101, 118, 101, 114, 121, 116, 104, 105, 110, 103])]
  else if k = 2 then [(1, [110, 111, 116, 104, 105, 110, 103])]
  else if k = 3 then [(1, n)]
  else if k = 4 then [(3, [123]), (1, n), (3, [125])]
  else if k = 7 then [(1, n), (1, [105, 110]), (2, itoa lo), (1, [116, 111]), (2, itoa hi)]
  else if k = 6 then (1, [115, 111, 109, 101]) :: (1, n) :: (otkL ps).headD []
  else joinA (otkL ps)
def otkL : List C → List (List Tk)
 | [] => []
 | .mk k n lo hi z ps :: r => (if k = 5 then (3, [40]) :: (ctk (.mk k n lo hi z ps) ++ [(3, [41])]) else ctk (.mk k n lo hi z ps)) :: otkL r
end
def otk (c : C) : List Tk := if c.kind = 5 then (3, [40]) :: (ctk c ++ [(3, [41])]) else ctk c
theorem otkL_eq : ∀ l : List C, otkL l = l.map otk
 | [] => by simp [otkL]
 | .mk k n lo hi z ps :: r => by simp [otkL, otk, otkL_eq r]; rfl
theorem ctk_eq (c : C) : ctk c = if c.kind = 1 then [(1, [101, 118, 101, 114, 121, 116, 104, 105, 110, 103])]
  else if c.kind = 2 then [(1, [110, 111, 116, 104, 105, 110, 103])]
  else if c.kind = 3 then [(1, c.name)]
  else if c.kind = 4 then [(3, [123]), (1, c.name), (3, [125])]
  else if c.kind = 7 then [(1, c.name), (1, [105, 110]), (2, itoa c.lo), (1, [116, 111]), (2, itoa c.hi)]
  else if c.kind = 6 then (1, [115, 111, 109, 101]) :: (1, c.name) :: (c.parts.map otk).headD []
  else joinA (c.parts.map otk) := by cases c; simp [ctk, otkL_eq]
theorem flat_cls {t : List UInt8} {c : UInt8} {r : List UInt8} (e : t = c :: r) (h : clsB c ≠ 6) : Flat t := by
 have key : ∀ b : UInt8, clsB b = 6 → t ≠ [b] := fun b hb ht => by rw [e] at ht; obtain ⟨rfl, -⟩ := List.cons.inj ht; exact h hb
 exact ⟨key 41 (by decide), key 125 (by decide), key 40 (by decide), key 123 (by decide)⟩
theorem flat_wrd {t : List UInt8} (hne : t ≠ []) (h : ∀ b ∈ t, nameB b = true) : Flat t := by
 cases t with
 | nil => exact absurd rfl hne
 | cons c r =>
  have hc := h c (by simp)
  refine flat_cls rfl fun h6 => ?_
  unfold nameB at hc
  rw [inn_wrd] at hc
  unfold wrdB at hc
  rw [h6] at hc
  have : c = 58 := by simpa using hc
  rw [this] at h6; exact absurd h6 (by decide)
theorem flat_plain {t : List UInt8} (h : plainS t = true) : Flat t := flat_wrd (plain_name h).ne (plain_name h).bytes
theorem flat_res {t : List UInt8} (h : resS t = true) : Flat t := flat_wrd (res_tok h).ne (res_bytes h)
theorem flat_itoa {n : Int} : Flat (itoa n) := by
 have hb := itoa_num n
 cases e : itoa n with
 | nil => exact ⟨by simp, by simp, by simp, by simp⟩
 | cons c r =>
  refine flat_cls rfl fun h6 => ?_
  have := hb c (by rw [e]; simp)
  unfold numB at this
  rw [Bool.or_eq_true] at this
  rcases this with h | h
  ·rw [dig_cls h] at h6; exact absurd h6 (by decide)
  ·have : c = 45 := by simpa using h
   rw [this] at h6; exact absurd h6 (by decide)
theorem and_piece : Piece [andT] [97, 110, 100] := .one (word_tok rfl (by decide) (by decide)) (by decide)
theorem join_piece : ∀ (l : List C), l ≠ [] → (∀ c ∈ l, Piece (otk c) (opS c)) → Piece (joinA (l.map otk)) (joinL andB (l.map opS))
 | [], h, _ => absurd rfl h
 | [a], _, h => by simpa [joinA, joinL] using h a (by simp)
 | a :: b :: r, _, h => by
  have ih := join_piece (b :: r) (by simp) (fun c hc => h c (List.mem_cons_of_mem _ hc))
  have := (h a (by simp)).app (and_piece.app ih)
  simpa [joinA, joinL, andB, andT] using this
theorem piece_ctk : ∀ (c : C), walkS c = 0 → Piece (ctk c) (textS c) := by
 refine C.ind' fun c ih h => ?_
 obtain ⟨v1, v2, v3⟩ := walk_ok h
 have iho : ∀ p ∈ c.parts, Piece (otk p) (opS p) := fun p hp => by
  have := ih p hp (v3 p hp)
  unfold otk opS
  split
  ·exact this.par
  ·exact this
 unfold namedS at v2
 rw [ctk_eq, textS_eq]
 rcases shape_kind v1 with k | k | k | k | ⟨k, k1, k2, k3⟩ | ⟨k, k1⟩ | ⟨k, k1⟩
 ·simp only [k, if_true]; exact .one (word_tok rfl (by decide) (by decide)) (by decide)
 ·simp [k]; exact .one (word_tok rfl (by decide) (by decide)) (by decide)
 ·simp [k] at v2
  simp [k]; exact .one (plain_tok v2) (flat_plain v2)
 ·simp [k] at v2
  simp [k]
  rcases v2 with v2 | v2
  ·exact .brace (plain_tok v2) (flat_plain v2)
  ·exact .brace (res_tok v2) (flat_res v2)
 ·simp [k] at v2
  have := (Piece.one (plain_tok v2) (flat_plain v2)).app ((Piece.one (k := 1) (t := [105, 110]) (word_tok rfl (by decide) (by decide)) (by decide)).app ((Piece.one (int_tok (n := c.lo) (by omega) (by omega)) flat_itoa).app
   ((Piece.one (k := 1) (t := [116, 111]) (word_tok rfl (by decide) (by decide)) (by decide)).app (Piece.one (int_tok (n := c.hi) (by omega) (by omega)) flat_itoa))))
  simpa [k] using this
 ·simp [k] at v2
  rcases hps : c.parts with _ | ⟨a, _ | ⟨b, r⟩⟩
  ·simp [hps] at k1
  ·have := (Piece.one (k := 1) (t := [115, 111, 109, 101]) (word_tok rfl (by decide) (by decide)) (by decide)).app ((Piece.one (plain_tok v2) (flat_plain v2)).app (iho a (by rw [hps]; simp)))
   simpa [k, hps] using this
  ·simp [hps] at k1
 ·have := join_piece c.parts (fun hn => by rw [hn] at k1; simp at k1) iho
  simpa [k] using this
end Go.Ai.Z
