/-
  Words, integers and signs are read as they are printed.
-/
import Derived.Test.YtomjajnlomdhpaaDoorAiKW
import Derived.Test.YtomjajnlomdhpaaDoorAiInj3
set_option maxRecDepth 100000
set_option linter.unusedSimpArgs false
set_option linter.unusedVariables false
namespace Go.Ai.Z
open Go.Lib (itoa decDigits)
open Go.Ai.Inj

theorem inn_wrd (b : UInt8) : innB b = wrdB b := by
  unfold innB wrdB clsB clsN innI ltrI
  generalize b.toNat = n
  repeat' split
  all_goals simp
  all_goals omega
theorem ltr_cls {b : UInt8} (h : ltrB b = true) : clsB b = 3 ∧ b ≠ 95 := by
  constructor
  · unfold ltrB ltrI at h
    unfold clsB clsN
    generalize b.toNat = n at *
    simp at h
    repeat' split
    all_goals omega
  · rintro rfl; simp [ltrB, ltrI] at h

/-- What may follow a token. -/
def Tail (u : List UInt8) : Prop := ∀ b r, u = b :: r → b = 32 ∨ b = 41 ∨ b = 125
theorem Tail.stops {u : List UInt8} (h : Tail u) : Stops wrdB u := by
  intro b r e
  rcases h b r e with rfl | rfl | rfl <;> decide
theorem runS_app : ∀ {t u : List UInt8}, (∀ b ∈ t, wrdB b = true) → Stops wrdB u → runS (t ++ u) = t.length
  | [], [], _, _ => rfl
  | [], b :: r, _, hu => by rw [List.nil_append, runS_cons, hu b r rfl]; rfl
  | a :: t, u, ht, hu => by rw [List.cons_append, runS_cons, ht a (by simp), if_pos rfl, runS_app (fun b hb => ht b (by simp [hb])) hu]; rfl
theorem Stops.colon {u : List UInt8} : Stops wrdB (58 :: u) := by intro b r e; obtain ⟨rfl, -⟩ := List.cons.inj e; decide

theorem scan_word {t u : List UInt8} {c : UInt8} {r : List UInt8} (e : t = c :: r) (hc : clsB c = 3) (ht : ∀ b ∈ t, wrdB b = true) (hu : Tail u) : scanS (t ++ u) = (1, t.length) := by
  subst e
  have hr := runS_app ht hu.stops
  rw [List.cons_append] at hr ⊢
  rw [scan_cons, if_pos hc, hr]
  have hd : (c :: (r ++ u)).drop (c :: r).length = u := by rw [← List.cons_append]; exact List.drop_left
  rw [hd]
  cases u with
  | nil => rfl
  | cons d q =>
    cases q with
    | nil => rfl
    | cons e q =>
      have : d ≠ 58 := by rcases hu d _ rfl with rfl | rfl | rfl <;> decide
      simp [this]
theorem scan_colon {x y u : List UInt8} {c e : UInt8} {r q : List UInt8} (ex : x = c :: r) (hc : clsB c = 3) (hx : ∀ b ∈ x, wrdB b = true) (ey : y = e :: q) (he : clsB e = 3) (he' : e ≠ 95) (hy : ∀ b ∈ y, wrdB b = true) (hu : Tail u) :
    scanS ((x ++ 58 :: y) ++ u) = (1, (x ++ 58 :: y).length) := by
  have hr := runS_app (u := 58 :: (y ++ u)) hx Stops.colon
  have hr2 := runS_app hy hu.stops
  have e0 : (x ++ 58 :: y) ++ u = c :: (r ++ 58 :: (y ++ u)) := by rw [ex]; simp
  have e1 : x ++ 58 :: (y ++ u) = c :: (r ++ 58 :: (y ++ u)) := by rw [ex]; simp
  rw [e1] at hr
  rw [e0, scan_cons, if_pos hc, hr]
  have hd : (c :: (r ++ 58 :: (y ++ u))).drop x.length = 58 :: e :: (q ++ u) := by rw [← e1, List.drop_left, ey]; rfl
  rw [hd]
  rw [ey, List.cons_append] at hr2
  simp only [he', he, ne_eq, not_false_eq_true, and_self, if_true, hr2]
  rw [ey]; simp; omega

/-- A token: its bytes are read as one, whatever may follow. -/
structure IsTok (k : Int) (t : List UInt8) : Prop where
  k0 : k ≠ 0
  ne : t ≠ []
  b0 : ∀ c r, t = c :: r → clsB c ≠ 1 ∧ clsB c ≠ 2
  sc : ∀ u, Tail u ∨ t = [40] ∨ t = [123] → scanS (t ++ u) = (k, t.length)

theorem word_tok {t : List UInt8} {c : UInt8} {r : List UInt8} (e : t = c :: r) (hc : clsB c = 3) (ht : ∀ b ∈ t, wrdB b = true) : IsTok 1 t := by
  have h1 : t ≠ [40] := fun h => by rw [h] at e; obtain ⟨rfl, -⟩ := List.cons.inj e; exact absurd hc (by decide)
  have h2 : t ≠ [123] := fun h => by rw [h] at e; obtain ⟨rfl, -⟩ := List.cons.inj e; exact absurd hc (by decide)
  refine ⟨by decide, by rw [e]; simp, fun c' r' e' => ?_, fun u hu => ?_⟩
  · rw [e] at e'; obtain ⟨rfl, -⟩ := List.cons.inj e'; rw [hc]; decide
  · rcases hu with hu | hu | hu
    · exact scan_word e hc ht hu
    · exact absurd hu h1
    · exact absurd hu h2
theorem wordS_tok {t : List UInt8} (h : wordS t = true) : IsTok 1 t := by
  obtain ⟨⟨b, r, e, hb⟩, h2, _⟩ := word_parts h
  exact word_tok e (ltr_cls hb).1 fun x hx => by rw [← inn_wrd]; exact tail_bytes h2 x hx
theorem plain_tok {t : List UInt8} (h : plainS t = true) : IsTok 1 t := by
  unfold plainS at h
  rw [Bool.and_eq_true] at h
  have h := h.2
  split at h
  · rename_i x y ec
    have el := cutB_len ec
    rw [Bool.and_eq_true] at h
    obtain ⟨⟨b, r, e, hb⟩, t1, _⟩ := word_parts h.1
    obtain ⟨⟨b', r', e', hb'⟩, t2, _⟩ := word_parts h.2
    have hc := (ltr_cls hb).1
    have hl : 2 ≤ t.length := by rw [el, e]; simp; omega
    have w1 : ∀ z ∈ x, wrdB z = true := fun z hz => by rw [← inn_wrd]; exact tail_bytes t1 z hz
    have w2 : ∀ z ∈ y, wrdB z = true := fun z hz => by rw [← inn_wrd]; exact tail_bytes t2 z hz
    refine ⟨by decide, by rw [el]; simp, fun c q ec' => ?_, fun u hu => ?_⟩
    · rw [el, e] at ec'; obtain ⟨rfl, -⟩ := List.cons.inj ec'; rw [hc]; decide
    · rcases hu with hu | hu | hu
      · rw [el]; exact scan_colon e hc w1 e' (ltr_cls hb').1 (ltr_cls hb').2 w2 hu
      · rw [hu] at hl; simp at hl
      · rw [hu] at hl; simp at hl
  · exact wordS_tok h
theorem res_tok {t : List UInt8} (h : resS t = true) : IsTok 1 t := by
  unfold resS at h
  simp only [Bool.and_eq_true, decide_eq_true_eq] at h
  obtain ⟨⟨⟨h1, h2⟩, h3⟩, h4⟩ := h
  cases t with
  | nil => simp at h1
  | cons b r =>
    have hb : b = 95 := by
      have h3' : (b.toNat : Int) = 95 := by simpa using h3
      exact UInt8.toNat_inj.1 (by have : (95 : UInt8).toNat = 95 := rfl; omega)
    exact word_tok rfl (by rw [hb]; decide) fun x hx => by rw [← inn_wrd]; exact tail_bytes h4 x hx

theorem sign_tok {c : UInt8} (h : clsB c = 6) : IsTok 3 [c] := by
  refine ⟨by decide, by simp, fun c' r' e => ?_, fun u _ => ?_⟩
  · obtain ⟨rfl, -⟩ := List.cons.inj e; rw [h]; decide
  · rw [List.cons_append, scan_cons, if_neg (by rw [h]; decide), if_neg (by rw [h]; decide), if_neg (by rw [h]; decide), if_pos h]; rfl

theorem dig_cls {b : UInt8} (h : isDig b = true) : clsB b = 4 := by
  unfold isDig at h
  unfold clsB clsN
  generalize b.toNat = n at *
  simp at h
  repeat' split
  all_goals omega
theorem dec_head : ∀ u : Nat, 0 < u → ∃ b r, decDigits u = b :: r ∧ b ≠ 48 := by
  intro u
  induction u using Nat.strongRecOn with
  | ind u ih =>
    intro hu
    by_cases h10 : u < 10
    · refine ⟨_, [], dec_small h10, fun h => ?_⟩
      have := congrArg UInt8.toNat h
      simp [UInt8.toNat_ofNat'] at this
      omega
    · obtain ⟨b, r, e, hb⟩ := ih (u / 10) (by omega) (by omega)
      exact ⟨b, r ++ [UInt8.ofNat (48 + u % 10)], by rw [dec_big h10, e]; rfl, hb⟩
theorem dec_len18 {u : Nat} (h : u ≤ 1099511627776) : (decDigits u).length ≤ 18 := by
  have key : ∀ (k : Nat) (u : Nat), u < 10 ^ (k + 1) → (decDigits u).length ≤ k + 1 := by
    intro k
    induction k with
    | zero => intro u hu; rw [dec_small (by simpa using hu)]; simp
    | succ k ih =>
      intro u hu
      by_cases h10 : u < 10
      · rw [dec_small h10]; simp
      · rw [dec_big h10]
        have := ih (u / 10) (by rw [Nat.pow_succ] at hu; omega)
        simp; omega
  exact key 17 u (by omega)
theorem dec_body {u : Nat} (h0 : 0 < u) (h : u ≤ 1099511627776) : intBody (decDigits u) = true := by
  obtain ⟨b, r, e, hb⟩ := dec_head u h0
  have hl := dec_len18 h
  have hd := dec_digits u
  unfold intBody
  rw [e] at hl hd ⊢
  have hall : (b :: r).all digB = true := by
    rw [List.all_eq_true]; intro x hx; have := hd x hx; simpa [isDig, digB] using this
  simp only [List.length_cons] at hl
  rw [hall]
  simp [hb]; omega
theorem int_tok {n : Int} (h1 : -1099511627776 ≤ n) (h2 : n ≤ 1099511627776) : IsTok 2 (itoa n) := by
  have hw : ∀ u, ∀ b ∈ decDigits u, wrdB b = true := fun u b hb => by unfold wrdB; rw [dig_cls (dec_digits u b hb)]; rfl
  by_cases hneg : n < 0
  · have hpos : 0 < n.natAbs := by omega
    obtain ⟨b, r, e, hb⟩ := dec_head n.natAbs hpos
    have ei : itoa n = 45 :: decDigits n.natAbs := by unfold itoa; rw [if_pos hneg]
    have hbd : isDig b = true := dec_digits n.natAbs b (by rw [e]; simp)
    refine ⟨by decide, by rw [ei]; simp, fun c q ec => ?_, fun u hu => ?_⟩
    · rw [ei] at ec; obtain ⟨rfl, -⟩ := List.cons.inj ec; decide
    · have hu' : Tail u := by
        rcases hu with hu | hu | hu
        · exact hu
        · rw [ei] at hu; simp at hu
        · rw [ei] at hu; simp at hu
      have hr := runS_app (hw n.natAbs) hu'.stops
      rw [ei, List.cons_append, scan_cons, if_neg (by decide), if_pos (by decide)]
      have hne : b ≠ 62 := fun h => by rw [h] at hbd; exact absurd hbd (by decide)
      have hint : integerS (45 :: decDigits n.natAbs) = true := by
        simp [integerS, dec_body hpos (by omega)]
      have htk : (45 :: (decDigits n.natAbs ++ u)).take (1 + (decDigits n.natAbs).length) = 45 :: decDigits n.natAbs := by
        rw [Nat.add_comm, List.take_succ_cons, List.take_left]
      have hr' := hr
      rw [e] at hr' ⊢
      simp only [List.cons_append] at hr' ⊢
      rw [if_neg hne, if_pos (dig_cls hbd), hr']
      unfold intTok
      rw [e] at htk hint
      simp only [List.cons_append] at htk
      rw [htk, if_pos hint]
      simp; omega
  · have ei : itoa n = decDigits n.toNat := by unfold itoa; rw [if_neg hneg]
    have hint : integerS (decDigits n.toNat) = true := by
      by_cases h0 : n.toNat = 0
      · rw [h0, dec_small (by omega)]; decide
      · obtain ⟨b, r, e, hb⟩ := dec_head n.toNat (by omega)
        have hbd : isDig b = true := dec_digits n.toNat b (by rw [e]; simp)
        have h45 : ¬ (decDigits n.toNat).head? = some 45 := by
          rw [e]; simp; intro h; rw [h] at hbd; exact absurd hbd (by decide)
        simp [integerS, h45, dec_body (u := n.toNat) (by omega) (by omega)]
    obtain ⟨b, r, e⟩ : ∃ b r, decDigits n.toNat = b :: r := by
      cases hd : decDigits n.toNat with
      | nil => exact absurd hd (dec_ne _)
      | cons b r => exact ⟨b, r, rfl⟩
    have hbd : isDig b = true := dec_digits n.toNat b (by rw [e]; simp)
    have hc := dig_cls hbd
    refine ⟨by decide, by rw [ei]; exact dec_ne _, fun c q ec => ?_, fun u hu => ?_⟩
    · rw [ei, e] at ec; obtain ⟨rfl, -⟩ := List.cons.inj ec; rw [hc]; decide
    · have hu' : Tail u := by
        rcases hu with hu | hu | hu
        · exact hu
        · rw [ei, e] at hu; obtain ⟨rfl, -⟩ := List.cons.inj hu; exact absurd hc (by decide)
        · rw [ei, e] at hu; obtain ⟨rfl, -⟩ := List.cons.inj hu; exact absurd hc (by decide)
      have hr := runS_app (hw n.toNat) hu'.stops
      have htk : (decDigits n.toNat ++ u).take (decDigits n.toNat).length = decDigits n.toNat := List.take_left
      rw [ei]
      rw [e] at hr htk hint ⊢
      simp only [List.cons_append] at hr htk ⊢
      rw [scan_cons, if_neg (by rw [hc]; decide), if_neg (by rw [hc]; decide), if_pos hc, hr]
      unfold intTok
      rw [htk, if_pos hint]
end Go.Ai.Z
