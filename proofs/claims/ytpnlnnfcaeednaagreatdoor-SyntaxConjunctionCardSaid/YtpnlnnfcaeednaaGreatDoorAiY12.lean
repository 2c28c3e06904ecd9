/-
 Conjunctions: what syntax.Concept answers of "(x)" and of "(x) and (y)".
-/
import Derived.Test.YtpnlnnfcaeednaaGreatDoorAiY6Y7Y8
import Derived.Test.YtpnlnnfcaeednaaGreatDoorAiY9Y10
import Derived.Test.YtpnlnnfcaeednaaGreatDoorAiY11
import Derived.Test.YtpnlnnfcaeednaaGreatDoorAiInjInj2Inj3Inj4KI
set_option maxRecDepth 100000
set_option linter.unusedSimpArgs false
set_option linter.unusedVariables false
set_option linter.unusedSectionVars false
namespace Go.Ai.Z
def NZ {α : Type} (x : PR α) : Prop := ∀ a e r, x = .er a e r → e ≠ 0
theorem NZ.ok {α : Type} (v : α) (r : List Tok) : NZ (PR.ok v r) := fun a e r h => by cases h
theorem NZ.er {α : Type} (a e : Int) (r : List Tok) (h : e ≠ 0) : NZ (PR.er a e r : PR α) := fun a' e' r' h' => by cases h'; exact h
theorem NZ.bind {α β : Type} {x : PR α} {f : α → List Tok → PR β} (h : NZ x) (hf : ∀ v r, x = .ok v r → NZ (f v r)) : NZ (x.bind f) := by
 cases x with
 | ok v r => exact hf v r rfl
 | er a e r => exact NZ.er a e r (h a e r rfl)
theorem nz_pName (l : List Tok) : NZ (pName l) := by
 unfold pName; split
 ·split
  ·exact NZ.ok _ _
  ·exact NZ.er _ _ _ (by decide)
 ·exact NZ.er _ _ _ (by decide)
theorem nz_pWant (w : List UInt8) (l : List Tok) : NZ (pWant w l) := by
 unfold pWant; split
 ·exact NZ.ok _ _
 ·exact NZ.er _ _ _ (by decide)
theorem nz_pNum (n : Int) (l : List Tok) : NZ (pNum n l) := by
 unfold pNum; split
 ·split
  ·split
   ·exact NZ.er _ _ _ (by decide)
   ·exact NZ.ok _ _
  ·exact NZ.er _ _ _ (by decide)
 ·exact NZ.er _ _ _ (by decide)
theorem wt_pos {l : List Tok} (h : WT l) : 1 ≤ l.length := by have := h.ne; cases l with | nil => exact absurd rfl this | cons a b => simp
theorem shorter' {α : Type} {l r : List Tok} {x : PR α} {v : α} (hg : Good' l x) (e : x = .ok v r) : WT r ∧ r.length < l.length := by
 rw [e] at hg
 obtain ⟨h1, p, h2, h3⟩ := hg
 refine ⟨h1, ?_⟩
 rw [h3]
 cases p with
 | nil => exact absurd rfl h2
 | cons a p => simp; omega
theorem wt_tl {l : List Tok} {w : List UInt8} (h : WT l) (h1 : txt l = w) (h2 : w ≠ []) : WT l.tail ∧ l.tail.length + 1 = l.length := by
 obtain ⟨t, r, rfl, _, h3⟩ := h.tl (.inl (by rw [h1]; exact h2))
 exact ⟨h3, rfl⟩
theorem nz_parse : ∀ n : Nat, (∀ l, WT l → 2 * l.length ≤ n → NZ (pSing n l)) ∧ (∀ l, WT l → 2 * l.length + 1 ≤ n → NZ (pCon n l)) ∧ ∀ l cs, WT l → 2 * l.length + 1 ≤ n → NZ (pAnds n l cs)
 | 0 => ⟨fun l h h1 => by have := wt_pos h; omega, fun l h h1 => by omega, fun l cs h h1 => by omega⟩
 | n + 1 => by
  obtain ⟨i1, i2, i3⟩ := nz_parse n
  refine ⟨fun l h h1 => ?_, fun l h h1 => ?_, fun l cs h h1 => ?_⟩
  ·unfold pSing
   split
   ·exact NZ.ok _ _
   split
   ·exact NZ.ok _ _
   split
   ·exact (nz_pName _).bind fun _ _ _ => (nz_pWant _ _).bind fun _ _ _ => NZ.ok _ _
   split
   ·rename_i h3
    obtain ⟨t1, t2⟩ := wt_tl h h3 (by decide)
    refine (nz_pName _).bind fun nm l1 e => ?_
    obtain ⟨q1, q2⟩ := shorter' (good_name t1) e
    exact (i1 l1 q1 (by omega)).bind fun _ _ _ => NZ.ok _ _
   split
   ·rename_i h3
    obtain ⟨t1, t2⟩ := wt_tl h h3 (by decide)
    exact (i2 l.tail t1 (by omega)).bind fun _ _ _ => (nz_pWant _ _).bind fun _ _ _ => NZ.ok _ _
   ·refine (nz_pName _).bind fun nm l1 e => ?_
    split
    ·exact (nz_pNum _ _).bind fun _ _ _ => (nz_pWant _ _).bind fun _ _ _ => (nz_pNum _ _).bind fun _ _ _ => NZ.ok _ _
    ·exact NZ.ok _ _
  ·unfold pCon
   refine (i1 l h (by omega)).bind fun c l1 e => ?_
   obtain ⟨q1, q2⟩ := shorter' ((good_parse n).1 l h) e
   exact i3 l1 _ q1 (by omega)
  ·unfold pAnds
   split
   ·rename_i h3
    obtain ⟨t1, t2⟩ := wt_tl h h3 (by decide)
    refine (i1 l.tail t1 (by omega)).bind fun c l1 e => ?_
    obtain ⟨q1, q2⟩ := shorter' ((good_parse n).1 l.tail t1) e
    exact i3 l1 _ q1 (by omega)
   ·exact NZ.ok _ _
theorem lexB_1 (x : List UInt8) : (lexB x).1 = (lexU x).1 := by rw [lexB_U]
theorem lexB_2 (x : List UInt8) : (lexB x).2 = [] ↔ (lexU x).2 = [] := by
 rw [lexB_U]
 cases (lexU x).2 with
 | nil => simp
 | cons a b => simp
theorem wt_end {r : List Tok} (h : WT r) (hk : (hT r).1 = 4) : ∃ a, r = [(4, [], a)] := by
 cases h with
 | fin a => exact ⟨a, rfl⟩
 | cons t q h1 h2 => rw [hT_cons] at hk; rcases h1.k with k | k | k <;> rw [k] at hk <;> cases hk
structure Accd (x : List UInt8) (c : C) : Prop where
 bad : (lexU x).2 = []
 wt : WT (lexU x).1
 con : pConcept (lexU x).1 = .ok c [(4, [], x.length)]
theorem con_acc {x : List UInt8} (hl : x.length ≤ 60000) {v : C} (h : ConA x v 0) : ∃ c, Accd x c ∧ checkS c = 0 ∧ tidyN c = some (nz v) := by
 obtain ⟨hw, _⟩ := lexB_wt (src := x) (by omega)
 rw [lexB_1] at hw
 unfold ConA at h
 split at h
 ·rename_i p q hb
  have hm : p ∈ (lexU x).2 := by
   have : p ∈ (lexB x).2 := by rw [hb]; simp
   rw [lexB_U] at this
   exact List.mem_of_mem_take this
  have := ((lex_cat x []).x2 p hm).2.2
  rw [this] at h; cases h
 ·rename_i hb
  rw [lexB_1] at h
  split at h
  ·rename_i a e r hp
   exact absurd h.symm ((nz_parse _).2.1 _ hw (Nat.le_refl _) _ _ _ hp)
  ·rename_i c r hp
   split at h
   ·rename_i hk
    have hg := good_concept hw
    rw [hp] at hg
    obtain ⟨g1, p, _, g3⟩ := hg
    obtain ⟨a, rfl⟩ := wt_end g1 hk
    have hx1 := (lex_cat x []).x1
    have ha : a = x.length := by
     rw [g3] at hx1
     have := (List.append_inj' hx1 rfl).2
     simpa using this
    subst ha
    unfold TidyC at h
    split at h
    ·rename_i hc
     unfold TidyR at h
     split at h
     ·rename_i t ht
      exact ⟨c, ⟨(lexB_2 x).1 hb, hw, hp⟩, hc, by rw [ht, h.1]⟩
     ·cases h
    ·rename_i hc; exact absurd h.symm hc
   ·cases h
theorem Accd.single {x : List UInt8} {c : C} (h : Accd x c) {n : Nat} (hn : 2 * (lexU x).1.length + 1 ≤ n) {p' : List Tok} (hp' : p'.map tkOf = (body x).map tkOf) (k1 k2 : Int) (a1 a2 : Nat) (q : List Tok) :
  pSing (n + 1) ((k1, [40], a1) :: (p' ++ (k2, [41], a2) :: q)) = .ok c q := by
 have h1 : pCon n (lexU x).1 = .ok c [(4, [], x.length)] := by rw [pConcept_eq h.wt hn]; exact h.con
 obtain ⟨p, e1, e2⟩ := (free_parse n).2.1 _ h.wt c _ h1
 have hx1 := (lex_cat x []).x1
 have hpb : p = body x := by rw [e1] at hx1; exact (List.append_inj' hx1 rfl).1
 have h2 := e2 p' ((k2, [41], a2) :: q) (by rw [hp', hpb]) (by rw [txt_cons]; show ([41] : List UInt8) ∉ [inB, andW]; decide)
 have t1 : ¬ ([40] : List UInt8) = evW := by decide
 have t2 : ¬ ([40] : List UInt8) = notW := by decide
 have t3 : ¬ ([40] : List UInt8) = someW := by decide
 simp only [pSing, txt_cons, t1, t2, t3, if_false, if_true, List.tail_cons, h2, PR.bind_ok, pWant, List.cons.injEq, reduceCtorEq]
 simp
theorem tk_sh (k : Nat) (l : List Tok) : (l.map (shT k)).map tkOf = l.map tkOf := by
 rw [List.map_map]; rfl
theorem lex_sp (z : List UInt8) : (lexU (32 :: z)).1 = (lexU z).1.map (shT 1) ∧ (lexU (32 :: z)).2 = (lexU z).2.map (shP 1) := by
 have h2 := lexU_eq (32 :: z) (n := z.length + 2) (by simp)
 have h3 := lexR_blank (n := z.length + 2) [32] z (a := 0) (la := -1) (by decide)
 have h4 := lexR_shift 1 (z.length + 2) z 0 (-1) (-1) (.inr ⟨by decide, by decide⟩)
 rw [lexU_eq z (by omega)] at h4
 rw [show (32 :: z) = [32] ++ z from rfl, h3] at h2
 simp only [List.length_cons, List.length_nil, Nat.zero_add] at h2 h4
 rw [h4] at h2
 have h5 := Option.some.inj h2
 exact ⟨by rw [show (32 :: z) = [32] ++ z from rfl, ← h5], by rw [show (32 :: z) = [32] ++ z from rfl, ← h5]⟩
theorem scan_and (z : List UInt8) : scanS (97 :: 110 :: 100 :: 32 :: z) = (1, 3) := by
 have hr : runS (97 :: 110 :: 100 :: 32 :: z) = 3 := by
  rw [runS_cons, if_pos (by decide), runS_cons, if_pos (by decide), runS_cons, if_pos (by decide), runS_cons, if_neg (by decide)]
 rw [scan_cons, if_pos (by decide), hr]
 simp only [List.drop_succ_cons, List.drop_zero]
 cases z with
 | nil => rfl
 | cons e q => simp
theorem lex_and (z : List UInt8) : (lexU (97 :: 110 :: 100 :: 32 :: z)).1 = (1, andW, 0) :: (lexU (32 :: z)).1.map (shT 3) ∧ (lexU (97 :: 110 :: 100 :: 32 :: z)).2 = (lexU (32 :: z)).2.map (shP 3) := by
 have h2 := lexU_eq (97 :: 110 :: 100 :: 32 :: z) (n := z.length + 5) (by simp)
 have hdw : (97 :: 110 :: 100 :: 32 :: z).dropWhile blkB = 97 :: 110 :: 100 :: 32 :: z := by rw [List.dropWhile_cons]; simp [show blkB 97 = false by decide]
 rw [lexR, hdw] at h2
 simp only [show ¬ clsB 97 = 2 by decide, if_false, scan_and, Nat.sub_self, Nat.add_zero, Nat.zero_add, List.drop_succ_cons, List.drop_zero] at h2
 rw [if_neg (by decide)] at h2
 have h3 := lexR_shift 3 (z.length + 4) (32 :: z) 0 (-1) (-1) (.inr ⟨by decide, by decide⟩)
 rw [Nat.zero_add] at h3
 rw [h3, lexU_eq (32 :: z) (by simp)] at h2
 simp only [Option.map_some] at h2
 have h4 := Option.some.inj h2
 exact ⟨by rw [← h4]; rfl, by rw [← h4]⟩
def oneX (x : List UInt8) : List UInt8 := 40 :: (x ++ [10, 41])
def twoX (x y : List UInt8) : List UInt8 := 40 :: (x ++ 10 :: 41 :: 32 :: 97 :: 110 :: 100 :: 32 :: 40 :: (y ++ [10, 41]))
theorem lex_oneX (x : List UInt8) : ∃ p a1 a2, p.map tkOf = (body x).map tkOf ∧ (lexU (oneX x)).1 = (3, [40], 0) :: (p ++ (3, [41], a1) :: [(4, [], a2)]) ∧ ((lexU x).2 = [] → (lexU (oneX x)).2 = []) := by
 obtain ⟨h1, h2⟩ := lex_sign (c := 40) (by decide) (x ++ [10, 41])
 obtain ⟨h3, h4⟩ := lex_sign (c := 41) (by decide) []
 have hc := lex_cat x [41]
 refine ⟨(body x).map (shT 1), 0 + (x.length + 1) + 1, 0 + 1 + (x.length + 1) + 1, tk_sh 1 _, ?_, fun hb => ?_⟩
 ·unfold oneX
  rw [h1, hc.t, h3]
  simp only [List.map_append, List.map_cons, List.map_nil, lex_nil, shT]
 ·unfold oneX
  rw [h2, hc.p, hb, h4, lex_nil]; rfl
theorem lex_twoX (x y : List UInt8) : ∃ p q a1 a2 a3 a4 a5, p.map tkOf = (body x).map tkOf ∧ q.map tkOf = (body y).map tkOf ∧
  (lexU (twoX x y)).1 = (3, [40], 0) :: (p ++ (3, [41], a1) :: (1, andW, a2) :: (3, [40], a3) :: (q ++ (3, [41], a4) :: [(4, [], a5)])) ∧ ((lexU x).2 = [] → (lexU y).2 = [] → (lexU (twoX x y)).2 = []) := by
 obtain ⟨r, b1, b2, g1, g2, g3⟩ := lex_oneX y
 obtain ⟨h1, h2⟩ := lex_sign (c := 40) (by decide) (x ++ 10 :: 41 :: 32 :: 97 :: 110 :: 100 :: 32 :: 40 :: (y ++ [10, 41]))
 obtain ⟨h3, h4⟩ := lex_sign (c := 41) (by decide) (32 :: 97 :: 110 :: 100 :: 32 :: 40 :: (y ++ [10, 41]))
 obtain ⟨h5, h6⟩ := lex_sp (97 :: 110 :: 100 :: 32 :: 40 :: (y ++ [10, 41]))
 obtain ⟨h7, h8⟩ := lex_and (40 :: (y ++ [10, 41]))
 obtain ⟨h9, h10⟩ := lex_sp (40 :: (y ++ [10, 41]))
 have hc := lex_cat x (41 :: 32 :: 97 :: 110 :: 100 :: 32 :: 40 :: (y ++ [10, 41]))
 unfold oneX at g2 g3
 refine ⟨(body x).map (shT 1), (((((r.map (shT 1)).map (shT 3)).map (shT 1)).map (shT 1)).map (shT (x.length + 1))).map (shT 1), 0 + (x.length + 1) + 1, 0 + 1 + 1 + (x.length + 1) + 1, 0 + 1 + 3 + 1 + 1 + (x.length + 1) + 1, b1 + 1 + 3 + 1 + 1 + (x.length + 1) + 1, b2 + 1 + 3 + 1 + 1 + (x.length + 1) + 1, tk_sh 1 _, ?_, ?_, fun hb hb' => ?_⟩
 ·simp only [tk_sh, g1]
 ·unfold twoX
  rw [h1, hc.t, h3, h5, h7, h9, g2]
  simp only [List.map_append, List.map_cons, List.map_nil, shT]
 ·unfold twoX
  rw [h2, hc.p, hb, h4, h6, h8, h10, g3 hb']; rfl
theorem Accd.one {x : List UInt8} {c : C} (h : Accd x c) (hl : (oneX x).length ≤ 60000) : (lexB (oneX x)).2 = [] ∧ ∃ r, pConcept (lexB (oneX x)).1 = .ok c r ∧ (hT r).1 = 4 := by
 obtain ⟨p, a1, a2, e1, e2, e3⟩ := lex_oneX x
 obtain ⟨hw, _⟩ := lexB_wt (src := oneX x) (by omega)
 refine ⟨(lexB_2 _).2 (e3 h.bad), [(4, [], a2)], ?_, rfl⟩
 rw [lexB_1] at hw ⊢
 generalize hN : 2 * (lexU x).1.length + 1 + 2 * (lexU (oneX x)).1.length + 1 = N
 rw [← pConcept_eq hw (n := N + 2) (by omega), e2]
 have hs := h.single (n := N) (by omega) e1 3 3 0 a1 [(4, [], a2)]
 have h2 : ¬ ([] : List UInt8) = andW := by decide
 rw [pCon, hs, PR.bind_ok, pAnds, txt_cons, if_neg h2]
 rfl
theorem Accd.two {x y : List UInt8} {c d : C} (h : Accd x c) (h' : Accd y d) (hl : (twoX x y).length ≤ 60000) : (lexB (twoX x y)).2 = [] ∧ ∃ r, pConcept (lexB (twoX x y)).1 = .ok (.mk 5 [] 0 0 false [c, d]) r ∧ (hT r).1 = 4 := by
 obtain ⟨p, q, a1, a2, a3, a4, a5, e1, e1', e2, e3⟩ := lex_twoX x y
 obtain ⟨hw, _⟩ := lexB_wt (src := twoX x y) (by omega)
 refine ⟨(lexB_2 _).2 (e3 h.bad h'.bad), [(4, [], a5)], ?_, rfl⟩
 rw [lexB_1] at hw ⊢
 generalize hN : 2 * (lexU x).1.length + 1 + 2 * (lexU y).1.length + 1 + 2 * (lexU (twoX x y)).1.length + 1 = N
 rw [← pConcept_eq hw (n := N + 3) (by omega), e2]
 have hs := h.single (n := N + 1) (by omega) e1 3 3 0 a1 ((1, andW, a2) :: (3, [40], a3) :: (q ++ (3, [41], a4) :: [(4, [], a5)]))
 have hs' := h'.single (n := N) (by omega) e1' 3 3 a3 a4 [(4, [], a5)]
 have h2 : ¬ ([] : List UInt8) = andW := by decide
 rw [pCon, hs, PR.bind_ok, pAnds, txt_cons, if_pos rfl, List.tail_cons, hs', PR.bind_ok, pAnds, txt_cons, if_neg h2]
 rfl
theorem check_pair {a b : C} (z : Bool) (ha : checkS a = 0) (hb : checkS b = 0) : checkS (.mk 5 [] 0 0 z [a, b]) = 0 ∨ checkS (.mk 5 [] 0 0 z [a, b]) = 21 := by
 have wa : walkS a = 0 := by unfold checkS at ha; split at ha; cases ha; exact ha
 have wb : walkS b = 0 := by unfold checkS at hb; split at hb; cases hb; exact hb
 unfold checkS
 split
 ·exact .inr rfl
 ·left
  rw [walkS_eq, if_neg (by simp [shapeS, C.kind, C.lo, C.hi, C.name, C.parts]), if_neg (by simp [namedS, C.kind])]
  simp [C.parts, walkSL, wa, wb]
theorem conj_law {x y : List UInt8} (hl : x.length + y.length ≤ 3000) {a b one c d : C} {g h i : Int} (ha : ConA x a 0) (hb : ConA y b 0) (h1 : ConA (oneX x) one g) (h2 : ConA (twoX x y) c h) (h3 : TidyC (.mk 5 [] 0 0 false [a, b]) d i) :
  g = 0 ∧ cmpT one a = 0 ∧ (i = 0 → h = 0 → cmpT c d = 0) ∧ (h = 0 ∨ h = 21 ∨ h = 2) := by
 obtain ⟨a0, qa, ca, ta⟩ := con_acc (by omega) ha
 obtain ⟨b0, qb, cb, tb⟩ := con_acc (by omega) hb
 have l1 : (oneX x).length ≤ 60000 := by simp [oneX]; omega
 have l2 : (twoX x y).length ≤ 60000 := by simp [twoX]; omega
 obtain ⟨o1, r1, o2, o3⟩ := qa.one l1
 obtain ⟨p1, r2, p2, p3⟩ := qa.two qb l2
 unfold ConA at h1 h2
 rw [o1] at h1; rw [p1] at h2
 simp only [o2, o3, if_true] at h1
 simp only [p2, p3, if_true] at h2
 have k1 : nz one = nz a ∧ g = 0 := by
  unfold TidyC at h1
  rw [if_pos ca] at h1
  unfold TidyR at h1
  rw [ta] at h1
  exact h1
 refine ⟨k1.2, (cmpT_zero _ _).2 k1.1, fun hi hh => ?_, ?_⟩
 ·subst hi hh
  have e := tidy_pair ta tb (a' := a) (b' := b) rfl rfl false false
  have f1 : tidyN (.mk 5 [] 0 0 false [a0, b0]) = some (nz c) := by
   unfold TidyC at h2
   split at h2
   ·unfold TidyR at h2
    split at h2
    ·rename_i t ht; rw [ht, h2.1]
    ·cases h2
   ·rename_i hc; exact absurd h2.symm hc
  have f2 : tidyN (.mk 5 [] 0 0 false [a, b]) = some (nz d) := by
   unfold TidyC at h3
   split at h3
   ·unfold TidyR at h3
    split at h3
    ·rename_i t ht; rw [ht, h3.1]
    ·cases h3
   ·rename_i hc; exact absurd h3.symm hc
  rw [e, f1] at f2
  exact (cmpT_zero _ _).2 (Option.some.inj f2)
 ·unfold TidyC at h2
  split at h2
  ·unfold TidyR at h2
   split at h2
   ·exact .inl h2.2
   ·exact .inr (.inr h2)
  ·rename_i hc
   rcases check_pair false ca cb with q | q
   ·exact absurd q hc
   ·exact .inr (.inl (h2.trans q))
end Go.Ai.Z
