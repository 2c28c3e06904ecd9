/-
 The plain parser: what follows a concept matters by its first text alone.
-/
import Derived.Test.YtpnlnnfcaeednaaGreatDoorAiY6Y7Y8
import Derived.Test.YtpnlnnfcaeednaaGreatDoorAiT8
set_option maxRecDepth 100000
set_option linter.unusedSimpArgs false
set_option linter.unusedVariables false
set_option linter.unusedSectionVars false
namespace Go.Ai.Z
def tkOf (t : Tok) : Tk := (t.1, t.2.1)
theorem cons_of_map {t : Tok} {p p' : List Tok} (h : p'.map tkOf = (t :: p).map tkOf) : ∃ t' q, p' = t' :: q ∧ t'.1 = t.1 ∧ t'.2.1 = t.2.1 ∧ q.map tkOf = p.map tkOf := by
 cases p' with
 | nil => simp at h
 | cons t' q =>
  simp only [List.map_cons, List.cons.injEq] at h
  have h1 := h.1
  simp only [tkOf, Prod.mk.injEq] at h1
  exact ⟨t', q, rfl, h1.1, h1.2, h.2⟩
def Free {α : Type} (f : List Tok → PR α) (ws : List (List UInt8)) (l : List Tok) : Prop :=
 ∀ v r, f l = .ok v r → ∃ p, l = p ++ r ∧ ∀ p' r' : List Tok, p'.map tkOf = p.map tkOf → txt r' ∉ ws → f (p' ++ r') = .ok v r'
theorem tail_of {l : List Tok} (h : WT l) {w : List UInt8} (hw : txt l = w) (hn : w ≠ []) : ∃ t q, l = t :: q ∧ t.2.1 = w ∧ WT q := by
 obtain ⟨t, q, rfl, _, hq⟩ := h.tl (.inl (by rw [hw]; exact hn))
 exact ⟨t, q, rfl, hw, hq⟩
theorem free_name {l : List Tok} (h : WT l) : Free pName [] l := by
 intro v r e
 unfold pName at e
 split at e
 ·rename_i h1
  obtain ⟨t, q, rfl, _, hq⟩ := h.tl (.inr (by rw [h1.1]; decide))
  split at e
  ·rename_i h2
   cases e
   refine ⟨[t], rfl, fun p' r' hp _ => ?_⟩
   obtain ⟨t', q', rfl, k1, k2, k3⟩ := cons_of_map hp
   have : q' = [] := by simpa using k3
   subst this
   simp only [hT_cons, txt_cons] at h1 h2
   simp only [List.cons_append, List.nil_append, pName, hT_cons, txt_cons, k1, k2, h1, h2, and_self, if_true, List.tail_cons]
  ·cases e
 ·cases e
theorem free_want {w : List UInt8} (hw : w ≠ []) {l : List Tok} (h : WT l) : Free (pWant w) [] l := by
 intro v r e
 unfold pWant at e
 split at e
 ·rename_i h1
  obtain ⟨t, q, rfl, h2, _⟩ := tail_of h h1 hw
  cases e
  refine ⟨[t], rfl, fun p' r' hp _ => ?_⟩
  obtain ⟨t', q', rfl, k1, k2, k3⟩ := cons_of_map hp
  have : q' = [] := by simpa using k3
  subst this
  simp only [List.cons_append, List.nil_append, pWant, txt_cons, k2, h2, if_true, List.tail_cons]
 ·cases e
theorem free_num {least : Int} {l : List Tok} (h : WT l) : Free (pNum least) [] l := by
 intro v r e
 unfold pNum at e
 split at e
 ·rename_i h1
  obtain ⟨t, q, rfl, _, hq⟩ := h.tl (.inr (by rw [h1]; decide))
  split at e
  ·rename_i n hn
   split at e
   ·cases e
   ·rename_i h2
    cases e
    refine ⟨[t], rfl, fun p' r' hp _ => ?_⟩
    obtain ⟨t', q', rfl, k1, k2, k3⟩ := cons_of_map hp
    have : q' = [] := by simpa using k3
    subst this
    simp only [hT_cons, txt_cons] at h1 hn
    simp only [List.cons_append, List.nil_append, pNum, hT_cons, txt_cons, k1, k2, h1, hn, if_true, List.tail_cons]
    rw [if_neg h2]
  ·cases e
 ·cases e
theorem Free.bind {α β : Type} {f : List Tok → PR α} {g : α → List Tok → PR β} {ws vs : List (List UInt8)} {l : List Tok} (hf : Free f vs l) (hg : ∀ v r, f l = .ok v r → Free (g v) ws r)
  (hv : ∀ v r u q, f l = .ok v r → g v r = .ok u q → (r = q → ∀ r' : List Tok, txt r' ∉ ws → txt r' ∉ vs) ∧ (r ≠ q → txt r ∉ vs)) : Free (fun l => (f l).bind g) ws l := by
 intro u q e
 obtain ⟨v, r, e1, e2⟩ := bind_ok_iff.1 e
 obtain ⟨p1, h1, k1⟩ := hf v r e1
 obtain ⟨p2, h2, k2⟩ := hg v r e1 u q e2
 obtain ⟨hv1, hv2⟩ := hv v r u q e1 e2
 refine ⟨p1 ++ p2, by rw [h1, h2]; simp, fun p' r' hp hr => ?_⟩
 rw [List.map_append] at hp
 obtain ⟨a, b, rfl, ha, hb⟩ := List.map_eq_append_iff.1 hp
 have hmid : txt (b ++ r') ∉ vs := by
  cases p2 with
  | nil =>
   have : b = [] := by simpa using hb
   subst this
   exact hv1 h2 r' hr
  | cons t p2 =>
   obtain ⟨t', q', rfl, _, k4, _⟩ := cons_of_map hb
   have := hv2 (by rw [h2]; intro hh; have := congrArg List.length hh; simp at this; omega)
   rw [h2] at this
   simpa [k4] using this
 show (f (a ++ b ++ r')).bind g = _
 rw [List.append_assoc, k1 a (b ++ r') ha hmid]
 exact k2 b r' hb hr
theorem Free.ok {α : Type} (v : α) (ws : List (List UInt8)) (l : List Tok) : Free (fun l => PR.ok v l) ws l := by
 intro u r e
 cases e
 refine ⟨[], rfl, fun p' r' hp _ => ?_⟩
 have : p' = [] := by simpa using hp
 subst this; rfl
theorem Free.tok {α : Type} {f : List Tok → PR α} {ws : List (List UInt8)} {l : List Tok} {w : List UInt8} (h : WT l) (hw : txt l = w) (hn : w ≠ []) (hf : WT l.tail → Free f ws l.tail) : Free (fun l => f l.tail) ws l := by
 obtain ⟨t, q, rfl, h2, hq⟩ := tail_of h hw hn
 intro v r e
 obtain ⟨p, h3, h4⟩ := hf hq v r e
 refine ⟨t :: p, by rw [List.tail_cons] at h3; rw [h3]; rfl, fun p' r' hp hr => ?_⟩
 obtain ⟨t', q', rfl, k1, k2, k3⟩ := cons_of_map hp
 exact h4 q' r' k3 hr
theorem Free.congr {α : Type} {f g : List Tok → PR α} {ws : List (List UInt8)} {l : List Tok} (hg : Free g ws l) (h1 : f l = g l) (hlen : ∀ v r, g l = .ok v r → r.length < l.length) (h2 : ∀ t q, t.1 = (hT l).1 → t.2.1 = txt l → f (t :: q) = g (t :: q)) : Free f ws l := by
 intro v r e
 rw [h1] at e
 obtain ⟨p, h3, h4⟩ := hg v r e
 refine ⟨p, h3, fun p' r' hp hr => ?_⟩
 have hl := hlen v r e
 cases p with
 | nil => rw [List.nil_append] at h3; rw [h3] at hl; omega
 | cons t p =>
  obtain ⟨t', q', rfl, k1, k2, k3⟩ := cons_of_map hp
  have : f (t' :: q' ++ r') = g (t' :: q' ++ r') := h2 t' (q' ++ r') (by rw [k1, h3]; rfl) (by rw [k2, h3]; rfl)
  rw [this]; exact h4 _ r' hp hr
theorem len_of {α : Type} {l r : List Tok} {x : PR α} {v : α} (hg : Good' l x) (e : x = .ok v r) : WT r ∧ r.length < l.length := by
 rw [e] at hg
 obtain ⟨h1, p, h2, h3⟩ := hg
 refine ⟨h1, ?_⟩
 rw [h3]
 cases p with
 | nil => exact absurd rfl h2
 | cons a p => simp; omega
theorem want_txt {w : List UInt8} {l r : List Tok} {u : Unit} (h : pWant w l = .ok u r) : txt l = w := by
 unfold pWant at h
 split at h
 ·rename_i h1; exact h1
 ·cases h
theorem free_and (n : Nat) (l : List Tok) (cs : List C) {c : C} {r : List Tok} (h : pAnds n l cs = .ok c r) (hne : l ≠ r) : txt l = andW := by
 cases n with
 | zero => unfold pAnds at h; cases h
 | succ n =>
  unfold pAnds at h
  split at h
  ·rename_i h1; exact h1
  ·cases h; exact absurd rfl hne
def afterName (nm : List UInt8) (l1 : List Tok) : PR C :=
 if txt l1 = inB then (pNum (-1099511627776) l1.tail).bind fun lo l2 => (pWant toW l2).bind fun _ l3 => (pNum lo l3).bind fun hi l4 => .ok (.mk 7 nm lo hi true []) l4
 else .ok (.mk 3 nm 0 0 true []) l1
theorem free_after (nm : List UInt8) {l : List Tok} (h : WT l) : Free (afterName nm) [inB] l := by
 by_cases h1 : txt l = inB
 ·have hg : Free (fun l : List Tok => (pNum (-1099511627776) l.tail).bind fun lo l2 => (pWant toW l2).bind fun _ l3 => (pNum lo l3).bind fun hi l4 => PR.ok (C.mk 7 nm lo hi true []) l4) [inB] l := by
   refine Free.tok (f := fun l => (pNum (-1099511627776) l).bind fun lo l2 => (pWant toW l2).bind fun _ l3 => (pNum lo l3).bind fun hi l4 => PR.ok (C.mk 7 nm lo hi true []) l4) h h1 (by decide) fun hq => ?_
   refine (free_num hq).bind (fun lo l2 e2 => ?_) (fun _ _ _ _ _ _ => ⟨fun _ _ _ => by simp, fun _ => by simp⟩)
   have w2 := (len_of (good_num hq) e2).1
   refine (free_want (by decide) w2).bind (fun u l3 e3 => ?_) (fun _ _ _ _ _ _ => ⟨fun _ _ _ => by simp, fun _ => by simp⟩)
   have w3 := (len_of (good_want (by decide) w2) e3).1
   exact (free_num w3).bind (fun hi l4 e4 => Free.ok _ _ _) (fun _ _ _ _ _ _ => ⟨fun _ _ _ => by simp, fun _ => by simp⟩)
  refine hg.congr (by unfold afterName; rw [if_pos h1]) (fun v r e => ?_) (fun t q _ k2 => by unfold afterName; rw [if_pos (by rw [txt_cons, k2, h1])])
  obtain ⟨t, q, rfl, _, hq⟩ := tail_of h h1 (by decide)
  have hgd : Good' (t :: q) ((pNum (-1099511627776) q).bind fun lo l2 => (pWant toW l2).bind fun _ l3 => (pNum lo l3).bind fun hi l4 => PR.ok (C.mk 7 nm lo hi true []) l4) :=
   Good'.tok h (.inl (by rw [h1]; decide)) fun r hr e => by
    have e' : r = q := e
    rw [← e']
    exact ((good_num hr).bind fun lo l2 _ h2 => ((good_want (by decide) h2).bind fun _ l3 _ h3 => ((good_num h3).bind fun hi l4 _ h4 => good_ok _ h4).zero).zero).zero
  exact (len_of hgd e).2
 ·intro v r e
  unfold afterName at e
  rw [if_neg h1] at e
  cases e
  refine ⟨[], rfl, fun p' r' hp hr => ?_⟩
  have : p' = [] := by simpa using hp
  subst this
  unfold afterName
  rw [List.nil_append, if_neg (by simpa using hr)]
theorem free_parse : ∀ n : Nat, (∀ l, WT l → Free (pSing n) [inB] l) ∧ (∀ l, WT l → Free (pCon n) [inB, andW] l) ∧ ∀ cs l, WT l → Free (fun l => pAnds n l cs) [inB, andW] l
 | 0 => ⟨fun l _ v r e => (by unfold pSing at e; cases e), fun l _ v r e => (by unfold pCon at e; cases e), fun cs l _ v r e => (by simp only [pAnds] at e; cases e)⟩
 | n + 1 => by
  obtain ⟨i1, i2, i3⟩ := free_parse n
  have hl := (good_parse (n + 1)).1
  refine ⟨fun l h => ?_, fun l h => ?_, fun cs l h => ?_⟩
  ·by_cases h1 : txt l = evW
   ·refine (Free.tok (f := fun l => PR.ok (C.mk 1 [] 0 0 true []) l) h h1 (by decide) fun hq => Free.ok _ _ _).congr (by unfold pSing; rw [if_pos h1]) (fun v r e => ?_) (fun t q _ k2 => by unfold pSing; rw [if_pos (by rw [txt_cons, k2, h1])])
    cases e
    obtain ⟨t, q, rfl, _, hq⟩ := tail_of h h1 (by decide)
    simp
   by_cases h2 : txt l = notW
   ·refine (Free.tok (f := fun l => PR.ok (C.mk 2 [] 0 0 true []) l) h h2 (by decide) fun hq => Free.ok _ _ _).congr (by unfold pSing; rw [if_neg h1, if_pos h2]) (fun v r e => ?_) (fun t q _ k2 => by unfold pSing; rw [if_neg (by rw [txt_cons, k2]; exact h1), if_pos (by rw [txt_cons, k2, h2])])
    cases e
    obtain ⟨t, q, rfl, _, hq⟩ := tail_of h h2 (by decide)
    simp
   by_cases h3 : txt l = [123]
   ·have e0 : pSing (n + 1) l = (pName l.tail).bind fun nm l1 => (pWant [125] l1).bind fun _ l2 => .ok (.mk 4 nm 0 0 true []) l2 := by rw [pSing]; rw [if_neg h1, if_neg h2, if_pos h3]
    refine (Free.tok (f := fun l => (pName l).bind fun nm l1 => (pWant [125] l1).bind fun _ l2 => PR.ok (C.mk 4 nm 0 0 true []) l2) h h3 (by decide) fun hq => ?_).congr e0 (fun v r e => (len_of (hl l h) (e0.trans e)).2)
     (fun t q _ k2 => by rw [pSing]; rw [if_neg (by rw [txt_cons, k2]; exact h1), if_neg (by rw [txt_cons, k2]; exact h2), if_pos (by rw [txt_cons, k2, h3])])
    refine (free_name hq).bind (fun nm l1 e1 => ?_) (fun _ _ _ _ _ _ => ⟨fun _ _ _ => by simp, fun _ => by simp⟩)
    exact (free_want (by decide) (len_of (good_name hq) e1).1).bind (fun u l2 e2 => Free.ok _ _ _) (fun _ _ _ _ _ _ => ⟨fun _ _ _ => by simp, fun _ => by simp⟩)
   by_cases h4 : txt l = someW
   ·have e0 : pSing (n + 1) l = (pName l.tail).bind fun nm l1 => (pSing n l1).bind fun c l2 => .ok (.mk 6 nm 0 0 false [c]) l2 := by rw [pSing]; rw [if_neg h1, if_neg h2, if_neg h3, if_pos h4]
    refine (Free.tok (f := fun l => (pName l).bind fun nm l1 => (pSing n l1).bind fun c l2 => PR.ok (C.mk 6 nm 0 0 false [c]) l2) h h4 (by decide) fun hq => ?_).congr e0 (fun v r e => (len_of (hl l h) (e0.trans e)).2)
     (fun t q _ k2 => by rw [pSing]; rw [if_neg (by rw [txt_cons, k2]; exact h1), if_neg (by rw [txt_cons, k2]; exact h2), if_neg (by rw [txt_cons, k2]; exact h3), if_pos (by rw [txt_cons, k2, h4])])
    refine (free_name hq).bind (fun nm l1 e1 => ?_) (fun _ _ _ _ _ _ => ⟨fun _ _ _ => by simp, fun _ => by simp⟩)
    exact (i1 l1 (len_of (good_name hq) e1).1).bind (fun u l2 e2 => Free.ok _ _ _) (fun v r u q _ e3 => ⟨fun _ r' hr' => hr', fun hne => by cases e3; exact absurd rfl hne⟩)
   by_cases h5 : txt l = [40]
   ·have e0 : pSing (n + 1) l = (pCon n l.tail).bind fun c l1 => (pWant [41] l1).bind fun _ l2 => .ok c l2 := by rw [pSing]; rw [if_neg h1, if_neg h2, if_neg h3, if_neg h4, if_pos h5]
    refine (Free.tok (f := fun l => (pCon n l).bind fun c l1 => (pWant [41] l1).bind fun _ l2 => PR.ok c l2) h h5 (by decide) fun hq => ?_).congr e0 (fun v r e => (len_of (hl l h) (e0.trans e)).2)
     (fun t q _ k2 => by rw [pSing]; rw [if_neg (by rw [txt_cons, k2]; exact h1), if_neg (by rw [txt_cons, k2]; exact h2), if_neg (by rw [txt_cons, k2]; exact h3), if_neg (by rw [txt_cons, k2]; exact h4), if_pos (by rw [txt_cons, k2, h5])])
    refine (i2 _ hq).bind (fun c l1 e1 => ?_) (fun v r u q e1 e2 => ?_)
    ·exact (free_want (by decide) (len_of ((good_parse n).2.1 _ hq) e1).1).bind (fun u l2 e2 => Free.ok _ _ _) (fun _ _ _ _ _ _ => ⟨fun _ _ _ => by simp, fun _ => by simp⟩)
    ·obtain ⟨u', q', e3, e4⟩ := bind_ok_iff.1 e2
     cases e4
     have w1 := (len_of ((good_parse n).2.1 _ hq) e1).1
     have := (len_of (good_want (w := [41]) (by decide) w1) e3).2
     refine ⟨fun h => by rw [h] at this; omega, fun _ => ?_⟩
     rw [want_txt e3]; decide
   ·have e0 : pSing (n + 1) l = (pName l).bind afterName := by rw [pSing]; rw [if_neg h1, if_neg h2, if_neg h3, if_neg h4, if_neg h5]; rfl
    refine Free.congr (g := fun l => (pName l).bind afterName) ?_ e0 (fun v r e => (len_of (hl l h) (e0.trans e)).2)
     (fun t q _ k2 => by rw [pSing]; rw [if_neg (by rw [txt_cons, k2]; exact h1), if_neg (by rw [txt_cons, k2]; exact h2), if_neg (by rw [txt_cons, k2]; exact h3), if_neg (by rw [txt_cons, k2]; exact h4), if_neg (by rw [txt_cons, k2]; exact h5)]; rfl)
    exact (free_name h).bind (fun nm l1 e1 => free_after nm (len_of (good_name h) e1).1) (fun _ _ _ _ _ _ => ⟨fun _ _ _ => by simp, fun _ => by simp⟩)
  ·have e0 : pCon (n + 1) l = (pSing n l).bind fun c l1 => pAnds n l1 [c] := by rw [pCon]
   refine Free.congr (g := fun l => (pSing n l).bind fun c l1 => pAnds n l1 [c]) ?_ e0 (fun v r e => (len_of ((good_parse (n + 1)).2.1 l h) (e0.trans e)).2) (fun t q _ k2 => by rw [pCon])
   refine (i1 l h).bind (fun c l1 e1 => i3 [c] l1 (len_of ((good_parse n).1 l h) e1).1) (fun v r u q e1 e2 => ⟨fun _ r' hr' hm => hr' (by simp at hm ⊢; exact .inl hm), fun hne => ?_⟩)
   rw [free_and n r [v] e2 hne]; decide
  ·by_cases h1 : txt l = andW
   ·have e0 : pAnds (n + 1) l cs = (pSing n l.tail).bind fun c l1 => pAnds n l1 (cs ++ [c]) := by rw [pAnds]; rw [if_pos h1]
    obtain ⟨t, q, rfl, _, hq⟩ := tail_of h h1 (by decide)
    refine (Free.tok (f := fun l => (pSing n l).bind fun c l1 => pAnds n l1 (cs ++ [c])) h h1 (by decide) fun hq => ?_).congr e0 (fun v r e => ?_) (fun t q _ k2 => by rw [pAnds]; rw [if_pos (by rw [txt_cons, k2, h1])])
    ·refine (i1 _ hq).bind (fun c l1 e1 => i3 _ l1 (len_of ((good_parse n).1 _ hq) e1).1) (fun v r u q e1 e2 => ⟨fun _ r' hr' hm => hr' (by simp at hm ⊢; exact .inl hm), fun hne => ?_⟩)
     rw [free_and n r _ e2 hne]; decide
    ·have hg : Good' (t :: q) ((pSing n q).bind fun c l1 => pAnds n l1 (cs ++ [c])) := Good'.tok h (.inl (by rw [h1]; decide)) fun r hr e => by
      have e' : r = q := e
      rw [← e']
      exact (((good_parse n).1 r hr).bind fun c l1 _ h1 => (good_parse n).2.2 l1 _ h1).zero
     exact (len_of hg e).2
   ·intro v r e
    have e0 : pAnds (n + 1) l cs = .ok (andC cs) l := by rw [pAnds]; rw [if_neg h1]
    rw [show (fun l => pAnds (n + 1) l cs) l = pAnds (n + 1) l cs from rfl, e0] at e
    cases e
    refine ⟨[], rfl, fun p' r' hp hr => ?_⟩
    have : p' = [] := by simpa using hp
    subst this
    show pAnds (n + 1) ([] ++ r') cs = _
    rw [List.nil_append, pAnds, if_neg (fun hh => hr (by rw [hh]; simp))]
end Go.Ai.Z
namespace Go.Ai.Z
theorem compF_same {a b : C} (h : nz a = nz b) : ∀ l, compF a l = compF b l
 | [] => rfl
 | c :: r => by
  have e : (cmpT c a = 0) = (cmpT c b = 0) := by rw [cmpT_zero, cmpT_zero, h]
  simp only [compF, e]
theorem compF_twice (a : C) : ∀ l, compF a (compF a l) = compF a l
 | [] => rfl
 | b :: r => by
  have ih := compF_twice b r
  by_cases h : cmpT b a = 0
  ·have e : compF a (b :: r) = compF b r := by simp only [compF, if_pos h]
   rw [e, compF_same ((cmpT_zero b a).1 h).symm, ih]
  ·have e : compF a (b :: r) = b :: compF b r := by simp only [compF, if_neg h]
   rw [e]
   simp only [compF, if_neg h, ih]
theorem comp_twice (l : List C) : comp (comp l) = comp l := by
 cases l with
 | nil => rfl
 | cons a r => simp only [comp, compF_twice]
theorem isort_sorted : ∀ {l : List C}, SortedC l → isortC l = l
 | [], _ => rfl
 | x :: r, h => by
  obtain ⟨h1, h2⟩ := List.pairwise_cons.1 h
  rw [isortC, isort_sorted h2]
  cases r with
  | nil => rfl
  | cons y r =>
   have := h1 y (by simp)
   have ha := cmp3_all.anti x y trivial trivial
   have hb := cmp3_all.anti y x trivial trivial
   rw [insC, if_neg (by omega)]
structure Atom (p : C) : Prop where
 fx : tidyN p = some p
 k1 : p.kind ≠ 1
 k5 : p.kind ≠ 5
structure Canon (t : C) : Prop where
 fx : tidyN t = some t
 p : t.kind = 5 → ∀ p ∈ t.parts, Atom p
theorem flat_atom {q : C} (h : Canon q) : ∀ p ∈ flatOf q, Atom p := by
 intro p hp
 unfold flatOf at hp
 split at hp
 ·cases hp
 ·rename_i h1
  split at hp
  ·rename_i h5; exact h.p h5 p hp
  ·rename_i h5
   have : p = q := by simpa using hp
   rw [this]; exact ⟨h.fx, h1, h5⟩
theorem tidyNL_fix : ∀ {l : List C}, (∀ p ∈ l, tidyN p = some p) → tidyNL l = some l
 | [], _ => by simp [tidyNL]
 | p :: r, h => by
  have ih := tidyNL_fix (l := r) (fun q hq => h q (List.mem_cons_of_mem _ hq))
  simp only [tidyNL, h p (by simp), ih]
theorem flat_fix : ∀ {l : List C}, (∀ p ∈ l, Atom p) → l.flatMap flatOf = l
 | [], _ => rfl
 | p :: r, h => by
  have := h p (by simp)
  rw [List.flatMap_cons, flat_fix (fun q hq => h q (by simp [hq]))]
  simp only [flatOf, this.k1, this.k5, if_false, List.cons_append, List.nil_append]
theorem meet_canon {qs : List C} {t : C} (hq : ∀ q ∈ qs, Canon q) (h : meetN qs = some t) : Canon t := by
 have hL : ∀ p ∈ qs.flatMap flatOf, Atom p := by
  intro p hp
  obtain ⟨q, h1, h2⟩ := List.mem_flatMap.1 hp
  exact flat_atom (hq q h1) p h2
 unfold meetN at h
 simp only [] at h
 have hsub := comp_sub (isortC (qs.flatMap flatOf))
 have hsort : SortedC (comp (isortC (qs.flatMap flatOf))) := (isortC_sorted _).sublist hsub
 have htwice := comp_twice (isortC (qs.flatMap flatOf))
 have hm : ∀ p ∈ comp (isortC (qs.flatMap flatOf)), Atom p := fun p hp => hL p ((isortC_perm _).mem_iff.1 (hsub.mem hp))
 generalize comp (isortC (qs.flatMap flatOf)) = m at *
 cases hf : m.find? (fun t => decide (t.kind = 2)) with
 | some x =>
  rw [hf] at h
  cases h
  have := hm t (List.mem_of_find?_eq_some hf)
  exact ⟨this.fx, fun h5 => absurd h5 this.k5⟩
 | none =>
  rw [hf] at h
  rcases m with _ | ⟨x, _ | ⟨y, r⟩⟩
  ·cases h
   exact ⟨rfl, fun h5 => by cases h5⟩
  ·cases h
   have := hm t (by simp)
   exact ⟨this.fx, fun h5 => absurd h5 this.k5⟩
  ·simp only [] at h
   split at h
   ·cases h
   ·rename_i h8
    cases h
    refine ⟨?_, fun _ p hp => hm p hp⟩
    have e1 : tidyNL (x :: y :: r) = some (x :: y :: r) := tidyNL_fix fun p hp => (hm p hp).fx
    have e2 := flat_fix hm
    have e3 := isort_sorted hsort
    rw [tidyN]
    simp only [show ¬ (5 : Int) = 6 by decide, if_false, if_true, e1, meetN, e2, e3, htwice, hf, h8]
theorem canon : ∀ c t : C, tidyN c = some t → Canon t := by
 refine C.ind' fun c ih t h => ?_
 have ihl : ∀ l : List C, (∀ p ∈ l, ∀ t, tidyN p = some t → Canon t) → ∀ qs, tidyNL l = some qs → ∀ q ∈ qs, Canon q := by
  intro l
  induction l with
  | nil => intro _ qs h q hq; simp [tidyNL] at h; subst h; cases hq
  | cons p r ihr =>
   intro hp qs h q hq
   simp only [tidyNL] at h
   cases h1 : tidyN p with
   | none => rw [h1] at h; cases h
   | some x =>
    rw [h1] at h
    cases h2 : tidyNL r with
    | none => rw [h2] at h; cases h
    | some xs =>
     rw [h2] at h
     cases h
     rcases List.mem_cons.1 hq with rfl | hq
     ·exact hp p (by simp) _ h1
     ·exact ihr (fun p' hp' => hp p' (by simp [hp'])) xs h2 q hq
 have hps := ihl c.parts ih
 clear ihl
 cases c with
 | mk k n l hh z ps =>
  simp only [C.parts] at hps
  rw [tidyN] at h
  split at h
  ·rename_i k6
   cases h1 : tidyNL ps with
   | none => rw [h1] at h; cases h
   | some qs =>
    rw [h1] at h
    cases qs with
    | nil => cases h
    | cons p r =>
     have hc := hps _ h1 p (by simp)
     simp only [] at h
     split at h
     ·cases h; exact hc
     ·rename_i k2
      cases h
      refine ⟨?_, fun h5 => by cases h5⟩
      rw [tidyN]
      simp only [if_true, tidyNL, hc.fx, k2, if_false]
  ·split at h
   ·cases h1 : tidyNL ps with
    | none => rw [h1] at h; cases h
    | some qs => rw [h1] at h; exact meet_canon (hps _ h1) h
   ·rename_i k6 k5
    cases h
    have hk : (nz (.mk k n l hh z ps)).kind = k := nz_kind _
    refine ⟨?_, fun h5 => absurd (hk.symm.trans h5) k5⟩
    rw [← tidyN_nz, nz_nz]
    rw [tidyN_nz, tidyN]
    rw [if_neg k6, if_neg k5]
theorem tidy_pair {a b x y : C} (ha : tidyN a = some x) (hb : tidyN b = some y) {a' b' : C} (h1 : nz a' = x) (h2 : nz b' = y) (z z' : Bool) : tidyN (.mk 5 [] 0 0 z [a', b']) = tidyN (.mk 5 [] 0 0 z' [a, b]) := by
 have q1 : tidyN a' = some x := by rw [← tidyN_nz, h1]; exact (canon a x ha).fx
 have q2 : tidyN b' = some y := by rw [← tidyN_nz, h2]; exact (canon b y hb).fx
 rw [tidyN, tidyN]
 simp only [tidyNL, q1, q2, ha, hb, show ¬ (5 : Int) = 6 by decide, if_false, if_true]
end Go.Ai.Z
