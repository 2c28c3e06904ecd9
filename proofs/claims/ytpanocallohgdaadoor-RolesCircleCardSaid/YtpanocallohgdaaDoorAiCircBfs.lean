/-
 Circles of steps of which one is strict, in plain words.
-/
import Derived.Test.YtpanocallohgdaaDoorAiRchR1
set_option maxRecDepth 100000
set_option linter.unusedSimpArgs false
set_option linter.unusedVariables false
namespace Go.Ai.Z
section
variable {α : Type} {E : List (α × α × Bool)}
inductive Wk (E : List (α × α × Bool)) : α → List α → α → Bool → Prop where
 | nil (c : α) : Wk E c [] c false
 | cons {c s : α} {f : Bool} {t : List α} {r : α} {b : Bool} (he : (c, s, f) ∈ E) (h : Wk E s t r b) : Wk E c (s :: t) r (f || b)
theorem Wk.append {c : α} {t : List α} {r : α} {b : Bool} (h : Wk E c t r b) {u : List α} {q : α} {b' : Bool} (h' : Wk E r u q b') : Wk E c (t ++ u) q (b || b') := by
 induction h with
 | nil => simpa using h'
 | cons he _ ih => rw [Bool.or_assoc]; exact .cons he (ih h')
theorem Wk.one {c s : α} {f : Bool} (h : (c, s, f) ∈ E) : Wk E c [s] s f := by
 have := Wk.cons h (.nil s)
 rwa [Bool.or_false] at this
theorem Wk.snoc {c : α} {t : List α} {r : α} {b : Bool} (h : Wk E c t r b) {s : α} {f : Bool} (he : (r, s, f) ∈ E) : Wk E c (t ++ [s]) s (b || f) := h.append (.one he)
theorem Wk.split {u : List α} {q : α} : ∀ {t : List α} {c : α} {b : Bool}, Wk E c (t ++ u) q b → ∃ r b1 b2, Wk E c t r b1 ∧ Wk E r u q b2 ∧ b = (b1 || b2)
 | [], c, b, h => ⟨c, false, b, .nil c, h, by simp⟩
 | s :: t, c, b, h => by
  cases h with
  | cons he h =>
   obtain ⟨r, b1, b2, h1, h2, rfl⟩ := Wk.split (t := t) h
   exact ⟨r, _, b2, .cons he h1, h2, by rw [Bool.or_assoc]⟩
theorem Wk.last {c : α} {t : List α} {x q : α} {b : Bool} (h : Wk E c (t ++ [x]) q b) : q = x := by
 obtain ⟨r, b1, b2, _, h2, _⟩ := h.split
 cases h2 with
 | cons h3 h4 => cases h4; rfl
theorem Wk.nil_eq {c q : α} {b : Bool} (h : Wk E c [] q b) : q = c ∧ b = false := by cases h; exact ⟨rfl, rfl⟩
theorem Wk.snoc_inv {c : α} {t : List α} {x q : α} {b : Bool} (h : Wk E c (t ++ [x]) q b) : ∃ r b1 f, Wk E c t r b1 ∧ (r, x, f) ∈ E ∧ b = (b1 || f) ∧ q = x := by
 obtain ⟨r, b1, b2, h1, h2, rfl⟩ := h.split
 cases h2 with
 | cons he h4 => cases h4; exact ⟨r, b1, _, h1, he, by simp, rfl⟩
def Circ (E : List (α × α × Bool)) (l : List α) : Prop := ∃ c t r b f, l = c :: t ∧ Wk E c t r b ∧ (r, c, f) ∈ E ∧ (b || f) = true
theorem circ_of {p : α} {V : List α} (hV : V ≠ []) (h : Wk E p V p true) : ∃ l, Circ E l ∧ l.length = V.length := by
 rcases List.eq_nil_or_concat V with rfl | ⟨V', x, rfl⟩
 ·exact absurd rfl hV
 ·rw [List.concat_eq_append] at h ⊢
  obtain ⟨r, b1, f, h1, h2, h3, rfl⟩ := h.snoc_inv
  exact ⟨p :: V', ⟨p, V', r, b1, f, rfl, h1, h2, h3.symm⟩, by simp⟩
theorem mem_cut {x : α} {t : List α} (h : x ∈ t) : ∃ V D, t = (V ++ [x]) ++ D := by
 obtain ⟨V, D, rfl⟩ := List.append_of_mem h
 exact ⟨V, D, by simp⟩
theorem wk_dup {r : α} : ∀ {t : List α} {c : α} {b : Bool}, Wk E c t r b → ¬ (c :: t).Nodup → ∃ U V D p b0 b1 b2, t = U ++ (V ++ D) ∧ V ≠ [] ∧ Wk E c U p b0 ∧ Wk E p V p b1 ∧ Wk E p D r b2 ∧ b = (b0 || (b1 || b2))
 | [], c, b, _, hn => absurd (by simp) hn
 | s :: t, c, b, h, hn => by
  by_cases hc : c ∈ s :: t
  ·obtain ⟨V, D, he⟩ := mem_cut hc
   rw [he] at h
   obtain ⟨q, b1, b2, h1, h2, rfl⟩ := h.split
   obtain rfl := h1.last
   exact ⟨[], V ++ [q], D, q, false, b1, b2, by rw [he]; rfl, by simp, .nil q, h1, h2, by simp⟩
  ·cases h with
   | cons he h =>
    obtain ⟨U, V, D, p, b0, b1, b2, e, hV, h0, h1, h2, rfl⟩ := wk_dup h fun hd => hn (List.nodup_cons.2 ⟨hc, hd⟩)
    exact ⟨s :: U, V, D, p, _, b1, b2, by rw [e]; rfl, hV, .cons he h0, h1, h2, by rw [Bool.or_assoc]⟩
theorem circ_dup {l : List α} (h : Circ E l) (hn : ¬ l.Nodup) : ∃ d, Circ E d ∧ d.length < l.length := by
 obtain ⟨c, t, r, b, f, rfl, hw, he, hb⟩ := h
 obtain ⟨U, V, D, p, b0, b1, b2, rfl, hV, h0, h1, h2, rfl⟩ := wk_dup hw hn
 have hVl := List.length_pos_iff.2 hV
 cases b1 with
 | true =>
  obtain ⟨d, hd, hl⟩ := circ_of hV h1
  exact ⟨d, hd, by simp; omega⟩
 | false =>
  refine ⟨c :: (U ++ D), ⟨c, U ++ D, r, _, f, rfl, h0.append h2, he, ?_⟩, by simp; omega⟩
  simpa using hb
theorem circ_simple : ∀ (n : Nat) {l : List α}, l.length ≤ n → Circ E l → ∃ d, Circ E d ∧ d.Nodup ∧ d.length ≤ l.length
 | n, l, hl, h => by
  by_cases hn : l.Nodup
  ·exact ⟨l, h, hn, Nat.le_refl _⟩
  ·obtain ⟨d, hd, hlt⟩ := circ_dup h hn
   cases n with
   | zero => omega
   | succ n =>
    obtain ⟨d', h1, h2, h3⟩ := circ_simple n (by omega) hd
    exact ⟨d', h1, h2, by omega⟩
theorem Wk.mono {E' : List (α × α × Bool)} (hE : ∀ p ∈ E, p ∈ E') {c : α} {t : List α} {r : α} {b : Bool} (h : Wk E c t r b) : Wk E' c t r b := by
 induction h with
 | nil c => exact .nil c
 | cons he _ ih => exact .cons (hE _ he) ih
theorem Circ.mono {E' : List (α × α × Bool)} (hE : ∀ p ∈ E, p ∈ E') {l : List α} (h : Circ E l) : Circ E' l := by
 obtain ⟨c, t, r, b, f, e, h1, h2, h3⟩ := h
 exact ⟨c, t, r, b, f, e, h1.mono hE, hE _ h2, h3⟩
theorem Wk.froms {c : α} {t : List α} {r : α} {b : Bool} (h : Wk E c t r b) (hr : r ∈ E.map (·.1)) : ∀ x ∈ c :: t, x ∈ E.map (·.1) := by
 induction h with
 | nil c => intro x hx; simp at hx; subst hx; exact hr
 | @cons c s f t r b he _ ih =>
  intro x hx
  rcases List.mem_cons.1 hx with rfl | hx
  ·exact List.mem_map.2 ⟨_, he, rfl⟩
  ·exact ih hr x hx
theorem Circ.froms {l : List α} (h : Circ E l) : ∀ x ∈ l, x ∈ E.map (·.1) := by
 obtain ⟨c, t, r, b, f, rfl, h1, h2, h3⟩ := h
 exact h1.froms (List.mem_map.2 ⟨_, h2, rfl⟩)
def Lx (lt : α → α → Prop) : List α → List α → Prop
 | a :: l, b :: m => lt a b ∨ (a = b ∧ Lx lt l m)
 | _, _ => False
def Sl (lt : α → α → Prop) (l m : List α) : Prop := l.length < m.length ∨ (l.length = m.length ∧ Lx lt l m)
structure Lin (lt : α → α → Prop) : Prop where
 irr : ∀ a, ¬ lt a a
 tr : ∀ a b c, lt a b → lt b c → lt a c
 tot : ∀ a b, lt a b ∨ a = b ∨ lt b a
variable {lt : α → α → Prop}
theorem Lx.irr (hl : Lin lt) : ∀ {a : List α}, ¬ Lx lt a a
 | [], h => h
 | x :: a, h => by
  rcases h with h | ⟨_, h⟩
  ·exact hl.irr _ h
  ·exact Lx.irr hl h
theorem Lx.tr (hl : Lin lt) : ∀ {a b c : List α}, Lx lt a b → Lx lt b c → Lx lt a c
 | [], _, _, h, _ => h.elim
 | _ :: _, [], _, h, _ => h.elim
 | _ :: _, _ :: _, [], _, h => h.elim
 | x :: a, y :: b, z :: c, h, h' => by
  rcases h with h | ⟨rfl, h⟩
  ·rcases h' with h' | ⟨rfl, h'⟩
   ·exact .inl (hl.tr _ _ _ h h')
   ·exact .inl h
  ·rcases h' with h' | ⟨rfl, h'⟩
   ·exact .inl h'
   ·exact .inr ⟨rfl, Lx.tr hl h h'⟩
theorem Lx.tot (hl : Lin lt) : ∀ {a b : List α}, a.length = b.length → Lx lt a b ∨ a = b ∨ Lx lt b a
 | [], [], _ => .inr (.inl rfl)
 | [], _ :: _, h => by simp at h
 | _ :: _, [], h => by simp at h
 | x :: a, y :: b, h => by
  rcases hl.tot x y with hh | rfl | hh
  ·exact .inl (.inl hh)
  ·rcases Lx.tot hl (a := a) (b := b) (by simpa using h) with h | rfl | h
   ·exact .inl (.inr ⟨rfl, h⟩)
   ·exact .inr (.inl rfl)
   ·exact .inr (.inr (.inr ⟨rfl, h⟩))
  ·exact .inr (.inr (.inl hh))
theorem Lx.app_left : ∀ {a b : List α}, Lx lt a b → ∀ u v : List α, Lx lt (a ++ u) (b ++ v)
 | [], _, h, _, _ => h.elim
 | _ :: _, [], h, _, _ => h.elim
 | _ :: _, _ :: _, h, u, v => by
  rcases h with h | ⟨rfl, h⟩
  ·exact .inl h
  ·exact .inr ⟨rfl, Lx.app_left h u v⟩
theorem Lx.app_right (hl : Lin lt) (a : List α) {u v : List α} (h : Lx lt u v) : Lx lt (a ++ u) (a ++ v) := by
 induction a with
 | nil => exact h
 | cons x a ih => exact .inr ⟨rfl, ih⟩
theorem Sl.irr (hl : Lin lt) {a : List α} (h : Sl lt a a) : False := by
 rcases h with h | ⟨_, h⟩
 ·omega
 ·exact Lx.irr hl h
theorem Sl.tr (hl : Lin lt) {a b c : List α} (h : Sl lt a b) (h' : Sl lt b c) : Sl lt a c := by
 rcases h with h | ⟨e, h⟩ <;> rcases h' with h' | ⟨e', h'⟩
 ·exact .inl (by omega)
 ·exact .inl (by omega)
 ·exact .inl (by omega)
 ·exact .inr ⟨by omega, h.tr hl h'⟩
theorem Sl.tot (hl : Lin lt) (a b : List α) : Sl lt a b ∨ a = b ∨ Sl lt b a := by
 rcases Nat.lt_trichotomy a.length b.length with h | h | h
 ·exact .inl (.inl h)
 ·rcases Lx.tot hl h with h' | h' | h'
  ·exact .inl (.inr ⟨h, h'⟩)
  ·exact .inr (.inl h')
  ·exact .inr (.inr (.inr ⟨h.symm, h'⟩))
 ·exact .inr (.inr (.inl h))
theorem Sl.app {a b : List α} (h : Sl lt a b) {u v : List α} (hu : u.length = v.length) : Sl lt (a ++ u) (b ++ v) := by
 rcases h with h | ⟨e, h⟩
 ·exact .inl (by simp; omega)
 ·exact .inr ⟨by simp; omega, h.app_left u v⟩
def Best (lt : α → α → Prop) (E : List (α × α × Bool)) (l : List α) : Prop := Circ E l ∧ ∀ d, Circ E d → ¬ Sl lt d l
theorem Best.uniq (hl : Lin lt) {l m : List α} (h : Best lt E l) (h' : Best lt E m) : l = m := by
 rcases Sl.tot hl l m with h1 | h1 | h1
 ·exact absurd h1 (h'.2 _ h.1)
 ·exact h1
 ·exact absurd h1 (h.2 _ h'.1)
theorem Best.nodup {l : List α} (h : Best lt E l) : l.Nodup := by
 by_cases hn : l.Nodup
 ·exact hn
 ·obtain ⟨d, h1, h2⟩ := circ_dup h.1 hn
  exact absurd (.inl h2) (h.2 d h1)
theorem Best.congr {E' : List (α × α × Bool)} (hE : ∀ p, p ∈ E ↔ p ∈ E') {l : List α} (h : Best lt E l) : Best lt E' l :=
 ⟨h.1.mono fun p hp => (hE p).1 hp, fun d hd => h.2 d (hd.mono fun p hp => (hE p).2 hp)⟩
end
end Go.Ai.Z
namespace Go.Ai.Z
structure W4 where
 role : Nat
 strict : Bool
 before : Nat
 many : Nat
deriving DecidableEq, Inhabited
abbrev NE := List (Nat × Nat × Bool)
theorem linN : Lin (fun a b : Nat => a < b) := ⟨fun _ h => Nat.lt_irrefl _ h, fun _ _ _ h h' => Nat.lt_trans h h', fun a b => Nat.lt_trichotomy a b⟩
abbrev SlN : List Nat → List Nat → Prop := Sl (fun a b : Nat => a < b)
structure BP (E : NE) (start : Nat) (W : List W4) (Ps : List (List Nat)) (seen : Nat → Bool → Bool) (m : Nat) (pre : List (Nat × Bool)) : Prop where
 len : Ps.length = W.length
 way : ∀ (i : Nat) (w : W4) (t : List Nat), W[i]? = some w → Ps[i]? = some t → Wk E start t w.role w.strict ∧ w.many = t.length
 head : W[0]? = some ⟨start, false, 0, 0⟩ ∧ Ps[0]? = some []
 back : ∀ (i : Nat) (w : W4) (t : List Nat), 0 < i → W[i]? = some w → Ps[i]? = some t → w.before < i ∧ ∃ t0, Ps[w.before]? = some t0 ∧ t = t0 ++ [w.role]
 ord : ∀ (i j : Nat) (t u : List Nat), i < j → Ps[i]? = some t → Ps[j]? = some u → SlN t u
 sn : ∀ r b, seen r b = true ↔ ∃ (i : Nat) (w : W4), W[i]? = some w ∧ w.role = r ∧ w.strict = b
 dist : (W.map fun w => (w.role, w.strict)).Nodup
 bef : ∀ (k : Nat) (w : W4), 0 < k → W[k]? = some w → w.before < m ∨ (w.before = m ∧ ∃ p ∈ pre, p.1 = w.role)
 dn : ∀ (j : Nat) (w : W4) (t : List Nat), j < m → W[j]? = some w → Ps[j]? = some t → ∀ (s : Nat) (f : Bool), (w.role, s, f) ∈ E → ¬ (s = start ∧ (w.strict || f) = true) ∧ ∃ (k : Nat) (w' : W4) (t' : List Nat), W[k]? = some w' ∧ Ps[k]? = some t' ∧ w'.role = s ∧ w'.strict = (w.strict || f) ∧ (t' = t ++ [s] ∨ SlN t' (t ++ [s]))
 part : ∀ (w : W4) (t : List Nat), W[m]? = some w → Ps[m]? = some t → ∀ p ∈ pre, ¬ (p.1 = start ∧ (w.strict || p.2) = true) ∧ ∃ (k : Nat) (w' : W4) (t' : List Nat), W[k]? = some w' ∧ Ps[k]? = some t' ∧ w'.role = p.1 ∧ w'.strict = (w.strict || p.2) ∧ (t' = t ++ [p.1] ∨ SlN t' (t ++ [p.1]))
theorem BP.start (E : NE) (start : Nat) : BP E start [⟨start, false, 0, 0⟩] [[]] (fun r b => decide (r = start) && !b) 0 [] where
 len := rfl
 way i w t h1 h2 := by
  cases i with
  | zero => simp at h1 h2; subst h1; subst h2; exact ⟨.nil _, rfl⟩
  | succ i => simp at h1
 head := ⟨rfl, rfl⟩
 back i w t hi h1 _ := by
  cases i with
  | zero => omega
  | succ i => simp at h1
 ord i j t u hij h1 h2 := by
  cases j with
  | zero => omega
  | succ j => simp at h2
 sn r b := by
  constructor
  ·intro h
   simp at h
   exact ⟨0, _, rfl, h.1.symm, h.2.symm⟩
  ·rintro ⟨i, w, h1, rfl, rfl⟩
   cases i with
   | zero => simp at h1; subst h1; simp
   | succ i => simp at h1
 dist := by simp
 bef k w hk h := by
  cases k with
  | zero => omega
  | succ k => simp at h
 dn j _ _ hj := by omega
 part _ _ _ _ p hp := by cases hp
variable {E : NE} {start : Nat} {W : List W4} {Ps : List (List Nat)} {seen : Nat → Bool → Bool} {m : Nat} {pre : List (Nat × Bool)}
theorem BP.at_ (h : BP E start W Ps seen m pre) {i : Nat} {w : W4} (hw : W[i]? = some w) : ∃ t, Ps[i]? = some t := by
 have := (List.getElem?_eq_some_iff.1 hw).1
 exact ⟨Ps[i]'(by rw [h.len]; exact this), List.getElem?_eq_getElem _⟩
theorem BP.old (h : BP E start W Ps seen m pre) {w : W4} {t : List Nat} (hw : W[m]? = some w) (ht : Ps[m]? = some t) {s : Nat} {f : Bool} (hc : ¬ (s = start ∧ (w.strict || f) = true)) (hs : seen s (w.strict || f) = true)
  (hpre : ∀ p ∈ pre, p.1 < s) : BP E start W Ps seen m (pre ++ [(s, f)]) := by
 have hall : ∀ (k : Nat) (u : List Nat), Ps[k]? = some u → SlN u (t ++ [s]) := by
  intro k u hu
  have hk := (List.getElem?_eq_some_iff.1 hu).1
  obtain ⟨w', hw'⟩ : ∃ w', W[k]? = some w' := ⟨W[k]'(by rw [← h.len]; exact hk), List.getElem?_eq_getElem _⟩
  by_cases h0 : k = 0
  ·subst h0
   rw [h.head.2] at hu; cases hu
   exact .inl (by simp)
  ·obtain ⟨hb, t0, e0, rfl⟩ := h.back k w' u (by omega) hw' hu
   rcases h.bef k w' (by omega) hw' with hl | ⟨hl, p, hp, hpe⟩
   ·exact (h.ord _ _ _ _ hl e0 ht).app (by simp)
   ·rw [hl, ht] at e0; cases e0
    refine .inr ⟨by simp, Lx.app_right linN _ (.inl ?_)⟩
    rw [← hpe]; exact hpre p hp
 obtain ⟨k, w', hk, e1, e2⟩ := (h.sn s (w.strict || f)).1 hs
 obtain ⟨t', ht'⟩ := h.at_ hk
 exact { h with
  bef := fun k w hk hw => by
   rcases h.bef k w hk hw with a | ⟨a, p, hp, e⟩
   ·exact .inl a
   ·exact .inr ⟨a, p, by simp [hp], e⟩
  part := fun w1 t1 h1 h2 p hp => by
   rw [hw] at h1; cases h1
   rw [ht] at h2; cases h2
   rcases List.mem_append.1 hp with hp | hp
   ·exact h.part w t hw ht p hp
   ·simp at hp; subst hp
    exact ⟨hc, k, w', t', hk, ht', e1, e2, .inr (hall k t' ht')⟩ }
theorem getElem?_snoc {α : Type} {l : List α} {x y : α} {i : Nat} (h : (l ++ [x])[i]? = some y) : l[i]? = some y ∨ (i = l.length ∧ y = x) := by
 by_cases hi : i < l.length
 ·rw [List.getElem?_append_left hi] at h; exact .inl h
 ·rw [List.getElem?_append_right (by omega)] at h
  have : i - l.length = 0 := by
   rcases Nat.eq_zero_or_pos (i - l.length) with h0 | h0
   ·exact h0
   ·rw [List.getElem?_eq_none (by simp; omega)] at h; cases h
  rw [this] at h
  simp at h
  exact .inr ⟨by omega, h.symm⟩
theorem getElem?_keep {α : Type} {l : List α} {x y : α} {i : Nat} (h : l[i]? = some y) : (l ++ [x])[i]? = some y := by
 rw [List.getElem?_append_left (List.getElem?_eq_some_iff.1 h).1]; exact h
theorem BP.new (h : BP E start W Ps seen m pre) {w : W4} {t : List Nat} (hw : W[m]? = some w) (ht : Ps[m]? = some t) {s : Nat} {f : Bool} (he : (w.role, s, f) ∈ E) (hc : ¬ (s = start ∧ (w.strict || f) = true)) (hs : seen s (w.strict || f) = false)
  (hpre : ∀ p ∈ pre, p.1 < s) : BP E start (W ++ [⟨s, (w.strict || f), m, w.many + 1⟩]) (Ps ++ [t ++ [s]]) (fun r b => if r = s ∧ b = (w.strict || f) then true else seen r b) m (pre ++ [(s, f)]) := by
 have hm := (List.getElem?_eq_some_iff.1 hw).1
 have hall : ∀ (k : Nat) (u : List Nat), Ps[k]? = some u → SlN u (t ++ [s]) := by
  intro k u hu
  have hk := (List.getElem?_eq_some_iff.1 hu).1
  obtain ⟨w', hw'⟩ : ∃ w', W[k]? = some w' := ⟨W[k]'(by rw [← h.len]; exact hk), List.getElem?_eq_getElem _⟩
  by_cases h0 : k = 0
  ·subst h0
   rw [h.head.2] at hu; cases hu
   exact .inl (by simp)
  ·obtain ⟨hb, t0, e0, rfl⟩ := h.back k w' u (by omega) hw' hu
   rcases h.bef k w' (by omega) hw' with hl | ⟨hl, p, hp, hpe⟩
   ·exact (h.ord _ _ _ _ hl e0 ht).app (by simp)
   ·rw [hl, ht] at e0; cases e0
    refine .inr ⟨by simp, Lx.app_right linN _ (.inl ?_)⟩
    rw [← hpe]; exact hpre p hp
 have hway := h.way m w t hw ht
 exact {
  len := by simp [h.len]
  way := fun i w1 t1 h1 h2 => by
   rcases getElem?_snoc h1 with h1 | ⟨rfl, rfl⟩
   ·rcases getElem?_snoc h2 with h2 | ⟨rfl, _⟩
    ·exact h.way i w1 t1 h1 h2
    ·have := (List.getElem?_eq_some_iff.1 h1).1
     rw [h.len] at this; omega
   ·rcases getElem?_snoc h2 with h2 | ⟨_, rfl⟩
    ·have := (List.getElem?_eq_some_iff.1 h2).1
     rw [h.len] at this; omega
    ·exact ⟨hway.1.snoc he, by simp [hway.2]⟩
  head := ⟨getElem?_keep h.head.1, getElem?_keep h.head.2⟩
  back := fun i w1 t1 hi h1 h2 => by
   rcases getElem?_snoc h1 with h1 | ⟨rfl, rfl⟩
   ·rcases getElem?_snoc h2 with h2 | ⟨rfl, _⟩
    ·obtain ⟨a, t0, b, c⟩ := h.back i w1 t1 hi h1 h2
     exact ⟨a, t0, getElem?_keep b, c⟩
    ·have := (List.getElem?_eq_some_iff.1 h1).1
     rw [h.len] at this; omega
   ·rcases getElem?_snoc h2 with h2 | ⟨_, rfl⟩
    ·have := (List.getElem?_eq_some_iff.1 h2).1
     rw [h.len] at this; omega
    ·exact ⟨hm, t, getElem?_keep ht, rfl⟩
  ord := fun i j u v hij h1 h2 => by
   rcases getElem?_snoc h1 with h1 | ⟨rfl, rfl⟩
   ·rcases getElem?_snoc h2 with h2 | ⟨rfl, rfl⟩
    ·exact h.ord i j u v hij h1 h2
    ·exact hall i u h1
   ·have := (List.getElem?_eq_some_iff.1 h2).1
    simp at this; omega
  sn := fun r b => by
   constructor
   ·intro hh
    split at hh
    ·rename_i hx
     exact ⟨W.length, ⟨s, (w.strict || f), m, w.many + 1⟩, by simp, hx.1.symm, hx.2.symm⟩
    ·obtain ⟨i, w1, h1, h2⟩ := (h.sn r b).1 hh
     exact ⟨i, w1, getElem?_keep h1, h2⟩
   ·rintro ⟨i, w1, h1, rfl, rfl⟩
    split
    ·rfl
    ·rename_i hx
     rcases getElem?_snoc h1 with h1 | ⟨rfl, rfl⟩
     ·exact (h.sn _ _).2 ⟨i, w1, h1, rfl, rfl⟩
     ·exact absurd ⟨rfl, rfl⟩ hx
  dist := by
   rw [List.map_append, List.nodup_append]
   refine ⟨h.dist, by simp, fun a ha b hb hab => ?_⟩
   simp at hb
   subst hb; subst hab
   obtain ⟨w1, hw1, e⟩ := List.mem_map.1 ha
   obtain ⟨i, hi⟩ := List.mem_iff_getElem?.1 hw1
   simp only [Prod.mk.injEq] at e
   have := (h.sn s (w.strict || f)).2 ⟨i, w1, hi, e.1, e.2⟩
   rw [hs] at this; cases this
  bef := fun k w1 hk h1 => by
   rcases getElem?_snoc h1 with h1 | ⟨rfl, rfl⟩
   ·rcases h.bef k w1 hk h1 with a | ⟨a, p, hp, e⟩
    ·exact .inl a
    ·exact .inr ⟨a, p, by simp [hp], e⟩
   ·exact .inr ⟨rfl, (s, f), by simp, rfl⟩
  dn := fun j w1 t1 hj h1 h2 s1 f1 he1 => by
   rcases getElem?_snoc h1 with h1 | ⟨rfl, rfl⟩
   ·rcases getElem?_snoc h2 with h2 | ⟨rfl, _⟩
    ·obtain ⟨a, k, w', t', b1, b2, b3⟩ := h.dn j w1 t1 hj h1 h2 s1 f1 he1
     exact ⟨a, k, w', t', getElem?_keep b1, getElem?_keep b2, b3⟩
    ·have := (List.getElem?_eq_some_iff.1 h1).1
     rw [h.len] at this; omega
   ·omega
  part := fun w1 t1 h1 h2 p hp => by
   rw [getElem?_keep hw] at h1; cases h1
   rw [getElem?_keep ht] at h2; cases h2
   rcases List.mem_append.1 hp with hp | hp
   ·obtain ⟨a, k, w', t', b1, b2, b3⟩ := h.part w t hw ht p hp
    exact ⟨a, k, w', t', getElem?_keep b1, getElem?_keep b2, b3⟩
   ·simp at hp; subst hp
    exact ⟨hc, W.length, ⟨s, (w.strict || f), m, w.many + 1⟩, t ++ [s], by simp, by rw [← h.len]; simp, rfl, rfl, .inl rfl⟩ }
theorem BP.next (h : BP E start W Ps seen m pre) {w : W4} (hw : W[m]? = some w) (hrow : ∀ s f, (w.role, s, f) ∈ E → (s, f) ∈ pre) : BP E start W Ps seen (m + 1) [] :=
 { h with
  bef := fun k w1 hk h1 => by
   rcases h.bef k w1 hk h1 with a | ⟨a, _⟩
   ·exact .inl (by omega)
   ·exact .inl (by omega)
  dn := fun j w1 t1 hj h1 h2 s f he => by
   by_cases hjm : j < m
   ·exact h.dn j w1 t1 hjm h1 h2 s f he
   ·obtain rfl : j = m := by omega
    rw [hw] at h1; cases h1
    exact h.part w t1 hw h2 (s, f) (hrow s f he)
  part := fun _ _ _ _ p hp => by cases hp }
theorem BP.cov (h : BP E start W Ps seen m pre) :
  ∀ (n : Nat) (t : List Nat), t.length = n → ((∃ u, Ps[m]? = some u ∧ SlN t u) ∨ m = W.length) → ∀ r b, Wk E start t r b → ∃ j w t', j < m ∧ W[j]? = some w ∧ Ps[j]? = some t' ∧ w.role = r ∧ w.strict = b ∧ (t' = t ∨ SlN t' t) := by
 intro n
 induction n with
 | zero =>
  intro t hn hm r b hw
  obtain rfl := List.length_eq_zero_iff.1 hn
  obtain ⟨rfl, rfl⟩ := hw.nil_eq
  refine ⟨0, _, _, ?_, h.head.1, h.head.2, rfl, rfl, .inl rfl⟩
  rcases hm with ⟨u, hu, hs⟩ | hm
  ·rcases Nat.eq_zero_or_pos m with h0 | h0
   ·subst h0
    rw [h.head.2] at hu; cases hu
    exact absurd hs fun hh => Sl.irr linN hh
   ·exact h0
  ·have := (List.getElem?_eq_some_iff.1 h.head.1).1
   omega
 | succ n ih =>
  intro t hn hm r b hw
  rcases List.eq_nil_or_concat t with rfl | ⟨t0, x, rfl⟩
  ·simp at hn
  ·rw [List.concat_eq_append] at hw hm hn ⊢
   obtain ⟨r0, b0, f, h1, h2, rfl, rfl⟩ := hw.snoc_inv
   have hm0 : (∃ u, Ps[m]? = some u ∧ SlN t0 u) ∨ m = W.length := by
    rcases hm with ⟨u, hu, hs⟩ | hm
    ·exact .inl ⟨u, hu, Sl.tr linN (b := t0 ++ [r]) (.inl (by simp)) hs⟩
    ·exact .inr hm
   obtain ⟨j, w, t', hj, q1, q2, rfl, rfl, q5⟩ := ih t0 (by simpa using hn) hm0 r0 b0 h1
   obtain ⟨_, k, w', t'', k1, k2, k3, k4, k5⟩ := h.dn j w t' hj q1 q2 r f h2
   have hle : t'' = t0 ++ [r] ∨ SlN t'' (t0 ++ [r]) := by
    have h5 : t' ++ [r] = t0 ++ [r] ∨ SlN (t' ++ [r]) (t0 ++ [r]) := by
     rcases q5 with rfl | q5
     ·exact .inl rfl
     ·exact .inr (q5.app rfl)
    rcases k5 with rfl | k5
    ·exact h5
    ·rcases h5 with h5 | h5
     ·rw [← h5]; exact .inr k5
     ·exact .inr (Sl.tr linN k5 h5)
   refine ⟨k, w', t'', ?_, k1, k2, k3, k4, hle⟩
   have hk := (List.getElem?_eq_some_iff.1 k1).1
   rcases hm with ⟨u, hu, hs⟩ | hm
   ·have hlt : SlN t'' u := by
     rcases hle with rfl | hle
     ·exact hs
     ·exact Sl.tr linN hle hs
    rcases Nat.lt_trichotomy k m with hh | hh | hh
    ·exact hh
    ·subst hh
     rw [k2] at hu; cases hu
     exact absurd hlt fun hh => Sl.irr linN hh
    ·exact absurd (Sl.tr linN (h.ord m k u t'' hh hu k2) hlt) fun hh => Sl.irr linN hh
   ·omega
theorem BP.noclose (h : BP E start W Ps seen m pre) {t : List Nat} (ht : (∃ u, Ps[m]? = some u ∧ SlN t u) ∨ m = W.length) : ¬ Circ E (start :: t) := by
 rintro ⟨c, t0, r, b, f, e, h1, h2, h3⟩
 cases e
 obtain ⟨j, w, t', hj, q1, q2, rfl, rfl, _⟩ := h.cov _ t rfl ht r b h1
 exact (h.dn j w t' hj q1 q2 start f h2).1 ⟨rfl, h3⟩
theorem BP.closed (h : BP E start W Ps seen m pre) {w : W4} {t : List Nat} (hw : W[m]? = some w) (ht : Ps[m]? = some t) {f : Bool} (he : (w.role, start, f) ∈ E) (hf : (w.strict || f) = true) :
  Circ E (start :: t) ∧ ∀ t', Circ E (start :: t') → ¬ SlN t' t :=
 ⟨⟨start, t, w.role, w.strict, f, rfl, (h.way m w t hw ht).1, he, hf⟩, fun t' hc hs => h.noclose (.inl ⟨t, ht, hs⟩) hc⟩
theorem BP.stop (h : BP E start W Ps seen m pre) {w : W4} (hw : W[m]? = some w) {most : Nat} (hm : most ≤ w.many + 1) {t' : List Nat} (hc : Circ E (start :: t')) : most ≤ t'.length + 1 := by
 obtain ⟨t, ht⟩ := h.at_ hw
 have h2 := (h.way m w t hw ht).2
 rcases Nat.lt_or_ge t'.length t.length with hh | hh
 ·exact absurd hc (h.noclose (.inl ⟨t, ht, .inl hh⟩))
 ·omega
theorem BP.done (h : BP E start W Ps seen m pre) (hm : m = W.length) {t' : List Nat} (hc : Circ E (start :: t')) : False := h.noclose (.inr hm) hc
end Go.Ai.Z
