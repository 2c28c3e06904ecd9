/-
 Words of roles: what the axioms derive, in plain words.
-/
import Derived.Test.YtomjajnlomdhpaaDoorAiR4R5R6
set_option maxRecDepth 100000
set_option linter.unusedSimpArgs false
set_option linter.unusedVariables false
namespace Go.Ai.Z
abbrev Tab := List UInt8 → Nat → Nat → Prop
def Cov (T : Tab) : List (List UInt8) → Nat → Nat → Prop
 | [], i, k => i = k
 | r :: rs, i, k => ∃ j, T r i j ∧ Cov T rs j k
theorem Cov.mono {T T' : Tab} (h : ∀ r i j, T r i j → T' r i j) : ∀ {rs : List (List UInt8)} {i k : Nat}, Cov T rs i k → Cov T' rs i k
 | [], _, _, hc => hc
 | _ :: _, _, _, ⟨j, h1, h2⟩ => ⟨j, h _ _ _ h1, h2.mono h⟩
theorem cov_append {T : Tab} : ∀ {a b : List (List UInt8)} {i k : Nat}, Cov T (a ++ b) i k ↔ ∃ j, Cov T a i j ∧ Cov T b j k
 | [], b, i, k => ⟨fun h => ⟨i, rfl, h⟩, fun ⟨j, h1, h2⟩ => by cases h1; exact h2⟩
 | r :: a, b, i, k => by
  constructor
  ·rintro ⟨j, h1, h2⟩
   obtain ⟨m, q1, q2⟩ := cov_append.1 h2
   exact ⟨m, ⟨j, h1, q1⟩, q2⟩
  ·rintro ⟨m, ⟨j, h1, q1⟩, q2⟩
   exact ⟨j, h1, cov_append.2 ⟨m, q1, q2⟩⟩
theorem cov_one {T : Tab} {r : List UInt8} {i k : Nat} : Cov T [r] i k ↔ T r i k :=
 ⟨fun ⟨j, h1, h2⟩ => by cases h2; exact h1, fun h => ⟨k, h, rfl⟩⟩
structure ClosedT (l : List Ax) (w : List (List UInt8)) (T : Tab) : Prop where
 word : ∀ i r, w[i]? = some r → T r i (i + 1)
 refl : ∀ x ∈ l, x.kind = 7 → ∀ i, i ≤ w.length → T x.role i i
 sub : ∀ x ∈ l, x.kind = 5 → ∀ i j, Cov T x.roles i j → T x.role i j
 chain : ∀ x ∈ l, x.kind = 6 → ∀ i j, Cov T x.roles i j → T x.role i j
def Drv (l : List Ax) (w : List (List UInt8)) : Tab := fun r i j => ∀ T, ClosedT l w T → T r i j
theorem drv_cov {l : List Ax} {w : List (List UInt8)} {T : Tab} (h : ClosedT l w T) {rs : List (List UInt8)} {i j : Nat} (hc : Cov (Drv l w) rs i j) : Cov T rs i j := hc.mono fun _ _ _ hd => hd T h
theorem drv_closed (l : List Ax) (w : List (List UInt8)) : ClosedT l w (Drv l w) where
 word i r h := fun _ hT => hT.word i r h
 refl x hx hk i hi := fun _ hT => hT.refl x hx hk i hi
 sub x hx hk i j hc := fun _ hT => hT.sub x hx hk i j (drv_cov hT hc)
 chain x hx hk i j hc := fun _ hT => hT.chain x hx hk i j (drv_cov hT hc)
theorem Cov.le {T : Tab} {n : Nat} (h : ∀ r i j, T r i j → i ≤ j ∧ j ≤ n) : ∀ {rs : List (List UInt8)} {i k : Nat}, i ≤ n → Cov T rs i k → i ≤ k ∧ k ≤ n
 | [], _, _, hi, rfl => ⟨Nat.le_refl _, hi⟩
 | _ :: rs, i, k, hi, ⟨j, h1, h2⟩ => by
  have := h _ _ _ h1
  have := Cov.le h this.2 h2
  omega
theorem cov_bound {T : Tab} {n : Nat} (h : ∀ r i j, T r i j → i ≤ j ∧ j ≤ n) {rs : List (List UInt8)} (hne : rs ≠ []) {i k : Nat} (hc : Cov T rs i k) : i ≤ k ∧ k ≤ n := by
 cases rs with
 | nil => exact absurd rfl hne
 | cons r rs =>
  obtain ⟨j, h1, h2⟩ := hc
  have := h _ _ _ h1
  have := Cov.le h this.2 h2
  omega
def HasR (l : List Ax) : Prop := ∀ x ∈ l, x.kind = 5 ∨ x.kind = 6 → x.roles ≠ []
theorem drv_bound {l : List Ax} (hl : HasR l) {w : List (List UInt8)} {r : List UInt8} {i j : Nat} (h : Drv l w r i j) : i ≤ j ∧ j ≤ w.length := by
 refine h (fun _ i j => i ≤ j ∧ j ≤ w.length) ⟨fun i r hr => ?_, fun x _ _ i hi => ⟨Nat.le_refl _, hi⟩, fun x hx hk i j hc => ?_, fun x hx hk i j hc => ?_⟩
 ·have := (List.getElem?_eq_some_iff.1 hr).1
  omega
 ·exact cov_bound (fun _ _ _ h => h) (hl x hx (.inl hk)) hc
 ·exact cov_bound (fun _ _ _ h => h) (hl x hx (.inr hk)) hc
theorem drv_up {l : List Ax} (h5 : One5 l) {w : List (List UInt8)} {r s : List UInt8} {i j : Nat} (hd : Drv l w r i j) (hu : Rch (edU l) r s) : Drv l w s i j := by
 induction hu with
 | refl => exact hd
 | step _ he ih =>
  simp only [edU, List.mem_filterMap] at he
  obtain ⟨x, hx, he⟩ := he
  split at he
  ·rename_i hk
   cases he
   obtain ⟨r0, hr0⟩ := h5 x hx hk
   refine (drv_closed l w).sub x hx hk i j ?_
   rw [hr0] at ih ⊢
   exact cov_one.2 ih
  ·cases he
theorem drv_part {l : List Ax} (hl : HasR l) {w : List (List UInt8)} {p q : Nat} (hpq : p ≤ q) (hq : q ≤ w.length) {s : List UInt8} (h1 : Drv l w s p q) {r : List UInt8} {i j : Nat} (h2 : Drv l (w.take p ++ s :: w.drop q) r i j) :
  Drv l w r (if i ≤ p then i else i + (q - p) - 1) (if j ≤ p then j else j + (q - p) - 1) := by
 have hlen : (w.take p ++ s :: w.drop q).length = p + 1 + (w.length - q) := by simp; omega
 have hb := drv_bound hl h2
 refine (h2 (fun r i j => i ≤ j ∧ j ≤ p + 1 + (w.length - q) ∧ Drv l w r (if i ≤ p then i else i + (q - p) - 1) (if j ≤ p then j else j + (q - p) - 1)) ⟨fun i r hr => ?_, fun x hx hk i hi => ?_, fun x hx hk i j hc => ?_, fun x hx hk i j hc => ?_⟩).2.2
 ·have hil := (List.getElem?_eq_some_iff.1 hr).1
  rw [hlen] at hil
  refine ⟨by omega, by omega, ?_⟩
  by_cases hi : i < p
  ·rw [if_pos (by omega), if_pos (by omega)]
   rw [List.getElem?_append_left (by simp; omega), List.getElem?_take_of_lt hi] at hr
   exact (drv_closed l w).word i r hr
  ·rw [List.getElem?_append_right (by simp; omega)] at hr
   simp only [List.length_take, Nat.min_eq_left (Nat.le_trans hpq hq)] at hr
   by_cases he : i = p
   ·subst he
    simp at hr
    subst hr
    rw [if_pos (Nat.le_refl _), if_neg (by omega), show i + 1 + (q - i) - 1 = q by omega]
    exact h1
   ·obtain ⟨k, rfl⟩ : ∃ k, i = p + 1 + k := ⟨i - p - 1, by omega⟩
    rw [if_neg (by omega), if_neg (by omega)]
    rw [show p + 1 + k - p = k + 1 by omega] at hr
    simp only [List.getElem?_cons_succ, List.getElem?_drop] at hr
    have := (drv_closed l w).word _ r hr
    rw [show p + 1 + k + (q - p) - 1 = q + k by omega, show p + 1 + k + 1 + (q - p) - 1 = q + k + 1 by omega]
    exact this
 ·rw [hlen] at hi
  refine ⟨Nat.le_refl _, hi, (drv_closed l w).refl x hx hk _ ?_⟩
  split <;> omega
 ·refine ⟨(cov_bound (fun _ _ _ h => ⟨h.1, h.2.1⟩) (hl x hx (.inl hk)) hc).1, (cov_bound (fun _ _ _ h => ⟨h.1, h.2.1⟩) (hl x hx (.inl hk)) hc).2, (drv_closed l w).sub x hx hk _ _ (cov_map _ hc)⟩
 ·refine ⟨(cov_bound (fun _ _ _ h => ⟨h.1, h.2.1⟩) (hl x hx (.inr hk)) hc).1, (cov_bound (fun _ _ _ h => ⟨h.1, h.2.1⟩) (hl x hx (.inr hk)) hc).2, (drv_closed l w).chain x hx hk _ _ (cov_map _ hc)⟩
where
 cov_map {l : List Ax} {w : List (List UInt8)} {m : Nat} (φ : Nat → Nat) : ∀ {rs : List (List UInt8)} {i k : Nat}, Cov (fun r i j => i ≤ j ∧ j ≤ m ∧ Drv l w r (φ i) (φ j)) rs i k → Cov (Drv l w) rs (φ i) (φ k)
  | [], _, _, rfl => rfl
  | _ :: _, _, _, ⟨j, h1, h2⟩ => ⟨φ j, h1.2.2, cov_map φ h2⟩
theorem drv_sub {l : List Ax} (hl : HasR l) {w : List (List UInt8)} {p q : Nat} (hpq : p ≤ q) (hq : q ≤ w.length) {r : List UInt8} {i j : Nat} (h : Drv l ((w.take q).drop p) r i j) : Drv l w r (p + i) (p + j) := by
 have hlen : ((w.take q).drop p).length = q - p := by simp; omega
 refine h (fun r i j => Drv l w r (p + i) (p + j)) ⟨fun i r hr => ?_, fun x hx hk i hi => ?_, fun x hx hk i j hc => ?_, fun x hx hk i j hc => ?_⟩
 ·have hil := (List.getElem?_eq_some_iff.1 hr).1
  rw [hlen] at hil
  rw [List.getElem?_drop, List.getElem?_take_of_lt (by omega)] at hr
  exact (drv_closed l w).word _ r hr
 ·rw [hlen] at hi
  exact (drv_closed l w).refl x hx hk _ (by omega)
 ·exact (drv_closed l w).sub x hx hk _ _ (cov_map (p + ·) hc)
 ·exact (drv_closed l w).chain x hx hk _ _ (cov_map (p + ·) hc)
where
 cov_map {l : List Ax} {w : List (List UInt8)} (φ : Nat → Nat) : ∀ {rs : List (List UInt8)} {i k : Nat}, Cov (fun r i j => Drv l w r (φ i) (φ j)) rs i k → Cov (Drv l w) rs (φ i) (φ k)
  | [], _, _, rfl => rfl
  | _ :: _, _, _, ⟨j, h1, h2⟩ => ⟨φ j, h1, cov_map φ h2⟩
theorem drv_simple {l : List Ax} (h5 : One5 l) {role : List UInt8} (hs : ∀ x ∈ l, (x.kind = 6 ∨ x.kind = 7) → ¬ Rch (edU l) x.role role) {w : List (List UInt8)} {i j : Nat} (h : Drv l w role i j) : j = i + 1 ∧ ∃ r, w[i]? = some r ∧ Rch (edU l) r role := by
 refine h (fun s i j => Rch (edU l) s role → j = i + 1 ∧ ∃ r, w[i]? = some r ∧ Rch (edU l) r role) ⟨fun i r hr hu => ⟨rfl, r, hr, hu⟩, fun x hx hk i _ hu => absurd hu (hs x hx (.inr hk)), fun x hx hk i j hc hu => ?_, fun x hx hk i j _ hu => absurd hu (hs x hx (.inl hk))⟩ (.refl _)
 obtain ⟨r0, hr0⟩ := h5 x hx hk
 rw [hr0] at hc
 have he : (r0, x.role) ∈ edU l := by
  simp only [edU, List.mem_filterMap]
  exact ⟨x, hx, by simp [hk, hr0]⟩
 exact cov_one.1 hc ((Rch.one he).trans hu)
end Go.Ai.Z
namespace Go.Ai.Z
def NoDot (r : List UInt8) : Prop := (46 : UInt8) ∉ r
def jn (rs : List (List UInt8)) : List UInt8 := joinL [46] rs
theorem jn_one (r : List UInt8) : jn [r] = r := by simp [jn, joinL]
theorem jn_cons (r s : List UInt8) (rs : List (List UInt8)) : jn (r :: s :: rs) = r ++ 46 :: jn (s :: rs) := by simp [jn, joinL]
theorem nodot_split {a b u v : List UInt8} (ha : NoDot a) (hb : NoDot b) (h : a ++ 46 :: u = b ++ 46 :: v) : a = b ∧ u = v := by
 induction a generalizing b with
 | nil =>
  cases b with
  | nil => simp at h; exact ⟨rfl, h⟩
  | cons y b => simp at h; exact absurd (by rw [h.1]; simp) hb
 | cons x a ih =>
  cases b with
  | nil => simp at h; exact absurd (by rw [← h.1]; simp) ha
  | cons y b =>
   simp only [List.cons_append, List.cons.injEq] at h
   obtain ⟨rfl, h⟩ := h
   obtain ⟨rfl, rfl⟩ := ih (fun hh => ha (by simp [hh])) (fun hh => hb (by simp [hh])) h
   exact ⟨rfl, rfl⟩
theorem jn_inj : ∀ {as bs : List (List UInt8)}, as ≠ [] → bs ≠ [] → (∀ r ∈ as, NoDot r) → (∀ r ∈ bs, NoDot r) → jn as = jn bs → as = bs
 | [], _, h, _, _, _, _ => absurd rfl h
 | _, [], _, h, _, _, _ => absurd rfl h
 | [a], [b], _, _, _, _, h => by rw [jn_one, jn_one] at h; rw [h]
 | [a], b :: c :: bs, _, _, ha, _, h => by
  rw [jn_one, jn_cons] at h
  exact absurd (by rw [h]; simp) (ha a (by simp))
 | a :: c :: as, [b], _, _, _, hb, h => by
  rw [jn_one, jn_cons] at h
  exact absurd (by rw [← h]; simp) (hb b (by simp))
 | a :: c :: as, b :: d :: bs, _, _, ha, hb, h => by
  rw [jn_cons, jn_cons] at h
  obtain ⟨rfl, h2⟩ := nodot_split (ha a (by simp)) (hb b (by simp)) h
  rw [jn_inj (as := c :: as) (bs := d :: bs) (by simp) (by simp) (fun r hr => ha r (by simp [List.mem_cons.1 hr])) (fun r hr => hb r (by simp [List.mem_cons.1 hr])) h2]
structure Rul where
 first : List UInt8
 second : List UInt8
 role : List UInt8
deriving DecidableEq
def rulesA (x : Ax) : List Rul := (List.range (x.roles.length - 1)).map fun m => ⟨jn (x.roles.take (m + 1)), x.roles.getD (m + 1) [], if m + 1 = x.roles.length - 1 then x.role else jn (x.roles.take (m + 2))⟩
def rules (l : List Ax) : List Rul := l.flatMap fun x => if x.kind = 6 then rulesA x else []
def reflA (l : List Ax) : List (List UInt8) := l.filterMap fun x => if x.kind = 7 then some x.role else none
structure ClosedG (l : List Ax) (w : List (List UInt8)) (T : Tab) : Prop where
 word : ∀ i r, w[i]? = some r → T r i (i + 1)
 refl : ∀ r ∈ reflA l, ∀ i, i ≤ w.length → T r i i
 un : ∀ p ∈ edU l, ∀ i j, T p.1 i j → T p.2 i j
 bin : ∀ p ∈ rules l, ∀ i j k, T p.first i j → T p.second j k → T p.role i k
def DG (l : List Ax) (w : List (List UInt8)) : Tab := fun r i j => ∀ T, ClosedG l w T → T r i j
theorem dg_closed (l : List Ax) (w : List (List UInt8)) : ClosedG l w (DG l w) where
 word i r h := fun _ hT => hT.word i r h
 refl r hr i hi := fun _ hT => hT.refl r hr i hi
 un p hp i j h := fun _ hT => hT.un p hp i j (h _ hT)
 bin p hp i j k h1 h2 := fun _ hT => hT.bin p hp i j k (h1 _ hT) (h2 _ hT)
structure NamesOK (l : List Ax) : Prop where
 one : One5 l
 two : ∀ x ∈ l, x.kind = 6 → 2 ≤ x.roles.length
 role : ∀ x ∈ l, (x.kind = 5 ∨ x.kind = 6 ∨ x.kind = 7) → NoDot x.role
 roles : ∀ x ∈ l, (x.kind = 5 ∨ x.kind = 6) → ∀ r ∈ x.roles, NoDot r
theorem one_of_jn {r : List UInt8} {rs : List (List UInt8)} (hr : NoDot r) (hne : rs ≠ []) (hn : ∀ s ∈ rs, NoDot s) (h : r = jn rs) : rs = [r] :=
 (jn_inj (as := [r]) (bs := rs) (by simp) hne (fun s hs => by simp at hs; subst hs; exact hr) hn (by rw [jn_one]; exact h)).symm
theorem take_succ' {l : List (List UInt8)} {m : Nat} (h : m < l.length) : l.take (m + 1) = l.take m ++ [l.getD m []] := by
 rw [List.take_add_one, List.getElem?_eq_getElem h]
 simp [List.getD, List.getElem?_eq_getElem h]
theorem drv_of_dg {l : List Ax} (hN : NamesOK l) {w : List (List UInt8)} (hw : ∀ r ∈ w, NoDot r) {r : List UInt8} (hr : NoDot r) {i j : Nat} (h : DG l w r i j) : Drv l w r i j := by
 have key : Cov (Drv l w) [r] i j := by
  refine h (fun s i j => ∀ rs : List (List UInt8), rs ≠ [] → (∀ q ∈ rs, NoDot q) → s = jn rs → Cov (Drv l w) rs i j) ⟨fun i r hr => ?_, fun r hr i hi => ?_, fun p hp i j hT => ?_, fun p hp i j k h1 h2 => ?_⟩ [r] (by simp) (fun q hq => by simp at hq; subst hq; exact hr) (jn_one r).symm
  ·intro rs hne hn he
   rw [one_of_jn (hw r (List.mem_of_getElem? hr)) hne hn he]
   exact cov_one.2 ((drv_closed l w).word i r hr)
  ·intro rs hne hn he
   simp only [reflA, List.mem_filterMap] at hr
   obtain ⟨x, hx, hk⟩ := hr
   split at hk
   ·rename_i h7
    cases hk
    rw [one_of_jn (hN.role x hx (.inr (.inr h7))) hne hn he]
    exact cov_one.2 ((drv_closed l w).refl x hx h7 i hi)
   ·cases hk
  ·intro rs hne hn he
   simp only [edU, List.mem_filterMap] at hp
   obtain ⟨x, hx, hk⟩ := hp
   split at hk
   ·rename_i h5
    cases hk
    obtain ⟨r0, hr0⟩ := hN.one x hx h5
    have hd := hN.roles x hx (.inl h5) r0 (by rw [hr0]; simp)
    rw [one_of_jn (hN.role x hx (.inl h5)) hne hn he]
    refine cov_one.2 ((drv_closed l w).sub x hx h5 i j ?_)
    have := hT [r0] (by simp) (fun q hq => by simp at hq; subst hq; exact hd) (by rw [jn_one, hr0]; rfl)
    rw [hr0]; exact this
   ·cases hk
  ·intro rs hne hn he
   simp only [rules, List.mem_flatMap] at hp
   obtain ⟨x, hx, hp⟩ := hp
   split at hp
   ·rename_i h6
    simp only [rulesA, List.mem_map, List.mem_range] at hp
    obtain ⟨m, hm, rfl⟩ := hp
    have hnr := hN.roles x hx (.inr h6)
    have hm1 : m + 1 < x.roles.length := by omega
    have c1 := h1 (x.roles.take (m + 1)) (by intro h0; have := congrArg List.length h0; rw [List.length_take, List.length_nil] at this; omega) (fun q hq => hnr q (List.mem_of_mem_take hq)) rfl
    have hsec : x.roles.getD (m + 1) [] ∈ x.roles := by
     simp only [List.getD, List.getElem?_eq_getElem hm1, Option.getD_some]; exact List.getElem_mem hm1
    have c2 := h2 [x.roles.getD (m + 1) []] (by simp) (fun q hq => by simp only [List.mem_singleton] at hq; rw [hq]; exact hnr _ hsec) (jn_one _).symm
    have c3 : Cov (Drv l w) (x.roles.take (m + 2)) i k := by
     rw [take_succ' hm1]
     exact cov_append.2 ⟨j, c1, c2⟩
    by_cases hl : m + 1 = x.roles.length - 1
    ·simp only [hl, if_true] at he
     rw [one_of_jn (hN.role x hx (.inr (.inl h6))) hne hn he]
     rw [List.take_of_length_le (by omega)] at c3
     exact cov_one.2 ((drv_closed l w).chain x hx h6 i k c3)
    ·simp only [if_neg hl] at he
     rw [← jn_inj (as := x.roles.take (m + 2)) (bs := rs) (by intro h0; have := congrArg List.length h0; rw [List.length_take, List.length_nil] at this; omega) hne (fun q hq => hnr q (List.mem_of_mem_take hq)) hn he]
     exact c3
   ·cases hp
 exact cov_one.1 key
theorem dg_of_drv {l : List Ax} (hN : NamesOK l) {w : List (List UInt8)} {r : List UInt8} {i j : Nat} (h : Drv l w r i j) : DG l w r i j := by
 refine h (DG l w) ⟨fun i r hr => (dg_closed l w).word i r hr, fun x hx hk i hi => (dg_closed l w).refl x.role ?_ i hi, fun x hx hk i j hc => ?_, fun x hx hk i k hc => ?_⟩
 ·simp only [reflA, List.mem_filterMap]
  exact ⟨x, hx, by simp [hk]⟩
 ·obtain ⟨r0, hr0⟩ := hN.one x hx hk
  rw [hr0] at hc
  refine (dg_closed l w).un (r0, x.role) ?_ i j (cov_one.1 hc)
  simp only [edU, List.mem_filterMap]
  exact ⟨x, hx, by simp [hk, hr0]⟩
 ·have h2 := hN.two x hx hk
  have hrule : ∀ m, m < x.roles.length - 1 → (⟨jn (x.roles.take (m + 1)), x.roles.getD (m + 1) [], if m + 1 = x.roles.length - 1 then x.role else jn (x.roles.take (m + 2))⟩ : Rul) ∈ rules l := fun m hm => by
   simp only [rules, List.mem_flatMap]
   refine ⟨x, hx, ?_⟩
   rw [if_pos hk]
   simp only [rulesA, List.mem_map, List.mem_range]
   exact ⟨m, hm, rfl⟩
  have step : ∀ m, m < x.roles.length - 1 → ∀ k, Cov (DG l w) (x.roles.take (m + 1)) i k → DG l w (jn (x.roles.take (m + 1))) i k := by
   intro m
   induction m with
   | zero =>
    intro hm k hc
    have h0 := take_succ' (l := x.roles) (m := 0) (by omega)
    simp only [List.take_zero, List.nil_append] at h0
    rw [show 0 + 1 = 1 from rfl] at h0 hc ⊢
    rw [h0] at hc ⊢
    rw [jn_one]; exact cov_one.1 hc
   | succ m ih =>
    intro hm k hc
    rw [take_succ' (by omega)] at hc
    obtain ⟨j, q1, q2⟩ := cov_append.1 hc
    have hr := hrule m (by omega)
    rw [if_neg (by omega)] at hr
    exact (dg_closed l w).bin _ hr i j k (ih (by omega) j q1) (cov_one.1 q2)
  have hr := hrule (x.roles.length - 2) (by omega)
  have e1 : x.roles.length - 2 + 1 = x.roles.length - 1 := by omega
  rw [if_pos e1] at hr
  have hcut : x.roles = x.roles.take (x.roles.length - 2 + 1) ++ [x.roles.getD (x.roles.length - 2 + 1) []] := by
   rw [← take_succ' (by omega), List.take_of_length_le (by omega)]
  rw [hcut] at hc
  obtain ⟨j, q1, q2⟩ := cov_append.1 hc
  exact (dg_closed l w).bin _ hr i j k (step _ (by omega) j q1) (cov_one.1 q2)
theorem dg_iff {l : List Ax} (hN : NamesOK l) {w : List (List UInt8)} (hw : ∀ r ∈ w, NoDot r) {r : List UInt8} (hr : NoDot r) {i j : Nat} : DG l w r i j ↔ Drv l w r i j :=
 ⟨drv_of_dg hN hw hr, dg_of_drv hN⟩
end Go.Ai.Z
