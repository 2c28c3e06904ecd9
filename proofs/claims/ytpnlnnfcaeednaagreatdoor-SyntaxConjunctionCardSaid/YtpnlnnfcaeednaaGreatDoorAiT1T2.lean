/-
 The order of concepts is an order; sorted lists of concepts are unique.
-/
import Derived.Test.YtpnlnnfcaeednaaGreatDoorAiInjInj2Inj3Inj4KI
set_option maxRecDepth 100000
set_option linter.unusedSimpArgs false
set_option linter.unusedVariables false
set_option linter.unusedSectionVars false
namespace Go.Ai.Z
open Go.Lib (compareBytes)
structure Cmp3 {α : Type} (S : α → Prop) (f : α → α → Int) : Prop where
 refl : ∀ a, S a → f a a = 0
 anti : ∀ a b, S a → S b → (f a b < 0 ↔ 0 < f b a)
 trans : ∀ a b c, S a → S b → S c → f a b ≤ 0 → f b c ≤ 0 → f a c ≤ 0
section
variable {α : Type} {S : α → Prop} {f g : α → α → Int}
theorem Cmp3.zero (h : Cmp3 S f) {a b : α} (ha : S a) (hb : S b) (h0 : f a b = 0) : f b a = 0 := by
 have h1 := h.anti a b ha hb
 have h2 := h.anti b a hb ha
 omega
theorem Cmp3.subst (h : Cmp3 S f) {a b c : α} (ha : S a) (hb : S b) (hc : S c) (h0 : f a b = 0) : (f a c ≤ 0 ↔ f b c ≤ 0) ∧ (f c a ≤ 0 ↔ f c b ≤ 0) := by
 have h1 := h.zero ha hb h0
 exact ⟨⟨fun q => h.trans b a c hb ha hc (by omega) q, fun q => h.trans a b c ha hb hc (by omega) q⟩, ⟨fun q => h.trans c a b hc ha hb q (by omega), fun q => h.trans c b a hc hb ha q (by omega)⟩⟩
theorem Cmp3.lt_trans (h : Cmp3 S f) {a b c : α} (ha : S a) (hb : S b) (hc : S c) (h1 : f a b < 0) (h2 : f b c ≤ 0) : f a c < 0 := by
 have h3 := h.trans a b c ha hb hc (by omega) h2
 by_cases h0 : f a c = 0
 ·have h4 := h.zero ha hc h0
  have h5 := h.trans b c a hb hc ha h2 (by omega)
  have := (h.anti a b ha hb).1 h1
  omega
 ·omega
theorem Cmp3.le_lt (h : Cmp3 S f) {a b c : α} (ha : S a) (hb : S b) (hc : S c) (h1 : f a b ≤ 0) (h2 : f b c < 0) : f a c < 0 := by
 have h3 := h.trans a b c ha hb hc h1 (by omega)
 by_cases h0 : f a c = 0
 ·have h4 := h.zero ha hc h0
  have h5 := h.trans c a b hc ha hb (by omega) h1
  have := (h.anti b c hb hc).1 h2
  omega
 ·omega
theorem Cmp3.lex (hf : Cmp3 S f) (hg : Cmp3 S g) : Cmp3 S (fun a b => if f a b = 0 then g a b else f a b) where
 refl a ha := by simp [hf.refl a ha, hg.refl a ha]
 anti a b ha hb := by
  have h1 := hf.anti a b ha hb
  have h2 := hf.anti b a hb ha
  have h3 := hg.anti a b ha hb
  by_cases h : f a b = 0
  ·have h' : f b a = 0 := hf.zero ha hb h
   simp only [h, h', if_true]; exact h3
  ·have h' : f b a ≠ 0 := fun h' => h (hf.zero hb ha h')
   simp only [h, h', if_false]; exact h1
 trans a b c ha hb hc := by
  intro h1 h2
  by_cases e1 : f a b = 0
  ·by_cases e2 : f b c = 0
   ·have e3 : f a c = 0 := by
     have q1 := hf.trans a b c ha hb hc (by omega) (by omega)
     have q2 := hf.trans c b a hc hb ha (by have := hf.zero hb hc e2; omega) (by have := hf.zero ha hb e1; omega)
     have q3 := hf.anti a c ha hc
     have q4 := hf.anti c a hc ha
     omega
    simp only [e1, e2, e3, if_true] at h1 h2 ⊢
    exact hg.trans a b c ha hb hc h1 h2
   ·simp only [e2, if_false] at h2
    have := hf.le_lt ha hb hc (by omega) (show f b c < 0 by omega)
    have e3 : f a c ≠ 0 := by omega
    simp only [e3, if_false]; omega
  ·simp only [e1, if_false] at h1
   have h2' : f b c ≤ 0 := by
    by_cases e2 : f b c = 0
    ·omega
    ·simpa only [e2, if_false] using h2
   have := hf.lt_trans ha hb hc (show f a b < 0 by omega) h2'
   have e3 : f a c ≠ 0 := by omega
   simp only [e3, if_false]; omega
theorem Cmp3.pull {β : Type} {T : β → Prop} (h : Cmp3 S f) (p : β → α) (hp : ∀ b, T b → S (p b)) : Cmp3 T (fun a b => f (p a) (p b)) :=
 ⟨fun a ha => h.refl _ (hp a ha), fun a b ha hb => h.anti _ _ (hp a ha) (hp b hb), fun a b c ha hb hc => h.trans _ _ _ (hp a ha) (hp b hb) (hp c hc)⟩
theorem Cmp3.mono {T : α → Prop} (h : Cmp3 S f) (hp : ∀ b, T b → S b) : Cmp3 T f := h.pull id hp
end
theorem cmp3_int : Cmp3 (fun _ => True) cmpI where
 refl a _ := by simp [cmpI]
 anti a b _ _ := by unfold cmpI; (repeat' split) <;> omega
 trans a b c _ _ _ := by unfold cmpI; (repeat' split) <;> omega
theorem cmp3_bytes : Cmp3 (fun _ => True) compareBytes := by
 have h8 : ∀ x y : UInt8, x < y ↔ x.toNat < y.toNat := fun x y => UInt8.lt_iff_toNat_lt
 have anti : ∀ a b : List UInt8, compareBytes a b < 0 ↔ 0 < compareBytes b a := by
  intro a
  induction a with
  | nil => intro b; cases b <;> simp [compareBytes]
  | cons x a ih =>
   intro b
   cases b with
   | nil => simp [compareBytes]
   | cons y b =>
    simp only [compareBytes, h8]
    by_cases h1 : x.toNat < y.toNat
    ·have : ¬ y.toNat < x.toNat := by omega
     simp [h1, this]
    ·by_cases h2 : y.toNat < x.toNat
     ·simp [h1, h2]
     ·simp only [h1, h2, if_false]; exact ih b
 have trans : ∀ a b c : List UInt8, compareBytes a b ≤ 0 → compareBytes b c ≤ 0 → compareBytes a c ≤ 0 := by
  intro a
  induction a with
  | nil => intro b c _ _; cases c <;> simp [compareBytes]
  | cons x a ih =>
   intro b c h1 h2
   cases b with
   | nil => simp [compareBytes] at h1
   | cons y b =>
    cases c with
    | nil => simp [compareBytes] at h2
    | cons z c =>
     simp only [compareBytes, h8] at h1 h2 ⊢
     by_cases e1 : x.toNat < y.toNat
     ·by_cases e2 : y.toNat < z.toNat
      ·simp [show x.toNat < z.toNat by omega]
      ·by_cases e3 : z.toNat < y.toNat
       ·simp [e2, e3] at h2
       ·simp [show x.toNat < z.toNat by omega]
     ·by_cases e1' : y.toNat < x.toNat
      ·simp [e1, e1'] at h1
      ·simp only [e1, e1', if_false] at h1
       by_cases e2 : y.toNat < z.toNat
       ·simp [show x.toNat < z.toNat by omega]
       ·by_cases e3 : z.toNat < y.toNat
        ·simp [e2, e3] at h2
        ·simp only [e2, e3, if_false] at h2
         simp only [show ¬ x.toNat < z.toNat by omega, show ¬ z.toNat < x.toNat by omega, if_false]
         exact ih b c h1 h2
 exact ⟨fun a _ => (compareBytes_zero a a).2 rfl, fun a b _ _ => anti a b, fun a b c _ _ _ => trans a b c⟩
theorem cmp3_list {S : C → Prop} (h : Cmp3 S cmpT) : Cmp3 (fun l : List C => ∀ x ∈ l, S x) cmpTL := by
 refine ⟨fun l => ?_, fun l => ?_, fun l => ?_⟩
 ·induction l with
  | nil => intro _; simp [cmpTL]
  | cons a l ih => intro hl; simp [cmpTL, h.refl a (hl a (by simp)), ih (fun x hx => hl x (by simp [hx]))]
 ·induction l with
  | nil => intro m _ _; cases m <;> simp [cmpTL]
  | cons a l ih =>
   intro m hl hm
   cases m with
   | nil => simp [cmpTL]
   | cons b m =>
    have h1 := h.anti a b (hl a (by simp)) (hm b (by simp))
    by_cases e : cmpT a b = 0
    ·have e' := h.zero (hl a (by simp)) (hm b (by simp)) e
     simp only [cmpTL, e, e', if_true]
     exact ih m (fun x hx => hl x (by simp [hx])) (fun x hx => hm x (by simp [hx]))
    ·have e' : cmpT b a ≠ 0 := fun e' => e (h.zero (hm b (by simp)) (hl a (by simp)) e')
     simp only [cmpTL, e, e', if_false]; exact h1
 ·induction l with
  | nil => intro m k _ _ _ _ _; cases k <;> simp [cmpTL]
  | cons a l ih =>
   intro m k hl hm hk h1 h2
   cases m with
   | nil => simp [cmpTL] at h1
   | cons b m =>
    cases k with
    | nil => simp [cmpTL] at h2
    | cons c k =>
     have ha := hl a (by simp); have hb := hm b (by simp); have hc := hk c (by simp)
     simp only [cmpTL] at h1 h2 ⊢
     by_cases e1 : cmpT a b = 0
     ·by_cases e2 : cmpT b c = 0
      ·have e3 : cmpT a c = 0 := by
        have q1 := h.trans a b c ha hb hc (by omega) (by omega)
        have q2 := h.trans c b a hc hb ha (by have := h.zero hb hc e2; omega) (by have := h.zero ha hb e1; omega)
        have q3 := h.anti a c ha hc
        have q4 := h.anti c a hc ha
        omega
       simp only [e1, e2, e3, if_true] at h1 h2 ⊢
       exact ih m k (fun x hx => hl x (by simp [hx])) (fun x hx => hm x (by simp [hx])) (fun x hx => hk x (by simp [hx])) h1 h2
      ·simp only [e2, if_false] at h2
       have := h.le_lt ha hb hc (by omega) (show cmpT b c < 0 by omega)
       simp only [show cmpT a c ≠ 0 by omega, if_false]; omega
     ·simp only [e1, if_false] at h1
      have h2' : cmpT b c ≤ 0 := by
       by_cases e2 : cmpT b c = 0
       ·omega
       ·simpa only [e2, if_false] using h2
      have := h.lt_trans ha hb hc (show cmpT a b < 0 by omega) h2'
      simp only [show cmpT a c ≠ 0 by omega, if_false]; omega
theorem cmp3_head (S : C → Prop) : Cmp3 S headT := by
 have hI : ∀ p : C → Int, Cmp3 S (fun a b => cmpI (p a) (p b)) := fun p => cmp3_int.pull p (fun _ _ => trivial)
 have hB : Cmp3 S (fun a b => compareBytes a.name b.name) := cmp3_bytes.pull (fun c : C => c.name) (fun _ _ => trivial)
 have hz : Cmp3 S (fun _ _ => (0 : Int)) := ⟨fun _ _ => rfl, fun _ _ _ _ => by simp, fun _ _ _ _ _ _ _ _ => by simp⟩
 have := (hI (fun c => (sizeC c : Int))).lex ((hI (fun c => c.kind)).lex (hB.lex ((hI (fun c => c.lo)).lex ((hI (fun c => c.hi)).lex hz))))
 exact this
theorem cmp3_T : ∀ n : Nat, Cmp3 (fun c => sizeC c < n) cmpT
 | 0 => ⟨fun _ h => absurd h (Nat.not_lt_zero _), fun _ _ h => absurd h (Nat.not_lt_zero _), fun _ _ _ h => absurd h (Nat.not_lt_zero _)⟩
 | n + 1 => by
  have ih := cmp3_list (cmp3_T n)
  have hp : ∀ c : C, sizeC c < n + 1 → ∀ x ∈ c.parts, sizeC x < n := fun c hc x hx => by
   have := sizeL_mem hx
   rw [sizeC_eq] at hc; omega
  have h2 : Cmp3 (fun c => sizeC c < n + 1) (fun a b => cmpTL a.parts b.parts) := ih.pull (fun c : C => c.parts) hp
  have := (cmp3_head (fun c => sizeC c < n + 1)).lex h2
  exact ⟨fun a ha => by rw [cmpT_eq]; exact this.refl a ha, fun a b ha hb => by rw [cmpT_eq, cmpT_eq]; exact this.anti a b ha hb, fun a b c ha hb hc => by rw [cmpT_eq, cmpT_eq, cmpT_eq]; exact this.trans a b c ha hb hc⟩
theorem cmp3_all : Cmp3 (fun _ : C => True) cmpT := by
 refine ⟨fun a _ => (cmp3_T (sizeC a + 1)).refl a (by simp), fun a b _ _ => ?_, fun a b c _ _ _ => ?_⟩
 ·exact (cmp3_T (sizeC a + sizeC b + 1)).anti a b (by show _ < _; omega) (by show _ < _; omega)
 ·exact (cmp3_T (sizeC a + sizeC b + sizeC c + 1)).trans a b c (by show _ < _; omega) (by show _ < _; omega) (by show _ < _; omega)
theorem nz_nz : ∀ c : C, nz (nz c) = nz c := by
 refine C.ind' fun c ih => ?_
 have h : (c.parts.map nz).map nz = c.parts.map nz := by
  rw [List.map_map]
  exact List.map_congr_left (fun x hx => ih x hx)
 rw [nz_eq (nz c), nz_kind, nz_name, nz_lo, nz_hi, nz_parts, h, nz_eq c]
theorem cmpT_nz (a b : C) : cmpT (nz a) (nz b) = cmpT a b := by
 have key : ∀ a : C, ∀ b, cmpT (nz a) (nz b) = cmpT a b := by
  refine C.ind' fun a ih b => ?_
  have hl : ∀ (x y : List C), (∀ p ∈ x, p ∈ a.parts) → cmpTL (x.map nz) (y.map nz) = cmpTL x y := by
   intro x
   induction x with
   | nil => intro y _; cases y <;> simp [cmpTL]
   | cons p x ihx =>
    intro y hx
    cases y with
    | nil => simp [cmpTL]
    | cons q y => simp only [List.map_cons, cmpTL, ih p (hx p (by simp)) q, ihx y (fun z hz => hx z (by simp [hz]))]
  rw [cmpT_eq, cmpT_eq a b]
  have hh : headT (nz a) (nz b) = headT a b := by
   simp only [headT, size_nz, nz_kind, nz_name, nz_lo, nz_hi]
  rw [hh, nz_parts, nz_parts, hl a.parts b.parts (fun p hp => hp)]
 exact key a b
def insC (x : C) : List C → List C
 | [] => [x]
 | y :: r => if cmpT y x < 0 then y :: insC x r else x :: y :: r
def isortC : List C → List C
 | [] => []
 | x :: r => insC x (isortC r)
def SortedC (l : List C) : Prop := l.Pairwise fun a b => cmpT a b ≤ 0
theorem insC_perm (x : C) : ∀ l, (insC x l).Perm (x :: l)
 | [] => .refl _
 | y :: r => by
  simp only [insC]
  split
  ·exact (List.Perm.cons y (insC_perm x r)).trans (List.Perm.swap x y r)
  ·exact .refl _
theorem isortC_perm : ∀ l, (isortC l).Perm l
 | [] => .refl _
 | x :: r => (insC_perm x _).trans (List.Perm.cons x (isortC_perm r))
theorem insC_sorted (x : C) : ∀ l, SortedC l → SortedC (insC x l)
 | [], _ => by simp [insC, SortedC]
 | y :: r, h => by
  obtain ⟨h1, h2⟩ := List.pairwise_cons.1 h
  simp only [insC]
  split
  ·rename_i hlt
   refine List.pairwise_cons.2 ⟨fun z hz => ?_, insC_sorted x r h2⟩
   rcases List.mem_cons.1 ((insC_perm x r).mem_iff.1 hz) with rfl | hz
   ·omega
   ·exact h1 z hz
  ·rename_i hnlt
   have hxy : cmpT x y ≤ 0 := by
    have := cmp3_all.anti y x trivial trivial
    omega
   refine List.pairwise_cons.2 ⟨fun z hz => ?_, h⟩
   rcases List.mem_cons.1 hz with rfl | hz
   ·exact hxy
   ·exact cmp3_all.trans x y z trivial trivial trivial hxy (h1 z hz)
theorem isortC_sorted : ∀ l, SortedC (isortC l)
 | [] => .nil
 | x :: r => insC_sorted x _ (isortC_sorted r)
theorem sorted_nz {l m : List C} (hp : m.Perm l) (hs : SortedC m) : m.map nz = isortC (l.map nz) := by
 have h1 : (m.map nz).Perm (isortC (l.map nz)) := (hp.map nz).trans (isortC_perm _).symm
 refine List.Perm.eq_of_pairwise (le := fun a b => cmpT a b ≤ 0) ?_ ?_ (isortC_sorted _) h1
 ·intro a b ha hb h2 h3
  obtain ⟨x, _, rfl⟩ := List.mem_map.1 ha
  obtain ⟨y, _, rfl⟩ := List.mem_map.1 ((isortC_perm _).mem_iff.1 hb)
  have h4 := cmp3_all.anti (nz x) (nz y) trivial trivial
  have h5 := cmp3_all.anti (nz y) (nz x) trivial trivial
  have h0 : cmpT (nz x) (nz y) = 0 := by omega
  have := (cmpT_zero _ _).1 h0
  rwa [nz_nz, nz_nz] at this
 ·exact List.Pairwise.map nz (fun a b hab => by rw [cmpT_nz]; exact hab) hs
def compF (a : C) : List C → List C
 | [] => []
 | b :: r => if cmpT b a = 0 then compF b r else b :: compF b r
def comp : List C → List C
 | [] => []
 | a :: r => a :: compF a r
theorem compF_nz (a : C) : ∀ l : List C, (compF a l).map nz = compF (nz a) (l.map nz)
 | [] => rfl
 | b :: r => by
  simp only [compF, List.map_cons, cmpT_nz]
  split
  ·exact compF_nz b r
  ·simp [compF_nz b r]
theorem comp_nz (l : List C) : (comp l).map nz = comp (l.map nz) := by
 cases l with
 | nil => rfl
 | cons a r => simp [comp, compF_nz]
theorem compF_sub (a : C) : ∀ l : List C, (compF a l).Sublist l
 | [] => .refl _
 | b :: r => by
  simp only [compF]
  split
  ·exact (compF_sub b r).cons b
  ·exact (compF_sub b r).cons_cons b
theorem comp_sub : ∀ l : List C, (comp l).Sublist l
 | [] => .refl _
 | a :: r => (compF_sub a r).cons_cons a
end Go.Ai.Z
namespace Go.Ai.Z
open Go.Lib (compareBytes)
@[simp] theorem elemsE_skT {env : Env} {l ver sz o n : Nat} : elemsE env (some (.v (.sk l ver sz o n))) = none := rfl
def flT : List C → List AV
 | [] => []
 | c :: r => [.i .i64 c.kind, .s c.name, .i .i64 c.lo, .i .i64 c.hi, slf c.z (c.parts.map encC), .i .i64 (sizeC c : Int), slf true (c.parts.map encT)] ++ flT r
theorem flT_app : ∀ x y : List C, flT (x ++ y) = flT x ++ flT y
 | [], y => rfl
 | c :: x, y => by simp only [List.cons_append, flT, flT_app x y, List.append_assoc]
@[simp] theorem flT_len : ∀ l : List C, (flT l).length = l.length * 7
 | [] => rfl
 | c :: r => by simp only [flT, List.length_append, flT_len r, List.length_cons, List.length_nil]; omega
@[simp] theorem flT_fold (L : List C) (c : C) : flT L ++ [.i .i64 c.kind, .s c.name, .i .i64 c.lo, .i .i64 c.hi, slf c.z (c.parts.map encC), .i .i64 (sizeC c : Int), slf true (c.parts.map encT)] = flT (L ++ [c]) := by
 rw [flT_app]; rfl
theorem flT_drop : ∀ (L : List C) (i : Nat) (z : List AV), i ≤ L.length → (flT L ++ z).drop (i * 7) = flT (L.drop i) ++ z
 | L, 0, z, _ => by simp
 | [], i + 1, z, h => absurd h (by simp)
 | c :: r, i + 1, z, h => by
  have e : (i + 1) * 7 = 7 + i * 7 := by omega
  rw [e, ← List.drop_drop]
  simp only [flT, List.cons_append, List.nil_append, List.drop_succ_cons, List.drop_zero]
  exact flT_drop r i z (by simpa using h)
theorem flT_take : ∀ (L : List C) (i : Nat) (z : List AV), i ≤ L.length → (flT L ++ z).take (i * 7) = flT (L.take i)
 | L, 0, z, _ => by simp [flT]
 | [], i + 1, z, h => absurd h (by simp)
 | c :: r, i + 1, z, h => by
  have e : (i + 1) * 7 = i * 7 + 7 := by omega
  rw [e]
  simp only [flT, List.cons_append, List.nil_append, List.take_succ_cons]
  rw [flT_take r i z (by simpa using h)]
theorem part_flT (L : List C) (z : List AV) (i : Nat) (h : i < L.length) : part (flT L ++ z) (i * 7) (some 7) = some (encT L[i]) := by
 have hd := flT_drop L i z (by omega)
 have hl : i * 7 + 7 ≤ (flT L ++ z).length := by
  rw [List.length_append, flT_len]; have : (i + 1) * 7 ≤ L.length * 7 := Nat.mul_le_mul_right 7 h; omega
 simp only [part, if_pos hl, hd]
 have : L.drop i = L[i] :: L.drop (i + 1) := List.drop_eq_getElem_cons h
 rw [this, encT_eq]
 simp [flT]
theorem get_flT (L : List C) (z : List AV) (i : Nat) (h : i < L.length) : AV.ag (((flT L ++ z).drop (i * 7)).take 7) = encT L[i] := by
 have hl : i * 7 + 7 ≤ (flT L ++ z).length := by
  rw [List.length_append, flT_len]; have : (i + 1) * 7 ≤ L.length * 7 := Nat.mul_le_mul_right 7 h; omega
 have := part_flT L z i h
 simp only [part, if_pos hl, Option.some.injEq] at this
 exact this
theorem fit_flT (L : List C) (z : List AV) (i : Nat) (h : i < L.length) : i * 7 + 7 ≤ L.length * 7 + z.length := by
 have : (i + 1) * 7 ≤ L.length * 7 := Nat.mul_le_mul_right 7 h
 omega
theorem splice_flT (L : List C) (z : List AV) (i : Nat) (h : i < L.length) (c : C) :
  splice (flT L ++ z) (i * 7) [.i .i64 c.kind, .s c.name, .i .i64 c.lo, .i .i64 c.hi, slf c.z (c.parts.map encC), .i .i64 (sizeC c : Int), slf true (c.parts.map encT)] = flT (L.set i c) ++ z := by
 have h1 := flT_take L i z (by omega)
 have h2 := flT_drop L (i + 1) z (by omega)
 have e : i * 7 + 7 = (i + 1) * 7 := by omega
 simp only [splice, List.length_cons, List.length_nil, Nat.zero_add, Nat.reduceAdd, h1]
 rw [e, h2, ← List.append_assoc]
 congr 1
 rw [show flT (L.take i) ++ [AV.i .i64 c.kind, .s c.name, .i .i64 c.lo, .i .i64 c.hi, slf c.z (c.parts.map encC), .i .i64 (sizeC c : Int), slf true (c.parts.map encT)] = flT (L.take i ++ [c]) from flT_fold _ _, ← flT_app]
 congr 1
 rw [List.set_eq_take_append_cons_drop, if_pos h]; simp
theorem c_meet_1 (c d : C) (hc : wC c ≤ 1000) (hd : wC d ≤ 1000) (s : St) (cx : Ctx) : acallW P0 (.fn (.func F_terms_meet_1) [] []) [encT c, encT d] s cx = .ret (.b (cmpT c d == 0)) s := by
 refine go_terms_meet_1 (by simp) ?_
 have e1 := c_tree_compare c hc d hd
 simp [callFnW, ir_terms_meet_1, e1]
theorem compF_app (a : C) : ∀ (l : List C) (b : C), compF a (l ++ [b]) = if cmpT b (l.getLastD a) = 0 then compF a l else compF a l ++ [b]
 | [], b => by simp [compF]
 | x :: l, b => by
  simp only [List.cons_append, compF]
  have h := compF_app x l b
  have hl : (x :: l).getLastD a = l.getLastD x := List.getLastD_cons
  rw [h, hl]
  split <;> split <;> rfl
theorem comp_take (L : List C) (j : Nat) (h : j + 1 < L.length) : comp (L.take (j + 2)) = if cmpT L[j + 1] L[j] = 0 then comp (L.take (j + 1)) else comp (L.take (j + 1)) ++ [L[j + 1]] := by
 have h1 : L.take (j + 2) = L.take (j + 1) ++ [L[j + 1]] := List.take_succ_eq_append_getElem h
 rw [h1]
 have h2 : ∃ a r, L.take (j + 1) = a :: r ∧ r.getLastD a = L[j] := by
  have h3 : L.take (j + 1) = L.take j ++ [L[j]] := List.take_succ_eq_append_getElem (by omega)
  rw [h3]
  cases hL : L.take j with
  | nil => exact ⟨_, _, rfl, rfl⟩
  | cons a r => exact ⟨a, r ++ [L[j]], rfl, by simp⟩
 obtain ⟨a, r, e1, e2⟩ := h2
 rw [e1]
 simp only [List.cons_append, comp, compF_app, e2]
 split <;> rfl
theorem comp_le (l : List C) : (comp l).length ≤ l.length := (comp_sub l).length_le
end Go.Ai.Z
