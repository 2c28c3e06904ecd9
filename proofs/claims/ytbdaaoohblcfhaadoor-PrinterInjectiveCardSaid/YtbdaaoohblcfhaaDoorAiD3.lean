/-
  Every order of an open region.
-/
import Derived.Test.YtbdaaoohblcfhaaDoorAiD2
set_option maxRecDepth 100000
set_option linter.unusedSimpArgs false
set_option linter.unusedVariables false
namespace Go.Ai

variable {P : Program} {glob : Nat → Option (List AV)} {g : Ghost} {s : St} {B : Nat} {w : World} {env env2 : Env} {a : Act} {call : AV → List AV → St → Ctx → CO} {cx : Ctx} {env' : Env} {s' : St} {ops : Array Oper} {aops : List AOper}

inductive Reach (ops : Array Oper) : Nat → Nat → Prop where
  | edge {i j : Nat} : j ∈ waitsOn ops i → Reach ops i j
  | trans {i e j : Nat} : e ∈ waitsOn ops i → Reach ops e j → Reach ops i j

def MaskOK (ops : Array Oper) (acc : List (Nat × Nat)) : Prop := ∀ e j, (maskIn acc e).testBit j = true → Reach ops e j

theorem maskOf_spec {acc : List (Nat × Nat)} : ∀ (es : List Nat) (j : Nat), (maskOf acc es).testBit j = true → ∃ e ∈ es, j = e ∨ (maskIn acc e).testBit j = true
  | [], j, h => by simp [maskOf] at h
  | e :: r, j, h => by
    simp only [maskOf, Nat.testBit_or, Bool.or_eq_true, Nat.testBit_two_pow, decide_eq_true_eq] at h
    rcases h with (h | h) | h
    · exact ⟨e, by simp, .inl h.symm⟩
    · exact ⟨e, by simp, .inr h⟩
    · obtain ⟨e', h1, h2⟩ := maskOf_spec r j h
      exact ⟨e', by simp [h1], h2⟩

theorem masks_spec : ∀ (π : List Nat) (acc : List (Nat × Nat)), MaskOK ops acc → MaskOK ops (masks ops π acc)
  | [], acc, h => h
  | i :: r, acc, h => by
    refine masks_spec r _ (fun e j hj => ?_)
    simp only [maskIn] at hj
    split at hj
    · rename_i hie
      have : i = e := by simpa using hie
      subst this
      obtain ⟨e', h1, h2⟩ := maskOf_spec _ j hj
      rcases h2 with rfl | h2
      · exact .edge h1
      · exact .trans h1 (h e' j h2)
    · exact h e j hj

def ApartI (aops : List AOper) (j i : Nat) : Prop := ∃ o p, aops[j]? = some o ∧ aops[i]? = some p ∧ apartA o p = true

theorem chkPairs_spec {ms : List (Nat × Nat)} (hms : MaskOK ops ms) : ∀ (π : List Nat), chkPairs aops ms π = true → π.Pairwise fun j i => Reach ops i j ∨ ApartI aops j i
  | [], _ => .nil
  | j :: r, h => by
    simp only [chkPairs, Bool.and_eq_true, List.all_eq_true] at h
    refine .cons (fun i hi => ?_) (chkPairs_spec hms r h.2)
    have h1 := h.1 i hi
    simp only [chkPair, Bool.or_eq_true] at h1
    rcases h1 with h1 | h1
    · exact .inl (hms i j h1)
    · split at h1
      · rename_i o p ho hp; exact .inr ⟨o, p, ho, hp, h1⟩
      · cases h1

structure Inv (ops : Array Oper) (aops : List AOper) (listed : Array Bool) (rem : List Nat) : Prop where
  sz : listed.size = ops.size
  mem : ∀ j, j < ops.size → (listed.getD j true = false ↔ j ∈ rem)
  lt : ∀ j ∈ rem, j < ops.size
  nd : rem.Nodup
  pairs : rem.Pairwise fun j i => Reach ops i j ∨ ApartI aops j i
  down : ∀ i, listed.getD i false = true → ∀ e ∈ waitsOn ops i, listed.getD e false = true
  topo : ∀ p i q, rem = p ++ i :: q → ∀ e ∈ waitsOn ops i, listed.getD e false = true ∨ e ∈ p

variable {listed : Array Bool} {rem : List Nat}

theorem ready_waits {i : Nat} (h : i ∈ Region.ready .any ops listed) : ∀ e ∈ waitsOn ops i, listed.getD e false = true := by
  obtain ⟨_, o, ho, hall⟩ := mem_ready.1 h
  intro e he
  simp only [waitsOn, ho, List.mem_map, List.mem_filter, Array.mem_toList_iff] at he
  obtain ⟨x, ⟨hx, hb⟩, rfl⟩ := he
  exact hall x hx hb

theorem getD_tf {j : Nat} (h : j < listed.size) : listed.getD j true = listed.getD j false := by
  simp [Array.getD_eq_getD_getElem?, h]

theorem Inv.reach (h : Inv ops aops listed rem) {i j : Nat} (hr : Reach ops i j) (hw : ∀ e ∈ waitsOn ops i, listed.getD e false = true) : listed.getD j false = true := by
  induction hr with
  | edge he => exact hw _ he
  | trans he _ ih => exact ih (h.down _ (hw _ he))

theorem Inv.not_reach (h : Inv ops aops listed rem) {i j : Nat} (hi : i ∈ Region.ready .any ops listed) (hj : j ∈ rem) : ¬ Reach ops i j := by
  intro hr
  have h1 := h.reach hr (ready_waits hi)
  have h2 := (h.mem j (h.lt j hj)).2 hj
  rw [getD_tf (by rw [h.sz]; exact h.lt j hj), h1] at h2
  cases h2

theorem Inv.ready_mem (h : Inv ops aops listed rem) {i : Nat} (hi : i ∈ Region.ready .any ops listed) : i ∈ rem := by
  obtain ⟨h1, o, ho, _⟩ := mem_ready.1 hi
  exact (h.mem i (Array.getElem?_eq_some_iff.1 ho).1).1 h1

theorem Inv.head_ready {i : Nat} {r : List Nat} (h : Inv ops aops listed (i :: r)) : i ∈ Region.ready .any ops listed := by
  have hlt := h.lt i (by simp)
  refine mem_ready.2 ⟨(h.mem i hlt).2 (by simp), ops[i], by simp [hlt], fun e he hb => ?_⟩
  have hw : e.on ∈ waitsOn ops i := by
    simp only [waitsOn, Array.getElem?_eq_getElem hlt, List.mem_map, List.mem_filter, Array.mem_toList_iff]
    exact ⟨e, ⟨he, hb⟩, rfl⟩
  rcases h.topo [] i r rfl e.on hw with h1 | h1
  · exact h1
  · cases h1

theorem Inv.nil_ready (h : Inv ops aops listed []) : Region.ready .any ops listed = [] := by
  cases hr : Region.ready .any ops listed with
  | nil => rfl
  | cons i r => have := h.ready_mem (i := i) (by rw [hr]; simp); cases this

theorem Inv.remove {p q : List Nat} {i : Nat} (h : Inv ops aops listed (p ++ i :: q)) (hi : i ∈ Region.ready .any ops listed) : Inv ops aops (listed.setIfInBounds i true) (p ++ q) := by
  have hlt := h.lt i (by simp)
  have hset : ∀ j b, (listed.setIfInBounds i true).getD j b = if j = i then true else listed.getD j b := by
    intro j b
    by_cases hj : j = i
    · subst hj; simp [Array.getD_eq_getD_getElem?, h.sz, hlt]
    · simp [Array.getD_eq_getD_getElem?, hj, Array.getElem?_setIfInBounds, Ne.symm hj]
  have hnd := h.nd
  have hsub : List.Sublist (p ++ q) (p ++ i :: q) := List.Sublist.append (List.Sublist.refl p) (List.sublist_cons_self i q)
  have hni : i ∉ p ++ q := by
    have h1 := List.nodup_append.1 hnd
    intro hh
    rcases List.mem_append.1 hh with hh | hh
    · exact h1.2.2 i hh i (by simp) rfl
    · exact (List.nodup_cons.1 h1.2.1).1 hh
  refine ⟨by simpa using h.sz, fun j hj => ?_, fun j hj => h.lt j (by simp at hj ⊢; rcases hj with hj | hj <;> simp [hj]), ?_, ?_, fun k hk e he => ?_, fun p' k q' heq e he => ?_⟩
  · rw [hset]
    by_cases hji : j = i
    · subst hji; simp only [if_true]; exact ⟨fun hh => absurd hh (by decide), fun hh => absurd hh hni⟩
    · rw [if_neg hji, h.mem j hj]; simp [hji]
  · exact List.Nodup.sublist hsub hnd
  · have := h.pairs
    exact List.Pairwise.sublist hsub this
  · rw [hset] at hk ⊢
    split
    · rfl
    · split at hk
      · rename_i hki; subst hki; exact ready_waits hi e he
      · exact h.down k hk e he
  · rw [hset]
    by_cases hei : e = i
    · left; rw [if_pos hei]
    · rw [if_neg hei]
      rcases List.append_eq_append_iff.1 heq with ⟨c, h1, h2⟩ | ⟨c, h1, h2⟩
      · -- k within q
        rcases h.topo (p ++ i :: c) k q' (by rw [h2]; simp) e he with h3 | h3
        · exact .inl h3
        · right; rw [h1]; simp at h3 ⊢; rcases h3 with h3 | h3 | h3
          · exact .inl h3
          · exact absurd h3 hei
          · exact .inr h3
      · cases c with
        | nil =>
          simp at h1 h2
          subst h1
          rcases h.topo (p ++ [i]) k q' (by rw [← h2]; simp) e he with h3 | h3
          · exact .inl h3
          · right; simp at h3; rcases h3 with h3 | h3
            · exact h3
            · exact absurd h3 hei
        | cons c0 c =>
          simp at h2
          obtain ⟨rfl, rfl⟩ := h2
          exact h.topo p' k (c ++ i :: q) (by rw [h1]; simp) e he

end Go.Ai
