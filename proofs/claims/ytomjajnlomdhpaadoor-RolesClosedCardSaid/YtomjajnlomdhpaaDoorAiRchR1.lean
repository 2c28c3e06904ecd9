/-
 Which roles are contained in which: rounds of a list of pairs reach all that can be reached.
-/
import Derived.Test.YtomjajnlomdhpaaDoorAiC1
import Derived.Test.YtomjajnlomdhpaaDoorAiK12
import Derived.Test.YtomjajnlomdhpaaDoorAiK11
set_option maxRecDepth 100000
set_option linter.unusedSimpArgs false
set_option linter.unusedVariables false
namespace Go.Ai
inductive Rch (E : List (List UInt8 × List UInt8)) : List UInt8 → List UInt8 → Prop where
 | refl (a : List UInt8) : Rch E a a
 | step {a b c : List UInt8} : Rch E a b → (b, c) ∈ E → Rch E a c
theorem Rch.trans {E : List (List UInt8 × List UInt8)} {a b c : List UInt8} (h : Rch E a b) (h' : Rch E b c) : Rch E a c := by
 induction h' with
 | refl => exact h
 | step _ he ih => exact .step ih he
theorem Rch.one {E : List (List UInt8 × List UInt8)} {a b : List UInt8} (h : (a, b) ∈ E) : Rch E a b := .step (.refl a) h
theorem Rch.mono {E E' : List (List UInt8 × List UInt8)} (hE : ∀ p ∈ E, p ∈ E') {a b : List UInt8} (h : Rch E a b) : Rch E' a b := by
 induction h with
 | refl => exact .refl _
 | step _ he ih => exact .step ih (hE _ he)
def flipE (E : List (List UInt8 × List UInt8)) : List (List UInt8 × List UInt8) := E.map fun p => (p.2, p.1)
theorem mem_flipE {E : List (List UInt8 × List UInt8)} {a b : List UInt8} : (a, b) ∈ flipE E ↔ (b, a) ∈ E := by
 simp only [flipE, List.mem_map, Prod.mk.injEq]
 constructor
 ·rintro ⟨⟨x, y⟩, h, rfl, rfl⟩; exact h
 ·intro h; exact ⟨(b, a), h, rfl, rfl⟩
theorem Rch.flip {E : List (List UInt8 × List UInt8)} {a b : List UInt8} (h : Rch E a b) : Rch (flipE E) b a := by
 induction h with
 | refl => exact .refl _
 | step _ he ih => exact (Rch.one (mem_flipE.2 he)).trans ih
theorem flipE_flipE (E : List (List UInt8 × List UInt8)) : flipE (flipE E) = E := by simp [flipE, Function.comp_def]
theorem Rch.flip_iff {E : List (List UInt8 × List UInt8)} {a b : List UInt8} : Rch (flipE E) a b ↔ Rch E b a :=
 ⟨fun h => by have := h.flip; rwa [flipE_flipE] at this, fun h => h.flip⟩
def Srt (l : List (List UInt8)) : Prop := l.Pairwise fun a b => a < b
theorem Srt.nodup {l : List (List UInt8)} (h : Srt l) : l.Nodup := h.imp fun {a b} hab he => by subst he; exact List.lt_irrefl a hab
theorem Srt.ext {l l' : List (List UInt8)} (h : Srt l) (h' : Srt l') (hm : ∀ x, x ∈ l ↔ x ∈ l') : l = l' :=
 List.Perm.eq_of_pairwise (le := fun a b => a < b) (fun a b _ _ h1 h2 => absurd h2 (List.lt_asymm h1)) h h' ((List.perm_ext_iff_of_nodup h.nodup h'.nodup).2 hm)
theorem isort_srt {l : List (List UInt8)} (h : l.Nodup) : Srt (isort l) := by
 have h1 := isort_sorted l
 have h2 : (isort l).Nodup := (isort_perm l).nodup_iff.2 h
 refine (h1.and h2).imp fun {a b} hab => ?_
 rcases List.le_iff_lt_or_eq.1 hab.1 with h | h
 ·exact h
 ·exact absurd h hab.2
theorem strictS_of : ∀ {l : List (List UInt8)}, Srt l → strictS l = true
 | [], _ => rfl
 | [a], _ => rfl
 | a :: b :: r, h => by
  obtain ⟨h1, h2⟩ := List.pairwise_cons.1 h
  simp only [strictS, Bool.and_eq_true, decide_eq_true_eq]
  exact ⟨h1 b (by simp), strictS_of h2⟩
def withS (l : List (List UInt8)) (s : List UInt8) : List (List UInt8) :=
 if s ∈ l then l else l.takeWhile (fun x => decide (x < s)) ++ s :: l.dropWhile (fun x => decide (x < s))
theorem mem_withS {l : List (List UInt8)} {s x : List UInt8} : x ∈ withS l s ↔ x = s ∨ x ∈ l := by
 unfold withS
 split
 ·rename_i h
  constructor
  ·exact .inr
  ·rintro (rfl | h'); exact h; exact h'
 ·have : x ∈ l ↔ x ∈ l.takeWhile (fun x => decide (x < s)) ∨ x ∈ l.dropWhile (fun x => decide (x < s)) := by
   rw [← List.mem_append, List.takeWhile_append_dropWhile]
  rw [this]
  simp only [List.mem_append, List.mem_cons]
  constructor
  ·rintro (h | h | h); exact .inr (.inl h); exact .inl h; exact .inr (.inr h)
  ·rintro (h | h | h); exact .inr (.inl h); exact .inl h; exact .inr (.inr h)
theorem srt_drop {s : List UInt8} : ∀ {l : List (List UInt8)}, Srt l → s ∉ l → ∀ x ∈ l.dropWhile (fun x => decide (x < s)), s < x
 | [], _, _, x, hx => by simp at hx
 | a :: r, h, hn, x, hx => by
  obtain ⟨h1, h2⟩ := List.pairwise_cons.1 h
  simp only [List.dropWhile_cons] at hx
  split at hx
  ·exact srt_drop h2 (fun hm => hn (by simp [hm])) x hx
  ·rename_i hlt
   have hlt' : ¬ a < s := by simpa using hlt
   have hsa : s < a := by
    rcases List.le_iff_lt_or_eq.1 (List.not_lt.1 hlt') with h | h
    ·exact h
    ·exact absurd (by simp [h]) hn
   rcases List.mem_cons.1 hx with rfl | hx
   ·exact hsa
   ·exact List.lt_trans hsa (h1 x hx)
theorem srt_withS {l : List (List UInt8)} {s : List UInt8} (h : Srt l) : Srt (withS l s) := by
 unfold withS
 split
 ·exact h
 ·rename_i hn
  have h0 : Srt (l.takeWhile (fun x => decide (x < s)) ++ l.dropWhile (fun x => decide (x < s))) := by rw [List.takeWhile_append_dropWhile]; exact h
  obtain ⟨h1, h2, h3⟩ := List.pairwise_append.1 h0
  have ht : ∀ a ∈ l.takeWhile (fun x => decide (x < s)), a < s := fun a ha => by
   have := List.all_eq_true.1 (List.all_takeWhile (p := fun x => decide (x < s)) (l := l)) a ha
   simpa using this
  have hd := srt_drop h hn
  refine List.pairwise_append.2 ⟨h1, List.pairwise_cons.2 ⟨hd, h2⟩, fun a ha b hb => ?_⟩
  rcases List.mem_cons.1 hb with rfl | hb
  ·exact ht a ha
  ·exact h3 a ha b hb
def upR (E : List (List UInt8 × List UInt8)) (out : List (List UInt8)) : List (List UInt8) := E.foldl (fun out p => if p.1 ∈ out then withS out p.2 else out) out
def upN (E : List (List UInt8 × List UInt8)) : Nat → List (List UInt8) → List (List UInt8)
 | 0, out => out
 | n + 1, out => upN E n (upR E out)
theorem upR_sub {E : List (List UInt8 × List UInt8)} : ∀ {out : List (List UInt8)}, ∀ x ∈ out, x ∈ upR E out := by
 unfold upR
 induction E with
 | nil => intro out x hx; exact hx
 | cons p E ih =>
  intro out x hx
  simp only [List.foldl_cons]
  apply ih
  split
  ·exact mem_withS.2 (.inr hx)
  ·exact hx
theorem upR_srt {E : List (List UInt8 × List UInt8)} : ∀ {out : List (List UInt8)}, Srt out → Srt (upR E out) := by
 unfold upR
 induction E with
 | nil => intro out h; exact h
 | cons p E ih =>
  intro out h
  simp only [List.foldl_cons]
  apply ih
  split
  ·exact srt_withS h
  ·exact h
theorem upR_sound {E0 : List (List UInt8 × List UInt8)} {a : List UInt8} : ∀ {E : List (List UInt8 × List UInt8)}, (∀ p ∈ E, p ∈ E0) → ∀ {out : List (List UInt8)}, (∀ x ∈ out, Rch E0 a x) → ∀ x ∈ upR E out, Rch E0 a x := by
 intro E
 unfold upR
 induction E with
 | nil => intro _ out h x hx; exact h x hx
 | cons p E ih =>
  intro hE out h x hx
  simp only [List.foldl_cons] at hx
  refine ih (fun q hq => hE q (by simp [hq])) (fun y hy => ?_) x hx
  split at hy
  ·rename_i hp
   rcases mem_withS.1 hy with rfl | hy
   ·exact .step (h _ hp) (hE p (by simp))
   ·exact h y hy
  ·exact h y hy
theorem upR_one {E : List (List UInt8 × List UInt8)} : ∀ {out : List (List UInt8)} {r s : List UInt8}, (r, s) ∈ E → r ∈ out → s ∈ upR E out := by
 unfold upR
 induction E with
 | nil => intro out r s h; simp at h
 | cons p E ih =>
  intro out r s h hr
  simp only [List.foldl_cons]
  rcases List.mem_cons.1 h with rfl | h
  ·simp only [hr, if_true]
   exact upR_sub (E := E) _ (mem_withS.2 (.inl rfl))
  ·refine ih h ?_
   split
   ·exact mem_withS.2 (.inr hr)
   ·exact hr
theorem upN_srt {E : List (List UInt8 × List UInt8)} : ∀ (n : Nat) {out : List (List UInt8)}, Srt out → Srt (upN E n out)
 | 0, _, h => h
 | n + 1, _, h => upN_srt n (upR_srt h)
theorem upN_sub {E : List (List UInt8 × List UInt8)} : ∀ (n : Nat) {out : List (List UInt8)}, ∀ x ∈ out, x ∈ upN E n out
 | 0, _, _, h => h
 | n + 1, _, x, h => upN_sub n x (upR_sub x h)
theorem upN_sound {E : List (List UInt8 × List UInt8)} {a : List UInt8} : ∀ (n : Nat) {out : List (List UInt8)}, (∀ x ∈ out, Rch E a x) → ∀ x ∈ upN E n out, Rch E a x
 | 0, _, h => h
 | n + 1, _, h => upN_sound n (upR_sound (fun _ h => h) h)
def ClosedE (E : List (List UInt8 × List UInt8)) (out : List (List UInt8)) : Prop := ∀ r s, (r, s) ∈ E → r ∈ out → s ∈ out
theorem ClosedE.rch {E : List (List UInt8 × List UInt8)} {out : List (List UInt8)} (h : ClosedE E out) {a x : List UInt8} (hr : Rch E a x) (ha : a ∈ out) : x ∈ out := by
 induction hr with
 | refl => exact ha
 | step _ he ih => exact h _ _ he ih
theorem closed_of_same {E : List (List UInt8 × List UInt8)} {out : List (List UInt8)} (h : ∀ x ∈ upR E out, x ∈ out) : ClosedE E out := fun _ _ he hr => h _ (upR_one he hr)
theorem upN_closed {E : List (List UInt8 × List UInt8)} : ∀ (n : Nat) {out : List (List UInt8)}, ClosedE E out → ∀ x ∈ upN E n out, x ∈ out := by
 have one : ∀ {out : List (List UInt8)}, ClosedE E out → ∀ x ∈ upR E out, x ∈ out := by
  intro out hc
  have : ∀ (E' : List (List UInt8 × List UInt8)), (∀ p ∈ E', p ∈ E) → ∀ out' : List (List UInt8), (∀ x, x ∈ out' ↔ x ∈ out) → ∀ x ∈ upR E' out', x ∈ out := by
   intro E'
   unfold upR
   induction E' with
   | nil => intro _ out' h x hx; exact (h x).1 hx
   | cons p E' ih =>
    intro hE out' h x hx
    simp only [List.foldl_cons] at hx
    refine ih (fun q hq => hE q (by simp [hq])) _ (fun y => ?_) x hx
    split
    ·rename_i hp
     rw [mem_withS, h y]
     exact ⟨fun hy => by rcases hy with rfl | hy; exact hc _ _ (hE p (by simp)) ((h _).1 hp); exact hy, .inr⟩
    ·exact h y
  exact this E (fun _ h => h) out (fun _ => Iff.rfl)
 intro n
 induction n with
 | zero => intro out _ x hx; exact hx
 | succ n ih =>
  intro out hc x hx
  have hsame : ∀ y, y ∈ upR E out ↔ y ∈ out := fun y => ⟨one hc y, upR_sub y⟩
  have hc' : ClosedE E (upR E out) := fun r s he hr => (hsame s).2 (hc r s he ((hsame r).1 hr))
  exact (hsame x).1 (ih hc' x hx)
def hitE (E : List (List UInt8 × List UInt8)) (out : List (List UInt8)) : Nat := (E.filter fun p => decide (p.2 ∈ out)).length
theorem hitE_mono {E : List (List UInt8 × List UInt8)} {out out' : List (List UInt8)} (h : ∀ x ∈ out, x ∈ out') : hitE E out ≤ hitE E out' := by
 unfold hitE
 induction E with
 | nil => simp
 | cons p E ih =>
  simp only [List.filter_cons]
  by_cases h1 : p.2 ∈ out
  ·simp [h1, h _ h1]; exact ih
  ·by_cases h2 : p.2 ∈ out' <;> simp [h1, h2] <;> omega
theorem hitE_lt {E : List (List UInt8 × List UInt8)} {out out' : List (List UInt8)} (h : ∀ x ∈ out, x ∈ out') {r s : List UInt8} (he : (r, s) ∈ E) (h1 : s ∉ out) (h2 : s ∈ out') : hitE E out < hitE E out' := by
 unfold hitE
 induction E with
 | nil => simp at he
 | cons p E ih =>
  simp only [List.filter_cons]
  have hm := hitE_mono (E := E) h
  unfold hitE at hm
  rcases List.mem_cons.1 he with rfl | he
  ·simp [h1, h2]; omega
  ·have := ih he
   by_cases h3 : p.2 ∈ out
   ·simp [h3, h _ h3]; exact this
   ·by_cases h4 : p.2 ∈ out' <;> simp [h3, h4] <;> omega
theorem hitE_le {E : List (List UInt8 × List UInt8)} {out : List (List UInt8)} : hitE E out ≤ E.length := List.length_filter_le _ _
theorem upN_closes {E : List (List UInt8 × List UInt8)} : ∀ (n : Nat) {out : List (List UInt8)}, E.length - hitE E out < n → ClosedE E (upN E n out)
 | 0, out, h => by omega
 | n + 1, out, h => by
  by_cases hs : ∀ x ∈ upR E out, x ∈ out
  ·have hc := closed_of_same hs
   have hsame : ∀ y, y ∈ upN E (n + 1) out ↔ y ∈ out := fun y => ⟨upN_closed (n + 1) hc y, upN_sub (n + 1) y⟩
   exact fun r s he hr => (hsame s).2 (hc r s he ((hsame r).1 hr))
  ·-- something new came: the end of a pair
   have hnew : ∃ r s, (r, s) ∈ E ∧ s ∉ out ∧ s ∈ upR E out := by
    have key : ∀ (E' : List (List UInt8 × List UInt8)), (∀ p ∈ E', p ∈ E) → ∀ (o : List (List UInt8)), ∀ x ∈ upR E' o, x ∈ o ∨ ∃ r, (r, x) ∈ E := by
     intro E'
     unfold upR
     induction E' with
     | nil => intro _ o x hx; exact .inl hx
     | cons p E' ih =>
      intro hE o x hx
      simp only [List.foldl_cons] at hx
      rcases ih (fun q hq => hE q (by simp [hq])) _ x hx with h1 | h1
      ·split at h1
       ·rcases mem_withS.1 h1 with rfl | h1
        ·exact .inr ⟨p.1, hE p (by simp)⟩
        ·exact .inl h1
       ·exact .inl h1
      ·exact .inr h1
    refine Classical.byContradiction fun hno => hs fun x hx => Classical.byContradiction fun hxo => ?_
    rcases key E (fun _ h => h) out x hx with h1 | ⟨r, hr⟩
    ·exact hxo h1
    ·exact hno ⟨r, x, hr, hxo, hx⟩
   obtain ⟨r, s, he, h1, h2⟩ := hnew
   have hlt := hitE_lt (out := out) (out' := upR E out) (fun x hx => upR_sub x hx) he h1 h2
   have hle := hitE_le (E := E) (out := upR E out)
   exact upN_closes n (by omega)
theorem mem_upN {E : List (List UInt8 × List UInt8)} {a x : List UInt8} {n : Nat} (hn : E.length < n) : x ∈ upN E n [a] ↔ Rch E a x := by
 constructor
 ·exact upN_sound n (fun y hy => by simp at hy; subst hy; exact .refl _) x
 ·intro h
  exact (upN_closes n (by omega)).rch h (upN_sub n a (by simp))
end Go.Ai
namespace Go.Ai.Z
def chkL : List Ax → Int
 | [] => 0
 | x :: r => if checkAS x = 0 then chkL r else checkAS x
theorem l_roles_check (z : Bool) (l : List Ax) (hl : l.length ≤ 1000) (hx : ∀ x ∈ l, x.Few) (s : St) (cx : Ctx) :
  ∀ (rest : List Ax) (i : Nat), l.drop i = rest →
  ∃ j : Int, loopW (acodeW P0.glob (acallW P0) cx false ir_roles_check_L0) [6, 7, 8] [(6, .v (slf z (l.map encA))), (7, .v (.i .i64 l.length)), (8, .v (.i .i64 i))] s =
   if chkL rest = 0 then .exit 0 [(6, .v (slf z (l.map encA))), (7, .v (.i .i64 l.length)), (8, .v (.i .i64 j)), (9, .v (.b false))] s else .ret [(2, .v (.i .i64 (chkL rest)))] s
 | [], i, h => by
  have h1 : ¬ i < l.length := Nat.not_lt.2 (drop_nil h)
  refine ⟨i, loop_step fun K hK => ?_⟩
  simp [ir_roles_check_L0, h1, chkL]
 | p :: r, i, h => by
  obtain ⟨h1, h2, h3, h4⟩ := drop_cons h
  have h5 := h4 h3
  have hf := hx p (by rw [← h5]; exact List.getElem_mem h3)
  have hwi := wI (i := i) (by omega)
  have e1 := c_terms_CheckAxiom p hf
  by_cases h0 : checkAS p = 0
  ·obtain ⟨j, ih⟩ := l_roles_check z l hl hx s cx r (i + 1) h2
   refine ⟨j, loop_step fun K hK => ?_⟩
   rw [← hK, show ((i + 1 : Nat) : Int) = (i : Int) + 1 from rfl] at ih
   clear hK h4 hx
   try simp at ih
   simp [ir_roles_check_L0, h3, h5, hwi, e1, h0, chkL, ih]
  ·refine ⟨i, loop_step fun K hK => ?_⟩
   clear hK h4 hx
   simp [ir_roles_check_L0, h3, h5, hwi, e1, h0, chkL]
theorem c_roles_check (z : Bool) (l : List Ax) (hl : l.length ≤ 1000) (hx : ∀ x ∈ l, x.Few) (s : St) (cx : Ctx) : acallW P0 (.fn (.func F_roles_check) [] []) [slf z (l.map encA)] s cx = .ret (.i .i64 (chkL l)) s := by
 obtain ⟨j, h⟩ := l_roles_check z l hl hx s ⟨s.length, s.length⟩ l 0 rfl
 refine go_roles_check (by simp) ?_
 simp at h
 by_cases h0 : chkL l = 0 <;> simp [callFnW, ir_roles_check, h, h0]
def nmOK (x : List UInt8) : Bool := plainS x || resS x
theorem l_roles_checkAll (ns : List (List UInt8)) (hl : ns.length ≤ 1000) (hx : ∀ x ∈ ns, x.length ≤ 1152921504606846976) (s : St) (cx : Ctx) :
  ∀ (rest : List (List UInt8)) (i : Nat), ns.drop i = rest →
  ∃ j : Int, loopW (acodeW P0.glob (acallW P0) cx false ir_roles_checkAll_L0) [14, 15, 16] [(14, .v (.sl (ns.map .s))), (15, .v (.i .i64 ns.length)), (16, .v (.i .i64 i))] s =
   if rest.all nmOK = true then .exit 0 [(14, .v (.sl (ns.map .s))), (15, .v (.i .i64 ns.length)), (16, .v (.i .i64 j)), (17, .v (.b false))] s else .ret [(4, .v (.i .i64 20))] s
 | [], i, h => by
  have h1 : ¬ i < ns.length := Nat.not_lt.2 (drop_nil h)
  refine ⟨i, loop_step fun K hK => ?_⟩
  simp [ir_roles_checkAll_L0, h1]
 | p :: r, i, h => by
  obtain ⟨h1, h2, h3, h4⟩ := drop_cons h
  have h5 := h4 h3
  have hf := hx p (by rw [← h5]; exact List.getElem_mem h3)
  have hwi := wI (i := i) (by omega)
  have e1 := c_terms_CheckName p hf
  by_cases h0 : nmOK p = true
  ·obtain ⟨j, ih⟩ := l_roles_checkAll ns hl hx s cx r (i + 1) h2
   refine ⟨j, loop_step fun K hK => ?_⟩
   rw [← hK, show ((i + 1 : Nat) : Int) = (i : Int) + 1 from rfl] at ih
   clear hK h4 hx
   have h6 : (plainS p || resS p) = true := h0
   simp only [h6, if_true] at e1
   simp only [List.all_cons, h0, Bool.true_and]
   try simp at ih
   simp [ir_roles_checkAll_L0, h3, h5, hwi, e1, ih]
  ·refine ⟨i, loop_step fun K hK => ?_⟩
   clear hK h4 hx
   have h6 : ¬ (plainS p || resS p) = true := h0
   simp only [h6, if_false] at e1
   simp only [List.all_cons, h0, Bool.false_and]
   simp [ir_roles_checkAll_L0, h3, h5, hwi, e1]
theorem c_roles_checkAll (z : Bool) (l : List Ax) (hl : l.length ≤ 1000) (hx : ∀ x ∈ l, x.Few) (ns : List (List UInt8)) (hn : ns.length ≤ 1000) (hnx : ∀ x ∈ ns, x.length ≤ 1152921504606846976) (s : St) (cx : Ctx) :
  acallW P0 (.fn (.func F_roles_checkAll) [] []) [slf z (l.map encA), .sl (ns.map .s)] s cx = .ret (.i .i64 (if chkL l = 0 then (if ns.all nmOK = true then 0 else 20) else chkL l)) s := by
 obtain ⟨j, h⟩ := l_roles_checkAll ns hn hnx s ⟨s.length, s.length⟩ ns 0 rfl
 refine go_roles_checkAll (by simp) ?_
 have e1 := c_roles_check z l hl hx
 simp at h
 by_cases h0 : chkL l = 0
 ·by_cases h6 : ns.all nmOK = true
  ·rw [if_pos (by simpa using h6)] at h
   simp only [h0, h6, if_true]
   simp [callFnW, ir_roles_checkAll, h, e1, h0]
  ·rw [if_neg (by simpa using h6)] at h
   simp only [h0, h6, if_true, if_false]
   simp [callFnW, ir_roles_checkAll, h, e1, h0]
 ·simp [callFnW, ir_roles_checkAll, e1, h0]
end Go.Ai.Z
