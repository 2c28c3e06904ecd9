/-
 The reference's table of words: plain laws; covers.
-/
import Derived.Test.YtomjajnlomdhpaaDoorAiR28R29R30
set_option maxRecDepth 100000
set_option linter.unusedSimpArgs false
set_option linter.unusedVariables false
namespace Go.Ai.Z
abbrev TbL := Nat → Nat → List (List UInt8)
end Go.Ai.Z
namespace Go.Ai.Z
def updL (tab : TbL) (i j : Nat) (v : List (List UInt8)) : TbL := fun a b => if a = i ∧ b = j then v else tab a b
def univA (l : List Ax) (n : Nat) : List Item := l.flatMap fun x => (List.range (n + 1)).flatMap fun i => (List.range (n + 1)).map fun j => (x.role, i, j)
structure TI (l : List Ax) (w : List (List UInt8)) (tab : TbL) (A : List Item) : Prop where
 srt : ∀ i j, Srt (tab i j)
 snd : ∀ i j r, i ≤ j → j ≤ w.length → r ∈ tab i j → Drv l w r i j
 bnd : ∀ i j r, r ∈ tab i j → r ∈ w ++ l.map (·.role)
 wrd : ∀ i r, w[i]? = some r → r ∈ tab i (i + 1)
 nd : A.Nodup
 inA : ∀ q ∈ A, q.1 ∈ tab q.2.1 q.2.2 ∧ q ∈ univA l w.length
theorem TI.len {l : List Ax} {w : List (List UInt8)} {tab : TbL} {A : List Item} (h : TI l w tab A) (i j : Nat) : (tab i j).length ≤ w.length + l.length := by
 have := nodup_le (h.srt i j).nodup (h.bnd i j)
 simpa using this
theorem TI.add {l : List Ax} {w : List (List UInt8)} {tab : TbL} {A : List Item} (h : TI l w tab A) {x : Ax} (hx : x ∈ l) {i j : Nat} (hi : i ≤ j) (hj : j ≤ w.length) (hn : x.role ∉ tab i j) (hd : Drv l w x.role i j) :
  TI l w (updL tab i j (withS (tab i j) x.role)) ((x.role, i, j) :: A) := by
 have hin : ∀ a b r, r ∈ updL tab i j (withS (tab i j) x.role) a b ↔ r ∈ tab a b ∨ (a = i ∧ b = j ∧ r = x.role) := by
  intro a b r
  by_cases hab : a = i ∧ b = j
  ·obtain ⟨rfl, rfl⟩ := hab
   simp [updL, mem_withS, or_comm]
  ·simp only [updL, if_neg hab]
   constructor
   ·exact .inl
   ·rintro (h | ⟨h1, h2, _⟩)
    ·exact h
    ·exact absurd ⟨h1, h2⟩ hab
 refine ⟨fun a b => ?_, fun a b r ha hb hr => ?_, fun a b r hr => ?_, fun a r hr => (hin _ _ _).2 (.inl (h.wrd a r hr)), ?_, fun q hq => ?_⟩
 ·by_cases hab : a = i ∧ b = j
  ·simp only [updL, if_pos hab]; exact srt_withS (h.srt i j)
  ·simp only [updL, if_neg hab]; exact h.srt a b
 ·rcases (hin a b r).1 hr with hr | ⟨rfl, rfl, rfl⟩
  ·exact h.snd a b r ha hb hr
  ·exact hd
 ·rcases (hin a b r).1 hr with hr | ⟨rfl, rfl, rfl⟩
  ·exact h.bnd a b r hr
  ·simp only [List.mem_append, List.mem_map]; exact .inr ⟨x, hx, rfl⟩
 ·rw [List.nodup_cons]
  exact ⟨fun hm => hn (h.inA _ hm).1, h.nd⟩
 ·rcases List.mem_cons.1 hq with rfl | hq
  ·refine ⟨(hin _ _ _).2 (.inr ⟨rfl, rfl, rfl⟩), ?_⟩
   simp only [univA, List.mem_flatMap, List.mem_map, List.mem_range]
   exact ⟨x, hx, i, by omega, j, by omega, rfl⟩
  ·exact ⟨(hin _ _ _).2 (.inl (h.inA q hq).1), (h.inA q hq).2⟩
end Go.Ai.Z
namespace Go.Ai.Z
end Go.Ai.Z
namespace Go.Ai.Z
theorem hasR_of {l : List Ax} (h : chkL l = 0) : HasR l := fun x hx hk => by
 rcases hk with h5 | h6
 ·obtain ⟨r, hr⟩ := one5_all h x hx h5
  rw [hr]; simp
 ·have := (two_of (chkL_mem h x hx) h6).1
  intro h0; rw [h0] at this; simp at this
end Go.Ai.Z
namespace Go.Ai.Z
def CompOK (l : List Ax) (r t : List UInt8) (X : List (List UInt8)) : Prop := X.length ≤ 1000000 ∧ Srt X ∧ ((chkL l = 0 ∧ [r, t].all nmOK = true) → ∀ x, x ∈ X ↔ Drv l [r, t] x 0 2) ∧ (¬ (chkL l = 0 ∧ [r, t].all nmOK = true) → X = [])
theorem CompOK.uniq {l : List Ax} {r t : List UInt8} {X Y : List (List UInt8)} (h : CompOK l r t X) (h' : CompOK l r t Y) : X = Y := by
 by_cases hc : chkL l = 0 ∧ [r, t].all nmOK = true
 ·exact h.2.1.ext h'.2.1 fun x => by rw [h.2.2.1 hc, h'.2.2.1 hc]
 ·rw [h.2.2.2 hc, h'.2.2.2 hc]
end Go.Ai.Z
namespace Go.Ai.Z
theorem l_law06_short (z : Bool) (w : List (List UInt8)) (hw : w.length ≤ 1000) (s : St) (cx : Ctx) :
  ∀ (rest : List (List UInt8)) (i : Nat), w.drop i = rest →
  ∃ j : Int, loopW (acodeW P0.glob (acallW P0) cx false ir_law06_short_L0) [0, 3] [(0, .v (slf z (w.map .s))), (3, .v (.i .i64 i))] s =
   if (rest.all fun r => decide (r.length ≤ 100)) = true then .exit 0 [(0, .v (slf z (w.map .s))), (3, .v (.i .i64 j)), (10, .v (.b false))] s else .ret [(2, .v (.b false))] s
 | [], i, h => by
  have h1 : ¬ i < w.length := Nat.not_lt.2 (drop_nil h)
  refine ⟨i, loop_step fun K hK => ?_⟩
  simp [ir_law06_short_L0, h1]
 | p :: rest, i, h => by
  obtain ⟨g1, g2, g3, g4⟩ := drop_cons h
  have g5 := g4 g3
  have hwi := wI (i := i) (by omega)
  obtain ⟨j, ih⟩ := l_law06_short z w hw s cx rest (i + 1) g2
  refine ⟨j, loop_step fun K' hK => ?_⟩
  rw [← hK, show ((i + 1 : Nat) : Int) = (i : Int) + 1 from rfl] at ih
  clear hK g4
  by_cases hp : p.length ≤ 100
  ·have hp' : ¬ (100 : Int) < p.length := by omega
   simp only [List.all_cons, hp, decide_true, Bool.true_and]
   rw [← ih]
   simp [ir_law06_short_L0, g3, g5, hwi, hp']
  ·have hp' : (100 : Int) < p.length := by omega
   simp only [List.all_cons, hp, decide_false, Bool.false_and]
   simp [ir_law06_short_L0, g3, g5, hwi, hp']
def shortW (w : List (List UInt8)) : Bool := decide (w.length ≤ 7) && w.all fun r => decide (r.length ≤ 100)
theorem c_law06_short (z : Bool) (w : List (List UInt8)) (s : St) (cx : Ctx) : acallW P0 (.fn (.func F_law06_short) [] []) [slf z (w.map .s)] s cx = .ret (.b (shortW w)) s := by
 refine go_law06_short (by simp) ?_
 by_cases h7 : w.length ≤ 7
 ·have h7' : ¬ (7 : Int) < w.length := by omega
  obtain ⟨j, h⟩ := l_law06_short z w (by omega) s ⟨s.length, s.length⟩ w 0 rfl
  simp only [Int.ofNat_zero] at h
  by_cases hb : (w.all fun r => decide (r.length ≤ 100)) = true
  ·rw [if_pos hb] at h
   have hv : shortW w = true := by simp only [shortW, h7, hb]; rfl
   rw [hv]
   try simp at h
   simp [callFnW, ir_law06_short, h7', h]
  ·rw [if_neg hb] at h
   have hv : shortW w = false := by simp only [shortW, h7, decide_true, Bool.true_and]; simpa using hb
   rw [hv]
   try simp at h
   simp [callFnW, ir_law06_short, h7', h]
 ·have h7' : (7 : Int) < w.length := by omega
  have hv : shortW w = false := by simp [shortW, h7]
  rw [hv]
  simp [callFnW, ir_law06_short, h7']
end Go.Ai.Z
