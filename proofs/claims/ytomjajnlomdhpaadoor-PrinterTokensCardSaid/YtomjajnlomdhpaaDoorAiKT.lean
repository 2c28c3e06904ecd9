/-
  Tokens: classes of bytes, words, integers.
-/
import Derived.Test.YtomjajnlomdhpaaDoorAiK7
import Derived.Test.YtomjajnlomdhpaaDoorAiB1
set_option maxRecDepth 100000
set_option linter.unusedSimpArgs false
set_option linter.unusedVariables false
namespace Go.Ai.Z

/-- The class of a byte. -/
def clsN (c : Nat) : Int :=
  if c = 32 ∨ c = 9 ∨ c = 10 ∨ c = 13 then 1 else if c = 35 then 2
  else if 97 ≤ c ∧ c ≤ 122 ∨ 65 ≤ c ∧ c ≤ 90 ∨ c = 95 then 3 else if 48 ≤ c ∧ c ≤ 57 then 4 else if c = 45 then 5
  else if c = 40 ∨ c = 41 ∨ c = 91 ∨ c = 93 ∨ c = 123 ∨ c = 125 ∨ c = 44 ∨ c = 46 ∨ c = 60 ∨ c = 61 ∨ c = 124 ∨ c = 63 then 6 else 0
def clsB (b : UInt8) : Int := clsN b.toNat
def tabL : List AV := (List.range 256).map fun c => .i .u8 (clsN c)
theorem tab_get (b : UInt8) : tabL[b.toNat]? = some (.i .u8 (clsB b)) := by
  have : b.toNat < 256 := b.toNat_lt
  simp [tabL, clsB, this]
@[simp] theorem tab_len : tabL.length = 256 := by simp [tabL]
@[simp] theorem tab_one : tabL.all AV.one = true := by
  simp [tabL]
theorem clsN_lt (c : Nat) : 0 ≤ clsN c ∧ clsN c ≤ 6 := by
  unfold clsN; repeat' split
  all_goals omega

set_option maxRecDepth 100000 in
theorem classes_code (s : St) (cx : Ctx) : acode P0.glob (acall P0 100) cx false 100 ir_lexis_classes.code [] s = .ret [(0, .bx tabL)] s := by
  kernel_rfl

theorem c_lexis_classes (s : St) (cx : Ctx) : acallW P0 (.fn (.func F_lexis_classes) [] []) [] s cx = .ret (.ag tabL) s := by
  refine go_lexis_classes (by simp) ?_
  have h := acode_le (acall_le P0 100) false 100 _ _ _ _ (classes_code s ⟨s.length, s.length⟩) (by simp)
  have hr : ir_lexis_classes.res = [.cell 0 (some 256)] := rfl
  have hn : ir_lexis_classes.np = 0 := rfl
  have hp : ir_lexis_classes.pure = true := rfl
  have hk : ir_lexis_classes.keep = false := rfl
  have hu : tabL.map AV.plain1 = tabL := by simp [tabL]
  have ht : tabL.take 256 = tabL := List.take_of_length_le (by simp)
  simp [callFnW, hr, hn, hp, hk, h, ht, hu]

/-- Letters, digits and _. -/
def wrdB (b : UInt8) : Bool := decide (clsB b = 3) || decide (clsB b = 4)
def runS (b : List UInt8) : Nat := (b.takeWhile wrdB).length
theorem runS_cons (c : UInt8) (r : List UInt8) : runS (c :: r) = if wrdB c = true then runS r + 1 else 0 := by
  unfold runS; rw [List.takeWhile_cons]; split <;> simp
theorem runS_le (b : List UInt8) : runS b ≤ b.length := by
  unfold runS; exact (List.takeWhile_sublist _).length_le

theorem l_lexis_run (s : St) (cx : Ctx) (p : Nat) (hp : s[p]? = some (.cells tabL)) (l : List UInt8) (hl : l.length ≤ 1048576) : ∀ (rest : List UInt8) (i : Nat), l.drop i = rest →
    loopW (acodeW P0.glob (acallW P0) cx false ir_lexis_run_L0) [0, 1, 4] [(0, .v (.pt p 0)), (1, .v (.sl (bytesAV l))), (4, .v (.i .i64 i))] s =
      .exit 0 [(0, .v (.pt p 0)), (1, .v (.sl (bytesAV l))), (4, .v (.i .i64 ((i : Int) + (runS rest : Int)))), (30, .v (.b false))] s
  | [], i, h => by
    have h1 : ¬ i < l.length := Nat.not_lt.2 (drop_nil h)
    have hb : (bytesAV l).length = l.length := by simp [bytesAV]
    refine loop_step fun K hK => ?_
    simp [ir_lexis_run_L0, h1, hb, runS]
  | b :: r, i, h => by
    obtain ⟨h1, h2, h3, h4⟩ := drop_cons h
    have h5 := h4 h3
    have hb : (bytesAV l)[i]? = some (.i .u8 b.toNat) := by simp [bytesAV, h1]
    have hbl : (bytesAV l).length = l.length := by simp [bytesAV]
    have hb' : ∀ h, (bytesAV l)[i]'h = .i .u8 b.toNat := fun h => Option.some.inj ((List.getElem?_eq_getElem h).symm.trans hb)
    have hw := wI (i := i) (by omega)
    have ht : ∀ h, tabL[b.toNat]'h = .i .u8 (clsB b) := fun h => Option.some.inj ((List.getElem?_eq_getElem h).symm.trans (tab_get b))
    have hlt : b.toNat < 256 := b.toNat_lt
    have hp' : p < s.length := (List.getElem?_eq_some_iff.1 hp).1
    have ih := l_lexis_run s cx p hp l hl r (i + 1) h2
    refine loop_step fun K hK => ?_
    rw [← hK, show ((i + 1 : Nat) : Int) = (i : Int) + 1 from rfl] at ih
    clear hK
    rw [runS_cons]
    by_cases c3 : clsB b = 3 <;> by_cases c4 : clsB b = 4
    · omega
    · have hwr : wrdB b = true := by simp [wrdB, c3]
      have e : (i : Int) + ((runS r : Int) + 1) = (i : Int) + 1 + runS r := by omega
      simp [ir_lexis_run_L0, h3, hb', hbl, hp, ht, hlt, c3, c4, hw, ih, hwr, e]
    · have hwr : wrdB b = true := by simp [wrdB, c4]
      have e : (i : Int) + ((runS r : Int) + 1) = (i : Int) + 1 + runS r := by omega
      simp [ir_lexis_run_L0, h3, hb', hbl, hp, ht, hlt, c3, c4, hw, ih, hwr, e]
    · have hwr : wrdB b = false := by simp [wrdB, c3, c4]
      simp [ir_lexis_run_L0, h3, hb', hbl, hp, ht, hlt, c3, c4, hw, hwr]

theorem c_lexis_run (s : St) (cx : Ctx) (p : Nat) (hp : s[p]? = some (.cells tabL)) (l : List UInt8) (hl : l.length ≤ 1048576) :
    acallW P0 (.fn (.func F_lexis_run) [] []) [.pt p 0, .sl (bytesAV l)] s cx = .ret (.i .i64 (runS l)) s := by
  refine go_lexis_run (by simp) ?_
  have h := l_lexis_run s ⟨cx.lim, s.length⟩ p hp l hl l 0 rfl
  simp at h
  simp [callFnW, ir_lexis_run, h]
end Go.Ai.Z
