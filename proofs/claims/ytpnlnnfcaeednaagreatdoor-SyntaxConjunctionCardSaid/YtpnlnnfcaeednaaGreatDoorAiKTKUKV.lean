/-
 Tokens: classes of bytes, words, integers.
-/
import Derived.Test.YtpnlnnfcaeednaaGreatDoorAiK5K6K7
import Derived.Test.YtpnlnnfcaeednaaGreatDoorAiB1
set_option maxRecDepth 100000
set_option linter.unusedSimpArgs false
set_option linter.unusedVariables false
set_option linter.unusedSectionVars false
namespace Go.Ai.Z
def clsN (c : Nat) : Int :=
 if c = 32 ∨ c = 9 ∨ c = 10 ∨ c = 13 then 1 else if c = 35 then 2
 else if 97 ≤ c ∧ c ≤ 122 ∨ 65 ≤ c ∧ c ≤ 90 ∨ c = 95 then 3 else if 48 ≤ c ∧ c ≤ 57 then 4 else if c = 45 then 5
 else if c = 40 ∨ c = 41 ∨ c = 91 ∨ c = 93 ∨ c = 123 ∨ c = 125 ∨ c = 44 ∨ c = 46 ∨ c = 60 ∨ c = 61 ∨ c = 124 ∨ c = 63 then 6 else 0
def clsB (b : UInt8) : Int := clsN b.toNat
def tabL : List AV := (List.range 256).map fun c => .i .u8 (clsN c)
theorem tab_get (b : UInt8) : tabL[b.toNat]? = some (.i .u8 (clsB b)) := by
 have : b.toNat < 256 := b.toNat_lt
 simp [tabL, clsB, this]
@[simp] theorem tab_len : tabL.length = 256 := by simp [tabL]
@[simp] theorem tab_one : tabL.all AV.one = true := by
 simp [tabL]
set_option maxRecDepth 100000 in
theorem classes_code (s : St) (cx : Ctx) : acode P0.glob (acall P0 100) cx false 100 ir_lexis_classes.code [] s = .ret [(0, .bx tabL)] s := by
 kernel_rfl
theorem c_lexis_classes (s : St) (cx : Ctx) : acallW P0 (.fn (.func F_lexis_classes) [] []) [] s cx = .ret (.ag tabL) s := by
 refine go_lexis_classes (by simp) ?_
 have h := acode_le (acall_le P0 100) false 100 _ _ _ _ (classes_code s ⟨s.length, s.length⟩) (by simp)
 have hr : ir_lexis_classes.res = [.cell 0 (some 256)] := rfl
 have hn : ir_lexis_classes.np = 0 := rfl
 have hp : ir_lexis_classes.pure = true := rfl
 have hk : ir_lexis_classes.keep = false := rfl
 have hu : tabL.map AV.plain1 = tabL := by simp [tabL]
 have ht : tabL.take 256 = tabL := List.take_of_length_le (by simp)
 simp [callFnW, hr, hn, hp, hk, h, ht, hu]
def wrdB (b : UInt8) : Bool := decide (clsB b = 3) || decide (clsB b = 4)
def runS (b : List UInt8) : Nat := (b.takeWhile wrdB).length
theorem runS_cons (c : UInt8) (r : List UInt8) : runS (c :: r) = if wrdB c = true then runS r + 1 else 0 := by
 unfold runS; rw [List.takeWhile_cons]; split <;> simp
theorem runS_le (b : List UInt8) : runS b ≤ b.length := by
 unfold runS; exact (List.takeWhile_sublist _).length_le
theorem l_lexis_run (s : St) (cx : Ctx) (p : Nat) (hp : s[p]? = some (.cells tabL)) (l : List UInt8) (hl : l.length ≤ 1048576) : ∀ (rest : List UInt8) (i : Nat), l.drop i = rest →
  loopW (acodeW P0.glob (acallW P0) cx false ir_lexis_run_L0) [0, 1, 4] [(0, .v (.pt p 0)), (1, .v (.sl (bytesAV l))), (4, .v (.i .i64 i))] s =
   .exit 0 [(0, .v (.pt p 0)), (1, .v (.sl (bytesAV l))), (4, .v (.i .i64 ((i : Int) + (runS rest : Int)))), (30, .v (.b false))] s
 | [], i, h => by
  have h1 : ¬ i < l.length := Nat.not_lt.2 (drop_nil h)
  have hb : (bytesAV l).length = l.length := by simp [bytesAV]
  refine loop_step fun K hK => ?_
  simp [ir_lexis_run_L0, h1, hb, runS]
 | b :: r, i, h => by
  obtain ⟨h1, h2, h3, h4⟩ := drop_cons h
  have h5 := h4 h3
  have hb : (bytesAV l)[i]? = some (.i .u8 b.toNat) := by simp [bytesAV, h1]
  have hbl : (bytesAV l).length = l.length := by simp [bytesAV]
  have hb' : ∀ h, (bytesAV l)[i]'h = .i .u8 b.toNat := fun h => Option.some.inj ((List.getElem?_eq_getElem h).symm.trans hb)
  have hw := wI (i := i) (by omega)
  have ht : ∀ h, tabL[b.toNat]'h = .i .u8 (clsB b) := fun h => Option.some.inj ((List.getElem?_eq_getElem h).symm.trans (tab_get b))
  have hlt : b.toNat < 256 := b.toNat_lt
  have hp' : p < s.length := (List.getElem?_eq_some_iff.1 hp).1
  have ih := l_lexis_run s cx p hp l hl r (i + 1) h2
  refine loop_step fun K hK => ?_
  rw [← hK, show ((i + 1 : Nat) : Int) = (i : Int) + 1 from rfl] at ih
  clear hK
  rw [runS_cons]
  by_cases c3 : clsB b = 3 <;> by_cases c4 : clsB b = 4
  ·omega
  ·have hwr : wrdB b = true := by simp [wrdB, c3]
   have e : (i : Int) + ((runS r : Int) + 1) = (i : Int) + 1 + runS r := by omega
   simp [ir_lexis_run_L0, h3, hb', hbl, hp, ht, hlt, c3, c4, hw, ih, hwr, e]
  ·have hwr : wrdB b = true := by simp [wrdB, c4]
   have e : (i : Int) + ((runS r : Int) + 1) = (i : Int) + 1 + runS r := by omega
   simp [ir_lexis_run_L0, h3, hb', hbl, hp, ht, hlt, c3, c4, hw, ih, hwr, e]
  ·have hwr : wrdB b = false := by simp [wrdB, c3, c4]
   simp [ir_lexis_run_L0, h3, hb', hbl, hp, ht, hlt, c3, c4, hw, hwr]
theorem c_lexis_run (s : St) (cx : Ctx) (p : Nat) (hp : s[p]? = some (.cells tabL)) (l : List UInt8) (hl : l.length ≤ 1048576) :
  acallW P0 (.fn (.func F_lexis_run) [] []) [.pt p 0, .sl (bytesAV l)] s cx = .ret (.i .i64 (runS l)) s := by
 refine go_lexis_run (by simp) ?_
 have h := l_lexis_run s ⟨cx.lim, s.length⟩ p hp l hl l 0 rfl
 simp at h
 simp [callFnW, ir_lexis_run, h]
end Go.Ai.Z
namespace Go.Ai.Z
theorem bytes_len (l : List UInt8) : (bytesAV l).length = l.length := by simp [bytesAV]
theorem bytes_drop (l : List UInt8) (n : Nat) : (bytesAV l).drop n = bytesAV (l.drop n) := by simp [bytesAV, List.map_drop]
theorem bytes_take (l : List UInt8) (n : Nat) : (bytesAV l).take n = bytesAV (l.take n) := by simp [bytesAV, List.map_take]
theorem bytes_get (l : List UInt8) (i : Nat) (h : i < (bytesAV l).length) {b : UInt8} (hb : l[i]? = some b) : (bytesAV l)[i] = .i .u8 b.toNat := by
 have h' : i < l.length := by simpa [bytesAV] using h
 rw [List.getElem?_eq_getElem h'] at hb
 cases hb
 simp [bytesAV]
theorem bytes_all (l : List UInt8) : (bytesAV l).all (fun e => e.cells.length == 1) = true := by simp [bytesAV]
theorem bytes_str (l : List UInt8) : (bytesAV l).mapM byteOf = some l := by
 induction l with
 | nil => rfl
 | cons a r ih =>
  have : bytesAV (a :: r) = .i .u8 a.toNat :: bytesAV r := rfl
  simp [this, byteOf, ih]
def digB (b : UInt8) : Bool := decide (48 ≤ b.toNat) && decide (b.toNat ≤ 57)
def intBody (b : List UInt8) : Bool := decide (1 ≤ b.length) && decide (b.length ≤ 18) && !(b.head? == some 48) && b.all digB
def integerS (b : List UInt8) : Bool := decide (b = [48]) || (if b.head? = some 45 then intBody (b.drop 1) else intBody b)
theorem l_lexis_integer (s : St) (cx : Ctx) (l : List UInt8) (hl : l.length ≤ 1048576) : ∀ (rest : List UInt8) (i : Nat), l.drop i = rest →
  ∃ j : Int, loopW (acodeW P0.glob (acallW P0) cx false ir_lexis_integer_L0) [28, 29, 30] [(28, .v (.sl (bytesAV l))), (29, .v (.i .i64 l.length)), (30, .v (.i .i64 i))] s =
   if rest.all digB = true then .exit 0 [(28, .v (.sl (bytesAV l))), (29, .v (.i .i64 l.length)), (30, .v (.i .i64 j)), (31, .v (.b false))] s else .ret [(2, .v (.b false))] s
 | [], i, h => by
  have h1 : ¬ i < l.length := Nat.not_lt.2 (drop_nil h)
  refine ⟨i, loop_step fun K hK => ?_⟩
  simp [ir_lexis_integer_L0, h1]
 | b :: r, i, h => by
  obtain ⟨h1, h2, h3, h4⟩ := drop_cons h
  have hb : ∀ h, (bytesAV l)[i]'h = .i .u8 b.toNat := fun h => bytes_get l i h h1
  have hbl := bytes_len l
  have hw := wI (i := i) (by omega)
  obtain ⟨j, ih⟩ := l_lexis_integer s cx l hl r (i + 1) h2
  refine ⟨j, loop_step fun K hK => ?_⟩
  rw [← hK, show ((i + 1 : Nat) : Int) = (i : Int) + 1 from rfl] at ih
  clear hK
  by_cases d1 : (b.toNat : Int) < 48
  ·have hd : digB b = false := by simp [digB]; omega
   simp [ir_lexis_integer_L0, h3, hb, hbl, hd, hw, d1]
  ·by_cases d2 : (57 : Int) < b.toNat
   ·have hd : digB b = false := by simp [digB]; omega
    simp [ir_lexis_integer_L0, h3, hb, hbl, hd, hw, d1, d2]
   ·have hd : digB b = true := by simp [digB]; omega
    simp [ir_lexis_integer_L0, h3, hb, hbl, hd, hw, d1, d2, ih]
def _root_.Go.Ai.ACode.fst : ACode → ACode
 | .seq a _ => a
 | c => c
def _root_.Go.Ai.ACode.snd : ACode → ACode
 | .seq _ b => b
 | c => c
def intTail : ACode := ir_lexis_integer.code.snd.snd.snd
theorem int_split : ir_lexis_integer.code = .seq ir_lexis_integer.code.fst (.seq ir_lexis_integer.code.snd.fst (.seq ir_lexis_integer.code.snd.snd.fst intTail)) := rfl
theorem int_tail (e : Env) (he : e = [] ∨ e = [(11, .v (.b false))]) (l : List UInt8) (hl : l.length ≤ 1048576) (s : St) (cx : Ctx) : acodeW P0.glob (acallW P0) cx false intTail ((0, .v (.sl (bytesAV l))) :: e) s = .ret [(2, .v (.b (intBody l)))] s := by
 have hbl := bytes_len l
 rcases he with rfl | rfl
 all_goals
 cases l with
 | nil => simp [intTail, ir_lexis_integer, ACode.snd, bytesAV, intBody]
 | cons c r =>
  have hbc : ∀ h, (bytesAV (c :: r))[0]'h = .i .u8 c.toNat := fun h => rfl
  obtain ⟨j, hlp⟩ := l_lexis_integer s cx (c :: r) hl (c :: r) 0 rfl
  simp only [List.length_cons] at hbl hlp hl
  have h1 : ¬ ((r.length : Int) + 1 < 1) := by omega
  have hp : 0 < r.length + 1 := by omega
  have hcast : ((r.length + 1 : Nat) : Int) = (r.length : Int) + 1 := rfl
  simp only [hcast, show ((0 : Nat) : Int) = 0 from rfl] at hlp
  by_cases h18 : (18 : Int) < (r.length : Int) + 1
  ·have hi : intBody (c :: r) = false := by simp [intBody]; intros; omega
   simp [intTail, ir_lexis_integer, ACode.snd, hbl, h18, hi, h1]
  ·have h18' : r.length + 1 ≤ 18 := by omega
   by_cases h48 : c = 48
   ·have hi : intBody (c :: r) = false := by simp [intBody, h48]
    have hc : (c.toNat : Int) = 48 := by rw [h48]; rfl
    simp [intTail, ir_lexis_integer, ACode.snd, hbl, h18, hi, h1, hbc, hp, hc]
   ·have hi : intBody (c :: r) = (c :: r).all digB := by simp [intBody, h48, h18']
    have hc : ¬ (c.toNat : Int) = 48 := fun h => h48 (UInt8.toNat_inj.1 (by have : (48 : UInt8).toNat = 48 := rfl; omega))
    rw [hi]
    cases hd : (c :: r).all digB with
    | true => rw [hd] at hlp; simp at hlp; simp [intTail, ir_lexis_integer, ACode.snd, hbl, h18, h1, hbc, hp, hc, hlp]
    | false => rw [hd] at hlp; simp at hlp; simp [intTail, ir_lexis_integer, ACode.snd, hbl, h18, h1, hbc, hp, hc, hlp]
theorem c_lexis_integer (l : List UInt8) (hl : l.length ≤ 1048576) (hne : l ≠ []) (s : St) (cx : Ctx) :
  acallW P0 (.fn (.func F_lexis_integer) [] []) [.sl (bytesAV l)] s cx = .ret (.b (integerS l)) s := by
 refine go_lexis_integer (by simp) ?_
 have hs := bytes_str l
 have hbl := bytes_len l
 have hn : ir_lexis_integer.np = 1 := rfl
 have hr : ir_lexis_integer.res = [.tmp 2] := rfl
 have hp : ir_lexis_integer.pure = true := rfl
 have hk : ir_lexis_integer.keep = false := rfl
 obtain ⟨c, r, hcr⟩ : ∃ c r, l = c :: r := by cases l with | nil => exact absurd rfl hne | cons c r => exact ⟨c, r, rfl⟩
 have hbc : ∀ h, (bytesAV l)[0]'h = .i .u8 c.toNat := fun h => bytes_get l 0 h (by simp [hcr])
 have hpos : 0 < (bytesAV l).length := by rw [hbl, hcr]; simp
 unfold callFnW
 rw [int_split]
 simp only [hn, hr, hp, hk]
 by_cases h0 : l = [48]
 ·have hi : integerS l = true := by simp [integerS, h0]
  rw [hi]
  simp [ACode.fst, ACode.snd, ir_lexis_integer, hs, h0]
  rw [h0] at hs
  simp [hs]
 ·by_cases hm : c = 45
  ·have hi : integerS l = intBody (l.drop 1) := by simp [integerS, h0]; simp [hcr, hm]
   have ht := int_tail [] (.inl rfl) (l.drop 1) (by simp; omega) s ⟨s.length, s.length⟩
   have hc : (c.toNat : Int) = 45 := by rw [hm]; rfl
   have hd : ((bytesAV l).drop 1).take ((bytesAV l).length - 1) = bytesAV (l.drop 1) := by
    rw [List.take_of_length_le (by simp), bytes_drop]
   have hle : 1 ≤ (bytesAV l).length := hpos
   have hal := bytes_all l
   simp only [hcr, List.drop_succ_cons, List.drop_zero] at ht hi hd
   simp only [← hcr] at hi hd
   simp only [List.drop_one] at hd
   simp [ACode.fst, ACode.snd, ir_lexis_integer, hs, h0, hbc, hpos, hc, hle, hal, hd, ht, hi]
  ·have hi : integerS l = intBody l := by simp [integerS, h0]; simp [hcr, hm]
   have ht := int_tail [(11, .v (.b false))] (.inr rfl) l hl s ⟨s.length, s.length⟩
   have hc : ¬ (c.toNat : Int) = 45 := fun h => hm (UInt8.toNat_inj.1 (by have : (45 : UInt8).toNat = 45 := rfl; omega))
   simp [ACode.fst, ACode.snd, ir_lexis_integer, hs, h0, hbc, hpos, hc, ht, hi]
end Go.Ai.Z
namespace Go.Ai.Z
def intTok (b : List UInt8) (n : Nat) : Int × Nat := if integerS (b.take n) = true then (2, n) else (0, n)
def scanS : List UInt8 → Int × Nat
 | [] => (0, 0)
 | c :: r =>
  if clsB c = 3 then
   (match (c :: r).drop (runS (c :: r)) with
   | d :: e :: q => if d = 58 ∧ e ≠ 95 ∧ clsB e = 3 then (1, runS (c :: r) + (1 + runS (e :: q))) else (1, runS (c :: r))
   | _ => (1, runS (c :: r)))
  else if clsB c = 5 then
   (match r with
   | [] => (0, 1)
   | d :: _ => if d = 62 then (3, 2) else if clsB d = 4 then intTok (c :: r) (1 + runS r) else (0, 1))
  else if clsB c = 4 then intTok (c :: r) (runS (c :: r))
  else if clsB c = 6 then (3, 1) else (0, 1)
theorem scan_cons (c : UInt8) (r : List UInt8) : scanS (c :: r) =
  if clsB c = 3 then
   (match (c :: r).drop (runS (c :: r)) with
   | d :: e :: q => if d = 58 ∧ e ≠ 95 ∧ clsB e = 3 then (1, runS (c :: r) + (1 + runS (e :: q))) else (1, runS (c :: r))
   | _ => (1, runS (c :: r)))
  else if clsB c = 5 then
   (match r with
   | [] => (0, 1)
   | d :: _ => if d = 62 then (3, 2) else if clsB d = 4 then intTok (c :: r) (1 + runS r) else (0, 1))
  else if clsB c = 4 then intTok (c :: r) (runS (c :: r))
  else if clsB c = 6 then (3, 1) else (0, 1) := rfl
theorem u8_ne {a b : UInt8} (h : a ≠ b) : ¬ ((a.toNat : Int) = (b.toNat : Int)) := fun h' => h (UInt8.toNat_inj.1 (by omega))
theorem tab_get' (b : UInt8) : ∀ h, tabL[b.toNat]'h = .i .u8 (clsB b) := fun h => Option.some.inj ((List.getElem?_eq_getElem h).symm.trans (tab_get b))
theorem runS_pos {c : UInt8} {r : List UInt8} (h : clsB c = 3 ∨ clsB c = 4) : 0 < runS (c :: r) := by
 rw [runS_cons]
 have : wrdB c = true := by rcases h with h | h <;> simp [wrdB, h]
 simp [this]
theorem c_lexis_scan (s : St) (cx : Ctx) (p : Nat) (hp : s[p]? = some (.cells tabL)) (l : List UInt8) (hl : l.length ≤ 1048576) (hne : l ≠ []) :
  acallW P0 (.fn (.func F_lexis_scan) [] []) [.pt p 0, .sl (bytesAV l)] s cx = .ret (.tu [.i .i64 (scanS l).1, .i .i64 ((scanS l).2 : Int)]) s := by
 refine go_lexis_scan (by simp) ?_
 obtain ⟨c, r, hcr⟩ : ∃ c r, l = c :: r := by cases l with | nil => exact absurd rfl hne | cons c r => exact ⟨c, r, rfl⟩
 have hbl := bytes_len l
 have hbc : ∀ h, (bytesAV l)[0]'h = .i .u8 c.toNat := fun h => bytes_get l 0 h (by simp [hcr])
 have hpos : 0 < (bytesAV l).length := by rw [hbl, hcr]; simp
 have hb0 : (bytesAV l)[0]? = some (.i .u8 c.toNat) := by rw [List.getElem?_eq_getElem hpos, hbc]
 have hlt : c.toNat < 256 := c.toNat_lt
 have ht := tab_get' c
 have hrun := c_lexis_run s ⟨cx.lim, s.length⟩ p hp l hl
 have hal := bytes_all l
 have hrl := runS_le l
 have hsc : scanS l = scanS (c :: r) := by rw [hcr]
 rw [hsc, scan_cons, ← hcr]
 have w1 : IntKind.i64.wrap ((runS l : Int) + 1) = (runS l : Int) + 1 := w64 (by omega) (by omega)
 have rl : r.length + 1 = l.length := by rw [hcr]; simp
 by_cases c3 : clsB c = 3
 ·rw [if_pos c3]
  cases hx : l.drop (runS l) with
  | nil =>
   have h1 : l.length - runS l = 0 := by simpa using congrArg List.length hx
   have h2 : ¬ ((runS l : Int) + 1 < l.length) := by omega
   simp [callFnW, ir_lexis_scan, hb0, hbc, hlt, ht, hp, c3, hrun, hbl, w1, h2]
  | cons d q =>
   cases q with
   | nil =>
    have h1 : l.length - runS l = 1 := by simpa using congrArg List.length hx
    have h2 : ¬ ((runS l : Int) + 1 < l.length) := by omega
    simp [callFnW, ir_lexis_scan, hb0, hbc, hlt, ht, hp, c3, hrun, hbl, w1, h2]
   | cons e q =>
    have h1 : l.length - runS l = q.length + 2 := by simpa using congrArg List.length hx
    have h2 : (runS l : Int) + 1 < l.length := by omega
    have g0 : l[runS l]? = some d := by have := congrArg (·[0]?) hx; simpa using this
    have g1 : l[runS l + 1]? = some e := by have := congrArg (·[1]?) hx; simpa using this
    have b0 : ∀ h, (bytesAV l)[runS l]'h = .i .u8 d.toNat := fun h => bytes_get l _ h g0
    have b1 : ∀ h, (bytesAV l)[runS l + 1]'h = .i .u8 e.toNat := fun h => bytes_get l _ h g1
    have k0 : runS l < l.length := by omega
    have k1 : runS l + 1 < l.length := by omega
    have k2 : runS l + 1 ≤ l.length := by omega
    have n1 : ((runS l : Int) + 1).toNat = runS l + 1 := by omega
    have z1 : (0 : Int) ≤ (runS l : Int) + 1 := by omega
    have hlt' : e.toNat < 256 := e.toNat_lt
    have ht' := tab_get' e
    have hdd : l.drop (runS l + 1) = e :: q := by rw [← List.drop_drop, hx]; rfl
    have hs1 : ((bytesAV l).drop (runS l + 1)).take (l.length - (runS l + 1)) = bytesAV (e :: q) := by
     rw [bytes_drop, hdd, List.take_of_length_le (by rw [bytes_len]; simp; omega)]
    have hrun' := c_lexis_run s ⟨cx.lim, s.length⟩ p hp (e :: q) (by simp; omega)
    have hr' := runS_le (e :: q)
    simp only [List.length_cons] at hr'
    have w2 : IntKind.i64.wrap (1 + (runS (e :: q) : Int)) = 1 + (runS (e :: q) : Int) := w64 (by omega) (by omega)
    have w3 : IntKind.i64.wrap ((runS l : Int) + (1 + (runS (e :: q) : Int))) = (runS l : Int) + (1 + (runS (e :: q) : Int)) := w64 (by omega) (by omega)
    by_cases d58 : (d.toNat : Int) = 58
    ·have d58' : d = 58 := UInt8.toNat_inj.1 (by have : (58 : UInt8).toNat = 58 := rfl; omega)
     by_cases e95 : (e.toNat : Int) = 95
     ·have e95' : e = 95 := UInt8.toNat_inj.1 (by have : (95 : UInt8).toNat = 95 := rfl; omega)
      simp [callFnW, ir_lexis_scan, hb0, hbc, hlt, ht, hp, c3, hrun, hbl, w1, h2, b0, b1, k0, k1, n1, z1, d58, e95, e95']
     ·have e95' : ¬ e = 95 := fun h => e95 (by rw [h]; rfl)
      by_cases e3 : clsB e = 3
      ·simp [callFnW, ir_lexis_scan, hb0, hbc, hlt, ht, hp, c3, hrun, hbl, w1, h2, b0, b1, k0, k1, k2, n1, z1, d58, d58', e95, e95', e3, hlt', ht', hal, hs1, hrun', w2, w3]
      ·simp [callFnW, ir_lexis_scan, hb0, hbc, hlt, ht, hp, c3, hrun, hbl, w1, h2, b0, b1, k0, k1, n1, z1, d58, d58', e95, e95', e3, hlt', ht']
    ·have d58' : ¬ d = 58 := fun h => d58 (by rw [h]; rfl)
     simp [callFnW, ir_lexis_scan, hb0, hbc, hlt, ht, hp, c3, hrun, hbl, w1, h2, b0, b1, k0, k1, n1, z1, d58, d58']
 ·rw [if_neg c3]
  by_cases c5 : clsB c = 5
  ·rw [if_pos c5]
   cases r with
   | nil =>
    have h1 : l.length = 1 := by rw [hcr]; rfl
    simp [callFnW, ir_lexis_scan, hb0, hbc, hlt, ht, hp, c5, hbl, h1]
   | cons d q =>
    have h1 : (1 : Int) < l.length := by rw [hcr]; simp; omega
    have h2 : ¬ (l.length : Int) = 1 := by omega
    have g1 : l[1]? = some d := by rw [hcr]; rfl
    have b1 : ∀ h, (bytesAV l)[1]'h = .i .u8 d.toNat := fun h => bytes_get l _ h g1
    have k1 : 1 < l.length := by omega
    have k2 : 1 ≤ l.length := by omega
    have hlt' : d.toNat < 256 := d.toNat_lt
    have ht' := tab_get' d
    by_cases d62 : (d.toNat : Int) = 62
    ·have d62' : d = 62 := UInt8.toNat_inj.1 (by have : (62 : UInt8).toNat = 62 := rfl; omega)
     simp [callFnW, ir_lexis_scan, hb0, hbc, hlt, ht, hp, c5, hbl, h1, b1, k1, d62, d62']
    ·have d62' : ¬ d = 62 := fun h => d62 (by rw [h]; rfl)
     by_cases d4 : clsB d = 4
     ·have hs1 : ((bytesAV l).tail).take (l.length - 1) = bytesAV (d :: q) := by
       rw [List.take_of_length_le (by simp [hbl]), ← List.drop_one, bytes_drop, hcr]; rfl
      have hrun' := c_lexis_run s ⟨cx.lim, s.length⟩ p hp (d :: q) (by simp at rl ⊢; omega)
      have hr' := runS_le (d :: q)
      simp only [List.length_cons] at hr' rl
      have w2 : IntKind.i64.wrap (1 + (runS (d :: q) : Int)) = 1 + (runS (d :: q) : Int) := w64 (by omega) (by omega)
      have hs2 : (bytesAV l).take (1 + runS (d :: q)) = bytesAV (l.take (1 + runS (d :: q))) := bytes_take _ _
      have hint := c_lexis_integer (l.take (1 + runS (d :: q))) (by simp; omega) (by rw [hcr]; simp [Nat.add_comm 1]) s ⟨cx.lim, s.length⟩
      have n1 : (1 + (runS (d :: q) : Int)).toNat = 1 + runS (d :: q) := by omega
      have z1 : (0 : Int) ≤ 1 + (runS (d :: q) : Int) := by omega
      have k3 : 1 + runS (d :: q) ≤ l.length := by omega
      unfold intTok
      cases hi : integerS (l.take (1 + runS (d :: q))) with
      | true => rw [hi] at hint; simp [callFnW, ir_lexis_scan, hb0, hbc, hlt, ht, hp, c5, hbl, h1, h2, b1, k1, k2, k3, d62, d62', d4, hlt', ht', hal, hs1, hrun', w2, n1, z1, hs2, hint]
      | false => rw [hi] at hint; simp [callFnW, ir_lexis_scan, hb0, hbc, hlt, ht, hp, c5, hbl, h1, h2, b1, k1, k2, k3, d62, d62', d4, hlt', ht', hal, hs1, hrun', w2, n1, z1, hs2, hint]
     ·simp [callFnW, ir_lexis_scan, hb0, hbc, hlt, ht, hp, c5, hbl, h1, h2, b1, k1, d62, d62', d4, hlt', ht']
  ·rw [if_neg c5]
   by_cases c4 : clsB c = 4
   ·rw [if_pos c4]
    have hrp : 0 < runS l := by rw [hcr]; exact runS_pos (.inr c4)
    have hs2 : (bytesAV l).take (runS l) = bytesAV (l.take (runS l)) := bytes_take _ _
    have hint := c_lexis_integer (l.take (runS l)) (by simp; omega) (by rw [hcr]; rw [hcr] at hrp; intro h; have := congrArg List.length h; simp at this; omega) s ⟨cx.lim, s.length⟩
    unfold intTok
    cases hi : integerS (l.take (runS l)) with
    | true => rw [hi] at hint; simp [callFnW, ir_lexis_scan, hb0, hbc, hlt, ht, hp, c4, hbl, hrun, hal, hrl, hs2, hint]
    | false => rw [hi] at hint; simp [callFnW, ir_lexis_scan, hb0, hbc, hlt, ht, hp, c4, hbl, hrun, hal, hrl, hs2, hint]
   ·rw [if_neg c4]
    by_cases c6 : clsB c = 6
    ·simp [callFnW, ir_lexis_scan, hb0, hbc, hlt, ht, hp, c6]
    ·simp [callFnW, ir_lexis_scan, hb0, hbc, hlt, ht, hp, c3, c4, c5, c6]
end Go.Ai.Z
