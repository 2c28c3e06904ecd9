/-
  The token with which a text begins.
-/
import Derived.Test.YtpnlnnfcaeednaaGreatDoorAiKTKU
set_option maxRecDepth 100000
set_option linter.unusedSimpArgs false
set_option linter.unusedVariables false
set_option linter.unusedSectionVars false
namespace Go.Ai.Z
def intTok (b : List UInt8) (n : Nat) : Int × Nat := if integerS (b.take n) = true then (2, n) else (0, n)
def scanS : List UInt8 → Int × Nat
  | [] => (0, 0)
  | c :: r =>
    if clsB c = 3 then
      (match (c :: r).drop (runS (c :: r)) with
      | d :: e :: q => if d = 58 ∧ e ≠ 95 ∧ clsB e = 3 then (1, runS (c :: r) + (1 + runS (e :: q))) else (1, runS (c :: r))
      | _ => (1, runS (c :: r)))
    else if clsB c = 5 then
      (match r with
      | [] => (0, 1)
      | d :: _ => if d = 62 then (3, 2) else if clsB d = 4 then intTok (c :: r) (1 + runS r) else (0, 1))
    else if clsB c = 4 then intTok (c :: r) (runS (c :: r))
    else if clsB c = 6 then (3, 1) else (0, 1)
theorem scan_cons (c : UInt8) (r : List UInt8) : scanS (c :: r) =
    if clsB c = 3 then
      (match (c :: r).drop (runS (c :: r)) with
      | d :: e :: q => if d = 58 ∧ e ≠ 95 ∧ clsB e = 3 then (1, runS (c :: r) + (1 + runS (e :: q))) else (1, runS (c :: r))
      | _ => (1, runS (c :: r)))
    else if clsB c = 5 then
      (match r with
      | [] => (0, 1)
      | d :: _ => if d = 62 then (3, 2) else if clsB d = 4 then intTok (c :: r) (1 + runS r) else (0, 1))
    else if clsB c = 4 then intTok (c :: r) (runS (c :: r))
    else if clsB c = 6 then (3, 1) else (0, 1) := rfl
theorem tab_get' (b : UInt8) : ∀ h, tabL[b.toNat]'h = .i .u8 (clsB b) := fun h => Option.some.inj ((List.getElem?_eq_getElem h).symm.trans (tab_get b))
theorem runS_pos {c : UInt8} {r : List UInt8} (h : clsB c = 3 ∨ clsB c = 4) : 0 < runS (c :: r) := by
  rw [runS_cons]
  have : wrdB c = true := by rcases h with h | h <;> simp [wrdB, h]
  simp [this]
theorem c_lexis_scan (s : St) (cx : Ctx) (p : Nat) (hp : s[p]? = some (.cells tabL)) (l : List UInt8) (hl : l.length ≤ 1048576) (hne : l ≠ []) :
    acallW P0 (.fn (.func F_lexis_scan) [] []) [.pt p 0, .sl (bytesAV l)] s cx = .ret (.tu [.i .i64 (scanS l).1, .i .i64 ((scanS l).2 : Int)]) s := by
  refine go_lexis_scan (by simp) ?_
  obtain ⟨c, r, hcr⟩ : ∃ c r, l = c :: r := by cases l with | nil => exact absurd rfl hne | cons c r => exact ⟨c, r, rfl⟩
  have hbl := bytes_len l
  have hbc : ∀ h, (bytesAV l)[0]'h = .i .u8 c.toNat := fun h => bytes_get l 0 h (by simp [hcr])
  have hpos : 0 < (bytesAV l).length := by rw [hbl, hcr]; simp
  have hb0 : (bytesAV l)[0]? = some (.i .u8 c.toNat) := by rw [List.getElem?_eq_getElem hpos, hbc]
  have hlt : c.toNat < 256 := c.toNat_lt
  have ht := tab_get' c
  have hrun := c_lexis_run s ⟨cx.lim, s.length⟩ p hp l hl
  have hal := bytes_all l
  have hrl := runS_le l
  have hsc : scanS l = scanS (c :: r) := by rw [hcr]
  rw [hsc, scan_cons, ← hcr]
  have w1 : IntKind.i64.wrap ((runS l : Int) + 1) = (runS l : Int) + 1 := w64 (by omega) (by omega)
  have rl : r.length + 1 = l.length := by rw [hcr]; simp
  by_cases c3 : clsB c = 3
  · rw [if_pos c3]
    cases hx : l.drop (runS l) with
    | nil =>
      have h1 : l.length - runS l = 0 := by simpa using congrArg List.length hx
      have h2 : ¬ ((runS l : Int) + 1 < l.length) := by omega
      simp [callFnW, ir_lexis_scan, hb0, hbc, hlt, ht, hp, c3, hrun, hbl, w1, h2]
    | cons d q =>
      cases q with
      | nil =>
        have h1 : l.length - runS l = 1 := by simpa using congrArg List.length hx
        have h2 : ¬ ((runS l : Int) + 1 < l.length) := by omega
        simp [callFnW, ir_lexis_scan, hb0, hbc, hlt, ht, hp, c3, hrun, hbl, w1, h2]
      | cons e q =>
        have h1 : l.length - runS l = q.length + 2 := by simpa using congrArg List.length hx
        have h2 : (runS l : Int) + 1 < l.length := by omega
        have g0 : l[runS l]? = some d := by have := congrArg (·[0]?) hx; simpa using this
        have g1 : l[runS l + 1]? = some e := by have := congrArg (·[1]?) hx; simpa using this
        have b0 : ∀ h, (bytesAV l)[runS l]'h = .i .u8 d.toNat := fun h => bytes_get l _ h g0
        have b1 : ∀ h, (bytesAV l)[runS l + 1]'h = .i .u8 e.toNat := fun h => bytes_get l _ h g1
        have k0 : runS l < l.length := by omega
        have k1 : runS l + 1 < l.length := by omega
        have k2 : runS l + 1 ≤ l.length := by omega
        have n1 : ((runS l : Int) + 1).toNat = runS l + 1 := by omega
        have z1 : (0 : Int) ≤ (runS l : Int) + 1 := by omega
        have hlt' : e.toNat < 256 := e.toNat_lt
        have ht' := tab_get' e
        have hdd : l.drop (runS l + 1) = e :: q := by rw [← List.drop_drop, hx]; rfl
        have hs1 : ((bytesAV l).drop (runS l + 1)).take (l.length - (runS l + 1)) = bytesAV (e :: q) := by
          rw [bytes_drop, hdd, List.take_of_length_le (by rw [bytes_len]; simp; omega)]
        have hrun' := c_lexis_run s ⟨cx.lim, s.length⟩ p hp (e :: q) (by simp; omega)
        have hr' := runS_le (e :: q)
        simp only [List.length_cons] at hr'
        have w2 : IntKind.i64.wrap (1 + (runS (e :: q) : Int)) = 1 + (runS (e :: q) : Int) := w64 (by omega) (by omega)
        have w3 : IntKind.i64.wrap ((runS l : Int) + (1 + (runS (e :: q) : Int))) = (runS l : Int) + (1 + (runS (e :: q) : Int)) := w64 (by omega) (by omega)
        by_cases d58 : (d.toNat : Int) = 58
        · have d58' : d = 58 := UInt8.toNat_inj.1 (by have : (58 : UInt8).toNat = 58 := rfl; omega)
          by_cases e95 : (e.toNat : Int) = 95
          · have e95' : e = 95 := UInt8.toNat_inj.1 (by have : (95 : UInt8).toNat = 95 := rfl; omega)
            simp [callFnW, ir_lexis_scan, hb0, hbc, hlt, ht, hp, c3, hrun, hbl, w1, h2, b0, b1, k0, k1, n1, z1, d58, e95, e95']
          · have e95' : ¬ e = 95 := fun h => e95 (by rw [h]; rfl)
            by_cases e3 : clsB e = 3
            · simp [callFnW, ir_lexis_scan, hb0, hbc, hlt, ht, hp, c3, hrun, hbl, w1, h2, b0, b1, k0, k1, k2, n1, z1, d58, d58', e95, e95', e3, hlt', ht', hal, hs1, hrun', w2, w3]
            · simp [callFnW, ir_lexis_scan, hb0, hbc, hlt, ht, hp, c3, hrun, hbl, w1, h2, b0, b1, k0, k1, n1, z1, d58, d58', e95, e95', e3, hlt', ht']
        · have d58' : ¬ d = 58 := fun h => d58 (by rw [h]; rfl)
          simp [callFnW, ir_lexis_scan, hb0, hbc, hlt, ht, hp, c3, hrun, hbl, w1, h2, b0, b1, k0, k1, n1, z1, d58, d58']
  · rw [if_neg c3]
    by_cases c5 : clsB c = 5
    · rw [if_pos c5]
      cases r with
      | nil =>
        have h1 : l.length = 1 := by rw [hcr]; rfl
        simp [callFnW, ir_lexis_scan, hb0, hbc, hlt, ht, hp, c5, hbl, h1]
      | cons d q =>
        have h1 : (1 : Int) < l.length := by rw [hcr]; simp; omega
        have h2 : ¬ (l.length : Int) = 1 := by omega
        have g1 : l[1]? = some d := by rw [hcr]; rfl
        have b1 : ∀ h, (bytesAV l)[1]'h = .i .u8 d.toNat := fun h => bytes_get l _ h g1
        have k1 : 1 < l.length := by omega
        have k2 : 1 ≤ l.length := by omega
        have hlt' : d.toNat < 256 := d.toNat_lt
        have ht' := tab_get' d
        by_cases d62 : (d.toNat : Int) = 62
        · have d62' : d = 62 := UInt8.toNat_inj.1 (by have : (62 : UInt8).toNat = 62 := rfl; omega)
          simp [callFnW, ir_lexis_scan, hb0, hbc, hlt, ht, hp, c5, hbl, h1, b1, k1, d62, d62']
        · have d62' : ¬ d = 62 := fun h => d62 (by rw [h]; rfl)
          by_cases d4 : clsB d = 4
          · have hs1 : ((bytesAV l).tail).take (l.length - 1) = bytesAV (d :: q) := by
              rw [List.take_of_length_le (by simp [hbl]), ← List.drop_one, bytes_drop, hcr]; rfl
            have hrun' := c_lexis_run s ⟨cx.lim, s.length⟩ p hp (d :: q) (by simp at rl ⊢; omega)
            have hr' := runS_le (d :: q)
            simp only [List.length_cons] at hr' rl
            have w2 : IntKind.i64.wrap (1 + (runS (d :: q) : Int)) = 1 + (runS (d :: q) : Int) := w64 (by omega) (by omega)
            have hs2 : (bytesAV l).take (1 + runS (d :: q)) = bytesAV (l.take (1 + runS (d :: q))) := bytes_take _ _
            have hint := c_lexis_integer (l.take (1 + runS (d :: q))) (by simp; omega) (by rw [hcr]; simp [Nat.add_comm 1]) s ⟨cx.lim, s.length⟩
            have n1 : (1 + (runS (d :: q) : Int)).toNat = 1 + runS (d :: q) := by omega
            have z1 : (0 : Int) ≤ 1 + (runS (d :: q) : Int) := by omega
            have k3 : 1 + runS (d :: q) ≤ l.length := by omega
            unfold intTok
            cases hi : integerS (l.take (1 + runS (d :: q))) with
            | true => rw [hi] at hint; simp [callFnW, ir_lexis_scan, hb0, hbc, hlt, ht, hp, c5, hbl, h1, h2, b1, k1, k2, k3, d62, d62', d4, hlt', ht', hal, hs1, hrun', w2, n1, z1, hs2, hint]
            | false => rw [hi] at hint; simp [callFnW, ir_lexis_scan, hb0, hbc, hlt, ht, hp, c5, hbl, h1, h2, b1, k1, k2, k3, d62, d62', d4, hlt', ht', hal, hs1, hrun', w2, n1, z1, hs2, hint]
          · simp [callFnW, ir_lexis_scan, hb0, hbc, hlt, ht, hp, c5, hbl, h1, h2, b1, k1, d62, d62', d4, hlt', ht']
    · rw [if_neg c5]
      by_cases c4 : clsB c = 4
      · rw [if_pos c4]
        have hrp : 0 < runS l := by rw [hcr]; exact runS_pos (.inr c4)
        have hs2 : (bytesAV l).take (runS l) = bytesAV (l.take (runS l)) := bytes_take _ _
        have hint := c_lexis_integer (l.take (runS l)) (by simp; omega) (by rw [hcr]; rw [hcr] at hrp; intro h; have := congrArg List.length h; simp at this; omega) s ⟨cx.lim, s.length⟩
        unfold intTok
        cases hi : integerS (l.take (runS l)) with
        | true => rw [hi] at hint; simp [callFnW, ir_lexis_scan, hb0, hbc, hlt, ht, hp, c4, hbl, hrun, hal, hrl, hs2, hint]
        | false => rw [hi] at hint; simp [callFnW, ir_lexis_scan, hb0, hbc, hlt, ht, hp, c4, hbl, hrun, hal, hrl, hs2, hint]
      · rw [if_neg c4]
        by_cases c6 : clsB c = 6
        · simp [callFnW, ir_lexis_scan, hb0, hbc, hlt, ht, hp, c6]
        · simp [callFnW, ir_lexis_scan, hb0, hbc, hlt, ht, hp, c3, c4, c5, c6]
end Go.Ai.Z
