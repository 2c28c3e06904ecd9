/-
  Documents, as both write them; and the law.
-/
import Derived.Test.YtglcpbgdkaeenaaGreatDoorAiK15
set_option maxRecDepth 100000
set_option linter.unusedSimpArgs false
set_option linter.unusedVariables false
namespace Go.Ai.Z

@[simp] theorem bytes_app (a b : List UInt8) : bytesAV (a ++ b) = bytesAV a ++ bytesAV b := by simp [bytesAV]
@[simp] theorem bytes_len (a : List UInt8) : (bytesAV a).length = a.length := by simp [bytesAV]
@[simp] theorem bytes_nil : bytesAV [] = [] := rfl
@[simp] theorem bytes_two : bytesAV [46, 10] = [.i .u8 46, .i .u8 10] := rfl
theorem bytes_back (a : List UInt8) : (bytesAV a).mapM byteOf = some a := by
  induction a with
  | nil => rfl
  | cons b r ih =>
    show ((AV.i .u8 b.toNat) :: bytesAV r).mapM byteOf = _
    simp [byteOf, ih]
def docB (l : List Ax) : List UInt8 := l.flatMap fun x => axS x ++ [46, 10]
def docE : List Ax → Int
  | [] => 0
  | x :: r => if checkAS x = 0 then docE r else checkAS x
theorem docB_cons (x : Ax) (r : List Ax) : docB (x :: r) = axS x ++ [46, 10] ++ docB r := by simp [docB]

theorem l_ref04_Document (s : St) (cx : Ctx) (z : Bool) (l : List Ax) (hl : l.length ≤ 20) (hx : ∀ x ∈ l, x.Few) :
    ∀ (rest : List Ax) (i : Nat) (t : List UInt8), l.drop i = rest → t.length + rest.length * 45012 ≤ 1000000 →
    ∃ j : Int, loopW (acodeW P0.glob (acallW P0) cx false ir_ref04_Document_L0) [0, 4, 5] [(0, .v (slf z (l.map encA))), (4, .own false T_uint8_0 1 (bytesAV t)), (5, .v (.i .i64 i))] s =
      if docE rest = 0 then .exit 0 [(0, .v (slf z (l.map encA))), (4, .own false T_uint8_0 1 (bytesAV (t ++ docB rest))), (5, .v (.i .i64 j)), (11, .v (.b false))] s else .ret [(2, .v .ns), (3, .v (.i .i64 (docE rest)))] s
  | [], i, t, h, ht => by
    have h1 : ¬ i < l.length := Nat.not_lt.2 (drop_nil h)
    refine ⟨i, loop_step fun K hK => ?_⟩
    simp [ir_ref04_Document_L0, h1, docE, docB]
  | p :: r, i, t, h, ht => by
    obtain ⟨h1, h2, h3, h4⟩ := drop_cons h
    have h5 := h4 h3
    have hf := hx p (by rw [← h5]; exact List.getElem_mem h3)
    have hwi := wI (i := i) (by omega)
    simp only [List.length_cons] at ht
    have e1 := c_ref04_Axiom p hf
    by_cases h0 : checkAS p = 0
    · have hal := ax_len hf (good h0)
      obtain ⟨j, ih2⟩ := l_ref04_Document s cx z l hl hx r (i + 1) (t ++ axS p ++ [46, 10]) h2 (by simp; omega)
      refine ⟨j, loop_step fun K hK => ?_⟩
      rw [← hK, show ((i + 1 : Nat) : Int) = (i : Int) + 1 from rfl] at ih2
      clear hK h4 hx
      have m1 : t.length + (axS p).length ≤ maxSl := by unfold maxSl; omega
      have m2 : t.length + (axS p).length + 2 ≤ maxSl := by unfold maxSl; omega
      have m3 : t.length + ((axS p).length + 2) ≤ maxSl := by unfold maxSl; omega
      simp at ih2
      simp [ir_ref04_Document_L0, h3, h5, hwi, e1, h0, m1, m2, m3, docE, docB_cons, ih2, List.range_succ]
    · refine ⟨i, loop_step fun K hK => ?_⟩
      clear hK h4 hx
      simp [ir_ref04_Document_L0, h3, h5, hwi, e1, h0, docE]
theorem c_ref04_Document (z : Bool) (l : List Ax) (hl : l.length ≤ 20) (hx : ∀ x ∈ l, x.Few) (s : St) (cx : Ctx) : acallW P0 (.fn (.func F_ref04_Document) [] []) [slf z (l.map encA)] s cx =
    .ret (if docE l = 0 then (if 65536 < (docB l).length then .tu [.ns, .i .i64 2] else .tu [.sl (bytesAV (docB l)), .i .i64 0]) else .tu [.ns, .i .i64 (docE l)]) s := by
  obtain ⟨j, h⟩ := l_ref04_Document s ⟨s.length, s.length⟩ z l hl hx l 0 [] rfl (by simp; omega)
  refine go_ref04_Document (by simp) ?_
  simp at h
  have c1 : ((65536 : Int) < (docB l).length) = (65536 < (docB l).length) := by simp; omega
  by_cases h0 : docE l = 0 <;> by_cases hb : 65536 < (docB l).length <;> simp [callFnW, ir_ref04_Document, h, h0, c1, hb]

theorem l_printer_Document0 (s : St) (cx : Ctx) (z : Bool) (l : List Ax) (hl : l.length ≤ 20) (hx : ∀ x ∈ l, x.Few) :
    ∀ (rest : List Ax) (i : Nat), l.drop i = rest →
    ∃ j : Int, loopW (acodeW P0.glob (acallW P0) cx false ir_printer_Document_L0) [0, 2, 10, 11, 12] [(0, .v (slf z (l.map encA))), (2, .own false T_uint8_0 1 []), (10, .v (slf z (l.map encA))), (11, .v (.i .i64 l.length)), (12, .v (.i .i64 i))] s =
      if docE rest = 0 then .exit 0 [(0, .v (slf z (l.map encA))), (2, .own false T_uint8_0 1 []), (10, .v (slf z (l.map encA))), (11, .v (.i .i64 l.length)), (12, .v (.i .i64 j)), (13, .v (.b false))] s else .ret [(2, .own false T_uint8_0 1 []), (3, .v (.i .i64 (docE rest)))] s
  | [], i, h => by
    have h1 : ¬ i < l.length := Nat.not_lt.2 (drop_nil h)
    refine ⟨i, loop_step fun K hK => ?_⟩
    simp [ir_printer_Document_L0, h1, docE]
  | p :: r, i, h => by
    obtain ⟨h1, h2, h3, h4⟩ := drop_cons h
    have h5 := h4 h3
    have hf := hx p (by rw [← h5]; exact List.getElem_mem h3)
    have hwi := wI (i := i) (by omega)
    have e1 := c_terms_CheckAxiom p hf
    by_cases h0 : checkAS p = 0
    · obtain ⟨j, ih2⟩ := l_printer_Document0 s cx z l hl hx r (i + 1) h2
      refine ⟨j, loop_step fun K hK => ?_⟩
      rw [← hK, show ((i + 1 : Nat) : Int) = (i : Int) + 1 from rfl] at ih2
      clear hK h4 hx
      simp [ir_printer_Document_L0, h3, h5, hwi, e1, h0, docE, ih2]
    · refine ⟨i, loop_step fun K hK => ?_⟩
      clear hK h4 hx
      simp [ir_printer_Document_L0, h3, h5, hwi, e1, h0, docE]
theorem l_printer_Document1 (s : St) (cx : Ctx) (z : Bool) (l : List Ax) (hl : l.length ≤ 20) (hx : ∀ x ∈ l, x.Few) :
    ∀ (rest : List Ax) (i : Nat) (t : List UInt8), l.drop i = rest → docE rest = 0 → t.length ≤ 65536 →
    ∃ j : Int, loopW (acodeW P0.glob (acallW P0) cx false ir_printer_Document_L1) [2, 7, 23, 24, 25] [(2, .own false T_uint8_0 1 (bytesAV t)), (7, .bx pvCs), (23, .v (slf z (l.map encA))), (24, .v (.i .i64 l.length)), (25, .v (.i .i64 i))] s =
      if 65536 < (t ++ docB rest).length then .ret [(2, .own false T_uint8_0 1 []), (3, .v (.i .i64 2))] s else .exit 2 [(2, .own false T_uint8_0 1 (bytesAV (t ++ docB rest))), (7, .bx pvCs), (23, .v (slf z (l.map encA))), (24, .v (.i .i64 l.length)), (25, .v (.i .i64 j)), (26, .v (.b false))] s
  | [], i, t, h, hd, ht => by
    have h1 : ¬ i < l.length := Nat.not_lt.2 (drop_nil h)
    have c1 : ¬ 65536 < t.length := by omega
    refine ⟨i, loop_step fun K hK => ?_⟩
    simp [ir_printer_Document_L1, h1, docB, c1]
  | p :: r, i, t, h, hd, ht => by
    obtain ⟨h1, h2, h3, h4⟩ := drop_cons h
    have h5 := h4 h3
    have hf := hx p (by rw [← h5]; exact List.getElem_mem h3)
    have hwi := wI (i := i) (by omega)
    have h0 : checkAS p = 0 := by unfold docE at hd; split at hd <;> omega
    have hd' : docE r = 0 := by unfold docE at hd; rw [if_pos h0] at hd; exact hd
    have e1 := c_printer_axiom p hf (good h0)
    have hal := ax_len hf (good h0)
    have m1 : t.length + (axS p).length ≤ maxSl := by unfold maxSl; omega
    have m2 : t.length + (axS p).length + 2 ≤ maxSl := by unfold maxSl; omega
    have m3 : t.length + ((axS p).length + 2) ≤ maxSl := by unfold maxSl; omega
    by_cases hb : t.length + ((axS p).length + 2) ≤ 65536
    · have hb' : ¬ (65536 : Int) < (t.length : Int) + (((axS p).length : Int) + 2) := by omega
      obtain ⟨j, ih2⟩ := l_printer_Document1 s cx z l hl hx r (i + 1) (t ++ axS p ++ [46, 10]) h2 hd' (by simp; omega)
      refine ⟨j, loop_step fun K hK => ?_⟩
      rw [← hK, show ((i + 1 : Nat) : Int) = (i : Int) + 1 from rfl] at ih2
      clear hK h4 hx
      simp at ih2
      simp [ir_printer_Document_L1, h3, h5, hwi, e1, m1, m2, m3, hb', docB_cons, ih2]
    · have hb' : (65536 : Int) < (t.length : Int) + (((axS p).length : Int) + 2) := by omega
      have hc : 65536 < (t ++ docB (p :: r)).length := by simp [docB_cons]; omega
      refine ⟨i, loop_step fun K hK => ?_⟩
      clear hK h4 hx
      rw [if_pos hc]
      simp [ir_printer_Document_L1, h3, h5, hwi, e1, m1, m2, m3, hb']
theorem c_printer_Document (z : Bool) (l : List Ax) (hl : l.length ≤ 20) (hx : ∀ x ∈ l, x.Few) (s : St) (cx : Ctx) : acallW P0 (.fn (.func F_printer_Document) [] []) [slf z (l.map encA)] s cx =
    .ret (if docE l = 0 then (if 65536 < (docB l).length then .tu [.sl [], .i .i64 2] else .tu [.sl (bytesAV (docB l)), .i .i64 0]) else .tu [.sl [], .i .i64 (docE l)]) s := by
  obtain ⟨j, h⟩ := l_printer_Document0 s ⟨s.length, s.length⟩ z l hl hx l 0 rfl
  refine go_printer_Document (by simp) ?_
  simp at h
  by_cases h0 : docE l = 0
  · obtain ⟨j', h'⟩ := l_printer_Document1 s ⟨s.length, s.length⟩ z l hl hx l 0 [] rfl h0 (by simp)
    simp at h'
    by_cases hb : 65536 < (docB l).length <;> simp [callFnW, ir_printer_Document, h, h0, h', hb]
  · simp [callFnW, ir_printer_Document, h, h0]

theorem l_law (s : St) (cx : Ctx) (z : Bool) (l : List Ax) (hl : l.length ≤ 20) (hx : ∀ x ∈ l, x.Few) :
    ∀ (rest : List Ax) (i : Nat), l.drop i = rest →
    ∃ j : Int, loopW (acodeW P0.glob (acallW P0) cx false ir_law04_PrinterAxioms_L0) [0, 3] [(0, .v (slf z (l.map encA))), (3, .v (.i .i64 i))] s =
      .exit 0 [(0, .v (slf z (l.map encA))), (3, .v (.i .i64 j)), (20, .v (.b false))] s
  | [], i, h => by
    have h1 : ¬ i < l.length := Nat.not_lt.2 (drop_nil h)
    refine ⟨i, loop_step fun K hK => ?_⟩
    simp [ir_law04_PrinterAxioms_L0, h1]
  | p :: r, i, h => by
    obtain ⟨h1, h2, h3, h4⟩ := drop_cons h
    have h5 := h4 h3
    have hf := hx p (by rw [← h5]; exact List.getElem_mem h3)
    have hwi := wI (i := i) (by omega)
    have e1 := c_printer_Axiom p hf
    have e2 := c_ref04_Axiom p hf
    obtain ⟨j, ih2⟩ := l_law s cx z l hl hx r (i + 1) h2
    refine ⟨j, loop_step fun K hK => ?_⟩
    rw [← hK, show ((i + 1 : Nat) : Int) = (i : Int) + 1 from rfl] at ih2
    clear hK h4 hx
    by_cases h0 : checkAS p = 0 <;> simp [ir_law04_PrinterAxioms_L0, h3, h5, hwi, e1, e2, h0, ih2]
theorem c_law2 (z : Bool) (l : List Ax) (hl : l.length ≤ 1125899906842624) (hok : ∀ x ∈ l, x.Ok) (hs : acallW P0 (.fn (.func F_law04_sane) [] []) [] [] ⟨0, 0⟩ = .ret (.b true) []) (cx : Ctx) : acallW P0 (.fn (.func F_law04_PrinterAxioms) [] []) [slf z (l.map encA)] [] cx = .ret (.b true) [] := by
  obtain ⟨b, e1, hb⟩ := c_ref02_FewAxioms z l hl hok
  refine go_law04_PrinterAxioms (by simp) ?_
  cases b with
  | false => simp [callFnW, ir_law04_PrinterAxioms, hs, e1]
  | true =>
    obtain ⟨hl, hx⟩ := hb rfl
    have e2 := c_printer_Document z l hl hx
    have e3 := c_ref04_Document z l hl hx
    obtain ⟨j, h⟩ := l_law [] ⟨0, 0⟩ z l hl hx l 0 rfl
    simp at h
    have hbk := bytes_back (docB l)
    by_cases h0 : docE l = 0 <;> by_cases hc : 65536 < (docB l).length <;> simp [callFnW, ir_law04_PrinterAxioms, hs, e1, e2, e3, h, h0, hc, hbk]
end Go.Ai.Z
