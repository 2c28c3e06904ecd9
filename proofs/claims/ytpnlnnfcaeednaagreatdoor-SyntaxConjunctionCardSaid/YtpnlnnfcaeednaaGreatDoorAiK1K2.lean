/-
 Names: what the program's and the reference's functions on them answer.
-/
import Derived.Test.YtpnlnnfcaeednaaGreatDoorAiC2
import Derived.Test.YtpnlnnfcaeednaaGreatDoorAiSxD
set_option maxRecDepth 100000
set_option linter.unusedSimpArgs false
set_option linter.unusedVariables false
set_option linter.unusedSectionVars false
namespace Go.Ai.Z
def cutB (b : UInt8) : List UInt8 → Option (List UInt8 × List UInt8)
 | [] => none
 | x :: r => if x = b then some ([], r) else (cutB b r).map fun p => (x :: p.1, p.2)
theorem cutB_len {b : UInt8} : ∀ {l x y : List UInt8}, cutB b l = some (x, y) → l = x ++ b :: y
 | [], _, _, h => by simp [cutB] at h
 | c :: r, x, y, h => by
  by_cases hc : c = b
  ·simp [cutB, hc] at h; obtain ⟨rfl, rfl⟩ := h; simp [hc]
  ·simp [cutB, hc] at h
   obtain ⟨p, q, rfl⟩ := h
   simp [cutB_len q]
theorem index_none {b : UInt8} : ∀ {l : List UInt8}, cutB b l = none → Go.Lib.indexByte l b = -1
 | [], _ => rfl
 | c :: r, h => by
  by_cases hc : c = b
  ·simp [cutB, hc] at h
  ·simp [cutB, hc] at h
   simp [Go.Lib.indexByte, hc, index_none h]
theorem index_some {b : UInt8} : ∀ {l x y : List UInt8}, cutB b l = some (x, y) → Go.Lib.indexByte l b = x.length
 | [], _, _, h => by simp [cutB] at h
 | c :: r, x, y, h => by
  by_cases hc : c = b
  ·simp [cutB, hc] at h; obtain ⟨rfl, rfl⟩ := h; simp [Go.Lib.indexByte, hc]
  ·simp [cutB, hc] at h
   obtain ⟨p, q, rfl⟩ := h
   have := index_some q
   have h1 : ¬ ((p.length : Int) = -1) := by omega
   simp [Go.Lib.indexByte, hc, this, h1]
theorem c_index (l : List UInt8) (b : UInt8) (s : St) (cx : Ctx) : acallW P0 (.fn (.func F_internal_stringslite_Index) [] []) [.s l, .s [b]] s cx = .ret (.i .i64 (Go.Lib.indexByte l b)) s :=
 acallW_intrS (h := pureI iIndex) rfl rfl
theorem c_stringslite_Cut (l : List UInt8) (b : UInt8) (hl : l.length ≤ 1152921504606846976) (s : St) (cx : Ctx) : acallW P0 (.fn (.func F_internal_stringslite_Cut) [] []) [.s l, .s [b]] s cx =
  .ret (match cutB b l with | some (x, y) => .tu [.s x, .s y, .b true] | none => .tu [.s l, .s [], .b false]) s := by
 refine go_internal_stringslite_Cut (by simp) ?_
 cases hc : cutB b l with
 | none => simp [callFnW, ir_internal_stringslite_Cut, c_index, index_none hc]
 | some p =>
  obtain ⟨x, y⟩ := p
  have hi := index_some hc
  have he := cutB_len hc
  have hlen : l.length = x.length + (y.length + 1) := by rw [he]; simp
  have w1 : IntKind.i64.wrap ((x.length : Int) + 1) = (x.length : Int) + 1 := w64 (by omega) (by omega)
  have e1 : l.take x.length = x := by rw [he]; simp
  have e2 : (l.drop (x.length + 1)).take (l.length - (x.length + 1)) = y := by
   rw [hlen, he, show x.length + 1 = (x ++ [b]).length from by simp, show x ++ b :: y = (x ++ [b]) ++ y from by simp, List.drop_left]
   exact List.take_of_length_le (by simp; omega)
  clear he
  have hn : ((x.length : Int) + 1).toNat = x.length + 1 := by omega
  have h0 : (0 : Int) ≤ (x.length : Int) + 1 := by omega
  have g1 : x.length ≤ l.length := by omega
  have g2 : x.length + 1 ≤ l.length := by omega
  simp [callFnW, ir_internal_stringslite_Cut, c_index, hi, w1, hn, h0, g1, g2, e1, e2]
theorem c_strings_Cut (l : List UInt8) (b : UInt8) (hl : l.length ≤ 1152921504606846976) (s : St) (cx : Ctx) : acallW P0 (.fn (.func F_strings_Cut) [] []) [.s l, .s [b]] s cx =
  .ret (match cutB b l with | some (x, y) => .tu [.s x, .s y, .b true] | none => .tu [.s l, .s [], .b false]) s := by
 refine go_strings_Cut (by simp) ?_
 have e1 := c_stringslite_Cut l b hl
 cases hc : cutB b l with
 | none => rw [hc] at e1; simp [callFnW, ir_strings_Cut, e1]
 | some p => obtain ⟨x, y⟩ := p; rw [hc] at e1; simp [callFnW, ir_strings_Cut, e1]
def ltrI (k : Int) : Bool := decide (97 ≤ k) && decide (k ≤ 122) || decide (65 ≤ k) && decide (k ≤ 90)
def innI (k : Int) : Bool := ltrI k || decide (48 ≤ k) && decide (k ≤ 57) || decide (k = 95)
def ltrB (b : UInt8) : Bool := ltrI b.toNat
def innB (b : UInt8) : Bool := innI b.toNat
def tailS : List UInt8 → Bool
 | [] => true
 | b :: r => innB b && tailS r
theorem tailS_nil : tailS [] = true := rfl
theorem tailS_cons (b : UInt8) (r : List UInt8) : tailS (b :: r) = (innB b && tailS r) := rfl
def keywords : List (List UInt8) :=
 [[97, 110, 100], [115, 111, 109, 101], [105, 110], [116, 111], [110, 111, 116, 104, 105, 110, 103], [101, 118, 101, 114, 121, 116, 104, 105, 110, 103], [111, 110, 101], [111, 102],
  [111, 112, 101, 110], [112, 114, 105, 118, 97, 116, 101], [115, 117, 98], [115, 97, 109, 101], [100, 105, 115, 106, 111, 105, 110, 116], [100, 111, 109, 97, 105, 110], [114, 111, 108, 101],
  [99, 104, 97, 105, 110], [114, 101, 102, 108, 101, 120, 105, 118, 101], [116, 121, 112, 101], [108, 105, 110, 107], [115, 101, 108, 101, 99, 116], [119, 104, 101, 114, 101], [111, 114]]
def kwS (l : List UInt8) : Bool := keywords.contains l
def wordS (l : List UInt8) : Bool := (match l with | [] => false | b :: _ => ltrB b) && tailS l && !kwS l
def plainS (l : List UInt8) : Bool := decide (l.length ≤ 24) && (match cutB 58 l with | some (x, y) => wordS x && wordS y | none => wordS l)
def resS (l : List UInt8) : Bool := decide (2 ≤ l.length) && decide (l.length ≤ 24) && (match l with | [] => false | b :: _ => decide ((b.toNat : Int) = 95)) && tailS l
@[simp] theorem c_terms_isLetter (k : Int) (s : St) (cx : Ctx) : acallW P0 (.fn (.func F_terms_isLetter) [] []) [.i .u8 k] s cx = .ret (.b (ltrI k)) s := by
 refine go_terms_isLetter (by simp) ?_
 simp [callFnW, ir_terms_isLetter, ltrI]
 repeat' (split <;> simp only [opT_go, opF_go, cdT_go] <;> simp [*])
theorem l_terms_isTail (s : St) (cx : Ctx) (l : List UInt8) (hl : l.length ≤ 1152921504606846976) : ∀ (rest : List UInt8) (i : Nat), l.drop i = rest →
  ∃ j : Int, loopW (acodeW P0.glob (acallW P0) cx false ir_terms_isTail_L0) [6, 7, 8] [(6, .v (.sl (bytesAV l))), (7, .v (.i .i64 l.length)), (8, .v (.i .i64 i))] s =
   if tailS rest = true then .exit 0 [(6, .v (.sl (bytesAV l))), (7, .v (.i .i64 l.length)), (8, .v (.i .i64 j)), (9, .v (.b false))] s else .ret [(2, .v (.b false))] s
 | [], i, h => by
  have h1 : ¬ i < l.length := Nat.not_lt.2 (drop_nil h)
  refine ⟨i, loop_step fun K hK => ?_⟩
  simp [ir_terms_isTail_L0, h1, tailS_nil]
 | b :: r, i, h => by
  obtain ⟨h1, h2, h3, h4⟩ := drop_cons h
  have h5 := h4 h3
  have hb : (bytesAV l)[i]? = some (.i .u8 b.toNat) := by simp [bytesAV, h1]
  have hw := wI (i := i) (by omega)
  obtain ⟨j, ih⟩ := l_terms_isTail s cx l hl r (i + 1) h2
  refine ⟨j, loop_step fun K hK => ?_⟩
  rw [← hK, show ((i + 1 : Nat) : Int) = (i : Int) + 1 from rfl] at ih
  clear hK
  rcases Bool.eq_false_or_eq_true (innB b) with hin | hin <;> rcases Bool.eq_false_or_eq_true (ltrI b.toNat) with hlt | hlt <;>
  ·have hin' := hin
   simp [innB, innI, hlt] at hin'
   try simp [ir_terms_isTail_L0, h3, hb, tailS_cons, hin, hlt, hw, ih]
   repeat' (first | (split <;> (try simp only [opT_go, opF_go, cdT_go, qT_go, qN_go]) <;> (try simp [*])) | (simp only [opT_go, opF_go, cdT_go, qT_go, qN_go] <;> (try simp [*])) | omega)
theorem c_terms_isTail (l : List UInt8) (hl : l.length ≤ 1152921504606846976) (s : St) (cx : Ctx) : acallW P0 (.fn (.func F_terms_isTail) [] []) [.s l] s cx = .ret (.b (tailS l)) s := by
 refine go_terms_isTail (by simp) ?_
 obtain ⟨j, h⟩ := l_terms_isTail s ⟨s.length, s.length⟩ l hl l 0 rfl
 have hb : (bytesAV l).length = l.length := by simp [bytesAV]
 simp at h
 simp [callFnW, ir_terms_isTail, hb, h]
 repeat' (first | (split <;> (try simp only [opT_go, opF_go, cdT_go, qT_go, qN_go]) <;> (try simp [*])) | (simp only [opT_go, opF_go, cdT_go, qT_go, qN_go] <;> (try simp [*])) | omega)
@[simp] theorem c_lexis_Keyword (l : List UInt8) (s : St) (cx : Ctx) : acallW P0 (.fn (.func F_lexis_Keyword) [] []) [.s l] s cx = .ret (.b (kwS l)) s := by
 refine go_lexis_Keyword (by simp) ?_
 simp [callFnW, ir_lexis_Keyword]
 repeat' (first | (split <;> (try simp only [opT_go, opF_go, cdT_go, qT_go, qN_go]) <;> (try simp [*])) | (simp only [opT_go, opF_go, cdT_go, qT_go, qN_go] <;> (try simp [*])) | omega)
 all_goals first | rfl | simp [kwS, keywords, *]
theorem c_terms_isWord (l : List UInt8) (hl : l.length ≤ 1152921504606846976) (s : St) (cx : Ctx) : acallW P0 (.fn (.func F_terms_isWord) [] []) [.s l] s cx = .ret (.b (wordS l)) s := by
 refine go_terms_isWord (by simp) ?_
 cases l with
 | nil => simp [callFnW, ir_terms_isWord, wordS]
 | cons b r =>
  have e1 := c_terms_isTail _ hl
  simp [callFnW, ir_terms_isWord, e1, wordS, ltrB]
  repeat' (first | (split <;> (try simp only [opT_go, opF_go, cdT_go, qT_go, qN_go]) <;> (try simp [*])) | (simp only [opT_go, opF_go, cdT_go, qT_go, qN_go] <;> (try simp [*])) | omega)
theorem c_terms_isReserved (l : List UInt8) (hl : l.length ≤ 1152921504606846976) (s : St) (cx : Ctx) : acallW P0 (.fn (.func F_terms_isReserved) [] []) [.s l] s cx = .ret (.b (resS l)) s := by
 refine go_terms_isReserved (by simp) ?_
 cases l with
 | nil => simp [callFnW, ir_terms_isReserved, resS]
 | cons b r =>
  have e1 := c_terms_isTail _ hl
  simp [callFnW, ir_terms_isReserved, e1, resS]
  repeat' (first | (split <;> (try simp only [opT_go, opF_go, cdT_go, qT_go, qN_go]) <;> (try simp [*])) | (simp only [opT_go, opF_go, cdT_go, qT_go, qN_go] <;> (try simp [*])) | omega)
@[simp] theorem c_terms_isPlain (l : List UInt8) (s : St) (cx : Ctx) : acallW P0 (.fn (.func F_terms_isPlain) [] []) [.s l] s cx = .ret (.b (plainS l)) s := by
 refine go_terms_isPlain (by simp) ?_
 by_cases hl : l.length ≤ 24
 ·have hn : ¬ ((24 : Int) < l.length) := by omega
  cases hc : cutB 58 l with
  | none =>
   have hcut := c_strings_Cut l 58 (by omega)
   rw [hc] at hcut
   simp only [] at hcut
   have e1 := c_terms_isWord l (by omega)
   simp [callFnW, ir_terms_isPlain, hcut, hn, e1, plainS, hc, hl]
   repeat' (first | (split <;> (try simp only [opT_go, opF_go, cdT_go, qT_go, qN_go]) <;> (try simp [*])) | (simp only [opT_go, opF_go, cdT_go, qT_go, qN_go] <;> (try simp [*])) | omega)
  | some p =>
   obtain ⟨x, y⟩ := p
   have hcut := c_strings_Cut l 58 (by omega)
   rw [hc] at hcut
   simp only [] at hcut
   have := cutB_len hc
   have hx : x.length ≤ 1152921504606846976 := by have := congrArg List.length this; simp at this; omega
   have hy : y.length ≤ 1152921504606846976 := by have := congrArg List.length this; simp at this; omega
   clear this
   have e1 := c_terms_isWord x hx
   have e2 := c_terms_isWord y hy
   simp [callFnW, ir_terms_isPlain, hcut, hn, e1, e2, plainS, hc, hl]
   repeat' (first | (split <;> (try simp only [opT_go, opF_go, cdT_go, qT_go, qN_go]) <;> (try simp [*])) | (simp only [opT_go, opF_go, cdT_go, qT_go, qN_go] <;> (try simp [*])) | omega)
 ·have hn : (24 : Int) < l.length := by omega
  simp [callFnW, ir_terms_isPlain, hn, plainS, hl]
end Go.Ai.Z
namespace Go.Ai.Z
def shapeS (c : C) : Bool :=
 let plain := decide (c.lo = 0) && decide (c.hi = 0)
 if c.kind = 1 then plain && decide (c.name = []) && decide ((c.parts.length : Int) = 0)
 else if c.kind = 2 then plain && decide (c.name = []) && decide ((c.parts.length : Int) = 0)
 else if c.kind = 3 then plain && decide ((c.parts.length : Int) = 0)
 else if c.kind = 4 then plain && decide ((c.parts.length : Int) = 0)
 else if c.kind = 5 then plain && decide (c.name = []) && decide ((2 : Int) ≤ c.parts.length) && decide ((c.parts.length : Int) ≤ 8)
 else if c.kind = 6 then plain && decide ((c.parts.length : Int) = 1)
 else if c.kind = 7 then decide ((c.parts.length : Int) = 0) && decide (-1099511627776 ≤ c.lo) && decide (c.lo ≤ c.hi) && decide (c.hi ≤ 1099511627776)
 else false
def namedS (c : C) : Bool :=
 if c.kind = 3 then plainS c.name
 else if c.kind = 6 then plainS c.name
 else if c.kind = 7 then plainS c.name
 else if c.kind = 4 then plainS c.name || resS c.name
 else true
mutual
def walkS : C → Int
 | .mk k n l h z ps => if shapeS (.mk k n l h z ps) = false then 21 else if namedS (.mk k n l h z ps) = false then 20 else walkSL ps
def walkSL : List C → Int
 | [] => 0
 | p :: r => if walkS p = 0 then walkSL r else walkS p
end
theorem walkS_eq (c : C) : walkS c = if shapeS c = false then 21 else if namedS c = false then 20 else walkSL c.parts := by cases c; simp [walkS]
def checkS (c : C) : Int := if 8 < depthC c ∨ 64 < sizeC c then 21 else walkS c
end Go.Ai.Z
