/-
 Texts of concepts.
-/
import Derived.Test.YtpnlnnfcaeednaaGreatDoorAiK4
import Derived.KernelRfl
set_option maxRecDepth 100000
set_option linter.unusedSimpArgs false
set_option linter.unusedVariables false
set_option linter.unusedSectionVars false
namespace Go.Ai.Z
open Go.Lib (itoa decDigits)
theorem dec_small {u : Nat} (h : u < 10) : decDigits u = [UInt8.ofNat (48 + u)] := by rw [decDigits, dif_pos h]
theorem dec_big {u : Nat} (h : ¬ u < 10) : decDigits u = decDigits (u / 10) ++ [UInt8.ofNat (48 + u % 10)] := by rw [decDigits, dif_neg h]
def andB : List UInt8 := [32, 97, 110, 100, 32]
mutual
def textS : C → List UInt8
 | .mk k n lo hi _ ps =>
  if k = 1 then [101, 118, 101, 114, 121, 116, 104, 105, 110, 103]
  else if k = 2 then [110, 111, 116, 104, 105, 110, 103]
  else if k = 3 then n
  else if k = 4 then 123 :: (n ++ [125])
  else if k = 7 then n ++ [32, 105, 110, 32] ++ itoa lo ++ [32, 116, 111, 32] ++ itoa hi
  else if k = 6 then [115, 111, 109, 101, 32] ++ n ++ [32] ++ (opsS ps).headD []
  else joinL andB (opsS ps)
def opsS : List C → List (List UInt8)
 | [] => []
 | .mk k n lo hi z ps :: r => (if k = 5 then 40 :: (textS (.mk k n lo hi z ps) ++ [41]) else textS (.mk k n lo hi z ps)) :: opsS r
end
def opS (c : C) : List UInt8 := if c.kind = 5 then 40 :: (textS c ++ [41]) else textS c
theorem opsS_eq : ∀ l : List C, opsS l = l.map opS
 | [] => by simp [opsS]
 | .mk k n lo hi z ps :: r => by simp [opsS, opS, opsS_eq r]; rfl
theorem textS_eq (c : C) : textS c = if c.kind = 1 then [101, 118, 101, 114, 121, 116, 104, 105, 110, 103]
  else if c.kind = 2 then [110, 111, 116, 104, 105, 110, 103]
  else if c.kind = 3 then c.name
  else if c.kind = 4 then 123 :: (c.name ++ [125])
  else if c.kind = 7 then c.name ++ [32, 105, 110, 32] ++ itoa c.lo ++ [32, 116, 111, 32] ++ itoa c.hi
  else if c.kind = 6 then [115, 111, 109, 101, 32] ++ c.name ++ [32] ++ (c.parts.map opS).headD []
  else joinL andB (c.parts.map opS) := by cases c; simp [textS, opsS_eq]
theorem walk_ok {c : C} (h : walkS c = 0) : shapeS c = true ∧ namedS c = true ∧ ∀ p ∈ c.parts, walkS p = 0 := by
 rw [walkS_eq] at h
 by_cases h1 : shapeS c = true
 ·by_cases h2 : namedS c = true
  ·simp [h1, h2] at h
   refine ⟨h1, h2, ?_⟩
   generalize c.parts = l at h
   induction l with
   | nil => intro p hp; cases hp
   | cons a r ih =>
    simp only [walkSL] at h
    intro p hp
    by_cases h0 : walkS a = 0
    ·rw [if_pos h0] at h
     rcases List.mem_cons.1 hp with rfl | hp
     ·exact h0
     ·exact ih h p hp
    ·rw [if_neg h0] at h; exact absurd h h0
  ·simp [h1, h2] at h
 ·simp [h1] at h
theorem shape_kind {c : C} (h : shapeS c = true) : c.kind = 1 ∨ c.kind = 2 ∨ c.kind = 3 ∨ c.kind = 4 ∨ c.kind = 7 ∧ -1099511627776 ≤ c.lo ∧ c.lo ≤ c.hi ∧ c.hi ≤ 1099511627776 ∨ c.kind = 6 ∧ c.parts.length = 1 ∨ c.kind = 5 ∧ 2 ≤ c.parts.length := by
 unfold shapeS at h
 by_cases k1 : c.kind = 1
 ·exact .inl k1
 by_cases k2 : c.kind = 2
 ·exact .inr (.inl k2)
 by_cases k3 : c.kind = 3
 ·exact .inr (.inr (.inl k3))
 by_cases k4 : c.kind = 4
 ·exact .inr (.inr (.inr (.inl k4)))
 by_cases k5 : c.kind = 5
 ·simp [k5] at h; exact .inr (.inr (.inr (.inr (.inr (.inr ⟨k5, by omega⟩)))))
 by_cases k6 : c.kind = 6
 ·simp [k6] at h; exact .inr (.inr (.inr (.inr (.inr (.inl ⟨k6, by omega⟩)))))
 by_cases k7 : c.kind = 7
 ·simp [k7] at h; exact .inr (.inr (.inr (.inr (.inl ⟨k7, by omega, by omega, by omega⟩))))
 ·simp [k1, k2, k3, k4, k5, k6, k7] at h
theorem join_len (l : List (List UInt8)) (sep : List UInt8) : (joinL sep l).length ≤ (l.map fun x => x.length + sep.length).sum := by
 cases l with
 | nil => simp [joinL]
 | cons x r =>
  simp only [joinL, List.length_append, List.length_flatMap, List.map_cons, List.sum_cons]
  have : (r.map fun y => sep.length + y.length) = r.map fun x => x.length + sep.length := by
   apply List.map_congr_left; intro y _; omega
  rw [this]; omega
theorem text_len : ∀ (c : C), walkS c = 0 → (textS c).length + 10 ≤ 110 * wC c := by
 refine C.ind' fun c ih hv => ?_
 obtain ⟨v1, v2, v3⟩ := walk_ok hv
 have hw := wC_eq c
 have hq : c.name.length ≤ 40 * (c.name.length / 40) + 39 := by omega
 have hop : ∀ p ∈ c.parts, (opS p).length + 8 ≤ 110 * wC p := by
  intro p hp
  have := ih p hp (v3 p hp)
  unfold opS
  split <;> simp <;> omega
 have hsum : ((c.parts.map opS).map fun x => x.length + andB.length).sum ≤ 110 * wL c.parts := by
  clear ih v3 hw
  generalize c.parts = l at hop
  induction l with
  | nil => simp [wL]
  | cons a r ih =>
   have h1 := hop a (by simp)
   have h2 := ih (fun p hp => hop p (by simp [hp]))
   simp [wL, andB] at h2 ⊢
   omega
 rw [textS_eq]
 rcases shape_kind v1 with k | k | k | k | ⟨k, k1, k2, k3⟩ | ⟨k, k1⟩ | ⟨k, k1⟩
 ·simp [k]; omega
 ·simp [k]; omega
 ·simp [k]; omega
 ·simp [k]; omega
 ·have l1 := Go.Lib.itoa_length_le c.lo (by omega) (by omega)
  have l2 := Go.Lib.itoa_length_le c.hi (by omega) (by omega)
  simp [k]; omega
 ·simp [k]
  rcases hps : c.parts with _ | ⟨a, r⟩
  ·simp [hps] at k1
  ·have := hop a (by simp [hps])
   rw [hps] at hw
   simp only [wL] at hw
   simp; omega
 ·simp [k]
  have := join_len (c.parts.map opS) andB
  omega
end Go.Ai.Z
namespace Go.Ai.Z
open Go.Lib (itoa)
theorem kd {x j : Int} (k : x = j) : decide (x = j) = true := by simp [k]
theorem kn {x j : Int} (i : Int) (k : x = j) (h : decide (j = i) = false) : decide (x = i) = false := by rw [k]; exact h
theorem op_len {p : C} (h : walkS p = 0) : (opS p).length + 8 ≤ 110 * wC p := by
 have := text_len p h
 unfold opS; split <;> simp <;> omega
end Go.Ai.Z
namespace Go.Ai.Z
open Go.Lib (itoa)
def fnv (f : Nat) : AV := .fn (.func f) [] []
def PV : AV := .ag [.im [(.i .i64 1, fnv F_printer_printer_top), (.i .i64 2, fnv F_printer_printer_bottom), (.i .i64 3, fnv F_printer_printer_named), (.i .i64 4, fnv F_printer_printer_nominal), (.i .i64 5, fnv F_printer_printer_and), (.i .i64 6, fnv F_printer_printer_some), (.i .i64 7, fnv F_printer_printer_span)],
 .im [(.i .i64 1, fnv F_printer_printer_sub), (.i .i64 2, fnv F_printer_printer_same), (.i .i64 3, fnv F_printer_printer_disjoint), (.i .i64 4, fnv F_printer_printer_domain), (.i .i64 5, fnv F_printer_printer_role), (.i .i64 6, fnv F_printer_printer_chain), (.i .i64 7, fnv F_printer_printer_reflexive), (.i .i64 8, fnv F_printer_printer_typing), (.i .i64 9, fnv F_printer_printer_link)]]
attribute [local simp] find keyEq keyK
@[simp] theorem c_printer_newPrinter (s : St) (cx : Ctx) : acallW P0 (.fn (.func F_printer_newPrinter) [] []) [] s cx = .ret PV s := by
 refine go_printer_newPrinter (by simp) ?_
 simp [callFnW, ir_printer_newPrinter, fillC, PV, fnv]
def pvCs : List AV := match PV with | .ag cs => cs | _ => []
@[simp] theorem plain_PV : PV.plain = PV := rfl
@[simp] theorem cells_PV : PV.cells = pvCs := rfl
@[simp] theorem one_PV : pvCs.all AV.one = true := rfl
@[simp] theorem len_PV : pvCs.length = 2 := rfl
@[simp] theorem take_PV : pvCs.take 2 = pvCs := rfl
@[simp] theorem fold_PV : AV.ag pvCs = PV := rfl
theorem get_PV : pvCs[0]? = some (.im [(.i .i64 1, fnv F_printer_printer_top), (.i .i64 2, fnv F_printer_printer_bottom), (.i .i64 3, fnv F_printer_printer_named), (.i .i64 4, fnv F_printer_printer_nominal), (.i .i64 5, fnv F_printer_printer_and), (.i .i64 6, fnv F_printer_printer_some), (.i .i64 7, fnv F_printer_printer_span)]) := rfl
theorem strs' (l : List (List UInt8)) : l.mapM (strOf ∘ AV.s) = some l := by
 induction l with
 | nil => rfl
 | cons a r ih => simp [strOf, ih]
theorem c_strings_Join (l : List (List UInt8)) (sep : List UInt8) (h : (joinL sep l).length ≤ 1048576) (h' : l.length ≤ 1048576) (s : St) (cx : Ctx) : acallW P0 (.fn (.func F_strings_Join) [] []) [.sl (l.map .s), .s sep] s cx = .ret (.s (joinL sep l)) s :=
 acallW_intrS (h := pureI iJoin) rfl (by simp [iJoin, strs', h, h'])
theorem c_strconv_Itoa (n : Int) (h : -9223372036854775808 ≤ n) (h' : n ≤ 9223372036854775807) (s : St) (cx : Ctx) : acallW P0 (.fn (.func F_strconv_Itoa) [] []) [.i .i64 n] s cx = .ret (.s (itoa n)) s :=
 acallW_intrS (h := pureI iItoa) rfl (by simp [iItoa, h, h'])
theorem c_printer_words (l : List (List UInt8)) (h : (joinL [32] l).length ≤ 1048576) (h' : l.length ≤ 1048576) (s : St) (cx : Ctx) : acallW P0 (.fn (.func F_printer_words) [] []) [.sl (l.map .s)] s cx = .ret (.s (joinL [32] l)) s := by
 refine go_printer_words (by simp) ?_
 have e1 := c_strings_Join l [32] h h'
 simp [callFnW, ir_printer_words, e1]
@[simp] theorem c_printer_top (c : C) (s : St) (cx : Ctx) : acallW P0 (.fn (.func F_printer_printer_top) [] []) [PV, encC c] s cx = .ret (.s [101, 118, 101, 114, 121, 116, 104, 105, 110, 103]) s := by
 refine go_printer_printer_top (by simp) ?_
 simp [callFnW, ir_printer_printer_top]
@[simp] theorem c_printer_bottom (c : C) (s : St) (cx : Ctx) : acallW P0 (.fn (.func F_printer_printer_bottom) [] []) [PV, encC c] s cx = .ret (.s [110, 111, 116, 104, 105, 110, 103]) s := by
 refine go_printer_printer_bottom (by simp) ?_
 simp [callFnW, ir_printer_printer_bottom]
@[simp] theorem c_printer_named (c : C) (s : St) (cx : Ctx) : acallW P0 (.fn (.func F_printer_printer_named) [] []) [PV, encC c] s cx = .ret (.s c.name) s := by
 refine go_printer_printer_named (by simp) ?_
 simp [callFnW, ir_printer_printer_named]
theorem c_printer_nominal (c : C) (h : c.name.length ≤ 1000000) (s : St) (cx : Ctx) : acallW P0 (.fn (.func F_printer_printer_nominal) [] []) [PV, encC c] s cx = .ret (.s (123 :: (c.name ++ [125]))) s := by
 refine go_printer_printer_nominal (by simp) ?_
 simp [callFnW, ir_printer_printer_nominal]
 repeat' (first | (split <;> (try simp only [opT_go, opF_go, cdT_go, qT_go, qN_go]) <;> (try simp [*])) | (simp only [opT_go, opF_go, cdT_go, qT_go, qN_go] <;> (try simp [*])) | omega)
theorem c_printer_span (c : C) (h : c.name.length ≤ 1000000) (h1 : -1099511627776 ≤ c.lo) (h2 : c.lo ≤ c.hi) (h3 : c.hi ≤ 1099511627776) (s : St) (cx : Ctx) :
  acallW P0 (.fn (.func F_printer_printer_span) [] []) [PV, encC c] s cx = .ret (.s (c.name ++ [32, 105, 110, 32] ++ itoa c.lo ++ [32, 116, 111, 32] ++ itoa c.hi)) s := by
 refine go_printer_printer_span (by simp) ?_
 have l1 := Go.Lib.itoa_length_le c.lo (by omega) (by omega)
 have l2 := Go.Lib.itoa_length_le c.hi (by omega) (by omega)
 have e1 := c_strconv_Itoa c.lo (by omega) (by omega)
 have e2 := c_strconv_Itoa c.hi (by omega) (by omega)
 have e3 := c_printer_words [c.name, [105, 110], itoa c.lo, [116, 111], itoa c.hi] (by simp [joinL]; omega) (by simp)
 simp at e3
 simp [callFnW, ir_printer_printer_span, e1, e2, e3, joinL, List.range_succ]
theorem c_printer_operand_of (c : C) (hl : (textS c).length ≤ 1000000) (hT : ∀ (s : St) (cx : Ctx), acallW P0 (.fn (.func F_printer_printer_text) [] []) [PV, encC c] s cx = .ret (.s (textS c)) s) (s : St) (cx : Ctx) :
  acallW P0 (.fn (.func F_printer_printer_operand) [] []) [PV, encC c] s cx = .ret (.s (opS c)) s := by
 refine go_printer_printer_operand (by simp) ?_
 have l1 : (textS c).length + 1 ≤ 4611686018427387904 := by omega
 have l2 : (textS c).length + 1 + 1 ≤ 4611686018427387904 := by omega
 unfold opS
 by_cases h5 : c.kind = 5
 ·rw [if_pos h5]; simp [callFnW, ir_printer_printer_operand, hT, kd h5, l1, l2]
 ·rw [if_neg h5]; simp [callFnW, ir_printer_printer_operand, hT, h5]
theorem c_printer_some_of (c a : C) (hps : c.parts = [a]) (hl : c.name.length + (opS a).length ≤ 1000000) (hO : ∀ (s : St) (cx : Ctx), acallW P0 (.fn (.func F_printer_printer_operand) [] []) [PV, encC a] s cx = .ret (.s (opS a)) s) (s : St) (cx : Ctx) :
  acallW P0 (.fn (.func F_printer_printer_some) [] []) [PV, encC c] s cx = .ret (.s ([115, 111, 109, 101, 32] ++ c.name ++ [32] ++ opS a)) s := by
 refine go_printer_printer_some (by simp) ?_
 have e3 := c_printer_words [[115, 111, 109, 101], c.name, opS a] (by simp [joinL]; omega) (by simp)
 simp at e3
 simp [callFnW, ir_printer_printer_some, hO, e3, joinL, hps, List.range_succ]
theorem l_printer_and (s : St) (cx : Ctx) (c : C) (hps : c.parts.length ≤ 100000)
  (ih : ∀ p ∈ c.parts, ∀ (s : St) (cx : Ctx), acallW P0 (.fn (.func F_printer_printer_operand) [] []) [PV, encC p] s cx = .ret (.s (opS p)) s) :
  ∀ (rest : List C) (i : Nat) (t : List (List UInt8)), c.parts.drop i = rest → t.length = i →
  ∃ j : Int, loopW (acodeW P0.glob (acallW P0) cx false ir_printer_printer_and_L0) [2, 5, 9, 10, 11] [(2, .bx pvCs), (5, .own false T_string_0 1 (t.map .s)), (9, .v (slf c.z (c.parts.map encC))), (10, .v (.i .i64 c.parts.length)), (11, .v (.i .i64 i))] s =
   .exit 0 [(2, .bx pvCs), (5, .own false T_string_0 1 ((t ++ rest.map opS).map .s)), (9, .v (slf c.z (c.parts.map encC))), (10, .v (.i .i64 c.parts.length)), (11, .v (.i .i64 j)), (12, .v (.b false))] s
 | [], i, t, h, ht => by
  have h1 : ¬ i < c.parts.length := Nat.not_lt.2 (drop_nil h)
  refine ⟨i, loop_step fun K hK => ?_⟩
  simp [ir_printer_printer_and_L0, h1]
 | p :: r, i, t, h, ht => by
  obtain ⟨h1, h2, h3, h4⟩ := drop_cons h
  have h5 := h4 h3
  have hp : p ∈ c.parts := by rw [← h5]; exact List.getElem_mem h3
  have hwi := wI (i := i) (by omega)
  obtain ⟨j, ih2⟩ := l_printer_and s cx c hps ih r (i + 1) (t ++ [opS p]) h2 (by simp [ht])
  refine ⟨j, loop_step fun K hK => ?_⟩
  rw [← hK] at ih2
  have e1 := ih p hp
  clear hK h4 ih
  simp at ih2
  have hm : t.length + 1 ≤ maxSl := by unfold maxSl; omega
  simp [ir_printer_printer_and_L0, h3, h5, hwi, e1, hm, ih2, List.range_succ]
theorem c_printer_and_of (c : C) (hps : c.parts.length ≤ 100000) (hj : (joinL andB (c.parts.map opS)).length ≤ 1048576)
  (hO : ∀ p ∈ c.parts, ∀ (s : St) (cx : Ctx), acallW P0 (.fn (.func F_printer_printer_operand) [] []) [PV, encC p] s cx = .ret (.s (opS p)) s) (s : St) (cx : Ctx) :
  acallW P0 (.fn (.func F_printer_printer_and) [] []) [PV, encC c] s cx = .ret (.s (joinL andB (c.parts.map opS))) s := by
 refine go_printer_printer_and (by simp) ?_
 obtain ⟨j, h⟩ := l_printer_and s ⟨s.length, s.length⟩ c hps hO c.parts 0 [] rfl rfl
 have e1 := c_strings_Join (c.parts.map opS) andB hj (by simp; omega)
 simp [andB] at h e1
 simp [callFnW, ir_printer_printer_and, h, e1, andB]
theorem c_printer_text : ∀ (c : C), wC c ≤ 1000 → walkS c = 0 → ∀ (s : St) (cx : Ctx), acallW P0 (.fn (.func F_printer_printer_text) [] []) [PV, encC c] s cx = .ret (.s (textS c)) s := by
 refine C.ind' fun c ih hw hv s cx => ?_
 obtain ⟨v1, v2, v3⟩ := walk_ok hv
 have hw' := hw
 rw [wC_eq] at hw'
 have hO : ∀ p ∈ c.parts, ∀ (s : St) (cx : Ctx), acallW P0 (.fn (.func F_printer_printer_operand) [] []) [PV, encC p] s cx = .ret (.s (opS p)) s := fun p hp =>
  c_printer_operand_of p (by have := text_len p (v3 p hp); have := wL_mem hp; omega) (ih p hp (by have := wL_mem hp; omega) (v3 p hp))
 have hl : ∀ p ∈ c.parts, (opS p).length + 8 ≤ 110 * wC p := fun p hp => op_len (v3 p hp)
 have hlen := wL_len c.parts
 have htl := text_len c hv
 clear ih
 refine go_printer_printer_text (by simp) ?_
 rcases shape_kind v1 with k | k | k | k | ⟨k, k1, k2, k3⟩ | ⟨k, k1⟩ | ⟨k, k1⟩
 ·rw [show textS c = _ from by rw [textS_eq, if_pos k]]
  simp [callFnW, ir_printer_printer_text, get_PV, kd k, fnv]
 ·rw [show textS c = _ from by rw [textS_eq, if_neg (by omega), if_pos k]]
  simp [callFnW, ir_printer_printer_text, get_PV, kd k, kn 1 k rfl, fnv]
 ·rw [show textS c = _ from by rw [textS_eq, if_neg (by omega), if_neg (by omega), if_pos k]]
  simp [callFnW, ir_printer_printer_text, get_PV, kd k, kn 1 k rfl, kn 2 k rfl, fnv]
 ·rw [show textS c = _ from by rw [textS_eq, if_neg (by omega), if_neg (by omega), if_neg (by omega), if_pos k]]
  have e1 := c_printer_nominal c (by omega)
  simp [callFnW, ir_printer_printer_text, get_PV, kd k, kn 1 k rfl, kn 2 k rfl, kn 3 k rfl, fnv, e1]
 ·rw [show textS c = _ from by rw [textS_eq, if_neg (by omega), if_neg (by omega), if_neg (by omega), if_neg (by omega), if_pos k]]
  have e1 := c_printer_span c (by omega) k1 k2 k3
  simp at e1
  simp [callFnW, ir_printer_printer_text, get_PV, kd k, kn 1 k rfl, kn 2 k rfl, kn 3 k rfl, kn 4 k rfl, kn 5 k rfl, kn 6 k rfl, fnv, e1]
 ·rcases hps : c.parts with _ | ⟨a, _ | ⟨b, r⟩⟩
  ·simp [hps] at k1
  ·have l1 := hl a (by simp [hps])
   have l2 := wL_mem (p := a) (l := c.parts) (by simp [hps])
   have e1 := c_printer_some_of c a hps (by omega) (hO a (by simp [hps]))
   rw [show textS c = _ from by rw [textS_eq, if_neg (by omega), if_neg (by omega), if_neg (by omega), if_neg (by omega), if_neg (by omega), if_pos k]]
   simp at e1
   rw [show (c.parts.map opS).headD [] = opS a from by rw [hps]; rfl]
   clear hps
   simp [callFnW, ir_printer_printer_text, get_PV, kd k, kn 1 k rfl, kn 2 k rfl, kn 3 k rfl, kn 4 k rfl, kn 5 k rfl, fnv, e1]
  ·simp [hps] at k1
 ·have ht : textS c = joinL andB (c.parts.map opS) := by rw [textS_eq, if_neg (by omega), if_neg (by omega), if_neg (by omega), if_neg (by omega), if_neg (by omega), if_neg (by omega)]
  have e1 := c_printer_and_of c (by omega) (by rw [← ht]; omega) hO
  rw [ht]
  simp [callFnW, ir_printer_printer_text, get_PV, kd k, kn 1 k rfl, kn 2 k rfl, kn 3 k rfl, kn 4 k rfl, fnv, e1]
theorem sane_n : acall P0 200 (.fn (.func F_law04_sane) [] []) [] [] ⟨0, 0⟩ = .ret (.b true) [] := by
 kernel_rfl
end Go.Ai.Z
