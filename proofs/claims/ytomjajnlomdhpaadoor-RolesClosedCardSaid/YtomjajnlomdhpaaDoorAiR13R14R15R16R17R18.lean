/-
 roles.newGrammar: its loops.
-/
import Derived.Test.YtomjajnlomdhpaaDoorAiR9R10R11R12
set_option maxRecDepth 100000
set_option linter.unusedSimpArgs false
set_option linter.unusedVariables false
namespace Go.Ai.Z
def newL1 : ACode :=
 (.seq (.seq (.region [⟨(some 52), none, .mov (.t 7)⟩,
  ⟨(some 53), none, .fld 12 (.t 6)⟩,
  ⟨(some 54), none, .load none (.t 53)⟩,
  ⟨(some 55), none, .len 0 (.t 54)⟩,
  ⟨(some 56), none, .bin .lss (.t 52) (.t 55)⟩] none [2, 3, 4, 6, 7, 14, 15, 16, 56])
 (.cond (.t 56)
  .skip
  (.exit 3)))
 (.seq (.block 4
  (.seq (.region [⟨(some 59), none, .fld 12 (.t 6)⟩,
  ⟨(some 60), none, .load none (.t 59)⟩,
  ⟨(some 61), none, .mov (.t 7)⟩,
  ⟨(some 62), none, .slc 1 (.t 60) none (some (.t 61))⟩,
  ⟨(some 63), none, .call (.c (.fn (.func F_strings_Join) [] [])) [(.t 62), (.c (.s [46]))]⟩,
  ⟨(some 64), none, .fld 12 (.t 6)⟩,
  ⟨(some 65), none, .load none (.t 64)⟩,
  ⟨(some 66), none, .mov (.t 7)⟩,
  ⟨(some 67), none, .idx 1 (.t 65) (.t 66)⟩,
  ⟨(some 68), none, .load none (.t 67)⟩,
  ⟨(some 69), none, .fld 12 (.t 6)⟩,
  ⟨(some 70), none, .load none (.t 69)⟩,
  ⟨(some 71), none, .mov (.t 7)⟩,
  ⟨(some 72), none, .bin .add (.t 71) (.c (.i .i64 1))⟩,
  ⟨(some 73), none, .slc 1 (.t 70) none (some (.t 72))⟩,
  ⟨(some 74), none, .call (.c (.fn (.func F_strings_Join) [] [])) [(.t 73), (.c (.s [46]))]⟩,
  ⟨(some 75), none, .build [(.s []), (.s []), (.s [])] [(0, 1, (.t 63)), (1, 1, (.t 68)), (2, 1, (.t 74))]⟩,
  ⟨(some 8), none, .lallocp 8 [(.s []), (.s []), (.s [])]⟩,
  ⟨none, none, .store 3 (.t 8) (.t 75)⟩] (some ([0, 1, 2, 3, 4, 5, 6, 7, 8, 9, 10, 11, 12, 13, 14, 15, 16, 17, 18], [])) [2, 3, 4, 6, 7, 8, 14, 15, 16])
 (.seq (.seq (.region [⟨(some 76), none, .mov (.t 7)⟩,
  ⟨(some 77), none, .fld 12 (.t 6)⟩,
  ⟨(some 78), none, .load none (.t 77)⟩,
  ⟨(some 79), none, .len 0 (.t 78)⟩,
  ⟨(some 80), none, .bin .sub (.t 79) (.c (.i .i64 1))⟩,
  ⟨(some 81), none, .bin .eql (.t 76) (.t 80)⟩] none [2, 3, 4, 6, 7, 8, 14, 15, 16, 81])
 (.cond (.t 81)
  (.region [⟨(some 82), none, .fld 13 (.t 6)⟩,
   ⟨(some 83), none, .load none (.t 82)⟩,
   ⟨(some 84), none, .fld 2 (.t 8)⟩,
   ⟨none, none, .store 1 (.t 84) (.t 83)⟩] none [2, 3, 4, 6, 7, 8, 14, 15, 16])
  .skip))
 (.seq (.region [⟨(some 85), none, .mov (.t 4)⟩,
  ⟨(some 86), none, .load (some 3) (.t 8)⟩,
  ⟨(some 87), none, .look 6 (.b false) false (.t 85) (.t 86)⟩,
  ⟨(some 88), none, .un .not (.t 87)⟩] none [2, 3, 4, 6, 7, 8, 14, 15, 16, 88])
 (.cond (.t 88)
  (.seq (.region [⟨(some 89), none, .mov (.t 4)⟩,
   ⟨(some 90), none, .load (some 3) (.t 8)⟩,
   ⟨none, none, .hins 6 (.t 89) (.t 90) (.c (.b true))⟩] none [2, 3, 4, 6, 7, 8, 14, 15, 16])
  (.seq newGA
  newGB))
  .skip)))))
 (.region [⟨(some 57), none, .mov (.t 7)⟩,
  ⟨(some 58), none, .bin .add (.t 57) (.c (.i .i64 1))⟩,
  ⟨(some 7), none, .asg (.t 58)⟩] none [2, 3, 4, 6, 7, 14, 15, 16])))
theorem newL1_eq : ir_roles_newGrammar_L1 = newL1 := rfl
def newL0 : ACode :=
 (.seq (.region [⟨(some 17), none, .bin .lss (.t 16) (.t 15)⟩] none [2, 3, 4, 14, 15, 16, 17])
 (.seq (.cond (.t 17)
  .skip
  (.exit 0))
 (.seq (.block 1
  (.seq (.region [⟨(some 18), none, .idx 16 (.t 14) (.t 16)⟩,
  ⟨(some 19), none, .load (some 16) (.t 18)⟩,
  ⟨(some 6), none, .lalloc [(.i .i64 0), (.b false), (.i .i64 0), (.s []), (.i .i64 0), (.i .i64 0), .ns, (.i .i64 0), (.s []), (.i .i64 0), (.i .i64 0), .ns, .ns, (.s []), (.s []), (.s [])]⟩,
  ⟨none, none, .store 16 (.t 6) (.t 19)⟩] none [2, 3, 4, 6, 14, 15, 16])
 (.seq (.region [⟨(some 20), none, .fld 0 (.t 6)⟩,
  ⟨(some 21), none, .load none (.t 20)⟩] none [2, 3, 4, 6, 14, 15, 16, 21])
 (.block 2
  (.seq (.region [⟨(some 23), none, .bin .eql (.t 21) (.c (.i .i64 5))⟩,
   ⟨(some 22), none, .asg (.t 23)⟩] none [2, 3, 4, 6, 14, 15, 16, 21, 22])
  (.cond (.t 22)
   newGU
   (.seq (.region [⟨(some 42), none, .bin .eql (.t 21) (.c (.i .i64 7))⟩,
   ⟨(some 41), none, .asg (.t 42)⟩] none [2, 3, 4, 6, 14, 15, 16, 21, 41])
  (.cond (.t 41)
   newGR
   (.seq (.region [⟨(some 51), none, .bin .eql (.t 21) (.c (.i .i64 6))⟩,
    ⟨(some 50), none, .asg (.t 51)⟩] none [2, 3, 4, 6, 14, 15, 16, 50])
   (.cond (.t 50)
    (.seq (.region [⟨(some 7), none, .asg (.c (.i .i64 1))⟩] none [2, 3, 4, 6, 7, 14, 15, 16])
    (.block 3
     (.loop [2, 3, 4, 6, 7, 14, 15, 16] ir_roles_newGrammar_L1)))
    .skip))))))))))
 (.region [⟨(some 115), none, .bin .add (.t 16) (.c (.i .i64 1))⟩,
  ⟨(some 16), none, .mov (.t 115)⟩] none [2, 3, 4, 14, 15, 16]))))
theorem newL0_eq : ir_roles_newGrammar_L0 = newL0 := rfl
@[simp] theorem gheap_3 (s : St) (R : RT) (S : List Rul) : (gHeap s R S)[s.length + 3]? = some (.map (seenM S)) := st4_3
theorem gheap_seen (s : St) (R : RT) (S S' : List Rul) : (gHeap s R S).set (s.length + 3) (.map (seenM S')) = gHeap s R S' := st4_s3
theorem few4_rule {n : Nat} {p : Rul} {st : RT × List Rul} (h : Few4 n st.1) : Few4 (n + 2) (addRule st p).1 := by
 unfold addRule
 split
 ·exact fun q hq => ⟨by have := (h q hq).1; omega, (h q hq).2⟩
 ·exact few4_add (by simp) (few4_add (by simp) h)
theorem cell_rule {b : Nat} {p : Rul} {st : RT × List Rul} {x : List UInt8} : cellT 3 b (addRule st p).1 x = cellT 3 b st.1 x := by
 unfold addRule
 split
 ·rfl
 ·rw [cellT_add_ne (by decide), cellT_add_ne (by decide)]
theorem l_newG1 (s : St) (cx : Ctx) (hcx : cx.lim ≤ s.length ∧ cx.base ≤ s.length) (x : Ax) (hf : x.Few) (h4 : x.roles.length ≤ 4) (rv : AV) (cs : List AV) (h12 : cs[12]? = some (.sl (x.roles.map .s))) (h13 : cs[13]? = some (.s x.role)) (a14 : AV) (i1 i2 : Int) (b2 : List AV) :
  ∀ (n m B : Nat) (R : RT) (S : List Rul), m + n = x.roles.length → 1 ≤ m → Few4 B R → B + 2 * n ≤ 90000 →
  ∃ j : Int, loopW (acodeW P0.glob (acallW P0) cx false ir_roles_newGrammar_L1) [2, 3, 4, 6, 7, 14, 15, 16]
   [(2, .bx b2), (3, .bx [.mp s.length, .mp (s.length + 1), .mp (s.length + 2), rv]), (4, .v (.mp (s.length + 3))), (6, .bx cs), (7, .v (.i .i64 m)), (14, .v a14), (15, .v (.i .i64 i1)), (16, .v (.i .i64 i2))] (gHeap s R S) =
   .exit 3 [(2, .bx b2), (3, .bx [.mp s.length, .mp (s.length + 1), .mp (s.length + 2), rv]), (4, .v (.mp (s.length + 3))), (6, .bx cs), (7, .v (.i .i64 j)), (14, .v a14), (15, .v (.i .i64 i1)), (16, .v (.i .i64 i2)), (56, .v (.b false))]
    (gHeap s (((List.range' m n).map (ruleAt x)).foldl addRule (R, S)).1 (((List.range' m n).map (ruleAt x)).foldl addRule (R, S)).2)
 | 0, m, B, R, S, h, h1, hR, hB => by
  have h2 : ¬ m < x.roles.length := by omega
  refine ⟨m, loop_step fun K hK => ?_⟩
  simp [newL1_eq, newL1, h12, h2]
 | n + 1, m, B, R, S, h, h1, hR, hB => by
  have h2 : m < x.roles.length := by omega
  have hwi := wI (i := m) (by omega)
  have hsec : x.roles.getD m [] = x.roles[m] := by simp [List.getD, List.getElem?_eq_getElem h2]
  have e1 := c_join46 (x.roles.take m) (by simp; omega) fun r hr => hf.rs r (List.mem_of_mem_take hr)
  have e2 := c_join46 (x.roles.take (m + 1)) (by simp; omega) fun r hr => hf.rs r (List.mem_of_mem_take hr)
  obtain ⟨j, ih⟩ := l_newG1 s cx hcx x hf h4 rv cs h12 h13 a14 i1 i2 b2 n (m + 1) (B + 2) (addRule (R, S) (ruleAt x m)).1 (addRule (R, S) (ruleAt x m)).2 (by omega) (by omega) (few4_rule hR) (by omega)
  have hfold : (((List.range' m (n + 1)).map (ruleAt x)).foldl addRule (R, S)) = (((List.range' (m + 1) n).map (ruleAt x)).foldl addRule ((addRule (R, S) (ruleAt x m)).1, (addRule (R, S) (ruleAt x m)).2)) := by
   rw [List.range'_succ]; rfl
  rw [hfold]
  refine ⟨j, loop_step fun K hK => ?_⟩
  have hKk : ∀ e t, K e t = K (keepE e [2, 3, 4, 6, 7, 14, 15, 16]) t := fun e t => by rw [hK]; exact loopW_keep _ _ _ _
  rw [← hK, show ((m + 1 : Nat) : Int) = (m : Int) + 1 from rfl] at ih
  clear hK hfold
  rw [← ih]
  clear ih
  have fs := find_seen (ruleAt x m) S
  have hlen : IntKind.i64.wrap ((x.roles.length : Int) - 1) = (x.roles.length : Int) - 1 := by
   unfold IntKind.wrap; simp [IntKind.bits, IntKind.signed]; omega
  have t1 : m ≤ x.roles.length := by omega
  have t2 : m + 1 ≤ x.roles.length := by omega
  have t3 : (m : Int) + 1 ≤ x.roles.length := by omega
  have t4 : ((m : Int) + 1).toNat = m + 1 := by omega
  have t5 : (0 : Int) ≤ (m : Int) + 1 := by omega
  simp at e1 e2
  by_cases hl : m = x.roles.length - 1
  ·have hl1 : ((m : Int) = (x.roles.length : Int) - 1) = True := eq_true (by omega)
   have hp : ruleAt x m = ⟨jn (x.roles.take m), x.roles[m], x.role⟩ := by simp only [ruleAt, hsec]; rw [if_pos hl]
   rw [hp] at fs ⊢
   by_cases hs : (⟨jn (x.roles.take m), x.roles[m], x.role⟩ : Rul) ∈ S
   ·have ha : addRule (R, S) ⟨jn (x.roles.take m), x.roles[m], x.role⟩ = (R, S) := by simp only [addRule]; rw [if_pos hs]
    rw [ha]
    rw [if_pos hs] at fs
    simp only [encR] at fs
    simp [allStr, fillC, newL1_eq, newL1, h12, h13, h2, hwi, e1, e2, hlen, t1, t2, t3, t4, t5, hl1, fs, keyK]
   ·have ha : addRule (R, S) ⟨jn (x.roles.take m), x.roles[m], x.role⟩ = (addT 2 (addT 1 R (jn (x.roles.take m)) (encR ⟨jn (x.roles.take m), x.roles[m], x.role⟩)) x.roles[m] (encR ⟨jn (x.roles.take m), x.roles[m], x.role⟩), S ++ [⟨jn (x.roles.take m), x.roles[m], x.role⟩]) := by simp only [addRule]; rw [if_neg hs]
    rw [ha]
    rw [if_neg hs] at fs
    have fm := mput_seen hs
    have hA := newG_A s cx hcx ⟨jn (x.roles.take m), x.roles[m], x.role⟩ R (S ++ [⟨jn (x.roles.take m), x.roles[m], x.role⟩]) B (by omega) hR rv rv cs a14 m i1 i2 b2
    have hB' := newG_B s cx hcx ⟨jn (x.roles.take m), x.roles[m], x.role⟩ (addT 1 R (jn (x.roles.take m)) (encR ⟨jn (x.roles.take m), x.roles[m], x.role⟩)) (S ++ [⟨jn (x.roles.take m), x.roles[m], x.role⟩]) (B + 1) (by omega) (few4_add (by simp) hR) rv rv cs a14 m i1 i2 b2
    have g2 := gheap_seen s R S (S ++ [⟨jn (x.roles.take m), x.roles[m], x.role⟩])
    generalize hR1 : addT 1 R (jn (x.roles.take m)) (encR ⟨jn (x.roles.take m), x.roles[m], x.role⟩) = R1 at hA hB' ⊢
    generalize hR2 : addT 2 R1 x.roles[m] (encR ⟨jn (x.roles.take m), x.roles[m], x.role⟩) = R2 at hB' ⊢
    generalize hS' : S ++ [⟨jn (x.roles.take m), x.roles[m], x.role⟩] = S' at hA hB' fm g2 ⊢
    simp only [encR] at fs fm
    simp at hA hB'
    have hl3 : cx.lim ≤ s.length + 3 := by omega
    have hb3 : cx.base ≤ s.length + 3 := by omega
    simp [allStr, fillC, newL1_eq, newL1, h12, h13, h2, hwi, e1, e2, hlen, t1, t2, t3, t4, t5, hl1, fs, fm, hA, hB', g2, hl3, hb3, keyK]
  ·have hl1 : ¬ (m : Int) = (x.roles.length : Int) - 1 := by omega
   have hp : ruleAt x m = ⟨jn (x.roles.take m), x.roles[m], jn (x.roles.take (m + 1))⟩ := by simp only [ruleAt, hsec]; rw [if_neg hl]
   rw [hp] at fs ⊢
   by_cases hs : (⟨jn (x.roles.take m), x.roles[m], jn (x.roles.take (m + 1))⟩ : Rul) ∈ S
   ·have ha : addRule (R, S) ⟨jn (x.roles.take m), x.roles[m], jn (x.roles.take (m + 1))⟩ = (R, S) := by simp only [addRule]; rw [if_pos hs]
    rw [ha]
    rw [if_pos hs] at fs
    simp only [encR] at fs
    simp [allStr, fillC, newL1_eq, newL1, h12, h13, h2, hwi, e1, e2, hlen, t1, t2, t3, t4, t5, hl1, fs, keyK]
   ·have ha : addRule (R, S) ⟨jn (x.roles.take m), x.roles[m], jn (x.roles.take (m + 1))⟩ = (addT 2 (addT 1 R (jn (x.roles.take m)) (encR ⟨jn (x.roles.take m), x.roles[m], jn (x.roles.take (m + 1))⟩)) x.roles[m] (encR ⟨jn (x.roles.take m), x.roles[m], jn (x.roles.take (m + 1))⟩), S ++ [⟨jn (x.roles.take m), x.roles[m], jn (x.roles.take (m + 1))⟩]) := by simp only [addRule]; rw [if_neg hs]
    rw [ha]
    rw [if_neg hs] at fs
    have fm := mput_seen hs
    have hA := newG_A s cx hcx ⟨jn (x.roles.take m), x.roles[m], jn (x.roles.take (m + 1))⟩ R (S ++ [⟨jn (x.roles.take m), x.roles[m], jn (x.roles.take (m + 1))⟩]) B (by omega) hR rv rv cs a14 m i1 i2 b2
    have hB' := newG_B s cx hcx ⟨jn (x.roles.take m), x.roles[m], jn (x.roles.take (m + 1))⟩ (addT 1 R (jn (x.roles.take m)) (encR ⟨jn (x.roles.take m), x.roles[m], jn (x.roles.take (m + 1))⟩)) (S ++ [⟨jn (x.roles.take m), x.roles[m], jn (x.roles.take (m + 1))⟩]) (B + 1) (by omega) (few4_add (by simp) hR) rv rv cs a14 m i1 i2 b2
    have g2 := gheap_seen s R S (S ++ [⟨jn (x.roles.take m), x.roles[m], jn (x.roles.take (m + 1))⟩])
    generalize hR1 : addT 1 R (jn (x.roles.take m)) (encR ⟨jn (x.roles.take m), x.roles[m], jn (x.roles.take (m + 1))⟩) = R1 at hA hB' ⊢
    generalize hR2 : addT 2 R1 x.roles[m] (encR ⟨jn (x.roles.take m), x.roles[m], jn (x.roles.take (m + 1))⟩) = R2 at hB' ⊢
    generalize hS' : S ++ [⟨jn (x.roles.take m), x.roles[m], jn (x.roles.take (m + 1))⟩] = S' at hA hB' fm g2 ⊢
    simp only [encR] at fs fm
    simp at hA hB'
    have hl3 : cx.lim ≤ s.length + 3 := by omega
    have hb3 : cx.base ≤ s.length + 3 := by omega
    simp [allStr, fillC, newL1_eq, newL1, h12, h13, h2, hwi, e1, e2, hlen, t1, t2, t3, t4, t5, hl1, fs, fm, hA, hB', g2, hl3, hb3, keyK]
end Go.Ai.Z
namespace Go.Ai.Z
def grA (st : RT × List Rul) (x : Ax) : RT × List Rul :=
 if x.kind = 5 then (addT 0 st.1 (x.roles.headD []) (.s x.role), st.2)
 else if x.kind = 7 then (addT 3 st.1 [] (.s x.role), st.2)
 else if x.kind = 6 then ((List.range' 1 (x.roles.length - 1)).map (ruleAt x)).foldl addRule st else st
theorem few4_mono {n m : Nat} (h : n ≤ m) {R : RT} (hR : Few4 n R) : Few4 m R := fun p hp => ⟨by have := (hR p hp).1; omega, (hR p hp).2⟩
theorem few4_fold {n : Nat} : ∀ {L : List Rul} {st : RT × List Rul}, Few4 n st.1 → Few4 (n + 2 * L.length) (L.foldl addRule st).1
 | [], _, h => h
 | p :: L, st, h => by
  have := few4_fold (L := L) (few4_rule (p := p) h)
  simp only [List.foldl_cons, List.length_cons]
  exact few4_mono (by omega) this
theorem cell_fold {b : Nat} {x : List UInt8} : ∀ {L : List Rul} {st : RT × List Rul}, cellT 3 b (L.foldl addRule st).1 x = cellT 3 b st.1 x
 | [], _ => rfl
 | p :: L, st => by simp only [List.foldl_cons]; rw [cell_fold, cell_rule]
structure GrOK (l : List Ax) : Prop where
 few : ∀ x ∈ l, x.Few
 one : One5 l
 two : ∀ x ∈ l, x.kind = 6 → 2 ≤ x.roles.length ∧ x.roles.length ≤ 4
theorem l_newG0 (s : St) (cx : Ctx) (hcx : cx.lim ≤ s.length ∧ cx.base ≤ s.length) (z : Bool) (l : List Ax) (hl : l.length ≤ 1000) (hG : GrOK l) (b2 : List AV) :
  ∀ (rest : List Ax) (i B : Nat) (R : RT) (S : List Rul), l.drop i = rest → Few4 B R → B + 8 * rest.length ≤ 80000 →
  ∃ j : Int, loopW (acodeW P0.glob (acallW P0) cx false ir_roles_newGrammar_L0) [2, 3, 4, 14, 15, 16]
   [(2, .bx b2), (3, .bx [.mp s.length, .mp (s.length + 1), .mp (s.length + 2), cellT 3 (s.length + 4) R []]), (4, .v (.mp (s.length + 3))), (14, .v (slf z (l.map encA))), (15, .v (.i .i64 l.length)), (16, .v (.i .i64 i))] (gHeap s R S) =
   .exit 0 [(2, .bx b2), (3, .bx [.mp s.length, .mp (s.length + 1), .mp (s.length + 2), cellT 3 (s.length + 4) (rest.foldl grA (R, S)).1 []]), (4, .v (.mp (s.length + 3))), (14, .v (slf z (l.map encA))), (15, .v (.i .i64 l.length)), (16, .v (.i .i64 j)), (17, .v (.b false))]
    (gHeap s (rest.foldl grA (R, S)).1 (rest.foldl grA (R, S)).2)
 | [], i, B, R, S, h, hR, hB => by
  have h1 : ¬ i < l.length := Nat.not_lt.2 (drop_nil h)
  refine ⟨i, loop_step fun K hK => ?_⟩
  simp [newL0_eq, newL0, h1]
 | p :: rest, i, B, R, S, h, hR, hB => by
  obtain ⟨g1, g2, g3, g4⟩ := drop_cons h
  have g5 := g4 g3
  have hwi := wI (i := i) (by omega)
  have hp : p ∈ l := by rw [← g5]; exact List.getElem_mem g3
  simp only [List.length_cons] at hB
  by_cases h5 : p.kind = 5
  ·obtain ⟨r0, hr0⟩ := hG.one p hp h5
   have hg : grA (R, S) p = (addT 0 R r0 (.s p.role), S) := by simp [grA, h5, hr0]
   have hU := newG_U s cx hcx r0 p.role R S B (by omega) hR (cellT 3 (s.length + 4) R []) (cellsA p) (by simp [cellsA, hr0]) (by simp [cellsA]) (slf z (l.map encA)) p.kind l.length i b2
   obtain ⟨j, ih⟩ := l_newG0 s cx hcx z l hl hG b2 rest (i + 1) (B + 1) (addT 0 R r0 (.s p.role)) S g2 (few4_add (by simp) hR) (by omega)
   rw [cellT_add_ne (by decide)] at ih
   simp only [List.foldl_cons, hg]
   refine ⟨j, loop_step fun K hK => ?_⟩
   rw [← hK, show ((i + 1 : Nat) : Int) = (i : Int) + 1 from rfl] at ih
   clear hK g4 hG
   simp [cellsA, hr0, h5] at hU
   simp [newL0_eq, newL0, g3, g5, hwi, h5, hr0, hU, ih]
  ·by_cases h7 : p.kind = 7
   ·have hg : grA (R, S) p = (addT 3 R [] (.s p.role), S) := by simp [grA, h7]
    have hU := newG_R s cx hcx p.role R S B (by omega) hR (cellsA p) (by simp [cellsA]) (slf z (l.map encA)) p.kind l.length i b2
    obtain ⟨j, ih⟩ := l_newG0 s cx hcx z l hl hG b2 rest (i + 1) (B + 1) (addT 3 R [] (.s p.role)) S g2 (few4_add (by simp) hR) (by omega)
    simp only [List.foldl_cons, hg]
    refine ⟨j, loop_step fun K hK => ?_⟩
    rw [← hK, show ((i + 1 : Nat) : Int) = (i : Int) + 1 from rfl] at ih
    clear hK g4 hG
    simp [cellsA, h7] at hU
    simp [newL0_eq, newL0, g3, g5, hwi, h7, hU, ih]
   ·by_cases h6 : p.kind = 6
    ·obtain ⟨k2, k4⟩ := hG.two p hp h6
     have hne : p.roles ≠ [] := fun h0 => by rw [h0] at k2; simp at k2
     have hsl : slf p.z (p.roles.map AV.s) = .sl (p.roles.map .s) := by
      rcases slf_cases p.z (p.roles.map AV.s) with hs | ⟨_, hs2⟩
      ·exact hs
      ·exact absurd (by simpa using hs2) hne
     have hg : grA (R, S) p = ((List.range' 1 (p.roles.length - 1)).map (ruleAt p)).foldl addRule (R, S) := by simp [grA, h6]
     obtain ⟨j1, hL⟩ := l_newG1 s cx hcx p (hG.few p hp) k4 (cellT 3 (s.length + 4) R []) (cellsA p) (by simp [cellsA, hsl]) (by simp [cellsA]) (slf z (l.map encA)) l.length i b2 (p.roles.length - 1) 1 B R S (by omega) (Nat.le_refl _) hR (by omega)
     have hc := cell_fold (b := s.length + 4) (x := []) (L := (List.range' 1 (p.roles.length - 1)).map (ruleAt p)) (st := (R, S))
     have hfw := few4_fold (L := (List.range' 1 (p.roles.length - 1)).map (ruleAt p)) (st := (R, S)) hR
     simp only [List.length_map, List.length_range'] at hfw
     simp only [List.foldl_cons, hg]
     generalize hst : ((List.range' 1 (p.roles.length - 1)).map (ruleAt p)).foldl addRule (R, S) = st at hL hc hfw ⊢
     obtain ⟨R1, S1⟩ := st
     obtain ⟨j, ih⟩ := l_newG0 s cx hcx z l hl hG b2 rest (i + 1) (B + 8) R1 S1 g2 (few4_mono (by omega) hfw) (by omega)
     simp only at hc
     rw [hc] at ih
     refine ⟨j, loop_step fun K hK => ?_⟩
     have hKk : ∀ e t, K e t = K (keepE e [2, 3, 4, 14, 15, 16]) t := fun e t => by rw [hK]; exact loopW_keep _ _ _ _
     rw [← hK, show ((i + 1 : Nat) : Int) = (i : Int) + 1 from rfl] at ih
     clear hK g4 hG
     simp [cellsA, hsl, h6] at hL
     simp [newL0_eq, newL0, g3, g5, hwi, h6, hsl, hL, ih]
    ·have hg : grA (R, S) p = (R, S) := by simp [grA, h5, h6, h7]
     obtain ⟨j, ih⟩ := l_newG0 s cx hcx z l hl hG b2 rest (i + 1) B R S g2 hR (by omega)
     simp only [List.foldl_cons, hg]
     refine ⟨j, loop_step fun K hK => ?_⟩
     have hKk : ∀ e t, K e t = K (keepE e [2, 3, 4, 14, 15, 16]) t := fun e t => by rw [hK]; exact loopW_keep _ _ _ _
     rw [← hK, show ((i + 1 : Nat) : Int) = (i : Int) + 1 from rfl] at ih
     clear hK g4 hG
     simp [newL0_eq, newL0, g3, g5, hwi, h5, h6, h7, ih]
end Go.Ai.Z
namespace Go.Ai.Z
theorem val0_rule {p : Rul} {st : RT × List Rul} {j : Nat} (h1 : 1 ≠ j) (h2 : 2 ≠ j) {k : List UInt8} : valT j (addRule st p).1 k = valT j st.1 k := by
 unfold addRule
 split
 ·rfl
 ·rw [valT_add, if_neg (by simp [h2]), valT_add, if_neg (by simp [h1])]
theorem val0_fold {j : Nat} (h1 : 1 ≠ j) (h2 : 2 ≠ j) {k : List UInt8} : ∀ {L : List Rul} {st : RT × List Rul}, valT j (L.foldl addRule st).1 k = valT j st.1 k
 | [], _ => rfl
 | p :: L, st => by simp only [List.foldl_cons]; rw [val0_fold h1 h2, val0_rule h1 h2]
theorem val_0 {k : List UInt8} : ∀ (l : List Ax) (st : RT × List Rul), valT 0 (l.foldl grA st).1 k = valT 0 st.1 k ++ ((edU l).filter fun p => decide (p.1 = k)).map fun p => .s p.2
 | [], st => by simp [edU]
 | x :: l, st => by
  simp only [List.foldl_cons]
  rw [val_0 l]
  by_cases h5 : x.kind = 5
  ·rw [edU_cons5 h5]
   simp only [grA, h5, if_true]
   rw [valT_add]
   generalize x.roles.headD [] = r
   by_cases hk : r = k
   ·rw [if_pos ⟨rfl, hk⟩]; simp [hk]
   ·rw [if_neg (by simp [hk])]; simp [hk]
  ·rw [edU_consN h5]
   congr 1
   simp only [grA, if_neg h5]
   split
   ·rw [valT_add, if_neg (by simp)]
   ·split
    ·exact val0_fold (by decide) (by decide)
    ·rfl
theorem val_3 : ∀ (l : List Ax) (st : RT × List Rul), valT 3 (l.foldl grA st).1 [] = valT 3 st.1 [] ++ (reflA l).map .s
 | [], st => by simp [reflA]
 | x :: l, st => by
  simp only [List.foldl_cons]
  rw [val_3 l]
  by_cases h7 : x.kind = 7
  ·have h5 : ¬ x.kind = 5 := by omega
   have : reflA (x :: l) = x.role :: reflA l := by simp [reflA, h7]
   rw [this]
   simp only [grA, if_neg h5, if_pos h7]
   rw [valT_add, if_pos ⟨rfl, rfl⟩]; simp
  ·have : reflA (x :: l) = reflA l := by simp [reflA, h7]
   rw [this]
   congr 1
   simp only [grA, if_neg h7]
   split
   ·rw [valT_add, if_neg (by simp)]
   ·split
    ·exact val0_fold (by decide) (by decide)
    ·rfl
def RInv (st : RT × List Rul) : Prop := ∀ k, valT 1 st.1 k = ((st.2.filter fun p => decide (p.first = k)).map encR) ∧ valT 2 st.1 k = ((st.2.filter fun p => decide (p.second = k)).map encR)
theorem rinv_rule {st : RT × List Rul} {p : Rul} (h : RInv st) : RInv (addRule st p) := by
 unfold addRule
 split
 ·exact h
 ·intro k
  obtain ⟨h1, h2⟩ := h k
  simp only
  refine ⟨?_, ?_⟩
  ·rw [valT_add, if_neg (by simp), valT_add, h1]
   by_cases hk : p.first = k <;> simp [hk]
  ·have hh : valT 2 (addT 1 st.1 p.first (encR p)) k = valT 2 st.1 k := by rw [valT_add, if_neg (by simp)]
   rw [valT_add, hh, h2]
   by_cases hk : p.second = k <;> simp [hk]
theorem rinv_fold : ∀ {L : List Rul} {st : RT × List Rul}, RInv st → RInv (L.foldl addRule st)
 | [], _, h => h
 | p :: L, st, h => rinv_fold (L := L) (rinv_rule h)
theorem rinv_add {st : RT × List Rul} (h : RInv st) {j : Nat} (h1 : j ≠ 1) (h2 : j ≠ 2) {k : List UInt8} {v : AV} : RInv (addT j st.1 k v, st.2) := fun x => by
 simp only
 rw [valT_add, valT_add, if_neg (by simp [h1]), if_neg (by simp [h2])]
 exact h x
theorem rinv_gr : ∀ {l : List Ax} {st : RT × List Rul}, RInv st → RInv (l.foldl grA st)
 | [], _, h => h
 | x :: l, st, h => by
  simp only [List.foldl_cons]
  refine rinv_gr ?_
  unfold grA
  split
  ·exact rinv_add h (by decide) (by decide)
  ·split
   ·exact rinv_add h (by decide) (by decide)
   ·split
    ·exact rinv_fold h
    ·exact h
theorem mem_rule {st : RT × List Rul} {p q : Rul} : q ∈ (addRule st p).2 ↔ q ∈ st.2 ∨ q = p := by
 unfold addRule
 split
 ·rename_i h
  constructor
  ·exact .inl
  ·rintro (h' | rfl)
   ·exact h'
   ·exact h
 ·simp
theorem mem_fold {q : Rul} : ∀ {L : List Rul} {st : RT × List Rul}, q ∈ (L.foldl addRule st).2 ↔ q ∈ st.2 ∨ q ∈ L
 | [], st => by simp
 | p :: L, st => by
  simp only [List.foldl_cons]
  rw [mem_fold, mem_rule]; simp [or_assoc]
theorem mem_gr {q : Rul} : ∀ {l : List Ax} {st : RT × List Rul}, q ∈ (l.foldl grA st).2 ↔ q ∈ st.2 ∨ q ∈ rules l
 | [], st => by simp [rules]
 | x :: l, st => by
  simp only [List.foldl_cons]
  rw [mem_gr]
  have hr : q ∈ rules (x :: l) ↔ (x.kind = 6 ∧ q ∈ rulesA x) ∨ q ∈ rules l := by
   simp only [rules, List.flatMap_cons, List.mem_append]
   by_cases h6 : x.kind = 6 <;> simp [h6]
  rw [hr]
  unfold grA
  split
  ·rename_i h5
   have : ¬ x.kind = 6 := by omega
   simp [this]
  ·split
   ·rename_i h7
    have : ¬ x.kind = 6 := by omega
    simp [this]
   ·split
    ·rename_i h6
     rw [mem_fold, ← rulesA_eq]; simp [h6, or_assoc]
    ·rename_i h6
     simp [h6]
def esF (j : Nat) (R : RT) : List (AV × AV) := (R.filter fun p => decide (p.tag = j)).map fun p => (.s p.key, .sl p.vals)
theorem frz1_st {S : St} {n m l : Nat} {es : List AV} (hl : n ≤ l) (hu : underL n es = true) : frz1 S n (m + 1) (.st l es) = some (.sl es) := by
 have h0 : (AV.st l es).under n = false := by simp; omega
 rw [frz1, if_neg (by rw [h0]; exact Bool.false_ne_true)]
 simp only [hu, if_true]
theorem frz_esT {S : St} {n m j : Nat} : ∀ {R : RT} {b : Nat}, n ≤ b → (∀ p ∈ R, underL n p.vals = true) → (esT j b R).mapM (frzP (frz1 S n (m + 1))) = some (esF j R)
 | [], _, _, _ => rfl
 | p :: R, b, hb, hu => by
  have ih := frz_esT (S := S) (m := m) (j := j) (R := R) (b := b + 1) (by omega) fun q hq => hu q (by simp [hq])
  by_cases ht : p.tag = j
  ·have h1 : frz1 S n (m + 1) (.s p.key) = some (.s p.key) := by simp [frz1]
   have h2 := frz1_st (S := S) (m := m) hb (hu p (by simp))
   simp only [esT, ht, if_true, List.mapM_cons, frzP, h1, h2, ih]
   simp [esF, ht]
  ·simp only [esT, ht, if_false, ih]
   simp [esF, ht]
theorem find_esF (j : Nat) (k : List UInt8) : ∀ R : RT, ∃ r, find 1 (.s k) (esF j R) = some r ∧ ((r = none ∧ valT j R k = []) ∨ r = some (.sl (valT j R k)))
 | [] => ⟨none, rfl, .inl ⟨rfl, rfl⟩⟩
 | p :: R => by
  obtain ⟨r, h1, h2⟩ := find_esF j k R
  by_cases ht : p.tag = j
  ·by_cases hk : p.key = k
   ·refine ⟨some (.sl p.vals), ?_, .inr ?_⟩
    ·simp [esF, ht, hk, find, keyEq]
    ·simp [valT, ht, hk]
   ·have hk' : ¬ k = p.key := fun h => hk h.symm
    refine ⟨r, ?_, ?_⟩
    ·simp only [esF] at h1 ⊢
     simp [ht, find, keyEq, hk', h1]
    ·simpa [valT, ht, hk] using h2
  ·refine ⟨r, ?_, ?_⟩
   ·simp only [esF] at h1 ⊢
    simp [ht, h1]
   ·simpa [valT, ht] using h2
end Go.Ai.Z
namespace Go.Ai.Z
def AllU (R : RT) : Prop := ∀ p ∈ R, ∀ n, underL n p.vals = true
theorem underL_app (n : Nat) : ∀ a b : List AV, underL n (a ++ b) = (underL n a && underL n b)
 | [], b => by simp
 | x :: a, b => by simp [underL_app n a b, Bool.and_assoc]
theorem allU_add {j : Nat} {k : List UInt8} {v : AV} (hv : ∀ n, v.under n = true) : ∀ {R : RT}, AllU R → AllU (addT j R k v)
 | [], _, p, hp, n => by
  simp only [addT, List.mem_singleton] at hp
  subst hp; simp [hv n]
 | q :: R, h, p, hp, n => by
  have ih := allU_add (k := k) (j := j) hv (R := R) fun p hp => h p (by simp [hp])
  by_cases hk : q.tag = j ∧ q.key = k
  ·simp only [addT, hk, and_self, if_true, List.mem_cons] at hp
   rcases hp with rfl | hp
   ·simp only [underL_app, h q (by simp) n, underL_cons, hv n, underL_nil]; rfl
   ·exact h p (by simp [hp]) n
  ·simp only [addT, hk, if_false, List.mem_cons] at hp
   rcases hp with rfl | hp
   ·exact h p (by simp) n
   ·exact ih p hp n
theorem allU_rule {p : Rul} {st : RT × List Rul} (h : AllU st.1) : AllU (addRule st p).1 := by
 unfold addRule
 split
 ·exact h
 ·exact allU_add (fun n => by simp [encR]) (allU_add (fun n => by simp [encR]) h)
theorem allU_fold : ∀ {L : List Rul} {st : RT × List Rul}, AllU st.1 → AllU (L.foldl addRule st).1
 | [], _, h => h
 | p :: L, st, h => allU_fold (L := L) (allU_rule h)
theorem allU_gr : ∀ {l : List Ax} {st : RT × List Rul}, AllU st.1 → AllU (l.foldl grA st).1
 | [], _, h => h
 | x :: l, st, h => by
  simp only [List.foldl_cons]
  refine allU_gr ?_
  unfold grA
  split
  ·exact allU_add (fun n => by simp) h
  ·split
   ·exact allU_add (fun n => by simp) h
   ·split
    ·exact allU_fold h
    ·exact h
theorem cellT_frz {S : St} {n m j : Nat} {k : List UInt8} : ∀ {R : RT} {b : Nat}, n ≤ b → AllU R → frz1 S n (m + 1) (cellT j b R k) = some (match cellT j b R k with | .ns => .ns | _ => .sl (valT j R k)) ∧ ((cellT j b R k = .ns ∧ valT j R k = []) ∨ ∃ l, cellT j b R k = .st l (valT j R k))
 | [], b, _, _ => ⟨by simp [cellT, frz1], .inl ⟨rfl, rfl⟩⟩
 | p :: R, b, hb, hu => by
  by_cases h : p.tag = j ∧ p.key = k
  ·simp only [cellT, h, and_self, if_true, valT]
   exact ⟨frz1_st hb (hu p (by simp) n), .inr ⟨b, rfl⟩⟩
  ·simp only [cellT, h, if_false, valT]
   exact cellT_frz (R := R) (by omega) fun q hq => hu q (by simp [hq])
def grR (l : List Ax) : RT := (l.foldl grA ([], [])).1
def grS (l : List Ax) : List Rul := (l.foldl grA ([], [])).2
def encG (l : List Ax) : AV := .ag [.im (esF 0 (grR l)), .im (esF 1 (grR l)), .im (esF 2 (grR l)), match valT 3 (grR l) [] with | [] => .ns | vs => .sl vs]
def NeT (R : RT) : Prop := ∀ p ∈ R, p.vals ≠ []
theorem ne_add {j : Nat} {k : List UInt8} {v : AV} : ∀ {R : RT}, NeT R → NeT (addT j R k v)
 | [], _, p, hp => by simp only [addT, List.mem_singleton] at hp; subst hp; simp
 | q :: R, h, p, hp => by
  have ih := ne_add (k := k) (j := j) (v := v) (R := R) fun p hp => h p (by simp [hp])
  by_cases hk : q.tag = j ∧ q.key = k
  ·simp only [addT, hk, and_self, if_true, List.mem_cons] at hp
   rcases hp with rfl | hp
   ·simp
   ·exact h p (by simp [hp])
  ·simp only [addT, hk, if_false, List.mem_cons] at hp
   rcases hp with rfl | hp
   ·exact h p (by simp)
   ·exact ih p hp
theorem ne_rule {p : Rul} {st : RT × List Rul} (h : NeT st.1) : NeT (addRule st p).1 := by
 unfold addRule
 split
 ·exact h
 ·exact ne_add (ne_add h)
theorem ne_fold : ∀ {L : List Rul} {st : RT × List Rul}, NeT st.1 → NeT (L.foldl addRule st).1
 | [], _, h => h
 | p :: L, st, h => ne_fold (L := L) (ne_rule h)
theorem ne_gr : ∀ {l : List Ax} {st : RT × List Rul}, NeT st.1 → NeT (l.foldl grA st).1
 | [], _, h => h
 | x :: l, st, h => by
  simp only [List.foldl_cons]
  refine ne_gr ?_
  unfold grA
  split
  ·exact ne_add h
  ·split
   ·exact ne_add h
   ·split
    ·exact ne_fold h
    ·exact h
theorem cellT_ne {j b : Nat} {k : List UInt8} : ∀ {R : RT}, NeT R → ∀ l, cellT j b R k = .st l (valT j R k) → valT j R k ≠ [] := by
 intro R
 induction R generalizing b with
 | nil => intro _ l h; simp [cellT] at h
 | cons p R ih =>
  intro hn l h
  by_cases hk : p.tag = j ∧ p.key = k
  ·simp only [valT, hk, and_self, if_true]; exact hn p (by simp)
  ·simp only [cellT, valT, hk, if_false] at h ⊢
   exact ih (fun q hq => hn q (by simp [hq])) l h
theorem cellT_one {j : Nat} {k : List UInt8} : ∀ {R : RT} {b : Nat}, (cellT j b R k).one = true
 | [], _ => rfl
 | p :: R, b => by
  simp only [cellT]
  split
  ·rfl
  ·exact cellT_one
theorem valT_u {j : Nat} {k : List UInt8} (n : Nat) : ∀ {R : RT}, AllU R → underL n (valT j R k) = true
 | [], _ => by simp [valT]
 | p :: R, h => by
  simp only [valT]
  split
  ·exact h p (by simp) n
  ·exact valT_u n fun q hq => h q (by simp [hq])
theorem gheap_ne (s : St) (R : RT) (S : List Rul) : ¬ (gHeap s R S).length = s.length := by simp [gHeap]
theorem gheap_0 (s : St) (R : RT) (S : List Rul) : (gHeap s R S)[s.length]? = some (.map (esT 0 (s.length + 4) R)) := st4_0
theorem gheap_1 (s : St) (R : RT) (S : List Rul) : (gHeap s R S)[s.length + 1]? = some (.map (esT 1 (s.length + 4) R)) := st4_1
theorem gheap_2 (s : St) (R : RT) (S : List Rul) : (gHeap s R S)[s.length + 2]? = some (.map (esT 2 (s.length + 4) R)) := st4_2
theorem frz_gr (s : St) (l : List Ax) : frz (gHeap s (grR l) (grS l)) s.length (.ag [.mp s.length, .mp (s.length + 1), .mp (s.length + 2), (cellT 3 (s.length + 4) (grR l) []).plain1]) = some (encG l) := by
 have hU : AllU (grR l) := allU_gr fun p hp => by cases hp
 have hN : NeT (grR l) := ne_gr fun p hp => by cases hp
 have u : ∀ k, (AV.mp (s.length + k)).under s.length = false := fun k => by simp [AV.under]
 have u0 : (AV.ag [.mp s.length, .mp (s.length + 1), .mp (s.length + 2), (cellT 3 (s.length + 4) (grR l) []).plain1]).under s.length = false := by
  have := u 0
  simp only [Nat.add_zero] at this
  simp [this]
 have hu := fun p hp => hU p hp s.length
 have m0 : frz1 (gHeap s (grR l) (grS l)) s.length 5 (.mp s.length) = some (.im (esF 0 (grR l))) := by
  have f := frz1_mp (m := 4) (u 0) (gheap_0 s (grR l) (grS l))
  simp only [Nat.add_zero] at f
  rw [show (5 : Nat) = 4 + 1 from rfl, f, frz_esT (m := 3) (by omega) hu]; rfl
 have m1 : frz1 (gHeap s (grR l) (grS l)) s.length 5 (.mp (s.length + 1)) = some (.im (esF 1 (grR l))) := by
  rw [show (5 : Nat) = 4 + 1 from rfl, frz1_mp (m := 4) (u 1) (gheap_1 s (grR l) (grS l)), frz_esT (m := 3) (by omega) hu]; rfl
 have m2 : frz1 (gHeap s (grR l) (grS l)) s.length 5 (.mp (s.length + 2)) = some (.im (esF 2 (grR l))) := by
  rw [show (5 : Nat) = 4 + 1 from rfl, frz1_mp (m := 4) (u 2) (gheap_2 s (grR l) (grS l)), frz_esT (m := 3) (by omega) hu]; rfl
 have c2 := (cellT_frz (S := gHeap s (grR l) (grS l)) (n := s.length) (m := 4) (j := 3) (k := []) (R := grR l) (b := s.length + 4) (by omega) hU).2
 have c1 : frz1 (gHeap s (grR l) (grS l)) s.length 5 (cellT 3 (s.length + 4) (grR l) []).plain1 = some (cellT 3 (s.length + 4) (grR l) []).plain1 := by
  have hv := valT_u (j := 3) (k := []) s.length hU
  rcases c2 with ⟨h1, _⟩ | ⟨q, h1⟩
  ·rw [h1]; simp [frz1, AV.plain1]
  ·rw [h1]; simp [frz1, AV.plain1, hv]
 unfold frz
 rw [if_neg (by rw [u0]; exact Bool.false_ne_true)]
 have e1 : ∀ cs : List AV, (AV.ag cs).under s.length = false → frz1 (gHeap s (grR l) (grS l)) s.length 6 (.ag cs) = (cs.mapM (frz1 (gHeap s (grR l) (grS l)) s.length 5)).map .ag := fun cs h => by
  rw [frz1, if_neg (by rw [h]; exact Bool.false_ne_true)]
 rw [e1 _ u0]
 simp only [List.mapM_cons, List.mapM_nil, m0, m1, m2, c1]
 rcases c2 with ⟨h1, h2⟩ | ⟨q, h1⟩
 ·simp [encG, h1, h2, AV.plain1]
 ·have hne := cellT_ne hN q h1
  cases hv : valT 3 (grR l) [] with
  | nil => exact absurd hv hne
  | cons a r => rw [h1, hv]; simp [encG, hv, AV.plain1]
theorem c_roles_newGrammar (z : Bool) (l : List Ax) (hl : l.length ≤ 1000) (hG : GrOK l) (s : St) (cx : Ctx) : acallW P0 (.fn (.func F_roles_newGrammar) [] []) [slf z (l.map encA)] s cx = .ret (encG l) s := by
 obtain ⟨j, h⟩ := l_newG0 s ⟨s.length, s.length⟩ ⟨Nat.le_refl _, Nat.le_refl _⟩ z l hl hG [.nm, .nm, .nm, .ns] l 0 0 [] [] rfl (fun p hp => by cases hp) (by omega)
 have hf := frz_gr s l
 refine go_roles_newGrammar (by simp) ?_
 have e0 : gHeap s [] [] = s ++ [.map [], .map [], .map [], .map []] := rfl
 have e1 : cellT 3 (s.length + 4) [] [] = .ns := rfl
 rw [e0, e1] at h
 rw [show (l.foldl grA ([], [])).1 = grR l from rfl, show (l.foldl grA ([], [])).2 = grS l from rfl] at h
 have ho : (cellT 3 (s.length + 4) (grR l) []).one = true := cellT_one
 generalize hc : cellT 3 (s.length + 4) (grR l) [] = rv at h hf ho
 simp at h
 simp [fillC, callFnW, ir_roles_newGrammar, h, hf, ho, gheap_ne]
end Go.Ai.Z
namespace Go.Ai.Z
@[simp] theorem st3_1 {s r : St} {a b c : HObj} : (s ++ a :: b :: c :: r)[s.length + 1]? = some b := by simp
@[simp] theorem st3_2 {s r : St} {a b c : HObj} : (s ++ a :: b :: c :: r)[s.length + 2]? = some c := by
 rw [List.getElem?_append_right (by omega)]; simp
theorem st3_r {s r : St} {a b c : HObj} {x : Nat} : (s ++ a :: b :: c :: r)[s.length + 3 + x]? = r[x]? := by
 rw [show s.length + 3 + x = s.length + (x + 3) by omega, List.getElem?_append_right (by omega)]
 simp [show s.length + (x + 3) - s.length = x + 3 by omega]
def span0 : List AV := List.replicate 4225 (.b false)
def addF : AFun := ⟨5, [], false, true,
 (.seq (.seq (.region [⟨(some 8), none, .load none (.t 3)⟩,
  ⟨(some 9), none, .mov (.t 0)⟩,
  ⟨(some 10), none, .look 1 .np false (.t 8) (.t 9)⟩,
  ⟨(some 11), none, .nileq false 3 (.t 10)⟩] none [0, 1, 2, 3, 4, 11])
 (.cond (.t 11)
  (.region [⟨(some 12), none, .load none (.t 3)⟩,
  ⟨(some 13), none, .mov (.t 0)⟩,
  ⟨(some 14), none, .halloc span0⟩,
  ⟨none, none, .hins 1 (.t 12) (.t 13) (.t 14)⟩] none [0, 1, 2, 3, 4])
 .skip))
 (.seq (.region [⟨(some 15), none, .load none (.t 3)⟩,
  ⟨(some 16), none, .mov (.t 0)⟩,
  ⟨(some 17), none, .look 1 .np false (.t 15) (.t 16)⟩,
  ⟨(some 18), none, .mov (.t 1)⟩,
  ⟨(some 19), none, .mov (.t 2)⟩,
  ⟨(some 20), none, .nilchk (.t 17)⟩,
  ⟨(some 21), none, .idxa 65 65 (.t 20) (.t 18)⟩,
  ⟨(some 22), none, .idxa 65 1 (.t 21) (.t 19)⟩,
  ⟨(some 23), none, .load none (.t 22)⟩,
  ⟨(some 24), none, .un .not (.t 23)⟩] none [0, 1, 2, 3, 4, 24])
 (.cond (.t 24)
  (.seq (.region [⟨(some 25), none, .load none (.t 3)⟩,
  ⟨(some 26), none, .mov (.t 0)⟩,
  ⟨(some 27), none, .look 1 .np false (.t 25) (.t 26)⟩,
  ⟨(some 28), none, .mov (.t 1)⟩,
  ⟨(some 29), none, .mov (.t 2)⟩,
  ⟨(some 30), none, .nilchk (.t 27)⟩,
  ⟨(some 31), none, .idxa 65 65 (.t 30) (.t 28)⟩,
  ⟨(some 32), none, .idxa 65 1 (.t 31) (.t 29)⟩,
  ⟨none, none, .store 1 (.t 32) (.c (.b true))⟩] none [0, 1, 2, 4])
 (.region [⟨(some 33), none, .load none (.t 4)⟩,
  ⟨(some 34), none, .mov (.t 0)⟩,
  ⟨(some 35), none, .mov (.t 1)⟩,
  ⟨(some 36), none, .mov (.t 2)⟩,
  ⟨(some 37), none, .build [(.s []), (.i .i64 0), (.i .i64 0)] [(0, 1, (.t 34)), (1, 1, (.t 35)), (2, 1, (.t 36))]⟩,
  ⟨(some 38), none, .bsl false T_roles_item_1 3 1 [(.s []), (.i .i64 0), (.i .i64 0)] [(0, (.t 37))]⟩,
  ⟨(some 39), none, .appk T_roles_item_1 3 (.t 33) (.t 38)⟩,
  ⟨none, none, .store 1 (.t 4) (.t 39)⟩] none []))
 .skip)))⟩
theorem addF_eq : ir_roles_recognize_1 = addF := rfl
theorem c_add_set (s : St) (es : List (AV × AV)) (q : AV) (rest : St) (role : List UInt8) (f t x : Nat) (cs : List AV) (hf : f ≤ 64) (ht : t ≤ 64) (he : find 1 (.s role) es = some (some (.pt (s.length + 3 + x) 0)))
  (hr : rest[x]? = some (.cells cs)) (hl : cs.length = 4225) (hb : cs[f * 65 + t]? = some (.b true)) (cx : Ctx) :
  acallW P0 (.fn (.func F_roles_recognize_1) [] [.pt (s.length + 1) 0, .pt (s.length + 2) 0]) [.s role, .i .i64 f, .i .i64 t] (s ++ .map es :: .cells [.mp s.length] :: .cells [q] :: rest) cx = .ret (.tu []) (s ++ .map es :: .cells [.mp s.length] :: .cells [q] :: rest) := by
 refine go_roles_recognize_1 (by simp) ?_
 have h3 := st3_r (s := s) (r := rest) (a := .map es) (b := .cells [.mp s.length]) (c := .cells [q]) (x := x)
 rw [hr] at h3
 have w1 : (f : Int) < 65 := by omega
 have w2 : (t : Int) < 65 := by omega
 have w3 : f < 65 := by omega
 have w4 : t < 65 := by omega
 rw [addF_eq]
 simp [nilK, callFnW, addF, he, h3, hb, hl, hf, ht, w1, w2, w3, w4]
theorem st3_rset {s r : St} {a b c v : HObj} {x : Nat} : (s ++ a :: b :: c :: r).set (s.length + 3 + x) v = s ++ a :: b :: c :: r.set x v := by
 rw [show s.length + 3 + x = s.length + (x + 3) by omega, List.set_append, if_neg (by omega), show s.length + (x + 3) - s.length = x + 3 by omega]
 simp
@[simp] theorem st3_s2 {s r : St} {a b c v : HObj} : (s ++ a :: b :: c :: r).set (s.length + 2) v = s ++ a :: b :: v :: r := by
 rw [List.set_append, if_neg (by omega)]; simp
@[simp] theorem st3_s0 {s r : St} {a b c v : HObj} : (s ++ a :: b :: c :: r).set s.length v = s ++ v :: b :: c :: r := by simp
theorem c_add_bit (s : St) (es : List (AV × AV)) (rest : St) (role : List UInt8) (f t x : Nat) (cs qs : List AV) (ver m : Nat) (hf : f ≤ 64) (ht : t ≤ 64) (hx : x ≠ 1) (he : find 1 (.s role) es = some (some (.pt (s.length + 3 + x) 0)))
  (hr : rest[x]? = some (.cells cs)) (hl : cs.length = 4225) (hb : cs[f * 65 + t]? = some (.b false)) (hq : rest[1]? = some (.buf T_roles_item_1 3 ver qs)) (hm : m * 3 ≤ qs.length) (hmx : m ≤ 1000000) (cx : Ctx) (hcx : cx.lim ≤ s.length ∧ cx.base ≤ s.length) :
  acallW P0 (.fn (.func F_roles_recognize_1) [] [.pt (s.length + 1) 0, .pt (s.length + 2) 0]) [.s role, .i .i64 f, .i .i64 t] (s ++ .map es :: .cells [.mp s.length] :: .cells [.sk (s.length + 3 + 1) ver 3 0 m] :: rest) cx =
   .ret (.tu []) (s ++ .map es :: .cells [.mp s.length] :: .cells [.sk (s.length + 3 + 1) (ver + 1) 3 0 (m + 1)] :: (rest.set x (.cells (cs.set (f * 65 + t) (.b true)))).set 1 (.buf T_roles_item_1 3 (ver + 1) (qs.take (m * 3) ++ [.s role, .i .i64 f, .i .i64 t]))) := by
 refine go_roles_recognize_1 (by simp) ?_
 have h3 := fun q => st3_r (s := s) (r := rest) (a := .map es) (b := .cells [.mp s.length]) (c := .cells [q]) (x := x)
 have h5 := fun q v => st3_rset (s := s) (r := rest) (a := .map es) (b := .cells [.mp s.length]) (c := .cells [q]) (x := x) (v := v)
 have h4 := fun q v => st3_r (s := s) (r := rest.set x v) (a := .map es) (b := .cells [.mp s.length]) (c := .cells [q]) (x := 1)
 have h6 := fun q v w => st3_rset (s := s) (r := rest.set x v) (a := .map es) (b := .cells [.mp s.length]) (c := .cells [q]) (x := 1) (v := w)
 have hq' : ∀ v, (rest.set x v)[1]? = some (.buf T_roles_item_1 3 ver qs) := fun v => by rw [List.getElem?_set_ne hx, hq]
 simp only [hr] at h3
 simp only [hq'] at h4
 have w1 : (f : Int) < 65 := by omega
 have w2 : (t : Int) < 65 := by omega
 have w3 : f < 65 := by omega
 have w4 : t < 65 := by omega
 have w5 : f * 65 + t < 4225 := by omega
 have w6 : cx.lim ≤ s.length + 3 + x := by omega
 have w7 : cx.base ≤ s.length + 3 + x := by omega
 have w8 : cx.lim ≤ s.length + 3 + 1 := by omega
 have w9 : cx.base ≤ s.length + 3 + 1 := by omega
 have w10 : cx.lim ≤ s.length + 2 := by omega
 have w11 : cx.base ≤ s.length + 2 := by omega
 have m1 : m + 1 ≤ maxSl := by unfold maxSl; omega
 have hb' : cs[f * 65 + t]'(by omega) = .b false := (List.getElem?_eq_some_iff.1 hb).2
 have w12 : f * 65 + t ≤ 4224 := by omega
 have hset : cs.set (f * 65 + t) (.b true) = cs.take (f * 65 + t) ++ .b true :: cs.drop (f * 65 + t + 1) := by
  rw [List.set_eq_take_append_cons_drop, if_pos (by omega)]
 rw [hset]
 rw [addF_eq]
 generalize hL : s.length + 3 + 1 = L at *
 simp [nilK, fillC, callFnW, addF, he, h3, h4, h5, h6, hb, hb', hl, hf, ht, hm, w1, w2, w3, w4, w5, w6, w7, w8, w9, w10, w11, w12, m1]
end Go.Ai.Z
namespace Go.Ai.Z
theorem span0_len : span0.length = 4225 := by unfold span0; exact List.length_replicate
theorem span0_at {k : Nat} (h : k < 4225) : span0[k]? = some (.b false) := by
 unfold span0; rw [List.getElem?_replicate, if_pos h]
theorem span0_set {k : Nat} (h : k < 4225) : span0.set k (.b true) = span0.take k ++ .b true :: span0.drop (k + 1) := by
 rw [List.set_eq_take_append_cons_drop, if_pos (by rw [span0_len]; exact h)]
theorem c_add_first (s : St) (es es' : List (AV × AV)) (role : List UInt8) (f t : Nat) (hf : f ≤ 64) (ht : t ≤ 64) (he : find 1 (.s role) es = some none)
  (hm : mput 1 (.s role) (.pt (s.length + 3) 0) es = some es') (he' : find 1 (.s role) es' = some (some (.pt (s.length + 3) 0))) (cx : Ctx) (hcx : cx.lim ≤ s.length ∧ cx.base ≤ s.length) :
  acallW P0 (.fn (.func F_roles_recognize_1) [] [.pt (s.length + 1) 0, .pt (s.length + 2) 0]) [.s role, .i .i64 f, .i .i64 t] (s ++ .map es :: .cells [.mp s.length] :: .cells [.ns] :: []) cx =
   .ret (.tu []) (s ++ .map es' :: .cells [.mp s.length] :: .cells [.sk (s.length + 3 + 1) 0 3 0 1] :: [.cells (span0.set (f * 65 + t) (.b true)), .buf T_roles_item_1 3 0 [.s role, .i .i64 f, .i .i64 t]]) := by
 refine go_roles_recognize_1 (by simp) ?_
 have h3 := fun es q r => st3_r (s := s) (r := .cells span0 :: r) (a := .map es) (b := .cells [.mp s.length]) (c := .cells [q]) (x := 0)
 have h5 := fun es q r v => st3_rset (s := s) (r := .cells span0 :: r) (a := .map es) (b := .cells [.mp s.length]) (c := .cells [q]) (x := 0) (v := v)
 simp only [List.getElem?_cons_zero, Nat.add_zero] at h3
 simp only [List.set_cons_zero, Nat.add_zero] at h5
 have w1 : (f : Int) < 65 := by omega
 have w2 : (t : Int) < 65 := by omega
 have w3 : f < 65 := by omega
 have w4 : t < 65 := by omega
 have w5 : f * 65 + t < 4225 := by omega
 have w6 : cx.lim ≤ s.length + 3 := by omega
 have w7 : cx.base ≤ s.length + 3 := by omega
 have w10 : cx.lim ≤ s.length + 2 := by omega
 have w11 : cx.base ≤ s.length + 2 := by omega
 have w12 : f * 65 + t ≤ 4224 := by omega
 have m1 : 1 ≤ maxSl := by unfold maxSl; omega
 have hb := span0_at w5
 have hl := span0_len
 have hb' : span0[f * 65 + t]'(by omega) = .b false := (List.getElem?_eq_some_iff.1 hb).2
 rw [span0_set w5]
 rw [addF_eq]
 simp [nilK, fillC, callFnW, addF, he, hm, he', h3, h5, hb, hb', hl, hf, ht, w1, w2, w3, w4, w5, w6, w7, w10, w11, w12, hcx.1, hcx.2, m1, keyK]
theorem c_add_new (s : St) (es es' : List (AV × AV)) (rest : St) (role : List UInt8) (f t : Nat) (qs : List AV) (ver m : Nat) (hf : f ≤ 64) (ht : t ≤ 64) (he : find 1 (.s role) es = some none)
  (hm : mput 1 (.s role) (.pt (s.length + 3 + rest.length) 0) es = some es') (he' : find 1 (.s role) es' = some (some (.pt (s.length + 3 + rest.length) 0)))
  (hq : rest[1]? = some (.buf T_roles_item_1 3 ver qs)) (hmq : m * 3 ≤ qs.length) (hmx : m ≤ 1000000) (cx : Ctx) (hcx : cx.lim ≤ s.length ∧ cx.base ≤ s.length) :
  acallW P0 (.fn (.func F_roles_recognize_1) [] [.pt (s.length + 1) 0, .pt (s.length + 2) 0]) [.s role, .i .i64 f, .i .i64 t] (s ++ .map es :: .cells [.mp s.length] :: .cells [.sk (s.length + 3 + 1) ver 3 0 m] :: rest) cx =
   .ret (.tu []) (s ++ .map es' :: .cells [.mp s.length] :: .cells [.sk (s.length + 3 + 1) (ver + 1) 3 0 (m + 1)] :: ((rest ++ [HObj.cells (span0.set (f * 65 + t) (.b true))]).set 1 (HObj.buf T_roles_item_1 3 (ver + 1) (qs.take (m * 3) ++ [AV.s role, AV.i .i64 f, AV.i .i64 t])))) := by
 refine go_roles_recognize_1 (by simp) ?_
 have hr1 : 1 < rest.length := (List.getElem?_eq_some_iff.1 hq).1
 have h3 := fun es q v => st3_r (s := s) (r := rest ++ [v]) (a := .map es) (b := .cells [.mp s.length]) (c := .cells [q]) (x := rest.length)
 have h5 := fun es q v w => st3_rset (s := s) (r := rest ++ [v]) (a := .map es) (b := .cells [.mp s.length]) (c := .cells [q]) (x := rest.length) (v := w)
 have h4 := fun es q v => st3_r (s := s) (r := rest ++ [v]) (a := .map es) (b := .cells [.mp s.length]) (c := .cells [q]) (x := 1)
 have h6 := fun es q v w => st3_rset (s := s) (r := rest ++ [v]) (a := .map es) (b := .cells [.mp s.length]) (c := .cells [q]) (x := 1) (v := w)
 have q1 : ∀ v : HObj, (rest ++ [v])[rest.length]? = some v := fun v => by simp
 have q2 : ∀ v w : HObj, (rest ++ [v]).set rest.length w = rest ++ [w] := fun v w => by simp
 have q3 : ∀ v : HObj, (rest ++ [v])[1]? = some (.buf T_roles_item_1 3 ver qs) := fun v => by rw [List.getElem?_append_left hr1, hq]
 simp only [q1] at h3
 simp only [q2] at h5
 simp only [q3] at h4
 have w1 : (f : Int) < 65 := by omega
 have w2 : (t : Int) < 65 := by omega
 have w3 : f < 65 := by omega
 have w4 : t < 65 := by omega
 have w5 : f * 65 + t < 4225 := by omega
 have w6 : cx.lim ≤ s.length + 3 + rest.length := by omega
 have w7 : cx.base ≤ s.length + 3 + rest.length := by omega
 have w8 : cx.lim ≤ s.length + 3 + 1 := by omega
 have w9 : cx.base ≤ s.length + 3 + 1 := by omega
 have w10 : cx.lim ≤ s.length + 2 := by omega
 have w11 : cx.base ≤ s.length + 2 := by omega
 have w12 : f * 65 + t ≤ 4224 := by omega
 have m1 : m + 1 ≤ maxSl := by unfold maxSl; omega
 have hb := span0_at w5
 have hl := span0_len
 have hb' : span0[f * 65 + t]'(by omega) = .b false := (List.getElem?_eq_some_iff.1 hb).2
 have hlen : s.length + (rest.length + 1 + 1 + 1) = s.length + 3 + rest.length := by omega
 rw [span0_set w5]
 rw [addF_eq]
 generalize hL : s.length + 3 + 1 = L at *
 generalize hM : s.length + 3 + rest.length = M at *
 simp [nilK, fillC, callFnW, addF, he, hm, he', h3, h4, h5, h6, hb, hb', hl, hf, ht, hmq, w1, w2, w3, w4, w5, w6, w7, w8, w9, w10, w11, w12, hcx.1, hcx.2, m1, keyK, hlen]
end Go.Ai.Z
