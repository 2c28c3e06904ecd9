/-
  roles.newGrammar: its loops.
-/
import Derived.Test.YtomjajnlomdhpaaGreatDoorAiR11R12
set_option maxRecDepth 100000
set_option linter.unusedSimpArgs false
set_option linter.unusedVariables false
namespace Go.Ai.Z
def newL1 : ACode :=
 (.seq (.seq (.region [⟨(some 52), none, .mov (.t 7)⟩,
   ⟨(some 53), none, .fld 12 (.t 6)⟩,
   ⟨(some 54), none, .load none (.t 53)⟩,
   ⟨(some 55), none, .len 0 (.t 54)⟩,
   ⟨(some 56), none, .bin .lss (.t 52) (.t 55)⟩] none [2, 3, 4, 6, 7, 14, 15, 16, 56])
 (.cond (.t 56)
  .skip
  (.exit 3)))
 (.seq (.block 4
  (.seq (.region [⟨(some 59), none, .fld 12 (.t 6)⟩,
    ⟨(some 60), none, .load none (.t 59)⟩,
    ⟨(some 61), none, .mov (.t 7)⟩,
    ⟨(some 62), none, .slc 1 (.t 60) none (some (.t 61))⟩,
    ⟨(some 63), none, .call (.c (.fn (.func F_strings_Join) [] [])) [(.t 62), (.c (.s [46]))]⟩,
    ⟨(some 64), none, .fld 12 (.t 6)⟩,
    ⟨(some 65), none, .load none (.t 64)⟩,
    ⟨(some 66), none, .mov (.t 7)⟩,
    ⟨(some 67), none, .idx 1 (.t 65) (.t 66)⟩,
    ⟨(some 68), none, .load none (.t 67)⟩,
    ⟨(some 69), none, .fld 12 (.t 6)⟩,
    ⟨(some 70), none, .load none (.t 69)⟩,
    ⟨(some 71), none, .mov (.t 7)⟩,
    ⟨(some 72), none, .bin .add (.t 71) (.c (.i .i64 1))⟩,
    ⟨(some 73), none, .slc 1 (.t 70) none (some (.t 72))⟩,
    ⟨(some 74), none, .call (.c (.fn (.func F_strings_Join) [] [])) [(.t 73), (.c (.s [46]))]⟩,
    ⟨(some 75), none, .build [(.s []), (.s []), (.s [])] [(0, 1, (.t 63)), (1, 1, (.t 68)), (2, 1, (.t 74))]⟩,
    ⟨(some 8), none, .lallocp 8 [(.s []), (.s []), (.s [])]⟩,
    ⟨none, none, .store 3 (.t 8) (.t 75)⟩] (some ([0, 1, 2, 3, 4, 5, 6, 7, 8, 9, 10, 11, 12, 13, 14, 15, 16, 17, 18], [])) [2, 3, 4, 6, 7, 8, 14, 15, 16])
  (.seq (.seq (.region [⟨(some 76), none, .mov (.t 7)⟩,
    ⟨(some 77), none, .fld 12 (.t 6)⟩,
    ⟨(some 78), none, .load none (.t 77)⟩,
    ⟨(some 79), none, .len 0 (.t 78)⟩,
    ⟨(some 80), none, .bin .sub (.t 79) (.c (.i .i64 1))⟩,
    ⟨(some 81), none, .bin .eql (.t 76) (.t 80)⟩] none [2, 3, 4, 6, 7, 8, 14, 15, 16, 81])
  (.cond (.t 81)
   (.region [⟨(some 82), none, .fld 13 (.t 6)⟩,
     ⟨(some 83), none, .load none (.t 82)⟩,
     ⟨(some 84), none, .fld 2 (.t 8)⟩,
     ⟨none, none, .store 1 (.t 84) (.t 83)⟩] none [2, 3, 4, 6, 7, 8, 14, 15, 16])
   .skip))
  (.seq (.region [⟨(some 85), none, .mov (.t 4)⟩,
    ⟨(some 86), none, .load (some 3) (.t 8)⟩,
    ⟨(some 87), none, .look 6 (.b false) false (.t 85) (.t 86)⟩,
    ⟨(some 88), none, .un .not (.t 87)⟩] none [2, 3, 4, 6, 7, 8, 14, 15, 16, 88])
  (.cond (.t 88)
   (.seq (.region [⟨(some 89), none, .mov (.t 4)⟩,
     ⟨(some 90), none, .load (some 3) (.t 8)⟩,
     ⟨none, none, .hins 6 (.t 89) (.t 90) (.c (.b true))⟩] none [2, 3, 4, 6, 7, 8, 14, 15, 16])
   (.seq newGA
   newGB))
   .skip)))))
 (.region [⟨(some 57), none, .mov (.t 7)⟩,
   ⟨(some 58), none, .bin .add (.t 57) (.c (.i .i64 1))⟩,
   ⟨(some 7), none, .asg (.t 58)⟩] none [2, 3, 4, 6, 7, 14, 15, 16])))
theorem newL1_eq : ir_roles_newGrammar_L1 = newL1 := rfl
def newL0 : ACode :=
 (.seq (.region [⟨(some 17), none, .bin .lss (.t 16) (.t 15)⟩] none [2, 3, 4, 14, 15, 16, 17])
 (.seq (.cond (.t 17)
  .skip
  (.exit 0))
 (.seq (.block 1
  (.seq (.region [⟨(some 18), none, .idx 16 (.t 14) (.t 16)⟩,
    ⟨(some 19), none, .load (some 16) (.t 18)⟩,
    ⟨(some 6), none, .lalloc [(.i .i64 0), (.b false), (.i .i64 0), (.s []), (.i .i64 0), (.i .i64 0), .ns, (.i .i64 0), (.s []), (.i .i64 0), (.i .i64 0), .ns, .ns, (.s []), (.s []), (.s [])]⟩,
    ⟨none, none, .store 16 (.t 6) (.t 19)⟩] none [2, 3, 4, 6, 14, 15, 16])
  (.seq (.region [⟨(some 20), none, .fld 0 (.t 6)⟩,
    ⟨(some 21), none, .load none (.t 20)⟩] none [2, 3, 4, 6, 14, 15, 16, 21])
  (.block 2
   (.seq (.region [⟨(some 23), none, .bin .eql (.t 21) (.c (.i .i64 5))⟩,
     ⟨(some 22), none, .asg (.t 23)⟩] none [2, 3, 4, 6, 14, 15, 16, 21, 22])
   (.cond (.t 22)
    newGU
    (.seq (.region [⟨(some 42), none, .bin .eql (.t 21) (.c (.i .i64 7))⟩,
      ⟨(some 41), none, .asg (.t 42)⟩] none [2, 3, 4, 6, 14, 15, 16, 21, 41])
    (.cond (.t 41)
     newGR
     (.seq (.region [⟨(some 51), none, .bin .eql (.t 21) (.c (.i .i64 6))⟩,
       ⟨(some 50), none, .asg (.t 51)⟩] none [2, 3, 4, 6, 14, 15, 16, 50])
     (.cond (.t 50)
      (.seq (.region [⟨(some 7), none, .asg (.c (.i .i64 1))⟩] none [2, 3, 4, 6, 7, 14, 15, 16])
      (.block 3
       (.loop [2, 3, 4, 6, 7, 14, 15, 16] ir_roles_newGrammar_L1)))
      .skip))))))))))
 (.region [⟨(some 115), none, .bin .add (.t 16) (.c (.i .i64 1))⟩,
   ⟨(some 16), none, .mov (.t 115)⟩] none [2, 3, 4, 14, 15, 16]))))
theorem newL0_eq : ir_roles_newGrammar_L0 = newL0 := rfl
@[simp] theorem gheap_3 (s : St) (R : RT) (S : List Rul) : (gHeap s R S)[s.length + 3]? = some (.map (seenM S)) := st4_3
theorem gheap_seen (s : St) (R : RT) (S S' : List Rul) : (gHeap s R S).set (s.length + 3) (.map (seenM S')) = gHeap s R S' := st4_s3
theorem few4_rule {n : Nat} {p : Rul} {st : RT × List Rul} (h : Few4 n st.1) : Few4 (n + 2) (addRule st p).1 := by
  unfold addRule
  split
  · exact fun q hq => ⟨by have := (h q hq).1; omega, (h q hq).2⟩
  · exact few4_add (by simp) (few4_add (by simp) h)
theorem cell_rule {b : Nat} {p : Rul} {st : RT × List Rul} {x : List UInt8} : cellT 3 b (addRule st p).1 x = cellT 3 b st.1 x := by
  unfold addRule
  split
  · rfl
  · rw [cellT_add_ne (by decide), cellT_add_ne (by decide)]
theorem l_newG1 (s : St) (cx : Ctx) (hcx : cx.lim ≤ s.length ∧ cx.base ≤ s.length) (x : Ax) (hf : x.Few) (h4 : x.roles.length ≤ 4) (rv : AV) (cs : List AV) (h12 : cs[12]? = some (.sl (x.roles.map .s))) (h13 : cs[13]? = some (.s x.role)) (a14 : AV) (i1 i2 : Int) (b2 : List AV) :
    ∀ (n m B : Nat) (R : RT) (S : List Rul), m + n = x.roles.length → 1 ≤ m → Few4 B R → B + 2 * n ≤ 90000 →
    ∃ j : Int, loopW (acodeW P0.glob (acallW P0) cx false ir_roles_newGrammar_L1) [2, 3, 4, 6, 7, 14, 15, 16]
      [(2, .bx b2), (3, .bx [.mp s.length, .mp (s.length + 1), .mp (s.length + 2), rv]), (4, .v (.mp (s.length + 3))), (6, .bx cs), (7, .v (.i .i64 m)), (14, .v a14), (15, .v (.i .i64 i1)), (16, .v (.i .i64 i2))] (gHeap s R S) =
      .exit 3 [(2, .bx b2), (3, .bx [.mp s.length, .mp (s.length + 1), .mp (s.length + 2), rv]), (4, .v (.mp (s.length + 3))), (6, .bx cs), (7, .v (.i .i64 j)), (14, .v a14), (15, .v (.i .i64 i1)), (16, .v (.i .i64 i2)), (56, .v (.b false))]
        (gHeap s (((List.range' m n).map (ruleAt x)).foldl addRule (R, S)).1 (((List.range' m n).map (ruleAt x)).foldl addRule (R, S)).2)
  | 0, m, B, R, S, h, h1, hR, hB => by
    have h2 : ¬ m < x.roles.length := by omega
    refine ⟨m, loop_step fun K hK => ?_⟩
    simp [newL1_eq, newL1, h12, h2]
  | n + 1, m, B, R, S, h, h1, hR, hB => by
    have h2 : m < x.roles.length := by omega
    have hwi := wI (i := m) (by omega)
    have hsec : x.roles.getD m [] = x.roles[m] := by simp [List.getD, List.getElem?_eq_getElem h2]
    have e1 := c_join46 (x.roles.take m) (by simp; omega) fun r hr => hf.rs r (List.mem_of_mem_take hr)
    have e2 := c_join46 (x.roles.take (m + 1)) (by simp; omega) fun r hr => hf.rs r (List.mem_of_mem_take hr)
    obtain ⟨j, ih⟩ := l_newG1 s cx hcx x hf h4 rv cs h12 h13 a14 i1 i2 b2 n (m + 1) (B + 2) (addRule (R, S) (ruleAt x m)).1 (addRule (R, S) (ruleAt x m)).2 (by omega) (by omega) (few4_rule hR) (by omega)
    have hfold : (((List.range' m (n + 1)).map (ruleAt x)).foldl addRule (R, S)) = (((List.range' (m + 1) n).map (ruleAt x)).foldl addRule ((addRule (R, S) (ruleAt x m)).1, (addRule (R, S) (ruleAt x m)).2)) := by
      rw [List.range'_succ]; rfl
    rw [hfold]
    refine ⟨j, loop_step fun K hK => ?_⟩
    have hKk : ∀ e t, K e t = K (keepE e [2, 3, 4, 6, 7, 14, 15, 16]) t := fun e t => by rw [hK]; exact loopW_keep _ _ _ _
    rw [← hK, show ((m + 1 : Nat) : Int) = (m : Int) + 1 from rfl] at ih
    clear hK hfold
    rw [← ih]
    clear ih
    have fs := find_seen (ruleAt x m) S
    have hlen : IntKind.i64.wrap ((x.roles.length : Int) - 1) = (x.roles.length : Int) - 1 := by
      unfold IntKind.wrap; simp [IntKind.bits, IntKind.signed]; omega
    have t1 : m ≤ x.roles.length := by omega
    have t2 : m + 1 ≤ x.roles.length := by omega
    have t3 : (m : Int) + 1 ≤ x.roles.length := by omega
    have t4 : ((m : Int) + 1).toNat = m + 1 := by omega
    have t5 : (0 : Int) ≤ (m : Int) + 1 := by omega
    simp at e1 e2
    by_cases hl : m = x.roles.length - 1
    · have hl1 : ((m : Int) = (x.roles.length : Int) - 1) = True := eq_true (by omega)
      have hp : ruleAt x m = ⟨jn (x.roles.take m), x.roles[m], x.role⟩ := by simp only [ruleAt, hsec]; rw [if_pos hl]
      rw [hp] at fs ⊢
      by_cases hs : (⟨jn (x.roles.take m), x.roles[m], x.role⟩ : Rul) ∈ S
      · have ha : addRule (R, S) ⟨jn (x.roles.take m), x.roles[m], x.role⟩ = (R, S) := by simp only [addRule]; rw [if_pos hs]
        rw [ha]
        rw [if_pos hs] at fs
        simp only [encR] at fs
        simp [allStr, fillC, newL1_eq, newL1, h12, h13, h2, hwi, e1, e2, hlen, t1, t2, t3, t4, t5, hl1, fs, keyK]
      · have ha : addRule (R, S) ⟨jn (x.roles.take m), x.roles[m], x.role⟩ = (addT 2 (addT 1 R (jn (x.roles.take m)) (encR ⟨jn (x.roles.take m), x.roles[m], x.role⟩)) x.roles[m] (encR ⟨jn (x.roles.take m), x.roles[m], x.role⟩), S ++ [⟨jn (x.roles.take m), x.roles[m], x.role⟩]) := by simp only [addRule]; rw [if_neg hs]
        rw [ha]
        rw [if_neg hs] at fs
        have fm := mput_seen hs
        have hA := newG_A s cx hcx ⟨jn (x.roles.take m), x.roles[m], x.role⟩ R (S ++ [⟨jn (x.roles.take m), x.roles[m], x.role⟩]) B (by omega) hR rv rv cs a14 m i1 i2 b2
        have hB' := newG_B s cx hcx ⟨jn (x.roles.take m), x.roles[m], x.role⟩ (addT 1 R (jn (x.roles.take m)) (encR ⟨jn (x.roles.take m), x.roles[m], x.role⟩)) (S ++ [⟨jn (x.roles.take m), x.roles[m], x.role⟩]) (B + 1) (by omega) (few4_add (by simp) hR) rv rv cs a14 m i1 i2 b2
        have g2 := gheap_seen s R S (S ++ [⟨jn (x.roles.take m), x.roles[m], x.role⟩])
        generalize hR1 : addT 1 R (jn (x.roles.take m)) (encR ⟨jn (x.roles.take m), x.roles[m], x.role⟩) = R1 at hA hB' ⊢
        generalize hR2 : addT 2 R1 x.roles[m] (encR ⟨jn (x.roles.take m), x.roles[m], x.role⟩) = R2 at hB' ⊢
        generalize hS' : S ++ [⟨jn (x.roles.take m), x.roles[m], x.role⟩] = S' at hA hB' fm g2 ⊢
        simp only [encR] at fs fm
        simp at hA hB'
        have hl3 : cx.lim ≤ s.length + 3 := by omega
        have hb3 : cx.base ≤ s.length + 3 := by omega
        simp [allStr, fillC, newL1_eq, newL1, h12, h13, h2, hwi, e1, e2, hlen, t1, t2, t3, t4, t5, hl1, fs, fm, hA, hB', g2, hl3, hb3, keyK]
    · have hl1 : ¬ (m : Int) = (x.roles.length : Int) - 1 := by omega
      have hp : ruleAt x m = ⟨jn (x.roles.take m), x.roles[m], jn (x.roles.take (m + 1))⟩ := by simp only [ruleAt, hsec]; rw [if_neg hl]
      rw [hp] at fs ⊢
      by_cases hs : (⟨jn (x.roles.take m), x.roles[m], jn (x.roles.take (m + 1))⟩ : Rul) ∈ S
      · have ha : addRule (R, S) ⟨jn (x.roles.take m), x.roles[m], jn (x.roles.take (m + 1))⟩ = (R, S) := by simp only [addRule]; rw [if_pos hs]
        rw [ha]
        rw [if_pos hs] at fs
        simp only [encR] at fs
        simp [allStr, fillC, newL1_eq, newL1, h12, h13, h2, hwi, e1, e2, hlen, t1, t2, t3, t4, t5, hl1, fs, keyK]
      · have ha : addRule (R, S) ⟨jn (x.roles.take m), x.roles[m], jn (x.roles.take (m + 1))⟩ = (addT 2 (addT 1 R (jn (x.roles.take m)) (encR ⟨jn (x.roles.take m), x.roles[m], jn (x.roles.take (m + 1))⟩)) x.roles[m] (encR ⟨jn (x.roles.take m), x.roles[m], jn (x.roles.take (m + 1))⟩), S ++ [⟨jn (x.roles.take m), x.roles[m], jn (x.roles.take (m + 1))⟩]) := by simp only [addRule]; rw [if_neg hs]
        rw [ha]
        rw [if_neg hs] at fs
        have fm := mput_seen hs
        have hA := newG_A s cx hcx ⟨jn (x.roles.take m), x.roles[m], jn (x.roles.take (m + 1))⟩ R (S ++ [⟨jn (x.roles.take m), x.roles[m], jn (x.roles.take (m + 1))⟩]) B (by omega) hR rv rv cs a14 m i1 i2 b2
        have hB' := newG_B s cx hcx ⟨jn (x.roles.take m), x.roles[m], jn (x.roles.take (m + 1))⟩ (addT 1 R (jn (x.roles.take m)) (encR ⟨jn (x.roles.take m), x.roles[m], jn (x.roles.take (m + 1))⟩)) (S ++ [⟨jn (x.roles.take m), x.roles[m], jn (x.roles.take (m + 1))⟩]) (B + 1) (by omega) (few4_add (by simp) hR) rv rv cs a14 m i1 i2 b2
        have g2 := gheap_seen s R S (S ++ [⟨jn (x.roles.take m), x.roles[m], jn (x.roles.take (m + 1))⟩])
        generalize hR1 : addT 1 R (jn (x.roles.take m)) (encR ⟨jn (x.roles.take m), x.roles[m], jn (x.roles.take (m + 1))⟩) = R1 at hA hB' ⊢
        generalize hR2 : addT 2 R1 x.roles[m] (encR ⟨jn (x.roles.take m), x.roles[m], jn (x.roles.take (m + 1))⟩) = R2 at hB' ⊢
        generalize hS' : S ++ [⟨jn (x.roles.take m), x.roles[m], jn (x.roles.take (m + 1))⟩] = S' at hA hB' fm g2 ⊢
        simp only [encR] at fs fm
        simp at hA hB'
        have hl3 : cx.lim ≤ s.length + 3 := by omega
        have hb3 : cx.base ≤ s.length + 3 := by omega
        simp [allStr, fillC, newL1_eq, newL1, h12, h13, h2, hwi, e1, e2, hlen, t1, t2, t3, t4, t5, hl1, fs, fm, hA, hB', g2, hl3, hb3, keyK]
end Go.Ai.Z
namespace Go.Ai.Z
def grA (st : RT × List Rul) (x : Ax) : RT × List Rul :=
  if x.kind = 5 then (addT 0 st.1 (x.roles.headD []) (.s x.role), st.2)
  else if x.kind = 7 then (addT 3 st.1 [] (.s x.role), st.2)
  else if x.kind = 6 then ((List.range' 1 (x.roles.length - 1)).map (ruleAt x)).foldl addRule st else st
theorem few4_mono {n m : Nat} (h : n ≤ m) {R : RT} (hR : Few4 n R) : Few4 m R := fun p hp => ⟨by have := (hR p hp).1; omega, (hR p hp).2⟩
theorem few4_fold {n : Nat} : ∀ {L : List Rul} {st : RT × List Rul}, Few4 n st.1 → Few4 (n + 2 * L.length) (L.foldl addRule st).1
  | [], _, h => h
  | p :: L, st, h => by
    have := few4_fold (L := L) (few4_rule (p := p) h)
    simp only [List.foldl_cons, List.length_cons]
    exact few4_mono (by omega) this
theorem cell_fold {b : Nat} {x : List UInt8} : ∀ {L : List Rul} {st : RT × List Rul}, cellT 3 b (L.foldl addRule st).1 x = cellT 3 b st.1 x
  | [], _ => rfl
  | p :: L, st => by simp only [List.foldl_cons]; rw [cell_fold, cell_rule]
structure GrOK (l : List Ax) : Prop where
  few : ∀ x ∈ l, x.Few
  one : One5 l
  two : ∀ x ∈ l, x.kind = 6 → 2 ≤ x.roles.length ∧ x.roles.length ≤ 4
theorem l_newG0 (s : St) (cx : Ctx) (hcx : cx.lim ≤ s.length ∧ cx.base ≤ s.length) (z : Bool) (l : List Ax) (hl : l.length ≤ 1000) (hG : GrOK l) (b2 : List AV) :
    ∀ (rest : List Ax) (i B : Nat) (R : RT) (S : List Rul), l.drop i = rest → Few4 B R → B + 8 * rest.length ≤ 80000 →
    ∃ j : Int, loopW (acodeW P0.glob (acallW P0) cx false ir_roles_newGrammar_L0) [2, 3, 4, 14, 15, 16]
      [(2, .bx b2), (3, .bx [.mp s.length, .mp (s.length + 1), .mp (s.length + 2), cellT 3 (s.length + 4) R []]), (4, .v (.mp (s.length + 3))), (14, .v (slf z (l.map encA))), (15, .v (.i .i64 l.length)), (16, .v (.i .i64 i))] (gHeap s R S) =
      .exit 0 [(2, .bx b2), (3, .bx [.mp s.length, .mp (s.length + 1), .mp (s.length + 2), cellT 3 (s.length + 4) (rest.foldl grA (R, S)).1 []]), (4, .v (.mp (s.length + 3))), (14, .v (slf z (l.map encA))), (15, .v (.i .i64 l.length)), (16, .v (.i .i64 j)), (17, .v (.b false))]
        (gHeap s (rest.foldl grA (R, S)).1 (rest.foldl grA (R, S)).2)
  | [], i, B, R, S, h, hR, hB => by
    have h1 : ¬ i < l.length := Nat.not_lt.2 (drop_nil h)
    refine ⟨i, loop_step fun K hK => ?_⟩
    simp [newL0_eq, newL0, h1]
  | p :: rest, i, B, R, S, h, hR, hB => by
    obtain ⟨g1, g2, g3, g4⟩ := drop_cons h
    have g5 := g4 g3
    have hwi := wI (i := i) (by omega)
    have hp : p ∈ l := by rw [← g5]; exact List.getElem_mem g3
    simp only [List.length_cons] at hB
    by_cases h5 : p.kind = 5
    · obtain ⟨r0, hr0⟩ := hG.one p hp h5
      have hg : grA (R, S) p = (addT 0 R r0 (.s p.role), S) := by simp [grA, h5, hr0]
      have hU := newG_U s cx hcx r0 p.role R S B (by omega) hR (cellT 3 (s.length + 4) R []) (cellsA p) (by simp [cellsA, hr0]) (by simp [cellsA]) (slf z (l.map encA)) p.kind l.length i b2
      obtain ⟨j, ih⟩ := l_newG0 s cx hcx z l hl hG b2 rest (i + 1) (B + 1) (addT 0 R r0 (.s p.role)) S g2 (few4_add (by simp) hR) (by omega)
      rw [cellT_add_ne (by decide)] at ih
      simp only [List.foldl_cons, hg]
      refine ⟨j, loop_step fun K hK => ?_⟩
      rw [← hK, show ((i + 1 : Nat) : Int) = (i : Int) + 1 from rfl] at ih
      clear hK g4 hG
      simp [cellsA, hr0, h5] at hU
      simp [newL0_eq, newL0, g3, g5, hwi, h5, hr0, hU, ih]
    · by_cases h7 : p.kind = 7
      · have hg : grA (R, S) p = (addT 3 R [] (.s p.role), S) := by simp [grA, h7]
        have hU := newG_R s cx hcx p.role R S B (by omega) hR (cellsA p) (by simp [cellsA]) (slf z (l.map encA)) p.kind l.length i b2
        obtain ⟨j, ih⟩ := l_newG0 s cx hcx z l hl hG b2 rest (i + 1) (B + 1) (addT 3 R [] (.s p.role)) S g2 (few4_add (by simp) hR) (by omega)
        simp only [List.foldl_cons, hg]
        refine ⟨j, loop_step fun K hK => ?_⟩
        rw [← hK, show ((i + 1 : Nat) : Int) = (i : Int) + 1 from rfl] at ih
        clear hK g4 hG
        simp [cellsA, h7] at hU
        simp [newL0_eq, newL0, g3, g5, hwi, h7, hU, ih]
      · by_cases h6 : p.kind = 6
        · obtain ⟨k2, k4⟩ := hG.two p hp h6
          have hne : p.roles ≠ [] := fun h0 => by rw [h0] at k2; simp at k2
          have hsl : slf p.z (p.roles.map AV.s) = .sl (p.roles.map .s) := by
            rcases slf_cases p.z (p.roles.map AV.s) with hs | ⟨_, hs2⟩
            · exact hs
            · exact absurd (by simpa using hs2) hne
          have hg : grA (R, S) p = ((List.range' 1 (p.roles.length - 1)).map (ruleAt p)).foldl addRule (R, S) := by simp [grA, h6]
          obtain ⟨j1, hL⟩ := l_newG1 s cx hcx p (hG.few p hp) k4 (cellT 3 (s.length + 4) R []) (cellsA p) (by simp [cellsA, hsl]) (by simp [cellsA]) (slf z (l.map encA)) l.length i b2 (p.roles.length - 1) 1 B R S (by omega) (Nat.le_refl _) hR (by omega)
          have hc := cell_fold (b := s.length + 4) (x := []) (L := (List.range' 1 (p.roles.length - 1)).map (ruleAt p)) (st := (R, S))
          have hfw := few4_fold (L := (List.range' 1 (p.roles.length - 1)).map (ruleAt p)) (st := (R, S)) hR
          simp only [List.length_map, List.length_range'] at hfw
          simp only [List.foldl_cons, hg]
          generalize hst : ((List.range' 1 (p.roles.length - 1)).map (ruleAt p)).foldl addRule (R, S) = st at hL hc hfw ⊢
          obtain ⟨R1, S1⟩ := st
          obtain ⟨j, ih⟩ := l_newG0 s cx hcx z l hl hG b2 rest (i + 1) (B + 8) R1 S1 g2 (few4_mono (by omega) hfw) (by omega)
          simp only at hc
          rw [hc] at ih
          refine ⟨j, loop_step fun K hK => ?_⟩
          have hKk : ∀ e t, K e t = K (keepE e [2, 3, 4, 14, 15, 16]) t := fun e t => by rw [hK]; exact loopW_keep _ _ _ _
          rw [← hK, show ((i + 1 : Nat) : Int) = (i : Int) + 1 from rfl] at ih
          clear hK g4 hG
          simp [cellsA, hsl, h6] at hL
          simp [newL0_eq, newL0, g3, g5, hwi, h6, hsl, hL, ih]
        · have hg : grA (R, S) p = (R, S) := by simp [grA, h5, h6, h7]
          obtain ⟨j, ih⟩ := l_newG0 s cx hcx z l hl hG b2 rest (i + 1) B R S g2 hR (by omega)
          simp only [List.foldl_cons, hg]
          refine ⟨j, loop_step fun K hK => ?_⟩
          have hKk : ∀ e t, K e t = K (keepE e [2, 3, 4, 14, 15, 16]) t := fun e t => by rw [hK]; exact loopW_keep _ _ _ _
          rw [← hK, show ((i + 1 : Nat) : Int) = (i : Int) + 1 from rfl] at ih
          clear hK g4 hG
          simp [newL0_eq, newL0, g3, g5, hwi, h5, h6, h7, ih]
end Go.Ai.Z
