/-
  Axioms: their statements, as the reference writes them.
-/
import Derived.Test.YtglcpbgdkaeenaaGreatDoorAiK11
import Derived.Test.YtglcpbgdkaeenaaGreatDoorAiK12
set_option maxRecDepth 100000
set_option linter.unusedSimpArgs false
set_option linter.unusedVariables false
namespace Go.Ai.Z

def statS (x : Ax) : List UInt8 :=
  if x.kind = 1 then textS x.left ++ [32, 115, 117, 98, 32] ++ textS x.right
  else if x.kind = 2 then textS x.left ++ [32, 115, 97, 109, 101, 32] ++ textS x.right
  else if x.kind = 3 then textS x.left ++ [32, 100, 105, 115, 106, 111, 105, 110, 116, 32] ++ textS x.right
  else if x.kind = 4 then [100, 111, 109, 97, 105, 110, 32] ++ x.role ++ [32] ++ textS x.right
  else if x.kind = 5 then [114, 111, 108, 101, 32] ++ x.roles.headD [] ++ [32, 115, 117, 98, 32] ++ x.role
  else if x.kind = 7 then [114, 101, 102, 108, 101, 120, 105, 118, 101, 32] ++ x.role
  else if x.kind = 8 then [116, 121, 112, 101, 32] ++ x.a ++ [32] ++ textS x.right
  else if x.kind = 9 then [108, 105, 110, 107, 32] ++ x.a ++ [32] ++ x.role ++ [32] ++ x.b
  else [99, 104, 97, 105, 110] ++ x.roles.flatMap (fun r => 32 :: r) ++ [32, 115, 117, 98, 32] ++ x.role
def axS (x : Ax) : List UInt8 :=
  if x.kind = 5 ∨ x.kind = 6 ∨ x.kind = 7 then (if x.op = true then statS x else [112, 114, 105, 118, 97, 116, 101, 32] ++ statS x)
  else (if x.op = true then [111, 112, 101, 110, 32] ++ statS x else statS x)

/-- What is sound of a checked axiom. -/
structure Ax.Good (x : Ax) : Prop where
  k : x.kind = 1 ∨ x.kind = 2 ∨ x.kind = 3 ∨ x.kind = 4 ∨ x.kind = 5 ∨ x.kind = 6 ∨ x.kind = 7 ∨ x.kind = 8 ∨ x.kind = 9
  l : x.kind = 1 ∨ x.kind = 2 ∨ x.kind = 3 → walkS x.left = 0
  r : x.kind = 1 ∨ x.kind = 2 ∨ x.kind = 3 ∨ x.kind = 4 ∨ x.kind = 8 → walkS x.right = 0
  r5 : x.kind = 5 → x.roles.length = 1
  r6 : x.kind = 6 → 2 ≤ x.roles.length ∧ x.roles.length ≤ 4

theorem walk_of {c : C} (h : checkS c = 0) : walkS c = 0 := by
  unfold checkS at h; split at h
  · cases h
  · exact h
theorem good {x : Ax} (h : checkAS x = 0) : x.Good := by
  unfold checkAS at h
  split at h
  · cases h
  split at h
  · cases h
  rename_i hs hn
  have hs : shapedS x = true := by simpa using hs
  unfold tailK at h
  split at h
  · rename_i q; exact absurd h q.2
  split at h
  · rename_i q; exact absurd h q.2
  rename_i ql qr
  have hk : 1 ≤ x.kind ∧ x.kind ≤ 9 := by simp [shapedS, kindOK] at hs; omega
  have hr : (useS x.kind).lo ≤ x.roles.length ∧ (x.roles.length : Int) ≤ (useS x.kind).hi := by
    simp only [shapedS, Bool.and_eq_true, decide_eq_true_eq] at hs; exact ⟨hs.1.2, hs.2⟩
  have hk9 : x.kind = 1 ∨ x.kind = 2 ∨ x.kind = 3 ∨ x.kind = 4 ∨ x.kind = 5 ∨ x.kind = 6 ∨ x.kind = 7 ∨ x.kind = 8 ∨ x.kind = 9 := by omega
  refine ⟨hk9, fun q => ?_, fun q => ?_, fun q => ?_, fun q => ?_⟩
  · have hu : (useS x.kind).l = true := by rcases q with q | q | q <;> rw [q] <;> rfl
    exact walk_of (Classical.not_not.1 fun e => ql ⟨hu, e⟩)
  · have hu : (useS x.kind).r = true := by rcases q with q | q | q | q | q <;> rw [q] <;> rfl
    exact walk_of (Classical.not_not.1 fun e => qr ⟨hu, e⟩)
  · rw [q] at hr; simp [useS] at hr; omega
  · rw [q] at hr; simp [useS] at hr; omega

theorem l_ref04_statement (s : St) (cx : Ctx) (z : Bool) (roles : List (List UInt8)) (hl : roles.length ≤ 600) (cs : List AV) (hcs : cs[12]? = some (slf z (roles.map .s))) (hb : ∀ r ∈ roles, r.length ≤ 600) :
    ∀ (rest : List (List UInt8)) (i : Nat) (t : List UInt8), roles.drop i = rest → t.length + rest.length * 601 ≤ 1000000 →
    ∃ j : Int, loopW (acodeW P0.glob (acallW P0) cx false ir_ref04_statement_L0) [1, 3, 4] [(1, .bx cs), (3, .v (.s t)), (4, .v (.i .i64 i))] s =
      .exit 1 [(1, .bx cs), (3, .v (.s (t ++ rest.flatMap fun r => 32 :: r))), (4, .v (.i .i64 j)), (90, .v (.b false))] s
  | [], i, t, h, ht => by
    have h1 : ¬ i < roles.length := Nat.not_lt.2 (drop_nil h)
    refine ⟨i, loop_step fun K hK => ?_⟩
    simp [ir_ref04_statement_L0, hcs, h1]
  | p :: r, i, t, h, ht => by
    obtain ⟨h1, h2, h3, h4⟩ := drop_cons h
    have h5 := h4 h3
    have hp := hb p (by rw [← h5]; exact List.getElem_mem h3)
    have hwi := wI (i := i) (by omega)
    simp only [List.length_cons] at ht
    obtain ⟨j, ih2⟩ := l_ref04_statement s cx z roles hl cs hcs hb r (i + 1) (t ++ [32] ++ p) h2 (by simp; omega)
    refine ⟨j, loop_step fun K hK => ?_⟩
    rw [← hK] at ih2
    clear hK h4
    simp at ih2
    have l1 : t.length + 1 ≤ 4611686018427387904 := by omega
    have l2 : t.length + (p.length + 1) ≤ 4611686018427387904 := by omega
    simp [ir_ref04_statement_L0, hcs, h3, h5, hwi, l1, l2, ih2]

theorem text_lt {c : C} (hw : wC c ≤ 150) (hv : walkS c = 0) : (textS c).length ≤ 20000 := by have := text_len c hv; omega

set_option maxHeartbeats 4000000 in
theorem c_ref04_statement (x : Ax) (hx : x.Few) (hg : x.Good) (s : St) (cx : Ctx) : acallW P0 (.fn (.func F_ref04_statement) [] []) [encA x] s cx = .ret (.s (statS x)) s := by
  refine go_ref04_statement (by simp) ?_
  obtain ⟨j, h6⟩ := l_ref04_statement s ⟨s.length, s.length⟩ x.z x.roles hx.roles (cellsA x) rfl hx.rs x.roles 0 [99, 104, 97, 105, 110] rfl (by have := hx.roles; simp; omega)
  simp [cellsA] at h6
  have hro := hx.role
  have ha := hx.a
  have hbb := hx.b
  have el : walkS x.left = 0 → _ := fun h => c_ref04_Text x.left (by have := hx.l; omega) h
  have er : walkS x.right = 0 → _ := fun h => c_ref04_Text x.right (by have := hx.r; omega) h
  have ll : walkS x.left = 0 → _ := fun h => text_lt hx.l h
  have lr : walkS x.right = 0 → _ := fun h => text_lt hx.r h
  unfold statS
  rcases hg.k with k | k | k | k | k | k | k | k | k
  all_goals
    have d1 := dk 1 k
    have d2 := dk 2 k
    have d3 := dk 3 k
    have d4 := dk 4 k
    have d5 := dk 5 k
    have d7 := dk 7 k
    have d8 := dk 8 k
    have d9 := dk 9 k
    have p1 := pk 1 k
    have p2 := pk 2 k
    have p3 := pk 3 k
    have p4 := pk 4 k
    have p5 := pk 5 k
    have p7 := pk 7 k
    have p8 := pk 8 k
    have p9 := pk 9 k
    simp only [p1, p2, p3, p4, p5, p7, p8, p9]
    simp only [Int.reduceEq, if_true, if_false]
  · have el := el (hg.l (by omega)); have er := er (hg.r (by omega)); have ll := ll (hg.l (by omega)); have lr := lr (hg.r (by omega))
    clear hg k
    simp [callFnW, ir_ref04_statement, d1, d2, d3, d4, d5, d7, d8, d9, el, er]
    repeat' (first | (split <;> (try simp only [opT_go, opF_go, cdT_go, qT_go, qN_go]) <;> (try simp [*])) | (simp only [opT_go, opF_go, cdT_go, qT_go, qN_go] <;> (try simp [*])) | omega)
  · have el := el (hg.l (by omega)); have er := er (hg.r (by omega)); have ll := ll (hg.l (by omega)); have lr := lr (hg.r (by omega))
    clear hg k
    simp [callFnW, ir_ref04_statement, d1, d2, d3, d4, d5, d7, d8, d9, el, er]
    repeat' (first | (split <;> (try simp only [opT_go, opF_go, cdT_go, qT_go, qN_go]) <;> (try simp [*])) | (simp only [opT_go, opF_go, cdT_go, qT_go, qN_go] <;> (try simp [*])) | omega)
  · have el := el (hg.l (by omega)); have er := er (hg.r (by omega)); have ll := ll (hg.l (by omega)); have lr := lr (hg.r (by omega))
    clear hg k
    simp [callFnW, ir_ref04_statement, d1, d2, d3, d4, d5, d7, d8, d9, el, er]
    repeat' (first | (split <;> (try simp only [opT_go, opF_go, cdT_go, qT_go, qN_go]) <;> (try simp [*])) | (simp only [opT_go, opF_go, cdT_go, qT_go, qN_go] <;> (try simp [*])) | omega)
  · have er := er (hg.r (by omega)); have lr := lr (hg.r (by omega))
    clear hg k el ll
    simp [callFnW, ir_ref04_statement, d1, d2, d3, d4, d5, d7, d8, d9, er]
    repeat' (first | (split <;> (try simp only [opT_go, opF_go, cdT_go, qT_go, qN_go]) <;> (try simp [*])) | (simp only [opT_go, opF_go, cdT_go, qT_go, qN_go] <;> (try simp [*])) | omega)
  · have hr := hg.r5 k
    rcases hps : x.roles with _ | ⟨a, _ | ⟨b, r⟩⟩
    · simp [hps] at hr
    · have hal := hx.rs a (by simp [hps])
      clear hg k el ll er lr h6
      simp [callFnW, ir_ref04_statement, d1, d2, d3, d4, d5, d7, d8, d9, hps]
      repeat' (first | (split <;> (try simp only [opT_go, opF_go, cdT_go, qT_go, qN_go]) <;> (try simp [*])) | (simp only [opT_go, opF_go, cdT_go, qT_go, qN_go] <;> (try simp [*])) | omega)
    · simp [hps] at hr
  · have hfl : (x.roles.flatMap fun r => 32 :: r).length ≤ 600 * 601 := by
      have : ∀ l : List (List UInt8), (∀ r ∈ l, r.length ≤ 600) → (l.flatMap fun r => 32 :: r).length ≤ l.length * 601 := by
        intro l; induction l with
        | nil => simp
        | cons a t ih => intro h; have h1 := h a (by simp); have h2 := ih (fun r hr => h r (by simp [hr])); simp only [List.flatMap_cons, List.length_append, List.length_cons]; omega
      have := this x.roles hx.rs; have := hx.roles; omega
    clear hg k el ll er lr
    generalize (x.roles.flatMap fun r => 32 :: r) = fl at h6 hfl ⊢
    simp [callFnW, ir_ref04_statement, d1, d2, d3, d4, d5, d7, d8, d9, h6]
    repeat' (first | (split <;> (try simp only [opT_go, opF_go, cdT_go, qT_go, qN_go]) <;> (try simp [*])) | (simp only [opT_go, opF_go, cdT_go, qT_go, qN_go] <;> (try simp [*])) | omega)
  · clear hg k el ll er lr
    simp [callFnW, ir_ref04_statement, d1, d2, d3, d4, d5, d7, d8, d9]
    repeat' (first | (split <;> (try simp only [opT_go, opF_go, cdT_go, qT_go, qN_go]) <;> (try simp [*])) | (simp only [opT_go, opF_go, cdT_go, qT_go, qN_go] <;> (try simp [*])) | omega)
  · have er := er (hg.r (by omega)); have lr := lr (hg.r (by omega))
    clear hg k el ll
    simp [callFnW, ir_ref04_statement, d1, d2, d3, d4, d5, d7, d8, d9, er]
    repeat' (first | (split <;> (try simp only [opT_go, opF_go, cdT_go, qT_go, qN_go]) <;> (try simp [*])) | (simp only [opT_go, opF_go, cdT_go, qT_go, qN_go] <;> (try simp [*])) | omega)
  · clear hg k el ll er lr
    simp [callFnW, ir_ref04_statement, d1, d2, d3, d4, d5, d7, d8, d9]
    repeat' (first | (split <;> (try simp only [opT_go, opF_go, cdT_go, qT_go, qN_go]) <;> (try simp [*])) | (simp only [opT_go, opF_go, cdT_go, qT_go, qN_go] <;> (try simp [*])) | omega)
end Go.Ai.Z
