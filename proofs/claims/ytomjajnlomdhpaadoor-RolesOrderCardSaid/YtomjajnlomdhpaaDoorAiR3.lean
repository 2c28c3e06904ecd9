/-
  roles.Above and the reference's Above: what is reached.
-/
import Derived.Test.YtomjajnlomdhpaaDoorAiR1
import Derived.Test.YtomjajnlomdhpaaDoorAiR2
set_option maxRecDepth 100000
set_option linter.unusedSimpArgs false
set_option linter.unusedVariables false
namespace Go.Ai.Z

theorem c_ref02_FewAxioms12 (z : Bool) (l : List Ax) (hl : l.length ≤ 1125899906842624) (hx : ∀ x ∈ l, x.Ok) : ∃ b : Bool, (∀ s cx, acallW P0 (.fn (.func F_ref02_FewAxioms) [] []) [slf z (l.map encA), .i .i64 12] s cx = .ret (.b b) s) ∧ (b = true → l.length ≤ 12 ∧ ∀ x ∈ l, x.Few) := by
  by_cases h : l.length ≤ 12
  · have c1 : ¬ ((12 : Int) < l.length) := by omega
    obtain ⟨b, j, e, q⟩ := l_ref02_FewAxioms z l (by omega) hx l 0 rfl
    refine ⟨b, fun s cx => go_ref02_FewAxioms (by simp) ?_, fun hb => ⟨h, q hb⟩⟩
    simp at e
    cases b <;> simp [callFnW, ir_ref02_FewAxioms, c1, e]
  · have c1 : (12 : Int) < l.length := by omega
    refine ⟨false, fun s cx => go_ref02_FewAxioms (by simp) ?_, fun h => by cases h⟩
    simp [callFnW, ir_ref02_FewAxioms, c1]
theorem c_law06_few (z : Bool) (l : List Ax) (hl : l.length ≤ 1125899906842624) (hx : ∀ x ∈ l, x.Ok) : ∃ b : Bool, (∀ s cx, acallW P0 (.fn (.func F_law06_few) [] []) [slf z (l.map encA)] s cx = .ret (.b b) s) ∧ (b = true → l.length ≤ 12 ∧ ∀ x ∈ l, x.Few) := by
  obtain ⟨b, e, q⟩ := c_ref02_FewAxioms12 z l hl hx
  refine ⟨b, fun s cx => go_law06_few (by simp) ?_, q⟩
  simp [callFnW, ir_law06_few, e]

/-! ### The edges -/

def edU (l : List Ax) : List (List UInt8 × List UInt8) := l.filterMap fun x => if x.kind = 5 then some (x.roles.headD [], x.role) else none
theorem edU_cons5 {x : Ax} {l : List Ax} (h : x.kind = 5) : edU (x :: l) = (x.roles.headD [], x.role) :: edU l := by simp [edU, h]
theorem edU_consN {x : Ax} {l : List Ax} (h : ¬ x.kind = 5) : edU (x :: l) = edU l := by simp [edU, h]
theorem edU_len (l : List Ax) : (edU l).length ≤ l.length := List.length_filterMap_le _ _

/-- A sub-role axiom has one role on its left. -/
def One5 (l : List Ax) : Prop := ∀ x ∈ l, x.kind = 5 → ∃ r, x.roles = [r]
theorem one5_of {x : Ax} (h : checkAS x = 0) (h5 : x.kind = 5) : ∃ r, x.roles = [r] := by
  have hs : shapedS x = true := by
    unfold checkAS at h
    split at h
    · cases h
    · rename_i hn; simpa using hn
  have : 1 ≤ x.roles.length ∧ x.roles.length ≤ 1 := by
    simp [shapedS, kindOK, h5, useS] at hs
    omega
  match h1 : x.roles with
  | [] => rw [h1] at this; simp at this
  | [r] => exact ⟨r, rfl⟩
  | _ :: _ :: _ => rw [h1] at this; simp at this
theorem chkL_mem : ∀ {l : List Ax}, chkL l = 0 → ∀ x ∈ l, checkAS x = 0
  | [], _, x, hx => by cases hx
  | y :: l, h, x, hx => by
    unfold chkL at h
    split at h
    · rcases List.mem_cons.1 hx with rfl | hx
      · assumption
      · exact chkL_mem h x hx
    · contradiction
theorem one5_all {l : List Ax} (h : chkL l = 0) : One5 l := fun x hx h5 => one5_of (chkL_mem h x hx) h5

/-! ### The map of a role's roles -/

abbrev SM := List (List UInt8 × List (List UInt8))
def esG : Nat → SM → List (AV × AV)
  | _, [] => []
  | b, p :: G => (.s p.1, .st b (p.2.map .s)) :: esG (b + 1) G
def rowG (G : SM) : St := G.map fun p => .row T_string_0 1 p.2.length
def valG : SM → List UInt8 → List (List UInt8)
  | [], _ => []
  | p :: G, k => if p.1 = k then p.2 else valG G k
def addG : SM → List UInt8 → List UInt8 → SM
  | [], k, v => [(k, [v])]
  | p :: G, k, v => if p.1 = k then (p.1, p.2 ++ [v]) :: G else p :: addG G k v
def addsG (G : SM) (E : List (List UInt8 × List UInt8)) : SM := E.foldl (fun G p => addG G p.1 p.2) G

@[simp] theorem rowG_len (G : SM) : (rowG G).length = G.length := by simp [rowG]
theorem valG_add (k v x : List UInt8) : ∀ G : SM, valG (addG G k v) x = if k = x then valG G x ++ [v] else valG G x
  | [] => by simp [addG, valG]
  | p :: G => by
    have ih := valG_add k v x G
    by_cases h : p.1 = k
    · by_cases h2 : k = x
      · simp [addG, valG, h, h2]
      · have h3 : ¬ p.1 = x := by rw [h]; exact h2
        simp [addG, valG, h, h2]
    · by_cases h2 : p.1 = x
      · have h3 : ¬ k = x := fun h3 => h (by rw [h2, h3])
        have h4 : ¬ x = k := fun h4 => h3 h4.symm
        simp [addG, valG, h2, h3, h4]
      · simp [addG, valG, h, h2, ih]
theorem valG_adds (x : List UInt8) : ∀ (E : List (List UInt8 × List UInt8)) (G : SM), valG (addsG G E) x = valG G x ++ (E.filter fun p => decide (p.1 = x)).map (·.2)
  | [], G => by simp [addsG]
  | p :: E, G => by
    have ih := valG_adds x E (addG G p.1 p.2)
    simp only [addsG, List.foldl_cons] at ih ⊢
    rw [ih, valG_add]
    by_cases h : p.1 = x <;> simp [h]
theorem mem_valG {E : List (List UInt8 × List UInt8)} {k x : List UInt8} : x ∈ valG (addsG [] E) k ↔ (k, x) ∈ E := by
  rw [valG_adds]
  simp [valG]
theorem valG_len {E : List (List UInt8 × List UInt8)} {k : List UInt8} : (valG (addsG [] E) k).length ≤ E.length := by
  rw [valG_adds]
  simp [valG, List.length_filter_le]
theorem addG_len {n : Nat} (k v : List UInt8) : ∀ {G : SM}, (∀ p ∈ G, p.2.length ≤ n) → ∀ p ∈ addG G k v, p.2.length ≤ n + 1
  | [], _, p, hp => by simp [addG] at hp; subst hp; simp
  | q :: G, h, p, hp => by
    have hq := h q (by simp)
    have ih := addG_len k v (G := G) fun p hp => h p (by simp [hp])
    by_cases hk : q.1 = k
    · simp only [addG, hk, if_true, List.mem_cons] at hp
      rcases hp with rfl | hp
      · simp; omega
      · have := h p (by simp [hp]); omega
    · simp only [addG, hk, if_false, List.mem_cons] at hp
      rcases hp with rfl | hp
      · omega
      · exact ih p hp
theorem addG_new {k : List UInt8} (v : List UInt8) : ∀ {G : SM}, k ∉ G.map (·.1) → addG G k v = G ++ [(k, [v])]
  | [], _ => rfl
  | p :: G, h => by
    simp only [List.map_cons, List.mem_cons, not_or] at h
    have h1 : ¬ p.1 = k := fun e => h.1 e.symm
    simp [addG, h1, addG_new v h.2]
theorem addG_old {k : List UInt8} (v : List UInt8) : ∀ {G : SM}, k ∈ G.map (·.1) → ∃ G1 vs G2, G = G1 ++ (k, vs) :: G2 ∧ k ∉ G1.map (·.1) ∧ addG G k v = G1 ++ (k, vs ++ [v]) :: G2
  | [], h => by cases h
  | p :: G, h => by
    by_cases h1 : p.1 = k
    · refine ⟨[], p.2, G, ?_, by simp, ?_⟩
      · rw [← h1]; rfl
      · simp [addG, h1]
    · simp only [List.map_cons, List.mem_cons] at h
      have h2 := h.resolve_left fun e => h1 e.symm
      obtain ⟨G1, vs, G2, e1, e2, e3⟩ := addG_old v h2
      refine ⟨p :: G1, vs, G2, by rw [e1]; rfl, ?_, ?_⟩
      · simp only [List.map_cons, List.mem_cons, not_or]
        exact ⟨fun e => h1 e.symm, e2⟩
      · simp [addG, h1, e3]

theorem find_new {k : List UInt8} : ∀ {G : SM} (b : Nat), k ∉ G.map (·.1) → find 1 (.s k) (esG b G) = some none
  | [], _, _ => rfl
  | p :: G, b, h => by
    simp only [List.map_cons, List.mem_cons, not_or] at h
    have ih := find_new (b + 1) h.2
    simp [esG, find, keyEq, h.1, ih]
theorem find_old {k : List UInt8} {vs : List (List UInt8)} {G2 : SM} : ∀ {G1 : SM} (b : Nat), k ∉ G1.map (·.1) → find 1 (.s k) (esG b (G1 ++ (k, vs) :: G2)) = some (some (.st (b + G1.length) (vs.map .s)))
  | [], b, _ => by simp [esG, find, keyEq]
  | p :: G, b, h => by
    simp only [List.map_cons, List.mem_cons, not_or] at h
    have ih := find_old (vs := vs) (G2 := G2) (b + 1) h.2
    have e : b + 1 + G.length = b + (G.length + 1) := by omega
    rw [e] at ih
    simp [esG, find, keyEq, h.1, ih]
theorem mput_new {k : List UInt8} {vs : List (List UInt8)} : ∀ {G : SM} (b : Nat), k ∉ G.map (·.1) → mput 1 (.s k) (.st (b + G.length) (vs.map .s)) (esG b G) = some (esG b (G ++ [(k, vs)]))
  | [], _, _ => rfl
  | p :: G, b, h => by
    simp only [List.map_cons, List.mem_cons, not_or] at h
    have ih := mput_new (vs := vs) (b + 1) h.2
    have e : b + 1 + G.length = b + (G.length + 1) := by omega
    rw [e] at ih
    simp [esG, mput, keyEq, h.1, ih]
theorem mput_old {k : List UInt8} {vs ws : List (List UInt8)} {G2 : SM} : ∀ {G1 : SM} (b : Nat), k ∉ G1.map (·.1) → mput 1 (.s k) (.st (b + G1.length) (ws.map .s)) (esG b (G1 ++ (k, vs) :: G2)) = some (esG b (G1 ++ (k, ws) :: G2))
  | [], b, _ => by simp [esG, mput, keyEq]
  | p :: G, b, h => by
    simp only [List.map_cons, List.mem_cons, not_or] at h
    have ih := mput_old (vs := vs) (ws := ws) (G2 := G2) (b + 1) h.2
    have e : b + 1 + G.length = b + (G.length + 1) := by omega
    rw [e] at ih
    simp [esG, mput, keyEq, h.1, ih]
theorem mapS_G (b : Nat) (G : SM) : MapS (esG b G) (valG G) := by
  intro k
  by_cases h : k ∈ G.map (·.1)
  · obtain ⟨G1, vs, G2, e1, e2, e3⟩ := addG_old [] h
    clear e3
    refine ⟨_, by rw [e1]; exact find_old b e2, ?_⟩
    have : valG G k = vs := by
      rw [e1]; clear e1
      induction G1 with
      | nil => simp [valG]
      | cons p G1 ih =>
        simp only [List.map_cons, List.mem_cons, not_or] at e2
        have h1 : ¬ p.1 = k := fun e => e2.1 e.symm
        simp [valG, h1, ih e2.2]
    rw [this]
    exact .inr (.inr ⟨_, rfl⟩)
  · refine ⟨_, find_new b h, .inl ⟨rfl, ?_⟩⟩
    clear b
    induction G with
    | nil => rfl
    | cons p G ih =>
      simp only [List.map_cons, List.mem_cons, not_or] at h
      have h1 : ¬ p.1 = k := fun e => h.1 e.symm
      simp [valG, h1, ih h.2]

/-! ### What lies behind a place -/

@[simp] theorem stc_0 {s r : St} {a : HObj} : (s ++ a :: r)[s.length]? = some a := by simp
@[simp] theorem stc_set {s r : St} {a b : HObj} : (s ++ a :: r).set s.length b = s ++ b :: r := by simp
theorem stc_row {s r1 r2 : St} {a b : HObj} : (s ++ a :: (r1 ++ b :: r2))[s.length + 1 + r1.length]? = some b := by
  rw [show s.length + 1 + r1.length = s.length + (1 + r1.length) by omega, List.getElem?_append_right (by omega)]
  simp [show s.length + (1 + r1.length) - s.length = r1.length + 1 by omega]
theorem stc_rowset {s r1 r2 : St} {a b c : HObj} : (s ++ a :: (r1 ++ b :: r2)).set (s.length + 1 + r1.length) c = s ++ a :: (r1 ++ c :: r2) := by
  rw [show s.length + 1 + r1.length = s.length + (r1.length + 1) by omega, List.set_append, if_neg (by omega), show s.length + (r1.length + 1) - s.length = r1.length + 1 by omega]
  simp

theorem l_roles_Above (s : St) (role : List UInt8) (z : Bool) (l : List Ax) (hl : l.length ≤ 1000) (h5 : One5 l) (cx : Ctx) (hcx : cx.lim ≤ s.length ∧ cx.base ≤ s.length) :
    ∀ (rest : List Ax) (i : Nat) (G : SM), l.drop i = rest → (∀ p ∈ G, p.2.length ≤ i) →
    ∃ j : Int, loopW (acodeW P0.glob (acallW P0) cx false ir_roles_Above_L0) [1, 7, 18, 19, 20]
      [(1, .v (.s role)), (7, .v (.mp s.length)), (18, .v (slf z (l.map encA))), (19, .v (.i .i64 l.length)), (20, .v (.i .i64 i))] (s ++ .map (esG (s.length + 1) G) :: rowG G) =
      .exit 0 [(1, .v (.s role)), (7, .v (.mp s.length)), (18, .v (slf z (l.map encA))), (19, .v (.i .i64 l.length)), (20, .v (.i .i64 j)), (21, .v (.b false))] (s ++ .map (esG (s.length + 1) (addsG G (edU rest))) :: rowG (addsG G (edU rest)))
  | [], i, G, h, hG => by
    have h1 : ¬ i < l.length := Nat.not_lt.2 (drop_nil h)
    refine ⟨i, loop_step fun K hK => ?_⟩
    simp [ir_roles_Above_L0, h1, edU, addsG]
  | p :: r, i, G, h, hG => by
    obtain ⟨g1, g2, g3, g4⟩ := drop_cons h
    have g5 := g4 g3
    have hwi := wI (i := i) (by omega)
    have hp : p ∈ l := by rw [← g5]; exact List.getElem_mem g3
    by_cases hk : p.kind = 5
    · obtain ⟨r0, hr0⟩ := h5 p hp hk
      obtain ⟨j, ih⟩ := l_roles_Above s role z l hl h5 cx hcx r (i + 1) (addG G r0 p.role) g2 (addG_len r0 p.role hG)
      have e0 : addsG G (edU (p :: r)) = addsG (addG G r0 p.role) (edU r) := by rw [edU_cons5 hk, hr0]; rfl
      rw [e0]
      refine ⟨j, loop_step fun K hK => ?_⟩
      rw [← hK, show ((i + 1 : Nat) : Int) = (i : Int) + 1 from rfl] at ih
      clear hK g4 h5 e0
      by_cases hm : r0 ∈ G.map (·.1)
      · obtain ⟨G1, vs, G2, e1, e2, e3⟩ := addG_old p.role hm
        have hvs : vs.length ≤ i := hG (r0, vs) (by rw [e1]; simp)
        rw [e3] at ih ⊢
        have f1 := find_old (vs := vs) (G2 := G2) (s.length + 1) e2
        have f2 := mput_old (vs := vs) (ws := vs ++ [p.role]) (G2 := G2) (s.length + 1) e2
        have f3 := stc_row (s := s) (r1 := rowG G1) (r2 := rowG G2) (a := .map (esG (s.length + 1) (G1 ++ (r0, vs) :: G2))) (b := .row T_string_0 1 vs.length)
        have f4 := stc_rowset (s := s) (r1 := rowG G1) (r2 := rowG G2) (a := .map (esG (s.length + 1) (G1 ++ (r0, vs) :: G2))) (b := .row T_string_0 1 vs.length) (c := .row T_string_0 1 (vs.length + 1))
        have m1 : vs.length + 1 ≤ maxSl := by unfold maxSl; omega
        have hlim : cx.lim ≤ s.length + 1 + G1.length := by omega
        have k1 : ∀ (ws : List (List UInt8)), rowG (G1 ++ (r0, ws) :: G2) = rowG G1 ++ .row T_string_0 1 ws.length :: rowG G2 := fun ws => by simp [rowG]
        rw [rowG_len] at f3 f4
        subst e1
        rw [k1] at ih ⊢
        simp at f2 ih
        simp [ir_roles_Above_L0, g3, g5, hwi, hk, hr0, f1, f2, f3, f4, m1, hlim, hcx.1, hcx.2, keyK, ih]
      · have e3 := addG_new p.role hm
        rw [e3] at ih ⊢
        have f1 := find_new (s.length + 1) hm
        have f2 := mput_new (vs := [p.role]) (s.length + 1) hm
        rw [show s.length + 1 + G.length = s.length + (G.length + 1) by omega] at f2
        have k1 : rowG (G ++ [(r0, [p.role])]) = rowG G ++ [.row T_string_0 1 1] := by simp [rowG]
        rw [k1] at ih
        have m1 : 1 ≤ maxSl := by unfold maxSl; omega
        simp at f2 ih
        simp [ir_roles_Above_L0, g3, g5, hwi, hk, hr0, f1, f2, m1, hcx.1, hcx.2, keyK, ih]
    · obtain ⟨j, ih⟩ := l_roles_Above s role z l hl h5 cx hcx r (i + 1) G g2 fun p hp => by have := hG p hp; omega
      rw [edU_consN hk]
      refine ⟨j, loop_step fun K hK => ?_⟩
      rw [← hK, show ((i + 1 : Nat) : Int) = (i : Int) + 1 from rfl] at ih
      clear hK g4 h5
      simp [ir_roles_Above_L0, g3, g5, hwi, hk, ih]

end Go.Ai.Z
