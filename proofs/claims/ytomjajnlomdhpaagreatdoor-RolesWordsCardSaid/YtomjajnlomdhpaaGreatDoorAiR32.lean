/-
  The reference's table of words: an axiom at a part.
-/
import Derived.Test.YtomjajnlomdhpaaGreatDoorAiR30R31
set_option maxRecDepth 100000
set_option linter.unusedSimpArgs false
set_option linter.unusedVariables false
namespace Go.Ai.Z
def updL (tab : TbL) (i j : Nat) (v : List (List UInt8)) : TbL := fun a b => if a = i ∧ b = j then v else tab a b
theorem WT.set {s : St} {n : Nat} {tab : TbL} {H : St} (h : WT s n tab H) {i j : Nat} (hi : i ≤ n) (hj : j ≤ n) {rc : List AV} (hr : H[s.length + 1 + i]? = some (.buf T_string_1 1 0 rc)) (z : Bool) (v : List (List UInt8)) :
    WT s n (updL tab i j v) (H.set (s.length + 1 + i) (.buf T_string_1 1 0 (rc.take j ++ slf z (v.map .s) :: rc.drop (j + 1)))) := by
  obtain ⟨oc, o1, o2, o3⟩ := h.top
  have hlt := (List.getElem?_eq_some_iff.1 hr).1
  obtain ⟨rc', r1, r2, r3⟩ := h.row i hi
  rw [hr] at r1; cases r1
  have hset : rc.take j ++ slf z (v.map .s) :: rc.drop (j + 1) = rc.set j (slf z (v.map .s)) := by
    rw [List.set_eq_take_append_cons_drop, if_pos (by omega)]
  rw [hset]
  refine ⟨?_, by rw [List.length_set]; exact h.lt, ⟨oc, by rw [List.getElem?_set_ne (by omega), o1], o2, o3⟩, fun a ha => ?_⟩
  · rw [List.take_set_of_le (by omega)]; exact h.pre
  · obtain ⟨ra, a1, a2, a3⟩ := h.row a ha
    by_cases hai : a = i
    · subst hai
      rw [hr] at a1; cases a1
      refine ⟨rc.set j (slf z (v.map .s)), by rw [List.getElem?_set_self hlt], by rw [List.length_set, a2], fun b hb => ?_⟩
      by_cases hbj : b = j
      · subst hbj
        exact ⟨z, by rw [List.getElem?_set_self (by omega)]; simp [updL]⟩
      · obtain ⟨zb, b1⟩ := a3 b hb
        exact ⟨zb, by rw [List.getElem?_set_ne (Ne.symm hbj), b1]; simp [updL, hbj]⟩
    · refine ⟨ra, by rw [List.getElem?_set_ne (by omega), a1], a2, fun b hb => ?_⟩
      obtain ⟨zb, b1⟩ := a3 b hb
      exact ⟨zb, by rw [b1]; simp [updL, hai]⟩
def univA (l : List Ax) (n : Nat) : List Item := l.flatMap fun x => (List.range (n + 1)).flatMap fun i => (List.range (n + 1)).map fun j => (x.role, i, j)
structure TI (l : List Ax) (w : List (List UInt8)) (tab : TbL) (A : List Item) : Prop where
  srt : ∀ i j, Srt (tab i j)
  snd : ∀ i j r, i ≤ j → j ≤ w.length → r ∈ tab i j → Drv l w r i j
  bnd : ∀ i j r, r ∈ tab i j → r ∈ w ++ l.map (·.role)
  wrd : ∀ i r, w[i]? = some r → r ∈ tab i (i + 1)
  nd : A.Nodup
  inA : ∀ q ∈ A, q.1 ∈ tab q.2.1 q.2.2 ∧ q ∈ univA l w.length
theorem TI.len {l : List Ax} {w : List (List UInt8)} {tab : TbL} {A : List Item} (h : TI l w tab A) (i j : Nat) : (tab i j).length ≤ w.length + l.length := by
  have := nodup_le (h.srt i j).nodup (h.bnd i j)
  simpa using this
theorem TI.alen {l : List Ax} {w : List (List UInt8)} {tab : TbL} {A : List Item} (h : TI l w tab A) : A.length ≤ (univA l w.length).length := nodupI_le h.nd fun q hq => (h.inA q hq).2
theorem TI.add {l : List Ax} {w : List (List UInt8)} {tab : TbL} {A : List Item} (h : TI l w tab A) {x : Ax} (hx : x ∈ l) {i j : Nat} (hi : i ≤ j) (hj : j ≤ w.length) (hn : x.role ∉ tab i j) (hd : Drv l w x.role i j) :
    TI l w (updL tab i j (withS (tab i j) x.role)) ((x.role, i, j) :: A) := by
  have hin : ∀ a b r, r ∈ updL tab i j (withS (tab i j) x.role) a b ↔ r ∈ tab a b ∨ (a = i ∧ b = j ∧ r = x.role) := by
    intro a b r
    by_cases hab : a = i ∧ b = j
    · obtain ⟨rfl, rfl⟩ := hab
      simp [updL, mem_withS, or_comm]
    · simp only [updL, if_neg hab]
      constructor
      · exact .inl
      · rintro (h | ⟨h1, h2, _⟩)
        · exact h
        · exact absurd ⟨h1, h2⟩ hab
  refine ⟨fun a b => ?_, fun a b r ha hb hr => ?_, fun a b r hr => ?_, fun a r hr => (hin _ _ _).2 (.inl (h.wrd a r hr)), ?_, fun q hq => ?_⟩
  · by_cases hab : a = i ∧ b = j
    · simp only [updL, if_pos hab]; exact srt_withS (h.srt i j)
    · simp only [updL, if_neg hab]; exact h.srt a b
  · rcases (hin a b r).1 hr with hr | ⟨rfl, rfl, rfl⟩
    · exact h.snd a b r ha hb hr
    · exact hd
  · rcases (hin a b r).1 hr with hr | ⟨rfl, rfl, rfl⟩
    · exact h.bnd a b r hr
    · simp only [List.mem_append, List.mem_map]; exact .inr ⟨x, hx, rfl⟩
  · rw [List.nodup_cons]
    exact ⟨fun hm => hn (h.inA _ hm).1, h.nd⟩
  · rcases List.mem_cons.1 hq with rfl | hq
    · refine ⟨(hin _ _ _).2 (.inr ⟨rfl, rfl, rfl⟩), ?_⟩
      simp only [univA, List.mem_flatMap, List.mem_map, List.mem_range]
      exact ⟨x, hx, i, by omega, j, by omega, rfl⟩
    · exact ⟨(hin _ _ _).2 (.inl (h.inA q hq).1), (h.inA q hq).2⟩
def CL (x : Ax) (i j : Nat) (tab : TbL) : Prop := (x.kind = 7 → i = j → x.role ∈ tab i j) ∧ ((x.kind = 5 ∨ x.kind = 6) → covB tab x.roles i j = true → x.role ∈ tab i j)
structure WR (l : List Ax) (s : St) (w : List (List UInt8)) (tab : TbL) (A : List Item) (ch : Bool) (C : TbL → Prop) (tab' : TbL) (A' : List Item) (ch' : Bool) (H' : St) : Prop where
  wt : WT s w.length tab' H'
  ti : TI l w tab' A'
  or : (tab' = tab ∧ A' = A ∧ ch' = ch ∧ C tab) ∨ (A.length < A'.length ∧ ch' = true)
theorem WR.seq {l : List Ax} {s : St} {w : List (List UInt8)} {tab tab' tab'' : TbL} {A A' A'' : List Item} {ch ch' ch'' : Bool} {C C' C0 : TbL → Prop} {H' H'' : St} (h : WR l s w tab A ch C tab' A' ch' H') (h' : WR l s w tab' A' ch' C' tab'' A'' ch'' H'') (hc : ∀ t, C t → C' t → C0 t) :
    WR l s w tab A ch C0 tab'' A'' ch'' H'' := by
  refine ⟨h'.wt, h'.ti, ?_⟩
  rcases h.or with ⟨rfl, rfl, rfl, hC⟩ | ⟨h1, rfl⟩
  · rcases h'.or with ⟨rfl, rfl, rfl, hC'⟩ | ⟨h2, rfl⟩
    · exact .inl ⟨rfl, rfl, rfl, hc _ hC hC'⟩
    · exact .inr ⟨h2, rfl⟩
  · rcases h'.or with ⟨_, rfl, rfl, _⟩ | ⟨h2, rfl⟩
    · exact .inr ⟨h1, rfl⟩
    · exact .inr ⟨by omega, rfl⟩
theorem l_words4 (z : Bool) (l : List Ax) (hl : l.length ≤ 100) (hv : chkL l = 0) (hrl : ∀ x ∈ l, x.roles.length ≤ 600) (zw : Bool) (w : List (List UInt8)) (hw : w.length ≤ 64) (s : St) (i j : Nat) (hij : i ≤ j) (hj : j ≤ w.length) :
    ∀ (rest : List Ax) (k : Nat) (tab : TbL) (A : List Item) (ch : Bool) (H : St), l.drop k = rest → WT s w.length tab H → TI l w tab A →
    ∃ (H' : St) (kj : Int) (tab' : TbL) (A' : List Item) (ch' : Bool), loopW (acodeW P0.glob (acallW P0) ⟨s.length, s.length⟩ false ir_ref06_Words_L4) [0, 1, 5, 7, 8, 9, 10]
      [(0, .v (slf z (l.map encA))), (1, .v (slf zw (w.map .s))), (5, .v (.sk s.length 0 1 0 (w.length + 1))), (7, .v (.b ch)), (8, .v (.i .i64 i)), (9, .v (.i .i64 j)), (10, .v (.i .i64 k))] H =
      .exit 8 [(0, .v (slf z (l.map encA))), (1, .v (slf zw (w.map .s))), (5, .v (.sk s.length 0 1 0 (w.length + 1))), (7, .v (.b ch')), (8, .v (.i .i64 i)), (9, .v (.i .i64 j)), (10, .v (.i .i64 kj)), (62, .v (.b false))] H' ∧
      WR l s w tab A ch (fun t => ∀ x ∈ rest, CL x i j t) tab' A' ch' H'
  | [], k, tab, A, ch, H, h, hW, hT => by
    have h1 : ¬ k < l.length := Nat.not_lt.2 (drop_nil h)
    refine ⟨H, k, tab, A, ch, loop_step fun K hK => ?_, hW, hT, .inl ⟨rfl, rfl, rfl, fun x hx => by cases hx⟩⟩
    simp [ir_ref06_Words_L4, h1]
  | x :: rest, k, tab, A, ch, H, h, hW, hT => by
    obtain ⟨g1, g2, g3, g4⟩ := drop_cons h
    have g5 := g4 g3
    have hwi := wI (i := k) (by omega)
    have hx : x ∈ l := by rw [← g5]; exact List.getElem_mem g3
    obtain ⟨oc, o1, o2, o3⟩ := hW.top
    obtain ⟨rc, r1, r2, r3⟩ := hW.row i (by omega)
    obtain ⟨zk, r4⟩ := r3 j (by omega)
    have o4 := o3 i (by omega)
    have hlen := hT.len
    have e1 := c_ref06_Has zk (tab i j) x.role (by have := hlen i j; omega)
    have e2 := c_covers s w.length hw tab H hW (fun a b => by have := hlen a b; omega) x.z x.roles (by have := hrl x hx; omega) x.roles 0 rfl (by omega) i j hij hj
    have e3 := c_ref06_With zk (tab i j) x.role (by have := hlen i j; omega)
    have w1 : i < w.length + 1 := by omega
    have w2 : j < w.length + 1 := by omega
    have p2 : j + 1 ≤ rc.length := by omega
    have o5 : oc[i]'(by omega) = .sk (s.length + 1 + i) 0 1 0 (w.length + 1) := (List.getElem?_eq_some_iff.1 o4).2
    have r5 : rc[j]'(by omega) = slf zk ((tab i j).map .s) := (List.getElem?_eq_some_iff.1 r4).2
    have hlim : s.length ≤ s.length + 1 + i := by omega
    have hkk : ∀ e t, loopW (acodeW P0.glob (acallW P0) ⟨s.length, s.length⟩ false ir_ref06_Words_L4) [0, 1, 5, 7, 8, 9, 10] e t = loopW (acodeW P0.glob (acallW P0) ⟨s.length, s.length⟩ false ir_ref06_Words_L4) [0, 1, 5, 7, 8, 9, 10] (keepE e [0, 1, 5, 7, 8, 9, 10]) t := fun e t => loopW_keep _ _ _ _
    have skip : CL x i j tab → ∃ (H' : St) (kj : Int) (tab' : TbL) (A' : List Item) (ch' : Bool), loopW (acodeW P0.glob (acallW P0) ⟨s.length, s.length⟩ false ir_ref06_Words_L4) [0, 1, 5, 7, 8, 9, 10]
      [(0, .v (slf z (l.map encA))), (1, .v (slf zw (w.map .s))), (5, .v (.sk s.length 0 1 0 (w.length + 1))), (7, .v (.b ch)), (8, .v (.i .i64 i)), (9, .v (.i .i64 j)), (10, .v (.i .i64 (k + 1 : Nat)))] H =
      .exit 8 [(0, .v (slf z (l.map encA))), (1, .v (slf zw (w.map .s))), (5, .v (.sk s.length 0 1 0 (w.length + 1))), (7, .v (.b ch')), (8, .v (.i .i64 i)), (9, .v (.i .i64 j)), (10, .v (.i .i64 kj)), (62, .v (.b false))] H' ∧
      WR l s w tab A ch (fun t => ∀ y ∈ x :: rest, CL y i j t) tab' A' ch' H' := fun hC => by
      obtain ⟨H', kj, tab', A', ch', q1, q2⟩ := l_words4 z l hl hv hrl zw w hw s i j hij hj rest (k + 1) tab A ch H g2 hW hT
      refine ⟨H', kj, tab', A', ch', q1, q2.wt, q2.ti, ?_⟩
      rcases q2.or with ⟨a1, a2, a3, a4⟩ | a
      · exact .inl ⟨a1, a2, a3, fun y hy => by
          rcases List.mem_cons.1 hy with rfl | hy
          · exact hC
          · exact a4 y hy⟩
      · exact .inr a
    have add : x.role ∉ tab i j → Drv l w x.role i j → ∃ (H' : St) (kj : Int) (tab' : TbL) (A' : List Item) (ch' : Bool), loopW (acodeW P0.glob (acallW P0) ⟨s.length, s.length⟩ false ir_ref06_Words_L4) [0, 1, 5, 7, 8, 9, 10]
      [(0, .v (slf z (l.map encA))), (1, .v (slf zw (w.map .s))), (5, .v (.sk s.length 0 1 0 (w.length + 1))), (7, .v (.b true)), (8, .v (.i .i64 i)), (9, .v (.i .i64 j)), (10, .v (.i .i64 (k + 1 : Nat)))] (H.set (s.length + 1 + i) (.buf T_string_1 1 0 (rc.take j ++ slf zk ((withS (tab i j) x.role).map .s) :: rc.drop (j + 1)))) =
      .exit 8 [(0, .v (slf z (l.map encA))), (1, .v (slf zw (w.map .s))), (5, .v (.sk s.length 0 1 0 (w.length + 1))), (7, .v (.b ch')), (8, .v (.i .i64 i)), (9, .v (.i .i64 j)), (10, .v (.i .i64 kj)), (62, .v (.b false))] H' ∧
      WR l s w tab A ch (fun t => ∀ y ∈ x :: rest, CL y i j t) tab' A' ch' H' := fun hn hd => by
      have hT' := hT.add hx hij hj hn hd
      obtain ⟨H', kj, tab', A', ch', q1, q2⟩ := l_words4 z l hl hv hrl zw w hw s i j hij hj rest (k + 1) _ _ true _ g2 (hW.set (by omega) hj r1 zk _) hT'
      refine ⟨H', kj, tab', A', ch', q1, q2.wt, q2.ti, .inr ?_⟩
      rcases q2.or with ⟨_, a2, a3, _⟩ | ⟨a1, a2⟩
      · exact ⟨by rw [a2]; simp, a3⟩
      · simp only [List.length_cons] at a1
        exact ⟨by omega, a2⟩
    by_cases hm : x.role ∈ tab i j
    · obtain ⟨H', kj, tab', A', ch', ih, r⟩ := skip ⟨fun _ _ => hm, fun _ _ => hm⟩
      refine ⟨H', kj, tab', A', ch', loop_step fun K hK => ?_, r⟩
      have hKk : ∀ e t, K e t = K (keepE e [0, 1, 5, 7, 8, 9, 10]) t := fun e t => by rw [hK]; exact hkk e t
      rw [← hK, show ((k + 1 : Nat) : Int) = (k : Int) + 1 from rfl] at ih
      clear hK hW hT o3 r3 g4 e2 e3 skip add r hlen hrl hkk hv
      simp only [hm, decide_true] at e1
      rw [← ih]
      by_cases h5 : x.kind = 5
      · simp [ir_ref06_Words_L4, g3, g5, hwi, o1, o4, o5, r1, r4, r5, w1, w2, e1, h5]
      · by_cases h6 : x.kind = 6
        · simp [ir_ref06_Words_L4, g3, g5, hwi, o1, o4, o5, r1, r4, r5, w1, w2, e1, h6]
        · by_cases h7 : x.kind = 7
          · simp [ir_ref06_Words_L4, g3, g5, hwi, o1, o4, o5, r1, r4, r5, w1, w2, e1, h7]
          · simp [ir_ref06_Words_L4, g3, g5, hwi, o1, o4, o5, r1, r4, r5, w1, w2, e1, h5, h6, h7]
    · by_cases h7 : x.kind = 7
      · by_cases he : i = j
        · obtain ⟨H', kj, tab', A', ch', ih, r⟩ := add hm (by rw [← he]; exact (drv_closed l w).refl x hx h7 i (by omega))
          refine ⟨H', kj, tab', A', ch', loop_step fun K hK => ?_, r⟩
          have hKk : ∀ e t, K e t = K (keepE e [0, 1, 5, 7, 8, 9, 10]) t := fun e t => by rw [hK]; exact hkk e t
          rw [← hK, show ((k + 1 : Nat) : Int) = (k : Int) + 1 from rfl] at ih
          clear hK hW hT o3 r3 g4 e2 skip add r hlen hrl hkk hv
          simp only [hm, decide_false] at e1
          subst he
          rw [← ih]
          simp [ir_ref06_Words_L4, g3, g5, hwi, o1, o4, o5, r1, r4, r5, w1, w2, p2, hlim, e1, e3, h7]
        · obtain ⟨H', kj, tab', A', ch', ih, r⟩ := skip ⟨fun _ h => absurd h he, fun h => by omega⟩
          refine ⟨H', kj, tab', A', ch', loop_step fun K hK => ?_, r⟩
          have hKk : ∀ e t, K e t = K (keepE e [0, 1, 5, 7, 8, 9, 10]) t := fun e t => by rw [hK]; exact hkk e t
          rw [← hK, show ((k + 1 : Nat) : Int) = (k : Int) + 1 from rfl] at ih
          clear hK hW hT o3 r3 g4 e2 e3 skip add r hlen hrl hkk hv
          simp only [hm, decide_false] at e1
          have he' : ¬ (i : Int) = j := by omega
          rw [← ih]
          simp [ir_ref06_Words_L4, g3, g5, hwi, o1, o4, o5, r1, r4, r5, w1, w2, e1, h7, he']
      · by_cases h56 : x.kind = 5 ∨ x.kind = 6
        · cases hc : covB tab x.roles i j with
          | true =>
            have hd : Drv l w x.role i j := by
              have hcov : Cov (Drv l w) x.roles i j := (cov_of_covB hj hc).mono fun r a b hab => hT.snd a b r hab.1 hab.2.1 hab.2.2
              rcases h56 with h5 | h6
              · exact (drv_closed l w).sub x hx h5 i j hcov
              · exact (drv_closed l w).chain x hx h6 i j hcov
            obtain ⟨H', kj, tab', A', ch', ih, r⟩ := add hm hd
            refine ⟨H', kj, tab', A', ch', loop_step fun K hK => ?_, r⟩
            have hKk : ∀ e t, K e t = K (keepE e [0, 1, 5, 7, 8, 9, 10]) t := fun e t => by rw [hK]; exact hkk e t
            rw [← hK, show ((k + 1 : Nat) : Int) = (k : Int) + 1 from rfl] at ih
            clear hK hW hT o3 r3 g4 skip add r hlen hrl hkk hv hd
            simp only [hm, decide_false] at e1
            rw [hc] at e2
            simp only [Int.ofNat_zero] at e2
            rw [← ih]
            rcases h56 with h5 | h6
            · simp [ir_ref06_Words_L4, g3, g5, hwi, o1, o4, o5, r1, r4, r5, w1, w2, p2, hlim, e1, e2, e3, h5]
            · simp [ir_ref06_Words_L4, g3, g5, hwi, o1, o4, o5, r1, r4, r5, w1, w2, p2, hlim, e1, e2, e3, h6]
          | false =>
            obtain ⟨H', kj, tab', A', ch', ih, r⟩ := skip ⟨fun h => absurd h h7, fun _ h => by rw [hc] at h; cases h⟩
            refine ⟨H', kj, tab', A', ch', loop_step fun K hK => ?_, r⟩
            have hKk : ∀ e t, K e t = K (keepE e [0, 1, 5, 7, 8, 9, 10]) t := fun e t => by rw [hK]; exact hkk e t
            rw [← hK, show ((k + 1 : Nat) : Int) = (k : Int) + 1 from rfl] at ih
            clear hK hW hT o3 r3 g4 e3 skip add r hlen hrl hkk hv
            simp only [hm, decide_false] at e1
            rw [hc] at e2
            simp only [Int.ofNat_zero] at e2
            rw [← ih]
            rcases h56 with h5 | h6
            · simp [ir_ref06_Words_L4, g3, g5, hwi, o1, o4, o5, r1, r4, r5, w1, w2, e1, e2, h5]
            · simp [ir_ref06_Words_L4, g3, g5, hwi, o1, o4, o5, r1, r4, r5, w1, w2, e1, e2, h6]
        · obtain ⟨H', kj, tab', A', ch', ih, r⟩ := skip ⟨fun h => absurd h h7, fun h => absurd h h56⟩
          refine ⟨H', kj, tab', A', ch', loop_step fun K hK => ?_, r⟩
          have hKk : ∀ e t, K e t = K (keepE e [0, 1, 5, 7, 8, 9, 10]) t := fun e t => by rw [hK]; exact hkk e t
          rw [← hK, show ((k + 1 : Nat) : Int) = (k : Int) + 1 from rfl] at ih
          clear hK hW hT o3 r3 g4 e1 e2 e3 skip add r hlen hrl hkk hv
          have h5 : ¬ x.kind = 5 := fun h => h56 (.inl h)
          have h6 : ¬ x.kind = 6 := fun h => h56 (.inr h)
          rw [← ih]
          simp [ir_ref06_Words_L4, g3, g5, hwi, h5, h6, h7]
end Go.Ai.Z
