/-
  The reference's table of words: all rounds.
-/
import Derived.Test.YtomjajnlomdhpaaGreatDoorAiR32
set_option maxRecDepth 100000
set_option linter.unusedSimpArgs false
set_option linter.unusedVariables false
namespace Go.Ai.Z
theorem l_words3 (z : Bool) (l : List Ax) (hl : l.length ≤ 100) (hv : chkL l = 0) (hrl : ∀ x ∈ l, x.roles.length ≤ 600) (zw : Bool) (w : List (List UInt8)) (hw : w.length ≤ 64) (s : St) (i : Nat) :
    ∀ (c j : Nat) (tab : TbL) (A : List Item) (ch : Bool) (H : St), j + c = w.length + 1 → i ≤ j → WT s w.length tab H → TI l w tab A →
    ∃ (H' : St) (kj : Int) (tab' : TbL) (A' : List Item) (ch' : Bool), loopW (acodeW P0.glob (acallW P0) ⟨s.length, s.length⟩ false ir_ref06_Words_L3) [0, 1, 5, 7, 8, 9]
      [(0, .v (slf z (l.map encA))), (1, .v (slf zw (w.map .s))), (5, .v (.sk s.length 0 1 0 (w.length + 1))), (7, .v (.b ch)), (8, .v (.i .i64 i)), (9, .v (.i .i64 j))] H =
      .exit 6 [(0, .v (slf z (l.map encA))), (1, .v (slf zw (w.map .s))), (5, .v (.sk s.length 0 1 0 (w.length + 1))), (7, .v (.b ch')), (8, .v (.i .i64 i)), (9, .v (.i .i64 kj)), (56, .v (.b false))] H' ∧
      WR l s w tab A ch (fun t => ∀ j', j ≤ j' → j' ≤ w.length → ∀ x ∈ l, CL x i j' t) tab' A' ch' H'
  | 0, j, tab, A, ch, H, h, hij, hW, hT => by
    have h1 : ¬ j ≤ w.length := by omega
    refine ⟨H, j, tab, A, ch, loop_step fun K hK => ?_, hW, hT, .inl ⟨rfl, rfl, rfl, fun j' h1 h2 => by omega⟩⟩
    simp [ir_ref06_Words_L3, h1]
  | c + 1, j, tab, A, ch, H, h, hij, hW, hT => by
    have h1 : j ≤ w.length := by omega
    have hwi := wI (i := j) (by omega)
    obtain ⟨H1, k1, tab1, A1, ch1, e1, r1⟩ := l_words4 z l hl hv hrl zw w hw s i j hij h1 l 0 tab A ch H rfl hW hT
    obtain ⟨H', kj, tab', A', ch', ih, r2⟩ := l_words3 z l hl hv hrl zw w hw s i c (j + 1) tab1 A1 ch1 H1 (by omega) (by omega) r1.wt r1.ti
    refine ⟨H', kj, tab', A', ch', loop_step fun K hK => ?_, r1.seq r2 fun t h1 h2 j' hj hj' x hx => ?_⟩
    · have hKk : ∀ e t, K e t = K (keepE e [0, 1, 5, 7, 8, 9]) t := fun e t => by rw [hK]; exact loopW_keep _ _ _ _
      rw [← hK, show ((j + 1 : Nat) : Int) = (j : Int) + 1 from rfl] at ih
      clear hK hW hT r1 r2 hrl hv
      try simp only [Int.ofNat_zero] at e1
      rw [← ih]
      try simp at e1
      simp [ir_ref06_Words_L3, h1, hwi, e1]
    · by_cases hjj : j' = j
      · subst hjj; exact h1 x hx
      · exact h2 j' (by omega) hj' x hx
theorem l_words2 (z : Bool) (l : List Ax) (hl : l.length ≤ 100) (hv : chkL l = 0) (hrl : ∀ x ∈ l, x.roles.length ≤ 600) (zw : Bool) (w : List (List UInt8)) (hw : w.length ≤ 64) (s : St) :
    ∀ (c i : Nat) (tab : TbL) (A : List Item) (ch : Bool) (H : St), i + c = w.length + 1 → WT s w.length tab H → TI l w tab A →
    ∃ (H' : St) (kj : Int) (tab' : TbL) (A' : List Item) (ch' : Bool), loopW (acodeW P0.glob (acallW P0) ⟨s.length, s.length⟩ false ir_ref06_Words_L2) [0, 1, 5, 7, 8]
      [(0, .v (slf z (l.map encA))), (1, .v (slf zw (w.map .s))), (5, .v (.sk s.length 0 1 0 (w.length + 1))), (7, .v (.b ch)), (8, .v (.i .i64 i))] H =
      .exit 4 [(0, .v (slf z (l.map encA))), (1, .v (slf zw (w.map .s))), (5, .v (.sk s.length 0 1 0 (w.length + 1))), (7, .v (.b ch')), (8, .v (.i .i64 kj)), (49, .v (.b false))] H' ∧
      WR l s w tab A ch (fun t => ∀ i', i ≤ i' → i' ≤ w.length → ∀ j', i' ≤ j' → j' ≤ w.length → ∀ x ∈ l, CL x i' j' t) tab' A' ch' H'
  | 0, i, tab, A, ch, H, h, hW, hT => by
    have h1 : ¬ i ≤ w.length := by omega
    refine ⟨H, i, tab, A, ch, loop_step fun K hK => ?_, hW, hT, .inl ⟨rfl, rfl, rfl, fun j' h1 h2 => by omega⟩⟩
    simp [ir_ref06_Words_L2, h1]
  | c + 1, i, tab, A, ch, H, h, hW, hT => by
    have h1 : i ≤ w.length := by omega
    have hwi := wI (i := i) (by omega)
    obtain ⟨H1, k1, tab1, A1, ch1, e1, r1⟩ := l_words3 z l hl hv hrl zw w hw s i (w.length + 1 - i) i tab A ch H (by omega) (Nat.le_refl _) hW hT
    obtain ⟨H', kj, tab', A', ch', ih, r2⟩ := l_words2 z l hl hv hrl zw w hw s c (i + 1) tab1 A1 ch1 H1 (by omega) r1.wt r1.ti
    refine ⟨H', kj, tab', A', ch', loop_step fun K hK => ?_, r1.seq r2 fun t h1 h2 i' hi hi' j' hj hj' x hx => ?_⟩
    · have hKk : ∀ e t, K e t = K (keepE e [0, 1, 5, 7, 8]) t := fun e t => by rw [hK]; exact loopW_keep _ _ _ _
      rw [← hK, show ((i + 1 : Nat) : Int) = (i : Int) + 1 from rfl] at ih
      clear hK hW hT r1 r2 hrl hv
      rw [← ih]
      simp [ir_ref06_Words_L2, h1, hwi, e1]
    · by_cases hii : i' = i
      · subst hii; exact h1 j' hj hj' x hx
      · exact h2 i' (by omega) hi' j' hj hj' x hx
def CLall (l : List Ax) (n : Nat) (t : TbL) : Prop := ∀ i, i ≤ n → ∀ j, i ≤ j → j ≤ n → ∀ x ∈ l, CL x i j t
theorem l_words1f (z : Bool) (l : List Ax) (zw : Bool) (w : List (List UInt8)) (s : St) (H : St) : loopW (acodeW P0.glob (acallW P0) ⟨s.length, s.length⟩ false ir_ref06_Words_L1) [0, 1, 5, 7]
      [(0, .v (slf z (l.map encA))), (1, .v (slf zw (w.map .s))), (5, .v (.sk s.length 0 1 0 (w.length + 1))), (7, .v (.b false))] H =
      .exit 2 [(0, .v (slf z (l.map encA))), (1, .v (slf zw (w.map .s))), (5, .v (.sk s.length 0 1 0 (w.length + 1))), (45, .v (.b false))] H := by
  refine loop_step fun K hK => ?_
  simp [ir_ref06_Words_L1]
theorem l_words1 (z : Bool) (l : List Ax) (hl : l.length ≤ 100) (hv : chkL l = 0) (hrl : ∀ x ∈ l, x.roles.length ≤ 600) (zw : Bool) (w : List (List UInt8)) (hw : w.length ≤ 64) (s : St) :
    ∀ (N : Nat) (tab : TbL) (A : List Item) (H : St), (univA l w.length).length ≤ A.length + N → WT s w.length tab H → TI l w tab A →
    ∃ (H' : St) (tab' : TbL) (A' : List Item), loopW (acodeW P0.glob (acallW P0) ⟨s.length, s.length⟩ false ir_ref06_Words_L1) [0, 1, 5, 7]
      [(0, .v (slf z (l.map encA))), (1, .v (slf zw (w.map .s))), (5, .v (.sk s.length 0 1 0 (w.length + 1))), (7, .v (.b true))] H =
      .exit 2 [(0, .v (slf z (l.map encA))), (1, .v (slf zw (w.map .s))), (5, .v (.sk s.length 0 1 0 (w.length + 1))), (45, .v (.b false))] H' ∧
      WT s w.length tab' H' ∧ TI l w tab' A' ∧ CLall l w.length tab' := by
  intro N
  induction N with
  | zero =>
    intro tab A H hN hW hT
    obtain ⟨H1, k1, tab1, A1, ch1, e1, r1⟩ := l_words2 z l hl hv hrl zw w hw s (w.length + 1) 0 tab A false H (by omega) hW hT
    rcases r1.or with ⟨rfl, rfl, rfl, hC⟩ | ⟨h1, _⟩
    · refine ⟨H1, tab1, A1, loop_step fun K hK => ?_, r1.wt, r1.ti, fun i hi j hj hj' x hx => hC i (Nat.zero_le _) hi j hj hj' x hx⟩
      have hf := l_words1f z l zw w s H1
      have hKk : ∀ e t, K e t = K (keepE e [0, 1, 5, 7]) t := fun e t => by rw [hK]; exact loopW_keep _ _ _ _
      rw [← hK] at hf
      clear hK hW hT r1 hrl hv hC
      try simp only [Int.ofNat_zero] at e1
      rw [← hf]
      try simp at e1
      simp [ir_ref06_Words_L1, e1]
      rw [hKk]; rfl
    · have := r1.ti.alen; omega
  | succ N ih =>
    intro tab A H hN hW hT
    obtain ⟨H1, k1, tab1, A1, ch1, e1, r1⟩ := l_words2 z l hl hv hrl zw w hw s (w.length + 1) 0 tab A false H (by omega) hW hT
    rcases r1.or with ⟨rfl, rfl, rfl, hC⟩ | ⟨h1, rfl⟩
    · refine ⟨H1, tab1, A1, loop_step fun K hK => ?_, r1.wt, r1.ti, fun i hi j hj hj' x hx => hC i (Nat.zero_le _) hi j hj hj' x hx⟩
      have hf := l_words1f z l zw w s H1
      have hKk : ∀ e t, K e t = K (keepE e [0, 1, 5, 7]) t := fun e t => by rw [hK]; exact loopW_keep _ _ _ _
      rw [← hK] at hf
      clear hK hW hT r1 hrl hv hC ih
      try simp only [Int.ofNat_zero] at e1
      rw [← hf]
      try simp at e1
      simp [ir_ref06_Words_L1, e1]
      rw [hKk]; rfl
    · obtain ⟨H', tab', A', e2, q1, q2, q3⟩ := ih tab1 A1 H1 (by omega) r1.wt r1.ti
      refine ⟨H', tab', A', loop_step fun K hK => ?_, q1, q2, q3⟩
      have hKk : ∀ e t, K e t = K (keepE e [0, 1, 5, 7]) t := fun e t => by rw [hK]; exact loopW_keep _ _ _ _
      rw [← hK] at e2
      clear hK hW hT r1 hrl hv ih q1 q2 q3
      try simp only [Int.ofNat_zero] at e1
      rw [← e2]
      try simp at e1
      simp [ir_ref06_Words_L1, e1]
      rw [hKk]; rfl
def row0 (w : List (List UInt8)) (a : Nat) : List AV := match w[a]? with
  | some r => (List.replicate (w.length + 1) AV.ns).take (a + 1) ++ .sl [.s r] :: (List.replicate (w.length + 1) AV.ns).drop (a + 2)
  | none => List.replicate (w.length + 1) .ns
structure W0 (s : St) (w : List (List UInt8)) (i : Nat) (top : List AV) (rows : St) : Prop where
  tl : top.length = w.length + 1
  rl : rows.length = i
  ta : ∀ a, a < i → top[a]? = some (.sk (s.length + 1 + a) 0 1 0 (w.length + 1))
  ra : ∀ a, a < i → rows[a]? = some (.buf T_string_1 1 0 (row0 w a))
theorem l_words0 (z : Bool) (l : List Ax) (zw : Bool) (w : List (List UInt8)) (hw : w.length ≤ 64) (s : St) :
    ∀ (c i : Nat) (top : List AV) (rows : St), i + c = w.length + 1 → W0 s w i top rows →
    ∃ (top' : List AV) (rows' : St) (j : Int), loopW (acodeW P0.glob (acallW P0) ⟨s.length, s.length⟩ false ir_ref06_Words_L0) [0, 1, 5, 6]
      [(0, .v (slf z (l.map encA))), (1, .v (slf zw (w.map .s))), (5, .v (.sk s.length 0 1 0 (w.length + 1))), (6, .v (.i .i64 i))] (s ++ .buf T_string_2 1 0 top :: rows) =
      .exit 0 [(0, .v (slf z (l.map encA))), (1, .v (slf zw (w.map .s))), (5, .v (.sk s.length 0 1 0 (w.length + 1))), (6, .v (.i .i64 j)), (19, .v (.b false))] (s ++ .buf T_string_2 1 0 top' :: rows') ∧ W0 s w (w.length + 1) top' rows'
  | 0, i, top, rows, h, h0 => by
    have h1 : ¬ i ≤ w.length := by omega
    refine ⟨top, rows, i, loop_step fun K hK => ?_, by rw [show w.length + 1 = i by omega]; exact h0⟩
    simp [ir_ref06_Words_L0, h1]
  | c + 1, i, top, rows, h, h0 => by
    have h1 : i ≤ w.length := by omega
    have hwi := wI (i := i) (by omega)
    have hwl := wI (i := w.length) (by omega)
    have htl := h0.tl
    have hrl := h0.rl
    have hn1 : ((w.length : Int) + 1).toNat = w.length + 1 := by omega
    have w1 : i < w.length + 1 := by omega
    have p1 : i + 1 ≤ top.length := by omega
    have w0 : 0 ≤ (w.length : Int) + 1 := by omega
    have w16 : w.length + 1 ≤ 16777216 := by omega
    have hfl : (List.replicate (w.length + 1) [AV.ns]).flatten = List.replicate (w.length + 1) .ns := by simp
    have hset : top.take i ++ .sk (s.length + 1 + i) 0 1 0 (w.length + 1) :: top.drop (i + 1) = top.set i (.sk (s.length + 1 + i) 0 1 0 (w.length + 1)) := by
      rw [List.set_eq_take_append_cons_drop, if_pos (by omega)]
    have h0' : W0 s w (i + 1) (top.set i (.sk (s.length + 1 + i) 0 1 0 (w.length + 1))) (rows ++ [.buf T_string_1 1 0 (row0 w i)]) := by
      refine ⟨by rw [List.length_set, htl], by simp [hrl], fun a ha => ?_, fun a ha => ?_⟩
      · by_cases hai : a = i
        · subst hai; rw [List.getElem?_set_self (by omega)]
        · rw [List.getElem?_set_ne (Ne.symm hai)]; exact h0.ta a (by omega)
      · by_cases hai : a = i
        · subst hai; rw [List.getElem?_append_right (by omega), hrl]; simp
        · rw [List.getElem?_append_left (by omega)]; exact h0.ra a (by omega)
    obtain ⟨top', rows', j, ih, r⟩ := l_words0 z l zw w hw s c (i + 1) _ _ (by omega) h0'
    refine ⟨top', rows', j, loop_step fun K hK => ?_, r⟩
    have hKk : ∀ e t, K e t = K (keepE e [0, 1, 5, 6]) t := fun e t => by rw [hK]; exact loopW_keep _ _ _ _
    rw [← hK, show ((i + 1 : Nat) : Int) = (i : Int) + 1 from rfl] at ih
    clear hK h0 h0' r
    have hL : s.length + 1 + i = s.length + (i + 1) := by omega
    rw [hL] at hset ih
    rw [← hset] at ih
    have hlen : (s ++ HObj.buf T_string_2 1 0 top :: rows).length = s.length + 1 + i := by simp [hrl]; omega
    by_cases hlt : i < w.length
    · have hwg : w[i]? = some w[i] := List.getElem?_eq_getElem hlt
      have hr0 : row0 w i = (List.replicate (w.length + 1) AV.ns).take (i + 1) ++ .sl [.s w[i]] :: (List.replicate (w.length + 1) AV.ns).drop (i + 2) := by simp [row0, hwg]
      rw [hr0] at ih
      have hn2 : ((i : Int) + 1).toNat = i + 1 := by omega
      have w2 : i + 1 < w.length + 1 := by omega
      have w3 : 0 ≤ (i : Int) + 1 := by omega
      have w4 : i + 1 ≤ w.length := by omega
      have f3 := stc_row (s := s) (r1 := rows) (r2 := []) (a := .buf T_string_2 1 0 (top.take i ++ .sk (s.length + 1 + i) 0 1 0 (w.length + 1) :: top.drop (i + 1))) (b := .buf T_string_1 1 0 (List.replicate (w.length + 1) .ns))
      have f4 := fun c => stc_rowset (s := s) (r1 := rows) (r2 := []) (a := .buf T_string_2 1 0 (top.take i ++ .sk (s.length + 1 + i) 0 1 0 (w.length + 1) :: top.drop (i + 1))) (b := .buf T_string_1 1 0 (List.replicate (w.length + 1) .ns)) (c := c)
      rw [hrl, hL] at f3
      simp only [hrl, hL] at f4
      have f5 : (top.take i ++ .sk (s.length + (i + 1)) 0 1 0 (w.length + 1) :: top.drop (i + 1))[i]? = some (.sk (s.length + (i + 1)) 0 1 0 (w.length + 1)) := by
        rw [hset, List.getElem?_set_self (by omega)]
      clear hset
      rw [← ih]
      simp [ir_ref06_Words_L0, h1, hlt, hwi, hwl, hn1, hn2, w0, w1, w2, w3, w4, w16, p1, hfl, htl, hrl, f3, f4, f5]
    · have hr0 : row0 w i = List.replicate (w.length + 1) .ns := by simp [row0, List.getElem?_eq_none (Nat.not_lt.1 hlt)]
      rw [hr0] at ih
      rw [← ih]
      simp [ir_ref06_Words_L0, h1, hlt, hwi, hwl, hn1, w0, w1, w16, p1, hfl, htl, hrl]
end Go.Ai.Z
namespace Go.Ai.Z
def tab0 (w : List (List UInt8)) : TbL := fun i j => if j = i + 1 then (w[i]?).toList else []
theorem row0_at {w : List (List UInt8)} {a j : Nat} (hj : j ≤ w.length) : ∃ z, (row0 w a)[j]? = some (slf z ((tab0 w a j).map .s)) := by
  have hr : ∀ k, k ≤ w.length → (List.replicate (w.length + 1) AV.ns)[k]? = some .ns := fun k hk => by rw [List.getElem?_replicate, if_pos (by omega)]
  unfold row0 tab0
  cases hw : w[a]? with
  | none =>
    refine ⟨true, ?_⟩
    rw [hr j hj]
    split <;> rfl
  | some r =>
    have ha := (List.getElem?_eq_some_iff.1 hw).1
    have hset : (List.replicate (w.length + 1) AV.ns).take (a + 1) ++ .sl [.s r] :: (List.replicate (w.length + 1) AV.ns).drop (a + 2) = (List.replicate (w.length + 1) AV.ns).set (a + 1) (.sl [.s r]) := by
      rw [List.set_eq_take_append_cons_drop, if_pos (by rw [List.length_replicate]; omega)]
    simp only [hset]
    by_cases hja : j = a + 1
    · subst hja
      refine ⟨false, ?_⟩
      rw [List.getElem?_set_self (by rw [List.length_replicate]; omega)]
      simp
    · refine ⟨true, ?_⟩
      rw [List.getElem?_set_ne (Ne.symm hja), hr j hj, if_neg hja]; rfl
theorem row0_len {w : List (List UInt8)} {a : Nat} : (row0 w a).length = w.length + 1 := by
  unfold row0
  cases hw : w[a]? with
  | none => simp
  | some r =>
    have ha := (List.getElem?_eq_some_iff.1 hw).1
    simp only [List.length_append, List.length_take, List.length_cons, List.length_drop, List.length_replicate]; omega
theorem W0.toWT {s : St} {w : List (List UInt8)} {top : List AV} {rows : St} (h : W0 s w (w.length + 1) top rows) : WT s w.length (tab0 w) (s ++ .buf T_string_2 1 0 top :: rows) where
  pre := by simp
  lt := by simp
  top := ⟨top, by simp, h.tl, fun i hi => h.ta i (by omega)⟩
  row := fun i hi => ⟨row0 w i, by
    rw [show s.length + 1 + i = s.length + (i + 1) by omega, List.getElem?_append_right (by omega), show s.length + (i + 1) - s.length = i + 1 by omega]
    exact h.ra i (by omega), row0_len, fun j hj => row0_at hj⟩
theorem ti0 (l : List Ax) (w : List (List UInt8)) : TI l w (tab0 w) [] where
  srt := fun i j => by
    unfold tab0
    split
    · cases w[i]? <;> simp [Srt]
    · simp [Srt]
  snd := fun i j r _ _ hr => by
    unfold tab0 at hr
    split at hr
    · rename_i h; subst h
      refine (drv_closed l w).word i r ?_
      cases hw : w[i]? with
      | none => rw [hw] at hr; cases hr
      | some q => rw [hw] at hr; simp at hr; rw [hr]
    · cases hr
  bnd := fun i j r hr => by
    unfold tab0 at hr
    split at hr
    · cases hw : w[i]? with
      | none => rw [hw] at hr; cases hr
      | some q =>
        rw [hw] at hr; simp at hr
        rw [hr]
        simp only [List.mem_append]
        exact .inl (List.mem_of_getElem? hw)
    · cases hr
  wrd := fun i r hr => by simp [tab0, hr]
  nd := by simp
  inA := fun q hq => by cases hq
theorem hasR_of {l : List Ax} (h : chkL l = 0) : HasR l := fun x hx hk => by
  rcases hk with h5 | h6
  · obtain ⟨r, hr⟩ := one5_all h x hx h5
    rw [hr]; simp
  · have := (two_of (chkL_mem h x hx) h6).1
    intro h0; rw [h0] at this; simp at this
theorem words_end {l : List Ax} (h0 : chkL l = 0) {w : List (List UInt8)} {tab : TbL} {A : List Item} (hT : TI l w tab A) (hC : CLall l w.length tab) {i j : Nat} (hij : i ≤ j) (hj : j ≤ w.length) {r : List UInt8} : r ∈ tab i j ↔ Drv l w r i j := by
  refine ⟨hT.snd i j r hij hj, fun hd => ?_⟩
  have hcl : ClosedT l w (TabT tab w.length) := by
    refine ⟨fun i r hr => ?_, fun x hx h7 i hi => ⟨Nat.le_refl _, hi, (hC i hi i (Nat.le_refl _) hi x hx).1 h7 rfl⟩, fun x hx h5 i j hc => ?_, fun x hx h6 i j hc => ?_⟩
    · have := (List.getElem?_eq_some_iff.1 hr).1
      exact ⟨by omega, by omega, hT.wrd i r hr⟩
    · have hb := cov_bound (n := w.length) (fun _ _ _ h => ⟨h.1, h.2.1⟩) (hasR_of h0 x hx (.inl h5)) hc
      exact ⟨hb.1, hb.2, (hC i (by omega) j hb.1 hb.2 x hx).2 (.inl h5) (covB_of_cov hc hb.1 hb.2)⟩
    · have hb := cov_bound (n := w.length) (fun _ _ _ h => ⟨h.1, h.2.1⟩) (hasR_of h0 x hx (.inr h6)) hc
      exact ⟨hb.1, hb.2, (hC i (by omega) j hb.1 hb.2 x hx).2 (.inr h6) (covB_of_cov hc hb.1 hb.2)⟩
  exact (hd _ hcl).2.2
theorem slf_under (n : Nat) (z : Bool) (l : List (List UInt8)) : (slf z (l.map .s)).under n = true := by
  cases z with
  | false => rw [slf_false]; simp [AV.under, underL_strs]
  | true =>
    cases l with
    | nil => rfl
    | cons a l => simp [AV.under, underL_strs, underL]
theorem slf_one (z : Bool) (es : List AV) : (slf z es).one = true := by
  cases z with
  | false => rw [slf_false]; rfl
  | true => cases es <;> rfl
theorem frz1_under {S : St} {n m : Nat} {a : AV} (h : a.under n = true) : frz1 S n m a = some a := by
  cases m with
  | zero => simp [frz1, h]
  | succ m => unfold frz1; rw [if_pos h]
theorem chunk_one : ∀ (n : Nat) (cs : List AV), cs.length = n → chunk 1 n cs = cs
  | 0, cs, h => by rw [List.length_eq_zero_iff.1 h]; rfl
  | n + 1, [], h => by simp at h
  | n + 1, c :: cs, h => by
    simp only [chunk, if_true, List.headD_cons, List.drop_one, List.tail_cons]
    rw [chunk_one n cs (by simpa using h)]
theorem mapM_all {F : AV → Option AV} : ∀ {cs : List AV}, (∀ (i : Nat) (c : AV), cs[i]? = some c → ∃ d, F c = some d) → ∃ ds, cs.mapM F = some ds ∧ ds.length = cs.length ∧ ∀ (i : Nat) (c d : AV), cs[i]? = some c → F c = some d → ds[i]? = some d
  | [], _ => ⟨[], rfl, rfl, fun i c d h => by simp at h⟩
  | c :: cs, h => by
    obtain ⟨d, hd⟩ := h 0 c rfl
    obtain ⟨ds, e1, e2, e3⟩ := mapM_all (F := F) (cs := cs) fun i c hc => h (i + 1) c (by simpa using hc)
    refine ⟨d :: ds, by simp only [List.mapM_cons, hd, e1]; rfl, by simp [e2], fun i c' d' hc hF => ?_⟩
    cases i with
    | zero => simp at hc; subst hc; rw [hd] at hF; simpa using hF
    | succ i => simp at hc ⊢; exact e3 i c' d' hc hF
def RowsOK (vss : List AV) (n : Nat) (tab : TbL) : Prop := vss.length = n + 1 ∧ ∀ i, i ≤ n → ∃ vs, vss[i]? = some (.sl vs) ∧ vs.length = n + 1 ∧ ∀ j, j ≤ n → ∃ z, vs[j]? = some (slf z ((tab i j).map .s))
theorem frz_WT {s : St} {n : Nat} {tab : TbL} {H : St} (h : WT s n tab H) : ∃ vss, frz H s.length (.sk s.length 0 1 0 (n + 1)) = some (.sl vss) ∧ RowsOK vss n tab := by
  have hu : ∀ a, s.length ≤ a → (AV.sk a 0 1 0 (n + 1)).under s.length = false := fun a ha => by simp [AV.under]; omega
  have hrow : ∀ i, i ≤ n → ∃ vs, frz1 H s.length 5 (.sk (s.length + 1 + i) 0 1 0 (n + 1)) = some (.sl vs) ∧ vs.length = n + 1 ∧ ∀ j, j ≤ n → ∃ z, vs[j]? = some (slf z ((tab i j).map .s)) := fun i hi => by
    obtain ⟨rc, r1, r2, r3⟩ := h.row i hi
    have hall : ∀ c ∈ rc, c.under s.length = true ∧ c.one = true := fun c hc => by
      obtain ⟨k, hk⟩ := List.mem_iff_getElem?.1 hc
      have := (List.getElem?_eq_some_iff.1 hk).1
      obtain ⟨z, hz⟩ := r3 k (by omega)
      rw [hk] at hz; cases hz
      exact ⟨slf_under _ _ _, slf_one _ _⟩
    refine ⟨rc, ?_, r2, r3⟩
    rw [show (5 : Nat) = 4 + 1 from rfl, frz1, if_neg (by rw [hu _ (by omega)]; exact Bool.false_ne_true)]
    have ht : (rc.drop 0).take ((n + 1) * 1) = rc := by rw [List.drop_zero, List.take_of_length_le (by omega)]
    have hc : 0 + (n + 1) * 1 ≤ rc.length := by omega
    have ha : rc.all AV.one = true := List.all_eq_true.2 fun c hc => (hall c hc).2
    simp only [r1, hc, and_self, and_true, if_true, ht, mapM_one fun c hc => frz1_under (hall c hc).1, Option.bind_some, Nat.zero_lt_one, ha, chunk_one (n + 1) rc r2]
  obtain ⟨oc, o1, o2, o3⟩ := h.top
  obtain ⟨ds, e1, e2, e3⟩ := mapM_all (F := frz1 H s.length 5) (cs := oc) fun i c hc => by
    have hi := (List.getElem?_eq_some_iff.1 hc).1
    rw [o3 i (by omega)] at hc; cases hc
    obtain ⟨vs, hv, _⟩ := hrow i (by omega)
    exact ⟨_, hv⟩
  have hds : ∀ i, i ≤ n → ∃ vs, ds[i]? = some (.sl vs) ∧ vs.length = n + 1 ∧ ∀ j, j ≤ n → ∃ z, vs[j]? = some (slf z ((tab i j).map .s)) := fun i hi => by
    obtain ⟨vs, hv, h2⟩ := hrow i hi
    exact ⟨vs, e3 i _ _ (o3 i hi) hv, h2⟩
  refine ⟨ds, ?_, by omega, hds⟩
  unfold frz
  rw [if_neg (by rw [hu _ (Nat.le_refl _)]; exact Bool.false_ne_true), show (6 : Nat) = 5 + 1 from rfl, frz1, if_neg (by rw [hu _ (Nat.le_refl _)]; exact Bool.false_ne_true)]
  have ht : (oc.drop 0).take ((n + 1) * 1) = oc := by rw [List.drop_zero, List.take_of_length_le (by omega)]
  have hc : 0 + (n + 1) * 1 ≤ oc.length := by omega
  have ha : ds.all AV.one = true := List.all_eq_true.2 fun c hc => by
    obtain ⟨k, hk⟩ := List.mem_iff_getElem?.1 hc
    have := (List.getElem?_eq_some_iff.1 hk).1
    obtain ⟨vs, hv, _⟩ := hds k (by omega)
    rw [hk] at hv; cases hv; rfl
  simp only [o1, hc, and_self, and_true, if_true, ht, e1, Option.bind_some, Nat.zero_lt_one, ha, chunk_one (n + 1) ds (by omega)]
theorem c_ref06_Words (z : Bool) (l : List Ax) (hl : l.length ≤ 100) (hv : chkL l = 0) (hx : ∀ x ∈ l, x.Few) (zw : Bool) (w : List (List UInt8)) (hw : w.length ≤ 64) (s : St) (cx : Ctx) :
    ∃ (vss : List AV) (tab : TbL), acallW P0 (.fn (.func F_ref06_Words) [] []) [slf z (l.map encA), slf zw (w.map .s)] s cx = .ret (.sl vss) s ∧ RowsOK vss w.length tab ∧ (∀ i j, Srt (tab i j)) ∧ (∀ i j, (tab i j).length ≤ w.length + l.length) ∧ ∀ i j, i ≤ j → j ≤ w.length → ∀ r, r ∈ tab i j ↔ Drv l w r i j := by
  obtain ⟨top, rows, j, e1, r1⟩ := l_words0 z l zw w hw s (w.length + 1) 0 (List.replicate (w.length + 1) .ns) [] (by omega) ⟨by simp, rfl, fun a ha => by omega, fun a ha => by omega⟩
  obtain ⟨H', tab, A, e2, q1, q2, q3⟩ := l_words1 z l hl hv (fun x hxl => (hx x hxl).roles) zw w hw s (univA l w.length).length (tab0 w) [] _ (by simp) r1.toWT (ti0 l w)
  obtain ⟨vss, f1, f2⟩ := frz_WT q1
  refine ⟨vss, tab, ?_, f2, q2.srt, q2.len, fun i j hij hj r => words_end hv q2 q3 hij hj⟩
  have hwl := wI (i := w.length) (by omega)
  have hn1 : ((w.length : Int) + 1).toNat = w.length + 1 := by omega
  have w0 : 0 ≤ (w.length : Int) + 1 := by omega
  have w16 : w.length + 1 ≤ 16777216 := by omega
  have hfl : (List.replicate (w.length + 1) [AV.ns]).flatten = List.replicate (w.length + 1) .ns := by simp
  have hpre := q1.pre
  have hne : ¬ H'.length = s.length := by have := q1.lt; omega
  refine go_ref06_Words (by simp) ?_
  clear q1 q2 q3 f2 r1 hx
  simp only [Int.ofNat_zero] at e1
  simp [callFnW, ir_ref06_Words, hwl, hn1, w0, w16, hfl, e1]
  rw [loopW_keep]
  simp [e2, f1, hpre, hne]
end Go.Ai.Z
