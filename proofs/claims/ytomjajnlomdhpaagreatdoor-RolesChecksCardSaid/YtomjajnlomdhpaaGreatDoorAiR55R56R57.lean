/-
  The reference's Check: its table of paths.
-/
import Derived.Test.YtomjajnlomdhpaaGreatDoorAiR53R54
import Derived.Test.YtomjajnlomdhpaaGreatDoorAiR49R50
set_option maxRecDepth 100000
set_option linter.unusedSimpArgs false
set_option linter.unusedVariables false
namespace Go.Ai.Z
structure PT (s : St) (E : RE) (rs : List Rl) (f : Nat → Nat) (H : St) : Prop where
  eq : ∃ cs : List AV, H = s ++ [.buf T_ref06_path_2 1 0 cs] ∧ cs.length = rs.length ∧ ∀ i c, rs[i]? = some c → cs[i]? = some (AV.sl ((levM E c (f i)).map encPE))
def optL : Option (List Rl) → AV
  | none => .ns
  | some m => .sl (m.map .s)
theorem PT.set {s : St} {E : RE} {rs : List Rl} {f : Nat → Nat} {H : St} (h : PT s E rs f H) {i : Nat} {c : Rl} (hi : rs[i]? = some c) {cs : List AV} (hH : H = s ++ [.buf T_ref06_path_2 1 0 cs]) :
    PT s E rs (fun k => if k = i then f i + 1 else f k) (s ++ [.buf T_ref06_path_2 1 0 (cs.set i (AV.sl ((levM E c (f i + 1)).map encPE)))]) := by
  obtain ⟨cs', e1, e2, e3⟩ := h.eq
  have : cs = cs' := by
    rw [hH] at e1
    simpa using e1
  subst this
  refine ⟨_, rfl, by rw [List.length_set, e2], fun k d hk => ?_⟩
  have hl := (List.getElem?_eq_some_iff.1 hi).1
  by_cases hki : k = i
  · subst hki
    rw [hi] at hk; cases hk
    rw [List.getElem?_set_self (by omega)]; simp
  · rw [List.getElem?_set_ne (Ne.symm hki), e3 k d hk]; simp [hki]
theorem bestM_append (E : RE) (a b : List PE) (o : Option (List Rl)) : bestM E (a ++ b) o = bestM E b (bestM E a o) := by simp [bestM, List.foldl_append]
theorem l_ref06_Check3 (s : St) (cx : Ctx) (E : RE) (hEl : E.length ≤ 1000000) (rs : List Rl) (cs : List AV) (hrl : cs.length = rs.length) (n9 : Int) (i : Nat) (hi : i < rs.length) (ps : List PE) (hcs : cs[i]? = some (.sl (ps.map encPE))) (n : Nat) (hps : ∀ p ∈ ps, p.1.length = n + 1) (hpl : ps.length ≤ 1000000) (hnn : n ≤ 900000) :
    ∀ (rest : List PE) (k : Nat) (o : Option (List Rl)), ps.drop k = rest → (∀ m, o = some m → m.length = n + 1) →
    ∃ j : Int, loopW (acodeW P0.glob (acallW P0) cx false ir_ref06_Check_L3) [5, 6, 7, 9, 10, 11, 12]
      [(5, .v (.sl (E.map encS))), (6, .v (slf true (rs.map .s))), (7, .v (.sk s.length 0 1 0 rs.length)), (9, .v (.i .i64 n9)), (10, .v (optL o)), (11, .v (.i .i64 i)), (12, .v (.i .i64 k))] (s ++ [.buf T_ref06_path_2 1 0 cs]) =
      .exit 6 [(5, .v (.sl (E.map encS))), (6, .v (slf true (rs.map .s))), (7, .v (.sk s.length 0 1 0 rs.length)), (9, .v (.i .i64 n9)), (10, .v (optL (bestM E rest o))), (11, .v (.i .i64 i)), (12, .v (.i .i64 j)), (60, .v (.b false))] (s ++ [.buf T_ref06_path_2 1 0 cs]) ∧ ∀ m, bestM E rest o = some m → m.length = n + 1
  | [], k, o, h, ho => by
    have h1 : ¬ k < ps.length := Nat.not_lt.2 (drop_nil h)
    obtain ⟨c1, c2⟩ := List.getElem?_eq_some_iff.1 hcs
    refine ⟨k, loop_step fun K hK => ?_, ho⟩
    simp [ir_ref06_Check_L3, h1, hi, hcs, c1, c2, bestM]
  | p :: rest, k, o, h, ho => by
    obtain ⟨g1, g2, g3, g4⟩ := drop_cons h
    have g5 := g4 g3
    have hwi := wI (i := k) (by omega)
    have hpm : p ∈ ps := by rw [← g5]; exact List.getElem_mem g3
    have hpn := hps p hpm
    obtain ⟨c1, c2⟩ := List.getElem?_eq_some_iff.1 hcs
    have e1 := c_ref06_closes E hEl p n hpn (by omega)
    have hb : ∀ m, bestF E o p = some m → m.length = n + 1 := fun m hm => by
      unfold bestF at hm
      split at hm
      · cases o with
        | none => simp at hm; rw [← hm]; exact hpn
        | some m0 =>
          simp only at hm
          split at hm
          · simp at hm; rw [← hm]; exact hpn
          · exact ho m hm
      · exact ho m hm
    obtain ⟨j, ih, r⟩ := l_ref06_Check3 s cx E hEl rs cs hrl n9 i hi ps hcs n hps hpl hnn rest (k + 1) (bestF E o p) g2 hb
    refine ⟨j, loop_step fun K hK => ?_, r⟩
    have hKk : ∀ e t, K e t = K (keepE e [5, 6, 7, 9, 10, 11, 12]) t := fun e t => by rw [hK]; exact loopW_keep _ _ _ _
    rw [← hK, show ((k + 1 : Nat) : Int) = (k : Int) + 1 from rfl] at ih
    clear hK g4 r hb hps
    rw [show bestM E (p :: rest) o = bestM E rest (bestF E o p) from rfl, ← ih]
    obtain ⟨pl, pb⟩ := p
    simp only at hpn
    cases hc : closesM E (pl, pb) with
    | false =>
      rw [hc] at e1
      have hbf : bestF E o (pl, pb) = o := by simp [bestF, hc]
      rw [hbf]
      simp [ir_ref06_Check_L3, g3, g5, hwi, hi, hcs, c1, c2, e1]
    | true =>
      rw [hc] at e1
      cases o with
      | none =>
        have hbf : bestF E none (pl, pb) = some pl := by simp [bestF, hc]
        rw [hbf]
        simp only [optL]
        simp [nilK, ir_ref06_Check_L3, g3, g5, hwi, hi, hcs, c1, c2, e1]
      | some m =>
        have hm := ho m rfl
        have e3 := c_ref06_less false false pl m (by omega) (by rw [hpn, hm])
        simp only [slf_false] at e3
        have hnk : nilK 0 (.sl (m.map .s)) = some false := by
          cases m with
          | nil => simp at hm
          | cons a r => rfl
        cases hlr : lessR pl m with
        | true =>
          have hbf : bestF E (some m) (pl, pb) = some pl := by simp [bestF, hc, hlr]
          rw [hbf]
          rw [hlr] at e3
          simp only [optL]
          simp [hnk, ir_ref06_Check_L3, g3, g5, hwi, hi, hcs, c1, c2, e1, e3]
        | false =>
          have hbf : bestF E (some m) (pl, pb) = some m := by simp [bestF, hc, hlr]
          rw [hbf]
          rw [hlr] at e3
          simp only [optL]
          simp [hnk, ir_ref06_Check_L3, g3, g5, hwi, hi, hcs, c1, c2, e1, e3]
end Go.Ai.Z
namespace Go.Ai.Z
theorem fold1_inv {U : List Rl} {n : Nat} {p : PE} (hp : p.1.length = n) : ∀ {E : RE} {out : List PE}, (∀ k ∈ E, k.2.1 ∈ U) → PInv U (n + 1) out → PInv U (n + 1) (E.foldl (stepM p) out)
  | [], _, _, h => h
  | k :: E, out, hE, h => fold1_inv hp (E := E) (fun k hk => hE k (by simp [hk])) (h.step hp (hE k (by simp)))
theorem long_inv {U : List Rl} {n : Nat} {E : RE} (hE : ∀ k ∈ E, k.2.1 ∈ U) : ∀ {paths out : List PE}, (∀ p ∈ paths, p.1.length = n) → PInv U (n + 1) out → PInv U (n + 1) (paths.foldl (fun out p => E.foldl (stepM p) out) out)
  | [], _, _, h => h
  | p :: paths, out, hp, h => long_inv hE (paths := paths) (fun q hq => hp q (by simp [hq])) (fold1_inv (hp p (by simp)) hE h)
theorem lev_inv {U : List Rl} {E : RE} (hE : ∀ k ∈ E, k.2.1 ∈ U) {c : Rl} (hc : c ∈ U) : ∀ i, PInv U (i + 1) (levM E c i)
  | 0 => ⟨fun y hy => by simp [levM] at hy; subst hy; rfl, by simp [ClsN, levM], fun y hy => by simp [levM] at hy; subst hy; exact hc⟩
  | i + 1 => long_inv hE (lev_inv hE hc i).len (PInv.nil U (i + 2))
def fL (lev i : Nat) : Nat → Nat := fun k => if k < i then lev + 1 else lev
theorem fL_set (lev i : Nat) : (fun k => if k = i then fL lev i i + 1 else fL lev i k) = fL lev (i + 1) := by
  funext k
  by_cases h : k = i
  · subst h; simp [fL]
  · by_cases h1 : k < i
    · simp [fL, h, h1, show k < i + 1 by omega]
    · simp [fL, h, h1, show ¬ k < i + 1 by omega]
theorem l_ref06_Check2 (s : St) (E : RE) (hEl : E.length ≤ 1000000) (rs : List Rl) (hrl : rs.length ≤ 100000) (hEU : ∀ k ∈ E, k.2.1 ∈ rs) (n9 : Int) (lev : Nat) (hlev : lev ≤ 100000) :
    ∀ (rest : List Rl) (i : Nat) (o : Option (List Rl)) (H : St), rs.drop i = rest → (∀ m, o = some m → m.length = lev + 1) → PT s E rs (fL lev i) H →
    ∃ (H' : St) (j : Int), loopW (acodeW P0.glob (acallW P0) ⟨s.length, s.length⟩ false ir_ref06_Check_L2) [5, 6, 7, 9, 10, 11]
      [(5, .v (.sl (E.map encS))), (6, .v (slf true (rs.map .s))), (7, .v (.sk s.length 0 1 0 rs.length)), (9, .v (.i .i64 n9)), (10, .v (optL o)), (11, .v (.i .i64 i))] H =
      .exit 4 [(5, .v (.sl (E.map encS))), (6, .v (slf true (rs.map .s))), (7, .v (.sk s.length 0 1 0 rs.length)), (9, .v (.i .i64 n9)), (10, .v (optL (bestM E (rest.flatMap fun c => levM E c lev) o))), (11, .v (.i .i64 j)), (51, .v (.b false))] H' ∧
      PT s E rs (fun _ => lev + 1) H' ∧ ∀ m, bestM E (rest.flatMap fun c => levM E c lev) o = some m → m.length = lev + 1
  | [], i, o, H, h, ho, hP => by
    have h1 : ¬ i < rs.length := Nat.not_lt.2 (drop_nil h)
    refine ⟨H, i, loop_step fun K hK => ?_, ?_, ho⟩
    · simp [ir_ref06_Check_L2, h1, bestM]
    · obtain ⟨cs, e1, e2, e3⟩ := hP.eq
      refine ⟨cs, e1, e2, fun k c hk => ?_⟩
      have hkl := (List.getElem?_eq_some_iff.1 hk).1
      have := e3 k c hk
      rw [show fL lev i k = lev + 1 by simp [fL]; omega] at this
      exact this
  | c :: rest, i, o, H, h, ho, hP => by
    obtain ⟨g1, g2, g3, g4⟩ := drop_cons h
    have g5 := g4 g3
    have hwi := wI (i := i) (by omega)
    have hc : c ∈ rs := by rw [← g5]; exact List.getElem_mem g3
    obtain ⟨cs, rfl, e2, e3⟩ := hP.eq
    have hci := e3 i c g1
    rw [show fL lev i i = lev by simp [fL]] at hci
    have hinv := lev_inv hEU hc lev
    have hfew := hinv.few
    obtain ⟨j1, k1, ho1⟩ := l_ref06_Check3 s ⟨s.length, s.length⟩ E hEl rs cs e2 n9 i g3 (levM E c lev) hci lev hinv.len (by omega) (by omega) (levM E c lev) 0 o rfl ho
    have k2 := fun s' cx => (c_ref06_longer E rs hrl hEl hEU (levM E c lev) lev hinv.len (by omega) (by omega) s' cx).1
    have hP' := hP.set g1 rfl
    rw [fL_set] at hP'
    rw [show fL lev i i = lev by simp [fL]] at hP'
    obtain ⟨H', j, ih, r1, r2⟩ := l_ref06_Check2 s E hEl rs hrl hEU n9 lev hlev rest (i + 1) (bestM E (levM E c lev) o) _ g2 ho1 hP'
    have hfm : bestM E ((c :: rest).flatMap fun c => levM E c lev) o = bestM E (rest.flatMap fun c => levM E c lev) (bestM E (levM E c lev) o) := by rw [List.flatMap_cons, bestM_append]
    rw [hfm]
    refine ⟨H', j, loop_step fun K hK => ?_, r1, r2⟩
    have hKk : ∀ e t, K e t = K (keepE e [5, 6, 7, 9, 10, 11]) t := fun e t => by rw [hK]; exact loopW_keep _ _ _ _
    rw [← hK, show ((i + 1 : Nat) : Int) = (i : Int) + 1 from rfl] at ih
    have hlm : longM E (levM E c lev) = levM E c (lev + 1) := rfl
    rw [hlm] at k2
    clear hK g4 r1 r2 hP hP' hinv hfew ho ho1 hfm hlm hEU
    obtain ⟨c1, c2⟩ := List.getElem?_eq_some_iff.1 hci
    have hset : cs.take i ++ .sl ((levM E c (lev + 1)).map encPE) :: cs.drop (i + 1) = cs.set i (.sl ((levM E c (lev + 1)).map encPE)) := set_spl c1
    have q1 : i + 1 ≤ cs.length := by omega
    rw [← ih]
    simp only [Int.ofNat_zero] at k1
    generalize levM E c (lev + 1) = L1 at *
    generalize levM E c lev = L0 at *
    generalize hbb : bestM E L0 o = bo at *
    simp [ir_ref06_Check_L2, g3, g5, hwi, k1, hci, c1, c2, k2, q1, hset]
where
  set_spl {cs : List AV} {i : Nat} {v : AV} (h : i < cs.length) : cs.take i ++ v :: cs.drop (i + 1) = cs.set i v := by
    rw [List.set_eq_take_append_cons_drop, if_pos h]
theorem l_ref06_Check1 (s : St) (E : RE) (hEl : E.length ≤ 1000000) (rs : List Rl) (hrl : rs.length ≤ 100000) (hEU : ∀ k ∈ E, k.2.1 ∈ rs) :
    ∀ (N lev : Nat) (H : St), lev + N = rs.length → PT s E rs (fun _ => lev) H →
    ∃ (H' : St) (j : Int), loopW (acodeW P0.glob (acallW P0) ⟨s.length, s.length⟩ false ir_ref06_Check_L1) [5, 6, 7, 9]
      [(5, .v (.sl (E.map encS))), (6, .v (slf true (rs.map .s))), (7, .v (.sk s.length 0 1 0 rs.length)), (9, .v (.i .i64 (lev + 1 : Nat)))] H =
      (match refM E rs N lev with
        | some m => .ret [(2, .v (.sl (m.map .s))), (3, .v (.i .i64 60))] H'
        | none => .exit 2 [(5, .v (.sl (E.map encS))), (6, .v (slf true (rs.map .s))), (7, .v (.sk s.length 0 1 0 rs.length)), (9, .v (.i .i64 j)), (45, .v (.b false))] H') ∧ H'.take s.length = s ∧ H'.length = s.length + 1
  | 0, lev, H, h, hP => by
    have h1 : ¬ lev < rs.length := by omega
    have h2 : ¬ (lev : Int) + 1 ≤ rs.length := by omega
    obtain ⟨cs, rfl, _⟩ := hP.eq
    refine ⟨s ++ [HObj.buf T_ref06_path_2 1 0 cs], (lev : Int) + 1, ?_, by simp, by simp⟩
    simp only [refM]
    refine loop_step fun K hK => ?_
    rw [show ((lev + 1 : Nat) : Int) = (lev : Int) + 1 from rfl]
    simp [ir_ref06_Check_L1, h1, h2]
  | N + 1, lev, H, h, hP => by
    have h1 : lev + 1 ≤ rs.length := by omega
    have h2 : (lev : Int) + 1 ≤ rs.length := by omega
    have h3 : lev < rs.length := by omega
    have hwi := wI (i := lev + 1) (by omega)
    have hP0 : PT s E rs (fL lev 0) H := by
      have : fL lev 0 = fun _ => lev := by funext k; simp [fL]
      rw [this]; exact hP
    obtain ⟨H1, j1, e1, r1, r2⟩ := l_ref06_Check2 s E hEl rs hrl hEU (lev + 1 : Nat) lev (by omega) rs 0 none H rfl (fun m hm => by cases hm) hP0
    have hall : bestM E (rs.flatMap fun c => levM E c lev) none = bestM E (allL E rs lev) none := rfl
    rw [hall] at e1 r2
    cases hb : bestM E (allL E rs lev) none with
    | some m =>
      rw [hb] at e1 r2
      have hml := r2 m rfl
      have hnk : nilK 0 (.sl (m.map .s)) = some false := by
        cases m with
        | nil => simp at hml
        | cons a r => rfl
      obtain ⟨cs, rfl, _⟩ := r1.eq
      refine ⟨_, 0, ?_, (by simp : (s ++ [HObj.buf T_ref06_path_2 1 0 cs]).take s.length = s), by simp⟩
      simp only [refM, hb]
      refine loop_step fun K hK => ?_
      clear hK hP hP0 r1 r2 hEU
      rw [show ((lev + 1 : Nat) : Int) = (lev : Int) + 1 from rfl] at e1 ⊢
      have e0 : optL none = AV.ns := rfl
      have e00 : optL (some m) = AV.sl (m.map .s) := rfl
      simp only [Int.ofNat_zero, e0, e00] at e1
      simp [ir_ref06_Check_L1, h1, h2, h3, e1, hnk]
    | none =>
      rw [hb] at e1
      obtain ⟨H', j, ih, q1, q2⟩ := l_ref06_Check1 s E hEl rs hrl hEU N (lev + 1) H1 (by omega) r1
      refine ⟨H', j, ?_, q1, q2⟩
      have hrf : refM E rs (N + 1) lev = refM E rs N (lev + 1) := by simp only [refM, hb]
      rw [hrf]
      generalize refM E rs N (lev + 1) = rr at ih ⊢
      refine loop_step fun K hK => ?_
      have hKk : ∀ e t, K e t = K (keepE e [5, 6, 7, 9]) t := fun e t => by rw [hK]; exact loopW_keep _ _ _ _
      rw [← hK] at ih
      clear hK hP hP0 r1 r2 hEU q1 q2
      rw [show ((lev + 1 : Nat) : Int) = (lev : Int) + 1 from rfl] at e1 hwi ⊢
      rw [show ((lev + 1 + 1 : Nat) : Int) = (lev : Int) + 1 + 1 from rfl] at ih
      have e0 : optL none = AV.ns := rfl
      simp only [Int.ofNat_zero, e0] at e1
      rw [← ih]
      simp [nilK, ir_ref06_Check_L1, h1, h2, h3, e1, hwi]
theorem l_ref06_Check0 (s : St) (E : RE) (rs : List Rl) (hrl : rs.length ≤ 100000) :
    ∀ (rest : List Rl) (i : Nat) (cs : List AV), rs.drop i = rest → cs.length = rs.length → (∀ (k : Nat) (c : Rl), k < i → rs[k]? = some c → cs[k]? = some (AV.sl ((levM E c 0).map encPE))) →
    ∃ (cs' : List AV) (j : Int), loopW (acodeW P0.glob (acallW P0) ⟨s.length, s.length⟩ false ir_ref06_Check_L0) [5, 6, 7, 8]
      [(5, .v (.sl (E.map encS))), (6, .v (slf true (rs.map .s))), (7, .v (.sk s.length 0 1 0 rs.length)), (8, .v (.i .i64 i))] (s ++ [.buf T_ref06_path_2 1 0 cs]) =
      .exit 0 [(5, .v (.sl (E.map encS))), (6, .v (slf true (rs.map .s))), (7, .v (.sk s.length 0 1 0 rs.length)), (8, .v (.i .i64 j)), (29, .v (.b false))] (s ++ [.buf T_ref06_path_2 1 0 cs']) ∧ cs'.length = rs.length ∧ ∀ (k : Nat) (c : Rl), rs[k]? = some c → cs'[k]? = some (AV.sl ((levM E c 0).map encPE))
  | [], i, cs, h, hl, hc => by
    have h1 : ¬ i < rs.length := Nat.not_lt.2 (drop_nil h)
    refine ⟨cs, i, loop_step fun K hK => ?_, hl, fun k c hk => hc k c (by have := (List.getElem?_eq_some_iff.1 hk).1; omega) hk⟩
    simp [ir_ref06_Check_L0, h1]
  | c :: rest, i, cs, h, hl, hc => by
    obtain ⟨g1, g2, g3, g4⟩ := drop_cons h
    have g5 := g4 g3
    have hwi := wI (i := i) (by omega)
    obtain ⟨cs', j, ih, r⟩ := l_ref06_Check0 s E rs hrl rest (i + 1) (cs.set i (.sl [encPE ([c], false)])) g2 (by rw [List.length_set, hl]) fun k d hk hd => by
      by_cases hki : i = k
      · subst hki
        rw [g1] at hd; cases hd
        rw [List.getElem?_set_self (by omega)]; rfl
      · rw [List.getElem?_set_ne hki]; exact hc k d (by omega) hd
    refine ⟨cs', j, loop_step fun K hK => ?_, r⟩
    have hKk : ∀ e t, K e t = K (keepE e [5, 6, 7, 8]) t := fun e t => by rw [hK]; exact loopW_keep _ _ _ _
    rw [← hK, show ((i + 1 : Nat) : Int) = (i : Int) + 1 from rfl] at ih
    clear hK g4 r hc
    have hset : cs.take i ++ .sl [encPE ([c], false)] :: cs.drop (i + 1) = cs.set i (.sl [encPE ([c], false)]) := by
      rw [List.set_eq_take_append_cons_drop, if_pos (by omega)]
    have q1 : i + 1 ≤ cs.length := by omega
    have hfold : AV.ag [.sl [.s c], .b false] = encPE ([c], false) := rfl
    rw [← ih]
    simp [fillC, ir_ref06_Check_L0, g3, g5, hwi, q1, hfold, hset]
def refV : Option (List Rl) → AV
  | none => .ns
  | some m => .sl (m.map .s)
def refE : Option (List Rl) → Int
  | none => 0
  | some _ => 60
theorem c_ref06_Check (z : Bool) (l : List Ax) (hl : l.length ≤ 100) (hx : ∀ x ∈ l, x.Few) (h0 : chkL l = 0) (hrl : (allM [] l).length ≤ 100000) (hEl : (stE l).length ≤ 1000000) (hEU : ∀ k ∈ stE l, k.2.1 ∈ allM [] l) (s : St) (cx : Ctx) :
    acallW P0 (.fn (.func F_ref06_Check) [] []) [slf z (l.map encA)] s cx = .ret (.tu [refV (refM (stE l) (allM [] l) (allM [] l).length 0), .i .i64 (refE (refM (stE l) (allM [] l) (allM [] l).length 0))]) s := by
  have e1 := c_ref06_checked z l (by omega) hx
  have e2 := c_ref06_steps z l (by omega) (one5_all h0) (fun x hxl => (hx x hxl).roles)
  have e3 := c_ref06_All z l (by omega) (fun x hxl => (hx x hxl).roles)
  generalize stE l = E at *
  generalize allM [] l = rs at *
  obtain ⟨cs', j0, e4, q1, q2⟩ := l_ref06_Check0 s E rs hrl rs 0 (List.replicate rs.length .ns) rfl (by simp) (fun k c hk => by omega)
  obtain ⟨H', j1, e5, r1, r2⟩ := l_ref06_Check1 s E hEl rs hrl hEU rs.length 0 _ (by omega) ⟨cs', rfl, q1, q2⟩
  have hfl : (List.replicate rs.length [AV.ns]).flatten = List.replicate rs.length .ns := by simp
  have w16 : rs.length ≤ 16777216 := by omega
  have hne : ¬ H'.length = s.length := by omega
  refine go_ref06_Check (by simp) ?_
  clear hEU hx q1 q2
  simp only [Int.ofNat_zero, show ((0 + 1 : Nat) : Int) = 1 from rfl] at e4 e5
  cases hr : refM E rs rs.length 0 with
  | none =>
    rw [hr] at e5
    simp only at e5
    have hf : frz H' s.length (.tu [.ns, .i .i64 0]) = some (.tu [.ns, .i .i64 0]) := by
      unfold frz; rw [if_pos (show AV.under s.length (AV.tu [.ns, .i .i64 0]) = true from rfl)]
    simp [callFnW, ir_ref06_Check, e1, h0, e2, e3, hfl, w16, e4, e5, hne, r1, hf, refV, refE]
  | some m =>
    rw [hr] at e5
    simp only at e5
    have hf := frz_strs H' s.length m .i64 60
    simp [callFnW, ir_ref06_Check, e1, h0, e2, e3, hfl, w16, e4, e5, hne, r1, hf, refV, refE]
end Go.Ai.Z
namespace Go.Ai.Z
theorem stE_allM {l : List Ax} (h5 : One5 l) {k : Rl × Rl × Bool} (hk : k ∈ stE l) : k.1 ∈ allM [] l ∧ k.2.1 ∈ allM [] l := by
  simp only [stE, List.mem_flatMap] at hk
  obtain ⟨x, hx, hk⟩ := hk
  have key : (k.1 ∈ x.roles ∧ k.2.1 = x.role) ∧ (x.kind = 5 ∨ x.kind = 6 ∨ x.kind = 7) := by
    simp only [stA, List.mem_append] at hk
    rcases hk with hk | hk
    · unfold subE at hk
      split at hk
      · rename_i hc
        simp at hk; subst hk
        obtain ⟨r, hr⟩ := h5 x hx hc.1
        exact ⟨by simp [hr], .inl hc.1⟩
      · cases hk
    · split at hk
      · rename_i h6; exact ⟨chE_mem hk, .inr (.inl h6)⟩
      · cases hk
  have hn : namesA x = x.role :: x.roles := by unfold namesA; rw [if_pos key.2]
  refine ⟨mem_allM.2 (.inl ⟨x, hx, ?_⟩), mem_allM.2 (.inl ⟨x, hx, ?_⟩)⟩
  · rw [hn]; simp [key.1.1]
  · rw [hn]; simp [key.1.2]
theorem c_ref06_Check' (z : Bool) (l : List Ax) (hl : l.length ≤ 100) (hx : ∀ x ∈ l, x.Few) {X : List Rl} {e : Int} (hC : CkOK l X e) (s : St) (cx : Ctx) :
    ∃ z', acallW P0 (.fn (.func F_ref06_Check) [] []) [slf z (l.map encA)] s cx = .ret (.tu [slf z' (X.map .s), .i .i64 e]) s := by
  by_cases h0 : chkL l = 0
  · have h5 := one5_all h0
    have hrl : (allM [] l).length ≤ 100000 := by
      have h1 := allM_len (n := 600) (l := l) (out := []) fun x hxl => (hx x hxl).roles
      have h2 := Nat.mul_le_mul_right (600 + 1) hl
      simp only [List.length_nil] at h1; omega
    have hEl : (stE l).length ≤ 1000000 := by
      have h1 := stE_len (n := 600) (l := l) fun x hxl => (hx x hxl).roles
      have h2 := Nat.mul_le_mul_right (600 + 1) hl
      omega
    have c := c_ref06_Check z l hl hx h0 hrl hEl (fun k hk => (stE_allM h5 hk).2) s cx
    rcases hC.2.2 h0 with ⟨hB, rfl⟩ | ⟨hN, rfl, rfl⟩
    · have hin : ∀ x ∈ X, x ∈ allM [] l := fun x hxX => by
        obtain ⟨p, hp, rfl⟩ := List.mem_map.1 (hB.1.froms x hxX)
        exact (stE_allM h5 hp).1
      have hlen := nodup_le hB.nodup hin
      have hpos : 0 < X.length := by
        obtain ⟨a, t, _, _, _, e, _⟩ := hB.1
        rw [e]; simp
      rw [ref_best hB hin (allM [] l).length 0 hpos (by omega)] at c
      exact ⟨false, by rw [slf_false]; exact c⟩
    · rw [ref_none (allM [] l) hN] at c
      exact ⟨true, c⟩
  · obtain ⟨rfl, rfl⟩ := hC.2.1 h0
    have e1 := c_ref06_checked z l (by omega) hx
    refine ⟨true, ?_⟩
    refine go_ref06_Check (by simp) ?_
    simp [callFnW, ir_ref06_Check, e1, h0]
theorem c_checks_law (z : Bool) (l : List Ax) (hl : l.length ≤ 1125899906842624) (hx : ∀ x ∈ l, x.Ok) (hs : acallW P0 (.fn (.func F_law06_sane) [] []) [] [] ⟨0, 0⟩ = .ret (.b true) []) (cx : Ctx) :
    acallW P0 (.fn (.func F_law06_RolesChecks) [] []) [slf z (l.map encA)] [] cx = .ret (.b true) [] := by
  obtain ⟨b, e1, hb⟩ := c_law06_few z l hl hx
  refine go_law06_RolesChecks (by simp) ?_
  cases b with
  | false => simp [callFnW, ir_law06_RolesChecks, hs, e1]
  | true =>
    obtain ⟨h12, hf⟩ := hb rfl
    obtain ⟨X, e, e2, hC⟩ := c_roles_Check z l (by omega) hf [] ⟨0, 0⟩
    obtain ⟨z', e3⟩ := c_ref06_Check' z l (by omega) hf hC [] ⟨0, 0⟩
    have e4 := c_ref06_Same false z' X X hC.1 hC.1
    simp only [slf_false] at e4
    clear hC hf hx hb
    simp at e4
    simp [callFnW, ir_law06_RolesChecks, hs, e1, e2, e3, e4]
end Go.Ai.Z
