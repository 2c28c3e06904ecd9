/-
 terms.meet: what it answers.
-/
import Derived.Test.YtpnlnnfcaeednaaGreatDoorAiT5T6
set_option maxRecDepth 100000
set_option linter.unusedSimpArgs false
set_option linter.unusedVariables false
set_option linter.unusedSectionVars false
namespace Go.Ai.Z
def avQ (n : Nat) (t : List C) : AV := match t with | [] => .ns | c :: r => .sk n r.length 5 0 (c :: r).length
def stQ (H : St) (t : List C) : St := match t with | [] => H | c :: r => H ++ [.buf T_api_Concept_1 5 r.length (flC (c :: r))]
theorem l_meet3 (D : List C) (hD : D.length ≤ 100000) (H : St) (lim base : Nat) (l ver : Nat) (t : Nat) (z : List AV) (hl : H[l]? = some (.buf t 7 ver (flT D ++ z))) (hlim : lim ≤ H.length) (hbase : base ≤ H.length) :
  ∀ (rest : List C) (i : Nat) (q : List C), D.drop i = rest → D = q ++ rest → q.length = i →
  ∃ j : Int, loopW (acodeW P0.glob (acallW P0) ⟨lim, base⟩ false ir_terms_meet_L3) [2, 91, 92, 93]
   [(2, .bx [.i .i64 5, .s [], .i .i64 0, .i .i64 0, avQ H.length q]), (91, .v (.sk l ver 7 0 D.length)), (92, .v (.i .i64 D.length)), (93, .v (.i .i64 i))] (stQ H q) =
   .exit 8 [(2, .bx [.i .i64 5, .s [], .i .i64 0, .i .i64 0, avQ H.length D]), (91, .v (.sk l ver 7 0 D.length)), (92, .v (.i .i64 D.length)), (93, .v (.i .i64 j)), (94, .v (.b false))] (stQ H D)
 | [], i, q, h, hc, hq => by
  have h1 : ¬ i < D.length := Nat.not_lt.2 (drop_nil h)
  have hc' : D = q := by simpa using hc
  refine ⟨i, loop_step fun K hK => ?_⟩
  rw [← hc']
  simp [ir_terms_meet_L3, h1]
 | p :: r, i, q, h, hc, hq => by
  obtain ⟨h1, h2, h3, h4⟩ := drop_cons h
  have h5 := h4 h3
  have hwi := wI (i := i) (by omega)
  have hlH : l < H.length := (List.getElem?_eq_some_iff.1 hl).1
  obtain ⟨j, ih2⟩ := l_meet3 D hD H lim base l ver t z hl hlim hbase r (i + 1) (q ++ [p]) h2 (by simp [hc]) (by simp [hq])
  refine ⟨j, loop_step fun K hK => ?_⟩
  rw [← hK] at ih2
  have hg := get_flT D z i h3
  rw [h5] at hg
  have hb := fit_flT D z i h3
  have hm : q.length + 1 ≤ maxSl := by unfold maxSl; omega
  clear hK h4
  cases q with
  | nil =>
   simp at hq
   subst hq
   simp [avQ, stQ] at ih2 hm hwi hg hb
   simp [ir_terms_meet_L3, avQ, stQ, h3, hwi, hl, hg, hb, hm, List.range_succ]
   rw [flC_one]
   exact ih2
  | cons a q =>
   have hfd := flC_fold (a :: q) p
   have hl2 : (H ++ [HObj.buf T_api_Concept_1 5 q.length (flC (a :: q))])[l]? = some (.buf t 7 ver (flT D ++ z)) := by rw [List.getElem?_append_left hlH]; exact hl
   simp [avQ, stQ] at ih2 hm hfd
   simp at hq
   have h7 : (q.length + 1) * 5 ≤ (flC (a :: q)).length := by rw [flC_len]; exact Nat.le_refl _
   simp [ir_terms_meet_L3, avQ, stQ, h3, hwi, hl2, hg, hb, hm, List.range_succ, hlim, hbase, h7, hfd]
   exact ih2
theorem flatOf_nz (x : C) : (flatOf x).map nz = flatOf (nz x) := by
 unfold flatOf
 rw [nz_kind, nz_parts]
 (repeat' split) <;> rfl
theorem flatL_nz (fx : C → C) : ∀ ps : List C, (flatL fx ps).map nz = (ps.map fun p => nz (fx p)).flatMap flatOf
 | [] => rfl
 | p :: r => by
  have h := flatL_nz fx r
  simp only [flatL, List.flatMap_cons, List.map_append, List.map_cons, flatOf_nz] at h ⊢
  rw [h]
theorem find_nz (l : List C) : (l.map nz).find? (fun t => decide (t.kind = 2)) = (l.find? (fun t => decide (t.kind = 2))).map nz := by
 rw [List.find?_map]
 congr 1
 have : ((fun t : C => decide (t.kind = 2)) ∘ nz) = fun t => decide (t.kind = 2) := by funext t; simp [nz_kind]
 rw [this]
theorem c_compact_ns (cx : Ctx) (s : St) : acallW P0 (.fn (.func F_slices_CompactFunc_terms_tree_terms_tree) [] []) [.ns, avM] s cx = .ret .ns s := by
 refine go_slices_CompactFunc_terms_tree_terms_tree (by simp) ?_
 simp [callFnW, ir_slices_CompactFunc_terms_tree_terms_tree]
@[simp] theorem frz_tuC (S : St) (n : Nat) (d : C) (e : Int) : frz S n (.tu [encC d, .i .i64 e]) = some (.tu [encC d, .i .i64 e]) := by
 have hu : (AV.tu [encC d, .i .i64 e]).under n = true := by simp
 rw [frz, if_pos hu]
@[simp] theorem frz_tuZ (S : St) (n : Nat) (e : Int) : frz S n (.tu [.ag [.i .i64 0, .s [], .i .i64 0, .i .i64 0, .ns], .i .i64 e]) = some (.tu [.ag [.i .i64 0, .s [], .i .i64 0, .i .i64 0, .ns], .i .i64 e]) := by
 have hu : (AV.tu [.ag [.i .i64 0, .s [], .i .i64 0, .i .i64 0, .ns], .i .i64 e]).under n = true := by simp
 rw [frz, if_pos hu]
theorem c_meet (zp : Bool) (ps : List C) (hps : ps.length ≤ 1000) (fx : C → C) (fe : C → Int) (hf : ∀ p ∈ ps, ∀ (s : St) (cx : Ctx), acallW P0 (.fn (.func F_terms_tidy) [] []) [encC p] s cx = .ret (.tu [encC (fx p), .i .i64 (fe p)]) s)
  (hwx : ∀ p ∈ ps, wC (fx p) ≤ 1000) (hL : (flatL fx ps).length ≤ 100000) (hwL : ∀ c ∈ flatL fx ps, wC c ≤ 1000) :
  ∃ (x : C) (e : Int), (if errL fe ps = 0 then TidyR (meetN (ps.map fun p => nz (fx p))) x e else e = errL fe ps) ∧ (e ≠ 0 → wC x ≤ 1) ∧
   ∀ (s : St) (cx : Ctx), cx.lim ≤ s.length → acallW P0 (.fn (.func F_terms_meet) [] []) [slf zp (ps.map encC)] s cx = .ret (.tu [encC x, .i .i64 e]) s := by
 have hz0 : encC (.mk 0 [] 0 0 true []) = .ag z5 := by rw [encC_eq]; simp [z5, C.kind, C.name, C.lo, C.hi, C.z, C.parts]
 by_cases herr : errL fe ps = 0
 ·obtain ⟨M, hMp, hMs, hsort, hsort0⟩ := c_sort (flatL fx ps) hL hwL
  have hDn : (comp M).map nz = comp (isortC ((ps.map fun p => nz (fx p)).flatMap flatOf)) := by
   rw [comp_nz, sorted_nz hMp hMs, flatL_nz]
  have hmt : meetN (ps.map fun p => nz (fx p)) = (match ((comp M).find? (fun t => decide (t.kind = 2))).map nz with
    | some t => some t
    | none => match (comp M).map nz with
     | [] => some topC
     | [x] => some x
     | _ => if 8 < ((comp M).map nz).length then none else some (.mk 5 [] 0 0 false ((comp M).map nz))) := by
   rw [meetN, ← hDn, find_nz]
   rfl
  have hl0 := fun (s : St) (lim : Nat) (hlim : lim ≤ s.length) => l_meet0 zp ps (by omega) fx fe hf hwx s lim hlim ps 0 [] rfl (by simpa using hL)
  simp only [if_pos herr, List.nil_append] at hl0
  simp only [if_pos herr]
  generalize hLL : flatL fx ps = L at *
  cases L with
  | nil =>
   have hM0 : M = [] := List.Perm.eq_nil hMp
   subst hM0
   refine ⟨.mk 1 [] 0 0 true [], 0, ?_, fun h => absurd rfl h, fun s cx hcx => ?_⟩
   ·rw [hmt]; exact ⟨by rw [nz_eq]; rfl, rfl⟩
   ·obtain ⟨j, t', hl⟩ := hl0 s cx.lim hcx
    simp [avK, stK, z5] at hl
    have hs0 := hsort0 rfl
    have hc0 := c_compact_ns
    simp only [avM] at hc0
    have h2 : loopW (acodeW P0.glob (acallW P0) ⟨cx.lim, s.length⟩ false ir_terms_meet_L2) [2, 4, 59, 60, 61]
      [(2, .bx [.i .i64 0, .s [], .i .i64 0, .i .i64 0, .ns]), (4, .v .ns), (59, .v .ns), (60, .v (.i .i64 0)), (61, .v (.i .i64 0))] s =
      .exit 5 [(2, .bx [.i .i64 0, .s [], .i .i64 0, .i .i64 0, .ns]), (4, .v .ns), (59, .v .ns), (60, .v (.i .i64 0)), (61, .v (.i .i64 0)), (62, .v (.b false))] s :=
     loop_step fun K hK => by simp [ir_terms_meet_L2]
    refine go_terms_meet (by simp) ?_
    have e1 : encC (.mk 1 [] 0 0 true []) = .ag [.i .i64 1, .s [], .i .i64 0, .i .i64 0, .ns] := by rw [encC_eq]; simp [C.kind, C.name, C.lo, C.hi, C.z, C.parts]
    rw [e1]
    simp [callFnW, ir_terms_meet, hl, hs0, hc0, h2, fillC]
  | cons c r =>
   have hML : M.length = r.length + 1 := hMp.length_eq
   have hMw : ∀ x ∈ M, wC x ≤ 1000 := fun x hx => hwL x (hMp.mem_iff.1 hx)
   obtain ⟨z', hcc⟩ := compCells_eq M []
   have hDl := comp_le M
   -- all steps up to the search
   have steps : ∀ (s : St) (cx : Ctx), cx.lim ≤ s.length →
     (∃ j t', loopW (acodeW P0.glob (acallW P0) ⟨cx.lim, s.length⟩ false ir_terms_meet_L0) [2, 4, 15, 16, 17]
      [(2, .bx z5), (4, .v .ns), (15, .v (slf zp (ps.map encC))), (16, .v (.i .i64 ps.length)), (17, .v (.i .i64 ((0 : Nat) : Int)))] s =
      .exit 0 [(2, .bx z5), (4, .v (.sk s.length r.length 7 0 (r.length + 1))), (15, .v (slf zp (ps.map encC))), (16, .v (.i .i64 ps.length)), (17, .v (.i .i64 j)), (18, .v (.b false))] (s ++ [.buf T_terms_tree_1 7 r.length (flT (c :: r))]) ∧ t' = ([] : List C)) ∧
     acallW P0 (.fn (.func F_slices_SortFunc_terms_tree_terms_tree) [] []) [.sk s.length r.length 7 0 (r.length + 1), .fn (.func F_terms_tree_compare) [] []] (s ++ [.buf T_terms_tree_1 7 r.length (flT (c :: r))]) ⟨cx.lim, s.length⟩ = .ret (.tu []) (s ++ [.buf T_terms_tree_1 7 r.length (flT M)]) ∧
     acallW P0 (.fn (.func F_slices_CompactFunc_terms_tree_terms_tree) [] []) [.sk s.length r.length 7 0 (r.length + 1), .fn (.func F_terms_meet_1) [] []] (s ++ [.buf T_terms_tree_1 7 r.length (flT M)]) ⟨cx.lim, s.length⟩ = .ret (.sk s.length r.length 7 0 (comp M).length) (s ++ [.buf T_terms_tree_1 7 r.length (flT (comp M) ++ z')]) := by
    intro s cx hcx
    refine ⟨?_, ?_, ?_⟩
    ·obtain ⟨j, t', hl⟩ := hl0 s cx.lim hcx
     exact ⟨j, [], by simpa [avK, stK] using hl, rfl⟩
    ·have := hsort (s ++ [.buf T_terms_tree_1 7 r.length (flT (c :: r))]) ⟨cx.lim, s.length⟩ s.length T_terms_tree_1 r.length [] (by simp) hcx (Nat.le_refl _)
     simpa using this
    ·have := c_compact M (by rw [hML]; simp at hL; omega) hMw (s ++ [.buf T_terms_tree_1 7 r.length (flT M)]) ⟨cx.lim, s.length⟩ s.length T_terms_tree_1 r.length [] (by simp) hcx (Nat.le_refl _) (r.length + 1) hML.symm (by simp)
     rw [hcc] at this
     simpa [avM] using this
   obtain ⟨m, rr, hMc⟩ : ∃ m rr, M = m :: rr := by cases M with | nil => simp at hML | cons m rr => exact ⟨m, rr, rfl⟩
   have hDne : (comp M) ≠ [] := by rw [hMc]; simp [comp]
   have hDlen : (comp M).length ≤ 100000 := by simp at hL; omega
   generalize hDD : comp M = D at *
   cases hfind : D.find? (fun t => decide (t.kind = 2)) with
   | some d =>
    refine ⟨d, 0, ?_, fun h => absurd rfl h, fun s cx hcx => ?_⟩
    ·rw [hmt, hfind]; exact ⟨rfl, rfl⟩
    ·obtain ⟨⟨j, t', h0, _⟩, h1, h2⟩ := steps s cx hcx
     obtain ⟨j2, h3⟩ := l_meet2 D hDlen (s ++ [.buf T_terms_tree_1 7 r.length (flT D ++ z')]) ⟨cx.lim, s.length⟩ s.length T_terms_tree_1 r.length z' (by simp) z5 rfl D 0 rfl
     rw [hfind] at h3
     refine go_terms_meet (by simp) ?_
     simp [z5] at h0 h3
     simp [callFnW, ir_terms_meet, h0, h1, h2, h3]
   | none =>
    have hsearch : ∀ (s : St) (cx : Ctx), ∃ j, loopW (acodeW P0.glob (acallW P0) cx false ir_terms_meet_L2) [2, 4, 59, 60, 61]
      [(2, .bx z5), (4, .v (.sk s.length r.length 7 0 D.length)), (59, .v (.sk s.length r.length 7 0 D.length)), (60, .v (.i .i64 D.length)), (61, .v (.i .i64 ((0 : Nat) : Int)))] (s ++ [.buf T_terms_tree_1 7 r.length (flT D ++ z')]) =
      .exit 5 [(2, .bx z5), (4, .v (.sk s.length r.length 7 0 D.length)), (59, .v (.sk s.length r.length 7 0 D.length)), (60, .v (.i .i64 D.length)), (61, .v (.i .i64 j)), (62, .v (.b false))] (s ++ [.buf T_terms_tree_1 7 r.length (flT D ++ z')]) := by
     intro s cx
     obtain ⟨j2, h3⟩ := l_meet2 D hDlen (s ++ [.buf T_terms_tree_1 7 r.length (flT D ++ z')]) cx s.length T_terms_tree_1 r.length z' (by simp) z5 rfl D 0 rfl
     rw [hfind] at h3
     exact ⟨j2, h3⟩
    rw [hfind] at hmt
    simp only [Option.map_none] at hmt
    clear hf hwx hsort hsort0 hl0 hMp hMs hDn hMw hcc hfind
    rcases D with _ | ⟨x, _ | ⟨y, q⟩⟩
    ·exact absurd rfl hDne
    ·refine ⟨x, 0, ?_, fun h => absurd rfl h, fun s cx hcx => ?_⟩
     ·rw [hmt]; exact ⟨rfl, rfl⟩
     ·obtain ⟨⟨j, t', h0, _⟩, h1, h2⟩ := steps s cx hcx
      obtain ⟨j2, h3⟩ := hsearch s ⟨cx.lim, s.length⟩
      have hg : AV.ag ((flT [x] ++ z').take 5) = encC x := by rw [encC_eq]; rfl
      have hb : 5 ≤ (flT [x] ++ z').length := by simp; omega
      refine go_terms_meet (by simp) ?_
      generalize flT [x] = X at *
      simp [z5] at h0 h3 h2 h1 hb
      simp [callFnW, ir_terms_meet, h0, h1, h2, h3, hg, hb]
    ·by_cases h8 : 8 < (x :: y :: q).length
     ·refine ⟨.mk 0 [] 0 0 true [], 2, ?_, fun _ => by simp [wC, wL], fun s cx hcx => ?_⟩
      ·rw [hmt]
       simp only [List.map_cons]
       rw [if_pos (by simpa using h8)]; rfl
      ·obtain ⟨⟨j, t', h0, _⟩, h1, h2⟩ := steps s cx hcx
       obtain ⟨j2, h3⟩ := hsearch s ⟨cx.lim, s.length⟩
       have hn0 : ¬ x :: y :: q = [] := by simp
       have hn1 : ¬ ((x :: y :: q).length : Int) = 1 := by simp; omega
       have hn8 : (8 : Int) < ((x :: y :: q).length : Int) := by omega
       refine go_terms_meet (by simp) ?_
       rw [hz0]
       generalize x :: y :: q = X at *
       simp [z5] at h0 h3 h2 h1
       simp [callFnW, ir_terms_meet, z5, h0, h1, h2, h3, hn0, hn1, hn8, fillC]
     ·refine ⟨.mk 5 [] 0 0 false (x :: y :: q), 0, ?_, fun h => absurd rfl h, fun s cx hcx => ?_⟩
      ·rw [hmt]
       simp only [List.map_cons]
       rw [if_neg (by simpa using h8)]
       exact ⟨by rw [nz_eq]; rfl, rfl⟩
      ·obtain ⟨⟨j, t', h0, _⟩, h1, h2⟩ := steps s cx hcx
       obtain ⟨j2, h3⟩ := hsearch s ⟨cx.lim, s.length⟩
       have hn0 : ¬ x :: y :: q = [] := by simp
       have hn1 : ¬ ((x :: y :: q).length : Int) = 1 := by simp; omega
       have hn8 : ¬ (8 : Int) < ((x :: y :: q).length : Int) := by omega
       obtain ⟨j3, h4⟩ := l_meet3 (x :: y :: q) hDlen (s ++ [.buf T_terms_tree_1 7 r.length (flT (x :: y :: q) ++ z')]) cx.lim s.length s.length r.length T_terms_tree_1 z' (by simp) (by simp; omega) (by simp) (x :: y :: q) 0 [] rfl rfl rfl
       have hfz := frz_parts (stQ (s ++ [.buf T_terms_tree_1 7 r.length (flT (x :: y :: q) ++ z')]) (x :: y :: q)) s.length (s.length + 1) (y :: q).length T_api_Concept_1 (x :: y :: q) (by simp [stQ]) (by omega)
       refine go_terms_meet (by simp) ?_
       simp only [avQ, stQ] at h4 hfz
       generalize hYq : y :: q = Y at *
       generalize hX : x :: Y = X at *
       simp [z5] at h0 h3 h2 h1 h4 hfz
       simp [callFnW, ir_terms_meet, z5, h0, h1, h2, h3, h4, hn0, hn1, hn8, hfz]
 ·refine ⟨.mk 0 [] 0 0 true [], errL fe ps, by rw [if_neg herr], fun _ => by simp [wC, wL], fun s cx hcx => ?_⟩
  obtain ⟨j, t', hl⟩ := l_meet0 zp ps (by omega) fx fe hf hwx s cx.lim hcx ps 0 [] rfl (by simpa using hL)
  rw [if_neg herr] at hl
  have hst : stK s t' = s ∨ ∃ o, stK s t' = s ++ [o] := by cases t' with | nil => exact .inl rfl | cons a t => exact .inr ⟨_, rfl⟩
  generalize stK s t' = S1 at hl hst
  simp [avK, stK, z5] at hl
  refine go_terms_meet (by simp) ?_
  rw [hz0]
  rcases hst with rfl | ⟨o, rfl⟩
  ·simp [callFnW, ir_terms_meet, z5, hl]
  ·simp [callFnW, ir_terms_meet, z5, hl]
end Go.Ai.Z
