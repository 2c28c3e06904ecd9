/-
  Axioms by their texts: the cases.
-/
import Derived.Test.YtomjajnlomdhpaaGreatDoorAiInj5Inj6
set_option maxRecDepth 100000
set_option linter.unusedSimpArgs false
set_option linter.unusedVariables false
namespace Go.Ai.Z
open Go.Ai.Inj

theorem full {x : Ax} (h : checkAS x = 0) : shapedS x = true ∧ namedU x (useS x.kind) = true := by
  unfold checkAS at h
  split at h
  · cases h
  split at h
  · cases h
  rename_i hs hn
  exact ⟨by simpa using hs, by simpa using hn⟩
theorem nz_empty {c : C} (h : emptyS c = true) : nz c = .mk 0 [] 0 0 false [] := by
  simp [emptyS] at h
  obtain ⟨⟨⟨⟨h1, h2⟩, h3⟩, h4⟩, h5⟩ := h
  rw [nz_eq, h1, h2, h3, h4, h5]; rfl
theorem plain_all : ∀ {l : List (List UInt8)}, allPlain l = true → ∀ r ∈ l, Name r
  | [], _, r, hr => by cases hr
  | a :: l, h, r, hr => by
    simp only [allPlain, Bool.and_eq_true] at h
    rcases List.mem_cons.1 hr with rfl | hr
    · exact plain_name h.1
    · exact plain_all h.2 r hr
theorem person_bytes {l : List UInt8} (h : personS l = true) : ∀ b ∈ l, nameB b = true := by
  simp only [personS, Bool.or_eq_true] at h
  rcases h with h | h
  · exact (plain_name h).bytes
  · exact res_bytes h
def E0 : C := .mk 0 [] 0 0 false []
/-- What a checked axiom is, by kind. -/
inductive SV (x : Ax) : Prop where
  | con (W : List UInt8) (hk : (x.kind = 1 ∧ W = [115, 117, 98]) ∨ (x.kind = 2 ∧ W = [115, 97, 109, 101]) ∨ (x.kind = 3 ∧ W = [100, 105, 115, 106, 111, 105, 110, 116])) (hl : walkS x.left = 0) (hr : walkS x.right = 0)
      (e : statS x = textS x.left ++ (32 :: (W ++ 32 :: textS x.right))) (f : x.roles = [] ∧ x.role = [] ∧ x.a = [] ∧ x.b = [])
  | dom (hk : x.kind = 4) (hn : Name x.role) (hr : walkS x.right = 0) (e : statS x = [100, 111, 109, 97, 105, 110] ++ 32 :: (x.role ++ 32 :: textS x.right)) (f : nz x.left = E0 ∧ x.roles = [] ∧ x.a = [] ∧ x.b = [])
  | sub (r : List UInt8) (hk : x.kind = 5) (hr : x.roles = [r]) (hn : Name r) (hn' : Name x.role) (e : statS x = [114, 111, 108, 101] ++ 32 :: (r ++ 32 :: 115 :: 117 :: 98 :: 32 :: x.role)) (f : nz x.left = E0 ∧ nz x.right = E0 ∧ x.a = [] ∧ x.b = [])
  | chn (hk : x.kind = 6) (h2 : 2 ≤ x.roles.length) (hn : ∀ r ∈ x.roles, Name r) (hn' : Name x.role) (e : statS x = [99, 104, 97, 105, 110] ++ (x.roles.flatMap (fun r => 32 :: r) ++ [32, 115, 117, 98, 32] ++ x.role)) (f : nz x.left = E0 ∧ nz x.right = E0 ∧ x.a = [] ∧ x.b = [])
  | ref (hk : x.kind = 7) (hn : Name x.role) (e : statS x = [114, 101, 102, 108, 101, 120, 105, 118, 101] ++ 32 :: x.role) (f : nz x.left = E0 ∧ nz x.right = E0 ∧ x.roles = [] ∧ x.a = [] ∧ x.b = [])
  | typ (hk : x.kind = 8) (ha : ∀ b ∈ x.a, nameB b = true) (hr : walkS x.right = 0) (e : statS x = [116, 121, 112, 101] ++ 32 :: (x.a ++ 32 :: textS x.right)) (f : nz x.left = E0 ∧ x.roles = [] ∧ x.role = [] ∧ x.b = [])
  | lnk (hk : x.kind = 9) (ha : ∀ b ∈ x.a, nameB b = true) (hb : ∀ b ∈ x.b, nameB b = true) (hn : Name x.role) (e : statS x = [108, 105, 110, 107] ++ 32 :: (x.a ++ 32 :: (x.role ++ 32 :: x.b))) (f : nz x.left = E0 ∧ nz x.right = E0 ∧ x.roles = [])
theorem sv {x : Ax} (h : checkAS x = 0) : SV x := by
  obtain ⟨hs, hn⟩ := full h
  have hg := good h
  have nil : (x.roles.length : Int) ≤ 0 → x.roles = [] := fun h => List.length_eq_zero_iff.1 (by omega)
  simp only [shapedS, Bool.and_eq_true, decide_eq_true_eq] at hs
  simp only [namedU, Bool.and_eq_true] at hn
  rcases hg.k with k | k | k | k | k | k | k | k | k
  · simp [k, useS] at hs hn
    exact .con _ (.inl ⟨k, rfl⟩) (hg.l (by simp [k])) (hg.r (by simp [k])) (by simp [statS, k]) ⟨by simp_all, by simp_all, by simp_all, by simp_all⟩
  · simp [k, useS] at hs hn
    exact .con _ (.inr (.inl ⟨k, rfl⟩)) (hg.l (by simp [k])) (hg.r (by simp [k])) (by simp [statS, k]) ⟨by simp_all, by simp_all, by simp_all, by simp_all⟩
  · simp [k, useS] at hs hn
    exact .con _ (.inr (.inr ⟨k, rfl⟩)) (hg.l (by simp [k])) (hg.r (by simp [k])) (by simp [statS, k]) ⟨by simp_all, by simp_all, by simp_all, by simp_all⟩
  · simp [k, useS] at hs hn
    exact .dom k (plain_name (by simp_all)) (hg.r (by simp [k])) (by simp [statS, k]) ⟨nz_empty (by simp_all), by simp_all, by simp_all, by simp_all⟩
  · simp [k, useS] at hs hn
    have h5 := hg.r5 k
    rcases hr : x.roles with _ | ⟨r, _ | ⟨q, l⟩⟩
    · simp [hr] at h5
    · exact .sub r k hr (plain_all (l := x.roles) (by simp_all) r (by simp [hr])) (plain_name (by simp_all)) (by simp [statS, k, hr]) ⟨nz_empty (by simp_all), nz_empty (by simp_all), by simp_all, by simp_all⟩
    · simp [hr] at h5
  · simp [k, useS] at hs hn
    exact .chn k (hg.r6 k).1 (plain_all (by simp_all)) (plain_name (by simp_all)) (by simp [statS, k]) ⟨nz_empty (by simp_all), nz_empty (by simp_all), by simp_all, by simp_all⟩
  · simp [k, useS] at hs hn
    exact .ref k (plain_name (by simp_all)) (by simp [statS, k]) ⟨nz_empty (by simp_all), nz_empty (by simp_all), by simp_all, by simp_all, by simp_all⟩
  · simp [k, useS] at hs hn
    exact .typ k (person_bytes (by simp_all)) (hg.r (by simp [k])) (by simp [statS, k]) ⟨nz_empty (by simp_all), by simp_all, by simp_all, by simp_all⟩
  · simp [k, useS] at hs hn
    exact .lnk k (person_bytes (by simp_all)) (person_bytes (by simp_all)) (plain_name (by simp_all)) (by simp [statS, k]) ⟨nz_empty (by simp_all), nz_empty (by simp_all), by simp_all⟩
end Go.Ai.Z

/-
  Checked axioms with one statement are one.
-/
namespace Go.Ai.Z
open Go.Ai.Inj

structure Eqv (x y : Ax) : Prop where
  k : x.kind = y.kind
  l : nz x.left = nz y.left
  r : nz x.right = nz y.right
  rs : x.roles = y.roles
  ro : x.role = y.role
  a : x.a = y.a
  b : x.b = y.b
theorem te_w {W r : List UInt8} (h : W = [115, 117, 98] ∨ W = [115, 97, 109, 101] ∨ W = [100, 105, 115, 106, 111, 105, 110, 116]) : Te (32 :: (W ++ r)) := by
  rcases h with rfl | rfl | rfl
  · exact .inr (.inl ⟨_, rfl⟩)
  · exact .inr (.inl ⟨_, rfl⟩)
  · exact .inr (.inr ⟨_, rfl⟩)
theorem sp_cons {r : List UInt8} : Stops nameB (32 :: r) := sp_name r
/-- The keyword of a statement that begins with none of a concept's words. -/
theorem con_kw {x : Ax} {W K r : List UInt8} (hW : W = [115, 117, 98] ∨ W = [115, 97, 109, 101] ∨ W = [100, 105, 115, 106, 111, 105, 110, 116]) (hl : walkS x.left = 0) (hK : KW K)
    (h : textS x.left ++ (32 :: (W ++ 32 :: textS x.right)) = K ++ 32 :: r) : False := head_kw hl (te_w hW) hK h
theorem kw_dom : KW [100, 111, 109, 97, 105, 110] := ⟨by decide, by decide, by decide, by decide, by decide⟩
theorem kw_rol : KW [114, 111, 108, 101] := ⟨by decide, by decide, by decide, by decide, by decide⟩
theorem kw_chn : KW [99, 104, 97, 105, 110] := ⟨by decide, by decide, by decide, by decide, by decide⟩
theorem kw_ref : KW [114, 101, 102, 108, 101, 120, 105, 118, 101] := ⟨by decide, by decide, by decide, by decide, by decide⟩
theorem kw_typ : KW [116, 121, 112, 101] := ⟨by decide, by decide, by decide, by decide, by decide⟩
theorem kw_lnk : KW [108, 105, 110, 107] := ⟨by decide, by decide, by decide, by decide, by decide⟩
theorem kw_opn : KW [111, 112, 101, 110] := ⟨by decide, by decide, by decide, by decide, by decide⟩
theorem kw_prv : KW [112, 114, 105, 118, 97, 116, 101] := ⟨by decide, by decide, by decide, by decide, by decide⟩
/-- A statement begins with a keyword and a space, or with a concept. -/
theorem stat_head {x : Ax} (h : SV x) : (∃ W, (W = [115, 117, 98] ∨ W = [115, 97, 109, 101] ∨ W = [100, 105, 115, 106, 111, 105, 110, 116]) ∧ (x.kind = 1 ∨ x.kind = 2 ∨ x.kind = 3) ∧ walkS x.left = 0 ∧ statS x = textS x.left ++ (32 :: (W ++ 32 :: textS x.right))) ∨
    ∃ K r, KW K ∧ statS x = K ++ 32 :: r ∧ ((x.kind = 4 ∧ K = [100, 111, 109, 97, 105, 110]) ∨ (x.kind = 5 ∧ K = [114, 111, 108, 101]) ∨ (x.kind = 6 ∧ K = [99, 104, 97, 105, 110]) ∨ (x.kind = 7 ∧ K = [114, 101, 102, 108, 101, 120, 105, 118, 101]) ∨ (x.kind = 8 ∧ K = [116, 121, 112, 101]) ∨ (x.kind = 9 ∧ K = [108, 105, 110, 107])) := by
  rcases h with ⟨W, hk, hl, hr, e, f⟩ | ⟨hk, hn, hr, e, f⟩ | ⟨r, hk, hr, hn, hn', e, f⟩ | ⟨hk, h2, hn, hn', e, f⟩ | ⟨hk, hn, e, f⟩ | ⟨hk, ha, hr, e, f⟩ | ⟨hk, ha, hb, hn, e, f⟩
  · refine .inl ⟨W, ?_, ?_, hl, e⟩
    · rcases hk with ⟨_, h⟩ | ⟨_, h⟩ | ⟨_, h⟩ <;> simp [h]
    · rcases hk with ⟨h, _⟩ | ⟨h, _⟩ | ⟨h, _⟩ <;> simp [h]
  · exact .inr ⟨_, _, kw_dom, e, .inl ⟨hk, rfl⟩⟩
  · exact .inr ⟨_, _, kw_rol, e, .inr (.inl ⟨hk, rfl⟩)⟩
  · rcases hr : x.roles with _ | ⟨a, l⟩
    · simp [hr] at h2
    · exact .inr ⟨[99, 104, 97, 105, 110], a ++ (l.flatMap (fun r => 32 :: r) ++ [32, 115, 117, 98, 32] ++ x.role), kw_chn, by rw [e, hr]; simp, .inr (.inr (.inl ⟨hk, rfl⟩))⟩
  · exact .inr ⟨_, _, kw_ref, e, .inr (.inr (.inr (.inl ⟨hk, rfl⟩)))⟩
  · exact .inr ⟨_, _, kw_typ, e, .inr (.inr (.inr (.inr (.inl ⟨hk, rfl⟩))))⟩
  · exact .inr ⟨_, _, kw_lnk, e, .inr (.inr (.inr (.inr (.inr ⟨hk, rfl⟩))))⟩
theorem conw {x : Ax} {W : List UInt8} (hk : (x.kind = 1 ∧ W = [115, 117, 98]) ∨ (x.kind = 2 ∧ W = [115, 97, 109, 101]) ∨ (x.kind = 3 ∧ W = [100, 105, 115, 106, 111, 105, 110, 116])) :
    (W = [115, 117, 98] ∨ W = [115, 97, 109, 101] ∨ W = [100, 105, 115, 106, 111, 105, 110, 116]) ∧ (∀ b ∈ W, nameB b = true) := by
  rcases hk with ⟨_, rfl⟩ | ⟨_, rfl⟩ | ⟨_, rfl⟩ <;> exact ⟨by simp, by decide⟩
theorem con_con {x y : Ax} {W V : List UInt8} (hk : (x.kind = 1 ∧ W = [115, 117, 98]) ∨ (x.kind = 2 ∧ W = [115, 97, 109, 101]) ∨ (x.kind = 3 ∧ W = [100, 105, 115, 106, 111, 105, 110, 116]))
    (hk' : (y.kind = 1 ∧ V = [115, 117, 98]) ∨ (y.kind = 2 ∧ V = [115, 97, 109, 101]) ∨ (y.kind = 3 ∧ V = [100, 105, 115, 106, 111, 105, 110, 116])) (hl : walkS x.left = 0) (hr : walkS x.right = 0) (hl' : walkS y.left = 0) (hr' : walkS y.right = 0)
    (h : textS x.left ++ (32 :: (W ++ 32 :: textS x.right)) = textS y.left ++ (32 :: (V ++ 32 :: textS y.right))) : x.kind = y.kind ∧ nz x.left = nz y.left ∧ nz x.right = nz y.right := by
  obtain ⟨e1, e2⟩ := text_tail hl hl' (te_w (conw hk).1) (te_w (conw hk').1) h
  obtain ⟨e3, e4⟩ := span_eq (conw hk).2 (conw hk').2 (sp_name _) (sp_name _) (List.cons.inj e2).2
  refine ⟨?_, e1, text_inj hr hr' (List.cons.inj e4).2⟩
  subst e3
  rcases hk with ⟨k, q⟩ | ⟨k, q⟩ | ⟨k, q⟩ <;> rcases hk' with ⟨k', q'⟩ | ⟨k', q'⟩ | ⟨k', q'⟩ <;> first | (rw [k, k']; done) | (rw [q] at q'; exact absurd q' (by decide))
end Go.Ai.Z

/-
  Checked axioms with one text are one.
-/
namespace Go.Ai.Z
open Go.Ai.Inj

theorem kw_eq {K K' r r' : List UInt8} (h : KW K) (h' : KW K') (e : K ++ 32 :: r = K' ++ 32 :: r') : K = K' ∧ r = r' := by
  obtain ⟨e1, e2⟩ := span_eq h.b h'.b (sp_name _) (sp_name _) e
  exact ⟨e1, (List.cons.inj e2).2⟩
theorem stat_kind {x y : Ax} (hx : SV x) (hy : SV y) (h : statS x = statS y) : x.kind = y.kind := by
  rcases stat_head hx with ⟨W, hW, hk, hl, e⟩ | ⟨K, r, hK, e, hk⟩ <;> rcases stat_head hy with ⟨V, hV, hk', hl', e'⟩ | ⟨K', r', hK', e', hk'⟩
  · rcases hx with ⟨W, qk, ql, qr, qe, qf⟩ | ⟨q, _⟩ | ⟨_, q, _⟩ | ⟨q, _⟩ | ⟨q, _⟩ | ⟨q, _⟩ | ⟨q, _⟩
    · rcases hy with ⟨V, pk, pl, pr, pe, pf⟩ | ⟨q, _⟩ | ⟨_, q, _⟩ | ⟨q, _⟩ | ⟨q, _⟩ | ⟨q, _⟩ | ⟨q, _⟩
      · rw [qe, pe] at h
        exact (con_con qk pk ql qr pl pr h).1
      all_goals (exfalso; omega)
    all_goals (exfalso; omega)
  · rw [e, e'] at h; exact (head_kw hl (te_w hW) hK' h).elim
  · rw [e, e'] at h; exact (head_kw hl' (te_w hV) hK h.symm).elim
  · rw [e, e'] at h
    have := (kw_eq hK hK' h).1
    subst this
    rcases hk with ⟨k, q⟩ | ⟨k, q⟩ | ⟨k, q⟩ | ⟨k, q⟩ | ⟨k, q⟩ | ⟨k, q⟩ <;> rcases hk' with ⟨k', q'⟩ | ⟨k', q'⟩ | ⟨k', q'⟩ | ⟨k', q'⟩ | ⟨k', q'⟩ | ⟨k', q'⟩ <;>
      first | (rw [k, k']; done) | (rw [q] at q'; exact absurd q' (by decide))
theorem stat_inj {x y : Ax} (hx : SV x) (hy : SV y) (h : statS x = statS y) : Eqv x y := by
  have hk := stat_kind hx hy h
  rcases hx with ⟨W, qk, ql, qr, qe, q1, q2, q3, q4⟩ | ⟨qk, qn, qr, qe, q1, q2, q3, q4⟩ | ⟨r, qk, qr, qn, qn', qe, q1, q2, q3, q4⟩ | ⟨qk, q2, qn, qn', qe, q1, q2', q3, q4⟩ | ⟨qk, qn, qe, q1, q2, q3, q4, q5⟩ | ⟨qk, qa, qr, qe, q1, q2, q3, q4⟩ | ⟨qk, qa, qb, qn, qe, q1, q2, q3⟩ <;>
  rcases hy with ⟨V, pk, pl, pr, pe, p1, p2, p3, p4⟩ | ⟨pk, pn, pr, pe, p1, p2, p3, p4⟩ | ⟨p, pk, pr, pn, pn', pe, p1, p2, p3, p4⟩ | ⟨pk, p2, pn, pn', pe, p1, p2', p3, p4⟩ | ⟨pk, pn, pe, p1, p2, p3, p4, p5⟩ | ⟨pk, pa, pr, pe, p1, p2, p3, p4⟩ | ⟨pk, pa, pb, pn, pe, p1, p2, p3⟩
  all_goals first | (exfalso; omega) | skip
  · rw [qe, pe] at h
    obtain ⟨e1, e2, e3⟩ := con_con qk pk ql qr pl pr h
    exact ⟨e1, e2, e3, by rw [q1, p1], by rw [q2, p2], by rw [q3, p3], by rw [q4, p4]⟩
  · rw [qe, pe] at h
    obtain ⟨e1, e2⟩ := span_eq qn.bytes pn.bytes (sp_name _) (sp_name _) (kw_eq kw_dom kw_dom h).2
    exact ⟨hk, by rw [q1, p1], text_inj qr pr (List.cons.inj e2).2, by rw [q2, p2], e1, by rw [q3, p3], by rw [q4, p4]⟩
  · rw [qe, pe] at h
    obtain ⟨e1, e2⟩ := span_eq qn.bytes pn.bytes (sp_name _) (sp_name _) (kw_eq kw_rol kw_rol h).2
    exact ⟨hk, by rw [q1, p1], by rw [q2, p2], by rw [qr, pr, e1], by simpa using e2, by rw [q3, p3], by rw [q4, p4]⟩
  · rw [qe, pe] at h
    obtain ⟨e1, e2⟩ := chain_inj qn pn (List.append_cancel_left h)
    exact ⟨hk, by rw [q1, p1], by rw [q2', p2'], e1, e2, by rw [q3, p3], by rw [q4, p4]⟩
  · rw [qe, pe] at h
    exact ⟨hk, by rw [q1, p1], by rw [q2, p2], by rw [q3, p3], (kw_eq kw_ref kw_ref h).2, by rw [q4, p4], by rw [q5, p5]⟩
  · rw [qe, pe] at h
    obtain ⟨e1, e2⟩ := span_eq qa pa (sp_name _) (sp_name _) (kw_eq kw_typ kw_typ h).2
    exact ⟨hk, by rw [q1, p1], text_inj qr pr (List.cons.inj e2).2, by rw [q2, p2], by rw [q3, p3], e1, by rw [q4, p4]⟩
  · rw [qe, pe] at h
    obtain ⟨e1, e2⟩ := span_eq qa pa (sp_name _) (sp_name _) (kw_eq kw_lnk kw_lnk h).2
    obtain ⟨e3, e4⟩ := span_eq qn.bytes pn.bytes (sp_name _) (sp_name _) (List.cons.inj e2).2
    exact ⟨hk, by rw [q1, p1], by rw [q2, p2], by rw [q3, p3], e3, e1, (List.cons.inj e4).2⟩
/-- A statement's first word is neither "open" nor "private". -/
theorem stat_no {x : Ax} (hx : SV x) {K r : List UInt8} (hK : KW K) (h1 : K ≠ [100, 111, 109, 97, 105, 110]) (h2 : K ≠ [114, 111, 108, 101]) (h3 : K ≠ [99, 104, 97, 105, 110]) (h4 : K ≠ [114, 101, 102, 108, 101, 120, 105, 118, 101])
    (h5 : K ≠ [116, 121, 112, 101]) (h6 : K ≠ [108, 105, 110, 107]) (h : statS x = K ++ 32 :: r) : False := by
  rcases stat_head hx with ⟨W, hW, hk, hl, e⟩ | ⟨K', r', hK', e, hk⟩
  · rw [e] at h; exact head_kw hl (te_w hW) hK h
  · rw [e] at h
    have := (kw_eq hK' hK h).1
    subst this
    rcases hk with ⟨k, q⟩ | ⟨k, q⟩ | ⟨k, q⟩ | ⟨k, q⟩ | ⟨k, q⟩ | ⟨k, q⟩
    · exact h1 q
    · exact h2 q
    · exact h3 q
    · exact h4 q
    · exact h5 q
    · exact h6 q
theorem no_open {x : Ax} (hx : SV x) {r : List UInt8} (h : statS x = [111, 112, 101, 110] ++ 32 :: r) : False := stat_no hx kw_opn (by decide) (by decide) (by decide) (by decide) (by decide) (by decide) h
theorem no_priv {x : Ax} (hx : SV x) {r : List UInt8} (h : statS x = [112, 114, 105, 118, 97, 116, 101] ++ 32 :: r) : False := stat_no hx kw_prv (by decide) (by decide) (by decide) (by decide) (by decide) (by decide) h
theorem ax_inj {x y : Ax} (hx : checkAS x = 0) (hy : checkAS y = 0) (h : axS x = axS y) : x.op = y.op ∧ Eqv x y := by
  have hx := sv hx
  have hy := sv hy
  have key : ∀ {r s : List UInt8}, [111, 112, 101, 110] ++ 32 :: r = [112, 114, 105, 118, 97, 116, 101] ++ 32 :: s → False := fun h => by
    have := (kw_eq kw_opn kw_prv h).1; exact absurd this (by decide)
  unfold axS at h
  by_cases k : x.kind = 5 ∨ x.kind = 6 ∨ x.kind = 7 <;> by_cases k' : y.kind = 5 ∨ y.kind = 6 ∨ y.kind = 7 <;>
  rcases Bool.eq_false_or_eq_true x.op with o | o <;> rcases Bool.eq_false_or_eq_true y.op with o' | o' <;> simp only [k, k', o, o', if_true, if_false, Bool.false_eq_true] at h
  · exact ⟨by rw [o, o'], stat_inj hx hy h⟩
  · exact (no_priv hx h).elim
  · exact (no_priv hy h.symm).elim
  · exact ⟨by rw [o, o'], stat_inj hx hy (List.append_cancel_left h)⟩
  · exact (no_open hx h).elim
  · exact absurd (stat_kind hx hy h) (fun e => k' (e ▸ k))
  · exact (key h.symm).elim
  · exact (no_priv hy h.symm).elim
  · exact (no_open hy h.symm).elim
  · exact (key h).elim
  · exact absurd (stat_kind hx hy h) (fun e => k (e ▸ k'))
  · exact (no_priv hx h).elim
  · exact ⟨by rw [o, o'], stat_inj hx hy (List.append_cancel_left h)⟩
  · exact (no_open hy h.symm).elim
  · exact (no_open hx h).elim
  · exact ⟨by rw [o, o'], stat_inj hx hy h⟩
end Go.Ai.Z
