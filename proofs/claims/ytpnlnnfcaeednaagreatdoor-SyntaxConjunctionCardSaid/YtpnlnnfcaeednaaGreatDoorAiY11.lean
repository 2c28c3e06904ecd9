/-
 syntax.Concept at all texts.
-/
import Derived.Test.YtpnlnnfcaeednaaGreatDoorAiY6Y7Y8
import Derived.Test.YtpnlnnfcaeednaaGreatDoorAiY9Y10
import Derived.Test.YtpnlnnfcaeednaaGreatDoorAiQ3Q4
set_option maxRecDepth 100000
set_option linter.unusedSimpArgs false
set_option linter.unusedVariables false
set_option linter.unusedSectionVars false
namespace Go.Ai.Z
theorem c_tryP (f : Nat) (as cs : List AV) (s s' : St) (cx : Ctx) (a e : Int) (h : acallW P0 (.fn (.func f) as cs) [] s cx = .pan (flt a e) s') :
  acallW P0 (.fn (.func F_syntax_try) [] []) [.fn (.func f) as cs] s cx = .ret (.tu [.ag [.i .i64 a, .i .i64 e], .b true]) s' := by
 refine acallW_hi (A := P0) (k := .tryK (.tu [.ag [.i .i64 0, .i .i64 0], .b false]) T_syntax_fault) rfl rfl (by simp) ?_
 show callHi (acallW P0) (acallW P0.quiet) (.tryK (.tu [.ag [.i .i64 0, .i .i64 0], .b false]) T_syntax_fault) [.fn (.func f) as cs] s cx = _
 unfold callHi
 dsimp only
 rw [h]
 simp [flt]
theorem y_end {T : List Tok} {m : AV} {S : Nat → St} {l N : Nat} (hE : PEnv T m S l N) {r : List Tok} (h : Suf T r) (cx : Ctx) : acallW P0 (.fn (.func F_syntax_parser_end) [] []) [.pt l 0] (S (idx T r)) cx =
  if (hT r).1 = 4 then .ret (.tu []) (S (idx T r)) else .pan (flt (hT r).2.2 30) (S (idx T r)) := by
 have h1 := y_token hE h
 have h2 := y_fail hE h 30
 by_cases hk : (Z.hT r).1 = 4
 ·rw [if_pos hk]
  refine go_syntax_parser_end (by simp) ?_
  simp [callFnW, ir_syntax_parser_end, hE.n, h1, encTok, hk]
 ·rw [if_neg hk]
  refine go_syntax_parser_end (by simp) ?_
  simp [callFnW, ir_syntax_parser_end, hE.n, h1, h2, encTok, hk]
set_option linter.unusedSectionVars false
section
variable (src : List UInt8) (hl : src.length ≤ 65536) (fp ft : AV) (f : Nat) (as cs : List AV) (hfp : fp = .fn (.func f) as cs) (g : Fn) (as2 cs2 : List AV) (hft : ft = .fn g as2 cs2) (s : St) (cx : Ctx) (hlim : cx.lim ≤ s.length) (hbase : cx.base ≤ s.length)
include hl hfp hft hlim hbase
theorem whole_bad (p : Pb) (q : List Pb) (hb : (lexB src).2 = p :: q) : acallW P0 (.fn (.func F_syntax_whole) [] []) [.sl (bytesAV src), fp, ft] s cx = .ret (.tu [.i .i64 p.1, .i .i64 p.2]) (s ++ [.cells [fp]]) := by
 have hcx : (⟨cx.lim, cx.base⟩ : Ctx) = cx := rfl
 have e1 := y_Tokens src hl (s ++ [.cells [fp]]) cx (by simp; omega)
 rw [hb] at e1
 have hpos : (0 : Int) < (q.length : Int) + 1 := by omega
 refine go_syntax_whole (by simp) ?_
 subst hft hfp
 simp [callFnW, ir_syntax_whole, e1, hcx, encPb, hpos]
theorem whole_er (hb : (lexB src).2 = []) (a e : Int) (H1 : St)
  (hp : acallW P0 (.fn (.func F_syntax_whole_1) [] [.pt s.length 0, .pt (s.length + 2) 0]) [] (s ++ [.cells [fp], psO (lexB src).1 0 (mapV (s.length + 1)), .cells [.pt (s.length + 1) 0]]) cx = .pan (flt a e) H1) :
  acallW P0 (.fn (.func F_syntax_whole) [] []) [.sl (bytesAV src), fp, ft] s cx = .ret (.tu [.i .i64 a, .i .i64 e]) H1 := by
 have hcx : (⟨cx.lim, cx.base⟩ : Ctx) = cx := rfl
 have e1 := y_Tokens src hl (s ++ [.cells [fp]]) cx (by simp; omega)
 rw [hb] at e1
 have e2 := c_newParser (lexB src).1 (s ++ [.cells [fp]]) cx (by simp; omega) (by simp; omega)
 have hlen : (s ++ [HObj.cells [fp]]).length = s.length + 1 := by simp
 rw [hlen] at e2
 rw [List.append_assoc] at e2
 have e3 := c_tryP _ _ _ _ _ cx _ _ hp
 refine go_syntax_whole (by simp) ?_
 subst hft hfp
 generalize mapV (s.length + 1) = M at *
 have b1 : cx.lim ≤ s.length + 2 := by omega
 have b2 : cx.base ≤ s.length + 2 := by omega
 simp [callFnW, ir_syntax_whole, e1, e2, e3, hcx, b1, b2, splice]
theorem whole_ok (hb : (lexB src).2 = []) (r : AV) (H1 H2 : St) (e : Int) (t0 : Tok) (ht0 : (lexB src).1.head? = some t0)
  (hp : acallW P0 (.fn (.func F_syntax_whole_1) [] [.pt s.length 0, .pt (s.length + 2) 0]) [] (s ++ [.cells [fp], psO (lexB src).1 0 (mapV (s.length + 1)), .cells [.pt (s.length + 1) 0]]) cx = .ret r H1)
  (ht : acallW P0 ft [] H1 cx = .ret (.i .i64 e) H2) :
  acallW P0 (.fn (.func F_syntax_whole) [] []) [.sl (bytesAV src), fp, ft] s cx = .ret (.tu [.i .i64 (if e = 0 then 0 else (t0.2.2 : Int)), .i .i64 e]) H2 := by
 have hcx : (⟨cx.lim, cx.base⟩ : Ctx) = cx := rfl
 have e1 := y_Tokens src hl (s ++ [.cells [fp]]) cx (by simp; omega)
 rw [hb] at e1
 have e2 := c_newParser (lexB src).1 (s ++ [.cells [fp]]) cx (by simp; omega) (by simp; omega)
 have hlen : (s ++ [HObj.cells [fp]]).length = s.length + 1 := by simp
 rw [hlen] at e2
 rw [List.append_assoc] at e2
 have e3 := c_try _ _ _ _ rfl _ _ cx _ hp
 have h0 : (lexB src).1[0]? = some t0 := by rw [← List.head?_eq_getElem?]; exact ht0
 have h0m : ((lexB src).1.map encTok)[0]? = some (encTok t0) := by rw [List.getElem?_map, h0]; rfl
 have h0h : ((lexB src).1.map encTok).head? = some (encTok t0) := by rw [List.head?_map, ht0]; rfl
 refine go_syntax_whole (by simp) ?_
 subst hft hfp
 generalize mapV (s.length + 1) = M at *
 have b1 : cx.lim ≤ s.length + 2 := by omega
 have b2 : cx.base ≤ s.length + 2 := by omega
 by_cases he : e = 0
 ·simp [callFnW, ir_syntax_whole, e1, e2, e3, ht, he, hcx, b1, b2, splice]
 ·simp [callFnW, ir_syntax_whole, e1, e2, e3, ht, he, hcx, b1, b2, splice, h0, ht0, encTok]
end
def TidyC (c x : C) (e : Int) : Prop := if checkS c = 0 then TidyR (tidyN c) x e else e = checkS c
theorem wC_checked {c : C} (h : checkS c = 0) : wC c ≤ 64 := by
 have hs : sizeC c ≤ 64 := by unfold checkS at h; split at h; cases h; omega
 have hw : walkS c = 0 := by unfold checkS at h; split at h; cases h; exact h
 have key : ∀ c : C, walkS c = 0 → wC c = sizeC c := by
  refine C.ind' fun c ih hv => ?_
  obtain ⟨v1, v2, v3⟩ := walk_ok hv
  have hn : c.name.length ≤ 24 := by
   have pl : ∀ {n : List UInt8}, plainS n = true → n.length ≤ 24 := by
    intro n h; unfold plainS at h; rw [Bool.and_eq_true] at h; simpa using h.1
   have rl : ∀ {n : List UInt8}, resS n = true → n.length ≤ 24 := by
    intro n h; unfold resS at h; simp only [Bool.and_eq_true, decide_eq_true_eq] at h; exact h.1.1.2
   unfold namedS at v2
   unfold shapeS at v1
   rcases shape_kind (by unfold shapeS; exact v1) with k | k | k | k | ⟨k, _⟩ | ⟨k, _⟩ | ⟨k, _⟩
   ·simp [k] at v1; rw [v1.1.2]; simp
   ·simp [k] at v1; rw [v1.1.2]; simp
   ·simp [k] at v2; exact pl v2
   ·simp [k] at v2; rcases v2 with v2 | v2; exact pl v2; exact rl v2
   ·simp [k] at v2; exact pl v2
   ·simp [k] at v2; exact pl v2
   ·simp [k] at v1; rw [v1.1.1.2]; simp
  rw [wC_eq, sizeC_eq]
  have hl : ∀ l : List C, (∀ p ∈ l, wC p = sizeC p) → wL l = sizeL l := by
   intro l
   induction l with
   | nil => intro _; rfl
   | cons p r ih2 => intro h; simp only [wL, sizeL, h p (by simp), ih2 (fun q hq => h q (by simp [hq]))]
  rw [hl c.parts fun p hp => ih p hp (v3 p hp)]
  omega
 rw [key c hw]; exact hs
theorem y_Tidy (c : C) (hw : wC c ≤ 100000) : ∃ (x : C) (e : Int), TidyC c x e ∧ wC x ≤ 1000 ∧ ∀ (s : St) (cx : Ctx), acallW P0 (.fn (.func F_terms_Tidy) [] []) [encC c] s cx = .ret (.tu [encC x, .i .i64 e]) s := by
 by_cases h0 : checkS c = 0
 ·obtain ⟨x, e, h1, h2, h3⟩ := c_terms_Tidy c h0 (by have := wC_checked h0; omega)
  exact ⟨x, e, by unfold TidyC; rw [if_pos h0]; exact h1, h2, h3⟩
 ·have hc := c_terms_CheckConcept c hw
  refine ⟨.mk 0 [] 0 0 true [], checkS c, by unfold TidyC; rw [if_neg h0], by decide, fun s cx => ?_⟩
  refine go_terms_Tidy (by simp) ?_
  rw [enc_leaf]
  simp [callFnW, ir_terms_Tidy, hc, h0, fillC, splice]
def ConA (src : List UInt8) (x : C) (e : Int) : Prop :=
 match (lexB src).2 with
 | p :: _ => e = p.2
 | [] => match pConcept (lexB src).1 with
  | .er _ c _ => e = c
  | .ok c r => if (hT r).1 = 4 then TidyC c x e else e = 30
def zC0 : C := .mk 0 [] 0 0 true []
theorem enc_zC0 : encC zC0 = .ag [.i .i64 0, .s [], .i .i64 0, .i .i64 0, .ns] := enc_leaf _ _ _ _
theorem frz_z5 (S : St) (n : Nat) (a e : Int) : frz S n (.tu [.ag [.i .i64 0, .s [], .i .i64 0, .i .i64 0, .ns], .i .i64 a, .i .i64 e]) = some (.tu [.ag [.i .i64 0, .s [], .i .i64 0, .i .i64 0, .ns], .i .i64 a, .i .i64 e]) := by
 have hu : (AV.tu [.ag [.i .i64 0, .s [], .i .i64 0, .i .i64 0, .ns], .i .i64 a, .i .i64 e]).under n = true := by simp
 rw [frz, if_pos hu]
@[simp] theorem frz_tuC3' (S : St) (n : Nat) (d : C) (a e : Int) : frz S n (.tu [encC d, .i .i64 a, .i .i64 e]) = some (.tu [encC d, .i .i64 a, .i .i64 e]) := by
 have hu : (AV.tu [encC d, .i .i64 a, .i .i64 e]).under n = true := by simp
 rw [frz, if_pos hu]
theorem suf_refl {T : List Tok} (h : WT T) : Suf T T ∧ idx T T = 0 := ⟨⟨⟨[], rfl⟩, h⟩, by unfold idx; omega⟩
theorem wt_head {T : List Tok} (h : WT T) : T.head? = some (hT T) := by
 have := h.ne
 cases T with
 | nil => exact absurd rfl this
 | cons a r => rfl
theorem y_Concept (src : List UInt8) (hl : src.length ≤ 40000) : ∃ (x : C) (at_ e : Int), ConA src x e ∧ wC x ≤ 1000 ∧
  ∀ (s : St) (cx : Ctx), acallW P0 (.fn (.func F_syntax_Concept) [] []) [.sl (bytesAV src)] s cx = .ret (.tu [encC x, .i .i64 at_, .i .i64 e]) s := by
 obtain ⟨hw, htw⟩ := lexB_wt (src := src) (by omega)
 have hTl : (lexB src).1.length ≤ 100000 := by have := tw_len (lexB src).1; omega
 cases hb : (lexB src).2 with
 | cons p q =>
  refine ⟨zC0, p.1, p.2, by unfold ConA; rw [hb], by decide, fun s cx => ?_⟩
  have h := whole_bad src (by omega) (.fn (.func F_syntax_Concept_1) [] [.pt (s.length + 1) 0]) (.fn (.func F_syntax_Concept_2) [] [.pt (s.length + 1) 0, .pt s.length 0]) _ _ _ rfl _ _ _ rfl (s ++ [.cells z5, .cells z5]) ⟨s.length, s.length⟩ (by simp) (by simp) p q hb
  refine go_syntax_Concept (by simp) ?_
  rw [enc_zC0]
  simp [z5] at h
  simp [callFnW, ir_syntax_Concept, h, z5, frz_z5]
 | nil =>
  obtain ⟨hs0, hi0⟩ := suf_refl hw
  have hE : ∀ (s : St) (X : List AV) (fp : AV), PEnv (lexB src).1 (mapV (s.length + 3)) (fun j => s ++ [.cells z5, .cells X, .cells [fp], psO (lexB src).1 j (mapV (s.length + 3)), .cells [.pt (s.length + 3) 0]]) (s.length + 3) (s.length + 5) :=
   fun s X fp => ⟨hTl, fun j => by simp, fun j k => by simp, fun j => by simp⟩
  cases hp : pConcept (lexB src).1 with
  | er a c r =>
   refine ⟨zC0, a, c, by unfold ConA; rw [hb]; simp only []; rw [hp], by decide, fun s cx => ?_⟩
   have hc := fun b : Nat => y_concept (hE s z5 (.fn (.func F_syntax_Concept_1) [] [.pt (s.length + 1) 0])) hs0 ⟨s.length, b⟩ (by simp)
   simp only [hi0, hp, Ans_er] at hc
   generalize idx (lexB src).1 r = j at hc
   generalize hM : mapV (s.length + 3) = M at hc
   have h1 : ∀ b : Nat, acallW P0 (.fn (.func F_syntax_whole_1) [] [.pt (s.length + 2) 0, .pt (s.length + 4) 0]) [] (s ++ [.cells z5, .cells z5, .cells [.fn (.func F_syntax_Concept_1) [] [.pt (s.length + 1) 0]], psO (lexB src).1 0 M, .cells [.pt (s.length + 3) 0]]) ⟨s.length, b⟩ = .pan (flt a c) (s ++ [.cells z5, .cells z5, .cells [.fn (.func F_syntax_Concept_1) [] [.pt (s.length + 1) 0]], psO (lexB src).1 j M, .cells [.pt (s.length + 3) 0]]) := by
    intro b
    generalize psO (lexB src).1 0 M = O0 at *
    generalize psO (lexB src).1 j M = O1 at *
    have h1 : ∀ b : Nat, acallW P0 (.fn (.func F_syntax_Concept_1) [] [.pt (s.length + 1) 0]) [.pt (s.length + 3) 0] (s ++ [.cells z5, .cells z5, .cells [.fn (.func F_syntax_Concept_1) [] [.pt (s.length + 1) 0]], O0, .cells [.pt (s.length + 3) 0]]) ⟨s.length, b⟩ = .pan (flt a c) (s ++ [.cells z5, .cells z5, .cells [.fn (.func F_syntax_Concept_1) [] [.pt (s.length + 1) 0]], O1, .cells [.pt (s.length + 3) 0]]) := by
     intro b
     refine go_syntax_Concept_1 (by simp) ?_
     simp [callFnW, ir_syntax_Concept_1, hc]
    refine go_syntax_whole_1 (by simp) ?_
    simp [callFnW, ir_syntax_whole_1, h1]
   have h := whole_er src (by omega) (.fn (.func F_syntax_Concept_1) [] [.pt (s.length + 1) 0]) (.fn (.func F_syntax_Concept_2) [] [.pt (s.length + 1) 0, .pt s.length 0]) _ _ _ rfl _ _ _ rfl (s ++ [.cells z5, .cells z5]) ⟨s.length, s.length⟩ (by simp) (by simp) hb a c _
    (by simpa [hM] using h1 s.length)
   refine go_syntax_Concept (by simp) ?_
   rw [enc_zC0]
   generalize psO (lexB src).1 0 M = O0 at *
   generalize psO (lexB src).1 j M = O1 at *
   simp [z5] at h
   simp [callFnW, ir_syntax_Concept, h, z5, frz_z5]
  | ok c r =>
   have hgd := good_concept hw
   have hsr : Suf (lexB src).1 r := hs0.ok hgd.zero hp
   have hwc : wC c ≤ 100000 := by
    have := concept_w hw hp
    omega
   have hcall : ∀ s : St, ∃ H1 : St, (∀ b : Nat, b ≤ s.length + 1 → acallW P0 (.fn (.func F_syntax_whole_1) [] [.pt (s.length + 2) 0, .pt (s.length + 4) 0]) [] (s ++ [.cells z5, .cells z5, .cells [.fn (.func F_syntax_Concept_1) [] [.pt (s.length + 1) 0]], psO (lexB src).1 0 (mapV (s.length + 3)), .cells [.pt (s.length + 3) 0]]) ⟨s.length, b⟩ =
     if (hT r).1 = 4 then .ret (.tu []) H1 else .pan (flt (hT r).2.2 30) H1) ∧ ∃ O, H1 = s ++ [.cells z5, .cells (encC c).cells, .cells [.fn (.func F_syntax_Concept_1) [] [.pt (s.length + 1) 0]], O, .cells [.pt (s.length + 3) 0]] := by
    intro s
    have hc := fun b : Nat => y_concept (hE s z5 (.fn (.func F_syntax_Concept_1) [] [.pt (s.length + 1) 0])) hs0 ⟨s.length, b⟩ (by simp)
    simp only [hi0, hp, Ans_ok] at hc
    have hn := fun cx => y_end (hE s (encC c).cells (.fn (.func F_syntax_Concept_1) [] [.pt (s.length + 1) 0])) hsr cx
    refine ⟨s ++ [.cells z5, .cells (encC c).cells, .cells [.fn (.func F_syntax_Concept_1) [] [.pt (s.length + 1) 0]], psO (lexB src).1 (idx (lexB src).1 r) (mapV (s.length + 3)), .cells [.pt (s.length + 3) 0]], fun b hbb => ?_, _, rfl⟩
    try dsimp only at hc hn
    generalize psO (lexB src).1 0 (mapV (s.length + 3)) = O0 at *
    generalize psO (lexB src).1 (idx (lexB src).1 r) (mapV (s.length + 3)) = O1 at *
    have h1 : acallW P0 (.fn (.func F_syntax_Concept_1) [] [.pt (s.length + 1) 0]) [.pt (s.length + 3) 0] (s ++ [.cells z5, .cells z5, .cells [.fn (.func F_syntax_Concept_1) [] [.pt (s.length + 1) 0]], O0, .cells [.pt (s.length + 3) 0]]) ⟨s.length, b⟩ = .ret (.tu []) (s ++ [.cells z5, .cells (encC c).cells, .cells [.fn (.func F_syntax_Concept_1) [] [.pt (s.length + 1) 0]], O1, .cells [.pt (s.length + 3) 0]]) := by
     refine go_syntax_Concept_1 (by simp) ?_
     simp only [z5] at hc ⊢
     simp [callFnW, ir_syntax_Concept_1, hc, splice, hbb]
    generalize (encC c).cells = X at *
    refine go_syntax_whole_1 (by split <;> simp) ?_
    by_cases hk : (hT r).1 = 4
    ·simp only [hk, if_true] at hn ⊢
     simp [callFnW, ir_syntax_whole_1, h1, hn, hbb]
    ·simp only [hk, if_false] at hn ⊢
     simp [callFnW, ir_syntax_whole_1, h1, hn, hbb]
   by_cases hk : (hT r).1 = 4
   ·obtain ⟨x, e, ht1, ht2, ht3⟩ := y_Tidy c hwc
    refine ⟨x, if e = 0 then 0 else ((hT (lexB src).1).2.2 : Int), e, by unfold ConA; rw [hb]; simp only []; rw [hp]; simp only []; rw [if_pos hk]; exact ht1, ht2, fun s cx => ?_⟩
    obtain ⟨H1, h1, O, hO⟩ := hcall s
    simp only [hk, if_true] at h1
    subst hO
    have h2 : acallW P0 (.fn (.func F_syntax_Concept_2) [] [.pt (s.length + 1) 0, .pt s.length 0]) [] (s ++ [.cells z5, .cells (encC c).cells, .cells [.fn (.func F_syntax_Concept_1) [] [.pt (s.length + 1) 0]], O, .cells [.pt (s.length + 3) 0]]) ⟨s.length, s.length⟩ = .ret (.i .i64 e) (s ++ [.cells (encC x).cells, .cells (encC c).cells, .cells [.fn (.func F_syntax_Concept_1) [] [.pt (s.length + 1) 0]], O, .cells [.pt (s.length + 3) 0]]) := by
     refine go_syntax_Concept_2 (by simp) ?_
     simp [callFnW, ir_syntax_Concept_2, ht3, z5, splice]
    have h := whole_ok src (by omega) (.fn (.func F_syntax_Concept_1) [] [.pt (s.length + 1) 0]) (.fn (.func F_syntax_Concept_2) [] [.pt (s.length + 1) 0, .pt s.length 0]) _ _ _ rfl _ _ _ rfl (s ++ [.cells z5, .cells z5]) ⟨s.length, s.length⟩ (by simp) (by simp) hb (.tu []) _ _ e _ (wt_head hw)
     (by simpa using h1 s.length (by omega)) h2
    refine go_syntax_Concept (by simp) ?_
    generalize (if e = 0 then (0 : Int) else ((hT (lexB src).1).2.2 : Int)) = at_ at *
    simp [z5] at h
    simp [callFnW, ir_syntax_Concept, h, z5, splice]
   ·refine ⟨zC0, (hT r).2.2, 30, by unfold ConA; rw [hb]; simp only []; rw [hp]; simp only []; rw [if_neg hk]; trivial, by decide, fun s cx => ?_⟩
    obtain ⟨H1, h1, O, hO⟩ := hcall s
    simp only [hk, if_false] at h1
    subst hO
    have h := whole_er src (by omega) (.fn (.func F_syntax_Concept_1) [] [.pt (s.length + 1) 0]) (.fn (.func F_syntax_Concept_2) [] [.pt (s.length + 1) 0, .pt s.length 0]) _ _ _ rfl _ _ _ rfl (s ++ [.cells z5, .cells z5]) ⟨s.length, s.length⟩ (by simp) (by simp) hb _ _ _
     (by simpa using h1 s.length (by omega))
    refine go_syntax_Concept (by simp) ?_
    rw [enc_zC0]
    simp [z5] at h
    simp [callFnW, ir_syntax_Concept, h, z5, frz_z5]
end Go.Ai.Z
