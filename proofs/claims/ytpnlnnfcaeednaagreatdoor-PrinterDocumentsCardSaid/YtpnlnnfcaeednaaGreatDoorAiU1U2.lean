/-
 The tokens of a printed axiom.
-/
import Derived.Test.YtpnlnnfcaeednaaGreatDoorAiLex1Lex2
import Derived.Test.YtpnlnnfcaeednaaGreatDoorAiK13K14K15K16
import Derived.Test.YtpnlnnfcaeednaaGreatDoorAiT8
import Derived.Test.YtpnlnnfcaeednaaGreatDoorAiKJKLKM
set_option maxRecDepth 100000
set_option linter.unusedSimpArgs false
set_option linter.unusedVariables false
set_option linter.unusedSectionVars false
namespace Go.Ai.Z
def wT (w : List UInt8) : Tk := (1, w)
def subW : List UInt8 := [115, 117, 98]
def sameW : List UInt8 := [115, 97, 109, 101]
def disjW : List UInt8 := [100, 105, 115, 106, 111, 105, 110, 116]
def domW : List UInt8 := [100, 111, 109, 97, 105, 110]
def roleW : List UInt8 := [114, 111, 108, 101]
def chainW : List UInt8 := [99, 104, 97, 105, 110]
def reflW : List UInt8 := [114, 101, 102, 108, 101, 120, 105, 118, 101]
def typeW : List UInt8 := [116, 121, 112, 101]
def linkW : List UInt8 := [108, 105, 110, 107]
def openW : List UInt8 := [111, 112, 101, 110]
def privW : List UInt8 := [112, 114, 105, 118, 97, 116, 101]
def statT (x : Ax) : List Tk :=
 if x.kind = 1 then ctk x.left ++ wT subW :: ctk x.right
 else if x.kind = 2 then ctk x.left ++ wT sameW :: ctk x.right
 else if x.kind = 3 then ctk x.left ++ wT disjW :: ctk x.right
 else if x.kind = 4 then wT domW :: wT x.role :: ctk x.right
 else if x.kind = 5 then [wT roleW, wT (x.roles.headD []), wT subW, wT x.role]
 else if x.kind = 7 then [wT reflW, wT x.role]
 else if x.kind = 8 then wT typeW :: wT x.a :: ctk x.right
 else if x.kind = 9 then [wT linkW, wT x.a, wT x.role, wT x.b]
 else wT chainW :: (x.roles.map wT ++ [wT subW, wT x.role])
def axT (x : Ax) : List Tk :=
 if x.kind = 5 ∨ x.kind = 6 ∨ x.kind = 7 then (if x.op = true then statT x else wT privW :: statT x)
 else (if x.op = true then wT openW :: statT x else statT x)
structure Ax.Named (x : Ax) : Prop where
 hr : x.kind = 4 ∨ x.kind = 5 ∨ x.kind = 6 ∨ x.kind = 7 ∨ x.kind = 9 → plainS x.role = true
 ha : x.kind = 8 ∨ x.kind = 9 → personS x.a = true
 hb : x.kind = 9 → personS x.b = true
 hs : ∀ r ∈ x.roles, plainS r = true
structure Ax.Bare (x : Ax) : Prop where
 l : ¬ (x.kind = 1 ∨ x.kind = 2 ∨ x.kind = 3) → emptyS x.left = true
 r : ¬ (x.kind = 1 ∨ x.kind = 2 ∨ x.kind = 3 ∨ x.kind = 4 ∨ x.kind = 8) → emptyS x.right = true
 s : ¬ (x.kind = 5 ∨ x.kind = 6) → x.roles = []
 role : ¬ (x.kind = 4 ∨ x.kind = 5 ∨ x.kind = 6 ∨ x.kind = 7 ∨ x.kind = 9) → x.role = []
 a : ¬ (x.kind = 8 ∨ x.kind = 9) → x.a = []
 b : x.kind ≠ 9 → x.b = []
theorem allPlain_mem : ∀ {l : List (List UInt8)}, allPlain l = true → ∀ r ∈ l, plainS r = true
 | [], _, r, h => by cases h
 | x :: l, h, r, hr => by
  simp only [allPlain, Bool.and_eq_true] at h
  rcases List.mem_cons.1 hr with rfl | hr
  ·exact h.1
  ·exact allPlain_mem h.2 r hr
theorem named_of {x : Ax} (h : checkAS x = 0) : x.Named ∧ x.Bare := by
 have hg := good h
 unfold checkAS at h
 split at h
 ·cases h
 split at h
 ·cases h
 rename_i hs hn
 have hs : shapedS x = true := by simpa using hs
 have hn : namedU x (useS x.kind) = true := by simpa using hn
 unfold namedU at hn
 unfold shapedS at hs
 simp only [Bool.and_eq_true, Bool.or_eq_true, Bool.not_eq_true', decide_eq_true_eq] at hn hs
 obtain ⟨⟨⟨n1, n2⟩, n3⟩, n4⟩ := hn
 have n5 := allPlain_mem n4
 rcases hg.k with k | k | k | k | k | k | k | k | k <;> rw [k] at n1 n2 n3 hs <;> simp [useS] at n1 n2 n3 hs <;>
  exact ⟨⟨by first | (intro _; exact n1) | (intro hq; omega), by first | (intro _; exact n2) | (intro hq; omega), by first | (intro _; exact n3) | (intro hq; omega), n5⟩,
   ⟨by first | (intro hq; omega) | (intro _; simp_all), by first | (intro hq; omega) | (intro _; simp_all), by first | (intro hq; omega) | (intro _; simp_all), by first | (intro hq; omega) | (intro _; simp_all), by first | (intro hq; omega) | (intro _; simp_all), by first | (intro hq; omega) | (intro _; simp_all)⟩⟩
theorem piece_plain {t : List UInt8} (h : plainS t = true) : Piece [wT t] t := .one (plain_tok h) (flat_plain h)
theorem piece_person {t : List UInt8} (h : personS t = true) : Piece [wT t] t := by
 unfold personS at h
 rw [Bool.or_eq_true] at h
 rcases h with h | h
 ·exact piece_plain h
 ·exact .one (res_tok h) (flat_res h)
theorem piece_names {m : List Tk} {y : List UInt8} (hm : Piece m y) : ∀ (l : List (List UInt8)), (∀ r ∈ l, plainS r = true) → ∀ (P : List Tk) (x : List UInt8), Piece P x →
  Piece (P ++ (l.map wT ++ m)) (x ++ l.flatMap (fun r => 32 :: r) ++ 32 :: y)
 | [], _, P, x, hP => by simpa using hP.app hm
 | r :: l, h, P, x, hP => by
  have := piece_names hm l (fun q hq => h q (by simp [hq])) _ _ (hP.app (piece_plain (h r (by simp))))
  simpa using this
theorem word_piece {t : List UInt8} {c : UInt8} {r : List UInt8} (e : t = c :: r) (hc : clsB c = 3) (ht : ∀ b ∈ t, wrdB b = true) (hf : Flat t) : Piece [wT t] t := .one (word_tok e hc ht) hf
theorem piece_statT {x : Ax} (h : checkAS x = 0) : Piece (statT x) (statS x) := by
 have hg := good h
 obtain ⟨hn, hb⟩ := named_of h
 unfold statT statS
 rcases hg.k with k | k | k | k | k | k | k | k | k
 ·have := (piece_ctk x.left (hg.l (by omega))).app ((word_piece (t := subW) rfl (by decide) (by decide) (by decide)).app (piece_ctk x.right (hg.r (by omega))))
  simpa [k, subW] using this
 ·have := (piece_ctk x.left (hg.l (by omega))).app ((word_piece (t := sameW) rfl (by decide) (by decide) (by decide)).app (piece_ctk x.right (hg.r (by omega))))
  simpa [k, sameW] using this
 ·have := (piece_ctk x.left (hg.l (by omega))).app ((word_piece (t := disjW) rfl (by decide) (by decide) (by decide)).app (piece_ctk x.right (hg.r (by omega))))
  simpa [k, disjW] using this
 ·have := (word_piece (t := domW) rfl (by decide) (by decide) (by decide)).app ((piece_plain (hn.hr (by omega))).app (piece_ctk x.right (hg.r (by omega))))
  simpa [k, domW] using this
 ·have hr := hg.r5 k
  rcases hps : x.roles with _ | ⟨a, _ | ⟨b, r⟩⟩
  ·simp [hps] at hr
  ·have := (word_piece (t := roleW) rfl (by decide) (by decide) (by decide)).app ((piece_plain (hn.hs a (by rw [hps]; simp))).app ((word_piece (t := subW) rfl (by decide) (by decide) (by decide)).app (piece_plain (hn.hr (by omega)))))
   simpa [k, roleW, subW] using this
  ·simp [hps] at hr
 ·have := piece_names ((word_piece (t := subW) rfl (by decide) (by decide) (by decide)).app (piece_plain (hn.hr (by omega)))) x.roles hn.hs _ _ (word_piece (t := chainW) rfl (by decide) (by decide) (by decide))
  simpa [k, chainW, subW] using this
 ·have := (word_piece (t := reflW) rfl (by decide) (by decide) (by decide)).app (piece_plain (hn.hr (by omega)))
  simpa [k, reflW] using this
 ·have := (word_piece (t := typeW) rfl (by decide) (by decide) (by decide)).app ((piece_person (hn.ha (by omega))).app (piece_ctk x.right (hg.r (by omega))))
  simpa [k, typeW] using this
 ·have := (word_piece (t := linkW) rfl (by decide) (by decide) (by decide)).app ((piece_person (hn.ha (by omega))).app ((piece_plain (hn.hr (by omega))).app (piece_person (hn.hb k))))
  simpa [k, linkW] using this
theorem piece_axT {x : Ax} (h : checkAS x = 0) : Piece (axT x) (axS x) := by
 have hp := piece_statT h
 have h1 := (word_piece (t := privW) rfl (by decide) (by decide) (by decide)).app hp
 have h2 := (word_piece (t := openW) rfl (by decide) (by decide) (by decide)).app hp
 unfold axT axS
 split <;> split
 ·exact hp
 ·simpa [privW] using h1
 ·simpa [openW] using h2
 ·exact hp
end Go.Ai.Z
namespace Go.Ai.Z
def sideN (b : Bool) (c : C) : Option C := if b = true then tidyN c else some (nz c)
def tidyAx (x : Ax) : Option Ax :=
 match sideN (useS x.kind).l x.left, sideN (useS x.kind).r x.right with
 | some p, some q => if (x.kind = 2 ∨ x.kind = 3) ∧ 0 < cmpT p q then some { x with left := q, right := p, z := false } else some { x with left := p, right := q, z := false }
 | _, _ => none
def nzA (y : Ax) : Ax := { y with left := nz y.left, right := nz y.right, z := false }
def TidyAR (x : Ax) (y : Ax) (e : Int) : Prop := match tidyAx x with
 | some t => nzA y = t ∧ e = 0
 | none => e = 2
def zC : C := .mk 0 [] 0 0 true []
def zA : Ax := ⟨0, false, zC, zC, true, [], [], [], []⟩
def zAcs : List AV := [.i .i64 0, .b false, .i .i64 0, .s [], .i .i64 0, .i .i64 0, .ns, .i .i64 0, .s [], .i .i64 0, .i .i64 0, .ns, .ns, .s [], .s [], .s []]
theorem enc_zA : encA zA = .ag [.i .i64 0, .b false, .i .i64 0, .s [], .i .i64 0, .i .i64 0, .ns, .i .i64 0, .s [], .i .i64 0, .i .i64 0, .ns, .ns, .s [], .s [], .s []] := rfl
theorem c_side (b : Bool) (c : C) (hv : b = true → walkS c = 0) (hw : wC c ≤ 1000) : ∃ (p : C) (e : Int), TidyR (sideN b c) p e ∧ wC p ≤ 1000 ∧ (b = false → p = c ∧ e = 0) ∧
  (b = true → ∀ (s : St) (cx : Ctx), acallW P0 (.fn (.func F_terms_tidy) [] []) [encC c] s cx = .ret (.tu [encC p, .i .i64 e]) s) := by
 cases b with
 | false => exact ⟨c, 0, by simp [sideN, TidyR], hw, fun _ => ⟨rfl, rfl⟩, fun h => by cases h⟩
 | true =>
  obtain ⟨p, e, h1, _, h2, h3⟩ := c_terms_tidy c (hv rfl) hw
  exact ⟨p, e, by simpa [sideN] using h1, h2, (fun h => by cases h), fun _ => h3⟩
set_option maxHeartbeats 4000000 in
theorem c_terms_TidyAxiom (x : Ax) (hx : x.Few) (h0 : checkAS x = 0) : ∃ (y : Ax) (e : Int), TidyAR x y e ∧ wC y.left ≤ 1000 ∧ wC y.right ≤ 1000 ∧ y.roles.length ≤ 600 ∧
  ∀ (s : St) (cx : Ctx), acallW P0 (.fn (.func F_terms_TidyAxiom) [] []) [encA x] s cx = .ret (.tu [encA y, .i .i64 e]) s := by
 have hg := good h0
 have e0 := c_terms_CheckAxiom x hx
 rw [h0] at e0
 have hk : 1 ≤ x.kind ∧ x.kind ≤ 9 := by have := hg.k; omega
 have b1 : 0 ≤ x.kind := by omega
 have b2 : x.kind.toNat < 10 := by omega
 have b3 : 7 ≤ 70 - x.kind.toNat * 7 := by omega
 have hu := uses_at (k := x.kind) (by omega) (by omega)
 have hvl : (useS x.kind).l = true → walkS x.left = 0 := fun h => hg.l (by
  rcases hg.k with k | k | k | k | k | k | k | k | k <;> rw [k] at h <;> simp [useS] at h <;> omega)
 have hvr : (useS x.kind).r = true → walkS x.right = 0 := fun h => hg.r (by
  rcases hg.k with k | k | k | k | k | k | k | k | k <;> rw [k] at h <;> simp [useS] at h <;> omega)
 obtain ⟨p, ep, p1, p2, p3, p4⟩ := c_side (useS x.kind).l x.left hvl (by have := hx.l; omega)
 obtain ⟨q, eq, q1, q2, q3, q4⟩ := c_side (useS x.kind).r x.right hvr (by have := hx.r; omega)
 have hro := hx.roles
 have hcmp := c_terms_Compare p q p2 q2
 by_cases hel : ep = 0
 ·by_cases her : eq = 0
  ·by_cases hsw : (x.kind = 2 ∨ x.kind = 3) ∧ 0 < cmpT p q
   ·refine ⟨{ x with left := q, right := p }, 0, ?_, q2, p2, hro, fun s cx => ?_⟩
    ·simp only [TidyAR, tidyAx, p1.zero hel, q1.zero her]; rw [if_pos ⟨hsw.1, by rw [cmpT_nz]; exact hsw.2⟩]; exact ⟨rfl, trivial⟩
    ·refine go_terms_TidyAxiom (by simp) ?_
     clear p1 q1 hvl hvr
     obtain ⟨h23, hc⟩ := hsw
     have hul : (useS x.kind).l = true := by rcases h23 with k | k <;> rw [k] <;> rfl
     have hur : (useS x.kind).r = true := by rcases h23 with k | k <;> rw [k] <;> rfl
     have p5 := p4 hul
     have q5 := q4 hur
     rw [hul, hur] at hu
     rw [hel] at p5
     rw [her] at q5
     rcases h23 with k | k <;> have d2 := dk 2 k <;> have d3 := dk 3 k <;>
      simp [callFnW, ir_terms_TidyAxiom, e0, b1, b2, b3, glob_uses, uses_len, hu, hcmp, hc, p5, q5, splice, d2, d3] <;> rfl
   ·refine ⟨{ x with left := p, right := q }, 0, ?_, p2, q2, hro, fun s cx => ?_⟩
    ·simp only [TidyAR, tidyAx, p1.zero hel, q1.zero her]; rw [if_neg (fun h => hsw ⟨h.1, by have := h.2; rwa [cmpT_nz] at this⟩)]; exact ⟨rfl, trivial⟩
    ·refine go_terms_TidyAxiom (by simp) ?_
     clear p1 q1 hvl hvr
     by_cases h23 : x.kind = 2 ∨ x.kind = 3
     ·have hc : ¬ 0 < cmpT p q := fun h => hsw ⟨h23, h⟩
      have hul : (useS x.kind).l = true := by rcases h23 with k | k <;> rw [k] <;> rfl
      have hur : (useS x.kind).r = true := by rcases h23 with k | k <;> rw [k] <;> rfl
      have p5 := p4 hul
      have q5 := q4 hur
      rw [hul, hur] at hu
      rw [hel] at p5
      rw [her] at q5
      rcases h23 with k | k <;> have d2 := dk 2 k <;> have d3 := dk 3 k <;>
       simp [callFnW, ir_terms_TidyAxiom, e0, b1, b2, b3, glob_uses, uses_len, hu, hcmp, hc, p5, q5, splice, d2, d3] <;> rfl
     ·have d2 : decide (x.kind = 2) = false := by simp; omega
      have d3 : decide (x.kind = 3) = false := by simp; omega
      rcases hbl : (useS x.kind).l with _ | _ <;> rcases hbr : (useS x.kind).r with _ | _ <;> rw [hbl, hbr] at hu
      ·obtain ⟨rfl, -⟩ := p3 hbl
       obtain ⟨rfl, -⟩ := q3 hbr
       simp [callFnW, ir_terms_TidyAxiom, e0, b1, b2, b3, glob_uses, uses_len, hu, splice, d2, d3] <;> rfl
      ·obtain ⟨rfl, -⟩ := p3 hbl
       have q5 := q4 hbr
       rw [her] at q5
       simp [callFnW, ir_terms_TidyAxiom, e0, b1, b2, b3, glob_uses, uses_len, hu, splice, d2, d3, q5] <;> rfl
      ·obtain ⟨rfl, -⟩ := q3 hbr
       have p5 := p4 hbl
       rw [hel] at p5
       simp [callFnW, ir_terms_TidyAxiom, e0, b1, b2, b3, glob_uses, uses_len, hu, splice, d2, d3, p5] <;> rfl
      ·have p5 := p4 hbl
       have q5 := q4 hbr
       rw [hel] at p5
       rw [her] at q5
       simp [callFnW, ir_terms_TidyAxiom, e0, b1, b2, b3, glob_uses, uses_len, hu, splice, d2, d3, p5, q5] <;> rfl
  ·obtain ⟨n1, n2⟩ := q1.two her
   refine ⟨zA, 2, by simp only [TidyAR, tidyAx, p1.zero hel, n1], by decide, by decide, by decide, fun s cx => ?_⟩
   refine go_terms_TidyAxiom (by simp) ?_
   clear p1 q1 hvl hvr
   rw [enc_zA]
   have hbr : (useS x.kind).r = true := by
    rcases h : (useS x.kind).r with _ | _
    ·exact absurd (q3 h).2 her
    ·rfl
   have q5 := q4 hbr
   rw [n2] at q5
   rcases hbl : (useS x.kind).l with _ | _ <;> rw [hbl, hbr] at hu
   ·obtain ⟨rfl, -⟩ := p3 hbl
    simp [callFnW, ir_terms_TidyAxiom, e0, b1, b2, b3, glob_uses, uses_len, hu, splice, fillC, q5] <;> rfl
   ·have p5 := p4 hbl
    rw [hel] at p5
    simp [callFnW, ir_terms_TidyAxiom, e0, b1, b2, b3, glob_uses, uses_len, hu, splice, fillC, p5, q5] <;> rfl
 ·obtain ⟨n1, n2⟩ := p1.two hel
  refine ⟨zA, 2, by simp only [TidyAR, tidyAx, n1], by decide, by decide, by decide, fun s cx => ?_⟩
  refine go_terms_TidyAxiom (by simp) ?_
  clear p1 q1 hvl hvr
  rw [enc_zA]
  have hbl : (useS x.kind).l = true := by
   rcases h : (useS x.kind).l with _ | _
   ·exact absurd (p3 h).2 hel
   ·rfl
  have p5 := p4 hbl
  rw [n2] at p5
  rw [hbl] at hu
  simp [callFnW, ir_terms_TidyAxiom, e0, b1, b2, b3, glob_uses, uses_len, hu, splice, fillC, p5] <;> rfl
theorem TidyAR.same {x y y' : Ax} {e e' : Int} (h : TidyAR x y e) (h' : TidyAR x y' e') : e = e' ∧ (e = 0 → nzA y = nzA y') := by
 unfold TidyAR at h h'
 cases hx : tidyAx x with
 | none => rw [hx] at h h'; simp only at h h'; exact ⟨by omega, fun h0 => by omega⟩
 | some t => rw [hx] at h h'; exact ⟨by rw [h.2, h'.2], fun _ => by rw [h.1, h'.1]⟩
end Go.Ai.Z
