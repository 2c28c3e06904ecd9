/-
 The parser: statements that begin with a keyword.
-/
import Derived.Test.YtpnlnnfcaeednaaGreatDoorAiQ5Q6
import Derived.Test.YtpnlnnfcaeednaaGreatDoorAiU1U2
import Derived.Test.YtpnlnnfcaeednaaGreatDoorAiQ3Q4
set_option maxRecDepth 100000
set_option linter.unusedSimpArgs false
set_option linter.unusedVariables false
set_option linter.unusedSectionVars false
namespace Go.Ai.Z
def pcA (x : Ax) : Ax := { x with left := pcC x.left, right := pcC x.right, z := true }
theorem pc_empty {c : C} (h : emptyS c = true) : pcC c = zC := by
 simp only [emptyS, Bool.and_eq_true, decide_eq_true_eq] at h
 obtain ⟨⟨⟨⟨h1, h2⟩, h3⟩, h4⟩, h5⟩ := h
 have h6 : c.parts = [] := List.length_eq_zero_iff.1 (by omega)
 rw [pcC_eq, h1, h2, h3, h4, h6]; rfl
section
variable {T : List Tok} {m : AV} {S : Nat → St} {l N : Nat} (hE : PEnv T m S l N)
include hE
theorem p_nameT {i : Nat} {r : List UInt8} {R : List Tk} (h : At T i (wT r :: R)) (hp : plainS r = true) (cx : Ctx) (hl : cx.lim ≤ l) :
  acallW P0 (.fn (.func F_syntax_parser_name) [] []) [.pt l 0] (S i) cx = .ret (.s r) (S (i + 1)) := p_name hE h rfl hp cx hl
theorem p_wantT {i : Nat} {r : List UInt8} {R : List Tk} (h : At T i (wT r :: R)) (cx : Ctx) (hl : cx.lim ≤ l) :
  acallW P0 (.fn (.func F_syntax_parser_want) [] []) [.pt l 0, .s r] (S i) cx = .ret (.tu []) (S (i + 1)) := p_want hE h cx hl
theorem p_atName {i : Nat} {x : Tk} {R : List Tk} (h : At T i (x :: R)) (cx : Ctx) :
  acallW P0 (.fn (.func F_syntax_parser_atName) [] []) [.pt l 0] (S i) cx = .ret (.b (decide (x.1 = 1) && !kwS x.2)) (S i) := by
 obtain ⟨⟨a, ha⟩, _⟩ := h.head
 exact c_atName T hE.len i m (S i) l (hE.cell i) x.1 x.2 a ha cx
theorem p_domain {i : Nat} {r : List UInt8} {c : C} {R : List Tk} (hr : plainS r = true) (hc : ConceptOK c) (hA : At T i (wT r :: (ctk c ++ R))) (hR : Hd R inB) (hR2 : Hd R andW) (cx : Ctx) (hl : cx.lim ≤ l) :
  acallW P0 (.fn (.func F_syntax_parser_domain) [.pt l 0] []) [] (S i) cx = .ret (encA ⟨4, false, zC, pcC c, true, [], r, [], []⟩) (S (i + 1 + (ctk c).length)) := by
 have e1 := p_nameT hE hA hr ⟨cx.lim, (S i).length⟩ hl
 have e2 := hc T m S l N hE (i + 1) R hA.head.2 hR hR2 ⟨cx.lim, (S i).length⟩ hl
 refine go_syntax_parser_domain (by simp) ?_
 have hN := hE.n
 simp only [hN] at e1 e2
 generalize pcC c = y at *
 simp [callFnW, ir_syntax_parser_domain, hN, e1, e2, fillC, splice]
 try rfl
theorem p_typing {i : Nat} {r : List UInt8} {c : C} {R : List Tk} (hr : plainS r = true) (hc : ConceptOK c) (hA : At T i (wT r :: (ctk c ++ R))) (hR : Hd R inB) (hR2 : Hd R andW) (cx : Ctx) (hl : cx.lim ≤ l) :
  acallW P0 (.fn (.func F_syntax_parser_typing) [.pt l 0] []) [] (S i) cx = .ret (encA ⟨8, false, zC, pcC c, true, [], [], r, []⟩) (S (i + 1 + (ctk c).length)) := by
 have e1 := p_nameT hE hA hr ⟨cx.lim, (S i).length⟩ hl
 have e2 := hc T m S l N hE (i + 1) R hA.head.2 hR hR2 ⟨cx.lim, (S i).length⟩ hl
 refine go_syntax_parser_typing (by simp) ?_
 have hN := hE.n
 simp only [hN] at e1 e2
 generalize pcC c = y at *
 simp [callFnW, ir_syntax_parser_typing, hN, e1, e2, fillC, splice]
 try rfl
theorem p_reflexive {i : Nat} {r : List UInt8} {R : List Tk} (hr : plainS r = true) (hA : At T i (wT r :: R)) (cx : Ctx) (hl : cx.lim ≤ l) :
  acallW P0 (.fn (.func F_syntax_parser_reflexive) [.pt l 0] []) [] (S i) cx = .ret (encA ⟨7, false, zC, zC, true, [], r, [], []⟩) (S (i + 1)) := by
 have e1 := p_nameT hE hA hr ⟨cx.lim, (S i).length⟩ hl
 refine go_syntax_parser_reflexive (by simp) ?_
 have hN := hE.n
 simp only [hN] at e1
 simp [callFnW, ir_syntax_parser_reflexive, hN, e1, fillC, splice]
 try rfl
theorem p_link {i : Nat} {a r b : List UInt8} {R : List Tk} (ha : plainS a = true) (hr : plainS r = true) (hb : plainS b = true) (hA : At T i (wT a :: wT r :: wT b :: R)) (cx : Ctx) (hl : cx.lim ≤ l) :
  acallW P0 (.fn (.func F_syntax_parser_link) [.pt l 0] []) [] (S i) cx = .ret (encA ⟨9, false, zC, zC, true, [], r, a, b⟩) (S (i + 3)) := by
 have h1 := hA.head.2
 have h2 := h1.head.2
 have e1 := p_nameT hE hA ha ⟨cx.lim, (S i).length⟩ hl
 have e2 := p_nameT hE h1 hr ⟨cx.lim, (S i).length⟩ hl
 have e3 := p_nameT hE h2 hb ⟨cx.lim, (S i).length⟩ hl
 refine go_syntax_parser_link (by simp) ?_
 have hN := hE.n
 simp only [hN] at e1 e2 e3
 simp [callFnW, ir_syntax_parser_link, hN, e1, e2, e3, fillC, splice]
 try rfl
theorem p_role {i : Nat} {q r : List UInt8} {R : List Tk} (hq : plainS q = true) (hr : plainS r = true) (hA : At T i (wT q :: wT subW :: wT r :: R)) (cx : Ctx) (hl : cx.lim ≤ l) :
  acallW P0 (.fn (.func F_syntax_parser_role) [.pt l 0] []) [] (S i) cx = .ret (encA ⟨5, false, zC, zC, true, [q], r, [], []⟩) (S (i + 3)) := by
 have h1 := hA.head.2
 have h2 := h1.head.2
 have e1 := p_nameT hE hA hq ⟨cx.lim, (S i).length⟩ hl
 have e2 := p_wantT hE h1 ⟨cx.lim, (S i).length⟩ hl
 have e3 := p_nameT hE h2 hr ⟨cx.lim, (S i).length⟩ hl
 refine go_syntax_parser_role (by simp) ?_
 have hN := hE.n
 simp only [hN, subW] at e1 e2 e3
 simp [callFnW, ir_syntax_parser_role, hN, e1, e2, e3, fillC, splice, List.range_succ]
 try rfl
theorem l_chain (lim : Nat) (hl : lim ≤ l) (R : List Tk) : ∀ (rest acc : List (List UInt8)) (i : Nat), (∀ r ∈ rest, plainS r = true) → acc.length + rest.length ≤ 4 → At T i (rest.map wT ++ wT subW :: R) →
  loopW (acodeW P0.glob (acallW P0) ⟨lim, N⟩ false ir_syntax_parser_chain_L0) [0, 2, 3] [(0, .v (.pt l 0)), (2, .bx zAcs), (3, .own false T_string_0 1 (acc.map AV.s))] (S i) =
   .exit 0 [(0, .v (.pt l 0)), (2, .bx zAcs), (3, .own false T_string_0 1 ((acc ++ rest).map AV.s)), (15, .v (.b false))] (S (i + rest.length))
 | [], acc, i, hp, hlen, hA => by
  have e1 := p_atName hE hA
  refine loop_step fun K hK => ?_
  have hk : kwS subW = true := by decide
  simp only [wT, hk] at e1
  by_cases h4 : (acc.length : Int) < 4
  ·simp [ir_syntax_parser_chain_L0, zAcs, e1, h4]
  ·simp [ir_syntax_parser_chain_L0, zAcs, e1, h4]
 | r :: rest, acc, i, hp, hlen, hA => by
  have hr := hp r (by simp)
  have e1 := p_atName hE hA
  have e2 := p_nameT hE hA hr ⟨lim, N⟩ hl
  have ih := l_chain lim hl R rest (acc ++ [r]) (i + 1) (fun q hq => hp q (by simp [hq])) (by simp at hlen ⊢; omega) hA.head.2
  refine loop_step fun K hK => ?_
  rw [← hK] at ih
  clear hK
  have hk : kwS r = false := (plain_name hr).kw
  simp only [wT, hk] at e1
  have h4 : (acc.length : Int) < 4 := by simp at hlen; omega
  have hm : acc.length + 1 ≤ maxSl := by simp at hlen; unfold maxSl; omega
  rw [show i + 1 + rest.length = i + (r :: rest).length by simp; omega, show acc ++ [r] ++ rest = acc ++ r :: rest by simp] at ih
  generalize hW : (acc ++ r :: rest).map AV.s = W at ih ⊢
  generalize i + (r :: rest).length = J at ih ⊢
  simp [zAcs] at ih
  simp [ir_syntax_parser_chain_L0, zAcs, e1, e2, h4, hm, List.range_succ]
  exact ih
theorem p_chain {i : Nat} {p q : List UInt8} {rest : List (List UInt8)} {r : List UInt8} {R : List Tk} (hp : plainS p = true) (hq : plainS q = true) (hs : ∀ r ∈ rest, plainS r = true) (hlen : rest.length ≤ 2) (hr : plainS r = true)
  (hA : At T i (wT p :: wT q :: (rest.map wT ++ wT subW :: wT r :: R))) (cx : Ctx) (hl : cx.lim ≤ l) :
  acallW P0 (.fn (.func F_syntax_parser_chain) [.pt l 0] []) [] (S i) cx = .ret (encA ⟨6, false, zC, zC, true, p :: q :: rest, r, [], []⟩) (S (i + 1 + 1 + rest.length + 1 + 1)) := by
 have h1 := hA.head.2
 have h2 := h1.head.2
 have h3 : At T (i + 1 + 1 + rest.length) (wT subW :: wT r :: R) := by
  unfold At at h2 ⊢
  rw [← List.drop_drop, List.map_drop, h2]
  simp
 have h4 := h3.head.2
 have e1 := p_nameT hE hA hp ⟨cx.lim, (S i).length⟩ hl
 have e2 := p_nameT hE h1 hq ⟨cx.lim, (S i).length⟩ hl
 have e3 := l_chain hE cx.lim hl (wT r :: R) rest [p, q] (i + 1 + 1) hs (by simp; omega) h2
 have e4 := p_wantT hE h3 ⟨cx.lim, (S i).length⟩ hl
 have e5 := p_nameT hE h4 hr ⟨cx.lim, (S i).length⟩ hl
 refine go_syntax_parser_chain (by simp) ?_
 have hN := hE.n
 simp only [hN, subW] at e1 e2 e3 e4 e5
 simp [zAcs] at e3
 simp [callFnW, ir_syntax_parser_chain, hN, e1, e2, e3, e4, e5, fillC, splice, List.range_succ]
 try rfl
end
end Go.Ai.Z
namespace Go.Ai.Z
def midK (w : List UInt8) (k : Int) : Prop := (w = subW ∧ k = 1) ∨ (w = sameW ∧ k = 2) ∨ (w = disjW ∧ k = 3)
def begF (w : List UInt8) (f : Nat) (k : Int) : Prop := (w = domW ∧ f = F_syntax_parser_domain ∧ k = 4) ∨ (w = roleW ∧ f = F_syntax_parser_role ∧ k = 5) ∨ (w = chainW ∧ f = F_syntax_parser_chain ∧ k = 6) ∨ (w = reflW ∧ f = F_syntax_parser_reflexive ∧ k = 7) ∨
 (w = typeW ∧ f = F_syntax_parser_typing ∧ k = 8) ∨ (w = linkW ∧ f = F_syntax_parser_link ∧ k = 9)
def begs : List (List UInt8) := [domW, roleW, chainW, reflW, typeW, linkW]
section
variable {T : List Tok} {l : Nat} {S : Nat → St} {N : Nat}
theorem at_drop {i : Nat} {a b : List Tk} (h : At T i (a ++ b)) : At T (i + a.length) b := by
 unfold At at h ⊢
 rw [← List.drop_drop, List.map_drop, h, List.drop_left]
set_option maxHeartbeats 1000000 in
theorem p_inclusion {m : AV} (hE : PEnv T m S l N) {i : Nat} {c d : C} {w : List UInt8} {k : Int} {R : List Tk} (hw : midK w k) (hc : ConceptOK c) (hd : ConceptOK d) (hA : At T i (ctk c ++ wT w :: (ctk d ++ R))) (hR : Hd R inB) (hR2 : Hd R andW) (cx : Ctx) (hl : cx.lim ≤ l) :
  acallW P0 (.fn (.func F_syntax_parser_inclusion) [] []) [.pt l 0] (S i) cx = .ret (encA ⟨k, false, pcC c, pcC d, true, [], [], [], []⟩) (S (i + (ctk c).length + 1 + (ctk d).length)) := by
 have hi : w ≠ inB ∧ w ≠ andW := by rcases hw with ⟨rfl, -⟩ | ⟨rfl, -⟩ | ⟨rfl, -⟩ <;> decide
 have e1 := hc T m S l N hE i _ hA ⟨_, _, rfl, hi.1⟩ ⟨_, _, rfl, hi.2⟩ ⟨cx.lim, (S i).length⟩ hl
 have h1 := at_drop hA
 have h2 := h1.head.2
 have e2 := p_skip_yes hE h1 ⟨cx.lim, (S i).length⟩ hl
 have e3 := hd T m S l N hE _ R h2 hR hR2 ⟨cx.lim, (S i).length⟩ hl
 have n1 := p_skip_no hE h1 [115, 117, 98]
 have n2 := p_skip_no hE h1 [115, 97, 109, 101]
 refine go_syntax_parser_inclusion (by simp) ?_
 have hN := hE.n
 simp only [hN, wT] at e1 e2 e3 n1 n2
 generalize pcC c = y at *
 generalize pcC d = z at *
 rcases hw with ⟨rfl, rfl⟩ | ⟨rfl, rfl⟩ | ⟨rfl, rfl⟩
 ·simp only [subW] at e2
  simp [callFnW, ir_syntax_parser_inclusion, hN, e1, e2, e3, fillC, splice]
  try rfl
 ·have n1 := n1 (by decide)
  simp only [sameW] at e2
  simp [callFnW, ir_syntax_parser_inclusion, hN, e1, e2, e3, n1, fillC, splice]
  try rfl
 ·have n1 := n1 (by decide)
  have n2 := n2 (by decide)
  simp only [disjW] at e2
  simp [callFnW, ir_syntax_parser_inclusion, hN, e1, e2, e3, n1, n2, fillC, splice]
  try rfl
variable (hE : PEnv T (mapV l) S l N)
include hE
theorem p_axiom_inc {i i1 i2 j : Nat} {bo bp : Bool} (y : Ax) (hk : y.kind = 1 ∨ y.kind = 2 ∨ y.kind = 3) (cx : Ctx) (hl : cx.lim ≤ l)
  (e1 : acallW P0 (.fn (.func F_syntax_parser_skip) [] []) [.pt l 0, .s openW] (S i) ⟨cx.lim, N⟩ = .ret (.b bo) (S i1))
  (e2 : bo = false → acallW P0 (.fn (.func F_syntax_parser_skip) [] []) [.pt l 0, .s privW] (S i1) ⟨cx.lim, N⟩ = .ret (.b bp) (S i2)) (e2' : bo = true → i2 = i1 ∧ bp = false)
  {k : Int} {t : List UInt8} {a : Nat} (ht : T[i2]? = some (k, t, a)) (hn : t ∉ begs)
  (e3 : acallW P0 (.fn (.func F_syntax_parser_inclusion) [] []) [.pt l 0] (S i2) ⟨cx.lim, N⟩ = .ret (encA y) (S j)) :
  acallW P0 (.fn (.func F_syntax_parser_axiom) [] []) [.pt l 0] (S i) cx = .ret (encA { y with op := bo }) (S j) := by
 have e4 := c_token T hE.len i2 _ (S i2) l (hE.cell i2) k t a ht
 have h1 := hE.cell i2
 have hN := hE.n
 simp [begs, domW, roleW, chainW, reflW, typeW, linkW] at hn
 obtain ⟨n1, n2, n3, n4, n5, n6⟩ := hn
 simp only [openW, privW] at e1 e2
 refine go_syntax_parser_axiom (by simp) ?_
 unfold psO mapV at h1
 have d5 : decide (y.kind = 5) = false := by simp; omega
 have d6 : decide (y.kind = 6) = false := by simp; omega
 have d7 : decide (y.kind = 7) = false := by simp; omega
 cases bo with
 | false =>
  have e2 := e2 rfl
  cases bp <;> simp [callFnW, ir_syntax_parser_axiom, hN, e1, e2, e3, e4, h1, encTok, find, keyK, keyEq, n1, n2, n3, n4, n5, n6, d5, d6, d7, splice] <;> (try rfl)
 | true =>
  obtain ⟨rfl, rfl⟩ := e2' rfl
  simp [callFnW, ir_syntax_parser_axiom, hN, e1, e3, e4, h1, encTok, find, keyK, keyEq, n1, n2, n3, n4, n5, n6, d5, d6, d7, splice]
  try rfl
end
end Go.Ai.Z
namespace Go.Ai.Z
section
variable {T : List Tok} {l : Nat} {S : Nat → St} {N : Nat}
variable (hE : PEnv T (mapV l) S l N)
include hE
set_option maxHeartbeats 2000000 in
theorem p_axiom_beg {i i1 i2 j : Nat} {bo bp : Bool} (y : Ax) (cx : Ctx) (hl : cx.lim ≤ l)
  (e1 : acallW P0 (.fn (.func F_syntax_parser_skip) [] []) [.pt l 0, .s openW] (S i) ⟨cx.lim, N⟩ = .ret (.b bo) (S i1))
  (e2 : bo = false → acallW P0 (.fn (.func F_syntax_parser_skip) [] []) [.pt l 0, .s privW] (S i1) ⟨cx.lim, N⟩ = .ret (.b bp) (S i2)) (e2' : bo = true → i2 = i1 ∧ bp = false)
  {w : List UInt8} {f : Nat} (hw : begF w f y.kind) {a : Nat} (ht : T[i2]? = some (1, w, a))
  (e3 : acallW P0 (.fn (.func f) [.pt l 0] []) [] (S (i2 + 1)) ⟨cx.lim, N⟩ = .ret (encA y) (S j)) :
  acallW P0 (.fn (.func F_syntax_parser_axiom) [] []) [.pt l 0] (S i) cx = .ret (encA { y with op := if y.kind = 5 ∨ y.kind = 6 ∨ y.kind = 7 then !bp else bo }) (S j) := by
 have e4 := c_token T hE.len i2 _ (S i2) l (hE.cell i2) 1 w a ht
 have h1 := hE.cell i2
 have hs := hE.sets i2 (i2 + 1)
 have hN := hE.n
 have hlt : i2 < T.length := (List.getElem?_eq_some_iff.1 ht).1
 have hlen := hE.len
 have hwi := wI (i := i2) (by omega)
 simp only [openW, privW] at e1 e2
 refine go_syntax_parser_axiom (by simp) ?_
 unfold psO mapV at h1 hs
 rw [show ((i2 + 1 : Nat) : Int) = (i2 : Int) + 1 by omega] at hs
 cases bo with
 | true =>
  obtain ⟨rfl, rfl⟩ := e2' rfl
  clear e2 e2'
  rcases hw with ⟨rfl, rfl, k⟩ | ⟨rfl, rfl, k⟩ | ⟨rfl, rfl, k⟩ | ⟨rfl, rfl, k⟩ | ⟨rfl, rfl, k⟩ | ⟨rfl, rfl, k⟩
  all_goals
   have d5 := dk 5 k
   have d6 := dk 6 k
   have d7 := dk 7 k
   simp only [pk 5 k, pk 6 k, pk 7 k]
   simp only [domW, roleW, chainW, reflW, typeW, linkW] at e4
   simp [callFnW, ir_syntax_parser_axiom, hN, e1, e3, e4, h1, hs, hwi, hl, encTok, find, keyK, keyEq, d5, d6, d7, splice]
   try rfl
 | false =>
  have e2 := e2 rfl
  clear e2'
  cases bp
  all_goals
  rcases hw with ⟨rfl, rfl, k⟩ | ⟨rfl, rfl, k⟩ | ⟨rfl, rfl, k⟩ | ⟨rfl, rfl, k⟩ | ⟨rfl, rfl, k⟩ | ⟨rfl, rfl, k⟩
  all_goals
   have d5 := dk 5 k
   have d6 := dk 6 k
   have d7 := dk 7 k
   simp only [pk 5 k, pk 6 k, pk 7 k]
   simp only [domW, roleW, chainW, reflW, typeW, linkW] at e4
   simp [callFnW, ir_syntax_parser_axiom, hN, e1, e2, e3, e4, h1, hs, hwi, hl, encTok, find, keyK, keyEq, d5, d6, d7, splice]
   try rfl
end
end Go.Ai.Z
