/-
 The parser: statements that begin with a keyword.
-/
import Derived.Test.YtpnlnnfcaeednaaGreatDoorAiQ5Q6
import Derived.Test.YtpnlnnfcaeednaaGreatDoorAiU1U2
import Derived.Test.YtpnlnnfcaeednaaGreatDoorAiQ3Q4
import Derived.Test.YtpnlnnfcaeednaaGreatDoorAiInj5Inj6Inj7Inj8Inj9KN
import Derived.Test.YtpnlnnfcaeednaaGreatDoorAiB2
import Derived.Test.YtpnlnnfcaeednaaGreatDoorAiK10K11K12
set_option maxRecDepth 100000
set_option linter.unusedSimpArgs false
set_option linter.unusedVariables false
set_option linter.unusedSectionVars false
namespace Go.Ai.Z
def pcA (x : Ax) : Ax := { x with left := pcC x.left, right := pcC x.right, z := true }
theorem pc_empty {c : C} (h : emptyS c = true) : pcC c = zC := by
 simp only [emptyS, Bool.and_eq_true, decide_eq_true_eq] at h
 obtain ⟨⟨⟨⟨h1, h2⟩, h3⟩, h4⟩, h5⟩ := h
 have h6 : c.parts = [] := List.length_eq_zero_iff.1 (by omega)
 rw [pcC_eq, h1, h2, h3, h4, h6]; rfl
section
variable {T : List Tok} {m : AV} {S : Nat → St} {l N : Nat} (hE : PEnv T m S l N)
include hE
theorem p_nameT {i : Nat} {r : List UInt8} {R : List Tk} (h : At T i (wT r :: R)) (hp : plainS r = true) (cx : Ctx) (hl : cx.lim ≤ l) :
  acallW P0 (.fn (.func F_syntax_parser_name) [] []) [.pt l 0] (S i) cx = .ret (.s r) (S (i + 1)) := p_name hE h rfl hp cx hl
theorem p_wantT {i : Nat} {r : List UInt8} {R : List Tk} (h : At T i (wT r :: R)) (cx : Ctx) (hl : cx.lim ≤ l) :
  acallW P0 (.fn (.func F_syntax_parser_want) [] []) [.pt l 0, .s r] (S i) cx = .ret (.tu []) (S (i + 1)) := p_want hE h cx hl
theorem p_atName {i : Nat} {x : Tk} {R : List Tk} (h : At T i (x :: R)) (cx : Ctx) :
  acallW P0 (.fn (.func F_syntax_parser_atName) [] []) [.pt l 0] (S i) cx = .ret (.b (decide (x.1 = 1) && !kwS x.2)) (S i) := by
 obtain ⟨⟨a, ha⟩, _⟩ := h.head
 exact c_atName T hE.len i m (S i) l (hE.cell i) x.1 x.2 a ha cx
theorem p_domain {i : Nat} {r : List UInt8} {c : C} {R : List Tk} (hr : plainS r = true) (hc : ConceptOK c) (hA : At T i (wT r :: (ctk c ++ R))) (hR : Hd R inB) (hR2 : Hd R andW) (cx : Ctx) (hl : cx.lim ≤ l) :
  acallW P0 (.fn (.func F_syntax_parser_domain) [.pt l 0] []) [] (S i) cx = .ret (encA ⟨4, false, zC, pcC c, true, [], r, [], []⟩) (S (i + 1 + (ctk c).length)) := by
 have e1 := p_nameT hE hA hr ⟨cx.lim, (S i).length⟩ hl
 have e2 := hc T m S l N hE (i + 1) R hA.head.2 hR hR2 ⟨cx.lim, (S i).length⟩ hl
 refine go_syntax_parser_domain (by simp) ?_
 have hN := hE.n
 simp only [hN] at e1 e2
 generalize pcC c = y at *
 simp [callFnW, ir_syntax_parser_domain, hN, e1, e2, fillC, splice]
 try rfl
theorem p_typing {i : Nat} {r : List UInt8} {c : C} {R : List Tk} (hr : plainS r = true) (hc : ConceptOK c) (hA : At T i (wT r :: (ctk c ++ R))) (hR : Hd R inB) (hR2 : Hd R andW) (cx : Ctx) (hl : cx.lim ≤ l) :
  acallW P0 (.fn (.func F_syntax_parser_typing) [.pt l 0] []) [] (S i) cx = .ret (encA ⟨8, false, zC, pcC c, true, [], [], r, []⟩) (S (i + 1 + (ctk c).length)) := by
 have e1 := p_nameT hE hA hr ⟨cx.lim, (S i).length⟩ hl
 have e2 := hc T m S l N hE (i + 1) R hA.head.2 hR hR2 ⟨cx.lim, (S i).length⟩ hl
 refine go_syntax_parser_typing (by simp) ?_
 have hN := hE.n
 simp only [hN] at e1 e2
 generalize pcC c = y at *
 simp [callFnW, ir_syntax_parser_typing, hN, e1, e2, fillC, splice]
 try rfl
theorem p_reflexive {i : Nat} {r : List UInt8} {R : List Tk} (hr : plainS r = true) (hA : At T i (wT r :: R)) (cx : Ctx) (hl : cx.lim ≤ l) :
  acallW P0 (.fn (.func F_syntax_parser_reflexive) [.pt l 0] []) [] (S i) cx = .ret (encA ⟨7, false, zC, zC, true, [], r, [], []⟩) (S (i + 1)) := by
 have e1 := p_nameT hE hA hr ⟨cx.lim, (S i).length⟩ hl
 refine go_syntax_parser_reflexive (by simp) ?_
 have hN := hE.n
 simp only [hN] at e1
 simp [callFnW, ir_syntax_parser_reflexive, hN, e1, fillC, splice]
 try rfl
theorem p_link {i : Nat} {a r b : List UInt8} {R : List Tk} (ha : plainS a = true) (hr : plainS r = true) (hb : plainS b = true) (hA : At T i (wT a :: wT r :: wT b :: R)) (cx : Ctx) (hl : cx.lim ≤ l) :
  acallW P0 (.fn (.func F_syntax_parser_link) [.pt l 0] []) [] (S i) cx = .ret (encA ⟨9, false, zC, zC, true, [], r, a, b⟩) (S (i + 3)) := by
 have h1 := hA.head.2
 have h2 := h1.head.2
 have e1 := p_nameT hE hA ha ⟨cx.lim, (S i).length⟩ hl
 have e2 := p_nameT hE h1 hr ⟨cx.lim, (S i).length⟩ hl
 have e3 := p_nameT hE h2 hb ⟨cx.lim, (S i).length⟩ hl
 refine go_syntax_parser_link (by simp) ?_
 have hN := hE.n
 simp only [hN] at e1 e2 e3
 simp [callFnW, ir_syntax_parser_link, hN, e1, e2, e3, fillC, splice]
 try rfl
theorem p_role {i : Nat} {q r : List UInt8} {R : List Tk} (hq : plainS q = true) (hr : plainS r = true) (hA : At T i (wT q :: wT subW :: wT r :: R)) (cx : Ctx) (hl : cx.lim ≤ l) :
  acallW P0 (.fn (.func F_syntax_parser_role) [.pt l 0] []) [] (S i) cx = .ret (encA ⟨5, false, zC, zC, true, [q], r, [], []⟩) (S (i + 3)) := by
 have h1 := hA.head.2
 have h2 := h1.head.2
 have e1 := p_nameT hE hA hq ⟨cx.lim, (S i).length⟩ hl
 have e2 := p_wantT hE h1 ⟨cx.lim, (S i).length⟩ hl
 have e3 := p_nameT hE h2 hr ⟨cx.lim, (S i).length⟩ hl
 refine go_syntax_parser_role (by simp) ?_
 have hN := hE.n
 simp only [hN, subW] at e1 e2 e3
 simp [callFnW, ir_syntax_parser_role, hN, e1, e2, e3, fillC, splice, List.range_succ]
 try rfl
theorem l_chain (lim : Nat) (hl : lim ≤ l) (R : List Tk) : ∀ (rest acc : List (List UInt8)) (i : Nat), (∀ r ∈ rest, plainS r = true) → acc.length + rest.length ≤ 4 → At T i (rest.map wT ++ wT subW :: R) →
  loopW (acodeW P0.glob (acallW P0) ⟨lim, N⟩ false ir_syntax_parser_chain_L0) [0, 2, 3] [(0, .v (.pt l 0)), (2, .bx zAcs), (3, .own false T_string_0 1 (acc.map AV.s))] (S i) =
   .exit 0 [(0, .v (.pt l 0)), (2, .bx zAcs), (3, .own false T_string_0 1 ((acc ++ rest).map AV.s)), (15, .v (.b false))] (S (i + rest.length))
 | [], acc, i, hp, hlen, hA => by
  have e1 := p_atName hE hA
  refine loop_step fun K hK => ?_
  have hk : kwS subW = true := by decide
  simp only [wT, hk] at e1
  by_cases h4 : (acc.length : Int) < 4
  ·simp [ir_syntax_parser_chain_L0, zAcs, e1, h4]
  ·simp [ir_syntax_parser_chain_L0, zAcs, e1, h4]
 | r :: rest, acc, i, hp, hlen, hA => by
  have hr := hp r (by simp)
  have e1 := p_atName hE hA
  have e2 := p_nameT hE hA hr ⟨lim, N⟩ hl
  have ih := l_chain lim hl R rest (acc ++ [r]) (i + 1) (fun q hq => hp q (by simp [hq])) (by simp at hlen ⊢; omega) hA.head.2
  refine loop_step fun K hK => ?_
  rw [← hK] at ih
  clear hK
  have hk : kwS r = false := (plain_name hr).kw
  simp only [wT, hk] at e1
  have h4 : (acc.length : Int) < 4 := by simp at hlen; omega
  have hm : acc.length + 1 ≤ maxSl := by simp at hlen; unfold maxSl; omega
  rw [show i + 1 + rest.length = i + (r :: rest).length by simp; omega, show acc ++ [r] ++ rest = acc ++ r :: rest by simp] at ih
  generalize hW : (acc ++ r :: rest).map AV.s = W at ih ⊢
  generalize i + (r :: rest).length = J at ih ⊢
  simp [zAcs] at ih
  simp [ir_syntax_parser_chain_L0, zAcs, e1, e2, h4, hm, List.range_succ]
  exact ih
theorem p_chain {i : Nat} {p q : List UInt8} {rest : List (List UInt8)} {r : List UInt8} {R : List Tk} (hp : plainS p = true) (hq : plainS q = true) (hs : ∀ r ∈ rest, plainS r = true) (hlen : rest.length ≤ 2) (hr : plainS r = true)
  (hA : At T i (wT p :: wT q :: (rest.map wT ++ wT subW :: wT r :: R))) (cx : Ctx) (hl : cx.lim ≤ l) :
  acallW P0 (.fn (.func F_syntax_parser_chain) [.pt l 0] []) [] (S i) cx = .ret (encA ⟨6, false, zC, zC, true, p :: q :: rest, r, [], []⟩) (S (i + 1 + 1 + rest.length + 1 + 1)) := by
 have h1 := hA.head.2
 have h2 := h1.head.2
 have h3 : At T (i + 1 + 1 + rest.length) (wT subW :: wT r :: R) := by
  unfold At at h2 ⊢
  rw [← List.drop_drop, List.map_drop, h2]
  simp
 have h4 := h3.head.2
 have e1 := p_nameT hE hA hp ⟨cx.lim, (S i).length⟩ hl
 have e2 := p_nameT hE h1 hq ⟨cx.lim, (S i).length⟩ hl
 have e3 := l_chain hE cx.lim hl (wT r :: R) rest [p, q] (i + 1 + 1) hs (by simp; omega) h2
 have e4 := p_wantT hE h3 ⟨cx.lim, (S i).length⟩ hl
 have e5 := p_nameT hE h4 hr ⟨cx.lim, (S i).length⟩ hl
 refine go_syntax_parser_chain (by simp) ?_
 have hN := hE.n
 simp only [hN, subW] at e1 e2 e3 e4 e5
 simp [zAcs] at e3
 simp [callFnW, ir_syntax_parser_chain, hN, e1, e2, e3, e4, e5, fillC, splice, List.range_succ]
 try rfl
end
end Go.Ai.Z
namespace Go.Ai.Z
def midK (w : List UInt8) (k : Int) : Prop := (w = subW ∧ k = 1) ∨ (w = sameW ∧ k = 2) ∨ (w = disjW ∧ k = 3)
def begF (w : List UInt8) (f : Nat) (k : Int) : Prop := (w = domW ∧ f = F_syntax_parser_domain ∧ k = 4) ∨ (w = roleW ∧ f = F_syntax_parser_role ∧ k = 5) ∨ (w = chainW ∧ f = F_syntax_parser_chain ∧ k = 6) ∨ (w = reflW ∧ f = F_syntax_parser_reflexive ∧ k = 7) ∨
 (w = typeW ∧ f = F_syntax_parser_typing ∧ k = 8) ∨ (w = linkW ∧ f = F_syntax_parser_link ∧ k = 9)
def begs : List (List UInt8) := [domW, roleW, chainW, reflW, typeW, linkW]
section
variable {T : List Tok} {l : Nat} {S : Nat → St} {N : Nat}
theorem at_drop {i : Nat} {a b : List Tk} (h : At T i (a ++ b)) : At T (i + a.length) b := by
 unfold At at h ⊢
 rw [← List.drop_drop, List.map_drop, h, List.drop_left]
set_option maxHeartbeats 1000000 in
theorem p_inclusion {m : AV} (hE : PEnv T m S l N) {i : Nat} {c d : C} {w : List UInt8} {k : Int} {R : List Tk} (hw : midK w k) (hc : ConceptOK c) (hd : ConceptOK d) (hA : At T i (ctk c ++ wT w :: (ctk d ++ R))) (hR : Hd R inB) (hR2 : Hd R andW) (cx : Ctx) (hl : cx.lim ≤ l) :
  acallW P0 (.fn (.func F_syntax_parser_inclusion) [] []) [.pt l 0] (S i) cx = .ret (encA ⟨k, false, pcC c, pcC d, true, [], [], [], []⟩) (S (i + (ctk c).length + 1 + (ctk d).length)) := by
 have hi : w ≠ inB ∧ w ≠ andW := by rcases hw with ⟨rfl, -⟩ | ⟨rfl, -⟩ | ⟨rfl, -⟩ <;> decide
 have e1 := hc T m S l N hE i _ hA ⟨_, _, rfl, hi.1⟩ ⟨_, _, rfl, hi.2⟩ ⟨cx.lim, (S i).length⟩ hl
 have h1 := at_drop hA
 have h2 := h1.head.2
 have e2 := p_skip_yes hE h1 ⟨cx.lim, (S i).length⟩ hl
 have e3 := hd T m S l N hE _ R h2 hR hR2 ⟨cx.lim, (S i).length⟩ hl
 have n1 := p_skip_no hE h1 [115, 117, 98]
 have n2 := p_skip_no hE h1 [115, 97, 109, 101]
 refine go_syntax_parser_inclusion (by simp) ?_
 have hN := hE.n
 simp only [hN, wT] at e1 e2 e3 n1 n2
 generalize pcC c = y at *
 generalize pcC d = z at *
 rcases hw with ⟨rfl, rfl⟩ | ⟨rfl, rfl⟩ | ⟨rfl, rfl⟩
 ·simp only [subW] at e2
  simp [callFnW, ir_syntax_parser_inclusion, hN, e1, e2, e3, fillC, splice]
  try rfl
 ·have n1 := n1 (by decide)
  simp only [sameW] at e2
  simp [callFnW, ir_syntax_parser_inclusion, hN, e1, e2, e3, n1, fillC, splice]
  try rfl
 ·have n1 := n1 (by decide)
  have n2 := n2 (by decide)
  simp only [disjW] at e2
  simp [callFnW, ir_syntax_parser_inclusion, hN, e1, e2, e3, n1, n2, fillC, splice]
  try rfl
variable (hE : PEnv T (mapV l) S l N)
include hE
theorem p_axiom_inc {i i1 i2 j : Nat} {bo bp : Bool} (y : Ax) (hk : y.kind = 1 ∨ y.kind = 2 ∨ y.kind = 3) (cx : Ctx) (hl : cx.lim ≤ l)
  (e1 : acallW P0 (.fn (.func F_syntax_parser_skip) [] []) [.pt l 0, .s openW] (S i) ⟨cx.lim, N⟩ = .ret (.b bo) (S i1))
  (e2 : bo = false → acallW P0 (.fn (.func F_syntax_parser_skip) [] []) [.pt l 0, .s privW] (S i1) ⟨cx.lim, N⟩ = .ret (.b bp) (S i2)) (e2' : bo = true → i2 = i1 ∧ bp = false)
  {k : Int} {t : List UInt8} {a : Nat} (ht : T[i2]? = some (k, t, a)) (hn : t ∉ begs)
  (e3 : acallW P0 (.fn (.func F_syntax_parser_inclusion) [] []) [.pt l 0] (S i2) ⟨cx.lim, N⟩ = .ret (encA y) (S j)) :
  acallW P0 (.fn (.func F_syntax_parser_axiom) [] []) [.pt l 0] (S i) cx = .ret (encA { y with op := bo }) (S j) := by
 have e4 := c_token T hE.len i2 _ (S i2) l (hE.cell i2) k t a ht
 have h1 := hE.cell i2
 have hN := hE.n
 simp [begs, domW, roleW, chainW, reflW, typeW, linkW] at hn
 obtain ⟨n1, n2, n3, n4, n5, n6⟩ := hn
 simp only [openW, privW] at e1 e2
 refine go_syntax_parser_axiom (by simp) ?_
 unfold psO mapV at h1
 have d5 : decide (y.kind = 5) = false := by simp; omega
 have d6 : decide (y.kind = 6) = false := by simp; omega
 have d7 : decide (y.kind = 7) = false := by simp; omega
 cases bo with
 | false =>
  have e2 := e2 rfl
  cases bp <;> simp [callFnW, ir_syntax_parser_axiom, hN, e1, e2, e3, e4, h1, encTok, find, keyK, keyEq, n1, n2, n3, n4, n5, n6, d5, d6, d7, splice] <;> (try rfl)
 | true =>
  obtain ⟨rfl, rfl⟩ := e2' rfl
  simp [callFnW, ir_syntax_parser_axiom, hN, e1, e3, e4, h1, encTok, find, keyK, keyEq, n1, n2, n3, n4, n5, n6, d5, d6, d7, splice]
  try rfl
end
end Go.Ai.Z
namespace Go.Ai.Z
section
variable {T : List Tok} {l : Nat} {S : Nat → St} {N : Nat}
variable (hE : PEnv T (mapV l) S l N)
include hE
set_option maxHeartbeats 2000000 in
theorem p_axiom_beg {i i1 i2 j : Nat} {bo bp : Bool} (y : Ax) (cx : Ctx) (hl : cx.lim ≤ l)
  (e1 : acallW P0 (.fn (.func F_syntax_parser_skip) [] []) [.pt l 0, .s openW] (S i) ⟨cx.lim, N⟩ = .ret (.b bo) (S i1))
  (e2 : bo = false → acallW P0 (.fn (.func F_syntax_parser_skip) [] []) [.pt l 0, .s privW] (S i1) ⟨cx.lim, N⟩ = .ret (.b bp) (S i2)) (e2' : bo = true → i2 = i1 ∧ bp = false)
  {w : List UInt8} {f : Nat} (hw : begF w f y.kind) {a : Nat} (ht : T[i2]? = some (1, w, a))
  (e3 : acallW P0 (.fn (.func f) [.pt l 0] []) [] (S (i2 + 1)) ⟨cx.lim, N⟩ = .ret (encA y) (S j)) :
  acallW P0 (.fn (.func F_syntax_parser_axiom) [] []) [.pt l 0] (S i) cx = .ret (encA { y with op := if y.kind = 5 ∨ y.kind = 6 ∨ y.kind = 7 then !bp else bo }) (S j) := by
 have e4 := c_token T hE.len i2 _ (S i2) l (hE.cell i2) 1 w a ht
 have h1 := hE.cell i2
 have hs := hE.sets i2 (i2 + 1)
 have hN := hE.n
 have hlt : i2 < T.length := (List.getElem?_eq_some_iff.1 ht).1
 have hlen := hE.len
 have hwi := wI (i := i2) (by omega)
 simp only [openW, privW] at e1 e2
 refine go_syntax_parser_axiom (by simp) ?_
 unfold psO mapV at h1 hs
 rw [show ((i2 + 1 : Nat) : Int) = (i2 : Int) + 1 by omega] at hs
 cases bo with
 | true =>
  obtain ⟨rfl, rfl⟩ := e2' rfl
  clear e2 e2'
  rcases hw with ⟨rfl, rfl, k⟩ | ⟨rfl, rfl, k⟩ | ⟨rfl, rfl, k⟩ | ⟨rfl, rfl, k⟩ | ⟨rfl, rfl, k⟩ | ⟨rfl, rfl, k⟩
  all_goals
   have d5 := dk 5 k
   have d6 := dk 6 k
   have d7 := dk 7 k
   simp only [pk 5 k, pk 6 k, pk 7 k]
   simp only [domW, roleW, chainW, reflW, typeW, linkW] at e4
   simp [callFnW, ir_syntax_parser_axiom, hN, e1, e3, e4, h1, hs, hwi, hl, encTok, find, keyK, keyEq, d5, d6, d7, splice]
   try rfl
 | false =>
  have e2 := e2 rfl
  clear e2'
  cases bp
  all_goals
  rcases hw with ⟨rfl, rfl, k⟩ | ⟨rfl, rfl, k⟩ | ⟨rfl, rfl, k⟩ | ⟨rfl, rfl, k⟩ | ⟨rfl, rfl, k⟩ | ⟨rfl, rfl, k⟩
  all_goals
   have d5 := dk 5 k
   have d6 := dk 6 k
   have d7 := dk 7 k
   simp only [pk 5 k, pk 6 k, pk 7 k]
   simp only [domW, roleW, chainW, reflW, typeW, linkW] at e4
   simp [callFnW, ir_syntax_parser_axiom, hN, e1, e2, e3, e4, h1, hs, hwi, hl, encTok, find, keyK, keyEq, d5, d6, d7, splice]
   try rfl
end
end Go.Ai.Z
namespace Go.Ai.Z
def HeadOK (l : List Tk) : Prop := ∃ x r, l = x :: r ∧ x.2 ∉ begs ∧ x.2 ≠ openW ∧ x.2 ≠ privW
theorem HeadOK.app {l m : List Tk} (h : HeadOK l) : HeadOK (l ++ m) := by
 obtain ⟨x, r, rfl, h1⟩ := h
 exact ⟨x, r ++ m, rfl, h1⟩
theorem head_name {k : Int} {t : List UInt8} {r : List Tk} (h : plainS t = true) : HeadOK ((k, t) :: r) := by
 have hn : ∀ w, kwS w = true → t ≠ w := fun w hw => name_ne h (.inl hw)
 refine ⟨_, _, rfl, ?_, hn _ (by decide), hn _ (by decide)⟩
 intro hm
 simp only [begs, List.mem_cons, List.not_mem_nil, or_false] at hm
 rcases hm with hm | hm | hm | hm | hm | hm <;> exact hn _ (by decide) hm
theorem head_ctk : ∀ c : C, walkS c = 0 → HeadOK (ctk c) := by
 refine C.ind' fun c ih h => ?_
 obtain ⟨v1, v2, v3⟩ := walk_ok h
 unfold namedS at v2
 rw [ctk_eq]
 rcases shape_kind v1 with k | k | k | k | ⟨k, k1, k2, k3⟩ | ⟨k, k1⟩ | ⟨k, k1⟩
 ·simp only [k, if_true]; exact ⟨_, _, rfl, by decide, by decide, by decide⟩
 ·simp [k]; exact ⟨_, _, rfl, by decide, by decide, by decide⟩
 ·simp [k] at v2
  simp [k]; exact head_name v2
 ·simp [k]; exact ⟨_, _, rfl, by decide, by decide, by decide⟩
 ·simp [k] at v2
  simp [k]; exact head_name v2
 ·simp [k]; exact ⟨_, _, rfl, by decide, by decide, by decide⟩
 ·rcases hps : c.parts with _ | ⟨a, r⟩
  ·rw [hps] at k1; simp at k1
  ·simp [k]
   rw [joinA_cons]
   refine HeadOK.app ?_
   unfold otk
   split
   ·exact ⟨_, _, rfl, by decide, by decide, by decide⟩
   ·exact ih a (by rw [hps]; simp) (v3 a (by rw [hps]; simp))
structure PlA (x : Ax) : Prop where
 l : x.kind = 1 ∨ x.kind = 2 ∨ x.kind = 3 → PlainC x.left
 r : x.kind = 1 ∨ x.kind = 2 ∨ x.kind = 3 ∨ x.kind = 4 ∨ x.kind = 8 → PlainC x.right
 a : x.kind = 8 ∨ x.kind = 9 → plainS x.a = true
 b : x.kind = 9 → plainS x.b = true
theorem head_stat {x : Ax} (h : checkAS x = 0) : ∃ y r, statT x = y :: r ∧ y.2 ≠ openW ∧ y.2 ≠ privW := by
 have hg := good h
 unfold statT
 rcases hg.k with k | k | k | k | k | k | k | k | k
 ·obtain ⟨y, r, e, h1, h2, h3⟩ := (head_ctk x.left (hg.l (by omega))); simp [k, e]; exact ⟨h2, h3⟩
 ·obtain ⟨y, r, e, h1, h2, h3⟩ := (head_ctk x.left (hg.l (by omega))); simp [k, e]; exact ⟨h2, h3⟩
 ·obtain ⟨y, r, e, h1, h2, h3⟩ := (head_ctk x.left (hg.l (by omega))); simp [k, e]; exact ⟨h2, h3⟩
 all_goals simp [k, wT]; decide
section
variable {T : List Tok} {l : Nat} {S : Nat → St} {N : Nat}
variable (hE : PEnv T (mapV l) S l N)
include hE
theorem p_prefix {x : Ax} (h : checkAS x = 0) {i : Nat} {R : List Tk} (hA : At T i (axT x ++ R)) (cx : Ctx) (hl : cx.lim ≤ l) : ∃ (i1 i2 : Nat) (bo bp : Bool),
  acallW P0 (.fn (.func F_syntax_parser_skip) [] []) [.pt l 0, .s openW] (S i) cx = .ret (.b bo) (S i1) ∧
  (bo = false → acallW P0 (.fn (.func F_syntax_parser_skip) [] []) [.pt l 0, .s privW] (S i1) cx = .ret (.b bp) (S i2)) ∧ (bo = true → i2 = i1 ∧ bp = false) ∧
  i2 + (statT x).length = i + (axT x).length ∧ At T i2 (statT x ++ R) ∧ (if x.kind = 5 ∨ x.kind = 6 ∨ x.kind = 7 then !bp else bo) = x.op ∧ (¬ (x.kind = 5 ∨ x.kind = 6 ∨ x.kind = 7) → bo = x.op) := by
 obtain ⟨y, r, e, h2, h3⟩ := head_stat h
 unfold axT at hA ⊢
 by_cases hk : x.kind = 5 ∨ x.kind = 6 ∨ x.kind = 7
 ·rw [if_pos hk] at hA ⊢
  by_cases ho : x.op = true
  ·rw [if_pos ho] at hA ⊢
   have hA' := hA
   rw [e] at hA'
   exact ⟨i, i, false, false, p_skip_no hE hA' _ h2 cx, fun _ => p_skip_no hE hA' _ h3 cx, fun hb => (by cases hb), rfl, hA, by simp [hk, ho], fun hn => absurd hk hn⟩
  ·rw [if_neg ho] at hA ⊢
   have hA' : At T i (wT privW :: (statT x ++ R)) := hA
   exact ⟨i, i + 1, false, true, p_skip_no hE hA' _ (by decide) cx, fun _ => p_skip_yes hE hA' cx hl, fun hb => (by cases hb), by simp; omega, hA'.head.2, by simp [hk, ho], fun hn => absurd hk hn⟩
 ·rw [if_neg hk] at hA ⊢
  by_cases ho : x.op = true
  ·rw [if_pos ho] at hA ⊢
   have hA' : At T i (wT openW :: (statT x ++ R)) := hA
   exact ⟨i + 1, i + 1, true, false, p_skip_yes hE hA' cx hl, fun hb => (by cases hb), fun _ => ⟨rfl, rfl⟩, by simp; omega, hA'.head.2, by simp [hk, ho], fun _ => ho.symm⟩
  ·rw [if_neg ho] at hA ⊢
   have hA' := hA
   rw [e] at hA'
   exact ⟨i, i, false, false, p_skip_no hE hA' _ h2 cx, fun _ => p_skip_no hE hA' _ h3 cx, fun hb => (by cases hb), rfl, hA, by simp [hk, ho], fun _ => by simpa using ho⟩
theorem p_axiom (x : Ax) (h : checkAS x = 0) (hp : PlA x) {i : Nat} {R : List Tk} (hA : At T i (axT x ++ R)) (hR : Hd R inB) (hR2 : Hd R andW) (cx : Ctx) (hl : cx.lim ≤ l) :
  acallW P0 (.fn (.func F_syntax_parser_axiom) [] []) [.pt l 0] (S i) cx = .ret (encA (pcA x)) (S (i + (axT x).length)) := by
 obtain ⟨i1, i2, bo, bp, e1, e2, e2', hlen, hA2, hop, hop2⟩ := p_prefix hE h hA ⟨cx.lim, N⟩ hl
 rw [← hlen]
 have hg := good h
 obtain ⟨hn, hb⟩ := named_of h
 have inc : ∀ (w : List UInt8), midK w x.kind → (x.kind = 1 ∨ x.kind = 2 ∨ x.kind = 3) → statT x = ctk x.left ++ wT w :: ctk x.right →
   acallW P0 (.fn (.func F_syntax_parser_axiom) [] []) [.pt l 0] (S i) cx = .ret (encA (pcA x)) (S (i2 + (statT x).length)) := by
  intro w hw hk hs
  have hc := (parses x.left (hg.l (by omega)) (hp.l (by omega))).2
  have hd := (parses x.right (hg.r (by omega)) (hp.r (by omega))).2
  rw [hs] at hA2 ⊢
  rw [List.append_assoc] at hA2
  have hA3 := hA2
  obtain ⟨y, r, e, h1, h2, h3⟩ := (head_ctk x.left (hg.l (by omega)))
  rw [e] at hA3
  obtain ⟨⟨a, ha⟩, -⟩ := hA3.head
  have e3 := p_inclusion hE hw hc hd hA2 hR hR2 ⟨cx.lim, N⟩ hl
  have := p_axiom_inc hE ⟨x.kind, false, pcC x.left, pcC x.right, true, [], [], [], []⟩ hk cx hl e1 e2 e2' ha h1 e3
  rw [this, hop2 (by omega)]
  have e5 : pcA x = ⟨x.kind, x.op, pcC x.left, pcC x.right, true, [], [], [], []⟩ := by unfold pcA; rw [hb.s (by omega), hb.role (by omega), hb.a (by omega), hb.b (by omega)]
  rw [e5]
  congr 2; simp; omega
 have beg : ∀ (w : List UInt8) (f : Nat) (y : Ax) (r : List Tk), begF w f y.kind → y.kind = x.kind → statT x = wT w :: r → (∀ b, { y with op := b } = { pcA x with op := b }) →
   (At T (i2 + 1) (r ++ R) → acallW P0 (.fn (.func f) [.pt l 0] []) [] (S (i2 + 1)) ⟨cx.lim, N⟩ = .ret (encA y) (S (i2 + 1 + r.length))) →
   acallW P0 (.fn (.func F_syntax_parser_axiom) [] []) [.pt l 0] (S i) cx = .ret (encA (pcA x)) (S (i2 + (statT x).length)) := by
  intro w f y r hw hyk hs hy hf
  rw [hs] at hA2 ⊢
  have hA3 : At T i2 (wT w :: (r ++ R)) := hA2
  obtain ⟨⟨a, ha⟩, h1⟩ := hA3.head
  have := p_axiom_beg hE y cx hl e1 e2 e2' hw ha (hf h1)
  rw [this, hy, hyk, hop]
  congr 2; simp; omega
 rcases hg.k with k | k | k | k | k | k | k | k | k
 ·exact inc subW (by simp [midK, k]) (by omega) (by simp [statT, k])
 ·exact inc sameW (by simp [midK, k]) (by omega) (by simp [statT, k])
 ·exact inc disjW (by simp [midK, k]) (by omega) (by simp [statT, k])
 ·refine beg domW F_syntax_parser_domain ⟨4, false, zC, pcC x.right, true, [], x.role, [], []⟩ (wT x.role :: ctk x.right) (by simp [begF]) k.symm (by simp [statT, k]) (fun b => ?_) (fun hA3 => ?_)
  ·unfold pcA; simp only [k, pc_empty (hb.l (by omega)), hb.s (by omega), hb.a (by omega), hb.b (by omega)]
  ·have := p_domain hE (hn.hr (by omega)) (parses x.right (hg.r (by omega)) (hp.r (by omega))).2 hA3 hR hR2 ⟨cx.lim, N⟩ hl
   rw [this]; congr 2; simp; omega
 ·have hr := hg.r5 k
  rcases hps : x.roles with _ | ⟨q, _ | ⟨b, r⟩⟩
  ·simp [hps] at hr
  ·refine beg roleW F_syntax_parser_role ⟨5, false, zC, zC, true, [q], x.role, [], []⟩ [wT q, wT subW, wT x.role] (by simp [begF]) k.symm (by simp [statT, k, hps]) (fun b => ?_) (fun hA3 => ?_)
   ·unfold pcA; simp only [k, pc_empty (hb.l (by omega)), pc_empty (hb.r (by omega)), hps, hb.a (by omega), hb.b (by omega)]
   ·exact p_role hE (hn.hs q (by rw [hps]; simp)) (hn.hr (by omega)) hA3 ⟨cx.lim, N⟩ hl
  ·simp [hps] at hr
 ·have hr := hg.r6 k
  rcases hps : x.roles with _ | ⟨p, _ | ⟨q, r⟩⟩
  ·simp [hps] at hr
  ·simp [hps] at hr
  ·refine beg chainW F_syntax_parser_chain ⟨6, false, zC, zC, true, p :: q :: r, x.role, [], []⟩ (wT p :: wT q :: (r.map wT ++ [wT subW, wT x.role])) (by simp [begF]) k.symm (by simp [statT, k, hps]) (fun b => ?_) (fun hA3 => ?_)
   ·unfold pcA; simp only [k, pc_empty (hb.l (by omega)), pc_empty (hb.r (by omega)), hps, hb.a (by omega), hb.b (by omega)]
   ·have := p_chain (rest := r) hE (hn.hs p (by rw [hps]; simp)) (hn.hs q (by rw [hps]; simp)) (fun y hy => hn.hs y (by rw [hps]; simp [hy])) (by simp [hps] at hr; omega) (hn.hr (by omega)) (R := R) (by simpa using hA3) ⟨cx.lim, N⟩ hl
    rw [this]; congr 2; simp; omega
 ·refine beg reflW F_syntax_parser_reflexive ⟨7, false, zC, zC, true, [], x.role, [], []⟩ [wT x.role] (by simp [begF]) k.symm (by simp [statT, k]) (fun b => ?_) (fun hA3 => ?_)
  ·unfold pcA; simp only [k, pc_empty (hb.l (by omega)), pc_empty (hb.r (by omega)), hb.s (by omega), hb.a (by omega), hb.b (by omega)]
  ·exact p_reflexive hE (hn.hr (by omega)) hA3 ⟨cx.lim, N⟩ hl
 ·refine beg typeW F_syntax_parser_typing ⟨8, false, zC, pcC x.right, true, [], [], x.a, []⟩ (wT x.a :: ctk x.right) (by simp [begF]) k.symm (by simp [statT, k]) (fun b => ?_) (fun hA3 => ?_)
  ·unfold pcA; simp only [k, pc_empty (hb.l (by omega)), hb.s (by omega), hb.role (by omega), hb.b (by omega)]
  ·have := p_typing hE (hp.a (by omega)) (parses x.right (hg.r (by omega)) (hp.r (by omega))).2 hA3 hR hR2 ⟨cx.lim, N⟩ hl
   rw [this]; congr 2; simp; omega
 ·refine beg linkW F_syntax_parser_link ⟨9, false, zC, zC, true, [], x.role, x.a, x.b⟩ [wT x.a, wT x.role, wT x.b] (by simp [begF]) k.symm (by simp [statT, k]) (fun b => ?_) (fun hA3 => ?_)
  ·unfold pcA; simp only [k, pc_empty (hb.l (by omega)), pc_empty (hb.r (by omega)), hb.s (by omega)]
  ·exact p_link hE (hp.a (by omega)) (hn.hr (by omega)) (hp.b k) hA3 ⟨cx.lim, N⟩ hl
end
end Go.Ai.Z
namespace Go.Ai.Z
theorem pc_bare : ∀ c : C, bareS (pcC c) = bareS c := by
 refine C.ind' fun c ih => ?_
 have h : ∀ l : List C, (∀ p ∈ l, bareS (pcC p) = bareS p) → bareSL (l.map pcC) = bareSL l := by
  intro l
  induction l with
  | nil => intro _; rfl
  | cons p r ih2 => intro h; simp only [List.map_cons, bareSL, h p (by simp), ih2 (fun q hq => h q (by simp [hq]))]
 rw [bareS_eq, bareS_eq c, pc_kind, pc_parts, h c.parts ih]
theorem pc_emptyS (c : C) : emptyS (pcC c) = emptyS c := by simp only [emptyS, pc_kind, pc_name, pc_lo, pc_hi, pc_parts, List.length_map]
theorem pcA_check (x : Ax) : checkAS (pcA x) = checkAS x := by
 have h1 : shapedS (pcA x) = shapedS x := by simp only [shapedS, kindOK, pcA, pc_emptyS]; rfl
 have h2 : ∀ u, namedU (pcA x) u = namedU x u := fun u => rfl
 unfold checkAS
 rw [h1]
 simp only [h2]
 simp only [pcA, pc_check, pc_bare]
theorem pcA_few {x : Ax} (h : x.Few) : (pcA x).Few := ⟨by simp only [pcA, pc_w]; exact h.l, by simp only [pcA, pc_w]; exact h.r, h.roles, h.rs, h.role, h.a, h.b⟩
theorem pcA_tidy (x : Ax) : tidyAx (pcA x) = tidyAx x := by
 have h : ∀ b c, sideN b (pcC c) = sideN b c := fun b c => by unfold sideN; rw [pc_tidy, nz_pcC]
 simp only [tidyAx, pcA, h]
 rfl
theorem axT_len {x : Ax} (hx : x.Few) (h : checkAS x = 0) : (axT x).length ≤ 5000 := by
 have hg := good h
 have h1 := ctk_len x.left
 have h2 := ctk_len x.right
 have hl := hx.l
 have hr := hx.r
 have h6 := hx.roles
 have : (statT x).length ≤ 4000 := by
  unfold statT
  rcases hg.k with k | k | k | k | k | k | k | k | k <;> simp [k] <;> omega
 unfold axT
 split <;> split <;> simp <;> omega
theorem underL_str (n : Nat) : ∀ l : List (List UInt8), underL n (l.map AV.s) = true
 | [] => by simp
 | a :: r => by simp [underL_str n r]
@[simp] theorem frz_tuA3 (S : St) (n : Nat) (d : Ax) (a e : Int) : frz S n (.tu [encA d, .i .i64 a, .i .i64 e]) = some (.tu [encA d, .i .i64 a, .i .i64 e]) := by
 have hu : (AV.tu [encA d, .i .i64 a, .i .i64 e]).under n = true := by rw [show encA d = .ag (cellsA d) from rfl, cellsA]; simp [-fold_encA, underL_str]
 rw [frz, if_pos hu]
end Go.Ai.Z
namespace Go.Ai.Z
theorem res_star {n : List UInt8} (h : resS n = true) : starB n = true := by
 unfold resS at h
 cases n with
 | nil => simp at h
 | cons b r =>
  by_cases hb : (b.toNat : Int) = 95
  ·simp [starB, hb]
  ·exfalso
   simp at h
   exact hb h.1.2
def plAB (x : Ax) : Bool := plB x.left && plB x.right && !starB x.a && !starB x.b
theorem pla_of {x : Ax} (h0 : checkAS x = 0) (h : plAB x = true) : PlA x := by
 have hg := good h0
 obtain ⟨hn, hb⟩ := named_of h0
 simp only [plAB, Bool.and_eq_true, Bool.not_eq_true'] at h
 obtain ⟨⟨⟨h1, h2⟩, h3⟩, h4⟩ := h
 have key : ∀ n, personS n = true → starB n = false → plainS n = true := by
  intro n hp hs
  unfold personS at hp
  rw [Bool.or_eq_true] at hp
  rcases hp with hp | hp
  ·exact hp
  ·rw [res_star hp] at hs; cases hs
 exact ⟨fun k => plain_of _ (hg.l k) h1, fun k => plain_of _ (hg.r k) h2, fun k => key _ (hn.ha k) h3, fun k => key _ (hn.hb k) h4⟩
theorem c_law04_plainAxiom (x : Ax) (hl : wC x.left ≤ 1000) (hr : wC x.right ≤ 1000) (s : St) (cx : Ctx) : acallW P0 (.fn (.func F_law04_plainAxiom) [] []) [encA x] s cx = .ret (.b (plAB x)) s := by
 have e1 := c_law04_plain x.left hl
 have e2 := c_law04_plain x.right hr
 refine go_law04_plainAxiom (by simp) ?_
 unfold plAB
 have f2 : ∀ v : Bool, (∃ b : Bool, b = v) := fun v => ⟨v, rfl⟩
 rcases Bool.eq_false_or_eq_true (plB x.left) with b1 | b1 <;> rcases Bool.eq_false_or_eq_true (plB x.right) with b2 | b2 <;> rw [b1] at e1 <;> rw [b2] at e2 <;> rw [b1, b2]
 ·cases ha : x.a with
  | nil =>
   cases hb : x.b with
   | nil => simp [callFnW, ir_law04_plainAxiom, e1, e2, starB, ha, hb]
   | cons b r =>
    have hlen : ¬ ((r.length : Int) + 1 = 0) := by omega
    have hlen2 : (0 : Int) < (r.length : Int) + 1 := by omega
    by_cases h95 : (b.toNat : Int) = 95 <;> simp [callFnW, ir_law04_plainAxiom, e1, e2, starB, ha, hb, hlen, hlen2, h95]
  | cons c q =>
   have hq : ¬ ((q.length : Int) + 1 = 0) := by omega
   have hq2 : (0 : Int) < (q.length : Int) + 1 := by omega
   by_cases g95 : (c.toNat : Int) = 95
   ·simp [callFnW, ir_law04_plainAxiom, e1, e2, starB, ha, hq, hq2, g95]
   ·cases hb : x.b with
    | nil => simp [callFnW, ir_law04_plainAxiom, e1, e2, starB, ha, hb, hq, hq2, g95]
    | cons b r =>
     have hlen : ¬ ((r.length : Int) + 1 = 0) := by omega
     have hlen2 : (0 : Int) < (r.length : Int) + 1 := by omega
     by_cases h95 : (b.toNat : Int) = 95 <;> simp [callFnW, ir_law04_plainAxiom, e1, e2, starB, ha, hb, hq, hq2, g95, hlen, hlen2, h95]
 ·simp [callFnW, ir_law04_plainAxiom, e1, e2]
 ·simp [callFnW, ir_law04_plainAxiom, e1]
 ·simp [callFnW, ir_law04_plainAxiom, e1]
theorem eqv_nzA {y y' : Ax} (h : nzA y = nzA y') : y.op = y'.op ∧ Eqv y y' := by
 simp only [nzA, Ax.mk.injEq] at h
 obtain ⟨h1, h2, h3, h4, -, h5, h6, h7, h8⟩ := h
 exact ⟨h2, h1, h3, h4, h5, h6, h7, h8⟩
end Go.Ai.Z
namespace Go.Ai
open Go.Ai.Z Go.ChangeShapes Go.WideShapes Go.WideElems
section
variable {H : Type} {enc : TypeId × Value → H} {P : Program} {W : World}
structure ATy (P : Program) (A L T S I Z B R : TypeId) : Prop extends CTy P T S I Z where
 uA : ∃ f0 f1 f2 f3 f4 f5 f6 f7 : Field, P.underlying A = some (.struct #[f0, f1, f2, f3, f4, f5, f6, f7]) ∧ (f0.type = I ∧ f0.offset = 0) ∧ (f1.type = B ∧ f1.offset = 1) ∧ (f2.type = T ∧ f2.offset = 2) ∧ (f3.type = T ∧ f3.offset = 7) ∧ (f4.type = R ∧ f4.offset = 12) ∧
  (f5.type = Z ∧ f5.offset = 13) ∧ (f6.type = Z ∧ f6.offset = 14) ∧ (f7.type = Z ∧ f7.offset = 15)
 uL : P.underlying L = some (.slice A)
 uB : P.underlying B = some .bool
 uR : P.underlying R = some (.slice Z)
 cA : P.cellsOf A = 16
 cB : P.cellsOf B = 1
 cR : P.cellsOf R = 1
 bA : 0 < P.bytesOf A
 bZ : 0 < P.bytesOf Z
theorem cr_axiom {A L T S I Z B R : TypeId} (ty : ATy P A L T S I Z B R) (fuel : Nat) (cs : List Value) (x : DataW H × List MemPlace) (h : DataW.trod enc P W 0 (fun _ => true) true fuel A cs = some x) (hl : Light P A x.1) :
  ∃ c : Ax, c.Ok ∧ CellsRep W cs (encA c).cells := by
 obtain ⟨f0, f1, f2, f3, f4, f5, f6, f7, hu, ⟨t0, o0⟩, ⟨t1, o1⟩, ⟨t2, o2⟩, ⟨t3, o3⟩, ⟨t4, o4⟩, ⟨t5, o5⟩, ⟨t6, o6⟩, ⟨t7, o7⟩⟩ := ty.uA
 obtain ⟨xs, n, rfl, rfl, hlen, hxl, hfs⟩ := DataW.trod_struct hu h
 rw [ty.cA] at hlen
 obtain ⟨v0, v1, v2, v3, v4, v5, v6, v7, v8, v9, v10, v11, v12, v13, v14, v15, rfl⟩ : ∃ v0 v1 v2 v3 v4 v5 v6 v7 v8 v9 v10 v11 v12 v13 v14 v15, cs = [v0, v1, v2, v3, v4, v5, v6, v7, v8, v9, v10, v11, v12, v13, v14, v15] := by
  match cs, hlen with
  | [v0, v1, v2, v3, v4, v5, v6, v7, v8, v9, v10, v11, v12, v13, v14, v15], _ => exact ⟨v0, v1, v2, v3, v4, v5, v6, v7, v8, v9, v10, v11, v12, v13, v14, v15, rfl⟩
 obtain ⟨x0, x1, x2, x3, x4, x5, x6, x7, rfl⟩ : ∃ x0 x1 x2 x3 x4 x5 x6 x7, xs = [x0, x1, x2, x3, x4, x5, x6, x7] := by
  match xs, hxl with
  | [v0, v1, v2, v3, v4, v5, v6, v7], _ => exact ⟨v0, v1, v2, v3, v4, v5, v6, v7, rfl⟩
 have h0 := hfs 0 f0 rfl
 have h1 := hfs 1 f1 rfl
 have h2 := hfs 2 f2 rfl
 have h3 := hfs 3 f3 rfl
 have h4 := hfs 4 f4 rfl
 have h5 := hfs 5 f5 rfl
 have h6 := hfs 6 f6 rfl
 have h7 := hfs 7 f7 rfl
 simp [t0, o0, ty.cI] at h0
 simp [t1, o1, ty.cB] at h1
 simp [t2, o2, ty.cT] at h2
 simp [t3, o3, ty.cT] at h3
 simp [t4, o4, ty.cR] at h4
 simp [t5, o5, ty.cZ] at h5
 simp [t6, o6, ty.cZ] at h6
 simp [t7, o7, ty.cZ] at h7
 have hw : ∀ y, (y ∈ x2.1.weights P T ∨ y ∈ x3.1.weights P T ∨ y ∈ x4.1.weights P R ∨ y ∈ x5.1.weights P Z ∨ y ∈ x6.1.weights P Z ∨ y ∈ x7.1.weights P Z) → y ≤ reachBytes := by
  intro y hy
  apply hl y
  simp only [DataW.weights, hu, List.map_cons, List.map_nil, DataW.weightsEach, t0, t1, t2, t3, t4, t5, t6, t7, List.mem_append]
  rcases hy with hy | hy | hy | hy | hy | hy <;> simp [DataW.weightsEach, t2, t3, t4, t5, t6, t7, hy]
 obtain ⟨k, k1, k2, ⟨r0, a0⟩⟩ := cr_int ty.uI h0
 obtain ⟨op, ⟨r1, a1⟩⟩ := cr_bool ty.uB h1
 obtain ⟨cl, okl, ⟨r2, a2⟩⟩ := cr_concept ty.toCTy _ _ _ h2 (fun y hy => hw y (.inl hy))
 obtain ⟨cr, okr, ⟨r3, a3⟩⟩ := cr_concept ty.toCTy _ _ _ h3 (fun y hy => hw y (.inr (.inl hy)))
 obtain ⟨es, q1, q2, ⟨r4, a4⟩⟩ := cr_slice ty.uR ty.cZ (by omega) ty.bZ (fun a => ∃ l : List UInt8, a = .s l ∧ l.length ≤ reachBytes) h4 (fun y hy => hw y (.inr (.inr (.inl hy)))) (fun m hm cs y hy hly => by
  obtain ⟨l, hl1, hr⟩ := cr_str ty.uZ hy hly
  exact ⟨.s l, ⟨l, rfl, hl1⟩, rfl, hr⟩)
 obtain ⟨ro, ro1, ⟨r5, a5⟩⟩ := cr_str ty.uZ h5 (fun y hy => hw y (.inr (.inr (.inr (.inl hy)))))
 obtain ⟨aa, aa1, ⟨r6, a6⟩⟩ := cr_str ty.uZ h6 (fun y hy => hw y (.inr (.inr (.inr (.inr (.inl hy))))))
 obtain ⟨bb, bb1, ⟨r7, a7⟩⟩ := cr_str ty.uZ h7 (fun y hy => hw y (.inr (.inr (.inr (.inr (.inr hy))))))
 obtain ⟨rs, rfl, hrs⟩ := list_enc q1
 have hb : reachBytes ≤ 1125899906842624 := by decide
 simp only [List.length_map] at q2
 refine ⟨⟨k, op, cl, cr, false, rs, ro, aa, bb⟩, ⟨okl, okr, by simp; omega, fun r hr => by have := hrs r (by simpa using hr); omega, by simp; omega, by simp; omega, by simp; omega⟩, ?_, fun v hv => ?_⟩
 ·have e : (encA ⟨k, op, cl, cr, false, rs, ro, aa, bb⟩).cells = [.i .i64 k] ++ ([.b op] ++ ((encC cl).cells ++ ((encC cr).cells ++ ([.sl (rs.map .s)] ++ ([.s ro] ++ ([.s aa] ++ [.s bb])))))) := by simp
  rw [e]
  exact r0.append (r1.append (r2.append (r3.append (r4.append (r5.append (r6.append r7))))))
 ·simp only [List.mem_cons, List.not_mem_nil, or_false] at hv
  rcases hv with rfl | rfl | rfl | rfl | rfl | rfl | rfl | rfl | rfl | rfl | rfl | rfl | rfl | rfl | rfl | rfl
  ·exact a0 _ (by simp)
  ·exact a1 _ (by simp)
  ·exact a2 _ (by simp)
  ·exact a2 _ (by simp)
  ·exact a2 _ (by simp)
  ·exact a2 _ (by simp)
  ·exact a2 _ (by simp)
  ·exact a3 _ (by simp)
  ·exact a3 _ (by simp)
  ·exact a3 _ (by simp)
  ·exact a3 _ (by simp)
  ·exact a3 _ (by simp)
  ·exact a4 _ (by simp)
  ·exact a5 _ (by simp)
  ·exact a6 _ (by simp)
  ·exact a7 _ (by simp)
theorem rep_axioms {A L T S I Z B R : TypeId} (ty : ATy P A L T S I Z B R) {r : Go.Reach} {b0 : Nat} {v : Value} {d : DataW H} {p : List MemPlace} (hok : Value.okWide P W r b0 L v) (h : DataW.Trod enc P W 0 (fun _ => true) true L v d p) (hl : Light P L d) :
  ∃ l : List Ax, l.length ≤ 1125899906842624 ∧ (∀ x ∈ l, x.Ok) ∧ Rep (g0 W) 0 v (slf false (l.map encA)) := by
 obtain ⟨a, len, cap, rfl⟩ := okWide_slice ty.uL hok
 obtain ⟨fuel, hf⟩ := h
 simp only [Value.cells] at hf
 obtain ⟨es, q1, q2, ⟨r4, a4⟩⟩ := cr_slice ty.uL ty.cA (by omega) ty.bA (fun a => ∃ c, a = encA c ∧ c.Ok) hf hl (fun m hm cs y hy hly => by
  obtain ⟨c, hc, hr⟩ := cr_axiom ty m cs y hy hly
  exact ⟨encA c, ⟨c, rfl, hc⟩, by simp, hr⟩)
 obtain ⟨l, rfl, hx⟩ := list_enc q1
 have hb : reachBytes ≤ 1125899906842624 := by decide
 simp only [List.length_map] at q2
 exact ⟨l, by omega, hx, by rw [slf_false]; exact r4.head⟩
end
end Go.Ai
