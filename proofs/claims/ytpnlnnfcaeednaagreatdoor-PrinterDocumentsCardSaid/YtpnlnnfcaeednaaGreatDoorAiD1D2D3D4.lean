/-
 A printed document: its tokens and its length.
-/
import Derived.Test.YtpnlnnfcaeednaaGreatDoorAiU3U4U5U6U7U8Top4
import Derived.Test.YtpnlnnfcaeednaaGreatDoorAiK13K14K15K16
set_option maxRecDepth 100000
set_option linter.unusedSimpArgs false
set_option linter.unusedVariables false
set_option linter.unusedSectionVars false
namespace Go.Ai.Z
open Go.Lib (itoa decDigits)
open Go.Ai.Inj
theorem itoa_len14 {n : Int} (h1 : -1099511627776 ≤ n) (h2 : n ≤ 1099511627776) : (itoa n).length ≤ 14 := by
 have key : ∀ (k : Nat) (u : Nat), u < 10 ^ (k + 1) → (decDigits u).length ≤ k + 1 := by
  intro k
  induction k with
  | zero => intro u hu; rw [dec_small (by simpa using hu)]; simp
  | succ k ih =>
   intro u hu
   by_cases h10 : u < 10
   ·rw [dec_small h10]; simp
   ·rw [dec_big h10]
    have := ih (u / 10) (by rw [Nat.pow_succ] at hu; omega)
    simp; omega
 unfold itoa
 split
 ·have := key 12 n.natAbs (by omega); simp; omega
 ·have := key 12 n.toNat (by omega); omega
theorem op_len8 : ∀ c : C, walkS c = 0 → 8 * (opS c).length ≤ 457 * sizeC c + 23 := by
 refine C.ind' fun c ih hv => ?_
 obtain ⟨v1, v2, v3⟩ := walk_ok hv
 have hs := sizeC_eq c
 have iho : ∀ p ∈ c.parts, 8 * (opS p).length ≤ 457 * sizeC p + 23 := fun p hp => ih p hp (v3 p hp)
 unfold namedS at v2
 have pl : ∀ {n : List UInt8}, plainS n = true → n.length ≤ 24 := by
  intro n h; unfold plainS at h; rw [Bool.and_eq_true] at h; simpa using h.1
 have rl : ∀ {n : List UInt8}, resS n = true → n.length ≤ 24 := by
  intro n h; unfold resS at h; simp only [Bool.and_eq_true, decide_eq_true_eq] at h; exact h.1.1.2
 unfold opS
 rw [textS_eq]
 rcases shape_kind v1 with k | k | k | k | ⟨k, k1, k2, k3⟩ | ⟨k, k1⟩ | ⟨k, k1⟩
 ·simp [k]; omega
 ·simp [k]; omega
 ·simp [k] at v2
  have := pl v2
  simp [k]; omega
 ·simp [k] at v2
  have : c.name.length ≤ 24 := by rcases v2 with h | h; exact pl h; exact rl h
  simp [k]; omega
 ·simp [k] at v2
  have := pl v2
  have l1 := itoa_len14 (n := c.lo) (by omega) (by omega)
  have l2 := itoa_len14 (n := c.hi) (by omega) (by omega)
  simp [k]; omega
 ·simp [k] at v2
  have := pl v2
  rcases hps : c.parts with _ | ⟨a, _ | ⟨b, r⟩⟩
  ·simp [hps] at k1
  ·have h1 := iho a (by rw [hps]; simp)
   rw [hps] at hs
   simp only [sizeL] at hs
   simp [k]; omega
  ·simp [hps] at k1
 ·have k8 : c.parts.length ≤ 8 := by unfold shapeS at v1; simp [k] at v1; omega
  have hsum : 8 * ((c.parts.map opS).map fun x => x.length + andB.length).sum ≤ 457 * sizeL c.parts + 63 * c.parts.length := by
   clear hs ih v1 v2 v3 k k1 k8 hv
   generalize c.parts = l at iho
   induction l with
   | nil => simp
   | cons a r ih2 =>
    have h1 := iho a (by simp)
    have h2 := ih2 (fun p hp => iho p (by simp [hp]))
    simp only [List.map_cons, List.sum_cons, sizeL, List.length_cons, andB] at h2 ⊢
    simp at h2 ⊢
    omega
  have hj : (joinL andB (c.parts.map opS)).length + 5 ≤ ((c.parts.map opS).map fun x => x.length + andB.length).sum := by
   cases hps : c.parts with
   | nil => rw [hps] at k1; simp at k1
   | cons x r =>
    simp only [List.map_cons, joinL, List.length_append, List.length_flatMap, List.sum_cons]
    have : ((r.map opS).map fun y => andB.length + y.length) = (r.map opS).map fun x => x.length + andB.length := by
     apply List.map_congr_left; intro y _; omega
    rw [this]
    simp [andB]; omega
  simp [k]; omega
theorem text_le (c : C) : (textS c).length ≤ (opS c).length := by unfold opS; split <;> simp; omega
theorem side_len {c : C} (h : checkS c = 0) : (textS c).length ≤ 3659 := by
 have h1 := op_len8 c (walk_of h)
 have h2 := text_le c
 have h3 : sizeC c ≤ 64 := by unfold checkS at h; split at h; cases h; omega
 omega
theorem sides_ok {x : Ax} (h : checkAS x = 0) : ((useS x.kind).l = true → checkS x.left = 0) ∧ ((useS x.kind).r = true → checkS x.right = 0) := by
 unfold checkAS at h
 split at h
 ·cases h
 split at h
 ·cases h
 unfold tailK at h
 split at h
 ·rename_i hc; exact absurd h hc.2
 split at h
 ·rename_i hc; exact absurd h hc.2
 rename_i h1 h2
 exact ⟨fun hl => by by_cases hz : checkS x.left = 0; exact hz; exact absurd ⟨hl, hz⟩ h1, fun hr => by by_cases hz : checkS x.right = 0; exact hz; exact absurd ⟨hr, hz⟩ h2⟩
theorem ax_len2 {x : Ax} (h : checkAS x = 0) : (axS x).length ≤ 7400 := by
 obtain ⟨hl, hr⟩ := sides_ok h
 have hg := good h
 obtain ⟨hn, _⟩ := named_of h
 have pl : ∀ {n : List UInt8}, plainS n = true → n.length ≤ 24 := by
  intro n h; unfold plainS at h; rw [Bool.and_eq_true] at h; simpa using h.1
 have rl : ∀ {n : List UInt8}, personS n = true → n.length ≤ 24 := by
  intro n h; unfold personS at h; rw [Bool.or_eq_true] at h
  rcases h with h | h
  ·exact pl h
  ·unfold resS at h; simp only [Bool.and_eq_true, decide_eq_true_eq] at h; exact h.1.1.2
 have hs : (statS x).length ≤ 7380 := by
  unfold statS
  rcases hg.k with k | k | k | k | k | k | k | k | k
  ·have a := side_len (hl (by rw [k]; rfl)); have b := side_len (hr (by rw [k]; rfl)); simp [k]; omega
  ·have a := side_len (hl (by rw [k]; rfl)); have b := side_len (hr (by rw [k]; rfl)); simp [k]; omega
  ·have a := side_len (hl (by rw [k]; rfl)); have b := side_len (hr (by rw [k]; rfl)); simp [k]; omega
  ·have b := side_len (hr (by rw [k]; rfl)); have a := pl (hn.hr (by omega)); simp [k]; omega
  ·have a := pl (hn.hr (by omega))
   have hr5 := hg.r5 k
   rcases hps : x.roles with _ | ⟨q, _ | ⟨b, r⟩⟩
   ·simp [hps] at hr5
   ·have := pl (hn.hs q (by rw [hps]; simp)); simp [k]; omega
   ·simp [hps] at hr5
  ·have a := pl (hn.hr (by omega))
   have h4 := hg.r6 k
   have hfl : (x.roles.flatMap fun r => 32 :: r).length ≤ x.roles.length * 25 := by
    have hs := hn.hs
    generalize x.roles = l at hs
    clear hl hr hg hn a h4 h
    induction l with
    | nil => simp
    | cons q r ih2 =>
     have h1 := pl (hs q (by simp))
     have h2 := ih2 (fun p hp => hs p (by simp [hp]))
     simp only [List.flatMap_cons, List.length_append, List.length_cons] at h2 ⊢
     omega
   generalize (x.roles.flatMap fun r => 32 :: r) = fl at hfl ⊢
   simp [k]; omega
  ·have a := pl (hn.hr (by omega)); simp [k]; omega
  ·have b := side_len (hr (by rw [k]; rfl)); have a := rl (hn.ha (by omega)); simp [k]; omega
  ·have a := pl (hn.hr (by omega)); have b := rl (hn.ha (by omega)); have c := rl (hn.hb (by omega)); simp [k]; omega
 unfold axS; split <;> split <;> simp <;> omega
theorem doc_len : ∀ {l : List Ax}, (∀ x ∈ l, checkAS x = 0) → (docB l).length ≤ 7402 * l.length
 | [], _ => by simp [docB]
 | x :: r, h => by
  have h1 := ax_len2 (h x (by simp))
  have h2 := doc_len (l := r) (fun y hy => h y (by simp [hy]))
  rw [docB_cons]
  simp; omega
theorem lex_tok {x : Tk} (hk : x.1 ≠ 0) (hne : x.2 ≠ []) (hb0 : ∀ c r, x.2 = c :: r → clsB c ≠ 1 ∧ clsB c ≠ 2) {ws u : List UInt8} (hw : ∀ b ∈ ws, blkB b = true) (hsc : scanS (x.2 ++ u) = (x.1, x.2.length)) (n a : Nat) :
  ∃ a1 a2, lexN (n + 1) (ws ++ (x.2 ++ u)) a = (lexN n u a2).map ((x.1, x.2, a1) :: ·) := by
 obtain ⟨c, q, e⟩ : ∃ c q, x.2 = c :: q := by
  cases hc : x.2 with
  | nil => exact absurd hc hne
  | cons c q => exact ⟨c, q, rfl⟩
 obtain ⟨b1, b2⟩ := hb0 c q e
 have hd : (ws ++ (x.2 ++ u)).dropWhile blkB = c :: (q ++ u) := by
  have hb : blkB c = false := by simp [blkB, b1]
  have h0 : (x.2 ++ u).dropWhile blkB = c :: (q ++ u) := by rw [e, List.cons_append, List.dropWhile_cons, hb]; simp
  clear hsc
  induction ws with
  | nil => exact h0
  | cons b ws ih => rw [List.cons_append, List.dropWhile_cons, hw b (by simp), if_pos rfl]; exact ih (fun y hy => hw y (by simp [hy]))
 have hsc' : scanS (c :: (q ++ u)) = (x.1, x.2.length) := by rw [← List.cons_append, ← e]; exact hsc
 have hdr : (c :: (q ++ u)).drop x.2.length = u := by rw [← List.cons_append, ← e]; exact List.drop_left
 have htk : (c :: (q ++ u)).take x.2.length = x.2 := by rw [← List.cons_append, ← e]; exact List.take_left
 refine ⟨a + ((ws ++ (x.2 ++ u)).length - (c :: (q ++ u)).length), a + ((ws ++ (x.2 ++ u)).length - (c :: (q ++ u)).length) + x.2.length, ?_⟩
 rw [lexN, hd]
 simp only [b2, if_false, hsc', hk, hdr, htk]
def Reads (n : Nat) (u : List UInt8) (M : List Tk) : Prop := ∀ a, ∃ res : List Tok, lexN n u a = some res ∧ res.map (fun t => (t.1, t.2.1)) = M
theorem Reads.tok {n : Nat} {u : List UInt8} {M : List Tk} (h : Reads n u M) {x : Tk} (hk : x.1 ≠ 0) (hne : x.2 ≠ []) (hb0 : ∀ c r, x.2 = c :: r → clsB c ≠ 1 ∧ clsB c ≠ 2) {ws : List UInt8} (hw : ∀ b ∈ ws, blkB b = true) (hsc : scanS (x.2 ++ u) = (x.1, x.2.length)) :
  Reads (n + 1) (ws ++ (x.2 ++ u)) (x :: M) := by
 intro a
 obtain ⟨a1, a2, e⟩ := lex_tok hk hne hb0 hw hsc n a
 obtain ⟨res, h1, h2⟩ := h a2
 exact ⟨(x.1, x.2, a1) :: res, by rw [e, h1]; rfl, by simp [h2]⟩
theorem Reads.nl {n : Nat} {u : List UInt8} {M : List Tk} (h : Reads n u M) : Reads n (10 :: u) M := by
 intro a
 obtain ⟨res, h1, h2⟩ := h (a + 1)
 refine ⟨res, ?_, h2⟩
 cases n with
 | zero => simp [lexN] at h1
 | succ n =>
  have hd : (10 :: u).dropWhile blkB = u.dropWhile blkB := by rw [List.dropWhile_cons, show blkB 10 = true by decide, if_pos rfl]
  have hl := (List.dropWhile_sublist (p := blkB) (l := u)).length_le
  rw [← h1, lexN, lexN, hd]
  cases hx : u.dropWhile blkB with
  | nil => simp; omega
  | cons c r =>
   rw [hx] at hl
   have e : a + ((10 :: u).length - (c :: r).length) = a + 1 + (u.length - (c :: r).length) := by simp only [List.length_cons] at *; omega
   simp only [e]
theorem Reads.join : ∀ (l : List Tk) (p : Option (List UInt8)) {n : Nat} {u : List UInt8} {M : List Tk}, Reads n u M → Tail u → (∀ x ∈ l, IsTok x.1 x.2) → Reads (n + l.length) (joinT p l ++ u) (l ++ M)
 | [], p, n, u, M, h, _, _ => h
 | x :: r, p, n, u, M, h, hu, ht => by
  have hx := ht x (by simp)
  have hne : ∀ y ∈ r, y.2 ≠ [] := fun y hy => (ht y (by simp [hy])).ne
  have ih := Reads.join r (some x.2) h hu (fun y hy => ht y (by simp [hy]))
  have htl : Tail (joinT (some x.2) r ++ u) ∨ x.2 = [40] ∨ x.2 = [123] := by
   rcases tail_join x.2 r hne with h1 | h1
   ·left
    intro b q e
    cases hj : joinT (some x.2) r with
    | nil => rw [hj] at e; exact hu b q e
    | cons c t => rw [hj] at e; obtain ⟨rfl, -⟩ := List.cons.inj e; exact h1 c t hj
   ·exact .inr h1
  have hsep : ∀ b ∈ sep p x.2, blkB b = true := by
   intro b hb
   unfold sep at hb
   split at hb
   ·cases hb
   ·split at hb
    ·cases hb
    ·have : b = 32 := by simpa using hb
     rw [this]; decide
  have := ih.tok hx.k0 hx.ne hx.b0 hsep (hx.sc _ htl)
  rw [List.length_cons, ← Nat.add_assoc]
  simpa [joinT] using this
def dotT : Tk := (3, [46])
def docT (l : List Ax) : List Tk := l.flatMap fun x => axT x ++ [dotT]
theorem doc_reads : ∀ {l : List Ax}, (∀ x ∈ l, checkAS x = 0) → Reads ((docT l).length + 1) (docB l) (docT l ++ [(4, [])])
 | [], _ => fun a => ⟨[(4, [], a)], by simp [docB, docT, lexN], rfl⟩
 | x :: r, h => by
  have ih := (doc_reads (l := r) (fun y hy => h y (by simp [hy]))).nl
  have hP := piece_axT (h x (by simp))
  have hjoin : joinT none (axT x) = axS x := by
   obtain ⟨f, e, _, _, _, _, hj⟩ := hP.join
   have := hj none []
   simpa [sep, joinT] using this
  have h1 := ih.tok (x := dotT) (by decide) (by decide) (fun c q e => by obtain ⟨rfl, -⟩ := List.cons.inj e; decide) (ws := []) (fun b hb => by cases hb) (by
   show scanS (46 :: 10 :: docB r) = (3, 1)
   rw [scan_cons, if_neg (by decide), if_neg (by decide), if_neg (by decide), if_pos (by decide)])
  have h2 := h1.join (axT x) none (fun b q e => by obtain ⟨rfl, -⟩ := List.cons.inj e; exact .inr (.inr (.inr rfl))) hP.tok
  rw [hjoin] at h2
  have e1 : docB (x :: r) = axS x ++ ([] ++ (dotT.2 ++ 10 :: docB r)) := by rw [docB_cons]; simp [dotT]
  have e2 : docT (x :: r) ++ [(4, [])] = axT x ++ (dotT :: (docT r ++ [(4, [])])) := by simp [docT]
  have e3 : (docT (x :: r)).length + 1 = (docT r).length + 1 + 1 + (axT x).length := by simp [docT]; omega
  rw [e1, e2, e3]
  exact h2
theorem docT_len : ∀ {l : List Ax}, (∀ x ∈ l, checkAS x = 0) → (∀ x ∈ l, x.Few) → (docT l).length ≤ 5001 * l.length
 | [], _, _ => by simp [docT]
 | x :: r, h, hf => by
  have h1 := axT_len (hf x (by simp)) (h x (by simp))
  have h2 := docT_len (l := r) (fun y hy => h y (by simp [hy])) (fun y hy => hf y (by simp [hy]))
  simp only [docT, List.flatMap_cons, List.length_append, List.length_cons, List.length_nil] at h2 ⊢
  omega
end Go.Ai.Z
namespace Go.Ai.Z
@[simp] theorem frz_tuI (S : St) (n : Nat) (d : Ax) (a e : Int) (b : Bool) : frz S n (.tu [encA d, .ag [.i .i64 a, .i .i64 e], .b b]) = some (.tu [encA d, .ag [.i .i64 a, .i .i64 e], .b b]) := by
 have hu : (AV.tu [encA d, .ag [.i .i64 a, .i .i64 e], .b b]).under n = true := by rw [show encA d = .ag (cellsA d) from rfl, cellsA]; simp [-fold_encA, underL_str]
 rw [frz, if_pos hu]
section
variable {T : List Tok} {l : Nat} {S : Nat → St} {N : Nat}
variable (hE : PEnv T (mapV l) S l N)
include hE
theorem PEnv.lt : l < N := by
 have := hE.cell 0
 rw [← hE.n 0]
 exact (List.getElem?_eq_some_iff.1 this).1
theorem PEnv.app (X : St) : PEnv T (mapV l) (fun j => S j ++ X) l (N + X.length) :=
 ⟨hE.len, fun j => by
  have h1 := hE.cell j
  have h2 := hE.lt
  show (S j ++ X)[l]? = _
  rw [List.getElem?_append_left (by rw [hE.n]; exact h2)]; exact h1, fun j k => by
  have h2 := hE.lt
  show (S j ++ X).set l _ = _
  rw [List.set_append_left _ _ (by rw [hE.n]; exact h2), hE.sets], fun j => by simp [hE.n]⟩
theorem p_item1 {x : Ax} (h : checkAS x = 0) (hp : PlA x) {i : Nat} {R : List Tk} (hA : At T i (axT x ++ dotT :: R)) (cx : Ctx) (hl : cx.lim ≤ l) (hb : cx.base ≤ N) :
  acallW P0 (.fn (.func F_syntax_parser_item_1) [] [.pt N 0, .pt (N + 1) 0]) [] (S i ++ [HObj.cells [.pt l 0], HObj.cells zAcs]) cx =
   .ret (.tu []) (S (i + (axT x).length + 1) ++ [HObj.cells [.pt l 0], HObj.cells (encA (pcA x)).cells]) := by
 have hlt := hE.lt
 have hE1 : PEnv T (mapV l) (fun j => S j ++ [HObj.cells [.pt l 0], HObj.cells zAcs]) l (N + 2) := hE.app _
 have hE2 : PEnv T (mapV l) (fun j => S j ++ [HObj.cells [.pt l 0], HObj.cells (encA (pcA x)).cells]) l (N + 2) := hE.app _
 have e1 := p_axiom hE1 x h hp hA ⟨_, _, rfl, by decide⟩ ⟨_, _, rfl, by decide⟩ ⟨cx.lim, cx.base⟩ hl
 have hA2 : At T (i + (axT x).length) (dotT :: R) := at_drop hA
 have e2 := p_want hE2 hA2 ⟨cx.lim, cx.base⟩ hl
 have g0 : ∀ j, (S j ++ [HObj.cells [.pt l 0], HObj.cells zAcs])[N]? = some (HObj.cells [.pt l 0]) := fun j => by rw [← hE.n j]; simp
 have g1 : ∀ j, (S j ++ [HObj.cells [.pt l 0], HObj.cells zAcs])[N + 1]? = some (HObj.cells zAcs) := fun j => by rw [← hE.n j]; simp
 have g2 : ∀ j cs, (S j ++ [HObj.cells [.pt l 0], HObj.cells cs])[N]? = some (HObj.cells [.pt l 0]) := fun j cs => by rw [← hE.n j]; simp
 have g3 : ∀ j cs, (S j ++ [HObj.cells [.pt l 0], HObj.cells zAcs]).set (N + 1) (HObj.cells cs) = S j ++ [HObj.cells [.pt l 0], HObj.cells cs] := fun j cs => by rw [← hE.n j]; simp
 have hl2 : cx.lim ≤ N + 1 := by omega
 have hb2 : cx.base ≤ N + 1 := by omega
 refine go_syntax_parser_item_1 (by simp) ?_
 generalize pcA x = y at *
 simp only [dotT] at e2
 simp only [zAcs] at g0 g1 g2 g3 e1
 simp at e2
 simp [callFnW, ir_syntax_parser_item_1, g0, g1, g2, e1, g3, hl2, hb2, zAcs, splice, e2]
theorem p_item {x y : Ax} (h : checkAS x = 0) (hp : PlA x) (hy : ∀ (s : St) (cx : Ctx), acallW P0 (.fn (.func F_terms_TidyAxiom) [] []) [encA (pcA x)] s cx = .ret (.tu [encA y, .i .i64 0]) s)
  {i : Nat} {R : List Tk} (hA : At T i (axT x ++ dotT :: R)) {t0 : Tok} (h0 : T[i]? = some t0) (cx : Ctx) (hl : cx.lim ≤ l) :
  acallW P0 (.fn (.func F_syntax_parser_item) [] []) [.pt l 0] (S i) cx = .ret (.tu [encA y, .ag [.i .i64 (t0.2.2 : Int), .i .i64 0], .b false]) (S (i + (axT x).length + 1)) := by
 have hlt := hE.lt
 have hN : ∀ j, (S j).length = N := hE.n
 have hE1 : PEnv T (mapV l) (fun j => S j ++ [HObj.cells [.pt l 0], HObj.cells zAcs]) l (N + 2) := hE.app _
 obtain ⟨k0, w0, a0⟩ := t0
 have e0 := c_token T hE.len i (mapV l) (S i ++ [HObj.cells [.pt l 0], HObj.cells zAcs]) l (hE1.cell i) k0 w0 a0 h0 ⟨cx.lim, N⟩
 have e1 := p_item1 hE h hp hA ⟨cx.lim, N⟩ hl (Nat.le_refl _)
 have e2 := c_try _ _ _ _ rfl _ _ _ _ e1
 have hl2 : cx.lim ≤ N + 1 := by omega
 have g0 : ∀ j cs, (S j ++ [HObj.cells [.pt l 0], HObj.cells cs])[N]? = some (HObj.cells [.pt l 0]) := fun j cs => by rw [← hE.n j]; simp
 have g1 : ∀ j cs, (S j ++ [HObj.cells [.pt l 0], HObj.cells cs])[N + 1]? = some (HObj.cells cs) := fun j cs => by rw [← hE.n j]; simp
 have g3 : ∀ j cs cs', (S j ++ [HObj.cells [.pt l 0], HObj.cells cs]).set (N + 1) (HObj.cells cs') = S j ++ [HObj.cells [.pt l 0], HObj.cells cs'] := fun j cs cs' => by rw [← hE.n j]; simp
 have g4 : ∀ j X, (S j ++ X).take N = S j := fun j X => by rw [← hE.n j]; simp
 refine go_syntax_parser_item (by simp) ?_
 generalize pcA x = z at *
 simp only [zAcs] at e0 e2
 simp at e2
 simp [callFnW, ir_syntax_parser_item, hN, g0, g1, g3, e0, e2, hl2, splice, encTok, hy, fillC, g4]
end
end Go.Ai.Z
namespace Go.Ai.Z
theorem scan_kind (b : List UInt8) : (scanS b).1 ≠ 4 := by
 cases b with
 | nil => simp [scanS]
 | cons c r =>
  have hi : ∀ b n, (intTok b n).1 ≠ 4 := by intro b n; unfold intTok; split <;> simp
  rw [scan_cons]
  split
  ·split
   ·split <;> simp
   ·simp
  ·split
   ·split
    ·simp
    ·split
     ·simp
     ·split
      ·exact hi _ _
      ·simp
   ·split
    ·exact hi _ _
    ·split <;> simp
theorem IsTok.kind {k : Int} {t : List UInt8} (h : IsTok k t) : k ≠ 4 := by
 have h1 := h.sc [] (.inl (fun b r e => by cases e))
 have h2 := scan_kind (t ++ [])
 rw [h1] at h2
 exact h2
theorem c_clone_nil (s : St) (cx : Ctx) : acallW P0 (.fn (.func F_slices_Clone_api_Problem_api_Problem) [] []) [.ns] s cx = .ret .ns s := by
 refine go_slices_Clone_api_Problem_api_Problem (by simp) ?_
 simp [callFnW, ir_slices_Clone_api_Problem_api_Problem, nilK]
theorem c_insertion0 (fv : AV) (hfv : ∃ f as cs, fv = .fn f as cs) (s : St) (cx : Ctx) : acallW P0 (.fn (.func F_slices_insertionSortCmpFunc_api_Problem) [] []) [.ns, .i .i64 0, .i .i64 0, fv] s cx = .ret (.tu []) s := by
 obtain ⟨f, as, cs, rfl⟩ := hfv
 refine go_slices_insertionSortCmpFunc_api_Problem (by simp) ?_
 have w1 : IntKind.i64.wrap 1 = 1 := rfl
 have hL : loopW (acodeW P0.glob (acallW P0) ⟨cx.lim, s.length⟩ false ir_slices_insertionSortCmpFunc_api_Problem_L0) [0, 1, 2, 3, 8] [(0, .v .ns), (1, .v (.i .i64 0)), (2, .v (.i .i64 0)), (3, .v (.fn f as cs)), (8, .v (.i .i64 1))] s =
   .exit 0 [(0, .v .ns), (1, .v (.i .i64 0)), (2, .v (.i .i64 0)), (3, .v (.fn f as cs)), (8, .v (.i .i64 1)), (14, .v (.b false))] s := by
  refine loop_step fun K hK => ?_
  simp [ir_slices_insertionSortCmpFunc_api_Problem_L0]
 simp [callFnW, ir_slices_insertionSortCmpFunc_api_Problem, w1, hL]
theorem c_stable0 (f : Fn) (as cs : List AV) (s : St) (cx : Ctx) : acallW P0 (.fn (.func F_slices_SortStableFunc_api_Problem_api_Problem) [] []) [.ns, .fn f as cs] s cx = .ret (.tu []) s := by
 have h1 : ∀ (s : St) (cx : Ctx), acallW P0 (.fn (.func F_slices_stableCmpFunc_api_Problem) [] []) [.ns, .i .i64 0, .fn f as cs] s cx = .ret (.tu []) s := by
  intro s cx
  have e1 := c_insertion0 (.fn f as cs) ⟨f, as, cs, rfl⟩ s ⟨cx.lim, s.length⟩
  refine go_slices_stableCmpFunc_api_Problem (by simp) ?_
  have hL0 : loopW (acodeW P0.glob (acallW P0) ⟨cx.lim, s.length⟩ false ir_slices_stableCmpFunc_api_Problem_L0) [0, 1, 2, 6, 7, 8] [(0, .v .ns), (1, .v (.i .i64 0)), (2, .v (.fn f as cs)), (6, .v (.i .i64 20)), (7, .v (.i .i64 0)), (8, .v (.i .i64 20))] s =
    .exit 0 [(0, .v .ns), (1, .v (.i .i64 0)), (2, .v (.fn f as cs)), (6, .v (.i .i64 20)), (7, .v (.i .i64 0)), (8, .v (.i .i64 20)), (13, .v (.b false))] s := by
   refine loop_step fun K hK => ?_
   simp [ir_slices_stableCmpFunc_api_Problem_L0]
  have hL1 : loopW (acodeW P0.glob (acallW P0) ⟨cx.lim, s.length⟩ false ir_slices_stableCmpFunc_api_Problem_L1) [0, 1, 2, 6] [(0, .v .ns), (1, .v (.i .i64 0)), (2, .v (.fn f as cs)), (6, .v (.i .i64 20))] s =
    .exit 2 [(0, .v .ns), (1, .v (.i .i64 0)), (2, .v (.fn f as cs)), (6, .v (.i .i64 20)), (30, .v (.b false))] s := by
   refine loop_step fun K hK => ?_
   simp [ir_slices_stableCmpFunc_api_Problem_L1]
  simp [callFnW, ir_slices_stableCmpFunc_api_Problem, hL0, hL1, e1]
 refine go_slices_SortStableFunc_api_Problem_api_Problem (by simp) ?_
 simp [callFnW, ir_slices_SortStableFunc_api_Problem_api_Problem, h1]
structure DocOK (L : List Ax) (f : Ax → Ax) : Prop where
 v : ∀ x ∈ L, checkAS x = 0
 p : ∀ x ∈ L, PlA x
 few : ∀ x ∈ L, x.Few
 t : ∀ x ∈ L, ∀ (s : St) (cx : Ctx), acallW P0 (.fn (.func F_terms_TidyAxiom) [] []) [encA (pcA x)] s cx = .ret (.tu [encA (f x), .i .i64 0]) s
theorem encA_cells (x : Ax) : (encA x).cells.length = 16 := rfl
theorem all_encA (es : List Ax) : ((es.map encA).all fun e => e.cells.length == 16) = true := by simp [encA_cells, List.all_map]
def avX (n : Nat) (es : List Ax) : AV := match es with | [] => .ns | _ => .st n (es.map encA)
def hpX (es : List Ax) : St := match es with | [] => [] | _ => [.row T_api_Axiom_0 16 es.length]
theorem l_document {T : List Tok} {l : Nat} {S : Nat → St} {N : Nat} (hE : PEnv T (mapV l) S l N) {L : List Ax} {f : Ax → Ax} (hD : DocOK L f) (cx : Ctx) (hl : cx.lim ≤ l) :
  ∀ (rest : List Ax) (i : Nat) (es : List Ax), (∀ x ∈ rest, x ∈ L) → At T i (docT rest ++ [(4, [])]) → es.length + rest.length ≤ 1000 →
  ∃ j, loopW (acodeW P0.glob (acallW P0) cx false ir_syntax_Document_L0) [2, 3, 6] [(2, .v (avX N es)), (3, .v .ns), (6, .v (.pt l 0))] (S i ++ hpX es) =
   .exit 0 [(2, .v (avX N (es ++ rest.map f))), (3, .v .ns), (6, .v (.pt l 0)), (26, .v (.b false))] (S j ++ hpX (es ++ rest.map f))
 | [], i, es, _, hA, _ => by
  have hA' : At T i ((4, []) :: []) := hA
  obtain ⟨⟨a, ha⟩, -⟩ := hA'.head
  have e0 := c_token T hE.len i (mapV l) (S i ++ hpX es) l ((hE.app (hpX es)).cell i) 4 [] a ha cx
  refine ⟨i, loop_step fun K hK => ?_⟩
  simp only [List.map_nil, List.append_nil]
  generalize avX N es = v at *
  simp [ir_syntax_Document_L0, e0, encTok]
 | x :: r, i, es, hr, hA, hlen => by
  have hx := hr x (by simp)
  have hc := hD.v x hx
  have hP := piece_axT hc
  obtain ⟨y, q, hq⟩ : ∃ y q, axT x = y :: q := by
   cases hax : axT x with
   | nil => exact absurd hax hP.ne
   | cons y q => exact ⟨y, q, rfl⟩
  have hA1 : At T i (axT x ++ dotT :: (docT r ++ [(4, [])])) := by simpa [docT] using hA
  have hA2 := hA1
  rw [hq] at hA2
  obtain ⟨⟨a, ha⟩, -⟩ := At.head (x := y) hA2
  have hk : y.1 ≠ 4 := (hP.tok y (by rw [hq]; simp)).kind
  have hE2 := hE.app (hpX es)
  have e0 := c_token T hE2.len i (mapV l) (S i ++ hpX es) l (hE2.cell i) y.1 y.2 a ha cx
  have e1 := p_item hE2 hc (hD.p x hx) (hD.t x hx) hA1 ha cx hl
  have hA3 : At T (i + (axT x).length + 1) (docT r ++ [(4, [])]) := by
   have h1 : At T (i + (axT x).length) (dotT :: (docT r ++ [(4, [])])) := at_drop hA1
   exact h1.head.2
  obtain ⟨j, ih⟩ := l_document hE hD cx hl r (i + (axT x).length + 1) (es ++ [f x]) (fun z hz => hr z (by simp [hz])) hA3 (by simp at hlen ⊢; omega)
  have hlt := hE.lt
  have hN := hE.n (i + (axT x).length + 1)
  refine ⟨j, loop_step fun K hK => ?_⟩
  rw [← hK] at ih
  clear hK hr hA hA1 hA2 hA3 ha hE2
  simp at hlen
  rw [List.append_assoc] at ih
  simp only [List.cons_append, List.nil_append] at ih
  rw [List.map_cons]
  generalize f x = z at *
  generalize (S (i + (axT x).length + 1)) = S' at *
  generalize hF : es ++ z :: List.map f r = F at ih ⊢
  generalize avX N F = vF at ih ⊢
  generalize hpX F = hF at ih ⊢
  have c1 : cx.lim ≤ N := by omega
  rcases es with _ | ⟨b, es⟩
  ·simp only [avX, hpX, List.nil_append, List.append_nil, List.map_cons, List.map_nil, List.length_cons, List.length_nil] at ih e0 e1 ⊢
   have m1 : 1 ≤ maxSl := by decide
   simp [ir_syntax_Document_L0, e0, encTok, hk, e1, splice, m1, hN, encA_cells]
   simp at ih
   exact ih
  ·have hal := all_encA es
   have m1 : es.length + 1 + 1 ≤ maxSl := by unfold maxSl; simp at hlen; omega
   have g1 : (S' ++ [HObj.row T_api_Axiom_0 16 (es.length + 1)])[N]? = some (.row T_api_Axiom_0 16 (es.length + 1)) := by rw [← hN]; simp
   have g2 : ∀ o, (S' ++ [HObj.row T_api_Axiom_0 16 (es.length + 1)]).set N o = S' ++ [o] := fun o => by rw [← hN]; simp
   simp only [avX, hpX, List.cons_append, List.map_append, List.map_cons, List.map_nil, List.length_cons, List.length_append, List.length_nil] at ih e0 e1 ⊢
   simp [ir_syntax_Document_L0, e0, encTok, hk, e1, splice, m1, hN, encA_cells, hal, g1, g2, c1]
   simp at ih
   exact ih
theorem underL_enc (n : Nat) : ∀ ys : List Ax, underL n (ys.map encA) = true
 | [] => by simp
 | y :: r => by
  have : (encA y).under n = true := by rw [show encA y = .ag (cellsA y) from rfl, cellsA]; simp [-fold_encA, underL_str]
  simp [underL, this, underL_enc n r]
theorem c_syntax_Document {L : List Ax} {f : Ax → Ax} (hD : DocOK L f) (hL : L.length ≤ 8) (s : St) (cx : Ctx) :
  acallW P0 (.fn (.func F_syntax_Document) [] []) [.sl (bytesAV (docB L))] s cx = .ret (.tu [slf true ((L.map f).map encA), .ns, .i .i64 0]) s := by
 have hdl := doc_len hD.v
 have htl := docT_len hD.v hD.few
 obtain ⟨T, hT, hTm⟩ := doc_reads hD.v 0
 have hTl : T.length ≤ 100000 := by
  have := congrArg List.length hTm
  simp at this; omega
 have hA : At T 0 (docT L ++ [(4, [])]) := by unfold At; simpa using hTm
 have e1 := c_lexis_Tokens (docB L) (by omega) _ T hT s ⟨s.length, s.length⟩ (Nat.le_refl _)
 have e2 := c_newParser T s ⟨s.length, s.length⟩ (Nat.le_refl _) (Nat.le_refl _)
 let S : Nat → St := fun j => s ++ [psO T j (mapV s.length)]
 have hE : PEnv T (mapV s.length) S s.length (s.length + 1) := ⟨hTl, fun j => by simp [S], fun j k => by simp [S], fun j => by simp [S]⟩
 obtain ⟨j, h⟩ := l_document hE hD ⟨s.length, s.length⟩ (Nat.le_refl _) L 0 [] (fun x hx => hx) hA (by simp; omega)
 have e3 := c_clone_nil
 have e4 := c_stable0
 have hlen : ¬ (1024 : Int) < L.length := by omega
 have hu := underL_enc s.length (L.map f)
 refine go_syntax_Document (by simp) ?_
 simp only [List.nil_append, S] at h
 generalize psO T 0 (mapV s.length) = O0 at *
 generalize psO T j (mapV s.length) = Oj at *
 have hll : (L.map f).length = L.length := by simp
 generalize L.map f = F at *
 cases F with
 | nil =>
  simp only [avX, hpX, List.append_nil] at h
  simp [callFnW, ir_syntax_Document, e1, e2, e3, e4, h, frz, AV.under]
 | cons a F =>
  simp only [avX, hpX, List.append_nil, List.map_cons, List.length_cons] at h hll
  have hl2 : ¬ (1024 : Int) < (F.length : Int) + 1 := by omega
  simp at hu
  simp [callFnW, ir_syntax_Document, e1, e2, e3, e4, h, hl2, frz, AV.under, hu]
end Go.Ai.Z
namespace Go.Ai.Z
theorem c_tidyAxiom_bad (x : Ax) (hx : x.Few) (h0 : checkAS x ≠ 0) (s : St) (cx : Ctx) : acallW P0 (.fn (.func F_terms_TidyAxiom) [] []) [encA x] s cx = .ret (.tu [encA zA, .i .i64 (checkAS x)]) s := by
 have e0 := c_terms_CheckAxiom x hx
 refine go_terms_TidyAxiom (by simp) ?_
 rw [enc_zA]
 simp [callFnW, ir_terms_TidyAxiom, e0, h0, fillC, splice]
def goodB (x : Ax) : Bool := decide (checkAS x = 0) && (tidyAx x).isSome && plAB x
theorem TidyAR.e {x y : Ax} {e : Int} (h : TidyAR x y e) : e = 0 ↔ (tidyAx x).isSome = true := by
 unfold TidyAR at h
 split at h
 ·rename_i t ht; simp [ht, h.2]
 ·rename_i ht; simp [ht, h]
theorem l_law0 (s : St) (cx : Ctx) (z : Bool) (l : List Ax) (hl : l.length ≤ 20) (hx : ∀ x ∈ l, x.Few) :
  ∀ (rest : List Ax) (i : Nat), l.drop i = rest →
  ∃ j : Int, loopW (acodeW P0.glob (acallW P0) cx false ir_law04_PrinterDocuments_L0) [0, 3] [(0, .v (slf z (l.map encA))), (3, .v (.i .i64 i))] s =
   if rest.all goodB = true then .exit 0 [(0, .v (slf z (l.map encA))), (3, .v (.i .i64 j)), (22, .v (.b false))] s else .ret [(2, .v (.b true))] s
 | [], i, h => by
  have h1 : ¬ i < l.length := Nat.not_lt.2 (drop_nil h)
  refine ⟨i, loop_step fun K hK => ?_⟩
  simp [ir_law04_PrinterDocuments_L0, h1]
 | p :: r, i, h => by
  obtain ⟨h1, h2, h3, h4⟩ := drop_cons h
  have h5 := h4 h3
  have hf := hx p (by rw [← h5]; exact List.getElem_mem h3)
  have hwi := wI (i := i) (by omega)
  have e2 := c_law04_plainAxiom p (by have := hf.l; omega) (by have := hf.r; omega)
  by_cases hg : goodB p = true
  ·have hg' := hg
   simp only [goodB, Bool.and_eq_true, decide_eq_true_eq] at hg'
   obtain ⟨⟨g1, g2⟩, g3⟩ := hg'
   obtain ⟨y, e, t1, _, _, _, e1⟩ := c_terms_TidyAxiom p hf g1
   have he : e = 0 := t1.e.2 g2
   subst he
   obtain ⟨j, ih⟩ := l_law0 s cx z l hl hx r (i + 1) h2
   refine ⟨j, loop_step fun K hK => ?_⟩
   rw [← hK, show ((i + 1 : Nat) : Int) = (i : Int) + 1 from rfl] at ih
   clear hK h4 hx t1
   rw [List.all_cons, hg, Bool.true_and]
   simp [ir_law04_PrinterDocuments_L0, h3, h5, hwi, e1, e2, g3, splice, ih]
  ·have hg' : goodB p = false := by simpa using hg
   refine ⟨i, loop_step fun K hK => ?_⟩
   clear hK h4 hx
   rw [List.all_cons, hg', Bool.false_and]
   by_cases g1 : checkAS p = 0
   ·obtain ⟨y, e, t1, _, _, _, e1⟩ := c_terms_TidyAxiom p hf g1
    by_cases he : e = 0
    ·have g2 := t1.e.1 he
     have g3 : plAB p = false := by simpa [goodB, g1, g2] using hg
     simp [ir_law04_PrinterDocuments_L0, h3, h5, e1, e2, he, g3, splice]
    ·simp [ir_law04_PrinterDocuments_L0, h3, h5, e1, e2, he, splice]
   ·have e1 := c_tidyAxiom_bad p hf g1
    simp only [enc_zA] at e1
    simp [ir_law04_PrinterDocuments_L0, h3, h5, e1, e2, g1, splice]
theorem l_law1 (s : St) (cx : Ctx) (z : Bool) (l : List Ax) (hl : l.length ≤ 20) (hx : ∀ x ∈ l, x.Few) (hg : ∀ x ∈ l, goodB x = true) (f : Ax → Ax)
  (hf : ∀ x ∈ l, TidyAR x (f x) 0 ∧ wC (f x).left ≤ 1000 ∧ wC (f x).right ≤ 1000 ∧ (f x).roles.length ≤ 600) :
  ∀ (rest : List Ax) (i : Nat), l.drop i = rest →
  ∃ j : Int, loopW (acodeW P0.glob (acallW P0) cx false ir_law04_PrinterDocuments_L1) [0, 8, 11] [(0, .v (slf z (l.map encA))), (8, .v (slf true ((l.map f).map encA))), (11, .v (.i .i64 i))] s =
   .exit 2 [(0, .v (slf z (l.map encA))), (8, .v (slf true ((l.map f).map encA))), (11, .v (.i .i64 j)), (75, .v (.b false))] s
 | [], i, h => by
  have h1 : ¬ i < l.length := Nat.not_lt.2 (drop_nil h)
  refine ⟨i, loop_step fun K hK => ?_⟩
  simp [ir_law04_PrinterDocuments_L1, h1]
 | p :: r, i, h => by
  obtain ⟨h1, h2, h3, h4⟩ := drop_cons h
  have h5 := h4 h3
  have hp : p ∈ l := by rw [← h5]; exact List.getElem_mem h3
  have hfw := hx p hp
  have hwi := wI (i := i) (by omega)
  have hg' := hg p hp
  simp only [goodB, Bool.and_eq_true, decide_eq_true_eq] at hg'
  obtain ⟨⟨g1, g2⟩, g3⟩ := hg'
  obtain ⟨y, e, t1, w1, w2, w3, e1⟩ := c_terms_TidyAxiom p hfw g1
  have he : e = 0 := t1.e.2 g2
  subst he
  obtain ⟨u1, u2, u3, u4⟩ := hf p hp
  have hnz := (t1.same u1).2 rfl
  obtain ⟨hop, hq⟩ := eqv_nzA hnz
  have hz : cmpA y (f p) = 0 := cmpA_iff.2 hq
  have e7 := c_terms_CompareAxiom y (f p) w1 w2 (by omega) u2 u3 (by omega)
  obtain ⟨j, ih⟩ := l_law1 s cx z l hl hx hg f hf r (i + 1) h2
  refine ⟨j, loop_step fun K hK => ?_⟩
  rw [← hK, show ((i + 1 : Nat) : Int) = (i : Int) + 1 from rfl] at ih
  clear hK h4 hx hf hg u1 t1 hnz hq
  simp only [List.map_map] at ih ⊢
  rcases Bool.eq_false_or_eq_true (f p).op with o | o <;> have o' := hop.trans o <;> have g := fold_op o <;> have g' := fold_op o' <;>
   simp [ir_law04_PrinterDocuments_L1, h3, h5, hwi, e1, e7, hz, o, o', g, g', splice, ih]
theorem docE_good : ∀ {l : List Ax}, (∀ x ∈ l, checkAS x = 0) → docE l = 0
 | [], _ => rfl
 | x :: r, h => by unfold docE; rw [if_pos (h x (by simp))]; exact docE_good (fun y hy => h y (by simp [hy]))
theorem c_law_documents (z : Bool) (l : List Ax) (hl : l.length ≤ 1125899906842624) (hok : ∀ x ∈ l, x.Ok) (hs : acallW P0 (.fn (.func F_law04_sane) [] []) [] [] ⟨0, 0⟩ = .ret (.b true) []) (cx : Ctx) :
  acallW P0 (.fn (.func F_law04_PrinterDocuments) [] []) [slf z (l.map encA)] [] cx = .ret (.b true) [] := by
 obtain ⟨b, e1, hb⟩ := c_ref02_FewAxioms' 8 (by omega) z l hl hok
 rw [show (((8 : Nat) : Int)) = 8 from rfl] at e1
 refine go_law04_PrinterDocuments (by simp) ?_
 cases b with
 | false => simp [callFnW, ir_law04_PrinterDocuments, hs, e1]
 | true =>
  obtain ⟨h8, hfew⟩ := hb rfl
  obtain ⟨j0, hL0⟩ := l_law0 [] ⟨0, 0⟩ z l (by omega) hfew l 0 rfl
  by_cases hg : l.all goodB = true
  ·have hgm : ∀ x ∈ l, goodB x = true := List.all_eq_true.1 hg
   have hv : ∀ x ∈ l, checkAS x = 0 := fun x hx => by have := hgm x hx; simp only [goodB, Bool.and_eq_true, decide_eq_true_eq] at this; exact this.1.1
   have hch : ∀ x : Ax, ∃ y : Ax, x ∈ l → (TidyAR x y 0 ∧ wC y.left ≤ 1000 ∧ wC y.right ≤ 1000 ∧ y.roles.length ≤ 600) ∧ ∀ (s : St) (cx : Ctx), acallW P0 (.fn (.func F_terms_TidyAxiom) [] []) [encA (pcA x)] s cx = .ret (.tu [encA y, .i .i64 0]) s := by
    intro x
    by_cases hx : x ∈ l
    ·obtain ⟨y, e, h1, h2, h2', h2'', h3⟩ := c_terms_TidyAxiom (pcA x) (pcA_few (hfew x hx)) (by rw [pcA_check]; exact hv x hx)
     have h4 : TidyAR x y e := by unfold TidyAR at h1 ⊢; rw [pcA_tidy] at h1; exact h1
     have he : e = 0 := h4.e.2 (by have := hgm x hx; simp only [goodB, Bool.and_eq_true] at this; exact this.1.2)
     subst he
     exact ⟨y, fun _ => ⟨⟨h4, h2, h2', h2''⟩, h3⟩⟩
    ·exact ⟨zA, fun h => absurd h hx⟩
   obtain ⟨f, hf⟩ := Classical.axiomOfChoice hch
   have hD : DocOK l f := ⟨hv, fun x hx => pla_of (hv x hx) (by have := hgm x hx; simp only [goodB, Bool.and_eq_true] at this; exact this.2), hfew, fun x hx => (hf x hx).2⟩
   have e3 := c_printer_Document z l (by omega) hfew
   have hdl := doc_len hv
   rw [docE_good hv] at e3
   have hnl : ¬ 65536 < (docB l).length := by omega
   simp only [if_true, if_neg hnl] at e3
   have e4 := c_syntax_Document hD h8
   obtain ⟨j1, hL1⟩ := l_law1 [] ⟨0, 0⟩ z l (by omega) hfew hgm f (fun x hx => (hf x hx).1) l 0 rfl
   rw [hg] at hL0
   simp only [if_true] at hL0
   simp only [List.map_map] at e4 hL1
   simp at hL0 hL1
   simp [callFnW, ir_law04_PrinterDocuments, hs, e1, hL0, e3, e4, hL1]
  ·have hg' : l.all goodB = false := by simpa using hg
   rw [hg'] at hL0
   simp at hL0
   simp [callFnW, ir_law04_PrinterDocuments, hs, e1, hL0]
end Go.Ai.Z
