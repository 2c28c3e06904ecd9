/-
 terms.Vocabulary: the sets of names that it gathers.
-/
import Derived.Test.YtpanocallohgdaaDoorAiK12
import Derived.Test.YtpanocallohgdaaDoorAiR2R3
import Derived.Test.YtpanocallohgdaaDoorAiCRefR37R38R39
import Derived.Test.YtpanocallohgdaaDoorAiK4
import Derived.Test.YtpanocallohgdaaDoorAiR4R5R6
set_option maxRecDepth 100000
set_option linter.unusedSimpArgs false
set_option linter.unusedVariables false
namespace Go.Ai.Z
def addU (V : List Rl) (k : Rl) : List Rl := if k ∈ V then V else V ++ [k]
theorem mput_strM_in {k : Rl} : ∀ {V : List Rl}, k ∈ V → mput 1 (.s k) (.b true) (strM V) = some (strM V)
 | [], h => by cases h
 | x :: V, h => by
  by_cases hk : k = x
  ·subst hk; simp [strM, mput, keyEq]
  ·have h' : k ∈ V := by
    rcases List.mem_cons.1 h with h | h
    ·exact absurd h hk
    ·exact h
   have ih := mput_strM_in h'
   simp only [strM] at ih ⊢
   simp [mput, keyEq, hk, ih]
theorem mput_addU (k : Rl) (V : List Rl) : mput 1 (.s k) (.b true) (strM V) = some (strM (addU V k)) := by
 unfold addU
 split
 ·rename_i h; exact mput_strM_in h
 ·rename_i h; exact mput_strM h
theorem mem_addU {V : List Rl} {k x : Rl} : x ∈ addU V k ↔ x = k ∨ x ∈ V := by
 unfold addU
 split
 ·rename_i h
  exact ⟨.inr, fun hh => by rcases hh with rfl | hh <;> assumption⟩
 ·simp [or_comm]
theorem nodup_addU {V : List Rl} (hV : V.Nodup) (k : Rl) : (addU V k).Nodup := by
 unfold addU
 split
 ·exact hV
 ·rename_i h
  exact List.nodup_append.2 ⟨hV, by simp, fun a ha b hb => by simp at hb; subst hb; exact fun e => h (e ▸ ha)⟩
theorem addU_len (V : List Rl) (k : Rl) : (addU V k).length ≤ V.length + 1 := by
 unfold addU
 split <;> simp
def delU (V : List Rl) (k : Rl) : List Rl := V.erase k
theorem mdel_strM (k : Rl) : ∀ V : List Rl, mdel 1 (.s k) (strM V) = some (strM (delU V k))
 | [] => rfl
 | x :: V => by
  have ih := mdel_strM k V
  simp only [strM, delU] at ih ⊢
  by_cases hk : k = x
  ·subst hk; simp [mdel, keyEq]
  ·have hk' : ¬ x = k := fun h => hk h.symm
   simp [mdel, keyEq, hk, ih, List.erase_cons, hk']
structure V4 where
 c : List Rl
 r : List Rl
 f : List Rl
 i : List Rl
def V4.ob (v : V4) : St := [.map (strM v.c), .map (strM v.r), .map (strM v.f), .map (strM v.i)]
def V4.nil : V4 := ⟨[], [], [], []⟩
def V4.add (v : V4) (x : C) : V4 :=
 if x.kind = 3 then { v with c := addU v.c x.name } else if x.kind = 6 then { v with r := addU v.r x.name }
 else if x.kind = 7 then { v with f := addU v.f x.name } else if x.kind = 4 then { v with i := addU v.i x.name } else v
mutual
def vocC : C → V4 → V4
 | .mk k n l h z ps, v => vocL ps (v.add (.mk k n l h z ps))
def vocL : List C → V4 → V4
 | [], v => v
 | p :: r, v => vocL r (vocC p v)
end
theorem vocC_eq (x : C) (v : V4) : vocC x v = vocL x.parts (v.add x) := by cases x; simp [vocC]
structure LB (n : Nat) (V : List Rl) : Prop where
 nd : V.Nodup
 len : V.length ≤ n
 nm : ∀ x ∈ V, x.length ≤ 7000
theorem LB.add {n : Nat} {V : List Rl} (h : LB n V) {k : Rl} (hk : k.length ≤ 7000) : LB (n + 1) (addU V k) :=
 ⟨nodup_addU h.nd k, by have := addU_len V k; have := h.len; omega, fun x hx => by
  rcases mem_addU.1 hx with rfl | hx
  ·exact hk
  ·exact h.nm x hx⟩
theorem LB.le {n m : Nat} {V : List Rl} (h : LB n V) (hm : n ≤ m) : LB m V := ⟨h.nd, Nat.le_trans h.len hm, h.nm⟩
theorem LB.del {n : Nat} {V : List Rl} (h : LB n V) (k : Rl) : LB n (delU V k) :=
 ⟨h.nd.sublist List.erase_sublist, Nat.le_trans List.erase_sublist.length_le h.len, fun x hx => h.nm x (List.erase_sublist.subset hx)⟩
structure VB (n : Nat) (v : V4) : Prop where
 c : LB n v.c
 r : LB n v.r
 f : LB n v.f
 i : LB n v.i
theorem VB.le {n m : Nat} {v : V4} (h : VB n v) (hm : n ≤ m) : VB m v := ⟨h.c.le hm, h.r.le hm, h.f.le hm, h.i.le hm⟩
theorem VB.add {n : Nat} {v : V4} (h : VB n v) {x : C} (hx : x.name.length ≤ 7000) : VB (n + 1) (v.add x) := by
 have h' := h.le (Nat.le_succ n)
 unfold V4.add
 split
 ·exact ⟨h.c.add hx, h'.r, h'.f, h'.i⟩
 ·split
  ·exact ⟨h'.c, h.r.add hx, h'.f, h'.i⟩
  ·split
   ·exact ⟨h'.c, h'.r, h.f.add hx, h'.i⟩
   ·split
    ·exact ⟨h'.c, h'.r, h'.f, h.i.add hx⟩
    ·exact h'
theorem voc_VB : ∀ (x : C), wC x ≤ 150 → ∀ (n : Nat) (v : V4), VB n v → VB (n + wC x) (vocC x v) := by
 refine C.ind' fun x ih hw n v hv => ?_
 have hw' := hw
 rw [wC_eq] at hw'
 have hL : ∀ (l : List C), (∀ p ∈ l, wC p ≤ 150 → ∀ (n : Nat) (v : V4), VB n v → VB (n + wC p) (vocC p v)) → wL l ≤ 150 → ∀ (n : Nat) (v : V4), VB n v → VB (n + wL l) (vocL l v) := by
  intro l
  induction l with
  | nil => intro _ _ n v hv; simpa [vocL, wL] using hv
  | cons p r ihr =>
   intro h hl n v hv
   simp only [wL] at hl ⊢
   have h1 := h p (by simp) (by omega) n v hv
   have h2 := ihr (fun q hq => h q (by simp [hq])) (by omega) _ _ h1
   simp only [vocL]
   rw [show n + (wC p + wL r) = n + wC p + wL r by omega]
   exact h2
 rw [vocC_eq, wC_eq]
 exact (hL x.parts ih (by omega) (n + 1) (v.add x) (hv.add (by omega))).le (by omega)
def addL (V : List Rl) : List Rl → List Rl
 | [] => V
 | r :: rs => addL (addU V r) rs
theorem LB.addL {rs : List Rl} : ∀ {n : Nat} {V : List Rl}, LB n V → (∀ r ∈ rs, r.length ≤ 7000) → LB (n + rs.length) (addL V rs) := by
 induction rs with
 | nil => intro n V h _; exact h
 | cons r rs ih =>
  intro n V h hr
  have := ih (h.add (hr r (by simp))) fun x hx => hr x (by simp [hx])
  simp only [List.length_cons]
  rw [show n + (rs.length + 1) = n + 1 + rs.length by omega]
  exact this
def vocA (x : Ax) (v : V4) : V4 :=
 let u := vocC x.right (vocC x.left v)
 ⟨u.c, addU (addL u.r x.roles) x.role, u.f, addU (addU u.i x.a) x.b⟩
theorem vocA_VB {x : Ax} (hx : x.Few) {n : Nat} {v : V4} (h : VB n v) : VB (n + 1000) (vocA x v) := by
 have h1 := voc_VB x.left hx.l n v h
 have h2 := voc_VB x.right hx.r _ _ h1
 have l1 := hx.l
 have l2 := hx.r
 have l3 := hx.roles
 have l4 := hx.role
 have l5 := hx.a
 have l6 := hx.b
 refine ⟨h2.c.le (by omega), (((h2.r.addL fun r hr => ?_).add (by omega)).le (by omega)), h2.f.le (by omega), ((h2.i.add (by omega)).add (by omega)).le (by omega)⟩
 have := hx.rs r hr; omega
def vocAll : List Ax → V4 → V4
 | [], v => v
 | x :: r, v => vocAll r (vocA x v)
theorem vocAll_VB : ∀ {l : List Ax}, (∀ x ∈ l, x.Few) → ∀ {n : Nat} {v : V4}, VB n v → VB (n + 1000 * l.length) (vocAll l v)
 | [], _, n, v, h => h
 | x :: l, hx, n, v, h => by
  have h1 := vocAll_VB (l := l) (fun y hy => hx y (by simp [hy])) (vocA_VB (hx x (by simp)) h)
  simp only [List.length_cons, vocAll]
  rw [show n + 1000 * (l.length + 1) = n + 1000 + 1000 * l.length by omega]
  exact h1
theorem VB.nil : VB 0 V4.nil := ⟨⟨by simp [V4.nil], by simp [V4.nil], by simp [V4.nil]⟩, ⟨by simp [V4.nil], by simp [V4.nil], by simp [V4.nil]⟩, ⟨by simp [V4.nil], by simp [V4.nil], by simp [V4.nil]⟩, ⟨by simp [V4.nil], by simp [V4.nil], by simp [V4.nil]⟩⟩
end Go.Ai.Z
namespace Go.Ai.Z
def ofE (n : Nat) : List (AV × AV) := [(.i .i64 3, .mp n), (.i .i64 6, .mp (n + 1)), (.i .i64 7, .mp (n + 2)), (.i .i64 4, .mp (n + 3))]
def vcE (n : Nat) (lv sv : AV) (len i k : Int) (c : C) : Env :=
 [(2, .v .u), (3, .v (.i .i64 0)), (7, .v (.mp n)), (8, .v (.mp (n + 1))), (9, .v (.mp (n + 2))), (10, .v (.mp (n + 3))), (11, .v (.pt (n + 5) 0)), (13, .v .u), (44, .v lv), (45, .v (.i .i64 len)), (46, .v (.i .i64 i)), (54, .v sv), (55, .v (.i .i64 2)), (56, .v (.i .i64 k)), (61, .v (.fn (.func F_terms_walk_1) [] [.ip (encC c).cells]))]
def vcL (n : Nat) (lv sv : AV) (len i k : Int) (c : C) (p : Pend) : HObj := .loop (vcE n lv sv len i k c) [62] ir_terms_Vocabulary_A3 ir_terms_Vocabulary_R3 p
def vcH (s : St) (v : V4) (r : St) : St := s ++ (.map (strM v.c) :: .map (strM v.r) :: .map (strM v.f) :: .map (strM v.i) :: .map (ofE s.length) :: .cells [.mp (s.length + 4)] :: r)
section
variable {s r q : St} {v : V4}
@[simp] theorem vcH_0 : (vcH s v r)[s.length]? = some (.map (strM v.c)) := by simp [vcH]
@[simp] theorem vcH_1 : (vcH s v r)[s.length + 1]? = some (.map (strM v.r)) := by simp [vcH]
@[simp] theorem vcH_2 : (vcH s v r)[s.length + 2]? = some (.map (strM v.f)) := by simp [vcH]
@[simp] theorem vcH_3 : (vcH s v r)[s.length + 3]? = some (.map (strM v.i)) := by simp [vcH]
@[simp] theorem vcH_4 : (vcH s v r)[s.length + 4]? = some (.map (ofE s.length)) := by simp [vcH]
@[simp] theorem vcH_5 : (vcH s v r)[s.length + 5]? = some (.cells [.mp (s.length + 4)]) := by simp [vcH]
theorem vcH_p (p : Nat) : (vcH s v r)[s.length + 6 + p]? = r[p]? := by
 unfold vcH
 rw [List.getElem?_append_right (by omega), show s.length + 6 + p - s.length = p + 6 by omega]
 rfl
@[simp] theorem vcH_len : (vcH s v r).length = s.length + 6 + r.length := by simp [vcH]; omega
@[simp] theorem vcH_app : vcH s v r ++ q = vcH s v (r ++ q) := by simp [vcH]
@[simp] theorem vcH_set0 {V : List Rl} : (vcH s v r).set s.length (.map (strM V)) = vcH s { v with c := V } r := by simp [vcH]
@[simp] theorem vcH_set1 {V : List Rl} : (vcH s v r).set (s.length + 1) (.map (strM V)) = vcH s { v with r := V } r := by
 unfold vcH; rw [List.set_append, if_neg (by omega)]; simp
@[simp] theorem vcH_set2 {V : List Rl} : (vcH s v r).set (s.length + 2) (.map (strM V)) = vcH s { v with f := V } r := by
 unfold vcH; rw [List.set_append, if_neg (by omega)]; simp
@[simp] theorem vcH_set3 {V : List Rl} : (vcH s v r).set (s.length + 3) (.map (strM V)) = vcH s { v with i := V } r := by
 unfold vcH; rw [List.set_append, if_neg (by omega)]; simp
theorem vcH_setp (p : Nat) (o : HObj) : (vcH s v r).set (s.length + 6 + p) o = vcH s v (r.set p o) := by
 unfold vcH
 rw [List.set_append, if_neg (by omega), show s.length + 6 + p - s.length = p + 6 by omega]
 rfl
theorem vcH_take (v' : V4) : (vcH s v' (r ++ q)).take (s.length + 6 + r.length) = vcH s v' r := by
 rw [← vcH_app, List.take_append_of_le_length (by simp), List.take_of_length_le (by simp)]
end
theorem y_voc_A (x : C) (s : St) (v : V4) (r : St) (lv sv : AV) (len i k : Int) (c : C) (cx : Ctx) (hb : cx.base ≤ s.length + 6 + r.length) (hl : cx.lim ≤ s.length) :
  acodeW P0.glob (acallW P0) cx true ir_terms_Vocabulary_A3 ((62, .v (encC x)) :: vcE s.length lv sv len i k c) (vcH s v r) =
   .norm [(11, .v (.pt (s.length + 5) 0)), (16, .v (.pt (s.length + 6 + r.length) 0))] (vcH s v (r ++ [.cells (encC x).cells])) := by
 have h1 : cx.lim ≤ s.length + 6 + r.length := by omega
 have h2 := vcH_p (s := s) (v := v) (r := r ++ [.cells [.i .i64 0, .s [], .i .i64 0, .i .i64 0, .ns]]) r.length
 have h3 := vcH_setp (s := s) (v := v) (r := r ++ [.cells [.i .i64 0, .s [], .i .i64 0, .i .i64 0, .ns]]) r.length (.cells (encC x).cells)
 simp at h2 h3
 simp [ir_terms_Vocabulary_A3, vcE, hb, h1, h2, h3]
theorem y_voc_R (x : C) (s : St) (v : V4) (r : St) (m : Nat) (hm : r[m]? = some (.cells (encC x).cells)) (cx : Ctx) (hl : cx.lim ≤ s.length) :
  ∃ e', acodeW P0.glob (acallW P0) cx true ir_terms_Vocabulary_R3 [(11, .v (.pt (s.length + 5) 0)), (16, .v (.pt (s.length + 6 + m) 0))] (vcH s v r) = .norm e' (vcH s (v.add x) r) := by
 have h1 := vcH_p (s := s) (v := v) (r := r) m
 rw [hm] at h1
 simp at h1
 have l1 : cx.lim ≤ s.length + 1 := by omega
 have l2 : cx.lim ≤ s.length + 2 := by omega
 have l3 : cx.lim ≤ s.length + 3 := by omega
 by_cases k3 : x.kind = 3
 ·exact ⟨_, by simp [ir_terms_Vocabulary_R3, h1, ofE, find, keyEq, keyK, k3, hl, mput_addU, V4.add]; rfl⟩
 by_cases k6 : x.kind = 6
 ·exact ⟨_, by simp [ir_terms_Vocabulary_R3, h1, ofE, find, keyEq, keyK, k6, hl, l1, mput_addU, V4.add]; rfl⟩
 by_cases k7 : x.kind = 7
 ·exact ⟨_, by simp [ir_terms_Vocabulary_R3, h1, ofE, find, keyEq, keyK, k7, hl, l2, mput_addU, V4.add]; rfl⟩
 by_cases k4 : x.kind = 4
 ·exact ⟨_, by simp [ir_terms_Vocabulary_R3, h1, ofE, find, keyEq, keyK, k4, hl, l3, mput_addU, V4.add]; rfl⟩
 ·exact ⟨_, by simp [ir_terms_Vocabulary_R3, h1, ofE, find, keyEq, keyK, k3, k4, k6, k7, hl, V4.add]; rfl⟩
theorem y_voc (x : C) (s : St) (v : V4) (r : St) (lv sv : AV) (len i k : Int) (c : C) (p : Nat) (hp : r[p]? = some (vcL s.length lv sv len i k c .ready)) (cx : Ctx) (hb : cx.base ≤ s.length + 6 + r.length) (hl : cx.lim ≤ s.length) :
  acallW P0 (.yl (s.length + 6 + p)) [encC x] (vcH s v r) cx = .ret (.b true) (vcH s (v.add x) (r ++ [.cells (encC x).cells])) := by
 have hp1 : p < r.length := (List.getElem?_eq_some_iff.1 hp).1
 have hA := y_voc_A x s v r lv sv len i k c cx hb hl
 obtain ⟨e', hR⟩ := y_voc_R x s v ((r ++ [HObj.cells (encC x).cells]).set p (vcL s.length lv sv len i k c .busy)) r.length (by
  rw [List.getElem?_set_ne (by omega)]; simp) cx hl
 refine acallW_yl (by simp) ?_
 unfold yieldW
 rw [vcH_p, hp]
 have g1 : (r ++ [HObj.cells (encC x).cells])[p]? = some (vcL s.length lv sv len i k c .ready) := by rw [List.getElem?_append_left hp1]; exact hp
 have hlp : cx.lim ≤ s.length + 6 + p := by omega
 have hput : setPs (vcE s.length lv sv len i k c) [62] [encC x] = (62, .v (encC x)) :: vcE s.length lv sv len i k c := by simp [setPs, put, vcE, lk]
 simp only [vcL, List.length_cons, List.length_nil, hlp, and_self, if_true, hput, hA, bodyW]
 rw [vcH_p, g1]
 simp only [vcL, vcH_setp]
 simp only [vcL] at hR
 rw [hR]
 simp only [endBody, endRnd, vcH_p]
 rw [List.getElem?_set_self (by simp; omega)]
 simp only [vcH_setp, List.set_set]
 have g2 := set_same g1
 simp only [vcL] at g2
 rw [g2]
theorem l_voc_visit (x : C) (hw : wC x ≤ 100000) (s : St) (r : St) (p : Nat) (cx : Ctx)
  (ih : ∀ y ∈ x.parts, ∀ v : V4, acallW P0 (.fn (.func F_terms_visit) [] []) [encC y, .yl (s.length + 6 + p)] (vcH s v r) cx = .ret (.b true) (vcH s (vocC y v) r)) :
  ∀ (rest : List C) (i : Nat) (v : V4), x.parts.drop i = rest →
  ∃ j : Int, loopW (acodeW P0.glob (acallW P0) cx false ir_terms_visit_L0) [1, 12, 13, 14] [(1, .v (.yl (s.length + 6 + p))), (12, .v (slf x.z (x.parts.map encC))), (13, .v (.i .i64 x.parts.length)), (14, .v (.i .i64 i))] (vcH s v r) =
   .exit 0 [(1, .v (.yl (s.length + 6 + p))), (12, .v (slf x.z (x.parts.map encC))), (13, .v (.i .i64 x.parts.length)), (14, .v (.i .i64 j)), (15, .v (.b false))] (vcH s (vocL rest v) r)
 | [], i, v, h => by
  have h1 : ¬ i < x.parts.length := Nat.not_lt.2 (drop_nil h)
  refine ⟨i, loop_step fun K hK => ?_⟩
  simp [ir_terms_visit_L0, h1, vocL]
 | y :: rest, i, v, h => by
  obtain ⟨h1, h2, h3, h4⟩ := drop_cons h
  have h5 := h4 h3
  have hp : y ∈ x.parts := by rw [← h5]; exact List.getElem_mem h3
  have hlen := wL_len x.parts
  have hwi := wI (i := i) (by rw [wC_eq] at hw; omega)
  have e1 := ih y hp v
  obtain ⟨j, ih2⟩ := l_voc_visit x hw s r p cx ih rest (i + 1) (vocC y v) h2
  refine ⟨j, loop_step fun K hK => ?_⟩
  rw [← hK] at ih2
  clear hK h4 ih
  simp at ih2
  simp [ir_terms_visit_L0, h3, h5, hwi, e1, ih2, vocL]
theorem c_voc_visit (s : St) (lv sv : AV) (len i k : Int) (c : C) (p : Nat) : ∀ (x : C), wC x ≤ 100000 → ∀ (r : St) (v : V4) (cx : Ctx), r[p]? = some (vcL s.length lv sv len i k c .ready) → cx.lim ≤ s.length →
   acallW P0 (.fn (.func F_terms_visit) [] []) [encC x, .yl (s.length + 6 + p)] (vcH s v r) cx = .ret (.b true) (vcH s (vocC x v) r) := by
 refine C.ind' fun x ih hw r v cx hp hl => ?_
 have hp1 : p < r.length := (List.getElem?_eq_some_iff.1 hp).1
 have hw' := hw
 rw [wC_eq] at hw'
 have hy := y_voc x s v r lv sv len i k c p hp ⟨cx.lim, s.length + 6 + r.length⟩ (Nat.le_refl _) hl
 obtain ⟨j, h⟩ := l_voc_visit x hw s (r ++ [HObj.cells (encC x).cells]) p ⟨cx.lim, s.length + 6 + r.length⟩
  (fun y hy v => ih y hy (by have := wL_mem hy; omega) (r ++ [HObj.cells (encC x).cells]) v _ (by rw [List.getElem?_append_left hp1]; exact hp) hl) x.parts 0 (v.add x) rfl
 refine go_terms_visit (by simp) ?_
 rw [← vocC_eq] at h
 simp at h
 simp [callFnW, ir_terms_visit, hy, h, frz, AV.under]
 exact vcH_take _
theorem c_voc_walk (s : St) (lv sv : AV) (len i k : Int) (c : C) (p : Nat) (hw : wC c ≤ 100000) (r : St) (v : V4) (cx : Ctx) (hp : r[p]? = some (vcL s.length lv sv len i k c .ready)) (hl : cx.lim ≤ s.length) :
  acallW P0 (.fn (.func F_terms_walk_1) [] [.ip (encC c).cells]) [.yl (s.length + 6 + p)] (vcH s v r) cx = .ret (.tu []) (vcH s (vocC c v) r) := by
 have hv := c_voc_visit s lv sv len i k c p c hw r v ⟨cx.lim, s.length + 6 + r.length⟩ hp hl
 refine go_terms_walk_1 (by simp) ?_
 simp [callFnW, ir_terms_walk_1, hv]
end Go.Ai.Z
namespace Go.Ai.Z
theorem c_KeysM (s : St) (a : Nat) (cx : Ctx) : acallW P0 (.fn (.func F_maps_Keys_map_string_bool_string_bool) [] []) [.mp a] s cx = .ret (.fn (.func 44) [] [.kb (.mp a)]) s :=
 acallW_intrS (h := iKeys 44) rfl rfl
theorem c_SortedM {n : Nat} {V : List Rl} (h : LB n V) (hn : n ≤ 1048576) (s : St) (a : Nat) (ha : s[a]? = some (.map (strM V))) (cx : Ctx) : acallW P0 (.fn (.func F_slices_Sorted_string) [] []) [.fn (.func 44) [] [.kb (.mp a)]] s cx = .ret (slS (isort V)) s := by
 refine acallW_intrS (h := iSorted [44, 49]) rfl ?_
 have h1 := strictS_of (isort_srt h.nd)
 have h2 : keysM s (.mp a) = some V := by simp only [keysM, ha]; exact strM_keys V
 have h3 := h.len
 have h4 : V.length ≤ 1048576 := by omega
 simp [iSorted, h2, h1, h4]
 exact fun x hx => by have := h.nm x hx; omega
theorem l_voc2 (s : St) (x : Ax) (hx : x.Few) (lv : AV) (len i : Int) (cx : Ctx) (hl : cx.lim ≤ s.length) (hb : cx.base ≤ s.length) :
  ∀ (n k : Nat) (v : V4) (r : St), k + n = 2 →
  ∃ (j : Int) (r' : St), loopW (acodeW P0.glob (acallW P0) cx false ir_terms_Vocabulary_L2) [2, 3, 7, 8, 9, 10, 11, 13, 44, 45, 46, 54, 55, 56]
   [(2, .bx [.ns, .ns, .ns, .ns]), (3, .v (.i .i64 0)), (7, .v (.mp s.length)), (8, .v (.mp (s.length + 1))), (9, .v (.mp (s.length + 2))), (10, .v (.mp (s.length + 3))), (11, .v (.pt (s.length + 5) 0)), (13, bxA x), (44, .v lv), (45, .v (.i .i64 len)), (46, .v (.i .i64 i)), (54, .v (.sl [encC x.left, encC x.right])), (55, .v (.i .i64 2)), (56, .v (.i .i64 k))] (vcH s v r) =
   .exit 4 [(2, .bx [.ns, .ns, .ns, .ns]), (3, .v (.i .i64 0)), (7, .v (.mp s.length)), (8, .v (.mp (s.length + 1))), (9, .v (.mp (s.length + 2))), (10, .v (.mp (s.length + 3))), (11, .v (.pt (s.length + 5) 0)), (13, bxA x), (44, .v lv), (45, .v (.i .i64 len)), (46, .v (.i .i64 i)), (54, .v (.sl [encC x.left, encC x.right])), (55, .v (.i .i64 2)), (56, .v (.i .i64 j)), (57, .v (.b false))]
    (vcH s (vocL ([x.left, x.right].drop k) v) r')
 | 0, k, v, r, hk => by
  obtain rfl : k = 2 := by omega
  refine ⟨2, r, loop_step fun K hK => ?_⟩
  simp [ir_terms_Vocabulary_L2, vocL, bxA, cellsA]
 | n + 1, k, v, r, hk => by
  have hw : ∀ c : C, wC c ≤ 150 → ∀ k' : Int, acallW P0 (.fn (.func F_terms_walk_1) [] [.ip (encC c).cells]) [.yl (s.length + 6 + (r.length + 1))] (vcH s v (r ++ [.dfr, vcL s.length lv (.sl [encC x.left, encC x.right]) len i k' c .ready])) cx =
    .ret (.tu []) (vcH s (vocC c v) (r ++ [.dfr, vcL s.length lv (.sl [encC x.left, encC x.right]) len i k' c .ready])) := fun c hc k' =>
   c_voc_walk s lv (.sl [encC x.left, encC x.right]) len i k' c (r.length + 1) (by omega) _ v cx (by simp [List.getElem?_append_right]) hl
  have hg : ∀ (v' : V4) (c : C) (k' : Int), (vcH s v' (r ++ [.dfr, vcL s.length lv (.sl [encC x.left, encC x.right]) len i k' c .ready]))[s.length + 6 + (r.length + 1)]? = some (vcL s.length lv (.sl [encC x.left, encC x.right]) len i k' c .ready) := fun v' c k' => by
   rw [vcH_p]; simp [List.getElem?_append_right]
  have hs : ∀ (v' : V4) (c : C) (k' : Int), (vcH s v' (r ++ [.dfr, vcL s.length lv (.sl [encC x.left, encC x.right]) len i k' c .ready])).set (s.length + 6 + (r.length + 1)) .dead = vcH s v' (r ++ [.dfr, .dead]) := fun v' c k' => by
   rw [vcH_setp, List.set_append_right _ _ (by omega)]; simp
  have e0 : s.length + 6 + r.length + 1 = s.length + 6 + (r.length + 1) := by omega
  have w1 : IntKind.i64.wrap 1 = 1 := w64 (by omega) (by omega)
  have w2 : IntKind.i64.wrap 2 = 2 := w64 (by omega) (by omega)
  have hcase : k = 0 ∨ k = 1 := by omega
  rcases hcase with rfl | rfl
  ·obtain ⟨j, r', ih⟩ := l_voc2 s x hx lv len i cx hl hb n 1 (vocC x.left v) (r ++ [.dfr, .dead]) (by omega)
   refine ⟨j, r', loop_step fun K hK => ?_⟩
   rw [← hK] at ih
   clear hK
   have h1 := hw x.left hx.l 0
   have h2 := hg (vocC x.left v) x.left 0
   have h3 := hs (vocC x.left v) x.left 0
   simp only [vcL, vcE] at h1 h2 h3
   simp [bxA, cellsA, vocL] at ih
   simp at h1 h2 h3
   simp [ir_terms_Vocabulary_L2, bxA, cellsA, vocL, rangeW, plainE, e0, h1, h2, h3, pended, w1, w2, ih]
  ·obtain ⟨j, r', ih⟩ := l_voc2 s x hx lv len i cx hl hb n 2 (vocC x.right v) (r ++ [.dfr, .dead]) (by omega)
   refine ⟨j, r', loop_step fun K hK => ?_⟩
   rw [← hK] at ih
   clear hK
   have h1 := hw x.right hx.r 1
   have h2 := hg (vocC x.right v) x.right 1
   have h3 := hs (vocC x.right v) x.right 1
   simp only [vcL, vcE] at h1 h2 h3
   simp [bxA, cellsA, vocL] at ih
   simp at h1 h2 h3
   simp [ir_terms_Vocabulary_L2, bxA, cellsA, vocL, rangeW, plainE, e0, h1, h2, h3, pended, w1, w2, ih]
def vkE (n : Nat) (lv : AV) (len i : Int) : Env :=
 [(2, .bx [.ns, .ns, .ns, .ns]), (3, .v (.i .i64 0)), (7, .v (.mp n)), (8, .v (.mp (n + 1))), (9, .v (.mp (n + 2))), (10, .v (.mp (n + 3))), (11, .v (.pt (n + 5) 0)), (44, .v lv), (45, .v (.i .i64 len)), (46, .v (.i .i64 i))]
theorem l_voc4 (s : St) (x : Ax) (hx : x.roles.length ≤ 1000) (lv : AV) (len i : Int) (cx : Ctx) (hl : cx.lim ≤ s.length) (hb : cx.base ≤ s.length) :
  ∀ (rest : List Rl) (k : Nat) (v : V4) (r : St), x.roles.drop k = rest →
  ∃ j : Int, loopW (acodeW P0.glob (acallW P0) cx false ir_terms_Vocabulary_L4) [2, 3, 7, 8, 9, 10, 11, 13, 44, 45, 46, 76, 77, 78]
   [(2, .bx [.ns, .ns, .ns, .ns]), (3, .v (.i .i64 0)), (7, .v (.mp s.length)), (8, .v (.mp (s.length + 1))), (9, .v (.mp (s.length + 2))), (10, .v (.mp (s.length + 3))), (11, .v (.pt (s.length + 5) 0)), (13, bxA x), (44, .v lv), (45, .v (.i .i64 len)), (46, .v (.i .i64 i)), (76, .v (slf x.z (x.roles.map .s))), (77, .v (.i .i64 x.roles.length)), (78, .v (.i .i64 k))] (vcH s v r) =
   .exit 8 [(2, .bx [.ns, .ns, .ns, .ns]), (3, .v (.i .i64 0)), (7, .v (.mp s.length)), (8, .v (.mp (s.length + 1))), (9, .v (.mp (s.length + 2))), (10, .v (.mp (s.length + 3))), (11, .v (.pt (s.length + 5) 0)), (13, bxA x), (44, .v lv), (45, .v (.i .i64 len)), (46, .v (.i .i64 i)), (76, .v (slf x.z (x.roles.map .s))), (77, .v (.i .i64 x.roles.length)), (78, .v (.i .i64 j)), (79, .v (.b false))]
    (vcH s { v with r := addL v.r rest } r)
 | [], k, v, r, h => by
  have h1 : ¬ k < x.roles.length := Nat.not_lt.2 (drop_nil h)
  refine ⟨k, loop_step fun K hK => ?_⟩
  simp [ir_terms_Vocabulary_L4, h1, addL, bxA, cellsA]
 | p :: rest, k, v, r, h => by
  obtain ⟨g1, g2, g3, g4⟩ := drop_cons h
  have g5 := g4 g3
  have hwi := wI (i := k) (by omega)
  have l1 : cx.lim ≤ s.length + 1 := by omega
  obtain ⟨j, ih⟩ := l_voc4 s x hx lv len i cx hl hb rest (k + 1) { v with r := addU v.r p } r g2
  refine ⟨j, loop_step fun K hK => ?_⟩
  rw [← hK, show ((k + 1 : Nat) : Int) = (k : Int) + 1 from rfl] at ih
  clear hK g4
  simp only [addL, bxA, cellsA] at ih ⊢
  rw [← ih]
  simp [ir_terms_Vocabulary_L4, g3, g5, hwi, l1, mput_addU, keyK]
theorem l_voc1 (z : Bool) (l : List Ax) (hl : l.length ≤ 1000) (hx : ∀ x ∈ l, x.Few) (s : St) (cx : Ctx) (hl0 : cx.lim ≤ s.length) (hb : cx.base ≤ s.length) :
  ∀ (rest : List Ax) (i : Nat) (v : V4) (r : St), l.drop i = rest →
  ∃ (j : Int) (r' : St), loopW (acodeW P0.glob (acallW P0) cx false ir_terms_Vocabulary_L1) [2, 3, 7, 8, 9, 10, 11, 44, 45, 46] (vkE s.length (slf z (l.map encA)) l.length i) (vcH s v r) =
   .exit 2 (vkE s.length (slf z (l.map encA)) l.length j ++ [(47, .v (.b false))]) (vcH s (vocAll rest v) r')
 | [], i, v, r, h => by
  have h1 : ¬ i < l.length := Nat.not_lt.2 (drop_nil h)
  refine ⟨i, r, loop_step fun K hK => ?_⟩
  simp [ir_terms_Vocabulary_L1, h1, vocAll, vkE]
 | x :: rest, i, v, r, h => by
  obtain ⟨g1, g2, g3, g4⟩ := drop_cons h
  have g5 := g4 g3
  have hwi := wI (i := i) (by omega)
  have l1 : cx.lim ≤ s.length + 1 := by omega
  have l3 : cx.lim ≤ s.length + 3 := by omega
  have hxf := hx x (by rw [← g5]; exact List.getElem_mem g3)
  obtain ⟨j2, r2, e2⟩ := l_voc2 s x hxf (slf z (l.map encA)) l.length i cx hl0 hb 2 0 v r (by omega)
  obtain ⟨j4, e4⟩ := l_voc4 s x (by have := hxf.roles; omega) (slf z (l.map encA)) l.length i cx hl0 hb x.roles 0 (vocC x.right (vocC x.left v)) r2 rfl
  obtain ⟨j, r', ih⟩ := l_voc1 z l hl hx s cx hl0 hb rest (i + 1) (vocA x v) r2 g2
  refine ⟨j, r', loop_step fun K hK => ?_⟩
  rw [← hK, show ((i + 1 : Nat) : Int) = (i : Int) + 1 from rfl] at ih
  clear hK g4 hx
  simp only [List.drop_zero, vocL, Int.ofNat_zero, bxA, cellsA] at e2 e4
  simp only [vocAll]
  rw [← ih]
  try simp at e2
  try simp at e4
  simp [ir_terms_Vocabulary_L1, vkE, show List.range 2 = [0, 1] from rfl, g3, g5, hwi, e2, e4, l1, l3, mput_addU, keyK, vocA]
theorem l_voc0 (z : Bool) (l : List Ax) (hl : l.length ≤ 1000) (hx : ∀ x ∈ l, x.Few) (h0 : chkL l = 0) (s : St) (cx : Ctx) :
  ∀ (rest : List Ax) (i : Nat), l.drop i = rest →
  ∃ j : Int, loopW (acodeW P0.glob (acallW P0) cx false ir_terms_Vocabulary_L0) [0, 2, 3, 21, 22, 23]
   [(0, .v (slf z (l.map encA))), (2, .bx [.ns, .ns, .ns, .ns]), (3, .v (.i .i64 0)), (21, .v (slf z (l.map encA))), (22, .v (.i .i64 l.length)), (23, .v (.i .i64 i))] s =
   .exit 0 [(0, .v (slf z (l.map encA))), (2, .bx [.ns, .ns, .ns, .ns]), (3, .v (.i .i64 0)), (21, .v (slf z (l.map encA))), (22, .v (.i .i64 l.length)), (23, .v (.i .i64 j)), (24, .v (.b false))] s
 | [], i, h => by
  have h1 : ¬ i < l.length := Nat.not_lt.2 (drop_nil h)
  refine ⟨i, loop_step fun K hK => ?_⟩
  simp [ir_terms_Vocabulary_L0, h1]
 | x :: rest, i, h => by
  obtain ⟨g1, g2, g3, g4⟩ := drop_cons h
  have g5 := g4 g3
  have hwi := wI (i := i) (by omega)
  have hm : x ∈ l := by rw [← g5]; exact List.getElem_mem g3
  have e1 := c_terms_CheckAxiom x (hx x hm)
  have hc := chkL_mem h0 x hm
  rw [hc] at e1
  obtain ⟨j, ih⟩ := l_voc0 z l hl hx h0 s cx rest (i + 1) g2
  refine ⟨j, loop_step fun K hK => ?_⟩
  rw [← hK, show ((i + 1 : Nat) : Int) = (i : Int) + 1 from rfl] at ih
  clear hK g4 hx
  rw [← ih]
  simp [ir_terms_Vocabulary_L0, g3, g5, hwi, e1]
theorem vcH_0' {s r : St} {v : V4} : (vcH s v r).take s.length = s := by simp [vcH]
theorem slS_under (n : Nat) (K : List Rl) : (slS K).under n = true := by
 cases K with
 | nil => simp [slS, AV.under]
 | cons a K => simp [slS, AV.under, underL, underL_strs]
theorem slS_plain (K : List Rl) : (slS K).plain = slS K := by cases K <;> rfl
theorem slS_cells (K : List Rl) : (slS K).cells = [slS K] := by cases K <;> rfl
theorem slS_plain1 (K : List Rl) : (slS K).plain1 = slS K := by cases K <;> rfl
theorem slS_one (K : List Rl) : (slS K).one = true := by cases K <;> rfl
theorem c_terms_Vocabulary (z : Bool) (l : List Ax) (hl : l.length ≤ 100) (hx : ∀ x ∈ l, x.Few) (h0 : chkL l = 0) :
  ∃ A R F I : List Rl, R.length ≤ 1000000 ∧ (∀ r ∈ R, r.length ≤ 7000) ∧ ∀ (s : St) (cx : Ctx), acallW P0 (.fn (.func F_terms_Vocabulary) [] []) [slf z (l.map encA)] s cx = .ret (.tu [.ag [slS A, slS R, slS F, slS I], .i .i64 0]) s := by
 have hv := vocAll_VB hx VB.nil
 rw [Nat.zero_add] at hv
 have hv := hv.le (show 1000 * l.length ≤ 1000000 by omega)
 generalize hV : vocAll l V4.nil = V at hv
 have hR := hv.r.del []
 have hI := hv.i.del []
 refine ⟨isort V.c, isort (delU V.r []), isort V.f, isort (delU V.i []), ?_, fun r hr => hR.nm r ((isort_perm _).mem_iff.1 hr), fun s cx => go_terms_Vocabulary (by simp) ?_⟩
 ·rw [(isort_perm _).length_eq]; exact hR.len
 obtain ⟨j0, e0⟩ := l_voc0 z l (by omega) hx h0 s ⟨s.length, s.length⟩ l 0 rfl
 obtain ⟨j1, r1, e1⟩ := l_voc1 z l (by omega) hx s ⟨s.length, s.length⟩ (Nat.le_refl _) (Nat.le_refl _) l 0 V4.nil [] rfl
 rw [hV] at e1
 rw [show vcH s V4.nil [] = s ++ [.map [], .map [], .map [], .map [], .map [(.i .i64 3, .mp s.length), (.i .i64 6, .mp (s.length + 1)), (.i .i64 7, .mp (s.length + 2)), (.i .i64 4, .mp (s.length + 3))], .cells [.mp (s.length + 4)]] from rfl] at e1
 simp [vkE] at e0 e1
 have k0 := c_SortedM hv.c (by omega) (vcH s { V with r := delU V.r [], i := delU V.i [] } r1) s.length (by simp)
 have k1 := c_SortedM hR (by omega) (vcH s { V with r := delU V.r [], i := delU V.i [] } r1) (s.length + 1) (by simp)
 have k2 := c_SortedM hv.f (by omega) (vcH s { V with r := delU V.r [], i := delU V.i [] } r1) (s.length + 2) (by simp)
 have k3 := c_SortedM hI (by omega) (vcH s { V with r := delU V.r [], i := delU V.i [] } r1) (s.length + 3) (by simp)
 clear hv hR hI hV hx
 simp [callFnW, ir_terms_Vocabulary, e0, e1, c_KeysM, k0, k1, k2, k3, mdel_strM, keyK, mput, keyEq, slS_plain, slS_plain1, slS_cells, show ¬ s.length + 6 + r1.length = s.length by omega, slS_one, slS_under, fillC, frz, AV.under, underL, vcH_0']
end Go.Ai.Z
