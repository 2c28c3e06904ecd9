/-
 Tokens of a text.
-/
import Derived.Test.YtpnlnnfcaeednaaGreatDoorAiKTKUKV
set_option maxRecDepth 100000
set_option linter.unusedSimpArgs false
set_option linter.unusedVariables false
set_option linter.unusedSectionVars false
namespace Go.Ai.Z
def blkB (b : UInt8) : Bool := decide (clsB b = 1)
abbrev Tok := Int × List UInt8 × Nat
def encTok (t : Tok) : AV := .ag [.i .i64 t.1, .s t.2.1, .i .i64 t.2.2]
def lexN : Nat → List UInt8 → Nat → Option (List Tok)
 | 0, _, _ => none
 | n + 1, b, a =>
  match b.dropWhile blkB with
  | [] => some [(4, [], a + b.length)]
  | c :: r =>
   if clsB c = 2 then none
   else if (scanS (c :: r)).1 = 0 then none
   else (lexN n ((c :: r).drop (scanS (c :: r)).2) (a + (b.length - (c :: r).length) + (scanS (c :: r)).2)).map (((scanS (c :: r)).1, (c :: r).take (scanS (c :: r)).2, a + (b.length - (c :: r).length)) :: ·)
def stT (s : St) (a n : Int) : St := s ++ [.cells [.ns], .cells tabL, .cells [.i .i64 a], .cells [.i .i64 n], .cells [.i .i64 (-1)]]
@[simp] theorem stT_0 (s : St) (a n : Int) : (stT s a n)[s.length]? = some (.cells [.ns]) := by simp [stT]
@[simp] theorem stT_1 (s : St) (a n : Int) : (stT s a n)[s.length + 1]? = some (.cells tabL) := by simp [stT]
@[simp] theorem stT_2 (s : St) (a n : Int) : (stT s a n)[s.length + 2]? = some (.cells [.i .i64 a]) := by simp [stT]
@[simp] theorem stT_3 (s : St) (a n : Int) : (stT s a n)[s.length + 3]? = some (.cells [.i .i64 n]) := by simp [stT]
@[simp] theorem stT_s2 (s : St) (a n x : Int) : (stT s a n).set (s.length + 2) (.cells [.i .i64 x]) = stT s x n := by simp [stT]
@[simp] theorem stT_s3 (s : St) (a n x : Int) : (stT s a n).set (s.length + 3) (.cells [.i .i64 x]) = stT s a x := by simp [stT]
@[simp] theorem stT_s0 (s : St) (a n : Int) : (stT s a n).set (s.length) (.cells [.ns]) = stT s a n := by simp [stT]
theorem stT_len (s : St) (a n : Int) : (stT s a n).length = s.length + 5 := by simp [stT]
@[simp] theorem stT_take (s : St) (a n : Int) : (stT s a n).take s.length = s := by simp [stT]
def envT (s : St) (src : List UInt8) (ts : List Tok) : Env := [(0, .v (.sl (bytesAV src))), (2, .own false T_api_Token_1 3 (ts.map encTok)), (3, .v (.pt s.length 0)), (5, .v (.pt (s.length + 1) 0)),
 (6, .v (.pt (s.length + 2) 0)), (8, .v (.pt (s.length + 3) 0)), (10, .v (.fn (.func F_lexis_Tokens_1) [] [.pt (s.length + 2) 0, .pt (s.length + 4) 0, .pt s.length 0, .pt (s.length + 3) 0]))]
theorem drop_add {α : Type} {l r : List α} {i k : Nat} (h : l.drop i = r) : l.drop (i + k) = r.drop k := by rw [← List.drop_drop, h]
theorem l_blank (s : St) (cx : Ctx) (hcx : cx.lim ≤ s.length) (hbs : cx.base ≤ s.length) (src : List UInt8) (hl : src.length ≤ 65536) (ts : List Tok) (n : Int) : ∀ (b : List UInt8) (i : Nat), src.drop i = b →
  loopW (acodeW P0.glob (acallW P0) cx false ir_lexis_Tokens_L1) [0, 2, 3, 5, 6, 8, 10] (envT s src ts) (stT s i n) =
   .exit 0 (envT s src ts ++ [(28, .v (.b false))]) (stT s ((i + (b.length - (b.dropWhile blkB).length) : Nat) : Int) n)
 | [], i, h => by
  have h1 : ¬ i < src.length := Nat.not_lt.2 (drop_nil h)
  have hb := bytes_len src
  refine loop_step fun K hK => ?_
  simp [ir_lexis_Tokens_L1, envT, hb, h1]
 | c :: r, i, h => by
  obtain ⟨h1, h2, h3, h4⟩ := drop_cons h
  have hb : ∀ h, (bytesAV src)[i]'h = .i .u8 c.toNat := fun h => bytes_get src i h h1
  have hbl := bytes_len src
  have hw := wI (i := i) (by omega)
  have ht := tab_get' c
  have hlt : c.toNat < 256 := c.toNat_lt
  have hc1 : cx.lim ≤ s.length + 2 := by omega
  have hc2 : cx.base ≤ s.length + 2 := by omega
  have ih := l_blank s cx hcx hbs src hl ts n r (i + 1) h2
  refine loop_step fun K hK => ?_
  rw [← hK, show ((i + 1 : Nat) : Int) = (i : Int) + 1 from rfl] at ih
  clear hK
  have hdl := (List.dropWhile_sublist (p := blkB) (l := r)).length_le
  by_cases c1 : clsB c = 1
  ·have hwr : blkB c = true := by simp [blkB, c1]
   have e : i + 1 + (r.length - (r.dropWhile blkB).length) = i + ((c :: r).length - ((c :: r).dropWhile blkB).length) := by
    simp only [List.dropWhile_cons, hwr, if_true, List.length_cons]; omega
   rw [e] at ih
   simp [envT] at ih
   simp [ir_lexis_Tokens_L1, envT, h3, hb, hbl, ht, hlt, c1, hw, hc1, hc2, ih]
  ·have hwr : blkB c = false := by simp [blkB, c1]
   have e : i + ((c :: r).length - ((c :: r).dropWhile blkB).length) = i := by
    simp only [List.dropWhile_cons, hwr]; simp
   rw [e]
   simp [ir_lexis_Tokens_L1, envT, h3, hb, hbl, ht, hlt, c1, hw, hwr]
def tokBody : ACode := ir_lexis_Tokens_L0.snd
theorem tok_L0 : ir_lexis_Tokens_L0 = .seq .skip tokBody := rfl
theorem tok_cells (ts : List Tok) : (ts.map encTok).all (fun e => e.cells.length == 3) = true := by simp [encTok]
theorem tok_under (n : Nat) (ts : List Tok) : underL n (ts.map encTok) = true := by
 induction ts with
 | nil => simp
 | cons a r ih => simp [encTok, ih]
theorem scan_le (c : UInt8) (r : List UInt8) : (scanS (c :: r)).2 ≤ (c :: r).length := by
 have h1 := runS_le (c :: r)
 rw [scan_cons]
 split
 ·split
  ·rename_i d e q hx
   have h2 := runS_le (e :: q)
   have h3 : (c :: r).length - runS (c :: r) = q.length + 2 := by simpa using congrArg List.length hx
   simp only [List.length_cons] at *
   split <;> simp only [] <;> omega
  ·exact h1
 ·split
  ·split
   ·simp
   ·rename_i d q
    have h2 := runS_le (d :: q)
    unfold intTok
    simp only [List.length_cons] at *
    repeat' split
    all_goals simp only []; omega
  ·split
   ·unfold intTok; split <;> exact h1
   ·split <;> simp
theorem scan_pos (c : UInt8) (r : List UInt8) : 0 < (scanS (c :: r)).2 := by
 rw [scan_cons]
 split
 ·rename_i h3
  have h1 : 0 < runS (c :: r) := runS_pos (.inl h3)
  split
  ·split <;> simp only [] <;> omega
  ·exact h1
 ·split
  ·split
   ·simp
   ·unfold intTok
    repeat' split
    all_goals simp only []; omega
  ·split
   ·rename_i h4
    have h1 : 0 < runS (c :: r) := runS_pos (.inr h4)
    unfold intTok; split <;> exact h1
   ·split <;> simp
theorem l_tokens (s : St) (cx : Ctx) (hcx : cx.lim ≤ s.length) (hbs : cx.base ≤ s.length) (src : List UInt8) (hl : src.length ≤ 65536) : ∀ (k : Nat) (b : List UInt8) (i : Nat) (n : Int) (ts res : List Tok), src.drop i = b → i ≤ src.length → ts.length ≤ i → lexN k b i = some res →
  ∃ n' : Int, scopeW (acodeW P0.glob (acallW P0) cx false ir_lexis_Tokens_L0) 0 [0, 2, 3, 5, 6, 8, 10] (envT s src ts) (stT s i n) =
   .ret [(2, .v (.sl ((ts ++ res).map encTok))), (3, .v (.pt s.length 0)), (4, .v (.i .i64 0))] (stT s src.length n')
 | 0, _, _, _, _, _, _, _, _, h => by simp [lexN] at h
 | k + 1, b, i, n, ts, res, hd, hi, hts, h => by
  have hbk := l_blank s cx hcx hbs src hl ts n b i hd
  have hblen : b.length = src.length - i := by rw [← hd]; simp
  have hkeep : keepE (envT s src ts) [0, 2, 3, 5, 6, 8, 10] = envT s src ts := by simp [envT]
  unfold lexN at h
  have hdl := (List.dropWhile_sublist (p := blkB) (l := b)).length_le
  cases hx : b.dropWhile blkB with
  | nil =>
   rw [hx] at h hbk
   simp only [Option.some.injEq] at h
   subst h
   have e : i + b.length = src.length := by omega
   have hbl := bytes_len src
   have ht1 := tok_cells ts
   have hm : ts.length + 1 ≤ 1073741824 := by omega
   refine ⟨n, scope_step fun K hK => ?_⟩
   clear hK
   rw [hkeep, tok_L0]
   simp only [List.length_nil, Nat.sub_zero, e] at hbk
   simp only [envT, List.cons_append, List.nil_append] at hbk
   simp [tokBody, ir_lexis_Tokens_L0, ACode.snd, envT, hbk, hbl, maxSl, hm, fillC, e, hcx, hbs, encTok]
  | cons c r =>
   rw [hx] at h hbk
   simp only [] at h
   split at h
   ·cases h
   rename_i c2
   split at h
   ·cases h
   rename_i k0
   rw [hx] at hdl
   generalize hj : i + (b.length - (c :: r).length) = j at h hbk
   have hbd : b.drop (b.length - (c :: r).length) = c :: r := by
    have := List.takeWhile_append_dropWhile (p := blkB) (l := b)
    rw [hx] at this
    have hlen := congrArg List.length this
    simp only [List.length_append] at hlen
    rw [← this, List.length_append, Nat.add_sub_cancel]
    simp
   have hdj : src.drop j = c :: r := by rw [← hj, drop_add hd, hbd]
   obtain ⟨h1, h2, h3, h4⟩ := drop_cons hdj
   have hb : ∀ h, (bytesAV src)[j]'h = .i .u8 c.toNat := fun h => bytes_get src j h h1
   have hbl := bytes_len src
   have ht := tab_get' c
   have hlt : c.toNat < 256 := c.toNat_lt
   have hcl : (c :: r).length = src.length - j := by rw [← hdj]; simp
   have hsl := scan_le c r
   have hsp := scan_pos c r
   have hscan := c_lexis_scan (stT s j n) cx (s.length + 1) (by simp) (c :: r) (by omega) (by simp)
   have hs1 : ((bytesAV src).drop j).take (src.length - j) = bytesAV (c :: r) := by
    rw [bytes_drop, hdj, List.take_of_length_le (by rw [bytes_len]; omega)]
   have hal := bytes_all src
   generalize hsc : scanS (c :: r) = sc at h hscan hsl hsp k0
   obtain ⟨kd, w⟩ := sc
   simp only [] at h hscan hsl hsp k0
   cases hlex : lexN k ((c :: r).drop w) (j + w) with
   | none => rw [hlex] at h; cases h
   | some res1 =>
    rw [hlex] at h
    simp only [Option.map_some, Option.some.injEq] at h
    subst h
    have hij : i ≤ j := by omega
    have ih := l_tokens s cx hcx hbs src hl k ((c :: r).drop w) (j + w) w (ts ++ [(kd, (c :: r).take w, j)]) res1 (by rw [drop_add hdj]) (by omega) (by simp; omega) hlex
    obtain ⟨n', ih⟩ := ih
    have hs2 : ((bytesAV src).drop j).take w = bytesAV ((c :: r).take w) := by rw [bytes_drop, hdj, bytes_take]
    have hstr := bytes_str ((c :: r).take w)
    have w1 : IntKind.i64.wrap ((j : Int) + w) = (j : Int) + w := w64 (by omega) (by omega)
    have n1 : ((j : Int) + w).toNat = j + w := by omega
    have z1 : (0 : Int) ≤ (j : Int) + w := by omega
    have n2 : j + w - j = w := by omega
    have q1 : j ≤ src.length := by omega
    have q2 : j + w ≤ src.length := by omega
    have ht1 := tok_cells ts
    have hm : ts.length + 1 ≤ 1073741824 := by omega
    have j2 : ¬ (j : Int) = src.length := by omega
    have d2 : cx.lim ≤ s.length + 2 := by omega
    have d3 : cx.base ≤ s.length + 2 := by omega
    have d4 : cx.lim ≤ s.length + 3 := by omega
    have d5 : cx.base ≤ s.length + 3 := by omega
    refine ⟨n', scope_step fun K hK => ?_⟩
    rw [← hK] at ih
    clear hK
    rw [hkeep, tok_L0]
    rw [show ((j + w : Nat) : Int) = (j : Int) + w from rfl] at ih
    simp only [envT, List.cons_append, List.nil_append, List.map_append, List.map_cons, List.map_nil] at hbk ih
    simp [tokBody, ir_lexis_Tokens_L0, ACode.snd, envT, hbk, hbl, maxSl, hm, fillC, hcx, hbs, j2, h3, hb, ht, hlt, c2, hal, hs1, hscan, q1, q2, d2, d3, d4, d5, k0, w1, n1, z1, n2, hs2, hstr]
    rw [List.append_assoc] at ih
    exact ih
def _root_.Go.Ai.ACode.sca : ACode → ACode
 | .scope _ _ a _ => a
 | c => c
theorem tok_split : ir_lexis_Tokens.code = .seq ir_lexis_Tokens.code.fst (.scope 0 [0, 2, 3, 5, 6, 8, 10] (.seq ir_lexis_Tokens.code.snd.sca.fst (.seq ir_lexis_Tokens.code.snd.sca.snd.fst (.seq ir_lexis_Tokens.code.snd.sca.snd.snd.fst
  (.seq ir_lexis_Tokens.code.snd.sca.snd.snd.snd.fst (.seq ir_lexis_Tokens.code.snd.sca.snd.snd.snd.snd.fst (.seq (.label 0) tokBody)))))) ir_lexis_Tokens_L0) := rfl
theorem c_lexis_Tokens (src : List UInt8) (hl : src.length ≤ 65536) (k : Nat) (res : List Tok) (h : lexN k src 0 = some res) (s : St) (cx : Ctx) (hcx : cx.lim ≤ s.length) :
  acallW P0 (.fn (.func F_lexis_Tokens) [] []) [.sl (bytesAV src)] s cx = .ret (.tu [.sl (res.map encTok), .ns, .i .i64 0]) s := by
 refine go_lexis_Tokens (by simp) ?_
 obtain ⟨n', hm⟩ := l_tokens s ⟨cx.lim, s.length⟩ hcx (Nat.le_refl _) src hl k src 0 0 [] res rfl (Nat.zero_le _) (Nat.zero_le _) h
 rw [scopeW_eq] at hm
 have hkeep : keepE (envT s src []) [0, 2, 3, 5, 6, 8, 10] = envT s src [] := by simp [envT]
 have e : ∀ (env : Env) (s' : St), acodeW P0.glob (acallW P0) ⟨cx.lim, s.length⟩ false ir_lexis_Tokens_L0 env s' = acodeW P0.glob (acallW P0) ⟨cx.lim, s.length⟩ false tokBody env s' := fun env s' => by rw [tok_L0]; simp
 rw [hkeep, e] at hm
 have hsrc : ¬ ((65536 : Int) < src.length) := by omega
 have hbl := bytes_len src
 have hcl := c_lexis_classes
 have hu := tok_under s.length res
 unfold callFnW
 rw [tok_split]
 have hc0 : cx.lim ≤ s.length + 1 := by omega
 have hc1 : cx.lim ≤ s.length + 2 := by omega
 have hc2 : cx.lim ≤ s.length + 3 := by omega
 have hc3 : cx.lim ≤ s.length + 4 := by omega
 simp [ir_lexis_Tokens, ACode.fst, ACode.snd, ACode.sca, hbl, hsrc, hcl, hc0, hc1, hc2, hc3]
 have hm2 := hm
 simp only [envT, List.map_nil, List.nil_append, show ((0 : Nat) : Int) = 0 from rfl] at hm2
 rw [show stT s 0 0 = s ++ [.cells [.ns], .cells tabL, .cells [.i .i64 0], .cells [.i .i64 0], .cells [.i .i64 (-1)]] from rfl] at hm2
 rw [hm2]
 simp
 simp [hu, frz, stT_len, AV.under]
end Go.Ai.Z
