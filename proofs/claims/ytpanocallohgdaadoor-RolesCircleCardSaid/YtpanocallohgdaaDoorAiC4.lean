/-
 What the library's maps.Keys and slices.Sorted come to, for the interpreter's heap.
-/
import Derived.Test.YtpanocallohgdaaDoorAiRn5
import Derived.Test.YtpanocallohgdaaDoorAiC1
import Derived.Sort.KeysCollected
import Derived.Test.YtpanocallohgdaaDoorAiB2
import Derived.Test.YtpanocallohgdaaDoorShelf
import Derived.Test.YtpanocallohgdaaDoorIter
import Derived.Lib.Join
set_option maxRecDepth 100000
set_option linter.unusedSimpArgs false
set_option linter.unusedVariables false
namespace Go.Ai
open Go.Proofs (encStr)
open Go.Maps Go.Sort
variable {P : Program} {glob : Nat → Option (List AV)} {g : Ghost} {s : St} {w : World}
theorem foldr_insert_perm {H : Type} : ∀ (l : List (Lit × DataW H)), (l.foldr DataW.insert []).Perm l := by
 have one : ∀ (x : Lit × DataW H) (l : List (Lit × DataW H)), (DataW.insert x l).Perm (x :: l) := by
  intro x l
  induction l with
  | nil => exact .refl _
  | cons y r ih =>
   simp only [DataW.insert]
   split
   ·exact .refl _
   ·exact (List.Perm.cons y ih).trans (List.Perm.swap x y r)
 intro l
 induction l with
 | nil => exact .refl _
 | cons x r ih => exact (one x _).trans (List.Perm.cons x ih)
theorem map_enc_inj : ∀ (a b : List (List UInt8)), a.map encStr = b.map encStr → a = b
 | [], [], _ => rfl
 | [], _ :: _, h => by simp at h
 | _ :: _, [], h => by simp at h
 | x :: a, y :: b, h => by
  simp only [List.map_cons, List.cons.injEq] at h
  rw [encStr_inj h.1, map_enc_inj a b h.2]
def decStr : Value → List UInt8
 | .string s => s.data.toList
 | _ => []
theorem dec_enc (x : List UInt8) : decStr (encStr x) = x := by simp [decStr, encStr]
theorem perm_enc (a b : List (List UInt8)) (h : (a.map encStr).Perm (b.map encStr)) : a.Perm b := by
 have := h.map decStr
 simpa [List.map_map, Function.comp_def, dec_enc] using this
theorem owns_keys {kt : TypeId} (hk : P.underlying kt = some .string) {b clock : Nat} {ents : Array MapEntry} (hb : w.heap[b]? = some (.map ents clock)) (hbn : Born ents clock) {ks : List (List UInt8)}
  (hks : ents.toList.map (·.key) = ks.map encStr) (hnd : ks.Nodup) (hl : ks.length ≤ 1048576) (hl2 : ∀ x ∈ ks, x.length ≤ 1048576) :
  ∃ D0 : DataW Unit, w.ownsMap P kt (fun _ => some ((.nil : DataW Unit), [])) b ents.size D0 ∧ (strKeys D0).Perm ks ∧ Maps.size D0 = ks.length := by
 have hsz : ents.size = ks.length := by have := congrArg List.length hks; simpa using this
 have hkey : ∀ x ∈ ents.toList, ∃ u ∈ ks, x.key = encStr u := by
  intro x hx
  have : x.key ∈ ents.toList.map (·.key) := List.mem_map.2 ⟨x, hx, rfl⟩
  rw [hks] at this
  obtain ⟨u, hu, he⟩ := List.mem_map.1 this
  exact ⟨u, hu, he.symm⟩
 have hko : ∀ u ∈ ks, keyOf P kt (encStr u) = some (.string u) := by
  intro u hu
  have := hl2 u hu
  have h3 : u.length ≤ maxLen := by simp only [maxLen]; omega
  simp [keyOf, hk, mapKey, encStr, ByteArray.size_mk', h3]
 have hrd : ∀ x ∈ ents.toList, ∃ u ∈ ks, x.key = encStr u ∧ WideElems.rd P kt (fun _ => some ((.nil : DataW Unit), [])) x = some (.string u, .nil) := by
  intro x hx
  obtain ⟨u, hu, he⟩ := hkey x hx
  refine ⟨u, hu, he, ?_⟩
  simp [WideElems.rd, he, hko u hu]
 have hinj : ∀ a b : List UInt8, encStr a = encStr b → a = b := fun a b h => encStr_inj h
 refine ⟨.map ((ents.toList.map (WideElems.rg P kt (fun _ => some ((.nil : DataW Unit), [])))).foldr DataW.insert []), ⟨ents, clock, hb, ⟨by simp only [maxLen]; omega, ⟨hbn.1, hbn.2, ?_⟩, fun x hx => ?_⟩, Nat.le_refl _, rfl⟩, ?_, ?_⟩
 ·rw [hks]
  exact List.Pairwise.map _ (fun a b hab h => hab (hinj a b h)) hnd
 ·obtain ⟨u, _, _, hr⟩ := hrd x hx
  exact ⟨_, hr⟩
 ·show (((ents.toList.map (WideElems.rg P kt (fun _ => some ((.nil : DataW Unit), [])))).foldr DataW.insert []).map fun p => Go.strOf p.1).Perm ks
  refine ((foldr_insert_perm _).map _).trans ?_
  rw [List.map_map]
  have : ents.toList.map ((fun p : Lit × DataW Unit => Go.strOf p.1) ∘ WideElems.rg P kt (fun _ => some ((.nil : DataW Unit), []))) = ks := by
   have h1 : ∀ x ∈ ents.toList, encStr (((fun p : Lit × DataW Unit => Go.strOf p.1) ∘ WideElems.rg P kt (fun _ => some ((.nil : DataW Unit), []))) x) = x.key := by
    intro x hx
    obtain ⟨u, _, he, hr⟩ := hrd x hx
    simp only [Function.comp, WideElems.rg, hr, Option.getD_some, Go.strOf, he]
   have h2 : (ents.toList.map ((fun p : Lit × DataW Unit => Go.strOf p.1) ∘ WideElems.rg P kt (fun _ => some ((.nil : DataW Unit), [])))).map encStr = ks.map encStr := by
    rw [← hks, List.map_map]
    exact List.map_congr_left h1
   exact map_enc_inj _ _ h2
  rw [this]
 ·have := (foldr_insert_perm (ents.toList.map (WideElems.rg P kt (fun _ => some ((.nil : DataW Unit), []))))).length_eq
  simp only [Maps.size, this, List.length_map]
  simpa using hsz
theorem flat_strs : ∀ l : List (List UInt8), (l.map AV.s).flatMap AV.cells = l.map AV.s
 | [] => rfl
 | a :: l => by simp [AV.cells, flat_strs l]
theorem intr_strs (h : Base P glob g s w) {w' : World} (hg : Grew w w') {t : TypeId} {v : Value} {l : List (List UInt8)} (hown : w'.ownsRow w.heap.size t 1 v l.length (l.map encStr)) (hne : l ≠ []) :
  ∃ g', g.le s.length g' s.length ∧ g'.L = g.L ∧ g'.hist = g.hist ∧ (∀ b, b < w.heap.size → g'.m b = g.m b ∧ g'.mm b = g.mm b) ∧ Imm g' w' ∧ Rep g' s.length v (.sl (l.map .s)) := by
 rcases hown.2 with ⟨_, hn⟩ | ⟨b, cap, cur, hv, hB, hrow, hcap, _, _, htake⟩
 ·exact absurd (List.eq_nil_of_length_eq_zero hn) hne
 ·have hfr := h.imm.fresh hB
  have hother : ∀ b', b' ≠ b → (g.claim b (l.map encStr)).m b' = g.m b' := by intro b' hb'; funext j; simp [Ghost.claim, hb']
  have him := h.imm.grew hg
  have hcell : ∀ j (hj : j < (l.map encStr).length), w'.cell? ⟨b, j, none⟩ = some (l.map encStr)[j] := by
   intro j hj
   rw [cell_of_row w' b j cur t (0, 0) hrow]
   have e1 : (cur.toList.take (l.length * 1))[j]? = some (l.map encStr)[j] := by rw [htake]; exact List.getElem?_eq_getElem hj
   rw [List.getElem?_take] at e1
   split at e1
   ·simpa using e1
   ·cases e1
  refine ⟨g.claim b (l.map encStr), ⟨fun b' o u hm => ?_, fun _ _ h => h, fun _ _ => rfl, fun _ _ _ _ h => h, Nat.le_refl _⟩, rfl, rfl, fun b' hb' => ⟨hother b' (by omega), rfl⟩, ⟨fun b' o u hm => ?_, him.mm⟩, ?_⟩
  ·by_cases hbb : b' = b
   ·subst hbb; rw [hfr.m o] at hm; cases hm
   ·rw [hother b' hbb]; exact hm
  ·by_cases hbb : b' = b
   ·subst hbb
    simp only [Ghost.claim, true_and] at hm
    split at hm
    ·rename_i ho
     rw [hcell o ho]
     rw [List.getElem?_eq_getElem ho] at hm; exact hm
    ·rw [hfr.m o] at hm; cases hm
   ·rw [hother b' hbb] at hm; exact him.m b' o u hm
  ·rw [hv]
   have hflat : (l.map AV.s).flatMap AV.cells = l.map AV.s := by
    exact flat_strs l
   have := rep_sl (g := g.claim b (l.map encStr)) (n := s.length) (b := b) (off := 0) (cap := cap) (sz := 1) (es := l.map AV.s) (xs := l.map encStr) (by simpa using hcap)
    (fun y hy => by simp at hy; obtain ⟨x, _, rfl⟩ := hy; rfl)
    (by rw [hflat]; exact ⟨by simp, fun i hi hi' => by simp [encStr]; exact .s _⟩)
    (fun u hu => by simp at hu; obtain ⟨x, _, rfl⟩ := hu; rfl) (fun j hj => by rw [Nat.zero_add]; simp [Ghost.claim]; simp at hj; simp [hj])
   simpa using this
theorem intr_box (h : Base P glob g s w) {c : Value} {m : AV} {ty : TypeId} (hr : Rep g s.length c m) :
  ∃ g', g.le s.length g' s.length ∧ g'.L = g.L ∧ g'.hist = g.hist ∧ (∀ b, b < w.heap.size → g'.m b = g.m b ∧ g'.mm b = g.mm b) ∧ Imm g' (w.alloc (.cells #[c] ty)) ∧ Rep g' s.length (.pointer (some ⟨w.heap.size, 0, none⟩)) (.kb m) := by
 have hfr := h.imm.fresh (Nat.le_refl w.heap.size)
 have hother : ∀ b', b' ≠ w.heap.size → (g.claim w.heap.size [c]).m b' = g.m b' := by intro b' hb'; funext j; simp [Ghost.claim, hb']
 have him := h.imm.grew (Grew.alloc w (.cells #[c] ty))
 have hle : g.le s.length (g.claim w.heap.size [c]) s.length := by
  refine ⟨fun b' o u hm => ?_, fun _ _ h => h, fun _ _ => rfl, fun _ _ _ _ h => h, Nat.le_refl _⟩
  by_cases hbb : b' = w.heap.size
  ·subst hbb; rw [hfr.m o] at hm; cases hm
  ·rw [hother b' hbb]; exact hm
 refine ⟨g.claim w.heap.size [c], hle, rfl, rfl, fun b' hb' => ⟨hother b' (by omega), rfl⟩, ⟨fun b' o u hm => ?_, him.mm⟩, .kb _ c m (by simp [Ghost.claim]) (hr.mono hle)⟩
 by_cases hbb : b' = w.heap.size
 ·subst hbb
  simp only [Ghost.claim, true_and] at hm
  split at hm
  ·rename_i ho
   have : o = 0 := by simp at ho; exact ho
   subst this
   rw [cell_of_row _ _ 0 #[c] ty (0, 0) (heap_alloc_new w _)]
   simpa using hm
  ·rw [hfr.m o] at hm; cases hm
 ·rw [hother b' hbb] at hm; exact him.m b' o u hm
theorem mapM_keys {N : Nat} : ∀ (es : List AV) (vs : List Value) {ks : List (List UInt8)}, RepL g N vs es → es.mapM Ai.strOf = some ks → vs = ks.map encStr
 | [], vs, ks, hr, hm => by
  simp at hm; subst hm
  exact List.eq_nil_of_length_eq_zero hr.1
 | e :: es, vs, ks, hr, hm => by
  cases vs with
  | nil => exact absurd hr.1 (by simp)
  | cons v vs =>
   simp only [List.mapM_cons, Option.bind_eq_bind, Option.pure_def] at hm
   cases h1 : Ai.strOf e with
   | none => simp [h1] at hm
   | some k =>
    cases h2 : es.mapM Ai.strOf with
    | none => simp [h1, h2] at hm
    | some ks' =>
     simp [h1, h2] at hm
     subst hm
     have : e = .s k := by cases e <;> simp [Ai.strOf] at h1; rw [h1]
     subst this
     rw [rep_str hr.head, mapM_keys es vs hr.tail h2]; rfl
theorem mapM_fst (es : List (AV × AV)) : es.mapM (fun p => Ai.strOf p.1) = (es.map (·.1)).mapM Ai.strOf := by
 induction es with
 | nil => rfl
 | cons p es ih => simp [ih]
theorem keysM_sound (h : Base P glob g s w) {m : AV} {c : Value} (hr : Rep g s.length c m) {ks : List (List UInt8)} (hk : keysM s m = some ks) :
  (c = .map none ∧ ks = []) ∨ ∃ b ents clock, ∃ ks' : List (List UInt8), c = .map (some b) ∧ w.heap[b]? = some (.map ents clock) ∧ Born ents clock ∧ ents.toList.map (·.key) = ks'.map encStr ∧ ks'.Perm ks := by
 unfold keysM at hk
 split at hk
 ·rename_i es
  rw [mapM_fst] at hk
  cases hr with
  | im bk _ vs hm hl hkk hvv =>
   obtain ⟨ents, clock, q1, q2, q3⟩ := h.imm.mm bk _ hm
   have rk : RepL g s.length (ents.toList.map (·.key)) (es.map (·.1)) := by
    refine ⟨by rw [← q2] at hl; simpa using hl, fun i hi1 hi2 => ?_⟩
    subst q2
    have := hkk i (by simpa using hi1) (by simpa using hi2)
    simpa using this
   exact .inr ⟨bk, ents, clock, ks, rfl, q1, q3, mapM_keys _ _ rk hk, .refl _⟩
 ·rename_i l
  cases hr with
  | mp _ hlt =>
   split at hk
   ·rename_i es hs
    rw [mapM_fst] at hk
    obtain ⟨_, ents, clock, q1, q2, q3, q4⟩ := h.heap.obj l _ hs
    exact .inr ⟨g.L l, ents, clock, ks, rfl, q1, q4, mapM_keys _ _ q2 hk, .refl _⟩
   ·rename_i es hs
    cases hk
    obtain ⟨_, ents, clock, ents', q1, q2, q3, q4, q5, q6, q7⟩ := h.heap.obj l _ hs
    -- the entries as they lie are a rearrangement of those in order
    have hp : (ents.toList.map (·.key)).Perm ((es.map (·.1)).map encStr) := by
     have h1 : (ents'.map (·.key)) = (es.map (·.1)).map encStr := by rw [q3, List.map_map]; rfl
     rw [← h1]
     exact (q2.map _).symm
    have hall : ∀ v ∈ ents.toList.map (·.key), ∃ u, v = encStr u := by
     intro v hv
     obtain ⟨u, _, hu⟩ := List.mem_map.1 (hp.mem_iff.1 hv)
     exact ⟨u, hu.symm⟩
    have hex : ∀ (vs : List Value), (∀ v ∈ vs, ∃ u, v = encStr u) → ∃ us : List (List UInt8), vs = us.map encStr := by
     intro vs
     induction vs with
     | nil => intro _; exact ⟨[], rfl⟩
     | cons v vs ih =>
      intro hv
      obtain ⟨u, hu⟩ := hv v (by simp)
      obtain ⟨us, hus⟩ := ih (fun x hx => hv x (by simp [hx]))
      exact ⟨u :: us, by simp [hu, hus]⟩
    obtain ⟨ks', hks'⟩ := hex _ hall
    refine .inr ⟨g.L l, ents, clock, ks', rfl, q1, q7, hks', ?_⟩
    rw [hks'] at hp
    exact perm_enc _ _ hp
   ·cases hk
 ·cases hk
  cases hr
  exact .inl ⟨rfl, rfl⟩
 ·cases hk
end Go.Ai
namespace Go.Ai.Z
open Go.Proofs Go.RowKit Go.Maps Go.Sort Go.Shelf
variable {P : Program} {glob : Nat → Option (List AV)}
theorem grew_below {w w' : World} (h : Below w.heap.size w w') : Grew w w' := ⟨h.size, h.block, h.os, h.output⟩
theorem grew_refl (w : World) : Grew w w := ⟨Nat.le_refl _, fun _ _ => rfl, rfl, rfl⟩
theorem intr_val {f : FuncId} {h : List AV → Option AV} (hf : ∃ rf, P.funcs[f]? = some rf ∧ (rf.name == "runtime.NumGoroutine") = false ∧ rf.body.isNone = false)
  (H : ∀ args r, h args = some r → ∀ g n w vs, Imm g w → GlobRel glob g → RepL g n vs.toList args → Calls P f vs w fun e w' => ∃ v, e = .returned v ∧ Grew w w' ∧ Rep g n v r) : IntrOK1 P glob f h := by
 refine ⟨hf, fun args r hr g n w vs hi hg hv m => callsIn_wide.2 ((H args r hr g n w vs hi hg hv).mono fun e w' he => ?_)⟩
 obtain ⟨v, rfl, hgr, hrep⟩ := he
 exact ⟨v, g, rfl, hgr, .refl _ _, rfl, rfl, fun _ _ => ⟨rfl, rfl⟩, hi.grew hgr, hrep⟩
theorem repL_one {g : Ghost} {n : Nat} {vs : Array Value} {a : AV} (h : RepL g n vs.toList [a]) : ∃ v, vs = #[v] ∧ Rep g n v a := by
 obtain ⟨l⟩ := vs
 match l, h.1 with
 | [v], _ => exact ⟨v, rfl, h.head⟩
theorem repL_two {g : Ghost} {n : Nat} {vs : Array Value} {a b : AV} (h : RepL g n vs.toList [a, b]) : ∃ u v, vs = #[u, v] ∧ Rep g n u a ∧ Rep g n v b := by
 obtain ⟨l⟩ := vs
 match l, h.1 with
 | [u, v], _ => exact ⟨u, v, rfl, h.head, h.tail.head⟩
theorem isMap_val {g : Ghost} {n : Nat} {v : Value} {m : AV} (h : Rep g n v m) (hm : isMapV m = true) : ∃ mb, v = .map mb := by
 cases m <;> simp [isMapV] at hm <;> cases h <;> exact ⟨_, rfl⟩
theorem ok_keys {f it mt : Nat} (hf : ∃ rf, P.funcs[f]? = some rf ∧ (rf.name == "runtime.NumGoroutine") = false ∧ rf.body.isNone = false)
  (H : ∀ (mb : Option Nat) (W : World) (m : Nat), CallsIn Fence.wide m P f #[.map mb] W fun e w' => e = .returned (.func (.func it) #[] #[.pointer (some ⟨W.heap.size, 0, none⟩)]) ∧ w' = W.alloc (.cells #[.map mb] mt)) : IntrOK P glob f (iKeys it) := by
 refine ⟨hf, fun args s r hr g w vs hb hv m => ?_⟩
 unfold iKeys at hr
 split at hr
 ·rename_i a s
  split at hr
  ·rename_i hm
   cases hr
   obtain ⟨v, rfl, r1⟩ := repL_one hv
   obtain ⟨mb, rfl⟩ := isMap_val r1 hm
   refine (H mb w m).mono fun e w' he => ?_
   obtain ⟨rfl, rfl⟩ := he
   obtain ⟨g', q1, q2, q3, q4, q5, q6⟩ := intr_box (ty := mt) hb r1
   refine ⟨_, g', rfl, Grew.alloc w _, q1, q2, q3, q4, q5, .fn _ _ _ _ _ rfl rfl (fun i hi => by simp at hi) (fun i hi hi' => ?_)⟩
   match i, hi with
   | 0, _ => exact q6
  ·cases hr
 ·cases hr
theorem ok_sorted {f kt : Nat} {ks : List Nat} (hk : P.underlying kt = some .string) (hf : ∃ rf, P.funcs[f]? = some rf ∧ (rf.name == "runtime.NumGoroutine") = false ∧ rf.body.isNone = false)
  (H : ∀ it ∈ ks, ∀ (Bm b : Nat) (D0 : DataW Unit) (R : Value → Option (DataW Unit × List MemPlace)) (nn : Nat) (w : World) (m : Nat), Bm < w.heap.size → w.cell? ⟨Bm, 0, none⟩ = some (.map (some b)) → w.ownsMap P kt R b nn D0 → Maps.size D0 ≤ maxLen → Maps.size D0 * 16 ≤ 140737488355328 →
   CallsIn Fence.wide m P f #[.func (.func it) #[] #[.pointer (some ⟨Bm, 0, none⟩)]] w fun e w' => ∃ (v : Value) (ss : List (List UInt8)), e = .returned v ∧ ss.Perm (strKeys D0) ∧
    w'.ownsRow w.heap.size kt 1 v ss.length ((ss.mergeSort (fun x y => decide (x ≤ y))).map encStr) ∧ (v = .slice none 0 0 ↔ ss = []) ∧ Below w.heap.size w w')
  (H0 : ∀ it ∈ ks, ∀ (Bm : Nat) (w : World) (m : Nat), Bm < w.heap.size → w.cell? ⟨Bm, 0, none⟩ = some (.map none) →
   CallsIn Fence.wide m P f #[.func (.func it) #[] #[.pointer (some ⟨Bm, 0, none⟩)]] w fun e w' => ∃ (v : Value) (ss : List (List UInt8)), e = .returned v ∧ ss = [] ∧
    w'.ownsRow w.heap.size kt 1 v ss.length ((ss.mergeSort (fun x y => decide (x ≤ y))).map encStr) ∧ (v = .slice none 0 0 ↔ ss = []) ∧ Below w.heap.size w w') : IntrOK P glob f (iSorted ks) := by
 refine ⟨hf, fun args s r hr g w vs hb hv m => ?_⟩
 unfold iSorted at hr
 split at hr
 case h_2 => cases hr
 rename_i _ it mv
 split at hr
 case isFalse => cases hr
 rename_i hit
 have hit' : it ∈ ks := by simpa using hit
 simp only [Option.bind_eq_some_iff] at hr
 obtain ⟨l, hl, hr⟩ := hr
 split at hr
 case isFalse => cases hr
 rename_i hc
 cases hr
 obtain ⟨v, rfl, r1⟩ := repL_one hv
 cases r1 with
 | fn _ us ws _ _ hl1 hl2 ra rc =>
  have has : us = #[] := Array.eq_empty_of_size_eq_zero (by simpa using hl1)
  subst has
  obtain ⟨p, rfl⟩ : ∃ p, ws = #[p] := by
   obtain ⟨ws⟩ := ws
   match ws, hl2 with
   | [p], _ => exact ⟨p, rfl⟩
  have rp := rc 0 (by simp) (by simp)
  simp at rp
  cases rp with
  | kb bk c _ hm rm =>
   have hcell := hb.imm.m bk 0 c hm
   have hbk : bk < w.heap.size := World.block_lt_of_cell? w ⟨bk, 0, none⟩ hcell
   have hnd : l.Nodup := (isort_perm l).nodup_iff.1 (strictS_nodup _ hc.1 |>.imp fun {a b} hab he => by subst he; exact List.lt_irrefl a hab)
   have common : ∀ (e : Ending) (w' : World), (∃ (v : Value) (ss : List (List UInt8)), e = .returned v ∧ ss.Perm l ∧ w'.ownsRow w.heap.size kt 1 v ss.length ((ss.mergeSort (fun x y => decide (x ≤ y))).map encStr) ∧ (v = .slice none 0 0 ↔ ss = []) ∧ Below w.heap.size w w') →
     ∃ v g', e = .returned v ∧ Grew w w' ∧ g.le s.length g' s.length ∧ g'.L = g.L ∧ g'.hist = g.hist ∧ (∀ b, b < w.heap.size → g'.m b = g.m b ∧ g'.mm b = g.mm b) ∧ Imm g' w' ∧ Rep g' s.length v (slS (isort l)) := by
    rintro e w' ⟨v, ss, rfl, hp, hrow, hnil, hbl⟩
    have hms : ss.mergeSort (fun x y => decide (x ≤ y)) = isort l := by
     have h1 := mergeSort_of_perm hp
     have h2 := mergeSort_of_perm (isort_perm l)
     have h3 : (isort l).mergeSort leB = isort l := by
      apply List.mergeSort_of_pairwise
      exact (isort_sorted l).imp fun {a b} hab => by simpa [leB] using hab
     exact (h1.trans h2.symm).trans h3
    rw [hms] at hrow
    by_cases h0 : ss = []
    ·have hv0 := hnil.2 h0
     subst hv0
     have hl0 : l = [] := by subst h0; exact List.Perm.nil_eq hp |>.symm
     subst hl0
     exact ⟨_, g, rfl, grew_below hbl, .refl _ _, rfl, rfl, fun _ _ => ⟨rfl, rfl⟩, hb.imm.grew (grew_below hbl), .ns⟩
    ·have hlen : ss.length = (isort l).length := by rw [hp.length_eq, (isort_perm l).length_eq]
     rw [hlen] at hrow
     have hne : isort l ≠ [] := fun h => h0 (List.eq_nil_of_length_eq_zero (by rw [hlen, h]; rfl))
     obtain ⟨g', q1, q2, q3, q4, q5, q6⟩ := intr_strs hb (grew_below hbl) hrow hne
     have hsl : slS (isort l) = .sl ((isort l).map .s) := by
      cases hi : isort l with
      | nil => exact absurd hi hne
      | cons a r => rfl
     exact ⟨v, g', rfl, grew_below hbl, q1, q2, q3, q4, q5, by rw [hsl]; exact q6⟩
   rcases keysM_sound hb rm hl with ⟨rfl, rfl⟩ | ⟨b, ents, clock, ks', rfl, q1, q2, q3, q4⟩
   ·refine (H0 it hit' bk w m hbk hcell).mono fun e w' he => common e w' ?_
    obtain ⟨v, ss, h1, rfl, h3⟩ := he
    exact ⟨v, [], h1, .refl _, h3⟩
   ·have hnd' : ks'.Nodup := q4.nodup_iff.2 hnd
    obtain ⟨D0, d1, d2, d3⟩ := owns_keys hk q1 q2 q3 hnd' (by rw [q4.length_eq]; exact hc.2.1) (fun x hx => hc.2.2 x (q4.mem_iff.1 hx))
    have hlen := q4.length_eq
    have hl2 := hc.2.1
    refine (H it hit' bk b D0 _ _ w m hbk hcell d1 (by rw [d3]; simp only [maxLen]; omega) (by rw [d3]; omega)).mono fun e w' he => common e w' ?_
    obtain ⟨v, ss, h1, h2, h3⟩ := he
    exact ⟨v, ss, h1, (h2.trans d2).trans q4, h3⟩
theorem ok_index : IntrOK1 Tryd.prog glob 91 iIndex := by
 refine intr_val ⟨Tryd.f91, Tryd.func91, by kernel_rfl, by kernel_rfl⟩ fun args r hr g n w vs hi hg hv => ?_
 unfold iIndex at hr
 split at hr
 ·rename_i l b
  cases hr
  obtain ⟨u, v, rfl, r1, r2⟩ := repL_two hv
  cases r1
  cases r2
  refine (Tryd.stringslite_Index_one ⟨l.toArray⟩ b w).mono fun e w' he => ?_
  obtain ⟨rfl, rfl⟩ := he
  exact ⟨_, rfl, grew_refl _, by simpa using Rep.i .i64 (Lib.indexByte l b)⟩
 ·cases hr
theorem join_is (l : List (List UInt8)) (sep : List UInt8) : Lib.join l sep = joinL sep l := by
 cases l with
 | nil => rfl
 | cons x r => rw [Lib.join_cons]; simp [joinL, Lib.joinTail, List.flatMap_def]
theorem strOf_eq {a : AV} {l : List UInt8} (h : strOf a = some l) : a = .s l := by
 cases a <;> simp [strOf] at h; rw [h]
theorem strs_eq : ∀ {es : List AV} {l : List (List UInt8)}, es.mapM strOf = some l → es = l.map .s
 | [], l, h => by simp at h; subst h; rfl
 | a :: r, l, h => by
  simp only [List.mapM_cons, Option.bind_eq_bind, Option.bind_eq_some_iff, Option.pure_def, Option.some.injEq] at h
  obtain ⟨x, hx, y, hy, rfl⟩ := h
  rw [strOf_eq hx, strs_eq hy]; rfl
theorem ok_join : IntrOK1 Tryd.prog glob 61 iJoin := by
 refine intr_val ⟨Tryd.f61, Tryd.func61, by kernel_rfl, by kernel_rfl⟩ fun args r hr g n w vs hi hg hv => ?_
 unfold iJoin at hr
 split at hr
 ·rename_i es sep
  simp only [Option.bind_eq_some_iff] at hr
  obtain ⟨l, hl, hr⟩ := hr
  split at hr
  ·rename_i hlen
   cases hr
   obtain rfl := strs_eq hl
   obtain ⟨u, v, rfl, r1, r2⟩ := repL_two hv
   cases r2
   have hnone : ∀ ad c, l = [] → Calls Tryd.prog 61 #[.slice ad 0 c, .string ⟨sep.toArray⟩] w fun e w' => ∃ v, e = .returned v ∧ Grew w w' ∧ Rep g n v (.s (joinL sep l)) := by
    intro ad c hl0
    subst hl0
    refine (Tryd.strings_Join_none ad c ⟨sep.toArray⟩ w).mono fun e w' he => ?_
    obtain ⟨rfl, rfl⟩ := he
    exact ⟨_, rfl, grew_refl _, .s []⟩
   generalize hes : l.map AV.s = es at r1
   cases r1 with
   | slNil => exact hnone _ _ (by simpa using hes)
   | slE a => exact hnone _ _ (by simpa using hes)
   | sl bk off cap sz _ c hcap hsz hm hrr =>
    subst hes
    by_cases h0 : l = []
    ·subst h0; exact hnone _ _ rfl
    ·have hpos : 0 < l.length := List.length_pos_iff.2 h0
     have hsz1 : sz = 1 := by have := hsz 0 (by simpa using hpos); simpa using this.symm
     subst hsz1
     have hcell : ∀ (j : Nat) (hj : j < l.length), w.cell? ⟨bk, off + j, none⟩ = some (.string ⟨(l[j]).toArray⟩) := by
      intro j hj
      have q1 := hi.m _ _ _ (hm j 0 (by simpa using hj) (by omega)).1
      have q2 := hrr j (by simpa using hj) 0 (by simp)
      simp at q1 q2
      generalize c j 0 = v at q1 q2
      cases q2
      exact q1
     have hbk : bk < w.heap.size := World.block_lt_of_cell? w ⟨bk, off + 0, none⟩ (hcell 0 hpos)
     have hjl : (Lib.join l sep).length ≤ 1048576 := by rw [join_is]; exact hlen.1
     have hln := hlen.2
     have key := Tryd.strings_Join bk off cap (l.map fun x => ⟨x.toArray⟩) ⟨sep.toArray⟩ w (fun j x hx => by
       simp only [List.getElem?_map, Option.map_eq_some_iff] at hx
       obtain ⟨y, hy, rfl⟩ := hx
       obtain ⟨hj, rfl⟩ := List.getElem?_eq_some_iff.1 hy
       exact hcell j hj) hbk (by simp; omega) (by simpa using hcap) (by simp [Function.comp_def]; omega)
     simp only [List.length_map] at key ⊢
     refine key.mono fun e w' he => ?_
     obtain ⟨rfl, hb⟩ := he
     refine ⟨_, rfl, grew_below hb, ?_⟩
     have := Rep.s (g := g) (n := n) (joinL sep l)
     simpa [Function.comp_def, join_is] using this
  ·cases hr
 ·cases hr
theorem sortsZ (m : Nat) : AnyZ.SortsIn Tryd.prog Tryd.sorted25_ren Fence.wide m :=
 ⟨fun blk off cap ss W hH hblk hsz => callsIn_wide.2 (AnyM.slices_Sort_string Tryd.sort43 blk off cap ss W hH hblk hsz),
  fun p cap W => callsIn_wide.2 (AnyM.slices_Sort_string_none Tryd.sort43 p cap W)⟩
theorem ok_keys1 : IntrOK Tryd.prog glob 26 (iKeys 44) :=
 ok_keys ⟨Tryd.f26, Tryd.func26, by kernel_rfl, by kernel_rfl⟩ (fun mb W m => AnyZ.keys_in Tryd.keys26 Fence.wide m trivial rfl mb W)
theorem ok_keys2 : IntrOK Tryd.prog glob 31 (iKeys 49) :=
 ok_keys ⟨Tryd.f31, Tryd.func31, by kernel_rfl, by kernel_rfl⟩ (fun mb W m => AnyZ.keys_in Tryd.keys31 Fence.wide m trivial rfl mb W)
theorem ok_sorted1 : IntrOK Tryd.prog glob 25 (iSorted [44, 49]) := by
 refine ok_sorted (kt := 9) (by kernel_rfl) ⟨Tryd.f25, Tryd.func25, by kernel_rfl, by kernel_rfl⟩ ?_ ?_
 ·intro it hit Bm b D0 R nn w m hBm hcell hown hmax hbytes
  simp at hit
  rcases hit with rfl | rfl
  ·have hseq := AnyZ.keys_gives (ρ := Tryd.keys26_ren) { Tryd.keys26 with } Fence.wide 2 trivial rfl (by omega) Bm b nn D0 w hBm hcell hown
   exact callsIn_wide.2 ((callsIn_wide (n := 5)).1 (AnyZ.sorted_in Tryd.sorted25 Fence.wide 5 trivial trivial trivial trivial rfl (by omega) (sortsZ _) (enters_of Tryd.func43 (by kernel_rfl) rfl) 44 #[.pointer (some ⟨Bm, 0, none⟩)] trivial (enters_of Tryd.func44 (by kernel_rfl) rfl) _ _ hmax hbytes w hseq))
  ·have hseq := AnyZ.keys_gives (ρ := Tryd.keys31_ren) { Tryd.keys31 with } Fence.wide 2 trivial rfl (by omega) Bm b nn D0 w hBm hcell hown
   exact callsIn_wide.2 ((callsIn_wide (n := 5)).1 (AnyZ.sorted_in Tryd.sorted25 Fence.wide 5 trivial trivial trivial trivial rfl (by omega) (sortsZ _) (enters_of Tryd.func43 (by kernel_rfl) rfl) 49 #[.pointer (some ⟨Bm, 0, none⟩)] trivial (enters_of Tryd.func49 (by kernel_rfl) rfl) _ _ hmax hbytes w hseq))
 ·intro it hit Bm w m hBm hcell
  simp at hit
  rcases hit with rfl | rfl
  ·have hseq := AnyZ.keys_gives_nil (ρ := Tryd.keys26_ren) { Tryd.keys26 with } Fence.wide 2 trivial rfl Bm w hBm hcell
   exact callsIn_wide.2 ((callsIn_wide (n := 5)).1 (AnyZ.sorted_in Tryd.sorted25 Fence.wide 5 trivial trivial trivial trivial rfl (by omega) (sortsZ _) (enters_of Tryd.func43 (by kernel_rfl) rfl) 44 #[.pointer (some ⟨Bm, 0, none⟩)] trivial (enters_of Tryd.func44 (by kernel_rfl) rfl) _ 0 (Nat.zero_le _) (by omega) w hseq))
  ·have hseq := AnyZ.keys_gives_nil (ρ := Tryd.keys31_ren) { Tryd.keys31 with } Fence.wide 2 trivial rfl Bm w hBm hcell
   exact callsIn_wide.2 ((callsIn_wide (n := 5)).1 (AnyZ.sorted_in Tryd.sorted25 Fence.wide 5 trivial trivial trivial trivial rfl (by omega) (sortsZ _) (enters_of Tryd.func43 (by kernel_rfl) rfl) 49 #[.pointer (some ⟨Bm, 0, none⟩)] trivial (enters_of Tryd.func49 (by kernel_rfl) rfl) _ 0 (Nat.zero_le _) (by omega) w hseq))
end Go.Ai.Z
