/-
 Slices that may be nil, numbers, lists: more rules for symbolic runs.
-/
import Derived.Test.YtpnlnnfcaeednaaGreatDoorAiSx
import Derived.IntWalk
set_option maxRecDepth 100000
set_option linter.unusedSimpArgs false
set_option linter.unusedVariables false
set_option linter.unusedSectionVars false
namespace Go.Ai
def slf (z : Bool) (es : List AV) : AV :=
 match z, es with
 | true, [] => .ns
 | _, es => .sl es
@[simp] theorem slf_false (es : List AV) : slf false es = .sl es := by cases es <;> rfl
@[simp] theorem slf_nil : slf true [] = .ns := rfl
@[simp] theorem slf_cons (z : Bool) (e : AV) (es : List AV) : slf z (e :: es) = .sl (e :: es) := by cases z <;> rfl
theorem slf_cases (z : Bool) (es : List AV) : slf z es = .sl es ∨ (slf z es = .ns ∧ es = []) := by
 cases z <;> cases es <;> simp
@[simp] theorem cells_slf (z : Bool) (es : List AV) : (slf z es).cells = [slf z es] := by rcases slf_cases z es with h | ⟨h, _⟩ <;> rw [h] <;> rfl
@[simp] theorem one_slf (z : Bool) (es : List AV) : (slf z es).one = true := by rcases slf_cases z es with h | ⟨h, _⟩ <;> rw [h] <;> rfl
@[simp] theorem plain_slf (z : Bool) (es : List AV) : (slf z es).plain = slf z es := by rcases slf_cases z es with h | ⟨h, _⟩ <;> rw [h] <;> rfl
@[simp] theorem plain1_slf (z : Bool) (es : List AV) : (slf z es).plain1 = slf z es := by rcases slf_cases z es with h | ⟨h, _⟩ <;> rw [h] <;> rfl
section
variable {glob : Nat → Option (List AV)} {call : AV → List AV → St → Ctx → CO} {cx : Ctx}
def elemsE (env : Env) : Option EV → Option (List AV)
 | some (.v (.sl es)) => some es
 | some (.v (.st _ es)) => some es
 | some (.v .ns) => some []
 | some (.v .se) => some []
 | some (.own _ _ _ es) => some es
 | some (.al j) => match lk env j with
  | some (.own _ _ _ es) => some es
  | _ => none
 | _ => none
@[simp] theorem elems_eq {env : Env} {x : IX} : elems glob env x = elemsE env (ev glob env x) := by unfold elems elemsE; rfl
@[simp] theorem elemsE_sl {env : Env} {es : List AV} : elemsE env (some (.v (.sl es))) = some es := rfl
@[simp] theorem elemsE_st {env : Env} {l : Nat} {es : List AV} : elemsE env (some (.v (.st l es))) = some es := rfl
@[simp] theorem elemsE_se {env : Env} : elemsE env (some (.v .se)) = some [] := rfl
@[simp] theorem elemsE_ns {env : Env} : elemsE env (some (.v .ns)) = some [] := rfl
@[simp] theorem elemsE_slf {env : Env} {z : Bool} {es : List AV} : elemsE env (some (.v (slf z es))) = some es := by
 rcases slf_cases z es with h | ⟨h, h'⟩
 ·rw [h]; rfl
 ·rw [h, h']; rfl
@[simp] theorem elemsE_own {env : Env} {t sz : Nat} {tip : Bool} {es : List AV} : elemsE env (some (.own tip t sz es)) = some es := rfl
@[simp] theorem elemsE_al {env : Env} {j : Nat} : elemsE env (some (.al j)) = match lk env j with
  | some (.own _ _ _ es) => some es
  | _ => none := rfl
def idxV (env : Env) (s : St) (sz : Nat) (v : Option AV) (n : Int) : RO :=
 match v with
 | some (.sl es) => match es[n.toNat]? with
  | some e => if 0 ≤ n ∧ e.cells.length = sz then .ok (.v (.ip e.cells)) env s else .fail
  | none => .fail
 | some (.sk l ver sz' o m) => if sz = sz' ∧ 0 ≤ n ∧ n.toNat < m then .ok (.v (.sp l ver (o + n.toNat * sz))) env s else .fail
 | _ => .fail
@[simp] theorem idxV_sk {env : Env} {s : St} {sz l ver sz' o m : Nat} {n : Int} : idxV env s sz (some (.sk l ver sz' o m)) n = if sz = sz' ∧ 0 ≤ n ∧ n.toNat < m then .ok (.v (.sp l ver (o + n.toNat * sz))) env s else .fail := rfl
def idxO (env : Env) (s : St) (sz : Nat) (k : Nat) (e : Option EV) (n : Int) : RO :=
 match e with
 | some (.own _ _ sz' es) => if sz = sz' ∧ 0 ≤ n ∧ n.toNat < es.length then .ok (.ep k sz n.toNat 0) env s else .fail
 | _ => .fail
@[simp] theorem sxe_idx {sz : Nat} {x i : IX} {env : Env} {s : St} : aop glob call cx env s (.idx sz x i) = match rd glob env i with
  | some (.i _ n) => match ownKey env x with
   | some k => idxO env s sz k (lk env k) n
   | none => idxV env s sz (rd glob env x) n
  | _ => .fail := rfl
@[simp] theorem idxO_own {env : Env} {s : St} {sz k t sz' : Nat} {tip : Bool} {es : List AV} {n : Int} :
  idxO env s sz k (some (.own tip t sz' es)) n = if sz = sz' ∧ 0 ≤ n ∧ n.toNat < es.length then .ok (.ep k sz n.toNat 0) env s else .fail := rfl
@[simp] theorem idxV_sl {env : Env} {s : St} {sz : Nat} {es : List AV} {n : Int} : idxV env s sz (some (.sl es)) n = match es[n.toNat]? with
  | some e => if 0 ≤ n ∧ e.cells.length = sz then .ok (.v (.ip e.cells)) env s else .fail
  | none => .fail := rfl
@[simp] theorem idxV_slf {env : Env} {s : St} {sz : Nat} {z : Bool} {es : List AV} {n : Int} : idxV env s sz (some (slf z es)) n = idxV env s sz (some (.sl es)) n := by
 rcases slf_cases z es with h | ⟨h, h'⟩ <;> rw [h]
 subst h'; rfl
def slcV (glob : Nat → Option (List AV)) (sz : Nat) (lo hi : Option IX) (s : St) : Option (AV × Env) → RO
 | some (.sl es, env) => match bound glob env 0 lo, bound glob env es.length hi with
   | some l, some h => if l ≤ h ∧ h ≤ es.length ∧ (es.all fun e => e.cells.length == sz) then .ok (.v (.sl ((es.drop l).take (h - l)))) env s else .fail
   | _, _ => .fail
 | some (.ns, env) => match bound glob env 0 lo, bound glob env 0 hi with
   | some 0, some 0 => .ok (.v .ns) env s
   | _, _ => .fail
 | some (.sk k ver sz' o m, env) => match bound glob env 0 lo, bound glob env m hi with
   | some l, some h => if sz = sz' ∧ l ≤ h ∧ h ≤ m then .ok (.v (.sk k ver sz (o + l * sz) (h - l))) env s else .fail
   | _, _ => .fail
 | _ => .fail
@[simp] theorem slcV_sk {sz : Nat} {lo hi : Option IX} {s : St} {k ver sz' o m : Nat} {env : Env} : slcV glob sz lo hi s (some (.sk k ver sz' o m, env)) = match bound glob env 0 lo, bound glob env m hi with
   | some l, some h => if sz = sz' ∧ l ≤ h ∧ h ≤ m then .ok (.v (.sk k ver sz (o + l * sz) (h - l))) env s else .fail
   | _, _ => .fail := rfl
@[simp] theorem sxe_slc {sz : Nat} {x : IX} {lo hi : Option IX} {env : Env} {s : St} : aop glob call cx env s (.slc sz x lo hi) = slcV glob sz lo hi s (esc glob env x) := by
 simp only [aop, slcV]
 cases esc glob env x with
 | none => rfl
 | some p => obtain ⟨a, e⟩ := p; cases a <;> rfl
@[simp] theorem slcV_sl {sz : Nat} {lo hi : Option IX} {s : St} {es : List AV} {env : Env} : slcV glob sz lo hi s (some (.sl es, env)) = match bound glob env 0 lo, bound glob env es.length hi with
   | some l, some h => if l ≤ h ∧ h ≤ es.length ∧ (es.all fun e => e.cells.length == sz) then .ok (.v (.sl ((es.drop l).take (h - l)))) env s else .fail
   | _, _ => .fail := rfl
@[simp] theorem slcV_ns {sz : Nat} {lo hi : Option IX} {s : St} {env : Env} : slcV glob sz lo hi s (some (.ns, env)) = match bound glob env 0 lo, bound glob env 0 hi with
   | some 0, some 0 => .ok (.v .ns) env s
   | _, _ => .fail := rfl
end
theorem w64 {n : Int} (h : -9223372036854775808 ≤ n) (h' : n ≤ 9223372036854775807) : IntKind.i64.wrap n = n := IntWalk.i64_in n ⟨h, h'⟩
theorem wI {i : Nat} (h : i ≤ 1152921504606846976) : IntKind.i64.wrap ((i : Int) + 1) = (i : Int) + 1 := by rw [w64] <;> omega
theorem drop_cons {α : Type} {l r : List α} {i : Nat} {a : α} (h : l.drop i = a :: r) : l[i]? = some a ∧ l.drop (i + 1) = r ∧ i < l.length ∧ ∀ h : i < l.length, l[i] = a := by
 have hi : i < l.length := by
  rcases Nat.lt_or_ge i l.length with h1 | h1
  ·exact h1
  ·rw [List.drop_eq_nil_of_le h1] at h; cases h
 rw [List.drop_eq_getElem_cons hi] at h
 injection h with h1 h2
 exact ⟨by rw [List.getElem?_eq_getElem hi, h1], h2, hi, fun _ => h1⟩
theorem drop_nil {α : Type} {l : List α} {i : Nat} (h : l.drop i = []) : l.length ≤ i := by simpa using h
inductive C where
 | mk (kind : Int) (name : List UInt8) (lo hi : Int) (z : Bool) (parts : List C)
namespace C
def kind : C → Int | .mk k _ _ _ _ _ => k
def name : C → List UInt8 | .mk _ n _ _ _ _ => n
def lo : C → Int | .mk _ _ l _ _ _ => l
def hi : C → Int | .mk _ _ _ h _ _ => h
def z : C → Bool | .mk _ _ _ _ z _ => z
def parts : C → List C | .mk _ _ _ _ _ ps => ps
@[simp] theorem kind_mk (k : Int) (n : List UInt8) (l h : Int) (z : Bool) (ps : List C) : (C.mk k n l h z ps).kind = k := rfl
@[simp] theorem name_mk (k : Int) (n : List UInt8) (l h : Int) (z : Bool) (ps : List C) : (C.mk k n l h z ps).name = n := rfl
@[simp] theorem lo_mk (k : Int) (n : List UInt8) (l h : Int) (z : Bool) (ps : List C) : (C.mk k n l h z ps).lo = l := rfl
@[simp] theorem hi_mk (k : Int) (n : List UInt8) (l h : Int) (z : Bool) (ps : List C) : (C.mk k n l h z ps).hi = h := rfl
@[simp] theorem z_mk (k : Int) (n : List UInt8) (l h : Int) (z : Bool) (ps : List C) : (C.mk k n l h z ps).z = z := rfl
@[simp] theorem parts_mk (k : Int) (n : List UInt8) (l h : Int) (z : Bool) (ps : List C) : (C.mk k n l h z ps).parts = ps := rfl
end C
mutual
theorem C.ind {P : C → Prop} (h : ∀ k n l hi z ps, (∀ p ∈ ps, P p) → P (.mk k n l hi z ps)) : ∀ c, P c
 | .mk k n l hi z ps => h k n l hi z ps (C.indL h ps)
theorem C.indL {P : C → Prop} (h : ∀ k n l hi z ps, (∀ p ∈ ps, P p) → P (.mk k n l hi z ps)) : ∀ (ps : List C), ∀ p ∈ ps, P p
 | [] => fun p hp => by cases hp
 | a :: r => fun p hp => (List.mem_cons.1 hp).elim (fun e => e ▸ C.ind h a) (fun hp => C.indL h r p hp)
end
mutual
def encC : C → AV
 | .mk k n l h z ps => .ag [.i .i64 k, .s n, .i .i64 l, .i .i64 h, slf z (encCs ps)]
def encCs : List C → List AV
 | [] => []
 | a :: r => encC a :: encCs r
end
theorem encCs_eq : ∀ ps : List C, encCs ps = ps.map encC
 | [] => by simp [encCs]
 | a :: r => by simp [encCs, encCs_eq r]
theorem encC_eq (c : C) : encC c = .ag [.i .i64 c.kind, .s c.name, .i .i64 c.lo, .i .i64 c.hi, slf c.z (c.parts.map encC)] := by
 cases c; simp [encC, encCs_eq]
@[simp] theorem plain_encC (c : C) : (encC c).plain = encC c := by rw [encC_eq]; simp
@[simp] theorem cells_encC (c : C) : (encC c).cells = [.i .i64 c.kind, .s c.name, .i .i64 c.lo, .i .i64 c.hi, slf c.z (c.parts.map encC)] := by rw [encC_eq]; rfl
@[simp] theorem fold_encC (c : C) : AV.ag [.i .i64 c.kind, .s c.name, .i .i64 c.lo, .i .i64 c.hi, slf c.z (c.parts.map encC)] = encC c := (encC_eq c).symm
theorem C.ind' {P : C → Prop} (h : ∀ c : C, (∀ p ∈ c.parts, P p) → P c) : ∀ c, P c := C.ind fun k n l hi z ps ih => h _ ih
@[simp] theorem underL_nil (n : Nat) : underL n [] = true := by simp [underL]
@[simp] theorem underL_cons (n : Nat) (a : AV) (r : List AV) : underL n (a :: r) = (a.under n && underL n r) := by simp [underL]
@[simp] theorem under_i (n : Nat) (k : IntKind) (x : Int) : (AV.i k x).under n = true := by simp [AV.under]
@[simp] theorem under_b (n : Nat) (x : Bool) : (AV.b x).under n = true := by simp [AV.under]
@[simp] theorem under_s (n : Nat) (x : List UInt8) : (AV.s x).under n = true := by simp [AV.under]
@[simp] theorem under_sl (n : Nat) (x : List AV) : (AV.sl x).under n = underL n x := by simp [AV.under]
@[simp] theorem under_ag (n : Nat) (x : List AV) : (AV.ag x).under n = underL n x := by simp [AV.under]
@[simp] theorem under_tu (n : Nat) (x : List AV) : (AV.tu x).under n = underL n x := by simp [AV.under]
@[simp] theorem under_ip (n : Nat) (x : List AV) : (AV.ip x).under n = underL n x := by simp [AV.under]
@[simp] theorem under_st (n l : Nat) (x : List AV) : (AV.st l x).under n = (decide (l < n) && underL n x) := by simp [AV.under]
@[simp] theorem under_ns (n : Nat) : AV.ns.under n = true := by simp [AV.under]
@[simp] theorem under_nm (n : Nat) : AV.nm.under n = true := by simp [AV.under]
@[simp] theorem under_pt (n l o : Nat) : (AV.pt l o).under n = decide (l < n) := by simp [AV.under]
@[simp] theorem under_fn (n : Nat) (f : Fn) (as cs : List AV) : (AV.fn f as cs).under n = (underL n as && underL n cs) := by simp [AV.under]
@[simp] theorem under_slf (n : Nat) (z : Bool) (es : List AV) : (slf z es).under n = underL n es := by
 rcases slf_cases z es with h | ⟨h, h'⟩
 ·rw [h]; simp
 ·rw [h, h']; simp
@[simp] theorem frz_i (s : St) (n : Nat) (k : IntKind) (x : Int) : frz s n (.i k x) = some (.i k x) := by simp [frz]
@[simp] theorem frz_b (s : St) (n : Nat) (x : Bool) : frz s n (.b x) = some (.b x) := by simp [frz]
@[simp] theorem frz_s (s : St) (n : Nat) (x : List UInt8) : frz s n (.s x) = some (.s x) := by simp [frz]
mutual
theorem under_encC' (n : Nat) : ∀ c : C, (encC c).under n = true
 | .mk k nm l h z ps => by simp [encC, under_encCs' n ps]
theorem under_encCs' (n : Nat) : ∀ ps : List C, underL n (encCs ps) = true
 | [] => by simp [encCs]
 | a :: r => by simp [encCs, under_encC' n a, under_encCs' n r]
end
@[simp] theorem under_encC (n : Nat) (c : C) : (encC c).under n = true := under_encC' n c
@[simp] theorem under_encCs (n : Nat) (ps : List C) : underL n (ps.map encC) = true := by rw [← encCs_eq]; exact under_encCs' n ps
inductive C.Ok : C → Prop where
 | mk (c : C) (hn : c.name.length ≤ 1152921504606846976) (hps : c.parts.length ≤ 1152921504606846976)
  (hk : -9223372036854775808 ≤ c.kind ∧ c.kind ≤ 9223372036854775807) (hl : -9223372036854775808 ≤ c.lo ∧ c.lo ≤ 9223372036854775807) (hh : -9223372036854775808 ≤ c.hi ∧ c.hi ≤ 9223372036854775807)
  (hp : ∀ p ∈ c.parts, C.Ok p) : C.Ok c
mutual
def sizeC : C → Nat
 | .mk _ _ _ _ _ ps => 1 + sizeL ps
def sizeL : List C → Nat
 | [] => 0
 | p :: r => sizeC p + sizeL r
end
mutual
def depthC : C → Nat
 | .mk _ _ _ _ _ ps => depthL ps
def depthL : List C → Nat
 | [] => 0
 | p :: r => max (1 + depthC p) (depthL r)
end
mutual
def wC : C → Nat
 | .mk _ n _ _ _ ps => 1 + n.length / 40 + wL ps
def wL : List C → Nat
 | [] => 0
 | p :: r => wC p + wL r
end
theorem sizeC_eq (c : C) : sizeC c = 1 + sizeL c.parts := by cases c; simp [sizeC]
theorem depthC_eq (c : C) : depthC c = depthL c.parts := by cases c; simp [depthC]
theorem wC_eq (c : C) : wC c = 1 + c.name.length / 40 + wL c.parts := by cases c; simp [wC]
theorem sizeL_mem {p : C} : ∀ {l : List C}, p ∈ l → sizeC p ≤ sizeL l
 | [], h => by cases h
 | q :: r, h => by
  simp only [sizeL]
  rcases List.mem_cons.1 h with rfl | h
  ·omega
  ·have := sizeL_mem h; omega
theorem wL_mem {p : C} : ∀ {l : List C}, p ∈ l → wC p ≤ wL l
 | [], h => by cases h
 | q :: r, h => by
  simp only [wL]
  rcases List.mem_cons.1 h with rfl | h
  ·omega
  ·have := wL_mem h; omega
theorem wC_pos (c : C) : 1 ≤ wC c := by rw [wC_eq]; omega
theorem wL_len : ∀ l : List C, l.length ≤ wL l
 | [] => by simp
 | p :: r => by have := wL_len r; have := wC_pos p; simp only [wL, List.length_cons]; omega
theorem sizeC_le : ∀ c : C, sizeC c ≤ wC c := by
 refine C.ind' fun c ih => ?_
 have : ∀ l : List C, (∀ p ∈ l, sizeC p ≤ wC p) → sizeL l ≤ wL l := by
  intro l
  induction l with
  | nil => intro _; simp [sizeL, wL]
  | cons p r ih => intro h; have h1 := ih (fun q hq => h q (by simp [hq])); have h2 := h p (by simp); simp only [sizeL, wL]; omega
 have := this c.parts ih
 rw [sizeC_eq, wC_eq]; omega
end Go.Ai
