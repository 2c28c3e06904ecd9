/-
 Texts of concepts with what follows them in an axiom's text.
-/
import Derived.Test.YtpnlnnfcaeednaaGreatDoorAiInjInj2Inj3Inj4KI
import Derived.Test.YtpnlnnfcaeednaaGreatDoorAiK13K14K15K16
import Derived.Test.YtpnlnnfcaeednaaGreatDoorAiKJKLKM
import Derived.Test.YtpnlnnfcaeednaaGreatDoorAiK10K11K12
set_option maxRecDepth 100000
set_option linter.unusedSimpArgs false
set_option linter.unusedVariables false
set_option linter.unusedSectionVars false
namespace Go.Ai.Z
end Go.Ai.Z
namespace Go.Ai.Z
open Go.Ai.Inj
structure KW (K : List UInt8) : Prop where
 b : ∀ x ∈ K, nameB x = true
 k : kwS K = true
 n1 : K ≠ [101, 118, 101, 114, 121, 116, 104, 105, 110, 103]
 n2 : K ≠ [110, 111, 116, 104, 105, 110, 103]
 n3 : K ≠ [115, 111, 109, 101]
end Go.Ai.Z
namespace Go.Ai.Z
open Go.Ai.Inj
theorem full {x : Ax} (h : checkAS x = 0) : shapedS x = true ∧ namedU x (useS x.kind) = true := by
 unfold checkAS at h
 split at h
 ·cases h
 split at h
 ·cases h
 rename_i hs hn
 exact ⟨by simpa using hs, by simpa using hn⟩
def E0 : C := .mk 0 [] 0 0 false []
inductive SV (x : Ax) : Prop where
 | con (W : List UInt8) (hk : (x.kind = 1 ∧ W = [115, 117, 98]) ∨ (x.kind = 2 ∧ W = [115, 97, 109, 101]) ∨ (x.kind = 3 ∧ W = [100, 105, 115, 106, 111, 105, 110, 116])) (hl : walkS x.left = 0) (hr : walkS x.right = 0)
   (e : statS x = textS x.left ++ (32 :: (W ++ 32 :: textS x.right))) (f : x.roles = [] ∧ x.role = [] ∧ x.a = [] ∧ x.b = [])
 | dom (hk : x.kind = 4) (hn : Name x.role) (hr : walkS x.right = 0) (e : statS x = [100, 111, 109, 97, 105, 110] ++ 32 :: (x.role ++ 32 :: textS x.right)) (f : nz x.left = E0 ∧ x.roles = [] ∧ x.a = [] ∧ x.b = [])
 | sub (r : List UInt8) (hk : x.kind = 5) (hr : x.roles = [r]) (hn : Name r) (hn' : Name x.role) (e : statS x = [114, 111, 108, 101] ++ 32 :: (r ++ 32 :: 115 :: 117 :: 98 :: 32 :: x.role)) (f : nz x.left = E0 ∧ nz x.right = E0 ∧ x.a = [] ∧ x.b = [])
 | chn (hk : x.kind = 6) (h2 : 2 ≤ x.roles.length) (hn : ∀ r ∈ x.roles, Name r) (hn' : Name x.role) (e : statS x = [99, 104, 97, 105, 110] ++ (x.roles.flatMap (fun r => 32 :: r) ++ [32, 115, 117, 98, 32] ++ x.role)) (f : nz x.left = E0 ∧ nz x.right = E0 ∧ x.a = [] ∧ x.b = [])
 | ref (hk : x.kind = 7) (hn : Name x.role) (e : statS x = [114, 101, 102, 108, 101, 120, 105, 118, 101] ++ 32 :: x.role) (f : nz x.left = E0 ∧ nz x.right = E0 ∧ x.roles = [] ∧ x.a = [] ∧ x.b = [])
 | typ (hk : x.kind = 8) (ha : ∀ b ∈ x.a, nameB b = true) (hr : walkS x.right = 0) (e : statS x = [116, 121, 112, 101] ++ 32 :: (x.a ++ 32 :: textS x.right)) (f : nz x.left = E0 ∧ x.roles = [] ∧ x.role = [] ∧ x.b = [])
 | lnk (hk : x.kind = 9) (ha : ∀ b ∈ x.a, nameB b = true) (hb : ∀ b ∈ x.b, nameB b = true) (hn : Name x.role) (e : statS x = [108, 105, 110, 107] ++ 32 :: (x.a ++ 32 :: (x.role ++ 32 :: x.b))) (f : nz x.left = E0 ∧ nz x.right = E0 ∧ x.roles = [])
end Go.Ai.Z
namespace Go.Ai.Z
open Go.Ai.Inj
structure Eqv (x y : Ax) : Prop where
 k : x.kind = y.kind
 l : nz x.left = nz y.left
 r : nz x.right = nz y.right
 rs : x.roles = y.roles
 ro : x.role = y.role
 a : x.a = y.a
 b : x.b = y.b
end Go.Ai.Z
namespace Go.Ai.Z
open Go.Ai.Inj
end Go.Ai.Z
namespace Go.Ai.Z
theorem kind_nz {c d : C} (h : nz c = nz d) : c.kind = d.kind := by rw [← nz_kind c, h, nz_kind]
theorem weight_of {x y : Ax} (h : Eqv x y) : weightS x = weightS y := by
 have hs : ∀ {c d : C}, nz c = nz d → szIf c = szIf d := fun {c d} h => by
  unfold szIf; rw [← size_nz c, h, size_nz, kind_nz h]
 unfold weightS
 simp only [sumIf, hs h.l, hs h.r, h.rs, h.ro, h.a, h.b]
theorem cmpA_iff {x y : Ax} : cmpA x y = 0 ↔ Eqv x y := by
 rw [cmpA_zero]
 exact ⟨fun ⟨_, a, b, c, d, e, f, g⟩ => ⟨a, b, c, d, e, f, g⟩, fun h => ⟨weight_of h, h.k, h.l, h.r, h.rs, h.ro, h.a, h.b⟩⟩
end Go.Ai.Z
