/-
  NARROWER THAN 'FOR EVERY INPUT', by the rows' own cells (each row's printed sentence says how): PrinterTokens: loops, laid · RolesOrder: loops, laid · RolesInvariant: loops, laid · RolesFewer: loops, laid · RolesCircle: loops, laid · RolesClosed: loops, laid.
  DERIVED. THE GIVEN ROWS OF THIS SEAT. 6 by the template 'for every input the law returns true; each argument reads behind the call as it read before'; 0 by the template 'total and deterministic' (their statements: YtomjajnlomdhpaaDoorTotals.lean).
  GIVEN WITH THE SEED: the statements are not yours to turn. If you find one false, say at which input.
  Laid BY PROGRAM, IN A SANDBOX (cutbox-rows.mjs): the forced cells as the released guide's own fill.sh prints them over the translation 30299f6b3c99f218… (all of the seat's roots in one cut). By AI agents, Wed Nov 11 2026. No macro, syntax, notation, axiom, sorry.
-/
import Derived.Test.YtomjajnlomdhpaaDoorChecked
import GoSem.Claim
import GoSem.ClaimJoined
import GoSem.ClaimMapViews
import Derived.JoinedTies
import Derived.KernelRfl
namespace Go.Proofs.YtomjajnlomdhpaaDoor
/- THE CELL 'sum', in the pinned program and in every row, IS THE sha256 OF THE DUMP (.gsa) THAT YtomjajnlomdhpaaDoorProg.lean LOADS. Nothing in Lean hashes anything: it is a label: what it is worth is what the hold of that sum in a sandbox is worth. -/
noncomputable def Tryd.pinned : Pinned := { name := "ytomjajnlomdhpaadoor", sum := "30299f6b3c99f21818959fc18e3f2c064e8ba7615d4f075aa978816e649f6db4", checked := Tryd.checked }
namespace Rows
def none {H : Type} : Left H := { results := [], args := [] }

/- WHAT THE LISTED PACKAGE-LEVEL VARIABLES READ AS WHEN THE CALL BEGINS. Each datum BY PROGRAM (the guide's laid-datum.mjs) off the statement by which the dump's own 'gosem.cut.vars' lays the variable. In a bare row this is a premise. The card (YtomjajnlomdhpaaDoorCards.lean) ties it to the program's text. -/
def laid_math_bits_deBruijn32tab {H : Type} : DataW H := .agg [.lit (.int .u8 0), .lit (.int .u8 1), .lit (.int .u8 28), .lit (.int .u8 2), .lit (.int .u8 29), .lit (.int .u8 14), .lit (.int .u8 24), .lit (.int .u8 3), .lit (.int .u8 30), .lit (.int .u8 22), .lit (.int .u8 20), .lit (.int .u8 15), .lit (.int .u8 25), .lit (.int .u8 17), .lit (.int .u8 4), .lit (.int .u8 8), .lit (.int .u8 31), .lit (.int .u8 27), .lit (.int .u8 13), .lit (.int .u8 23), .lit (.int .u8 21), .lit (.int .u8 19), .lit (.int .u8 16), .lit (.int .u8 7), .lit (.int .u8 26), .lit (.int .u8 12), .lit (.int .u8 18), .lit (.int .u8 6), .lit (.int .u8 11), .lit (.int .u8 5), .lit (.int .u8 10), .lit (.int .u8 9)]
def laid_math_bits_deBruijn64tab {H : Type} : DataW H := .agg [.lit (.int .u8 0), .lit (.int .u8 1), .lit (.int .u8 56), .lit (.int .u8 2), .lit (.int .u8 57), .lit (.int .u8 49), .lit (.int .u8 28), .lit (.int .u8 3), .lit (.int .u8 61), .lit (.int .u8 58), .lit (.int .u8 42), .lit (.int .u8 50), .lit (.int .u8 38), .lit (.int .u8 29), .lit (.int .u8 17), .lit (.int .u8 4), .lit (.int .u8 62), .lit (.int .u8 47), .lit (.int .u8 59), .lit (.int .u8 36), .lit (.int .u8 45), .lit (.int .u8 43), .lit (.int .u8 51), .lit (.int .u8 22), .lit (.int .u8 53), .lit (.int .u8 39), .lit (.int .u8 33), .lit (.int .u8 30), .lit (.int .u8 24), .lit (.int .u8 18), .lit (.int .u8 12), .lit (.int .u8 5), .lit (.int .u8 63), .lit (.int .u8 55), .lit (.int .u8 48), .lit (.int .u8 27), .lit (.int .u8 60), .lit (.int .u8 41), .lit (.int .u8 37), .lit (.int .u8 16), .lit (.int .u8 46), .lit (.int .u8 35), .lit (.int .u8 44), .lit (.int .u8 21), .lit (.int .u8 52), .lit (.int .u8 32), .lit (.int .u8 23), .lit (.int .u8 11), .lit (.int .u8 54), .lit (.int .u8 26), .lit (.int .u8 40), .lit (.int .u8 15), .lit (.int .u8 34), .lit (.int .u8 20), .lit (.int .u8 31), .lit (.int .u8 10), .lit (.int .u8 25), .lit (.int .u8 14), .lit (.int .u8 19), .lit (.int .u8 9), .lit (.int .u8 13), .lit (.int .u8 8), .lit (.int .u8 7), .lit (.int .u8 6)]
def laid_internal_strconv_uint64pow10 {H : Type} : DataW H := .agg [.lit (.int .u64 1), .lit (.int .u64 10), .lit (.int .u64 100), .lit (.int .u64 1000), .lit (.int .u64 10000), .lit (.int .u64 100000), .lit (.int .u64 1000000), .lit (.int .u64 10000000), .lit (.int .u64 100000000), .lit (.int .u64 1000000000), .lit (.int .u64 10000000000), .lit (.int .u64 100000000000), .lit (.int .u64 1000000000000), .lit (.int .u64 10000000000000), .lit (.int .u64 100000000000000), .lit (.int .u64 1000000000000000), .lit (.int .u64 10000000000000000), .lit (.int .u64 100000000000000000), .lit (.int .u64 1000000000000000000), .lit (.int .u64 10000000000000000000)]
def laid_veilstone_terms_needs {H : Type} : DataW H := .agg [.agg [.lit (.int .i64 0), .lit (.int .i64 0), .lit (.int .i64 0), .lit (.bool false)], .agg [.lit (.int .i64 0), .lit (.int .i64 0), .lit (.int .i64 0), .lit (.bool false)], .agg [.lit (.int .i64 0), .lit (.int .i64 0), .lit (.int .i64 0), .lit (.bool false)], .agg [.lit (.int .i64 1), .lit (.int .i64 0), .lit (.int .i64 0), .lit (.bool false)], .agg [.lit (.int .i64 2), .lit (.int .i64 0), .lit (.int .i64 0), .lit (.bool false)], .agg [.lit (.int .i64 0), .lit (.int .i64 2), .lit (.int .i64 8), .lit (.bool false)], .agg [.lit (.int .i64 1), .lit (.int .i64 1), .lit (.int .i64 1), .lit (.bool false)], .agg [.lit (.int .i64 1), .lit (.int .i64 0), .lit (.int .i64 0), .lit (.bool true)]]
def laid_veilstone_terms_uses {H : Type} : DataW H := .agg [.agg [.lit (.bool false), .lit (.bool false), .lit (.bool false), .lit (.bool false), .lit (.bool false), .lit (.int .i64 0), .lit (.int .i64 0)], .agg [.lit (.bool true), .lit (.bool true), .lit (.bool false), .lit (.bool false), .lit (.bool false), .lit (.int .i64 0), .lit (.int .i64 0)], .agg [.lit (.bool true), .lit (.bool true), .lit (.bool false), .lit (.bool false), .lit (.bool false), .lit (.int .i64 0), .lit (.int .i64 0)], .agg [.lit (.bool true), .lit (.bool true), .lit (.bool false), .lit (.bool false), .lit (.bool false), .lit (.int .i64 0), .lit (.int .i64 0)], .agg [.lit (.bool false), .lit (.bool true), .lit (.bool true), .lit (.bool false), .lit (.bool false), .lit (.int .i64 0), .lit (.int .i64 0)], .agg [.lit (.bool false), .lit (.bool false), .lit (.bool true), .lit (.bool false), .lit (.bool false), .lit (.int .i64 1), .lit (.int .i64 1)], .agg [.lit (.bool false), .lit (.bool false), .lit (.bool true), .lit (.bool false), .lit (.bool false), .lit (.int .i64 2), .lit (.int .i64 4)], .agg [.lit (.bool false), .lit (.bool false), .lit (.bool true), .lit (.bool false), .lit (.bool false), .lit (.int .i64 0), .lit (.int .i64 0)], .agg [.lit (.bool false), .lit (.bool true), .lit (.bool false), .lit (.bool true), .lit (.bool false), .lit (.int .i64 0), .lit (.int .i64 0)], .agg [.lit (.bool false), .lit (.bool false), .lit (.bool true), .lit (.bool true), .lit (.bool true), .lit (.int .i64 0), .lit (.int .i64 0)]]

/-- 'veilstonelaw04.PrinterTokens': WHATEVER THE INPUT: true; the input reads as it did. -/
def printerTokensSpec : ChangeSpec := { name := "printerTokens", fn := fun _ => fun
  | [d] => { results := [.lit (.bool true)], args := [d] }
  | _ => none }
def printerTokensRow : OpenClaim := { program := "ytomjajnlomdhpaadoor", sum := "30299f6b3c99f21818959fc18e3f2c064e8ba7615d4f075aa978816e649f6db4", func := "veilstone/veilstonelaw04.PrinterTokens", spec := "printerTokens", inPlace := ["internal/bytealg.IndexByteString", "internal/bytealg.IndexString", "internal/abi.NoEscape", "internal/bytealg.MakeNoZero"], unfollowed := true, recurses := true, named := ["veilstone/terms.needs", "internal/bytealg.MaxLen", "internal/strconv.uint64pow10", "math/bits.deBruijn32tab", "math/bits.deBruijn64tab", "veilstone/terms.uses"], loops := true, plainKeys := false, apart := false, laid := [("math/bits.deBruijn32tab", laid_math_bits_deBruijn32tab), ("math/bits.deBruijn64tab", laid_math_bits_deBruijn64tab), ("internal/strconv.uint64pow10", laid_internal_strconv_uint64pow10), ("veilstone/terms.needs", laid_veilstone_terms_needs), ("veilstone/terms.uses", laid_veilstone_terms_uses)] }
def PrinterTokensSaid : Prop := printerTokensRow.holds Tryd.pinned (OpenSpec.ofChange printerTokensSpec)

/-- ITS FALSE NEIGHBOUR: 'it returns false'. Refute it at one input. -/
def printerTokensWrong : ChangeSpec := { name := "printerTokens", fn := fun _ => fun
  | [d] => { results := [.lit (.bool false)], args := [d] }
  | _ => none }
def PrinterTokensWrongFalsely : Prop := printerTokensRow.holds Tryd.pinned (OpenSpec.ofChange printerTokensWrong)

/-- 'veilstonelaw06.RolesOrder': WHATEVER THE INPUT: true; the input reads as it did. -/
def rolesOrderSpec : ChangeSpec := { name := "rolesOrder", fn := fun _ => fun
  | [d1, d2, d3, d4] => { results := [.lit (.bool true)], args := [d1, d2, d3, d4] }
  | _ => none }
def rolesOrderRow : OpenClaim := { program := "ytomjajnlomdhpaadoor", sum := "30299f6b3c99f21818959fc18e3f2c064e8ba7615d4f075aa978816e649f6db4", func := "veilstone/veilstonelaw06.RolesOrder", spec := "rolesOrder", inPlace := ["internal/bytealg.IndexByteString", "internal/bytealg.IndexString", "internal/abi.NoEscape", "internal/bytealg.MakeNoZero"], unfollowed := true, recurses := true, named := ["veilstone/terms.uses", "internal/bytealg.MaxLen", "veilstone/terms.needs"], loops := true, plainKeys := false, apart := false, laid := [("veilstone/terms.needs", laid_veilstone_terms_needs), ("veilstone/terms.uses", laid_veilstone_terms_uses)] }
def RolesOrderSaid : Prop := rolesOrderRow.holds Tryd.pinned (OpenSpec.ofChange rolesOrderSpec)

/-- ITS FALSE NEIGHBOUR: 'it returns false'. Refute it at one input. -/
def rolesOrderWrong : ChangeSpec := { name := "rolesOrder", fn := fun _ => fun
  | [d1, d2, d3, d4] => { results := [.lit (.bool false)], args := [d1, d2, d3, d4] }
  | _ => none }
def RolesOrderWrongFalsely : Prop := rolesOrderRow.holds Tryd.pinned (OpenSpec.ofChange rolesOrderWrong)

/-- 'veilstonelaw06.RolesInvariant': WHATEVER THE INPUT: true; the input reads as it did. -/
def rolesInvariantSpec : ChangeSpec := { name := "rolesInvariant", fn := fun _ => fun
  | [d1, d2, d3] => { results := [.lit (.bool true)], args := [d1, d2, d3] }
  | _ => none }
def rolesInvariantRow : OpenClaim := { program := "ytomjajnlomdhpaadoor", sum := "30299f6b3c99f21818959fc18e3f2c064e8ba7615d4f075aa978816e649f6db4", func := "veilstone/veilstonelaw06.RolesInvariant", spec := "rolesInvariant", inPlace := ["internal/bytealg.IndexByteString", "internal/bytealg.IndexString", "internal/abi.NoEscape", "internal/bytealg.MakeNoZero"], unfollowed := true, recurses := true, named := ["veilstone/terms.uses", "internal/bytealg.MaxLen", "veilstone/terms.needs"], loops := true, plainKeys := false, apart := false, laid := [("veilstone/terms.needs", laid_veilstone_terms_needs), ("veilstone/terms.uses", laid_veilstone_terms_uses)] }
def RolesInvariantSaid : Prop := rolesInvariantRow.holds Tryd.pinned (OpenSpec.ofChange rolesInvariantSpec)

/-- ITS FALSE NEIGHBOUR: 'it returns false'. Refute it at one input. -/
def rolesInvariantWrong : ChangeSpec := { name := "rolesInvariant", fn := fun _ => fun
  | [d1, d2, d3] => { results := [.lit (.bool false)], args := [d1, d2, d3] }
  | _ => none }
def RolesInvariantWrongFalsely : Prop := rolesInvariantRow.holds Tryd.pinned (OpenSpec.ofChange rolesInvariantWrong)

/-- 'veilstonelaw06.RolesFewer': WHATEVER THE INPUT: true; the input reads as it did. -/
def rolesFewerSpec : ChangeSpec := { name := "rolesFewer", fn := fun _ => fun
  | [d1, d2, d3, d4] => { results := [.lit (.bool true)], args := [d1, d2, d3, d4] }
  | _ => none }
def rolesFewerRow : OpenClaim := { program := "ytomjajnlomdhpaadoor", sum := "30299f6b3c99f21818959fc18e3f2c064e8ba7615d4f075aa978816e649f6db4", func := "veilstone/veilstonelaw06.RolesFewer", spec := "rolesFewer", inPlace := ["internal/bytealg.IndexByteString", "internal/bytealg.IndexString", "internal/abi.NoEscape", "internal/bytealg.MakeNoZero"], unfollowed := true, recurses := true, named := ["veilstone/terms.uses", "internal/bytealg.MaxLen", "veilstone/terms.needs"], loops := true, plainKeys := false, apart := false, laid := [("veilstone/terms.needs", laid_veilstone_terms_needs), ("veilstone/terms.uses", laid_veilstone_terms_uses)] }
def RolesFewerSaid : Prop := rolesFewerRow.holds Tryd.pinned (OpenSpec.ofChange rolesFewerSpec)

/-- ITS FALSE NEIGHBOUR: 'it returns false'. Refute it at one input. -/
def rolesFewerWrong : ChangeSpec := { name := "rolesFewer", fn := fun _ => fun
  | [d1, d2, d3, d4] => { results := [.lit (.bool false)], args := [d1, d2, d3, d4] }
  | _ => none }
def RolesFewerWrongFalsely : Prop := rolesFewerRow.holds Tryd.pinned (OpenSpec.ofChange rolesFewerWrong)

/-- 'veilstonelaw06.RolesCircle': WHATEVER THE INPUT: true; the input reads as it did. -/
def rolesCircleSpec : ChangeSpec := { name := "rolesCircle", fn := fun _ => fun
  | [d] => { results := [.lit (.bool true)], args := [d] }
  | _ => none }
def rolesCircleRow : OpenClaim := { program := "ytomjajnlomdhpaadoor", sum := "30299f6b3c99f21818959fc18e3f2c064e8ba7615d4f075aa978816e649f6db4", func := "veilstone/veilstonelaw06.RolesCircle", spec := "rolesCircle", inPlace := ["internal/bytealg.IndexByteString", "internal/bytealg.IndexString", "internal/abi.NoEscape", "internal/bytealg.MakeNoZero"], unfollowed := true, recurses := true, named := ["veilstone/terms.uses", "internal/bytealg.MaxLen", "veilstone/terms.needs"], loops := true, plainKeys := false, apart := false, laid := [("veilstone/terms.needs", laid_veilstone_terms_needs), ("veilstone/terms.uses", laid_veilstone_terms_uses)] }
def RolesCircleSaid : Prop := rolesCircleRow.holds Tryd.pinned (OpenSpec.ofChange rolesCircleSpec)

/-- ITS FALSE NEIGHBOUR: 'it returns false'. Refute it at one input. -/
def rolesCircleWrong : ChangeSpec := { name := "rolesCircle", fn := fun _ => fun
  | [d] => { results := [.lit (.bool false)], args := [d] }
  | _ => none }
def RolesCircleWrongFalsely : Prop := rolesCircleRow.holds Tryd.pinned (OpenSpec.ofChange rolesCircleWrong)

/-- 'veilstonelaw06.RolesClosed': WHATEVER THE INPUT: true; the input reads as it did. -/
def rolesClosedSpec : ChangeSpec := { name := "rolesClosed", fn := fun _ => fun
  | [d1, d2, d3, d4, d5] => { results := [.lit (.bool true)], args := [d1, d2, d3, d4, d5] }
  | _ => none }
def rolesClosedRow : OpenClaim := { program := "ytomjajnlomdhpaadoor", sum := "30299f6b3c99f21818959fc18e3f2c064e8ba7615d4f075aa978816e649f6db4", func := "veilstone/veilstonelaw06.RolesClosed", spec := "rolesClosed", inPlace := ["internal/bytealg.IndexByteString", "internal/bytealg.IndexString", "internal/abi.NoEscape", "internal/bytealg.MakeNoZero"], unfollowed := true, recurses := true, named := ["veilstone/terms.uses", "internal/bytealg.MaxLen", "veilstone/terms.needs"], loops := true, plainKeys := false, apart := false, laid := [("veilstone/terms.needs", laid_veilstone_terms_needs), ("veilstone/terms.uses", laid_veilstone_terms_uses)] }
def RolesClosedSaid : Prop := rolesClosedRow.holds Tryd.pinned (OpenSpec.ofChange rolesClosedSpec)

/-- ITS FALSE NEIGHBOUR: 'it returns false'. Refute it at one input. -/
def rolesClosedWrong : ChangeSpec := { name := "rolesClosed", fn := fun _ => fun
  | [d1, d2, d3, d4, d5] => { results := [.lit (.bool false)], args := [d1, d2, d3, d4, d5] }
  | _ => none }
def RolesClosedWrongFalsely : Prop := rolesClosedRow.holds Tryd.pinned (OpenSpec.ofChange rolesClosedWrong)

/- THE SECOND FORM. 'bulk': how many values and letters a reading holds, each counted each time it is reached (what is shared counts as often as it is met; a slice's spare places count too). A statement '..UptoSaid' is the law's where the arguments, and the package variables that the reading takes, are together of bulk at most 1048576: NARROWER than '..Said'. Prove '..Said' where nothing that the law and all that it calls make is longer than what came in: it says more and counts as full. Else prove '..UptoSaid'. A law counts once. -/
mutual
def uptoBulk {H : Type} : DataW H → Nat
  | .lit (.string bytes) => bytes.length + 1
  | .lit _ => 1
  | .nil => 1
  | .ptr d => uptoBulk d + 1
  | .slice elems spare => uptoBulkAll elems + uptoBulkAll spare + 1
  | .agg parts => uptoBulkAll parts + 1
  | .iface _ d => uptoBulk d + 1
  | .map entries => uptoBulkEntries entries + 1
  | .held _ => 1
def uptoBulkAll {H : Type} : List (DataW H) → Nat
  | [] => 0
  | d :: r => uptoBulk d + uptoBulkAll r
def uptoBulkEntries {H : Type} : List (Lit × DataW H) → Nat
  | [] => 0
  | x :: r => uptoBulkEntry x + uptoBulkEntries r
def uptoBulkEntry {H : Type} : Lit × DataW H → Nat
  | (.string bytes, d) => bytes.length + uptoBulk d + 1
  | (_, d) => uptoBulk d + 1
 end
def uptoSmall : (H : Type) → List (DataW H) → Bool := fun _ ds => decide (uptoBulkAll ds ≤ 1048576)
def OpenSpec.upto (s : _root_.Go.ChangeSpec) : _root_.Go.OpenSpec := { _root_.Go.OpenSpec.ofChange s with cond := some uptoSmall }

/-- 'veilstonelaw04.PrinterTokens', WHERE WHAT IT READS IS OF BULK AT MOST 1048576: true; the input reads as it did. -/
def printerTokensUptoRow : OpenClaim := { program := "ytomjajnlomdhpaadoor", sum := "30299f6b3c99f21818959fc18e3f2c064e8ba7615d4f075aa978816e649f6db4", func := "veilstone/veilstonelaw04.PrinterTokens", spec := "printerTokens", inPlace := ["internal/bytealg.IndexByteString", "internal/bytealg.IndexString", "internal/abi.NoEscape", "internal/bytealg.MakeNoZero"], unfollowed := true, recurses := true, named := ["veilstone/terms.needs", "internal/bytealg.MaxLen", "internal/strconv.uint64pow10", "math/bits.deBruijn32tab", "math/bits.deBruijn64tab", "veilstone/terms.uses"], loops := true, plainKeys := false, apart := false, laid := [("math/bits.deBruijn32tab", laid_math_bits_deBruijn32tab), ("math/bits.deBruijn64tab", laid_math_bits_deBruijn64tab), ("internal/strconv.uint64pow10", laid_internal_strconv_uint64pow10), ("veilstone/terms.needs", laid_veilstone_terms_needs), ("veilstone/terms.uses", laid_veilstone_terms_uses)], narrowed := true }
def PrinterTokensUptoSaid : Prop := printerTokensUptoRow.holds Tryd.pinned (OpenSpec.upto printerTokensSpec)

/-- 'veilstonelaw06.RolesOrder', WHERE WHAT IT READS IS OF BULK AT MOST 1048576: true; the input reads as it did. -/
def rolesOrderUptoRow : OpenClaim := { program := "ytomjajnlomdhpaadoor", sum := "30299f6b3c99f21818959fc18e3f2c064e8ba7615d4f075aa978816e649f6db4", func := "veilstone/veilstonelaw06.RolesOrder", spec := "rolesOrder", inPlace := ["internal/bytealg.IndexByteString", "internal/bytealg.IndexString", "internal/abi.NoEscape", "internal/bytealg.MakeNoZero"], unfollowed := true, recurses := true, named := ["veilstone/terms.uses", "internal/bytealg.MaxLen", "veilstone/terms.needs"], loops := true, plainKeys := false, apart := false, laid := [("veilstone/terms.needs", laid_veilstone_terms_needs), ("veilstone/terms.uses", laid_veilstone_terms_uses)], narrowed := true }
def RolesOrderUptoSaid : Prop := rolesOrderUptoRow.holds Tryd.pinned (OpenSpec.upto rolesOrderSpec)

/-- 'veilstonelaw06.RolesInvariant', WHERE WHAT IT READS IS OF BULK AT MOST 1048576: true; the input reads as it did. -/
def rolesInvariantUptoRow : OpenClaim := { program := "ytomjajnlomdhpaadoor", sum := "30299f6b3c99f21818959fc18e3f2c064e8ba7615d4f075aa978816e649f6db4", func := "veilstone/veilstonelaw06.RolesInvariant", spec := "rolesInvariant", inPlace := ["internal/bytealg.IndexByteString", "internal/bytealg.IndexString", "internal/abi.NoEscape", "internal/bytealg.MakeNoZero"], unfollowed := true, recurses := true, named := ["veilstone/terms.uses", "internal/bytealg.MaxLen", "veilstone/terms.needs"], loops := true, plainKeys := false, apart := false, laid := [("veilstone/terms.needs", laid_veilstone_terms_needs), ("veilstone/terms.uses", laid_veilstone_terms_uses)], narrowed := true }
def RolesInvariantUptoSaid : Prop := rolesInvariantUptoRow.holds Tryd.pinned (OpenSpec.upto rolesInvariantSpec)

/-- 'veilstonelaw06.RolesFewer', WHERE WHAT IT READS IS OF BULK AT MOST 1048576: true; the input reads as it did. -/
def rolesFewerUptoRow : OpenClaim := { program := "ytomjajnlomdhpaadoor", sum := "30299f6b3c99f21818959fc18e3f2c064e8ba7615d4f075aa978816e649f6db4", func := "veilstone/veilstonelaw06.RolesFewer", spec := "rolesFewer", inPlace := ["internal/bytealg.IndexByteString", "internal/bytealg.IndexString", "internal/abi.NoEscape", "internal/bytealg.MakeNoZero"], unfollowed := true, recurses := true, named := ["veilstone/terms.uses", "internal/bytealg.MaxLen", "veilstone/terms.needs"], loops := true, plainKeys := false, apart := false, laid := [("veilstone/terms.needs", laid_veilstone_terms_needs), ("veilstone/terms.uses", laid_veilstone_terms_uses)], narrowed := true }
def RolesFewerUptoSaid : Prop := rolesFewerUptoRow.holds Tryd.pinned (OpenSpec.upto rolesFewerSpec)

/-- 'veilstonelaw06.RolesCircle', WHERE WHAT IT READS IS OF BULK AT MOST 1048576: true; the input reads as it did. -/
def rolesCircleUptoRow : OpenClaim := { program := "ytomjajnlomdhpaadoor", sum := "30299f6b3c99f21818959fc18e3f2c064e8ba7615d4f075aa978816e649f6db4", func := "veilstone/veilstonelaw06.RolesCircle", spec := "rolesCircle", inPlace := ["internal/bytealg.IndexByteString", "internal/bytealg.IndexString", "internal/abi.NoEscape", "internal/bytealg.MakeNoZero"], unfollowed := true, recurses := true, named := ["veilstone/terms.uses", "internal/bytealg.MaxLen", "veilstone/terms.needs"], loops := true, plainKeys := false, apart := false, laid := [("veilstone/terms.needs", laid_veilstone_terms_needs), ("veilstone/terms.uses", laid_veilstone_terms_uses)], narrowed := true }
def RolesCircleUptoSaid : Prop := rolesCircleUptoRow.holds Tryd.pinned (OpenSpec.upto rolesCircleSpec)

/-- 'veilstonelaw06.RolesClosed', WHERE WHAT IT READS IS OF BULK AT MOST 1048576: true; the input reads as it did. -/
def rolesClosedUptoRow : OpenClaim := { program := "ytomjajnlomdhpaadoor", sum := "30299f6b3c99f21818959fc18e3f2c064e8ba7615d4f075aa978816e649f6db4", func := "veilstone/veilstonelaw06.RolesClosed", spec := "rolesClosed", inPlace := ["internal/bytealg.IndexByteString", "internal/bytealg.IndexString", "internal/abi.NoEscape", "internal/bytealg.MakeNoZero"], unfollowed := true, recurses := true, named := ["veilstone/terms.uses", "internal/bytealg.MaxLen", "veilstone/terms.needs"], loops := true, plainKeys := false, apart := false, laid := [("veilstone/terms.needs", laid_veilstone_terms_needs), ("veilstone/terms.uses", laid_veilstone_terms_uses)], narrowed := true }
def RolesClosedUptoSaid : Prop := rolesClosedUptoRow.holds Tryd.pinned (OpenSpec.upto rolesClosedSpec)

end Rows
end Go.Proofs.YtomjajnlomdhpaaDoor
