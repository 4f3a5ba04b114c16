/-
  NARROWER THAN 'FOR EVERY INPUT', by the rows' own cells (each row's printed sentence says how): NullableTells: loops, laid · ScopeClosed: loops, laid · ScopeMore: loops, laid · ScopeTells: loops, laid.
  DERIVED. THE GIVEN ROWS OF THIS SEAT. 4 by the template 'for every input the law returns true; each argument reads behind the call as it read before'; 0 by the template 'total and deterministic' (their statements: YtdmhjnnogcpccaaGreatDoorTotals.lean).
  GIVEN WITH THE SEED: the statements are not yours to turn. If you find one false, say at which input.
  Laid BY PROGRAM, IN A SANDBOX (cutbox-rows.mjs): the forced cells as the released guide's own fill.sh prints them over the translation dd4459efc17f832d… (all of the seat's roots in one cut). By AI agents, Wed Nov 11 2026. No macro, syntax, notation, axiom, sorry.
-/
import Derived.Test.YtdmhjnnogcpccaaGreatDoorChecked
import GoSem.Claim
import GoSem.ClaimJoined
import GoSem.ClaimMapViews
import Derived.JoinedTies
import Derived.KernelRfl
namespace Go.Proofs.YtdmhjnnogcpccaaGreatDoor
/- THE CELL 'sum', in the pinned program and in every row, IS THE sha256 OF THE DUMP (.gsa) THAT YtdmhjnnogcpccaaGreatDoorProg.lean LOADS. Nothing in Lean hashes anything: it is a label: what it is worth is what the hold of that sum in a sandbox is worth. -/
noncomputable def Tryz.pinned : Pinned := { name := "ytdmhjnnogcpccaagreatdoor", sum := "dd4459efc17f832dd2418366c3867426ddb791eab48fcb15b5cfb1924bf802e6", checked := Tryz.checked }
namespace Rows
def none {H : Type} : Left H := { results := [], args := [] }

/- WHAT THE LISTED PACKAGE-LEVEL VARIABLES READ AS WHEN THE CALL BEGINS. Each datum BY PROGRAM (the guide's laid-datum.mjs) off the statement by which the dump's own 'gosem.cut.vars' lays the variable. In a bare row this is a premise. The card (YtdmhjnnogcpccaaGreatDoorCards.lean) ties it to the program's text. -/
def laid_errors_errorType {H : Type} : DataW H := .iface "internal/reflectlite.rtype" (.agg [.ptr (.lit (.string [101, 114, 114, 111, 114]))])

/-- 'muntinlaw07.NullableTells': WHATEVER THE INPUT: true; the input reads as it did. -/
def nullableTellsSpec : ChangeSpec := { name := "nullableTells", fn := fun _ => fun
  | [d1, d2] => { results := [.lit (.bool true)], args := [d1, d2] }
  | _ => none }
def nullableTellsRow : OpenClaim := { program := "ytdmhjnnogcpccaagreatdoor", sum := "dd4459efc17f832dd2418366c3867426ddb791eab48fcb15b5cfb1924bf802e6", func := "muntin/muntinlaw07.NullableTells", spec := "nullableTells", inPlace := ["internal/bytealg.IndexByteString", "internal/abi.NoEscape", "internal/reflectlite.ValueOf", "(internal/reflectlite.Value).Type", "(internal/reflectlite.Value).IsNil", "internal/reflectlite.TypeOf", "(internal/reflectlite.Value).Elem", "(internal/reflectlite.Value).Set"], unfollowed := true, recurses := true, named := ["errors.errorType"], loops := true, apart := false, laid := [("errors.errorType", laid_errors_errorType)] }
def NullableTellsSaid : Prop := nullableTellsRow.holds Tryz.pinned (OpenSpec.ofChange nullableTellsSpec)

/-- ITS FALSE NEIGHBOUR: 'it returns false'. Refute it at one input. -/
def nullableTellsWrong : ChangeSpec := { name := "nullableTells", fn := fun _ => fun
  | [d1, d2] => { results := [.lit (.bool false)], args := [d1, d2] }
  | _ => none }
def NullableTellsWrongFalsely : Prop := nullableTellsRow.holds Tryz.pinned (OpenSpec.ofChange nullableTellsWrong)

/-- 'muntinlaw06.ScopeClosed': WHATEVER THE INPUT: true; the input reads as it did. -/
def scopeClosedSpec : ChangeSpec := { name := "scopeClosed", fn := fun _ => fun
  | [d1, d2] => { results := [.lit (.bool true)], args := [d1, d2] }
  | _ => none }
def scopeClosedRow : OpenClaim := { program := "ytdmhjnnogcpccaagreatdoor", sum := "dd4459efc17f832dd2418366c3867426ddb791eab48fcb15b5cfb1924bf802e6", func := "muntin/muntinlaw06.ScopeClosed", spec := "scopeClosed", inPlace := ["internal/bytealg.IndexByteString", "internal/abi.NoEscape", "internal/reflectlite.ValueOf", "(internal/reflectlite.Value).Type", "(internal/reflectlite.Value).IsNil", "internal/reflectlite.TypeOf", "(internal/reflectlite.Value).Elem", "(internal/reflectlite.Value).Set"], unfollowed := true, recurses := true, named := ["errors.errorType"], loops := true, apart := false, laid := [("errors.errorType", laid_errors_errorType)] }
def ScopeClosedSaid : Prop := scopeClosedRow.holds Tryz.pinned (OpenSpec.ofChange scopeClosedSpec)

/-- ITS FALSE NEIGHBOUR: 'it returns false'. Refute it at one input. -/
def scopeClosedWrong : ChangeSpec := { name := "scopeClosed", fn := fun _ => fun
  | [d1, d2] => { results := [.lit (.bool false)], args := [d1, d2] }
  | _ => none }
def ScopeClosedWrongFalsely : Prop := scopeClosedRow.holds Tryz.pinned (OpenSpec.ofChange scopeClosedWrong)

/-- 'muntinlaw06.ScopeMore': WHATEVER THE INPUT: true; the input reads as it did. -/
def scopeMoreSpec : ChangeSpec := { name := "scopeMore", fn := fun _ => fun
  | [d1, d2, d3] => { results := [.lit (.bool true)], args := [d1, d2, d3] }
  | _ => none }
def scopeMoreRow : OpenClaim := { program := "ytdmhjnnogcpccaagreatdoor", sum := "dd4459efc17f832dd2418366c3867426ddb791eab48fcb15b5cfb1924bf802e6", func := "muntin/muntinlaw06.ScopeMore", spec := "scopeMore", inPlace := ["internal/bytealg.IndexByteString", "internal/abi.NoEscape", "internal/reflectlite.ValueOf", "(internal/reflectlite.Value).Type", "(internal/reflectlite.Value).IsNil", "internal/reflectlite.TypeOf", "(internal/reflectlite.Value).Elem", "(internal/reflectlite.Value).Set"], unfollowed := true, recurses := true, named := ["errors.errorType"], loops := true, apart := false, laid := [("errors.errorType", laid_errors_errorType)] }
def ScopeMoreSaid : Prop := scopeMoreRow.holds Tryz.pinned (OpenSpec.ofChange scopeMoreSpec)

/-- ITS FALSE NEIGHBOUR: 'it returns false'. Refute it at one input. -/
def scopeMoreWrong : ChangeSpec := { name := "scopeMore", fn := fun _ => fun
  | [d1, d2, d3] => { results := [.lit (.bool false)], args := [d1, d2, d3] }
  | _ => none }
def ScopeMoreWrongFalsely : Prop := scopeMoreRow.holds Tryz.pinned (OpenSpec.ofChange scopeMoreWrong)

/-- 'muntinlaw06.ScopeTells': WHATEVER THE INPUT: true; the input reads as it did. -/
def scopeTellsSpec : ChangeSpec := { name := "scopeTells", fn := fun _ => fun
  | [d1, d2, d3] => { results := [.lit (.bool true)], args := [d1, d2, d3] }
  | _ => none }
def scopeTellsRow : OpenClaim := { program := "ytdmhjnnogcpccaagreatdoor", sum := "dd4459efc17f832dd2418366c3867426ddb791eab48fcb15b5cfb1924bf802e6", func := "muntin/muntinlaw06.ScopeTells", spec := "scopeTells", inPlace := ["internal/bytealg.IndexByteString", "internal/abi.NoEscape", "internal/reflectlite.ValueOf", "(internal/reflectlite.Value).Type", "(internal/reflectlite.Value).IsNil", "internal/reflectlite.TypeOf", "(internal/reflectlite.Value).Elem", "(internal/reflectlite.Value).Set"], unfollowed := true, recurses := true, named := ["errors.errorType"], loops := true, apart := false, laid := [("errors.errorType", laid_errors_errorType)] }
def ScopeTellsSaid : Prop := scopeTellsRow.holds Tryz.pinned (OpenSpec.ofChange scopeTellsSpec)

/-- ITS FALSE NEIGHBOUR: 'it returns false'. Refute it at one input. -/
def scopeTellsWrong : ChangeSpec := { name := "scopeTells", fn := fun _ => fun
  | [d1, d2, d3] => { results := [.lit (.bool false)], args := [d1, d2, d3] }
  | _ => none }
def ScopeTellsWrongFalsely : Prop := scopeTellsRow.holds Tryz.pinned (OpenSpec.ofChange scopeTellsWrong)

/- THE SECOND FORM. 'bulk': how many values and letters a reading holds, each counted each time it is reached (what is shared counts as often as it is met; a slice's spare places count too). A statement '..UptoSaid' is the law's where the arguments, and the package variables that the reading takes, are together of bulk at most 1048576: NARROWER than '..Said'. Prove '..Said' where nothing that the law and all that it calls make is longer than what came in: it says more and counts as full. Else prove '..UptoSaid'. A law counts once. -/
mutual
def uptoBulk {H : Type} : DataW H → Nat
  | .lit (.string bytes) => bytes.length + 1
  | .lit _ => 1
  | .nil => 1
  | .ptr d => uptoBulk d + 1
  | .slice elems spare => uptoBulkAll elems + uptoBulkAll spare + 1
  | .agg parts => uptoBulkAll parts + 1
  | .iface _ d => uptoBulk d + 1
  | .map entries => uptoBulkEntries entries + 1
  | .held _ => 1
def uptoBulkAll {H : Type} : List (DataW H) → Nat
  | [] => 0
  | d :: r => uptoBulk d + uptoBulkAll r
def uptoBulkEntries {H : Type} : List (Lit × DataW H) → Nat
  | [] => 0
  | x :: r => uptoBulkEntry x + uptoBulkEntries r
def uptoBulkEntry {H : Type} : Lit × DataW H → Nat
  | (.string bytes, d) => bytes.length + uptoBulk d + 1
  | (_, d) => uptoBulk d + 1
 end
def uptoSmall : (H : Type) → List (DataW H) → Bool := fun _ ds => decide (uptoBulkAll ds ≤ 1048576)
def OpenSpec.upto (s : _root_.Go.ChangeSpec) : _root_.Go.OpenSpec := { _root_.Go.OpenSpec.ofChange s with cond := some uptoSmall }

/-- 'muntinlaw07.NullableTells', WHERE WHAT IT READS IS OF BULK AT MOST 1048576: true; the input reads as it did. -/
def nullableTellsUptoRow : OpenClaim := { program := "ytdmhjnnogcpccaagreatdoor", sum := "dd4459efc17f832dd2418366c3867426ddb791eab48fcb15b5cfb1924bf802e6", func := "muntin/muntinlaw07.NullableTells", spec := "nullableTells", inPlace := ["internal/bytealg.IndexByteString", "internal/abi.NoEscape", "internal/reflectlite.ValueOf", "(internal/reflectlite.Value).Type", "(internal/reflectlite.Value).IsNil", "internal/reflectlite.TypeOf", "(internal/reflectlite.Value).Elem", "(internal/reflectlite.Value).Set"], unfollowed := true, recurses := true, named := ["errors.errorType"], loops := true, apart := false, laid := [("errors.errorType", laid_errors_errorType)], narrowed := true }
def NullableTellsUptoSaid : Prop := nullableTellsUptoRow.holds Tryz.pinned (OpenSpec.upto nullableTellsSpec)

/-- 'muntinlaw06.ScopeClosed', WHERE WHAT IT READS IS OF BULK AT MOST 1048576: true; the input reads as it did. -/
def scopeClosedUptoRow : OpenClaim := { program := "ytdmhjnnogcpccaagreatdoor", sum := "dd4459efc17f832dd2418366c3867426ddb791eab48fcb15b5cfb1924bf802e6", func := "muntin/muntinlaw06.ScopeClosed", spec := "scopeClosed", inPlace := ["internal/bytealg.IndexByteString", "internal/abi.NoEscape", "internal/reflectlite.ValueOf", "(internal/reflectlite.Value).Type", "(internal/reflectlite.Value).IsNil", "internal/reflectlite.TypeOf", "(internal/reflectlite.Value).Elem", "(internal/reflectlite.Value).Set"], unfollowed := true, recurses := true, named := ["errors.errorType"], loops := true, apart := false, laid := [("errors.errorType", laid_errors_errorType)], narrowed := true }
def ScopeClosedUptoSaid : Prop := scopeClosedUptoRow.holds Tryz.pinned (OpenSpec.upto scopeClosedSpec)

/-- 'muntinlaw06.ScopeMore', WHERE WHAT IT READS IS OF BULK AT MOST 1048576: true; the input reads as it did. -/
def scopeMoreUptoRow : OpenClaim := { program := "ytdmhjnnogcpccaagreatdoor", sum := "dd4459efc17f832dd2418366c3867426ddb791eab48fcb15b5cfb1924bf802e6", func := "muntin/muntinlaw06.ScopeMore", spec := "scopeMore", inPlace := ["internal/bytealg.IndexByteString", "internal/abi.NoEscape", "internal/reflectlite.ValueOf", "(internal/reflectlite.Value).Type", "(internal/reflectlite.Value).IsNil", "internal/reflectlite.TypeOf", "(internal/reflectlite.Value).Elem", "(internal/reflectlite.Value).Set"], unfollowed := true, recurses := true, named := ["errors.errorType"], loops := true, apart := false, laid := [("errors.errorType", laid_errors_errorType)], narrowed := true }
def ScopeMoreUptoSaid : Prop := scopeMoreUptoRow.holds Tryz.pinned (OpenSpec.upto scopeMoreSpec)

/-- 'muntinlaw06.ScopeTells', WHERE WHAT IT READS IS OF BULK AT MOST 1048576: true; the input reads as it did. -/
def scopeTellsUptoRow : OpenClaim := { program := "ytdmhjnnogcpccaagreatdoor", sum := "dd4459efc17f832dd2418366c3867426ddb791eab48fcb15b5cfb1924bf802e6", func := "muntin/muntinlaw06.ScopeTells", spec := "scopeTells", inPlace := ["internal/bytealg.IndexByteString", "internal/abi.NoEscape", "internal/reflectlite.ValueOf", "(internal/reflectlite.Value).Type", "(internal/reflectlite.Value).IsNil", "internal/reflectlite.TypeOf", "(internal/reflectlite.Value).Elem", "(internal/reflectlite.Value).Set"], unfollowed := true, recurses := true, named := ["errors.errorType"], loops := true, apart := false, laid := [("errors.errorType", laid_errors_errorType)], narrowed := true }
def ScopeTellsUptoSaid : Prop := scopeTellsUptoRow.holds Tryz.pinned (OpenSpec.upto scopeTellsSpec)

end Rows
end Go.Proofs.YtdmhjnnogcpccaaGreatDoor
