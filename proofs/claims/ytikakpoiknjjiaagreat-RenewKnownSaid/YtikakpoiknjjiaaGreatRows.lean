/-
  No cell of these rows narrows 'for every input' (looked for: loops, veiled, ifaces, maps, wideKeys, modest, calm, conditions, laid).
  DERIVED. THE GIVEN ROWS OF THIS SEAT. 5 by the template 'for every input the law returns true; each argument reads behind the call as it read before'; 0 by the template 'total and deterministic' (their statements: YtikakpoiknjjiaaGreatTotals.lean).
  GIVEN WITH THE SEED: the statements are not yours to turn. If you find one false, say at which input.
  Laid BY PROGRAM, IN A SANDBOX (cutbox-rows.mjs): the forced cells as the released guide's own fill.sh prints them over the translation 2c9d67792bfc7e2e… (all of the seat's roots in one cut). By AI agents, Wed Nov 11 2026. No macro, syntax, notation, axiom, sorry.
-/
import Derived.Test.YtikakpoiknjjiaaGreatChecked
import GoSem.Claim
import GoSem.ClaimJoined
import GoSem.ClaimMapViews
import Derived.JoinedTies
import Derived.KernelRfl
namespace Go.Proofs.YtikakpoiknjjiaaGreat
/- THE CELL 'sum', in the pinned program and in every row, IS THE sha256 OF THE DUMP (.gsa) THAT YtikakpoiknjjiaaGreatProg.lean LOADS. Nothing in Lean hashes anything: it is a label: what it is worth is what the hold of that sum in a sandbox is worth. -/
noncomputable def Tryz.pinned : Pinned := { name := "ytikakpoiknjjiaagreat", sum := "2c9d67792bfc7e2edb72d0cf8ec003070bd6d55352e22285ee64858f5fcba8aa", checked := Tryz.checked }
namespace Rows
def none {H : Type} : Left H := { results := [], args := [] }

/-- 'ordinatelaw22.RenewKnown': WHATEVER THE INPUT: true; the input reads as it did. -/
def renewKnownSpec : ChangeSpec := { name := "renewKnown", fn := fun _ => fun
  | [] => { results := [.lit (.bool true)], args := [] }
  | _ => none }
def renewKnownRow : OpenClaim := { program := "ytikakpoiknjjiaagreat", sum := "2c9d67792bfc7e2edb72d0cf8ec003070bd6d55352e22285ee64858f5fcba8aa", func := "ordinate/ordinatelaw22.RenewKnown", spec := "renewKnown", unfollowed := true, recurses := true, apart := false }
def RenewKnownSaid : Prop := renewKnownRow.holds Tryz.pinned (OpenSpec.ofChange renewKnownSpec)

/-- ITS FALSE NEIGHBOUR: 'it returns false'. Refute it at one input. -/
def renewKnownWrong : ChangeSpec := { name := "renewKnown", fn := fun _ => fun
  | [] => { results := [.lit (.bool false)], args := [] }
  | _ => none }
def RenewKnownWrongFalsely : Prop := renewKnownRow.holds Tryz.pinned (OpenSpec.ofChange renewKnownWrong)

/-- 'ordinatelaw23.TallyKnown': WHATEVER THE INPUT: true; the input reads as it did. -/
def tallyKnownSpec : ChangeSpec := { name := "tallyKnown", fn := fun _ => fun
  | [] => { results := [.lit (.bool true)], args := [] }
  | _ => none }
def tallyKnownRow : OpenClaim := { program := "ytikakpoiknjjiaagreat", sum := "2c9d67792bfc7e2edb72d0cf8ec003070bd6d55352e22285ee64858f5fcba8aa", func := "ordinate/ordinatelaw23.TallyKnown", spec := "tallyKnown", unfollowed := true, recurses := true, apart := false }
def TallyKnownSaid : Prop := tallyKnownRow.holds Tryz.pinned (OpenSpec.ofChange tallyKnownSpec)

/-- ITS FALSE NEIGHBOUR: 'it returns false'. Refute it at one input. -/
def tallyKnownWrong : ChangeSpec := { name := "tallyKnown", fn := fun _ => fun
  | [] => { results := [.lit (.bool false)], args := [] }
  | _ => none }
def TallyKnownWrongFalsely : Prop := tallyKnownRow.holds Tryz.pinned (OpenSpec.ofChange tallyKnownWrong)

/-- 'ordinatelaw24.WriteKnown': WHATEVER THE INPUT: true; the input reads as it did. -/
def writeKnownSpec : ChangeSpec := { name := "writeKnown", fn := fun _ => fun
  | [] => { results := [.lit (.bool true)], args := [] }
  | _ => none }
def writeKnownRow : OpenClaim := { program := "ytikakpoiknjjiaagreat", sum := "2c9d67792bfc7e2edb72d0cf8ec003070bd6d55352e22285ee64858f5fcba8aa", func := "ordinate/ordinatelaw24.WriteKnown", spec := "writeKnown", unfollowed := true, recurses := true, named := ["math/bits.divideError", "math/bits.overflowError"], apart := false }
def WriteKnownSaid : Prop := writeKnownRow.holds Tryz.pinned (OpenSpec.ofChange writeKnownSpec)

/-- ITS FALSE NEIGHBOUR: 'it returns false'. Refute it at one input. -/
def writeKnownWrong : ChangeSpec := { name := "writeKnown", fn := fun _ => fun
  | [] => { results := [.lit (.bool false)], args := [] }
  | _ => none }
def WriteKnownWrongFalsely : Prop := writeKnownRow.holds Tryz.pinned (OpenSpec.ofChange writeKnownWrong)

/-- 'ordinatelaw26.ThreadKnown': WHATEVER THE INPUT: true; the input reads as it did. -/
def threadKnownSpec : ChangeSpec := { name := "threadKnown", fn := fun _ => fun
  | [] => { results := [.lit (.bool true)], args := [] }
  | _ => none }
def threadKnownRow : OpenClaim := { program := "ytikakpoiknjjiaagreat", sum := "2c9d67792bfc7e2edb72d0cf8ec003070bd6d55352e22285ee64858f5fcba8aa", func := "ordinate/ordinatelaw26.ThreadKnown", spec := "threadKnown", unfollowed := true, recurses := true, apart := false }
def ThreadKnownSaid : Prop := threadKnownRow.holds Tryz.pinned (OpenSpec.ofChange threadKnownSpec)

/-- ITS FALSE NEIGHBOUR: 'it returns false'. Refute it at one input. -/
def threadKnownWrong : ChangeSpec := { name := "threadKnown", fn := fun _ => fun
  | [] => { results := [.lit (.bool false)], args := [] }
  | _ => none }
def ThreadKnownWrongFalsely : Prop := threadKnownRow.holds Tryz.pinned (OpenSpec.ofChange threadKnownWrong)

/-- 'ordinatelaw27.IndexKnown': WHATEVER THE INPUT: true; the input reads as it did. -/
def indexKnownSpec : ChangeSpec := { name := "indexKnown", fn := fun _ => fun
  | [] => { results := [.lit (.bool true)], args := [] }
  | _ => none }
def indexKnownRow : OpenClaim := { program := "ytikakpoiknjjiaagreat", sum := "2c9d67792bfc7e2edb72d0cf8ec003070bd6d55352e22285ee64858f5fcba8aa", func := "ordinate/ordinatelaw27.IndexKnown", spec := "indexKnown", unfollowed := true, recurses := true, apart := false }
def IndexKnownSaid : Prop := indexKnownRow.holds Tryz.pinned (OpenSpec.ofChange indexKnownSpec)

/-- ITS FALSE NEIGHBOUR: 'it returns false'. Refute it at one input. -/
def indexKnownWrong : ChangeSpec := { name := "indexKnown", fn := fun _ => fun
  | [] => { results := [.lit (.bool false)], args := [] }
  | _ => none }
def IndexKnownWrongFalsely : Prop := indexKnownRow.holds Tryz.pinned (OpenSpec.ofChange indexKnownWrong)

/- THE SECOND FORM. 'bulk': how many values and letters a reading holds, each counted each time it is reached (what is shared counts as often as it is met; a slice's spare places count too). A statement '..UptoSaid' is the law's where the arguments, and the package variables that the reading takes, are together of bulk at most 1048576: NARROWER than '..Said'. Prove '..Said' where nothing that the law and all that it calls make is longer than what came in: it says more and counts as full. Else prove '..UptoSaid'. A law counts once. -/
mutual
def uptoBulk {H : Type} : DataW H → Nat
  | .lit (.string bytes) => bytes.length + 1
  | .lit _ => 1
  | .nil => 1
  | .ptr d => uptoBulk d + 1
  | .slice elems spare => uptoBulkAll elems + uptoBulkAll spare + 1
  | .agg parts => uptoBulkAll parts + 1
  | .iface _ d => uptoBulk d + 1
  | .map entries => uptoBulkEntries entries + 1
  | .held _ => 1
def uptoBulkAll {H : Type} : List (DataW H) → Nat
  | [] => 0
  | d :: r => uptoBulk d + uptoBulkAll r
def uptoBulkEntries {H : Type} : List (Lit × DataW H) → Nat
  | [] => 0
  | x :: r => uptoBulkEntry x + uptoBulkEntries r
def uptoBulkEntry {H : Type} : Lit × DataW H → Nat
  | (.string bytes, d) => bytes.length + uptoBulk d + 1
  | (_, d) => uptoBulk d + 1
 end
def uptoSmall : (H : Type) → List (DataW H) → Bool := fun _ ds => decide (uptoBulkAll ds ≤ 1048576)
def OpenSpec.upto (s : _root_.Go.ChangeSpec) : _root_.Go.OpenSpec := { _root_.Go.OpenSpec.ofChange s with cond := some uptoSmall }

/-- 'ordinatelaw22.RenewKnown', WHERE WHAT IT READS IS OF BULK AT MOST 1048576: true; the input reads as it did. -/
def renewKnownUptoRow : OpenClaim := { program := "ytikakpoiknjjiaagreat", sum := "2c9d67792bfc7e2edb72d0cf8ec003070bd6d55352e22285ee64858f5fcba8aa", func := "ordinate/ordinatelaw22.RenewKnown", spec := "renewKnown", unfollowed := true, recurses := true, apart := false, narrowed := true }
def RenewKnownUptoSaid : Prop := renewKnownUptoRow.holds Tryz.pinned (OpenSpec.upto renewKnownSpec)

/-- 'ordinatelaw23.TallyKnown', WHERE WHAT IT READS IS OF BULK AT MOST 1048576: true; the input reads as it did. -/
def tallyKnownUptoRow : OpenClaim := { program := "ytikakpoiknjjiaagreat", sum := "2c9d67792bfc7e2edb72d0cf8ec003070bd6d55352e22285ee64858f5fcba8aa", func := "ordinate/ordinatelaw23.TallyKnown", spec := "tallyKnown", unfollowed := true, recurses := true, apart := false, narrowed := true }
def TallyKnownUptoSaid : Prop := tallyKnownUptoRow.holds Tryz.pinned (OpenSpec.upto tallyKnownSpec)

/-- 'ordinatelaw24.WriteKnown', WHERE WHAT IT READS IS OF BULK AT MOST 1048576: true; the input reads as it did. -/
def writeKnownUptoRow : OpenClaim := { program := "ytikakpoiknjjiaagreat", sum := "2c9d67792bfc7e2edb72d0cf8ec003070bd6d55352e22285ee64858f5fcba8aa", func := "ordinate/ordinatelaw24.WriteKnown", spec := "writeKnown", unfollowed := true, recurses := true, named := ["math/bits.divideError", "math/bits.overflowError"], apart := false, narrowed := true }
def WriteKnownUptoSaid : Prop := writeKnownUptoRow.holds Tryz.pinned (OpenSpec.upto writeKnownSpec)

/-- 'ordinatelaw26.ThreadKnown', WHERE WHAT IT READS IS OF BULK AT MOST 1048576: true; the input reads as it did. -/
def threadKnownUptoRow : OpenClaim := { program := "ytikakpoiknjjiaagreat", sum := "2c9d67792bfc7e2edb72d0cf8ec003070bd6d55352e22285ee64858f5fcba8aa", func := "ordinate/ordinatelaw26.ThreadKnown", spec := "threadKnown", unfollowed := true, recurses := true, apart := false, narrowed := true }
def ThreadKnownUptoSaid : Prop := threadKnownUptoRow.holds Tryz.pinned (OpenSpec.upto threadKnownSpec)

/-- 'ordinatelaw27.IndexKnown', WHERE WHAT IT READS IS OF BULK AT MOST 1048576: true; the input reads as it did. -/
def indexKnownUptoRow : OpenClaim := { program := "ytikakpoiknjjiaagreat", sum := "2c9d67792bfc7e2edb72d0cf8ec003070bd6d55352e22285ee64858f5fcba8aa", func := "ordinate/ordinatelaw27.IndexKnown", spec := "indexKnown", unfollowed := true, recurses := true, apart := false, narrowed := true }
def IndexKnownUptoSaid : Prop := indexKnownUptoRow.holds Tryz.pinned (OpenSpec.upto indexKnownSpec)

end Rows
end Go.Proofs.YtikakpoiknjjiaaGreat
