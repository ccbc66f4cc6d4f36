/-
  No cell of these rows narrows 'for every input' (looked for: loops, veiled, ifaces, maps, wideKeys, modest, calm, conditions, laid).
  DERIVED. THE GIVEN ROWS OF THIS SEAT. 2 by the template 'for every input the law returns true; each argument reads behind the call as it read before'; 0 by the template 'total and deterministic' (their statements: YtnonihjoimobmaaGreatTotals.lean).
  GIVEN WITH THE SEED: the statements are not yours to turn. If you find one false, say at which input.
  Laid BY PROGRAM, IN A SANDBOX (cutbox-rows.mjs): the forced cells as the released guide's own fill.sh prints them over the translation d88cefe44c272164… (all of the seat's roots in one cut). By AI agents, Wed Nov 11 2026. No macro, syntax, notation, axiom, sorry.
-/
import Derived.Test.YtnonihjoimobmaaGreatChecked
import GoSem.Claim
import GoSem.ClaimJoined
import GoSem.ClaimMapViews
import Derived.JoinedTies
import Derived.KernelRfl
namespace Go.Proofs.YtnonihjoimobmaaGreat
/- THE CELL 'sum', in the pinned program and in every row, IS THE sha256 OF THE DUMP (.gsa) THAT YtnonihjoimobmaaGreatProg.lean LOADS. Nothing in Lean hashes anything: it is a label: what it is worth is what the hold of that sum in a sandbox is worth. -/
noncomputable def Tryz.pinned : Pinned := { name := "ytnonihjoimobmaagreat", sum := "d88cefe44c272164570cc802ae537c406d75c0b1a69b97a8711022b4148e0a99", checked := Tryz.checked }
namespace Rows
def none {H : Type} : Left H := { results := [], args := [] }

/-- 'ordinatelaw22.RenewAlone': WHATEVER THE INPUT: true; the input reads as it did. -/
def renewAloneSpec : ChangeSpec := { name := "renewAlone", fn := fun _ => fun
  | [d1, d2, d3] => { results := [.lit (.bool true)], args := [d1, d2, d3] }
  | _ => none }
def renewAloneRow : OpenClaim := { program := "ytnonihjoimobmaagreat", sum := "d88cefe44c272164570cc802ae537c406d75c0b1a69b97a8711022b4148e0a99", func := "ordinate/ordinatelaw22.RenewAlone", spec := "renewAlone", unfollowed := true, recurses := true, apart := false }
def RenewAloneSaid : Prop := renewAloneRow.holds Tryz.pinned (OpenSpec.ofChange renewAloneSpec)

/-- ITS FALSE NEIGHBOUR: 'it returns false'. Refute it at one input. -/
def renewAloneWrong : ChangeSpec := { name := "renewAlone", fn := fun _ => fun
  | [d1, d2, d3] => { results := [.lit (.bool false)], args := [d1, d2, d3] }
  | _ => none }
def RenewAloneWrongFalsely : Prop := renewAloneRow.holds Tryz.pinned (OpenSpec.ofChange renewAloneWrong)

/-- 'ordinatelaw22.RenewLate': WHATEVER THE INPUT: true; the input reads as it did. -/
def renewLateSpec : ChangeSpec := { name := "renewLate", fn := fun _ => fun
  | [d1, d2, d3] => { results := [.lit (.bool true)], args := [d1, d2, d3] }
  | _ => none }
def renewLateRow : OpenClaim := { program := "ytnonihjoimobmaagreat", sum := "d88cefe44c272164570cc802ae537c406d75c0b1a69b97a8711022b4148e0a99", func := "ordinate/ordinatelaw22.RenewLate", spec := "renewLate", unfollowed := true, recurses := true, apart := false }
def RenewLateSaid : Prop := renewLateRow.holds Tryz.pinned (OpenSpec.ofChange renewLateSpec)

/-- ITS FALSE NEIGHBOUR: 'it returns false'. Refute it at one input. -/
def renewLateWrong : ChangeSpec := { name := "renewLate", fn := fun _ => fun
  | [d1, d2, d3] => { results := [.lit (.bool false)], args := [d1, d2, d3] }
  | _ => none }
def RenewLateWrongFalsely : Prop := renewLateRow.holds Tryz.pinned (OpenSpec.ofChange renewLateWrong)

/- THE SECOND FORM. 'bulk': how many values and letters a reading holds, each counted each time it is reached (what is shared counts as often as it is met; a slice's spare places count too). A statement '..UptoSaid' is the law's where the arguments, and the package variables that the reading takes, are together of bulk at most 1048576: NARROWER than '..Said'. Prove '..Said' where nothing that the law and all that it calls make is longer than what came in: it says more and counts as full. Else prove '..UptoSaid'. A law counts once. -/
mutual
def uptoBulk {H : Type} : DataW H → Nat
  | .lit (.string bytes) => bytes.length + 1
  | .lit _ => 1
  | .nil => 1
  | .ptr d => uptoBulk d + 1
  | .slice elems spare => uptoBulkAll elems + uptoBulkAll spare + 1
  | .agg parts => uptoBulkAll parts + 1
  | .iface _ d => uptoBulk d + 1
  | .map entries => uptoBulkEntries entries + 1
  | .held _ => 1
def uptoBulkAll {H : Type} : List (DataW H) → Nat
  | [] => 0
  | d :: r => uptoBulk d + uptoBulkAll r
def uptoBulkEntries {H : Type} : List (Lit × DataW H) → Nat
  | [] => 0
  | x :: r => uptoBulkEntry x + uptoBulkEntries r
def uptoBulkEntry {H : Type} : Lit × DataW H → Nat
  | (.string bytes, d) => bytes.length + uptoBulk d + 1
  | (_, d) => uptoBulk d + 1
 end
def uptoSmall : (H : Type) → List (DataW H) → Bool := fun _ ds => decide (uptoBulkAll ds ≤ 1048576)
def OpenSpec.upto (s : _root_.Go.ChangeSpec) : _root_.Go.OpenSpec := { _root_.Go.OpenSpec.ofChange s with cond := some uptoSmall }

/-- 'ordinatelaw22.RenewAlone', WHERE WHAT IT READS IS OF BULK AT MOST 1048576: true; the input reads as it did. -/
def renewAloneUptoRow : OpenClaim := { program := "ytnonihjoimobmaagreat", sum := "d88cefe44c272164570cc802ae537c406d75c0b1a69b97a8711022b4148e0a99", func := "ordinate/ordinatelaw22.RenewAlone", spec := "renewAlone", unfollowed := true, recurses := true, apart := false, narrowed := true }
def RenewAloneUptoSaid : Prop := renewAloneUptoRow.holds Tryz.pinned (OpenSpec.upto renewAloneSpec)

/-- 'ordinatelaw22.RenewLate', WHERE WHAT IT READS IS OF BULK AT MOST 1048576: true; the input reads as it did. -/
def renewLateUptoRow : OpenClaim := { program := "ytnonihjoimobmaagreat", sum := "d88cefe44c272164570cc802ae537c406d75c0b1a69b97a8711022b4148e0a99", func := "ordinate/ordinatelaw22.RenewLate", spec := "renewLate", unfollowed := true, recurses := true, apart := false, narrowed := true }
def RenewLateUptoSaid : Prop := renewLateUptoRow.holds Tryz.pinned (OpenSpec.upto renewLateSpec)

end Rows
end Go.Proofs.YtnonihjoimobmaaGreat
