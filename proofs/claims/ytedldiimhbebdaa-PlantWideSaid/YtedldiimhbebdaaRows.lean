/-
  No cell of these rows narrows 'for every input' (looked for: loops, veiled, ifaces, maps, wideKeys, modest, calm, conditions, laid).
  DERIVED. THE GIVEN ROWS OF THIS SEAT. 11 by the template 'for every input the law returns true; each argument reads behind the call as it read before'; 0 by the template 'total and deterministic' (their statements: YtedldiimhbebdaaTotals.lean).
  GIVEN WITH THE SEED: the statements are not yours to turn. If you find one false, say at which input.
  Laid BY PROGRAM, IN A SANDBOX (cutbox-rows.mjs): the forced cells as the released guide's own fill.sh prints them over the translation ee78abd93e00c8b9… (all of the seat's roots in one cut). By AI agents, Wed Nov 11 2026. No macro, syntax, notation, axiom, sorry.
-/
import Derived.Test.YtedldiimhbebdaaChecked
import GoSem.Claim
import GoSem.ClaimJoined
import GoSem.ClaimMapViews
import Derived.JoinedTies
import Derived.KernelRfl
namespace Go.Proofs.Ytedldiimhbebdaa
/- THE CELL 'sum', in the pinned program and in every row, IS THE sha256 OF THE DUMP (.gsa) THAT YtedldiimhbebdaaProg.lean LOADS. Nothing in Lean hashes anything: it is a label: what it is worth is what the hold of that sum in a sandbox is worth. -/
noncomputable def Try.pinned : Pinned := { name := "ytedldiimhbebdaa", sum := "ee78abd93e00c8b97fedfebc3bf774692601a21621945bec589f55ae38169cfc", checked := Try.checked }
namespace Rows
def none {H : Type} : Left H := { results := [], args := [] }

/-- 'ordinatelaw21.GrowKnown': WHATEVER THE INPUT: true; the input reads as it did. -/
def growKnownSpec : ChangeSpec := { name := "growKnown", fn := fun _ => fun
  | [] => { results := [.lit (.bool true)], args := [] }
  | _ => none }
def growKnownRow : OpenClaim := { program := "ytedldiimhbebdaa", sum := "ee78abd93e00c8b97fedfebc3bf774692601a21621945bec589f55ae38169cfc", func := "ordinate/ordinatelaw21.GrowKnown", spec := "growKnown", recurses := true, apart := false }
def GrowKnownSaid : Prop := growKnownRow.holds Try.pinned (OpenSpec.ofChange growKnownSpec)

/-- ITS FALSE NEIGHBOUR: 'it returns false'. Refute it at one input. -/
def growKnownWrong : ChangeSpec := { name := "growKnown", fn := fun _ => fun
  | [] => { results := [.lit (.bool false)], args := [] }
  | _ => none }
def GrowKnownWrongFalsely : Prop := growKnownRow.holds Try.pinned (OpenSpec.ofChange growKnownWrong)

/-- 'ordinatelaw10.PlantTells': WHATEVER THE INPUT: true; the input reads as it did. -/
def plantTellsSpec : ChangeSpec := { name := "plantTells", fn := fun _ => fun
  | [d1, d2, d3, d4, d5] => { results := [.lit (.bool true)], args := [d1, d2, d3, d4, d5] }
  | _ => none }
def plantTellsRow : OpenClaim := { program := "ytedldiimhbebdaa", sum := "ee78abd93e00c8b97fedfebc3bf774692601a21621945bec589f55ae38169cfc", func := "ordinate/ordinatelaw10.PlantTells", spec := "plantTells", recurses := true, apart := false }
def PlantTellsSaid : Prop := plantTellsRow.holds Try.pinned (OpenSpec.ofChange plantTellsSpec)

/-- ITS FALSE NEIGHBOUR: 'it returns false'. Refute it at one input. -/
def plantTellsWrong : ChangeSpec := { name := "plantTells", fn := fun _ => fun
  | [d1, d2, d3, d4, d5] => { results := [.lit (.bool false)], args := [d1, d2, d3, d4, d5] }
  | _ => none }
def PlantTellsWrongFalsely : Prop := plantTellsRow.holds Try.pinned (OpenSpec.ofChange plantTellsWrong)

/-- 'ordinatelaw10.PlantTwo': WHATEVER THE INPUT: true; the input reads as it did. -/
def plantTwoSpec : ChangeSpec := { name := "plantTwo", fn := fun _ => fun
  | [d1, d2] => { results := [.lit (.bool true)], args := [d1, d2] }
  | _ => none }
def plantTwoRow : OpenClaim := { program := "ytedldiimhbebdaa", sum := "ee78abd93e00c8b97fedfebc3bf774692601a21621945bec589f55ae38169cfc", func := "ordinate/ordinatelaw10.PlantTwo", spec := "plantTwo", recurses := true, apart := false }
def PlantTwoSaid : Prop := plantTwoRow.holds Try.pinned (OpenSpec.ofChange plantTwoSpec)

/-- ITS FALSE NEIGHBOUR: 'it returns false'. Refute it at one input. -/
def plantTwoWrong : ChangeSpec := { name := "plantTwo", fn := fun _ => fun
  | [d1, d2] => { results := [.lit (.bool false)], args := [d1, d2] }
  | _ => none }
def PlantTwoWrongFalsely : Prop := plantTwoRow.holds Try.pinned (OpenSpec.ofChange plantTwoWrong)

/-- 'ordinatelaw10.PlantKnown': WHATEVER THE INPUT: true; the input reads as it did. -/
def plantKnownSpec : ChangeSpec := { name := "plantKnown", fn := fun _ => fun
  | [] => { results := [.lit (.bool true)], args := [] }
  | _ => none }
def plantKnownRow : OpenClaim := { program := "ytedldiimhbebdaa", sum := "ee78abd93e00c8b97fedfebc3bf774692601a21621945bec589f55ae38169cfc", func := "ordinate/ordinatelaw10.PlantKnown", spec := "plantKnown", recurses := true, apart := false }
def PlantKnownSaid : Prop := plantKnownRow.holds Try.pinned (OpenSpec.ofChange plantKnownSpec)

/-- ITS FALSE NEIGHBOUR: 'it returns false'. Refute it at one input. -/
def plantKnownWrong : ChangeSpec := { name := "plantKnown", fn := fun _ => fun
  | [] => { results := [.lit (.bool false)], args := [] }
  | _ => none }
def PlantKnownWrongFalsely : Prop := plantKnownRow.holds Try.pinned (OpenSpec.ofChange plantKnownWrong)

/-- 'ordinatelaw10.PlantRoom': WHATEVER THE INPUT: true; the input reads as it did. -/
def plantRoomSpec : ChangeSpec := { name := "plantRoom", fn := fun _ => fun
  | [d1, d2] => { results := [.lit (.bool true)], args := [d1, d2] }
  | _ => none }
def plantRoomRow : OpenClaim := { program := "ytedldiimhbebdaa", sum := "ee78abd93e00c8b97fedfebc3bf774692601a21621945bec589f55ae38169cfc", func := "ordinate/ordinatelaw10.PlantRoom", spec := "plantRoom", recurses := true, apart := false }
def PlantRoomSaid : Prop := plantRoomRow.holds Try.pinned (OpenSpec.ofChange plantRoomSpec)

/-- ITS FALSE NEIGHBOUR: 'it returns false'. Refute it at one input. -/
def plantRoomWrong : ChangeSpec := { name := "plantRoom", fn := fun _ => fun
  | [d1, d2] => { results := [.lit (.bool false)], args := [d1, d2] }
  | _ => none }
def PlantRoomWrongFalsely : Prop := plantRoomRow.holds Try.pinned (OpenSpec.ofChange plantRoomWrong)

/-- 'ordinatelaw21.GrowRoom': WHATEVER THE INPUT: true; the input reads as it did. -/
def growRoomSpec : ChangeSpec := { name := "growRoom", fn := fun _ => fun
  | [d1, d2] => { results := [.lit (.bool true)], args := [d1, d2] }
  | _ => none }
def growRoomRow : OpenClaim := { program := "ytedldiimhbebdaa", sum := "ee78abd93e00c8b97fedfebc3bf774692601a21621945bec589f55ae38169cfc", func := "ordinate/ordinatelaw21.GrowRoom", spec := "growRoom", recurses := true, apart := false }
def GrowRoomSaid : Prop := growRoomRow.holds Try.pinned (OpenSpec.ofChange growRoomSpec)

/-- ITS FALSE NEIGHBOUR: 'it returns false'. Refute it at one input. -/
def growRoomWrong : ChangeSpec := { name := "growRoom", fn := fun _ => fun
  | [d1, d2] => { results := [.lit (.bool false)], args := [d1, d2] }
  | _ => none }
def GrowRoomWrongFalsely : Prop := growRoomRow.holds Try.pinned (OpenSpec.ofChange growRoomWrong)

/-- 'ordinatelaw21.GrowAlike': WHATEVER THE INPUT: true; the input reads as it did. -/
def growAlikeSpec : ChangeSpec := { name := "growAlike", fn := fun _ => fun
  | [d1, d2] => { results := [.lit (.bool true)], args := [d1, d2] }
  | _ => none }
def growAlikeRow : OpenClaim := { program := "ytedldiimhbebdaa", sum := "ee78abd93e00c8b97fedfebc3bf774692601a21621945bec589f55ae38169cfc", func := "ordinate/ordinatelaw21.GrowAlike", spec := "growAlike", recurses := true, apart := false }
def GrowAlikeSaid : Prop := growAlikeRow.holds Try.pinned (OpenSpec.ofChange growAlikeSpec)

/-- ITS FALSE NEIGHBOUR: 'it returns false'. Refute it at one input. -/
def growAlikeWrong : ChangeSpec := { name := "growAlike", fn := fun _ => fun
  | [d1, d2] => { results := [.lit (.bool false)], args := [d1, d2] }
  | _ => none }
def GrowAlikeWrongFalsely : Prop := growAlikeRow.holds Try.pinned (OpenSpec.ofChange growAlikeWrong)

/-- 'ordinatelaw10.PlantWide': WHATEVER THE INPUT: true; the input reads as it did. -/
def plantWideSpec : ChangeSpec := { name := "plantWide", fn := fun _ => fun
  | [d] => { results := [.lit (.bool true)], args := [d] }
  | _ => none }
def plantWideRow : OpenClaim := { program := "ytedldiimhbebdaa", sum := "ee78abd93e00c8b97fedfebc3bf774692601a21621945bec589f55ae38169cfc", func := "ordinate/ordinatelaw10.PlantWide", spec := "plantWide", unfollowed := true, recurses := true, apart := false }
def PlantWideSaid : Prop := plantWideRow.holds Try.pinned (OpenSpec.ofChange plantWideSpec)

/-- ITS FALSE NEIGHBOUR: 'it returns false'. Refute it at one input. -/
def plantWideWrong : ChangeSpec := { name := "plantWide", fn := fun _ => fun
  | [d] => { results := [.lit (.bool false)], args := [d] }
  | _ => none }
def PlantWideWrongFalsely : Prop := plantWideRow.holds Try.pinned (OpenSpec.ofChange plantWideWrong)

/-- 'ordinatelaw21.GrowIdeal': WHATEVER THE INPUT: true; the input reads as it did. -/
def growIdealSpec : ChangeSpec := { name := "growIdeal", fn := fun _ => fun
  | [d1, d2] => { results := [.lit (.bool true)], args := [d1, d2] }
  | _ => none }
def growIdealRow : OpenClaim := { program := "ytedldiimhbebdaa", sum := "ee78abd93e00c8b97fedfebc3bf774692601a21621945bec589f55ae38169cfc", func := "ordinate/ordinatelaw21.GrowIdeal", spec := "growIdeal", unfollowed := true, recurses := true, apart := false }
def GrowIdealSaid : Prop := growIdealRow.holds Try.pinned (OpenSpec.ofChange growIdealSpec)

/-- ITS FALSE NEIGHBOUR: 'it returns false'. Refute it at one input. -/
def growIdealWrong : ChangeSpec := { name := "growIdeal", fn := fun _ => fun
  | [d1, d2] => { results := [.lit (.bool false)], args := [d1, d2] }
  | _ => none }
def GrowIdealWrongFalsely : Prop := growIdealRow.holds Try.pinned (OpenSpec.ofChange growIdealWrong)

/-- 'ordinatelaw10.PlantIdeal': WHATEVER THE INPUT: true; the input reads as it did. -/
def plantIdealSpec : ChangeSpec := { name := "plantIdeal", fn := fun _ => fun
  | [d] => { results := [.lit (.bool true)], args := [d] }
  | _ => none }
def plantIdealRow : OpenClaim := { program := "ytedldiimhbebdaa", sum := "ee78abd93e00c8b97fedfebc3bf774692601a21621945bec589f55ae38169cfc", func := "ordinate/ordinatelaw10.PlantIdeal", spec := "plantIdeal", unfollowed := true, recurses := true, apart := false }
def PlantIdealSaid : Prop := plantIdealRow.holds Try.pinned (OpenSpec.ofChange plantIdealSpec)

/-- ITS FALSE NEIGHBOUR: 'it returns false'. Refute it at one input. -/
def plantIdealWrong : ChangeSpec := { name := "plantIdeal", fn := fun _ => fun
  | [d] => { results := [.lit (.bool false)], args := [d] }
  | _ => none }
def PlantIdealWrongFalsely : Prop := plantIdealRow.holds Try.pinned (OpenSpec.ofChange plantIdealWrong)

/-- 'ordinatelaw19.MarkKnown': WHATEVER THE INPUT: true; the input reads as it did. -/
def markKnownSpec : ChangeSpec := { name := "markKnown", fn := fun _ => fun
  | [] => { results := [.lit (.bool true)], args := [] }
  | _ => none }
def markKnownRow : OpenClaim := { program := "ytedldiimhbebdaa", sum := "ee78abd93e00c8b97fedfebc3bf774692601a21621945bec589f55ae38169cfc", func := "ordinate/ordinatelaw19.MarkKnown", spec := "markKnown", unfollowed := true, recurses := true, apart := false }
def MarkKnownSaid : Prop := markKnownRow.holds Try.pinned (OpenSpec.ofChange markKnownSpec)

/-- ITS FALSE NEIGHBOUR: 'it returns false'. Refute it at one input. -/
def markKnownWrong : ChangeSpec := { name := "markKnown", fn := fun _ => fun
  | [] => { results := [.lit (.bool false)], args := [] }
  | _ => none }
def MarkKnownWrongFalsely : Prop := markKnownRow.holds Try.pinned (OpenSpec.ofChange markKnownWrong)

/- THE SECOND FORM. 'bulk': how many values and letters a reading holds, each counted each time it is reached (what is shared counts as often as it is met; a slice's spare places count too). A statement '..UptoSaid' is the law's where the arguments, and the package variables that the reading takes, are together of bulk at most 1048576: NARROWER than '..Said'. Prove '..Said' where nothing that the law and all that it calls make is longer than what came in: it says more and counts as full. Else prove '..UptoSaid'. A law counts once. -/
mutual
def uptoBulk {H : Type} : DataW H → Nat
  | .lit (.string bytes) => bytes.length + 1
  | .lit _ => 1
  | .nil => 1
  | .ptr d => uptoBulk d + 1
  | .slice elems spare => uptoBulkAll elems + uptoBulkAll spare + 1
  | .agg parts => uptoBulkAll parts + 1
  | .iface _ d => uptoBulk d + 1
  | .map entries => uptoBulkEntries entries + 1
  | .held _ => 1
def uptoBulkAll {H : Type} : List (DataW H) → Nat
  | [] => 0
  | d :: r => uptoBulk d + uptoBulkAll r
def uptoBulkEntries {H : Type} : List (Lit × DataW H) → Nat
  | [] => 0
  | x :: r => uptoBulkEntry x + uptoBulkEntries r
def uptoBulkEntry {H : Type} : Lit × DataW H → Nat
  | (.string bytes, d) => bytes.length + uptoBulk d + 1
  | (_, d) => uptoBulk d + 1
 end
def uptoSmall : (H : Type) → List (DataW H) → Bool := fun _ ds => decide (uptoBulkAll ds ≤ 1048576)
def OpenSpec.upto (s : _root_.Go.ChangeSpec) : _root_.Go.OpenSpec := { _root_.Go.OpenSpec.ofChange s with cond := some uptoSmall }

/-- 'ordinatelaw21.GrowKnown', WHERE WHAT IT READS IS OF BULK AT MOST 1048576: true; the input reads as it did. -/
def growKnownUptoRow : OpenClaim := { program := "ytedldiimhbebdaa", sum := "ee78abd93e00c8b97fedfebc3bf774692601a21621945bec589f55ae38169cfc", func := "ordinate/ordinatelaw21.GrowKnown", spec := "growKnown", recurses := true, apart := false, narrowed := true }
def GrowKnownUptoSaid : Prop := growKnownUptoRow.holds Try.pinned (OpenSpec.upto growKnownSpec)

/-- 'ordinatelaw10.PlantTells', WHERE WHAT IT READS IS OF BULK AT MOST 1048576: true; the input reads as it did. -/
def plantTellsUptoRow : OpenClaim := { program := "ytedldiimhbebdaa", sum := "ee78abd93e00c8b97fedfebc3bf774692601a21621945bec589f55ae38169cfc", func := "ordinate/ordinatelaw10.PlantTells", spec := "plantTells", recurses := true, apart := false, narrowed := true }
def PlantTellsUptoSaid : Prop := plantTellsUptoRow.holds Try.pinned (OpenSpec.upto plantTellsSpec)

/-- 'ordinatelaw10.PlantTwo', WHERE WHAT IT READS IS OF BULK AT MOST 1048576: true; the input reads as it did. -/
def plantTwoUptoRow : OpenClaim := { program := "ytedldiimhbebdaa", sum := "ee78abd93e00c8b97fedfebc3bf774692601a21621945bec589f55ae38169cfc", func := "ordinate/ordinatelaw10.PlantTwo", spec := "plantTwo", recurses := true, apart := false, narrowed := true }
def PlantTwoUptoSaid : Prop := plantTwoUptoRow.holds Try.pinned (OpenSpec.upto plantTwoSpec)

/-- 'ordinatelaw10.PlantKnown', WHERE WHAT IT READS IS OF BULK AT MOST 1048576: true; the input reads as it did. -/
def plantKnownUptoRow : OpenClaim := { program := "ytedldiimhbebdaa", sum := "ee78abd93e00c8b97fedfebc3bf774692601a21621945bec589f55ae38169cfc", func := "ordinate/ordinatelaw10.PlantKnown", spec := "plantKnown", recurses := true, apart := false, narrowed := true }
def PlantKnownUptoSaid : Prop := plantKnownUptoRow.holds Try.pinned (OpenSpec.upto plantKnownSpec)

/-- 'ordinatelaw10.PlantRoom', WHERE WHAT IT READS IS OF BULK AT MOST 1048576: true; the input reads as it did. -/
def plantRoomUptoRow : OpenClaim := { program := "ytedldiimhbebdaa", sum := "ee78abd93e00c8b97fedfebc3bf774692601a21621945bec589f55ae38169cfc", func := "ordinate/ordinatelaw10.PlantRoom", spec := "plantRoom", recurses := true, apart := false, narrowed := true }
def PlantRoomUptoSaid : Prop := plantRoomUptoRow.holds Try.pinned (OpenSpec.upto plantRoomSpec)

/-- 'ordinatelaw21.GrowRoom', WHERE WHAT IT READS IS OF BULK AT MOST 1048576: true; the input reads as it did. -/
def growRoomUptoRow : OpenClaim := { program := "ytedldiimhbebdaa", sum := "ee78abd93e00c8b97fedfebc3bf774692601a21621945bec589f55ae38169cfc", func := "ordinate/ordinatelaw21.GrowRoom", spec := "growRoom", recurses := true, apart := false, narrowed := true }
def GrowRoomUptoSaid : Prop := growRoomUptoRow.holds Try.pinned (OpenSpec.upto growRoomSpec)

/-- 'ordinatelaw21.GrowAlike', WHERE WHAT IT READS IS OF BULK AT MOST 1048576: true; the input reads as it did. -/
def growAlikeUptoRow : OpenClaim := { program := "ytedldiimhbebdaa", sum := "ee78abd93e00c8b97fedfebc3bf774692601a21621945bec589f55ae38169cfc", func := "ordinate/ordinatelaw21.GrowAlike", spec := "growAlike", recurses := true, apart := false, narrowed := true }
def GrowAlikeUptoSaid : Prop := growAlikeUptoRow.holds Try.pinned (OpenSpec.upto growAlikeSpec)

/-- 'ordinatelaw10.PlantWide', WHERE WHAT IT READS IS OF BULK AT MOST 1048576: true; the input reads as it did. -/
def plantWideUptoRow : OpenClaim := { program := "ytedldiimhbebdaa", sum := "ee78abd93e00c8b97fedfebc3bf774692601a21621945bec589f55ae38169cfc", func := "ordinate/ordinatelaw10.PlantWide", spec := "plantWide", unfollowed := true, recurses := true, apart := false, narrowed := true }
def PlantWideUptoSaid : Prop := plantWideUptoRow.holds Try.pinned (OpenSpec.upto plantWideSpec)

/-- 'ordinatelaw21.GrowIdeal', WHERE WHAT IT READS IS OF BULK AT MOST 1048576: true; the input reads as it did. -/
def growIdealUptoRow : OpenClaim := { program := "ytedldiimhbebdaa", sum := "ee78abd93e00c8b97fedfebc3bf774692601a21621945bec589f55ae38169cfc", func := "ordinate/ordinatelaw21.GrowIdeal", spec := "growIdeal", unfollowed := true, recurses := true, apart := false, narrowed := true }
def GrowIdealUptoSaid : Prop := growIdealUptoRow.holds Try.pinned (OpenSpec.upto growIdealSpec)

/-- 'ordinatelaw10.PlantIdeal', WHERE WHAT IT READS IS OF BULK AT MOST 1048576: true; the input reads as it did. -/
def plantIdealUptoRow : OpenClaim := { program := "ytedldiimhbebdaa", sum := "ee78abd93e00c8b97fedfebc3bf774692601a21621945bec589f55ae38169cfc", func := "ordinate/ordinatelaw10.PlantIdeal", spec := "plantIdeal", unfollowed := true, recurses := true, apart := false, narrowed := true }
def PlantIdealUptoSaid : Prop := plantIdealUptoRow.holds Try.pinned (OpenSpec.upto plantIdealSpec)

/-- 'ordinatelaw19.MarkKnown', WHERE WHAT IT READS IS OF BULK AT MOST 1048576: true; the input reads as it did. -/
def markKnownUptoRow : OpenClaim := { program := "ytedldiimhbebdaa", sum := "ee78abd93e00c8b97fedfebc3bf774692601a21621945bec589f55ae38169cfc", func := "ordinate/ordinatelaw19.MarkKnown", spec := "markKnown", unfollowed := true, recurses := true, apart := false, narrowed := true }
def MarkKnownUptoSaid : Prop := markKnownUptoRow.holds Try.pinned (OpenSpec.upto markKnownSpec)

end Rows
end Go.Proofs.Ytedldiimhbebdaa
