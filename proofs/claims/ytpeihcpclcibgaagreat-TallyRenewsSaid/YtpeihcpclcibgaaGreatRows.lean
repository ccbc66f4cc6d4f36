/-
  No cell of these rows narrows 'for every input' (looked for: loops, veiled, ifaces, maps, wideKeys, modest, calm, conditions, laid).
  DERIVED. THE GIVEN ROWS OF THIS SEAT. 8 by the template 'for every input the law returns true; each argument reads behind the call as it read before'; 0 by the template 'total and deterministic' (their statements: YtpeihcpclcibgaaGreatTotals.lean).
  GIVEN WITH THE SEED: the statements are not yours to turn. If you find one false, say at which input.
  Laid BY PROGRAM, IN A SANDBOX (cutbox-rows.mjs): the forced cells as the released guide's own fill.sh prints them over the translation 1aaa44419c2c6007… (all of the seat's roots in one cut). By AI agents, Wed Nov 11 2026. No macro, syntax, notation, axiom, sorry.
-/
import Derived.Test.YtpeihcpclcibgaaGreatChecked
import GoSem.Claim
import GoSem.ClaimJoined
import GoSem.ClaimMapViews
import Derived.JoinedTies
import Derived.KernelRfl
namespace Go.Proofs.YtpeihcpclcibgaaGreat
/- THE CELL 'sum', in the pinned program and in every row, IS THE sha256 OF THE DUMP (.gsa) THAT YtpeihcpclcibgaaGreatProg.lean LOADS. Nothing in Lean hashes anything: it is a label: what it is worth is what the hold of that sum in a sandbox is worth. -/
noncomputable def Tryz.pinned : Pinned := { name := "ytpeihcpclcibgaagreat", sum := "1aaa44419c2c60078e3bcfb9cb97d8180c674d04687cd8b222646285d25693d8", checked := Tryz.checked }
namespace Rows
def none {H : Type} : Left H := { results := [], args := [] }

/-- 'ordinatelaw23.TallyAdds': WHATEVER THE INPUT: true; the input reads as it did. -/
def tallyAddsSpec : ChangeSpec := { name := "tallyAdds", fn := fun _ => fun
  | [d1, d2] => { results := [.lit (.bool true)], args := [d1, d2] }
  | _ => none }
def tallyAddsRow : OpenClaim := { program := "ytpeihcpclcibgaagreat", sum := "1aaa44419c2c60078e3bcfb9cb97d8180c674d04687cd8b222646285d25693d8", func := "ordinate/ordinatelaw23.TallyAdds", spec := "tallyAdds", unfollowed := true, recurses := true, apart := false }
def TallyAddsSaid : Prop := tallyAddsRow.holds Tryz.pinned (OpenSpec.ofChange tallyAddsSpec)

/-- ITS FALSE NEIGHBOUR: 'it returns false'. Refute it at one input. -/
def tallyAddsWrong : ChangeSpec := { name := "tallyAdds", fn := fun _ => fun
  | [d1, d2] => { results := [.lit (.bool false)], args := [d1, d2] }
  | _ => none }
def TallyAddsWrongFalsely : Prop := tallyAddsRow.holds Tryz.pinned (OpenSpec.ofChange tallyAddsWrong)

/-- 'ordinatelaw23.TallyRenews': WHATEVER THE INPUT: true; the input reads as it did. -/
def tallyRenewsSpec : ChangeSpec := { name := "tallyRenews", fn := fun _ => fun
  | [d1, d2] => { results := [.lit (.bool true)], args := [d1, d2] }
  | _ => none }
def tallyRenewsRow : OpenClaim := { program := "ytpeihcpclcibgaagreat", sum := "1aaa44419c2c60078e3bcfb9cb97d8180c674d04687cd8b222646285d25693d8", func := "ordinate/ordinatelaw23.TallyRenews", spec := "tallyRenews", unfollowed := true, recurses := true, apart := false }
def TallyRenewsSaid : Prop := tallyRenewsRow.holds Tryz.pinned (OpenSpec.ofChange tallyRenewsSpec)

/-- ITS FALSE NEIGHBOUR: 'it returns false'. Refute it at one input. -/
def tallyRenewsWrong : ChangeSpec := { name := "tallyRenews", fn := fun _ => fun
  | [d1, d2] => { results := [.lit (.bool false)], args := [d1, d2] }
  | _ => none }
def TallyRenewsWrongFalsely : Prop := tallyRenewsRow.holds Tryz.pinned (OpenSpec.ofChange tallyRenewsWrong)

/-- 'ordinatelaw26.ThreadOne': WHATEVER THE INPUT: true; the input reads as it did. -/
def threadOneSpec : ChangeSpec := { name := "threadOne", fn := fun _ => fun
  | [d1, d2] => { results := [.lit (.bool true)], args := [d1, d2] }
  | _ => none }
def threadOneRow : OpenClaim := { program := "ytpeihcpclcibgaagreat", sum := "1aaa44419c2c60078e3bcfb9cb97d8180c674d04687cd8b222646285d25693d8", func := "ordinate/ordinatelaw26.ThreadOne", spec := "threadOne", unfollowed := true, recurses := true, apart := false }
def ThreadOneSaid : Prop := threadOneRow.holds Tryz.pinned (OpenSpec.ofChange threadOneSpec)

/-- ITS FALSE NEIGHBOUR: 'it returns false'. Refute it at one input. -/
def threadOneWrong : ChangeSpec := { name := "threadOne", fn := fun _ => fun
  | [d1, d2] => { results := [.lit (.bool false)], args := [d1, d2] }
  | _ => none }
def ThreadOneWrongFalsely : Prop := threadOneRow.holds Tryz.pinned (OpenSpec.ofChange threadOneWrong)

/-- 'ordinatelaw26.ThreadMap': WHATEVER THE INPUT: true; the input reads as it did. -/
def threadMapSpec : ChangeSpec := { name := "threadMap", fn := fun _ => fun
  | [d1, d2] => { results := [.lit (.bool true)], args := [d1, d2] }
  | _ => none }
def threadMapRow : OpenClaim := { program := "ytpeihcpclcibgaagreat", sum := "1aaa44419c2c60078e3bcfb9cb97d8180c674d04687cd8b222646285d25693d8", func := "ordinate/ordinatelaw26.ThreadMap", spec := "threadMap", unfollowed := true, recurses := true, apart := false }
def ThreadMapSaid : Prop := threadMapRow.holds Tryz.pinned (OpenSpec.ofChange threadMapSpec)

/-- ITS FALSE NEIGHBOUR: 'it returns false'. Refute it at one input. -/
def threadMapWrong : ChangeSpec := { name := "threadMap", fn := fun _ => fun
  | [d1, d2] => { results := [.lit (.bool false)], args := [d1, d2] }
  | _ => none }
def ThreadMapWrongFalsely : Prop := threadMapRow.holds Tryz.pinned (OpenSpec.ofChange threadMapWrong)

/-- 'ordinatelaw24.WriteRoom': WHATEVER THE INPUT: true; the input reads as it did. -/
def writeRoomSpec : ChangeSpec := { name := "writeRoom", fn := fun _ => fun
  | [d1, d2] => { results := [.lit (.bool true)], args := [d1, d2] }
  | _ => none }
def writeRoomRow : OpenClaim := { program := "ytpeihcpclcibgaagreat", sum := "1aaa44419c2c60078e3bcfb9cb97d8180c674d04687cd8b222646285d25693d8", func := "ordinate/ordinatelaw24.WriteRoom", spec := "writeRoom", unfollowed := true, recurses := true, named := ["math/bits.divideError", "math/bits.overflowError"], apart := false }
def WriteRoomSaid : Prop := writeRoomRow.holds Tryz.pinned (OpenSpec.ofChange writeRoomSpec)

/-- ITS FALSE NEIGHBOUR: 'it returns false'. Refute it at one input. -/
def writeRoomWrong : ChangeSpec := { name := "writeRoom", fn := fun _ => fun
  | [d1, d2] => { results := [.lit (.bool false)], args := [d1, d2] }
  | _ => none }
def WriteRoomWrongFalsely : Prop := writeRoomRow.holds Tryz.pinned (OpenSpec.ofChange writeRoomWrong)

/-- 'ordinatelaw24.WriteMap': WHATEVER THE INPUT: true; the input reads as it did. -/
def writeMapSpec : ChangeSpec := { name := "writeMap", fn := fun _ => fun
  | [d1, d2, d3] => { results := [.lit (.bool true)], args := [d1, d2, d3] }
  | _ => none }
def writeMapRow : OpenClaim := { program := "ytpeihcpclcibgaagreat", sum := "1aaa44419c2c60078e3bcfb9cb97d8180c674d04687cd8b222646285d25693d8", func := "ordinate/ordinatelaw24.WriteMap", spec := "writeMap", unfollowed := true, recurses := true, named := ["math/bits.divideError", "math/bits.overflowError"], apart := false }
def WriteMapSaid : Prop := writeMapRow.holds Tryz.pinned (OpenSpec.ofChange writeMapSpec)

/-- ITS FALSE NEIGHBOUR: 'it returns false'. Refute it at one input. -/
def writeMapWrong : ChangeSpec := { name := "writeMap", fn := fun _ => fun
  | [d1, d2, d3] => { results := [.lit (.bool false)], args := [d1, d2, d3] }
  | _ => none }
def WriteMapWrongFalsely : Prop := writeMapRow.holds Tryz.pinned (OpenSpec.ofChange writeMapWrong)

/-- 'ordinatetop.TopSequence': WHATEVER THE INPUT: true; the input reads as it did. -/
def topSequenceSpec : ChangeSpec := { name := "topSequence", fn := fun _ => fun
  | [d1, d2, d3, d4] => { results := [.lit (.bool true)], args := [d1, d2, d3, d4] }
  | _ => none }
def topSequenceRow : OpenClaim := { program := "ytpeihcpclcibgaagreat", sum := "1aaa44419c2c60078e3bcfb9cb97d8180c674d04687cd8b222646285d25693d8", func := "ordinate/ordinatetop.TopSequence", spec := "topSequence", unfollowed := true, recurses := true, apart := false }
def TopSequenceSaid : Prop := topSequenceRow.holds Tryz.pinned (OpenSpec.ofChange topSequenceSpec)

/-- ITS FALSE NEIGHBOUR: 'it returns false'. Refute it at one input. -/
def topSequenceWrong : ChangeSpec := { name := "topSequence", fn := fun _ => fun
  | [d1, d2, d3, d4] => { results := [.lit (.bool false)], args := [d1, d2, d3, d4] }
  | _ => none }
def TopSequenceWrongFalsely : Prop := topSequenceRow.holds Tryz.pinned (OpenSpec.ofChange topSequenceWrong)

/-- 'ordinatetop.TopLoads': WHATEVER THE INPUT: true; the input reads as it did. -/
def topLoadsSpec : ChangeSpec := { name := "topLoads", fn := fun _ => fun
  | [d1, d2, d3, d4, d5] => { results := [.lit (.bool true)], args := [d1, d2, d3, d4, d5] }
  | _ => none }
def topLoadsRow : OpenClaim := { program := "ytpeihcpclcibgaagreat", sum := "1aaa44419c2c60078e3bcfb9cb97d8180c674d04687cd8b222646285d25693d8", func := "ordinate/ordinatetop.TopLoads", spec := "topLoads", unfollowed := true, recurses := true, apart := false }
def TopLoadsSaid : Prop := topLoadsRow.holds Tryz.pinned (OpenSpec.ofChange topLoadsSpec)

/-- ITS FALSE NEIGHBOUR: 'it returns false'. Refute it at one input. -/
def topLoadsWrong : ChangeSpec := { name := "topLoads", fn := fun _ => fun
  | [d1, d2, d3, d4, d5] => { results := [.lit (.bool false)], args := [d1, d2, d3, d4, d5] }
  | _ => none }
def TopLoadsWrongFalsely : Prop := topLoadsRow.holds Tryz.pinned (OpenSpec.ofChange topLoadsWrong)

/- THE SECOND FORM. 'bulk': how many values and letters a reading holds, each counted each time it is reached (what is shared counts as often as it is met; a slice's spare places count too). A statement '..UptoSaid' is the law's where the arguments, and the package variables that the reading takes, are together of bulk at most 1048576: NARROWER than '..Said'. Prove '..Said' where nothing that the law and all that it calls make is longer than what came in: it says more and counts as full. Else prove '..UptoSaid'. A law counts once. -/
mutual
def uptoBulk {H : Type} : DataW H → Nat
  | .lit (.string bytes) => bytes.length + 1
  | .lit _ => 1
  | .nil => 1
  | .ptr d => uptoBulk d + 1
  | .slice elems spare => uptoBulkAll elems + uptoBulkAll spare + 1
  | .agg parts => uptoBulkAll parts + 1
  | .iface _ d => uptoBulk d + 1
  | .map entries => uptoBulkEntries entries + 1
  | .held _ => 1
def uptoBulkAll {H : Type} : List (DataW H) → Nat
  | [] => 0
  | d :: r => uptoBulk d + uptoBulkAll r
def uptoBulkEntries {H : Type} : List (Lit × DataW H) → Nat
  | [] => 0
  | x :: r => uptoBulkEntry x + uptoBulkEntries r
def uptoBulkEntry {H : Type} : Lit × DataW H → Nat
  | (.string bytes, d) => bytes.length + uptoBulk d + 1
  | (_, d) => uptoBulk d + 1
 end
def uptoSmall : (H : Type) → List (DataW H) → Bool := fun _ ds => decide (uptoBulkAll ds ≤ 1048576)
def OpenSpec.upto (s : _root_.Go.ChangeSpec) : _root_.Go.OpenSpec := { _root_.Go.OpenSpec.ofChange s with cond := some uptoSmall }

/-- 'ordinatelaw23.TallyAdds', WHERE WHAT IT READS IS OF BULK AT MOST 1048576: true; the input reads as it did. -/
def tallyAddsUptoRow : OpenClaim := { program := "ytpeihcpclcibgaagreat", sum := "1aaa44419c2c60078e3bcfb9cb97d8180c674d04687cd8b222646285d25693d8", func := "ordinate/ordinatelaw23.TallyAdds", spec := "tallyAdds", unfollowed := true, recurses := true, apart := false, narrowed := true }
def TallyAddsUptoSaid : Prop := tallyAddsUptoRow.holds Tryz.pinned (OpenSpec.upto tallyAddsSpec)

/-- 'ordinatelaw23.TallyRenews', WHERE WHAT IT READS IS OF BULK AT MOST 1048576: true; the input reads as it did. -/
def tallyRenewsUptoRow : OpenClaim := { program := "ytpeihcpclcibgaagreat", sum := "1aaa44419c2c60078e3bcfb9cb97d8180c674d04687cd8b222646285d25693d8", func := "ordinate/ordinatelaw23.TallyRenews", spec := "tallyRenews", unfollowed := true, recurses := true, apart := false, narrowed := true }
def TallyRenewsUptoSaid : Prop := tallyRenewsUptoRow.holds Tryz.pinned (OpenSpec.upto tallyRenewsSpec)

/-- 'ordinatelaw26.ThreadOne', WHERE WHAT IT READS IS OF BULK AT MOST 1048576: true; the input reads as it did. -/
def threadOneUptoRow : OpenClaim := { program := "ytpeihcpclcibgaagreat", sum := "1aaa44419c2c60078e3bcfb9cb97d8180c674d04687cd8b222646285d25693d8", func := "ordinate/ordinatelaw26.ThreadOne", spec := "threadOne", unfollowed := true, recurses := true, apart := false, narrowed := true }
def ThreadOneUptoSaid : Prop := threadOneUptoRow.holds Tryz.pinned (OpenSpec.upto threadOneSpec)

/-- 'ordinatelaw26.ThreadMap', WHERE WHAT IT READS IS OF BULK AT MOST 1048576: true; the input reads as it did. -/
def threadMapUptoRow : OpenClaim := { program := "ytpeihcpclcibgaagreat", sum := "1aaa44419c2c60078e3bcfb9cb97d8180c674d04687cd8b222646285d25693d8", func := "ordinate/ordinatelaw26.ThreadMap", spec := "threadMap", unfollowed := true, recurses := true, apart := false, narrowed := true }
def ThreadMapUptoSaid : Prop := threadMapUptoRow.holds Tryz.pinned (OpenSpec.upto threadMapSpec)

/-- 'ordinatelaw24.WriteRoom', WHERE WHAT IT READS IS OF BULK AT MOST 1048576: true; the input reads as it did. -/
def writeRoomUptoRow : OpenClaim := { program := "ytpeihcpclcibgaagreat", sum := "1aaa44419c2c60078e3bcfb9cb97d8180c674d04687cd8b222646285d25693d8", func := "ordinate/ordinatelaw24.WriteRoom", spec := "writeRoom", unfollowed := true, recurses := true, named := ["math/bits.divideError", "math/bits.overflowError"], apart := false, narrowed := true }
def WriteRoomUptoSaid : Prop := writeRoomUptoRow.holds Tryz.pinned (OpenSpec.upto writeRoomSpec)

/-- 'ordinatelaw24.WriteMap', WHERE WHAT IT READS IS OF BULK AT MOST 1048576: true; the input reads as it did. -/
def writeMapUptoRow : OpenClaim := { program := "ytpeihcpclcibgaagreat", sum := "1aaa44419c2c60078e3bcfb9cb97d8180c674d04687cd8b222646285d25693d8", func := "ordinate/ordinatelaw24.WriteMap", spec := "writeMap", unfollowed := true, recurses := true, named := ["math/bits.divideError", "math/bits.overflowError"], apart := false, narrowed := true }
def WriteMapUptoSaid : Prop := writeMapUptoRow.holds Tryz.pinned (OpenSpec.upto writeMapSpec)

/-- 'ordinatetop.TopSequence', WHERE WHAT IT READS IS OF BULK AT MOST 1048576: true; the input reads as it did. -/
def topSequenceUptoRow : OpenClaim := { program := "ytpeihcpclcibgaagreat", sum := "1aaa44419c2c60078e3bcfb9cb97d8180c674d04687cd8b222646285d25693d8", func := "ordinate/ordinatetop.TopSequence", spec := "topSequence", unfollowed := true, recurses := true, apart := false, narrowed := true }
def TopSequenceUptoSaid : Prop := topSequenceUptoRow.holds Tryz.pinned (OpenSpec.upto topSequenceSpec)

/-- 'ordinatetop.TopLoads', WHERE WHAT IT READS IS OF BULK AT MOST 1048576: true; the input reads as it did. -/
def topLoadsUptoRow : OpenClaim := { program := "ytpeihcpclcibgaagreat", sum := "1aaa44419c2c60078e3bcfb9cb97d8180c674d04687cd8b222646285d25693d8", func := "ordinate/ordinatetop.TopLoads", spec := "topLoads", unfollowed := true, recurses := true, apart := false, narrowed := true }
def TopLoadsUptoSaid : Prop := topLoadsUptoRow.holds Tryz.pinned (OpenSpec.upto topLoadsSpec)

end Rows
end Go.Proofs.YtpeihcpclcibgaaGreat
