/-
  No cell of these rows narrows 'for every input' (looked for: loops, veiled, ifaces, maps, wideKeys, modest, calm, conditions, laid).
  DERIVED. THE GIVEN ROWS OF THIS SEAT. 7 by the template 'for every input the law returns true; each argument reads behind the call as it read before'; 0 by the template 'total and deterministic' (their statements: YtknbjdbdpdbeiaaTotals.lean).
  GIVEN WITH THE SEED: the statements are not yours to turn. If you find one false, say at which input.
  Laid BY PROGRAM, IN A SANDBOX (cutbox-rows.mjs): the forced cells as the released guide's own fill.sh prints them over the translation be97fc8158cc251a… (all of the seat's roots in one cut). By AI agents, Wed Nov 11 2026. No macro, syntax, notation, axiom, sorry.
-/
import Derived.Test.YtknbjdbdpdbeiaaChecked
import GoSem.Claim
import GoSem.ClaimJoined
import GoSem.ClaimMapViews
import Derived.JoinedTies
import Derived.KernelRfl
namespace Go.Proofs.Ytknbjdbdpdbeiaa
/- THE CELL 'sum', in the pinned program and in every row, IS THE sha256 OF THE DUMP (.gsa) THAT YtknbjdbdpdbeiaaProg.lean LOADS. Nothing in Lean hashes anything: it is a label: what it is worth is what the hold of that sum in a sandbox is worth. -/
noncomputable def Try.pinned : Pinned := { name := "ytknbjdbdpdbeiaa", sum := "be97fc8158cc251a0da544813e98c131072d015c514befc387396428ba801c29", checked := Try.checked }
namespace Rows
def none {H : Type} : Left H := { results := [], args := [] }

/-- 'pentimentolaw08.TableAll': WHATEVER THE INPUT: true; the input reads as it did. -/
def tableAllSpec : ChangeSpec := { name := "tableAll", fn := fun _ => fun
  | [d1, d2] => { results := [.lit (.bool true)], args := [d1, d2] }
  | _ => none }
def tableAllRow : OpenClaim := { program := "ytknbjdbdpdbeiaa", sum := "be97fc8158cc251a0da544813e98c131072d015c514befc387396428ba801c29", func := "pentimento/pentimentolaw08.TableAll", spec := "tableAll", apart := false }
def TableAllSaid : Prop := tableAllRow.holds Try.pinned (OpenSpec.ofChange tableAllSpec)

/-- ITS FALSE NEIGHBOUR: 'it returns false'. Refute it at one input. -/
def tableAllWrong : ChangeSpec := { name := "tableAll", fn := fun _ => fun
  | [d1, d2] => { results := [.lit (.bool false)], args := [d1, d2] }
  | _ => none }
def TableAllWrongFalsely : Prop := tableAllRow.holds Try.pinned (OpenSpec.ofChange tableAllWrong)

/-- 'pentimentolaw08.TableSets': WHATEVER THE INPUT: true; the input reads as it did. -/
def tableSetsSpec : ChangeSpec := { name := "tableSets", fn := fun _ => fun
  | [d1, d2, d3] => { results := [.lit (.bool true)], args := [d1, d2, d3] }
  | _ => none }
def tableSetsRow : OpenClaim := { program := "ytknbjdbdpdbeiaa", sum := "be97fc8158cc251a0da544813e98c131072d015c514befc387396428ba801c29", func := "pentimento/pentimentolaw08.TableSets", spec := "tableSets", apart := false }
def TableSetsSaid : Prop := tableSetsRow.holds Try.pinned (OpenSpec.ofChange tableSetsSpec)

/-- ITS FALSE NEIGHBOUR: 'it returns false'. Refute it at one input. -/
def tableSetsWrong : ChangeSpec := { name := "tableSets", fn := fun _ => fun
  | [d1, d2, d3] => { results := [.lit (.bool false)], args := [d1, d2, d3] }
  | _ => none }
def TableSetsWrongFalsely : Prop := tableSetsRow.holds Try.pinned (OpenSpec.ofChange tableSetsWrong)

/-- 'pentimentolaw08.TableCuts': WHATEVER THE INPUT: true; the input reads as it did. -/
def tableCutsSpec : ChangeSpec := { name := "tableCuts", fn := fun _ => fun
  | [d1, d2, d3] => { results := [.lit (.bool true)], args := [d1, d2, d3] }
  | _ => none }
def tableCutsRow : OpenClaim := { program := "ytknbjdbdpdbeiaa", sum := "be97fc8158cc251a0da544813e98c131072d015c514befc387396428ba801c29", func := "pentimento/pentimentolaw08.TableCuts", spec := "tableCuts", apart := false }
def TableCutsSaid : Prop := tableCutsRow.holds Try.pinned (OpenSpec.ofChange tableCutsSpec)

/-- ITS FALSE NEIGHBOUR: 'it returns false'. Refute it at one input. -/
def tableCutsWrong : ChangeSpec := { name := "tableCuts", fn := fun _ => fun
  | [d1, d2, d3] => { results := [.lit (.bool false)], args := [d1, d2, d3] }
  | _ => none }
def TableCutsWrongFalsely : Prop := tableCutsRow.holds Try.pinned (OpenSpec.ofChange tableCutsWrong)

/-- 'pentimentolaw08.TableRoom': WHATEVER THE INPUT: true; the input reads as it did. -/
def tableRoomSpec : ChangeSpec := { name := "tableRoom", fn := fun _ => fun
  | [d1, d2] => { results := [.lit (.bool true)], args := [d1, d2] }
  | _ => none }
def tableRoomRow : OpenClaim := { program := "ytknbjdbdpdbeiaa", sum := "be97fc8158cc251a0da544813e98c131072d015c514befc387396428ba801c29", func := "pentimento/pentimentolaw08.TableRoom", spec := "tableRoom", unfollowed := true, recurses := true, apart := false }
def TableRoomSaid : Prop := tableRoomRow.holds Try.pinned (OpenSpec.ofChange tableRoomSpec)

/-- ITS FALSE NEIGHBOUR: 'it returns false'. Refute it at one input. -/
def tableRoomWrong : ChangeSpec := { name := "tableRoom", fn := fun _ => fun
  | [d1, d2] => { results := [.lit (.bool false)], args := [d1, d2] }
  | _ => none }
def TableRoomWrongFalsely : Prop := tableRoomRow.holds Try.pinned (OpenSpec.ofChange tableRoomWrong)

/-- 'pentimentolaw08.TableEach': WHATEVER THE INPUT: true; the input reads as it did. -/
def tableEachSpec : ChangeSpec := { name := "tableEach", fn := fun _ => fun
  | [d1, d2, d3] => { results := [.lit (.bool true)], args := [d1, d2, d3] }
  | _ => none }
def tableEachRow : OpenClaim := { program := "ytknbjdbdpdbeiaa", sum := "be97fc8158cc251a0da544813e98c131072d015c514befc387396428ba801c29", func := "pentimento/pentimentolaw08.TableEach", spec := "tableEach", unfollowed := true, recurses := true, apart := false }
def TableEachSaid : Prop := tableEachRow.holds Try.pinned (OpenSpec.ofChange tableEachSpec)

/-- ITS FALSE NEIGHBOUR: 'it returns false'. Refute it at one input. -/
def tableEachWrong : ChangeSpec := { name := "tableEach", fn := fun _ => fun
  | [d1, d2, d3] => { results := [.lit (.bool false)], args := [d1, d2, d3] }
  | _ => none }
def TableEachWrongFalsely : Prop := tableEachRow.holds Try.pinned (OpenSpec.ofChange tableEachWrong)

/-- 'pentimentolaw08.TableSame': WHATEVER THE INPUT: true; the input reads as it did. -/
def tableSameSpec : ChangeSpec := { name := "tableSame", fn := fun _ => fun
  | [d1, d2, d3] => { results := [.lit (.bool true)], args := [d1, d2, d3] }
  | _ => none }
def tableSameRow : OpenClaim := { program := "ytknbjdbdpdbeiaa", sum := "be97fc8158cc251a0da544813e98c131072d015c514befc387396428ba801c29", func := "pentimento/pentimentolaw08.TableSame", spec := "tableSame", inPlace := ["maps.clone"], unfollowed := true, recurses := true, apart := false }
def TableSameSaid : Prop := tableSameRow.holds Try.pinned (OpenSpec.ofChange tableSameSpec)

/-- ITS FALSE NEIGHBOUR: 'it returns false'. Refute it at one input. -/
def tableSameWrong : ChangeSpec := { name := "tableSame", fn := fun _ => fun
  | [d1, d2, d3] => { results := [.lit (.bool false)], args := [d1, d2, d3] }
  | _ => none }
def TableSameWrongFalsely : Prop := tableSameRow.holds Try.pinned (OpenSpec.ofChange tableSameWrong)

/-- 'pentimentolaw08.TableBytes': WHATEVER THE INPUT: true; the input reads as it did. -/
def tableBytesSpec : ChangeSpec := { name := "tableBytes", fn := fun _ => fun
  | [d1, d2, d3] => { results := [.lit (.bool true)], args := [d1, d2, d3] }
  | _ => none }
def tableBytesRow : OpenClaim := { program := "ytknbjdbdpdbeiaa", sum := "be97fc8158cc251a0da544813e98c131072d015c514befc387396428ba801c29", func := "pentimento/pentimentolaw08.TableBytes", spec := "tableBytes", unfollowed := true, recurses := true, apart := false }
def TableBytesSaid : Prop := tableBytesRow.holds Try.pinned (OpenSpec.ofChange tableBytesSpec)

/-- ITS FALSE NEIGHBOUR: 'it returns false'. Refute it at one input. -/
def tableBytesWrong : ChangeSpec := { name := "tableBytes", fn := fun _ => fun
  | [d1, d2, d3] => { results := [.lit (.bool false)], args := [d1, d2, d3] }
  | _ => none }
def TableBytesWrongFalsely : Prop := tableBytesRow.holds Try.pinned (OpenSpec.ofChange tableBytesWrong)

/- THE SECOND FORM. 'bulk': how many values and letters a reading holds, each counted each time it is reached (what is shared counts as often as it is met; a slice's spare places count too). A statement '..UptoSaid' is the law's where the arguments, and the package variables that the reading takes, are together of bulk at most 1048576: NARROWER than '..Said'. Prove '..Said' where nothing that the law and all that it calls make is longer than what came in: it says more and counts as full. Else prove '..UptoSaid'. A law counts once. -/
mutual
def uptoBulk {H : Type} : DataW H → Nat
  | .lit (.string bytes) => bytes.length + 1
  | .lit _ => 1
  | .nil => 1
  | .ptr d => uptoBulk d + 1
  | .slice elems spare => uptoBulkAll elems + uptoBulkAll spare + 1
  | .agg parts => uptoBulkAll parts + 1
  | .iface _ d => uptoBulk d + 1
  | .map entries => uptoBulkEntries entries + 1
  | .held _ => 1
def uptoBulkAll {H : Type} : List (DataW H) → Nat
  | [] => 0
  | d :: r => uptoBulk d + uptoBulkAll r
def uptoBulkEntries {H : Type} : List (Lit × DataW H) → Nat
  | [] => 0
  | x :: r => uptoBulkEntry x + uptoBulkEntries r
def uptoBulkEntry {H : Type} : Lit × DataW H → Nat
  | (.string bytes, d) => bytes.length + uptoBulk d + 1
  | (_, d) => uptoBulk d + 1
 end
def uptoSmall : (H : Type) → List (DataW H) → Bool := fun _ ds => decide (uptoBulkAll ds ≤ 1048576)
def OpenSpec.upto (s : _root_.Go.ChangeSpec) : _root_.Go.OpenSpec := { _root_.Go.OpenSpec.ofChange s with cond := some uptoSmall }

/-- 'pentimentolaw08.TableAll', WHERE WHAT IT READS IS OF BULK AT MOST 1048576: true; the input reads as it did. -/
def tableAllUptoRow : OpenClaim := { program := "ytknbjdbdpdbeiaa", sum := "be97fc8158cc251a0da544813e98c131072d015c514befc387396428ba801c29", func := "pentimento/pentimentolaw08.TableAll", spec := "tableAll", apart := false, narrowed := true }
def TableAllUptoSaid : Prop := tableAllUptoRow.holds Try.pinned (OpenSpec.upto tableAllSpec)

/-- 'pentimentolaw08.TableSets', WHERE WHAT IT READS IS OF BULK AT MOST 1048576: true; the input reads as it did. -/
def tableSetsUptoRow : OpenClaim := { program := "ytknbjdbdpdbeiaa", sum := "be97fc8158cc251a0da544813e98c131072d015c514befc387396428ba801c29", func := "pentimento/pentimentolaw08.TableSets", spec := "tableSets", apart := false, narrowed := true }
def TableSetsUptoSaid : Prop := tableSetsUptoRow.holds Try.pinned (OpenSpec.upto tableSetsSpec)

/-- 'pentimentolaw08.TableCuts', WHERE WHAT IT READS IS OF BULK AT MOST 1048576: true; the input reads as it did. -/
def tableCutsUptoRow : OpenClaim := { program := "ytknbjdbdpdbeiaa", sum := "be97fc8158cc251a0da544813e98c131072d015c514befc387396428ba801c29", func := "pentimento/pentimentolaw08.TableCuts", spec := "tableCuts", apart := false, narrowed := true }
def TableCutsUptoSaid : Prop := tableCutsUptoRow.holds Try.pinned (OpenSpec.upto tableCutsSpec)

/-- 'pentimentolaw08.TableRoom', WHERE WHAT IT READS IS OF BULK AT MOST 1048576: true; the input reads as it did. -/
def tableRoomUptoRow : OpenClaim := { program := "ytknbjdbdpdbeiaa", sum := "be97fc8158cc251a0da544813e98c131072d015c514befc387396428ba801c29", func := "pentimento/pentimentolaw08.TableRoom", spec := "tableRoom", unfollowed := true, recurses := true, apart := false, narrowed := true }
def TableRoomUptoSaid : Prop := tableRoomUptoRow.holds Try.pinned (OpenSpec.upto tableRoomSpec)

/-- 'pentimentolaw08.TableEach', WHERE WHAT IT READS IS OF BULK AT MOST 1048576: true; the input reads as it did. -/
def tableEachUptoRow : OpenClaim := { program := "ytknbjdbdpdbeiaa", sum := "be97fc8158cc251a0da544813e98c131072d015c514befc387396428ba801c29", func := "pentimento/pentimentolaw08.TableEach", spec := "tableEach", unfollowed := true, recurses := true, apart := false, narrowed := true }
def TableEachUptoSaid : Prop := tableEachUptoRow.holds Try.pinned (OpenSpec.upto tableEachSpec)

/-- 'pentimentolaw08.TableSame', WHERE WHAT IT READS IS OF BULK AT MOST 1048576: true; the input reads as it did. -/
def tableSameUptoRow : OpenClaim := { program := "ytknbjdbdpdbeiaa", sum := "be97fc8158cc251a0da544813e98c131072d015c514befc387396428ba801c29", func := "pentimento/pentimentolaw08.TableSame", spec := "tableSame", inPlace := ["maps.clone"], unfollowed := true, recurses := true, apart := false, narrowed := true }
def TableSameUptoSaid : Prop := tableSameUptoRow.holds Try.pinned (OpenSpec.upto tableSameSpec)

/-- 'pentimentolaw08.TableBytes', WHERE WHAT IT READS IS OF BULK AT MOST 1048576: true; the input reads as it did. -/
def tableBytesUptoRow : OpenClaim := { program := "ytknbjdbdpdbeiaa", sum := "be97fc8158cc251a0da544813e98c131072d015c514befc387396428ba801c29", func := "pentimento/pentimentolaw08.TableBytes", spec := "tableBytes", unfollowed := true, recurses := true, apart := false, narrowed := true }
def TableBytesUptoSaid : Prop := tableBytesUptoRow.holds Try.pinned (OpenSpec.upto tableBytesSpec)

end Rows
end Go.Proofs.Ytknbjdbdpdbeiaa
