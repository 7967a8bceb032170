/-
  No cell of these rows narrows 'for every input' (looked for: loops, veiled, ifaces, maps, wideKeys, modest, calm, conditions, laid).
  DERIVED. THE GIVEN ROWS OF THIS SEAT. 7 by the template 'for every input the law returns true; each argument reads behind the call as it read before'; 0 by the template 'total and deterministic' (their statements: YtilhbjjjmdnjmaaTotals.lean).
  GIVEN WITH THE SEED: the statements are not yours to turn. If you find one false, say at which input.
  Laid BY PROGRAM, IN A SANDBOX (cutbox-rows.mjs): the forced cells as the released guide's own fill.sh prints them over the translation 5d99bdd06520f2c7… (all of the seat's roots in one cut). By AI agents, Wed Nov 11 2026. No macro, syntax, notation, axiom, sorry.
-/
import Derived.Test.YtilhbjjjmdnjmaaChecked
import GoSem.Claim
import GoSem.ClaimJoined
import GoSem.ClaimMapViews
import Derived.JoinedTies
import Derived.KernelRfl
namespace Go.Proofs.Ytilhbjjjmdnjmaa
/- THE CELL 'sum', in the pinned program and in every row, IS THE sha256 OF THE DUMP (.gsa) THAT YtilhbjjjmdnjmaaProg.lean LOADS. Nothing in Lean hashes anything: it is a label: what it is worth is what the hold of that sum in a sandbox is worth. -/
noncomputable def Try.pinned : Pinned := { name := "ytilhbjjjmdnjmaa", sum := "5d99bdd06520f2c75e4ded55791018f1f052d1d8736bfbb565561f04eea83fa0", checked := Try.checked }
namespace Rows
def none {H : Type} : Left H := { results := [], args := [] }

/-- 'pentimentolaw12.ImageFrozen': WHATEVER THE INPUT: true; the input reads as it did. -/
def imageFrozenSpec : ChangeSpec := { name := "imageFrozen", fn := fun _ => fun
  | [d1, d2, d3] => { results := [.lit (.bool true)], args := [d1, d2, d3] }
  | _ => none }
def imageFrozenRow : OpenClaim := { program := "ytilhbjjjmdnjmaa", sum := "5d99bdd06520f2c75e4ded55791018f1f052d1d8736bfbb565561f04eea83fa0", func := "pentimento/pentimentolaw12.ImageFrozen", spec := "imageFrozen", inPlace := ["maps.clone"], unfollowed := true, recurses := true, apart := false }
def ImageFrozenSaid : Prop := imageFrozenRow.holds Try.pinned (OpenSpec.ofChange imageFrozenSpec)

/-- ITS FALSE NEIGHBOUR: 'it returns false'. Refute it at one input. -/
def imageFrozenWrong : ChangeSpec := { name := "imageFrozen", fn := fun _ => fun
  | [d1, d2, d3] => { results := [.lit (.bool false)], args := [d1, d2, d3] }
  | _ => none }
def ImageFrozenWrongFalsely : Prop := imageFrozenRow.holds Try.pinned (OpenSpec.ofChange imageFrozenWrong)

/-- 'pentimentolaw12.ImageWrites': WHATEVER THE INPUT: true; the input reads as it did. -/
def imageWritesSpec : ChangeSpec := { name := "imageWrites", fn := fun _ => fun
  | [d1, d2, d3] => { results := [.lit (.bool true)], args := [d1, d2, d3] }
  | _ => none }
def imageWritesRow : OpenClaim := { program := "ytilhbjjjmdnjmaa", sum := "5d99bdd06520f2c75e4ded55791018f1f052d1d8736bfbb565561f04eea83fa0", func := "pentimento/pentimentolaw12.ImageWrites", spec := "imageWrites", inPlace := ["maps.clone"], unfollowed := true, recurses := true, apart := false }
def ImageWritesSaid : Prop := imageWritesRow.holds Try.pinned (OpenSpec.ofChange imageWritesSpec)

/-- ITS FALSE NEIGHBOUR: 'it returns false'. Refute it at one input. -/
def imageWritesWrong : ChangeSpec := { name := "imageWrites", fn := fun _ => fun
  | [d1, d2, d3] => { results := [.lit (.bool false)], args := [d1, d2, d3] }
  | _ => none }
def ImageWritesWrongFalsely : Prop := imageWritesRow.holds Try.pinned (OpenSpec.ofChange imageWritesWrong)

/-- 'pentimentolaw12.ImageZeros': WHATEVER THE INPUT: true; the input reads as it did. -/
def imageZerosSpec : ChangeSpec := { name := "imageZeros", fn := fun _ => fun
  | [d1, d2, d3] => { results := [.lit (.bool true)], args := [d1, d2, d3] }
  | _ => none }
def imageZerosRow : OpenClaim := { program := "ytilhbjjjmdnjmaa", sum := "5d99bdd06520f2c75e4ded55791018f1f052d1d8736bfbb565561f04eea83fa0", func := "pentimento/pentimentolaw12.ImageZeros", spec := "imageZeros", inPlace := ["maps.clone"], unfollowed := true, recurses := true, apart := false }
def ImageZerosSaid : Prop := imageZerosRow.holds Try.pinned (OpenSpec.ofChange imageZerosSpec)

/-- ITS FALSE NEIGHBOUR: 'it returns false'. Refute it at one input. -/
def imageZerosWrong : ChangeSpec := { name := "imageZeros", fn := fun _ => fun
  | [d1, d2, d3] => { results := [.lit (.bool false)], args := [d1, d2, d3] }
  | _ => none }
def ImageZerosWrongFalsely : Prop := imageZerosRow.holds Try.pinned (OpenSpec.ofChange imageZerosWrong)

/-- 'pentimentolaw12.ImageDrops': WHATEVER THE INPUT: true; the input reads as it did. -/
def imageDropsSpec : ChangeSpec := { name := "imageDrops", fn := fun _ => fun
  | [d1, d2] => { results := [.lit (.bool true)], args := [d1, d2] }
  | _ => none }
def imageDropsRow : OpenClaim := { program := "ytilhbjjjmdnjmaa", sum := "5d99bdd06520f2c75e4ded55791018f1f052d1d8736bfbb565561f04eea83fa0", func := "pentimento/pentimentolaw12.ImageDrops", spec := "imageDrops", inPlace := ["maps.clone"], unfollowed := true, recurses := true, apart := false }
def ImageDropsSaid : Prop := imageDropsRow.holds Try.pinned (OpenSpec.ofChange imageDropsSpec)

/-- ITS FALSE NEIGHBOUR: 'it returns false'. Refute it at one input. -/
def imageDropsWrong : ChangeSpec := { name := "imageDrops", fn := fun _ => fun
  | [d1, d2] => { results := [.lit (.bool false)], args := [d1, d2] }
  | _ => none }
def ImageDropsWrongFalsely : Prop := imageDropsRow.holds Try.pinned (OpenSpec.ofChange imageDropsWrong)

/-- 'pentimentolaw12.ImageCopies': WHATEVER THE INPUT: true; the input reads as it did. -/
def imageCopiesSpec : ChangeSpec := { name := "imageCopies", fn := fun _ => fun
  | [d1, d2, d3] => { results := [.lit (.bool true)], args := [d1, d2, d3] }
  | _ => none }
def imageCopiesRow : OpenClaim := { program := "ytilhbjjjmdnjmaa", sum := "5d99bdd06520f2c75e4ded55791018f1f052d1d8736bfbb565561f04eea83fa0", func := "pentimento/pentimentolaw12.ImageCopies", spec := "imageCopies", inPlace := ["maps.clone"], unfollowed := true, recurses := true, apart := false }
def ImageCopiesSaid : Prop := imageCopiesRow.holds Try.pinned (OpenSpec.ofChange imageCopiesSpec)

/-- ITS FALSE NEIGHBOUR: 'it returns false'. Refute it at one input. -/
def imageCopiesWrong : ChangeSpec := { name := "imageCopies", fn := fun _ => fun
  | [d1, d2, d3] => { results := [.lit (.bool false)], args := [d1, d2, d3] }
  | _ => none }
def ImageCopiesWrongFalsely : Prop := imageCopiesRow.holds Try.pinned (OpenSpec.ofChange imageCopiesWrong)

/-- 'pentimentolaw12.ImageCounts': WHATEVER THE INPUT: true; the input reads as it did. -/
def imageCountsSpec : ChangeSpec := { name := "imageCounts", fn := fun _ => fun
  | [d1, d2] => { results := [.lit (.bool true)], args := [d1, d2] }
  | _ => none }
def imageCountsRow : OpenClaim := { program := "ytilhbjjjmdnjmaa", sum := "5d99bdd06520f2c75e4ded55791018f1f052d1d8736bfbb565561f04eea83fa0", func := "pentimento/pentimentolaw12.ImageCounts", spec := "imageCounts", inPlace := ["maps.clone"], unfollowed := true, recurses := true, apart := false }
def ImageCountsSaid : Prop := imageCountsRow.holds Try.pinned (OpenSpec.ofChange imageCountsSpec)

/-- ITS FALSE NEIGHBOUR: 'it returns false'. Refute it at one input. -/
def imageCountsWrong : ChangeSpec := { name := "imageCounts", fn := fun _ => fun
  | [d1, d2] => { results := [.lit (.bool false)], args := [d1, d2] }
  | _ => none }
def ImageCountsWrongFalsely : Prop := imageCountsRow.holds Try.pinned (OpenSpec.ofChange imageCountsWrong)

/-- 'pentimentolaw12.ImageNothing': WHATEVER THE INPUT: true; the input reads as it did. -/
def imageNothingSpec : ChangeSpec := { name := "imageNothing", fn := fun _ => fun
  | [d1, d2, d3] => { results := [.lit (.bool true)], args := [d1, d2, d3] }
  | _ => none }
def imageNothingRow : OpenClaim := { program := "ytilhbjjjmdnjmaa", sum := "5d99bdd06520f2c75e4ded55791018f1f052d1d8736bfbb565561f04eea83fa0", func := "pentimento/pentimentolaw12.ImageNothing", spec := "imageNothing", inPlace := ["maps.clone"], unfollowed := true, recurses := true, apart := false }
def ImageNothingSaid : Prop := imageNothingRow.holds Try.pinned (OpenSpec.ofChange imageNothingSpec)

/-- ITS FALSE NEIGHBOUR: 'it returns false'. Refute it at one input. -/
def imageNothingWrong : ChangeSpec := { name := "imageNothing", fn := fun _ => fun
  | [d1, d2, d3] => { results := [.lit (.bool false)], args := [d1, d2, d3] }
  | _ => none }
def ImageNothingWrongFalsely : Prop := imageNothingRow.holds Try.pinned (OpenSpec.ofChange imageNothingWrong)

/- THE SECOND FORM. 'bulk': how many values and letters a reading holds, each counted each time it is reached (what is shared counts as often as it is met; a slice's spare places count too). A statement '..UptoSaid' is the law's where the arguments, and the package variables that the reading takes, are together of bulk at most 1048576: NARROWER than '..Said'. Prove '..Said' where nothing that the law and all that it calls make is longer than what came in: it says more and counts as full. Else prove '..UptoSaid'. A law counts once. -/
mutual
def uptoBulk {H : Type} : DataW H → Nat
  | .lit (.string bytes) => bytes.length + 1
  | .lit _ => 1
  | .nil => 1
  | .ptr d => uptoBulk d + 1
  | .slice elems spare => uptoBulkAll elems + uptoBulkAll spare + 1
  | .agg parts => uptoBulkAll parts + 1
  | .iface _ d => uptoBulk d + 1
  | .map entries => uptoBulkEntries entries + 1
  | .held _ => 1
def uptoBulkAll {H : Type} : List (DataW H) → Nat
  | [] => 0
  | d :: r => uptoBulk d + uptoBulkAll r
def uptoBulkEntries {H : Type} : List (Lit × DataW H) → Nat
  | [] => 0
  | x :: r => uptoBulkEntry x + uptoBulkEntries r
def uptoBulkEntry {H : Type} : Lit × DataW H → Nat
  | (.string bytes, d) => bytes.length + uptoBulk d + 1
  | (_, d) => uptoBulk d + 1
 end
def uptoSmall : (H : Type) → List (DataW H) → Bool := fun _ ds => decide (uptoBulkAll ds ≤ 1048576)
def OpenSpec.upto (s : _root_.Go.ChangeSpec) : _root_.Go.OpenSpec := { _root_.Go.OpenSpec.ofChange s with cond := some uptoSmall }

/-- 'pentimentolaw12.ImageFrozen', WHERE WHAT IT READS IS OF BULK AT MOST 1048576: true; the input reads as it did. -/
def imageFrozenUptoRow : OpenClaim := { program := "ytilhbjjjmdnjmaa", sum := "5d99bdd06520f2c75e4ded55791018f1f052d1d8736bfbb565561f04eea83fa0", func := "pentimento/pentimentolaw12.ImageFrozen", spec := "imageFrozen", inPlace := ["maps.clone"], unfollowed := true, recurses := true, apart := false, narrowed := true }
def ImageFrozenUptoSaid : Prop := imageFrozenUptoRow.holds Try.pinned (OpenSpec.upto imageFrozenSpec)

/-- 'pentimentolaw12.ImageWrites', WHERE WHAT IT READS IS OF BULK AT MOST 1048576: true; the input reads as it did. -/
def imageWritesUptoRow : OpenClaim := { program := "ytilhbjjjmdnjmaa", sum := "5d99bdd06520f2c75e4ded55791018f1f052d1d8736bfbb565561f04eea83fa0", func := "pentimento/pentimentolaw12.ImageWrites", spec := "imageWrites", inPlace := ["maps.clone"], unfollowed := true, recurses := true, apart := false, narrowed := true }
def ImageWritesUptoSaid : Prop := imageWritesUptoRow.holds Try.pinned (OpenSpec.upto imageWritesSpec)

/-- 'pentimentolaw12.ImageZeros', WHERE WHAT IT READS IS OF BULK AT MOST 1048576: true; the input reads as it did. -/
def imageZerosUptoRow : OpenClaim := { program := "ytilhbjjjmdnjmaa", sum := "5d99bdd06520f2c75e4ded55791018f1f052d1d8736bfbb565561f04eea83fa0", func := "pentimento/pentimentolaw12.ImageZeros", spec := "imageZeros", inPlace := ["maps.clone"], unfollowed := true, recurses := true, apart := false, narrowed := true }
def ImageZerosUptoSaid : Prop := imageZerosUptoRow.holds Try.pinned (OpenSpec.upto imageZerosSpec)

/-- 'pentimentolaw12.ImageDrops', WHERE WHAT IT READS IS OF BULK AT MOST 1048576: true; the input reads as it did. -/
def imageDropsUptoRow : OpenClaim := { program := "ytilhbjjjmdnjmaa", sum := "5d99bdd06520f2c75e4ded55791018f1f052d1d8736bfbb565561f04eea83fa0", func := "pentimento/pentimentolaw12.ImageDrops", spec := "imageDrops", inPlace := ["maps.clone"], unfollowed := true, recurses := true, apart := false, narrowed := true }
def ImageDropsUptoSaid : Prop := imageDropsUptoRow.holds Try.pinned (OpenSpec.upto imageDropsSpec)

/-- 'pentimentolaw12.ImageCopies', WHERE WHAT IT READS IS OF BULK AT MOST 1048576: true; the input reads as it did. -/
def imageCopiesUptoRow : OpenClaim := { program := "ytilhbjjjmdnjmaa", sum := "5d99bdd06520f2c75e4ded55791018f1f052d1d8736bfbb565561f04eea83fa0", func := "pentimento/pentimentolaw12.ImageCopies", spec := "imageCopies", inPlace := ["maps.clone"], unfollowed := true, recurses := true, apart := false, narrowed := true }
def ImageCopiesUptoSaid : Prop := imageCopiesUptoRow.holds Try.pinned (OpenSpec.upto imageCopiesSpec)

/-- 'pentimentolaw12.ImageCounts', WHERE WHAT IT READS IS OF BULK AT MOST 1048576: true; the input reads as it did. -/
def imageCountsUptoRow : OpenClaim := { program := "ytilhbjjjmdnjmaa", sum := "5d99bdd06520f2c75e4ded55791018f1f052d1d8736bfbb565561f04eea83fa0", func := "pentimento/pentimentolaw12.ImageCounts", spec := "imageCounts", inPlace := ["maps.clone"], unfollowed := true, recurses := true, apart := false, narrowed := true }
def ImageCountsUptoSaid : Prop := imageCountsUptoRow.holds Try.pinned (OpenSpec.upto imageCountsSpec)

/-- 'pentimentolaw12.ImageNothing', WHERE WHAT IT READS IS OF BULK AT MOST 1048576: true; the input reads as it did. -/
def imageNothingUptoRow : OpenClaim := { program := "ytilhbjjjmdnjmaa", sum := "5d99bdd06520f2c75e4ded55791018f1f052d1d8736bfbb565561f04eea83fa0", func := "pentimento/pentimentolaw12.ImageNothing", spec := "imageNothing", inPlace := ["maps.clone"], unfollowed := true, recurses := true, apart := false, narrowed := true }
def ImageNothingUptoSaid : Prop := imageNothingUptoRow.holds Try.pinned (OpenSpec.upto imageNothingSpec)

end Rows
end Go.Proofs.Ytilhbjjjmdnjmaa
