/-
  No cell of these rows narrows 'for every input' (looked for: loops, veiled, ifaces, maps, wideKeys, modest, calm, conditions, laid).
  DERIVED. THE GIVEN ROWS OF THIS SEAT. 6 by the template 'for every input the law returns true; each argument reads behind the call as it read before'; 0 by the template 'total and deterministic' (their statements: YtiifmakhfpllnaaTotals.lean).
  GIVEN WITH THE SEED: the statements are not yours to turn. If you find one false, say at which input.
  Laid BY PROGRAM, IN A SANDBOX (cutbox-rows.mjs): the forced cells as the released guide's own fill.sh prints them over the translation 56be59bc325e7039… (all of the seat's roots in one cut). By AI agents, Wed Nov 11 2026. No macro, syntax, notation, axiom, sorry.
-/
import Derived.Test.YtiifmakhfpllnaaChecked
import GoSem.Claim
import GoSem.ClaimJoined
import GoSem.ClaimMapViews
import Derived.JoinedTies
import Derived.KernelRfl
namespace Go.Proofs.Ytiifmakhfpllnaa
/- THE CELL 'sum', in the pinned program and in every row, IS THE sha256 OF THE DUMP (.gsa) THAT YtiifmakhfpllnaaProg.lean LOADS. Nothing in Lean hashes anything: it is a label: what it is worth is what the hold of that sum in a sandbox is worth. -/
noncomputable def Try.pinned : Pinned := { name := "ytiifmakhfpllnaa", sum := "56be59bc325e7039d0058f1b4035331d99575d7e10c6cbca03ae56d2dc5d3f3d", checked := Try.checked }
namespace Rows
def none {H : Type} : Left H := { results := [], args := [] }

/-- 'pentimentolaw11.DirWrites': WHATEVER THE INPUT: true; the input reads as it did. -/
def dirWritesSpec : ChangeSpec := { name := "dirWrites", fn := fun _ => fun
  | [d1, d2, d3] => { results := [.lit (.bool true)], args := [d1, d2, d3] }
  | _ => none }
def dirWritesRow : OpenClaim := { program := "ytiifmakhfpllnaa", sum := "56be59bc325e7039d0058f1b4035331d99575d7e10c6cbca03ae56d2dc5d3f3d", func := "pentimento/pentimentolaw11.DirWrites", spec := "dirWrites", inPlace := ["maps.clone"], unfollowed := true, recurses := true, apart := false }
def DirWritesSaid : Prop := dirWritesRow.holds Try.pinned (OpenSpec.ofChange dirWritesSpec)

/-- ITS FALSE NEIGHBOUR: 'it returns false'. Refute it at one input. -/
def dirWritesWrong : ChangeSpec := { name := "dirWrites", fn := fun _ => fun
  | [d1, d2, d3] => { results := [.lit (.bool false)], args := [d1, d2, d3] }
  | _ => none }
def DirWritesWrongFalsely : Prop := dirWritesRow.holds Try.pinned (OpenSpec.ofChange dirWritesWrong)

/-- 'pentimentolaw11.DirAll': WHATEVER THE INPUT: true; the input reads as it did. -/
def dirAllSpec : ChangeSpec := { name := "dirAll", fn := fun _ => fun
  | [d] => { results := [.lit (.bool true)], args := [d] }
  | _ => none }
def dirAllRow : OpenClaim := { program := "ytiifmakhfpllnaa", sum := "56be59bc325e7039d0058f1b4035331d99575d7e10c6cbca03ae56d2dc5d3f3d", func := "pentimento/pentimentolaw11.DirAll", spec := "dirAll", inPlace := ["maps.clone"], unfollowed := true, recurses := true, apart := false }
def DirAllSaid : Prop := dirAllRow.holds Try.pinned (OpenSpec.ofChange dirAllSpec)

/-- ITS FALSE NEIGHBOUR: 'it returns false'. Refute it at one input. -/
def dirAllWrong : ChangeSpec := { name := "dirAll", fn := fun _ => fun
  | [d] => { results := [.lit (.bool false)], args := [d] }
  | _ => none }
def DirAllWrongFalsely : Prop := dirAllRow.holds Try.pinned (OpenSpec.ofChange dirAllWrong)

/-- 'pentimentolaw11.DirCopies': WHATEVER THE INPUT: true; the input reads as it did. -/
def dirCopiesSpec : ChangeSpec := { name := "dirCopies", fn := fun _ => fun
  | [d1, d2] => { results := [.lit (.bool true)], args := [d1, d2] }
  | _ => none }
def dirCopiesRow : OpenClaim := { program := "ytiifmakhfpllnaa", sum := "56be59bc325e7039d0058f1b4035331d99575d7e10c6cbca03ae56d2dc5d3f3d", func := "pentimento/pentimentolaw11.DirCopies", spec := "dirCopies", inPlace := ["maps.clone"], unfollowed := true, recurses := true, apart := false }
def DirCopiesSaid : Prop := dirCopiesRow.holds Try.pinned (OpenSpec.ofChange dirCopiesSpec)

/-- ITS FALSE NEIGHBOUR: 'it returns false'. Refute it at one input. -/
def dirCopiesWrong : ChangeSpec := { name := "dirCopies", fn := fun _ => fun
  | [d1, d2] => { results := [.lit (.bool false)], args := [d1, d2] }
  | _ => none }
def DirCopiesWrongFalsely : Prop := dirCopiesRow.holds Try.pinned (OpenSpec.ofChange dirCopiesWrong)

/-- 'pentimentolaw11.DirOff': WHATEVER THE INPUT: true; the input reads as it did. -/
def dirOffSpec : ChangeSpec := { name := "dirOff", fn := fun _ => fun
  | [d1, d2, d3] => { results := [.lit (.bool true)], args := [d1, d2, d3] }
  | _ => none }
def dirOffRow : OpenClaim := { program := "ytiifmakhfpllnaa", sum := "56be59bc325e7039d0058f1b4035331d99575d7e10c6cbca03ae56d2dc5d3f3d", func := "pentimento/pentimentolaw11.DirOff", spec := "dirOff", inPlace := ["maps.clone"], unfollowed := true, recurses := true, apart := false }
def DirOffSaid : Prop := dirOffRow.holds Try.pinned (OpenSpec.ofChange dirOffSpec)

/-- ITS FALSE NEIGHBOUR: 'it returns false'. Refute it at one input. -/
def dirOffWrong : ChangeSpec := { name := "dirOff", fn := fun _ => fun
  | [d1, d2, d3] => { results := [.lit (.bool false)], args := [d1, d2, d3] }
  | _ => none }
def DirOffWrongFalsely : Prop := dirOffRow.holds Try.pinned (OpenSpec.ofChange dirOffWrong)

/-- 'pentimentolaw11.DirOwn': WHATEVER THE INPUT: true; the input reads as it did. -/
def dirOwnSpec : ChangeSpec := { name := "dirOwn", fn := fun _ => fun
  | [d1, d2] => { results := [.lit (.bool true)], args := [d1, d2] }
  | _ => none }
def dirOwnRow : OpenClaim := { program := "ytiifmakhfpllnaa", sum := "56be59bc325e7039d0058f1b4035331d99575d7e10c6cbca03ae56d2dc5d3f3d", func := "pentimento/pentimentolaw11.DirOwn", spec := "dirOwn", inPlace := ["maps.clone"], unfollowed := true, recurses := true, apart := false }
def DirOwnSaid : Prop := dirOwnRow.holds Try.pinned (OpenSpec.ofChange dirOwnSpec)

/-- ITS FALSE NEIGHBOUR: 'it returns false'. Refute it at one input. -/
def dirOwnWrong : ChangeSpec := { name := "dirOwn", fn := fun _ => fun
  | [d1, d2] => { results := [.lit (.bool false)], args := [d1, d2] }
  | _ => none }
def DirOwnWrongFalsely : Prop := dirOwnRow.holds Try.pinned (OpenSpec.ofChange dirOwnWrong)

/-- 'pentimentolaw11.DirUnclean': WHATEVER THE INPUT: true; the input reads as it did. -/
def dirUncleanSpec : ChangeSpec := { name := "dirUnclean", fn := fun _ => fun
  | [d] => { results := [.lit (.bool true)], args := [d] }
  | _ => none }
def dirUncleanRow : OpenClaim := { program := "ytiifmakhfpllnaa", sum := "56be59bc325e7039d0058f1b4035331d99575d7e10c6cbca03ae56d2dc5d3f3d", func := "pentimento/pentimentolaw11.DirUnclean", spec := "dirUnclean", inPlace := ["maps.clone"], unfollowed := true, recurses := true, apart := false }
def DirUncleanSaid : Prop := dirUncleanRow.holds Try.pinned (OpenSpec.ofChange dirUncleanSpec)

/-- ITS FALSE NEIGHBOUR: 'it returns false'. Refute it at one input. -/
def dirUncleanWrong : ChangeSpec := { name := "dirUnclean", fn := fun _ => fun
  | [d] => { results := [.lit (.bool false)], args := [d] }
  | _ => none }
def DirUncleanWrongFalsely : Prop := dirUncleanRow.holds Try.pinned (OpenSpec.ofChange dirUncleanWrong)

/- THE SECOND FORM. 'bulk': how many values and letters a reading holds, each counted each time it is reached (what is shared counts as often as it is met; a slice's spare places count too). A statement '..UptoSaid' is the law's where the arguments, and the package variables that the reading takes, are together of bulk at most 1048576: NARROWER than '..Said'. Prove '..Said' where nothing that the law and all that it calls make is longer than what came in: it says more and counts as full. Else prove '..UptoSaid'. A law counts once. -/
mutual
def uptoBulk {H : Type} : DataW H → Nat
  | .lit (.string bytes) => bytes.length + 1
  | .lit _ => 1
  | .nil => 1
  | .ptr d => uptoBulk d + 1
  | .slice elems spare => uptoBulkAll elems + uptoBulkAll spare + 1
  | .agg parts => uptoBulkAll parts + 1
  | .iface _ d => uptoBulk d + 1
  | .map entries => uptoBulkEntries entries + 1
  | .held _ => 1
def uptoBulkAll {H : Type} : List (DataW H) → Nat
  | [] => 0
  | d :: r => uptoBulk d + uptoBulkAll r
def uptoBulkEntries {H : Type} : List (Lit × DataW H) → Nat
  | [] => 0
  | x :: r => uptoBulkEntry x + uptoBulkEntries r
def uptoBulkEntry {H : Type} : Lit × DataW H → Nat
  | (.string bytes, d) => bytes.length + uptoBulk d + 1
  | (_, d) => uptoBulk d + 1
 end
def uptoSmall : (H : Type) → List (DataW H) → Bool := fun _ ds => decide (uptoBulkAll ds ≤ 1048576)
def OpenSpec.upto (s : _root_.Go.ChangeSpec) : _root_.Go.OpenSpec := { _root_.Go.OpenSpec.ofChange s with cond := some uptoSmall }

/-- 'pentimentolaw11.DirWrites', WHERE WHAT IT READS IS OF BULK AT MOST 1048576: true; the input reads as it did. -/
def dirWritesUptoRow : OpenClaim := { program := "ytiifmakhfpllnaa", sum := "56be59bc325e7039d0058f1b4035331d99575d7e10c6cbca03ae56d2dc5d3f3d", func := "pentimento/pentimentolaw11.DirWrites", spec := "dirWrites", inPlace := ["maps.clone"], unfollowed := true, recurses := true, apart := false, narrowed := true }
def DirWritesUptoSaid : Prop := dirWritesUptoRow.holds Try.pinned (OpenSpec.upto dirWritesSpec)

/-- 'pentimentolaw11.DirAll', WHERE WHAT IT READS IS OF BULK AT MOST 1048576: true; the input reads as it did. -/
def dirAllUptoRow : OpenClaim := { program := "ytiifmakhfpllnaa", sum := "56be59bc325e7039d0058f1b4035331d99575d7e10c6cbca03ae56d2dc5d3f3d", func := "pentimento/pentimentolaw11.DirAll", spec := "dirAll", inPlace := ["maps.clone"], unfollowed := true, recurses := true, apart := false, narrowed := true }
def DirAllUptoSaid : Prop := dirAllUptoRow.holds Try.pinned (OpenSpec.upto dirAllSpec)

/-- 'pentimentolaw11.DirCopies', WHERE WHAT IT READS IS OF BULK AT MOST 1048576: true; the input reads as it did. -/
def dirCopiesUptoRow : OpenClaim := { program := "ytiifmakhfpllnaa", sum := "56be59bc325e7039d0058f1b4035331d99575d7e10c6cbca03ae56d2dc5d3f3d", func := "pentimento/pentimentolaw11.DirCopies", spec := "dirCopies", inPlace := ["maps.clone"], unfollowed := true, recurses := true, apart := false, narrowed := true }
def DirCopiesUptoSaid : Prop := dirCopiesUptoRow.holds Try.pinned (OpenSpec.upto dirCopiesSpec)

/-- 'pentimentolaw11.DirOff', WHERE WHAT IT READS IS OF BULK AT MOST 1048576: true; the input reads as it did. -/
def dirOffUptoRow : OpenClaim := { program := "ytiifmakhfpllnaa", sum := "56be59bc325e7039d0058f1b4035331d99575d7e10c6cbca03ae56d2dc5d3f3d", func := "pentimento/pentimentolaw11.DirOff", spec := "dirOff", inPlace := ["maps.clone"], unfollowed := true, recurses := true, apart := false, narrowed := true }
def DirOffUptoSaid : Prop := dirOffUptoRow.holds Try.pinned (OpenSpec.upto dirOffSpec)

/-- 'pentimentolaw11.DirOwn', WHERE WHAT IT READS IS OF BULK AT MOST 1048576: true; the input reads as it did. -/
def dirOwnUptoRow : OpenClaim := { program := "ytiifmakhfpllnaa", sum := "56be59bc325e7039d0058f1b4035331d99575d7e10c6cbca03ae56d2dc5d3f3d", func := "pentimento/pentimentolaw11.DirOwn", spec := "dirOwn", inPlace := ["maps.clone"], unfollowed := true, recurses := true, apart := false, narrowed := true }
def DirOwnUptoSaid : Prop := dirOwnUptoRow.holds Try.pinned (OpenSpec.upto dirOwnSpec)

/-- 'pentimentolaw11.DirUnclean', WHERE WHAT IT READS IS OF BULK AT MOST 1048576: true; the input reads as it did. -/
def dirUncleanUptoRow : OpenClaim := { program := "ytiifmakhfpllnaa", sum := "56be59bc325e7039d0058f1b4035331d99575d7e10c6cbca03ae56d2dc5d3f3d", func := "pentimento/pentimentolaw11.DirUnclean", spec := "dirUnclean", inPlace := ["maps.clone"], unfollowed := true, recurses := true, apart := false, narrowed := true }
def DirUncleanUptoSaid : Prop := dirUncleanUptoRow.holds Try.pinned (OpenSpec.upto dirUncleanSpec)

end Rows
end Go.Proofs.Ytiifmakhfpllnaa
