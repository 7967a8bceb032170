/-
  No cell of these rows narrows 'for every input' (looked for: loops, veiled, ifaces, maps, wideKeys, modest, calm, conditions, laid).
  DERIVED. THE GIVEN ROWS OF THIS SEAT. 7 by the template 'for every input the law returns true; each argument reads behind the call as it read before'; 0 by the template 'total and deterministic' (their statements: YtfmolbgfhchdkaaTotals.lean).
  GIVEN WITH THE SEED: the statements are not yours to turn. If you find one false, say at which input.
  Laid BY PROGRAM, IN A SANDBOX (cutbox-rows.mjs): the forced cells as the released guide's own fill.sh prints them over the translation 90dc71c5498c43db… (all of the seat's roots in one cut). By AI agents, Wed Nov 11 2026. No macro, syntax, notation, axiom, sorry.
-/
import Derived.Test.YtfmolbgfhchdkaaChecked
import GoSem.Claim
import GoSem.ClaimJoined
import GoSem.ClaimMapViews
import Derived.JoinedTies
import Derived.KernelRfl
namespace Go.Proofs.Ytfmolbgfhchdkaa
/- THE CELL 'sum', in the pinned program and in every row, IS THE sha256 OF THE DUMP (.gsa) THAT YtfmolbgfhchdkaaProg.lean LOADS. Nothing in Lean hashes anything: it is a label: what it is worth is what the hold of that sum in a sandbox is worth. -/
noncomputable def Try.pinned : Pinned := { name := "ytfmolbgfhchdkaa", sum := "90dc71c5498c43db039aeecbf3c42c587abe92cf5e1a960097df5ec415aa4b5a", checked := Try.checked }
namespace Rows
def none {H : Type} : Left H := { results := [], args := [] }

/-- 'pentimentolaw10.BitsKept': WHATEVER THE INPUT: true; the input reads as it did. -/
def bitsKeptSpec : ChangeSpec := { name := "bitsKept", fn := fun _ => fun
  | [d1, d2, d3] => { results := [.lit (.bool true)], args := [d1, d2, d3] }
  | _ => none }
def bitsKeptRow : OpenClaim := { program := "ytfmolbgfhchdkaa", sum := "90dc71c5498c43db039aeecbf3c42c587abe92cf5e1a960097df5ec415aa4b5a", func := "pentimento/pentimentolaw10.BitsKept", spec := "bitsKept", unfollowed := true, recurses := true, apart := false }
def BitsKeptSaid : Prop := bitsKeptRow.holds Try.pinned (OpenSpec.ofChange bitsKeptSpec)

/-- ITS FALSE NEIGHBOUR: 'it returns false'. Refute it at one input. -/
def bitsKeptWrong : ChangeSpec := { name := "bitsKept", fn := fun _ => fun
  | [d1, d2, d3] => { results := [.lit (.bool false)], args := [d1, d2, d3] }
  | _ => none }
def BitsKeptWrongFalsely : Prop := bitsKeptRow.holds Try.pinned (OpenSpec.ofChange bitsKeptWrong)

/-- 'pentimentolaw10.BitsAllClear': WHATEVER THE INPUT: true; the input reads as it did. -/
def bitsAllClearSpec : ChangeSpec := { name := "bitsAllClear", fn := fun _ => fun
  | [d1, d2] => { results := [.lit (.bool true)], args := [d1, d2] }
  | _ => none }
def bitsAllClearRow : OpenClaim := { program := "ytfmolbgfhchdkaa", sum := "90dc71c5498c43db039aeecbf3c42c587abe92cf5e1a960097df5ec415aa4b5a", func := "pentimento/pentimentolaw10.BitsAllClear", spec := "bitsAllClear", unfollowed := true, recurses := true, apart := false }
def BitsAllClearSaid : Prop := bitsAllClearRow.holds Try.pinned (OpenSpec.ofChange bitsAllClearSpec)

/-- ITS FALSE NEIGHBOUR: 'it returns false'. Refute it at one input. -/
def bitsAllClearWrong : ChangeSpec := { name := "bitsAllClear", fn := fun _ => fun
  | [d1, d2] => { results := [.lit (.bool false)], args := [d1, d2] }
  | _ => none }
def BitsAllClearWrongFalsely : Prop := bitsAllClearRow.holds Try.pinned (OpenSpec.ofChange bitsAllClearWrong)

/-- 'pentimentolaw10.BitsFine': WHATEVER THE INPUT: true; the input reads as it did. -/
def bitsFineSpec : ChangeSpec := { name := "bitsFine", fn := fun _ => fun
  | [d1, d2] => { results := [.lit (.bool true)], args := [d1, d2] }
  | _ => none }
def bitsFineRow : OpenClaim := { program := "ytfmolbgfhchdkaa", sum := "90dc71c5498c43db039aeecbf3c42c587abe92cf5e1a960097df5ec415aa4b5a", func := "pentimento/pentimentolaw10.BitsFine", spec := "bitsFine", unfollowed := true, recurses := true, apart := false }
def BitsFineSaid : Prop := bitsFineRow.holds Try.pinned (OpenSpec.ofChange bitsFineSpec)

/-- ITS FALSE NEIGHBOUR: 'it returns false'. Refute it at one input. -/
def bitsFineWrong : ChangeSpec := { name := "bitsFine", fn := fun _ => fun
  | [d1, d2] => { results := [.lit (.bool false)], args := [d1, d2] }
  | _ => none }
def BitsFineWrongFalsely : Prop := bitsFineRow.holds Try.pinned (OpenSpec.ofChange bitsFineWrong)

/-- 'pentimentolaw10.BitsRows': WHATEVER THE INPUT: true; the input reads as it did. -/
def bitsRowsSpec : ChangeSpec := { name := "bitsRows", fn := fun _ => fun
  | [d1, d2] => { results := [.lit (.bool true)], args := [d1, d2] }
  | _ => none }
def bitsRowsRow : OpenClaim := { program := "ytfmolbgfhchdkaa", sum := "90dc71c5498c43db039aeecbf3c42c587abe92cf5e1a960097df5ec415aa4b5a", func := "pentimento/pentimentolaw10.BitsRows", spec := "bitsRows", unfollowed := true, recurses := true, apart := false }
def BitsRowsSaid : Prop := bitsRowsRow.holds Try.pinned (OpenSpec.ofChange bitsRowsSpec)

/-- ITS FALSE NEIGHBOUR: 'it returns false'. Refute it at one input. -/
def bitsRowsWrong : ChangeSpec := { name := "bitsRows", fn := fun _ => fun
  | [d1, d2] => { results := [.lit (.bool false)], args := [d1, d2] }
  | _ => none }
def BitsRowsWrongFalsely : Prop := bitsRowsRow.holds Try.pinned (OpenSpec.ofChange bitsRowsWrong)

/-- 'pentimentolaw10.BitsCopies': WHATEVER THE INPUT: true; the input reads as it did. -/
def bitsCopiesSpec : ChangeSpec := { name := "bitsCopies", fn := fun _ => fun
  | [d1, d2, d3] => { results := [.lit (.bool true)], args := [d1, d2, d3] }
  | _ => none }
def bitsCopiesRow : OpenClaim := { program := "ytfmolbgfhchdkaa", sum := "90dc71c5498c43db039aeecbf3c42c587abe92cf5e1a960097df5ec415aa4b5a", func := "pentimento/pentimentolaw10.BitsCopies", spec := "bitsCopies", inPlace := ["maps.clone"], unfollowed := true, recurses := true, apart := false }
def BitsCopiesSaid : Prop := bitsCopiesRow.holds Try.pinned (OpenSpec.ofChange bitsCopiesSpec)

/-- ITS FALSE NEIGHBOUR: 'it returns false'. Refute it at one input. -/
def bitsCopiesWrong : ChangeSpec := { name := "bitsCopies", fn := fun _ => fun
  | [d1, d2, d3] => { results := [.lit (.bool false)], args := [d1, d2, d3] }
  | _ => none }
def BitsCopiesWrongFalsely : Prop := bitsCopiesRow.holds Try.pinned (OpenSpec.ofChange bitsCopiesWrong)

/-- 'pentimentolaw10.BitsBytes': WHATEVER THE INPUT: true; the input reads as it did. -/
def bitsBytesSpec : ChangeSpec := { name := "bitsBytes", fn := fun _ => fun
  | [d1, d2, d3] => { results := [.lit (.bool true)], args := [d1, d2, d3] }
  | _ => none }
def bitsBytesRow : OpenClaim := { program := "ytfmolbgfhchdkaa", sum := "90dc71c5498c43db039aeecbf3c42c587abe92cf5e1a960097df5ec415aa4b5a", func := "pentimento/pentimentolaw10.BitsBytes", spec := "bitsBytes", unfollowed := true, recurses := true, apart := false }
def BitsBytesSaid : Prop := bitsBytesRow.holds Try.pinned (OpenSpec.ofChange bitsBytesSpec)

/-- ITS FALSE NEIGHBOUR: 'it returns false'. Refute it at one input. -/
def bitsBytesWrong : ChangeSpec := { name := "bitsBytes", fn := fun _ => fun
  | [d1, d2, d3] => { results := [.lit (.bool false)], args := [d1, d2, d3] }
  | _ => none }
def BitsBytesWrongFalsely : Prop := bitsBytesRow.holds Try.pinned (OpenSpec.ofChange bitsBytesWrong)

/-- 'pentimentolaw10.BitsMerge': WHATEVER THE INPUT: true; the input reads as it did. -/
def bitsMergeSpec : ChangeSpec := { name := "bitsMerge", fn := fun _ => fun
  | [d1, d2, d3] => { results := [.lit (.bool true)], args := [d1, d2, d3] }
  | _ => none }
def bitsMergeRow : OpenClaim := { program := "ytfmolbgfhchdkaa", sum := "90dc71c5498c43db039aeecbf3c42c587abe92cf5e1a960097df5ec415aa4b5a", func := "pentimento/pentimentolaw10.BitsMerge", spec := "bitsMerge", inPlace := ["maps.clone"], unfollowed := true, recurses := true, apart := false }
def BitsMergeSaid : Prop := bitsMergeRow.holds Try.pinned (OpenSpec.ofChange bitsMergeSpec)

/-- ITS FALSE NEIGHBOUR: 'it returns false'. Refute it at one input. -/
def bitsMergeWrong : ChangeSpec := { name := "bitsMerge", fn := fun _ => fun
  | [d1, d2, d3] => { results := [.lit (.bool false)], args := [d1, d2, d3] }
  | _ => none }
def BitsMergeWrongFalsely : Prop := bitsMergeRow.holds Try.pinned (OpenSpec.ofChange bitsMergeWrong)

/- THE SECOND FORM. 'bulk': how many values and letters a reading holds, each counted each time it is reached (what is shared counts as often as it is met; a slice's spare places count too). A statement '..UptoSaid' is the law's where the arguments, and the package variables that the reading takes, are together of bulk at most 1048576: NARROWER than '..Said'. Prove '..Said' where nothing that the law and all that it calls make is longer than what came in: it says more and counts as full. Else prove '..UptoSaid'. A law counts once. -/
mutual
def uptoBulk {H : Type} : DataW H → Nat
  | .lit (.string bytes) => bytes.length + 1
  | .lit _ => 1
  | .nil => 1
  | .ptr d => uptoBulk d + 1
  | .slice elems spare => uptoBulkAll elems + uptoBulkAll spare + 1
  | .agg parts => uptoBulkAll parts + 1
  | .iface _ d => uptoBulk d + 1
  | .map entries => uptoBulkEntries entries + 1
  | .held _ => 1
def uptoBulkAll {H : Type} : List (DataW H) → Nat
  | [] => 0
  | d :: r => uptoBulk d + uptoBulkAll r
def uptoBulkEntries {H : Type} : List (Lit × DataW H) → Nat
  | [] => 0
  | x :: r => uptoBulkEntry x + uptoBulkEntries r
def uptoBulkEntry {H : Type} : Lit × DataW H → Nat
  | (.string bytes, d) => bytes.length + uptoBulk d + 1
  | (_, d) => uptoBulk d + 1
 end
def uptoSmall : (H : Type) → List (DataW H) → Bool := fun _ ds => decide (uptoBulkAll ds ≤ 1048576)
def OpenSpec.upto (s : _root_.Go.ChangeSpec) : _root_.Go.OpenSpec := { _root_.Go.OpenSpec.ofChange s with cond := some uptoSmall }

/-- 'pentimentolaw10.BitsKept', WHERE WHAT IT READS IS OF BULK AT MOST 1048576: true; the input reads as it did. -/
def bitsKeptUptoRow : OpenClaim := { program := "ytfmolbgfhchdkaa", sum := "90dc71c5498c43db039aeecbf3c42c587abe92cf5e1a960097df5ec415aa4b5a", func := "pentimento/pentimentolaw10.BitsKept", spec := "bitsKept", unfollowed := true, recurses := true, apart := false, narrowed := true }
def BitsKeptUptoSaid : Prop := bitsKeptUptoRow.holds Try.pinned (OpenSpec.upto bitsKeptSpec)

/-- 'pentimentolaw10.BitsAllClear', WHERE WHAT IT READS IS OF BULK AT MOST 1048576: true; the input reads as it did. -/
def bitsAllClearUptoRow : OpenClaim := { program := "ytfmolbgfhchdkaa", sum := "90dc71c5498c43db039aeecbf3c42c587abe92cf5e1a960097df5ec415aa4b5a", func := "pentimento/pentimentolaw10.BitsAllClear", spec := "bitsAllClear", unfollowed := true, recurses := true, apart := false, narrowed := true }
def BitsAllClearUptoSaid : Prop := bitsAllClearUptoRow.holds Try.pinned (OpenSpec.upto bitsAllClearSpec)

/-- 'pentimentolaw10.BitsFine', WHERE WHAT IT READS IS OF BULK AT MOST 1048576: true; the input reads as it did. -/
def bitsFineUptoRow : OpenClaim := { program := "ytfmolbgfhchdkaa", sum := "90dc71c5498c43db039aeecbf3c42c587abe92cf5e1a960097df5ec415aa4b5a", func := "pentimento/pentimentolaw10.BitsFine", spec := "bitsFine", unfollowed := true, recurses := true, apart := false, narrowed := true }
def BitsFineUptoSaid : Prop := bitsFineUptoRow.holds Try.pinned (OpenSpec.upto bitsFineSpec)

/-- 'pentimentolaw10.BitsRows', WHERE WHAT IT READS IS OF BULK AT MOST 1048576: true; the input reads as it did. -/
def bitsRowsUptoRow : OpenClaim := { program := "ytfmolbgfhchdkaa", sum := "90dc71c5498c43db039aeecbf3c42c587abe92cf5e1a960097df5ec415aa4b5a", func := "pentimento/pentimentolaw10.BitsRows", spec := "bitsRows", unfollowed := true, recurses := true, apart := false, narrowed := true }
def BitsRowsUptoSaid : Prop := bitsRowsUptoRow.holds Try.pinned (OpenSpec.upto bitsRowsSpec)

/-- 'pentimentolaw10.BitsCopies', WHERE WHAT IT READS IS OF BULK AT MOST 1048576: true; the input reads as it did. -/
def bitsCopiesUptoRow : OpenClaim := { program := "ytfmolbgfhchdkaa", sum := "90dc71c5498c43db039aeecbf3c42c587abe92cf5e1a960097df5ec415aa4b5a", func := "pentimento/pentimentolaw10.BitsCopies", spec := "bitsCopies", inPlace := ["maps.clone"], unfollowed := true, recurses := true, apart := false, narrowed := true }
def BitsCopiesUptoSaid : Prop := bitsCopiesUptoRow.holds Try.pinned (OpenSpec.upto bitsCopiesSpec)

/-- 'pentimentolaw10.BitsBytes', WHERE WHAT IT READS IS OF BULK AT MOST 1048576: true; the input reads as it did. -/
def bitsBytesUptoRow : OpenClaim := { program := "ytfmolbgfhchdkaa", sum := "90dc71c5498c43db039aeecbf3c42c587abe92cf5e1a960097df5ec415aa4b5a", func := "pentimento/pentimentolaw10.BitsBytes", spec := "bitsBytes", unfollowed := true, recurses := true, apart := false, narrowed := true }
def BitsBytesUptoSaid : Prop := bitsBytesUptoRow.holds Try.pinned (OpenSpec.upto bitsBytesSpec)

/-- 'pentimentolaw10.BitsMerge', WHERE WHAT IT READS IS OF BULK AT MOST 1048576: true; the input reads as it did. -/
def bitsMergeUptoRow : OpenClaim := { program := "ytfmolbgfhchdkaa", sum := "90dc71c5498c43db039aeecbf3c42c587abe92cf5e1a960097df5ec415aa4b5a", func := "pentimento/pentimentolaw10.BitsMerge", spec := "bitsMerge", inPlace := ["maps.clone"], unfollowed := true, recurses := true, apart := false, narrowed := true }
def BitsMergeUptoSaid : Prop := bitsMergeUptoRow.holds Try.pinned (OpenSpec.upto bitsMergeSpec)

end Rows
end Go.Proofs.Ytfmolbgfhchdkaa
