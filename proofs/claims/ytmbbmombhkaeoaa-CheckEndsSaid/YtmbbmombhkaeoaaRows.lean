/-
  No cell of these rows narrows 'for every input' (looked for: loops, veiled, ifaces, maps, wideKeys, modest, calm, conditions, laid).
  DERIVED. THE GIVEN ROWS OF THIS SEAT. 5 by the template 'for every input the law returns true; each argument reads behind the call as it read before'; 0 by the template 'total and deterministic' (their statements: YtmbbmombhkaeoaaTotals.lean).
  GIVEN WITH THE SEED: the statements are not yours to turn. If you find one false, say at which input.
  Laid BY PROGRAM, IN A SANDBOX (cutbox-rows.mjs): the forced cells as the released guide's own fill.sh prints them over the translation 48e91afe3c61e7ef… (all of the seat's roots in one cut). By AI agents, Wed Nov 11 2026. No macro, syntax, notation, axiom, sorry.
-/
import Derived.Test.YtmbbmombhkaeoaaChecked
import GoSem.Claim
import GoSem.ClaimJoined
import GoSem.ClaimMapViews
import Derived.JoinedTies
import Derived.KernelRfl
namespace Go.Proofs.Ytmbbmombhkaeoaa
/- THE CELL 'sum', in the pinned program and in every row, IS THE sha256 OF THE DUMP (.gsa) THAT YtmbbmombhkaeoaaProg.lean LOADS. Nothing in Lean hashes anything: it is a label: what it is worth is what the hold of that sum in a sandbox is worth. -/
noncomputable def Try.pinned : Pinned := { name := "ytmbbmombhkaeoaa", sum := "48e91afe3c61e7ef30b1d7d2b5afda54492782ea51472250d7a5c8eb54217630", checked := Try.checked }
namespace Rows
def none {H : Type} : Left H := { results := [], args := [] }

/-- 'pentimentolaw19.CheckLooks': WHATEVER THE INPUT: true; the input reads as it did. -/
def checkLooksSpec : ChangeSpec := { name := "checkLooks", fn := fun _ => fun
  | [d1, d2] => { results := [.lit (.bool true)], args := [d1, d2] }
  | _ => none }
def checkLooksRow : OpenClaim := { program := "ytmbbmombhkaeoaa", sum := "48e91afe3c61e7ef30b1d7d2b5afda54492782ea51472250d7a5c8eb54217630", func := "pentimento/pentimentolaw19.CheckLooks", spec := "checkLooks", unfollowed := true, recurses := true, apart := false }
def CheckLooksSaid : Prop := checkLooksRow.holds Try.pinned (OpenSpec.ofChange checkLooksSpec)

/-- ITS FALSE NEIGHBOUR: 'it returns false'. Refute it at one input. -/
def checkLooksWrong : ChangeSpec := { name := "checkLooks", fn := fun _ => fun
  | [d1, d2] => { results := [.lit (.bool false)], args := [d1, d2] }
  | _ => none }
def CheckLooksWrongFalsely : Prop := checkLooksRow.holds Try.pinned (OpenSpec.ofChange checkLooksWrong)

/-- 'pentimentolaw19.CheckRepairs': WHATEVER THE INPUT: true; the input reads as it did. -/
def checkRepairsSpec : ChangeSpec := { name := "checkRepairs", fn := fun _ => fun
  | [d1, d2] => { results := [.lit (.bool true)], args := [d1, d2] }
  | _ => none }
def checkRepairsRow : OpenClaim := { program := "ytmbbmombhkaeoaa", sum := "48e91afe3c61e7ef30b1d7d2b5afda54492782ea51472250d7a5c8eb54217630", func := "pentimento/pentimentolaw19.CheckRepairs", spec := "checkRepairs", unfollowed := true, recurses := true, apart := false }
def CheckRepairsSaid : Prop := checkRepairsRow.holds Try.pinned (OpenSpec.ofChange checkRepairsSpec)

/-- ITS FALSE NEIGHBOUR: 'it returns false'. Refute it at one input. -/
def checkRepairsWrong : ChangeSpec := { name := "checkRepairs", fn := fun _ => fun
  | [d1, d2] => { results := [.lit (.bool false)], args := [d1, d2] }
  | _ => none }
def CheckRepairsWrongFalsely : Prop := checkRepairsRow.holds Try.pinned (OpenSpec.ofChange checkRepairsWrong)

/-- 'pentimentolaw19.CheckEnds': WHATEVER THE INPUT: true; the input reads as it did. -/
def checkEndsSpec : ChangeSpec := { name := "checkEnds", fn := fun _ => fun
  | [d1, d2] => { results := [.lit (.bool true)], args := [d1, d2] }
  | _ => none }
def checkEndsRow : OpenClaim := { program := "ytmbbmombhkaeoaa", sum := "48e91afe3c61e7ef30b1d7d2b5afda54492782ea51472250d7a5c8eb54217630", func := "pentimento/pentimentolaw19.CheckEnds", spec := "checkEnds", unfollowed := true, recurses := true, apart := false }
def CheckEndsSaid : Prop := checkEndsRow.holds Try.pinned (OpenSpec.ofChange checkEndsSpec)

/-- ITS FALSE NEIGHBOUR: 'it returns false'. Refute it at one input. -/
def checkEndsWrong : ChangeSpec := { name := "checkEnds", fn := fun _ => fun
  | [d1, d2] => { results := [.lit (.bool false)], args := [d1, d2] }
  | _ => none }
def CheckEndsWrongFalsely : Prop := checkEndsRow.holds Try.pinned (OpenSpec.ofChange checkEndsWrong)

/-- 'pentimentolaw19.CheckFine': WHATEVER THE INPUT: true; the input reads as it did. -/
def checkFineSpec : ChangeSpec := { name := "checkFine", fn := fun _ => fun
  | [d1, d2, d3] => { results := [.lit (.bool true)], args := [d1, d2, d3] }
  | _ => none }
def checkFineRow : OpenClaim := { program := "ytmbbmombhkaeoaa", sum := "48e91afe3c61e7ef30b1d7d2b5afda54492782ea51472250d7a5c8eb54217630", func := "pentimento/pentimentolaw19.CheckFine", spec := "checkFine", unfollowed := true, recurses := true, apart := false }
def CheckFineSaid : Prop := checkFineRow.holds Try.pinned (OpenSpec.ofChange checkFineSpec)

/-- ITS FALSE NEIGHBOUR: 'it returns false'. Refute it at one input. -/
def checkFineWrong : ChangeSpec := { name := "checkFine", fn := fun _ => fun
  | [d1, d2, d3] => { results := [.lit (.bool false)], args := [d1, d2, d3] }
  | _ => none }
def CheckFineWrongFalsely : Prop := checkFineRow.holds Try.pinned (OpenSpec.ofChange checkFineWrong)

/-- 'pentimentolaw19.CheckApart': WHATEVER THE INPUT: true; the input reads as it did. -/
def checkApartSpec : ChangeSpec := { name := "checkApart", fn := fun _ => fun
  | [d1, d2] => { results := [.lit (.bool true)], args := [d1, d2] }
  | _ => none }
def checkApartRow : OpenClaim := { program := "ytmbbmombhkaeoaa", sum := "48e91afe3c61e7ef30b1d7d2b5afda54492782ea51472250d7a5c8eb54217630", func := "pentimento/pentimentolaw19.CheckApart", spec := "checkApart", unfollowed := true, recurses := true, apart := false }
def CheckApartSaid : Prop := checkApartRow.holds Try.pinned (OpenSpec.ofChange checkApartSpec)

/-- ITS FALSE NEIGHBOUR: 'it returns false'. Refute it at one input. -/
def checkApartWrong : ChangeSpec := { name := "checkApart", fn := fun _ => fun
  | [d1, d2] => { results := [.lit (.bool false)], args := [d1, d2] }
  | _ => none }
def CheckApartWrongFalsely : Prop := checkApartRow.holds Try.pinned (OpenSpec.ofChange checkApartWrong)

/- THE SECOND FORM. 'bulk': how many values and letters a reading holds, each counted each time it is reached (what is shared counts as often as it is met; a slice's spare places count too). A statement '..UptoSaid' is the law's where the arguments, and the package variables that the reading takes, are together of bulk at most 1048576: NARROWER than '..Said'. Prove '..Said' where nothing that the law and all that it calls make is longer than what came in: it says more and counts as full. Else prove '..UptoSaid'. A law counts once. -/
mutual
def uptoBulk {H : Type} : DataW H → Nat
  | .lit (.string bytes) => bytes.length + 1
  | .lit _ => 1
  | .nil => 1
  | .ptr d => uptoBulk d + 1
  | .slice elems spare => uptoBulkAll elems + uptoBulkAll spare + 1
  | .agg parts => uptoBulkAll parts + 1
  | .iface _ d => uptoBulk d + 1
  | .map entries => uptoBulkEntries entries + 1
  | .held _ => 1
def uptoBulkAll {H : Type} : List (DataW H) → Nat
  | [] => 0
  | d :: r => uptoBulk d + uptoBulkAll r
def uptoBulkEntries {H : Type} : List (Lit × DataW H) → Nat
  | [] => 0
  | x :: r => uptoBulkEntry x + uptoBulkEntries r
def uptoBulkEntry {H : Type} : Lit × DataW H → Nat
  | (.string bytes, d) => bytes.length + uptoBulk d + 1
  | (_, d) => uptoBulk d + 1
 end
def uptoSmall : (H : Type) → List (DataW H) → Bool := fun _ ds => decide (uptoBulkAll ds ≤ 1048576)
def OpenSpec.upto (s : _root_.Go.ChangeSpec) : _root_.Go.OpenSpec := { _root_.Go.OpenSpec.ofChange s with cond := some uptoSmall }

/-- 'pentimentolaw19.CheckLooks', WHERE WHAT IT READS IS OF BULK AT MOST 1048576: true; the input reads as it did. -/
def checkLooksUptoRow : OpenClaim := { program := "ytmbbmombhkaeoaa", sum := "48e91afe3c61e7ef30b1d7d2b5afda54492782ea51472250d7a5c8eb54217630", func := "pentimento/pentimentolaw19.CheckLooks", spec := "checkLooks", unfollowed := true, recurses := true, apart := false, narrowed := true }
def CheckLooksUptoSaid : Prop := checkLooksUptoRow.holds Try.pinned (OpenSpec.upto checkLooksSpec)

/-- 'pentimentolaw19.CheckRepairs', WHERE WHAT IT READS IS OF BULK AT MOST 1048576: true; the input reads as it did. -/
def checkRepairsUptoRow : OpenClaim := { program := "ytmbbmombhkaeoaa", sum := "48e91afe3c61e7ef30b1d7d2b5afda54492782ea51472250d7a5c8eb54217630", func := "pentimento/pentimentolaw19.CheckRepairs", spec := "checkRepairs", unfollowed := true, recurses := true, apart := false, narrowed := true }
def CheckRepairsUptoSaid : Prop := checkRepairsUptoRow.holds Try.pinned (OpenSpec.upto checkRepairsSpec)

/-- 'pentimentolaw19.CheckEnds', WHERE WHAT IT READS IS OF BULK AT MOST 1048576: true; the input reads as it did. -/
def checkEndsUptoRow : OpenClaim := { program := "ytmbbmombhkaeoaa", sum := "48e91afe3c61e7ef30b1d7d2b5afda54492782ea51472250d7a5c8eb54217630", func := "pentimento/pentimentolaw19.CheckEnds", spec := "checkEnds", unfollowed := true, recurses := true, apart := false, narrowed := true }
def CheckEndsUptoSaid : Prop := checkEndsUptoRow.holds Try.pinned (OpenSpec.upto checkEndsSpec)

/-- 'pentimentolaw19.CheckFine', WHERE WHAT IT READS IS OF BULK AT MOST 1048576: true; the input reads as it did. -/
def checkFineUptoRow : OpenClaim := { program := "ytmbbmombhkaeoaa", sum := "48e91afe3c61e7ef30b1d7d2b5afda54492782ea51472250d7a5c8eb54217630", func := "pentimento/pentimentolaw19.CheckFine", spec := "checkFine", unfollowed := true, recurses := true, apart := false, narrowed := true }
def CheckFineUptoSaid : Prop := checkFineUptoRow.holds Try.pinned (OpenSpec.upto checkFineSpec)

/-- 'pentimentolaw19.CheckApart', WHERE WHAT IT READS IS OF BULK AT MOST 1048576: true; the input reads as it did. -/
def checkApartUptoRow : OpenClaim := { program := "ytmbbmombhkaeoaa", sum := "48e91afe3c61e7ef30b1d7d2b5afda54492782ea51472250d7a5c8eb54217630", func := "pentimento/pentimentolaw19.CheckApart", spec := "checkApart", unfollowed := true, recurses := true, apart := false, narrowed := true }
def CheckApartUptoSaid : Prop := checkApartUptoRow.holds Try.pinned (OpenSpec.upto checkApartSpec)

end Rows
end Go.Proofs.Ytmbbmombhkaeoaa
