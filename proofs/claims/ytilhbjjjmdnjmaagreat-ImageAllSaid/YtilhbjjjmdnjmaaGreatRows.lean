/-
  No cell of these rows narrows 'for every input' (looked for: loops, veiled, ifaces, maps, wideKeys, modest, calm, conditions, laid).
  DERIVED. THE GIVEN ROWS OF THIS SEAT. 2 by the template 'for every input the law returns true; each argument reads behind the call as it read before'; 0 by the template 'total and deterministic' (their statements: YtilhbjjjmdnjmaaGreatTotals.lean).
  GIVEN WITH THE SEED: the statements are not yours to turn. If you find one false, say at which input.
  Laid BY PROGRAM, IN A SANDBOX (cutbox-rows.mjs): the forced cells as the released guide's own fill.sh prints them over the translation 0811cb2bb0323620… (all of the seat's roots in one cut). By AI agents, Wed Nov 11 2026. No macro, syntax, notation, axiom, sorry.
-/
import Derived.Test.YtilhbjjjmdnjmaaGreatChecked
import GoSem.Claim
import GoSem.ClaimJoined
import GoSem.ClaimMapViews
import Derived.JoinedTies
import Derived.KernelRfl
namespace Go.Proofs.YtilhbjjjmdnjmaaGreat
/- THE CELL 'sum', in the pinned program and in every row, IS THE sha256 OF THE DUMP (.gsa) THAT YtilhbjjjmdnjmaaGreatProg.lean LOADS. Nothing in Lean hashes anything: it is a label: what it is worth is what the hold of that sum in a sandbox is worth. -/
noncomputable def Tryz.pinned : Pinned := { name := "ytilhbjjjmdnjmaagreat", sum := "0811cb2bb0323620fed29e71df8b5a50b771c544cb3d14687d466c1a1145c98b", checked := Tryz.checked }
namespace Rows
def none {H : Type} : Left H := { results := [], args := [] }

/-- 'pentimentolaw12.ImageAll': WHATEVER THE INPUT: true; the input reads as it did. -/
def imageAllSpec : ChangeSpec := { name := "imageAll", fn := fun _ => fun
  | [d1, d2, d3] => { results := [.lit (.bool true)], args := [d1, d2, d3] }
  | _ => none }
def imageAllRow : OpenClaim := { program := "ytilhbjjjmdnjmaagreat", sum := "0811cb2bb0323620fed29e71df8b5a50b771c544cb3d14687d466c1a1145c98b", func := "pentimento/pentimentolaw12.ImageAll", spec := "imageAll", inPlace := ["maps.clone"], unfollowed := true, recurses := true, apart := false }
def ImageAllSaid : Prop := imageAllRow.holds Tryz.pinned (OpenSpec.ofChange imageAllSpec)

/-- ITS FALSE NEIGHBOUR: 'it returns false'. Refute it at one input. -/
def imageAllWrong : ChangeSpec := { name := "imageAll", fn := fun _ => fun
  | [d1, d2, d3] => { results := [.lit (.bool false)], args := [d1, d2, d3] }
  | _ => none }
def ImageAllWrongFalsely : Prop := imageAllRow.holds Tryz.pinned (OpenSpec.ofChange imageAllWrong)

/-- 'pentimentolaw19.CheckImage': WHATEVER THE INPUT: true; the input reads as it did. -/
def checkImageSpec : ChangeSpec := { name := "checkImage", fn := fun _ => fun
  | [d1, d2] => { results := [.lit (.bool true)], args := [d1, d2] }
  | _ => none }
def checkImageRow : OpenClaim := { program := "ytilhbjjjmdnjmaagreat", sum := "0811cb2bb0323620fed29e71df8b5a50b771c544cb3d14687d466c1a1145c98b", func := "pentimento/pentimentolaw19.CheckImage", spec := "checkImage", inPlace := ["maps.clone"], unfollowed := true, recurses := true, apart := false }
def CheckImageSaid : Prop := checkImageRow.holds Tryz.pinned (OpenSpec.ofChange checkImageSpec)

/-- ITS FALSE NEIGHBOUR: 'it returns false'. Refute it at one input. -/
def checkImageWrong : ChangeSpec := { name := "checkImage", fn := fun _ => fun
  | [d1, d2] => { results := [.lit (.bool false)], args := [d1, d2] }
  | _ => none }
def CheckImageWrongFalsely : Prop := checkImageRow.holds Tryz.pinned (OpenSpec.ofChange checkImageWrong)

/- THE SECOND FORM. 'bulk': how many values and letters a reading holds, each counted each time it is reached (what is shared counts as often as it is met; a slice's spare places count too). A statement '..UptoSaid' is the law's where the arguments, and the package variables that the reading takes, are together of bulk at most 1048576: NARROWER than '..Said'. Prove '..Said' where nothing that the law and all that it calls make is longer than what came in: it says more and counts as full. Else prove '..UptoSaid'. A law counts once. -/
mutual
def uptoBulk {H : Type} : DataW H → Nat
  | .lit (.string bytes) => bytes.length + 1
  | .lit _ => 1
  | .nil => 1
  | .ptr d => uptoBulk d + 1
  | .slice elems spare => uptoBulkAll elems + uptoBulkAll spare + 1
  | .agg parts => uptoBulkAll parts + 1
  | .iface _ d => uptoBulk d + 1
  | .map entries => uptoBulkEntries entries + 1
  | .held _ => 1
def uptoBulkAll {H : Type} : List (DataW H) → Nat
  | [] => 0
  | d :: r => uptoBulk d + uptoBulkAll r
def uptoBulkEntries {H : Type} : List (Lit × DataW H) → Nat
  | [] => 0
  | x :: r => uptoBulkEntry x + uptoBulkEntries r
def uptoBulkEntry {H : Type} : Lit × DataW H → Nat
  | (.string bytes, d) => bytes.length + uptoBulk d + 1
  | (_, d) => uptoBulk d + 1
 end
def uptoSmall : (H : Type) → List (DataW H) → Bool := fun _ ds => decide (uptoBulkAll ds ≤ 1048576)
def OpenSpec.upto (s : _root_.Go.ChangeSpec) : _root_.Go.OpenSpec := { _root_.Go.OpenSpec.ofChange s with cond := some uptoSmall }

/-- 'pentimentolaw12.ImageAll', WHERE WHAT IT READS IS OF BULK AT MOST 1048576: true; the input reads as it did. -/
def imageAllUptoRow : OpenClaim := { program := "ytilhbjjjmdnjmaagreat", sum := "0811cb2bb0323620fed29e71df8b5a50b771c544cb3d14687d466c1a1145c98b", func := "pentimento/pentimentolaw12.ImageAll", spec := "imageAll", inPlace := ["maps.clone"], unfollowed := true, recurses := true, apart := false, narrowed := true }
def ImageAllUptoSaid : Prop := imageAllUptoRow.holds Tryz.pinned (OpenSpec.upto imageAllSpec)

/-- 'pentimentolaw19.CheckImage', WHERE WHAT IT READS IS OF BULK AT MOST 1048576: true; the input reads as it did. -/
def checkImageUptoRow : OpenClaim := { program := "ytilhbjjjmdnjmaagreat", sum := "0811cb2bb0323620fed29e71df8b5a50b771c544cb3d14687d466c1a1145c98b", func := "pentimento/pentimentolaw19.CheckImage", spec := "checkImage", inPlace := ["maps.clone"], unfollowed := true, recurses := true, apart := false, narrowed := true }
def CheckImageUptoSaid : Prop := checkImageUptoRow.holds Tryz.pinned (OpenSpec.upto checkImageSpec)

end Rows
end Go.Proofs.YtilhbjjjmdnjmaaGreat
