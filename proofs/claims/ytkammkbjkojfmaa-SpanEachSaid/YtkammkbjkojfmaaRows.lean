/-
  No cell of these rows narrows 'for every input' (looked for: loops, veiled, ifaces, maps, wideKeys, modest, calm, conditions, laid).
  DERIVED. THE GIVEN ROWS OF THIS SEAT. 8 by the template 'for every input the law returns true; each argument reads behind the call as it read before'; 0 by the template 'total and deterministic' (their statements: YtkammkbjkojfmaaTotals.lean).
  GIVEN WITH THE SEED: the statements are not yours to turn. If you find one false, say at which input.
  Laid BY PROGRAM, IN A SANDBOX (cutbox-rows.mjs): the forced cells as the released guide's own fill.sh prints them over the translation 99e94b924204eb14… (all of the seat's roots in one cut). By AI agents, Wed Nov 11 2026. No macro, syntax, notation, axiom, sorry.
-/
import Derived.Test.YtkammkbjkojfmaaChecked
import GoSem.Claim
import GoSem.ClaimJoined
import GoSem.ClaimMapViews
import Derived.JoinedTies
import Derived.KernelRfl
namespace Go.Proofs.Ytkammkbjkojfmaa
/- THE CELL 'sum', in the pinned program and in every row, IS THE sha256 OF THE DUMP (.gsa) THAT YtkammkbjkojfmaaProg.lean LOADS. Nothing in Lean hashes anything: it is a label: what it is worth is what the hold of that sum in a sandbox is worth. -/
noncomputable def Try.pinned : Pinned := { name := "ytkammkbjkojfmaa", sum := "99e94b924204eb147fb4c82e7162b881074c627128cbbc79085b20af426b56f2", checked := Try.checked }
namespace Rows
def none {H : Type} : Left H := { results := [], args := [] }

/-- 'pentimentolaw09.SpanCuts': WHATEVER THE INPUT: true; the input reads as it did. -/
def spanCutsSpec : ChangeSpec := { name := "spanCuts", fn := fun _ => fun
  | [d1, d2, d3] => { results := [.lit (.bool true)], args := [d1, d2, d3] }
  | _ => none }
def spanCutsRow : OpenClaim := { program := "ytkammkbjkojfmaa", sum := "99e94b924204eb147fb4c82e7162b881074c627128cbbc79085b20af426b56f2", func := "pentimento/pentimentolaw09.SpanCuts", spec := "spanCuts", unfollowed := true, recurses := true, apart := false }
def SpanCutsSaid : Prop := spanCutsRow.holds Try.pinned (OpenSpec.ofChange spanCutsSpec)

/-- ITS FALSE NEIGHBOUR: 'it returns false'. Refute it at one input. -/
def spanCutsWrong : ChangeSpec := { name := "spanCuts", fn := fun _ => fun
  | [d1, d2, d3] => { results := [.lit (.bool false)], args := [d1, d2, d3] }
  | _ => none }
def SpanCutsWrongFalsely : Prop := spanCutsRow.holds Try.pinned (OpenSpec.ofChange spanCutsWrong)

/-- 'pentimentolaw09.SpanOver': WHATEVER THE INPUT: true; the input reads as it did. -/
def spanOverSpec : ChangeSpec := { name := "spanOver", fn := fun _ => fun
  | [d1, d2] => { results := [.lit (.bool true)], args := [d1, d2] }
  | _ => none }
def spanOverRow : OpenClaim := { program := "ytkammkbjkojfmaa", sum := "99e94b924204eb147fb4c82e7162b881074c627128cbbc79085b20af426b56f2", func := "pentimento/pentimentolaw09.SpanOver", spec := "spanOver", unfollowed := true, recurses := true, apart := false }
def SpanOverSaid : Prop := spanOverRow.holds Try.pinned (OpenSpec.ofChange spanOverSpec)

/-- ITS FALSE NEIGHBOUR: 'it returns false'. Refute it at one input. -/
def spanOverWrong : ChangeSpec := { name := "spanOver", fn := fun _ => fun
  | [d1, d2] => { results := [.lit (.bool false)], args := [d1, d2] }
  | _ => none }
def SpanOverWrongFalsely : Prop := spanOverRow.holds Try.pinned (OpenSpec.ofChange spanOverWrong)

/-- 'pentimentolaw09.SpanEach': WHATEVER THE INPUT: true; the input reads as it did. -/
def spanEachSpec : ChangeSpec := { name := "spanEach", fn := fun _ => fun
  | [d1, d2, d3] => { results := [.lit (.bool true)], args := [d1, d2, d3] }
  | _ => none }
def spanEachRow : OpenClaim := { program := "ytkammkbjkojfmaa", sum := "99e94b924204eb147fb4c82e7162b881074c627128cbbc79085b20af426b56f2", func := "pentimento/pentimentolaw09.SpanEach", spec := "spanEach", unfollowed := true, recurses := true, apart := false }
def SpanEachSaid : Prop := spanEachRow.holds Try.pinned (OpenSpec.ofChange spanEachSpec)

/-- ITS FALSE NEIGHBOUR: 'it returns false'. Refute it at one input. -/
def spanEachWrong : ChangeSpec := { name := "spanEach", fn := fun _ => fun
  | [d1, d2, d3] => { results := [.lit (.bool false)], args := [d1, d2, d3] }
  | _ => none }
def SpanEachWrongFalsely : Prop := spanEachRow.holds Try.pinned (OpenSpec.ofChange spanEachWrong)

/-- 'pentimentolaw09.SpanThree': WHATEVER THE INPUT: true; the input reads as it did. -/
def spanThreeSpec : ChangeSpec := { name := "spanThree", fn := fun _ => fun
  | [d1, d2, d3] => { results := [.lit (.bool true)], args := [d1, d2, d3] }
  | _ => none }
def spanThreeRow : OpenClaim := { program := "ytkammkbjkojfmaa", sum := "99e94b924204eb147fb4c82e7162b881074c627128cbbc79085b20af426b56f2", func := "pentimento/pentimentolaw09.SpanThree", spec := "spanThree", unfollowed := true, recurses := true, apart := false }
def SpanThreeSaid : Prop := spanThreeRow.holds Try.pinned (OpenSpec.ofChange spanThreeSpec)

/-- ITS FALSE NEIGHBOUR: 'it returns false'. Refute it at one input. -/
def spanThreeWrong : ChangeSpec := { name := "spanThree", fn := fun _ => fun
  | [d1, d2, d3] => { results := [.lit (.bool false)], args := [d1, d2, d3] }
  | _ => none }
def SpanThreeWrongFalsely : Prop := spanThreeRow.holds Try.pinned (OpenSpec.ofChange spanThreeWrong)

/-- 'pentimentolaw09.SpanBack': WHATEVER THE INPUT: true; the input reads as it did. -/
def spanBackSpec : ChangeSpec := { name := "spanBack", fn := fun _ => fun
  | [d] => { results := [.lit (.bool true)], args := [d] }
  | _ => none }
def spanBackRow : OpenClaim := { program := "ytkammkbjkojfmaa", sum := "99e94b924204eb147fb4c82e7162b881074c627128cbbc79085b20af426b56f2", func := "pentimento/pentimentolaw09.SpanBack", spec := "spanBack", unfollowed := true, recurses := true, apart := false }
def SpanBackSaid : Prop := spanBackRow.holds Try.pinned (OpenSpec.ofChange spanBackSpec)

/-- ITS FALSE NEIGHBOUR: 'it returns false'. Refute it at one input. -/
def spanBackWrong : ChangeSpec := { name := "spanBack", fn := fun _ => fun
  | [d] => { results := [.lit (.bool false)], args := [d] }
  | _ => none }
def SpanBackWrongFalsely : Prop := spanBackRow.holds Try.pinned (OpenSpec.ofChange spanBackWrong)

/-- 'pentimentolaw09.SpanTwo': WHATEVER THE INPUT: true; the input reads as it did. -/
def spanTwoSpec : ChangeSpec := { name := "spanTwo", fn := fun _ => fun
  | [d1, d2] => { results := [.lit (.bool true)], args := [d1, d2] }
  | _ => none }
def spanTwoRow : OpenClaim := { program := "ytkammkbjkojfmaa", sum := "99e94b924204eb147fb4c82e7162b881074c627128cbbc79085b20af426b56f2", func := "pentimento/pentimentolaw09.SpanTwo", spec := "spanTwo", unfollowed := true, recurses := true, apart := false }
def SpanTwoSaid : Prop := spanTwoRow.holds Try.pinned (OpenSpec.ofChange spanTwoSpec)

/-- ITS FALSE NEIGHBOUR: 'it returns false'. Refute it at one input. -/
def spanTwoWrong : ChangeSpec := { name := "spanTwo", fn := fun _ => fun
  | [d1, d2] => { results := [.lit (.bool false)], args := [d1, d2] }
  | _ => none }
def SpanTwoWrongFalsely : Prop := spanTwoRow.holds Try.pinned (OpenSpec.ofChange spanTwoWrong)

/-- 'pentimentolaw09.SpanTotals': WHATEVER THE INPUT: true; the input reads as it did. -/
def spanTotalsSpec : ChangeSpec := { name := "spanTotals", fn := fun _ => fun
  | [d] => { results := [.lit (.bool true)], args := [d] }
  | _ => none }
def spanTotalsRow : OpenClaim := { program := "ytkammkbjkojfmaa", sum := "99e94b924204eb147fb4c82e7162b881074c627128cbbc79085b20af426b56f2", func := "pentimento/pentimentolaw09.SpanTotals", spec := "spanTotals", unfollowed := true, recurses := true, apart := false }
def SpanTotalsSaid : Prop := spanTotalsRow.holds Try.pinned (OpenSpec.ofChange spanTotalsSpec)

/-- ITS FALSE NEIGHBOUR: 'it returns false'. Refute it at one input. -/
def spanTotalsWrong : ChangeSpec := { name := "spanTotals", fn := fun _ => fun
  | [d] => { results := [.lit (.bool false)], args := [d] }
  | _ => none }
def SpanTotalsWrongFalsely : Prop := spanTotalsRow.holds Try.pinned (OpenSpec.ofChange spanTotalsWrong)

/-- 'pentimentolaw09.SpanKinds': WHATEVER THE INPUT: true; the input reads as it did. -/
def spanKindsSpec : ChangeSpec := { name := "spanKinds", fn := fun _ => fun
  | [d1, d2, d3] => { results := [.lit (.bool true)], args := [d1, d2, d3] }
  | _ => none }
def spanKindsRow : OpenClaim := { program := "ytkammkbjkojfmaa", sum := "99e94b924204eb147fb4c82e7162b881074c627128cbbc79085b20af426b56f2", func := "pentimento/pentimentolaw09.SpanKinds", spec := "spanKinds", unfollowed := true, recurses := true, apart := false }
def SpanKindsSaid : Prop := spanKindsRow.holds Try.pinned (OpenSpec.ofChange spanKindsSpec)

/-- ITS FALSE NEIGHBOUR: 'it returns false'. Refute it at one input. -/
def spanKindsWrong : ChangeSpec := { name := "spanKinds", fn := fun _ => fun
  | [d1, d2, d3] => { results := [.lit (.bool false)], args := [d1, d2, d3] }
  | _ => none }
def SpanKindsWrongFalsely : Prop := spanKindsRow.holds Try.pinned (OpenSpec.ofChange spanKindsWrong)

/- THE SECOND FORM. 'bulk': how many values and letters a reading holds, each counted each time it is reached (what is shared counts as often as it is met; a slice's spare places count too). A statement '..UptoSaid' is the law's where the arguments, and the package variables that the reading takes, are together of bulk at most 1048576: NARROWER than '..Said'. Prove '..Said' where nothing that the law and all that it calls make is longer than what came in: it says more and counts as full. Else prove '..UptoSaid'. A law counts once. -/
mutual
def uptoBulk {H : Type} : DataW H → Nat
  | .lit (.string bytes) => bytes.length + 1
  | .lit _ => 1
  | .nil => 1
  | .ptr d => uptoBulk d + 1
  | .slice elems spare => uptoBulkAll elems + uptoBulkAll spare + 1
  | .agg parts => uptoBulkAll parts + 1
  | .iface _ d => uptoBulk d + 1
  | .map entries => uptoBulkEntries entries + 1
  | .held _ => 1
def uptoBulkAll {H : Type} : List (DataW H) → Nat
  | [] => 0
  | d :: r => uptoBulk d + uptoBulkAll r
def uptoBulkEntries {H : Type} : List (Lit × DataW H) → Nat
  | [] => 0
  | x :: r => uptoBulkEntry x + uptoBulkEntries r
def uptoBulkEntry {H : Type} : Lit × DataW H → Nat
  | (.string bytes, d) => bytes.length + uptoBulk d + 1
  | (_, d) => uptoBulk d + 1
 end
def uptoSmall : (H : Type) → List (DataW H) → Bool := fun _ ds => decide (uptoBulkAll ds ≤ 1048576)
def OpenSpec.upto (s : _root_.Go.ChangeSpec) : _root_.Go.OpenSpec := { _root_.Go.OpenSpec.ofChange s with cond := some uptoSmall }

/-- 'pentimentolaw09.SpanCuts', WHERE WHAT IT READS IS OF BULK AT MOST 1048576: true; the input reads as it did. -/
def spanCutsUptoRow : OpenClaim := { program := "ytkammkbjkojfmaa", sum := "99e94b924204eb147fb4c82e7162b881074c627128cbbc79085b20af426b56f2", func := "pentimento/pentimentolaw09.SpanCuts", spec := "spanCuts", unfollowed := true, recurses := true, apart := false, narrowed := true }
def SpanCutsUptoSaid : Prop := spanCutsUptoRow.holds Try.pinned (OpenSpec.upto spanCutsSpec)

/-- 'pentimentolaw09.SpanOver', WHERE WHAT IT READS IS OF BULK AT MOST 1048576: true; the input reads as it did. -/
def spanOverUptoRow : OpenClaim := { program := "ytkammkbjkojfmaa", sum := "99e94b924204eb147fb4c82e7162b881074c627128cbbc79085b20af426b56f2", func := "pentimento/pentimentolaw09.SpanOver", spec := "spanOver", unfollowed := true, recurses := true, apart := false, narrowed := true }
def SpanOverUptoSaid : Prop := spanOverUptoRow.holds Try.pinned (OpenSpec.upto spanOverSpec)

/-- 'pentimentolaw09.SpanEach', WHERE WHAT IT READS IS OF BULK AT MOST 1048576: true; the input reads as it did. -/
def spanEachUptoRow : OpenClaim := { program := "ytkammkbjkojfmaa", sum := "99e94b924204eb147fb4c82e7162b881074c627128cbbc79085b20af426b56f2", func := "pentimento/pentimentolaw09.SpanEach", spec := "spanEach", unfollowed := true, recurses := true, apart := false, narrowed := true }
def SpanEachUptoSaid : Prop := spanEachUptoRow.holds Try.pinned (OpenSpec.upto spanEachSpec)

/-- 'pentimentolaw09.SpanThree', WHERE WHAT IT READS IS OF BULK AT MOST 1048576: true; the input reads as it did. -/
def spanThreeUptoRow : OpenClaim := { program := "ytkammkbjkojfmaa", sum := "99e94b924204eb147fb4c82e7162b881074c627128cbbc79085b20af426b56f2", func := "pentimento/pentimentolaw09.SpanThree", spec := "spanThree", unfollowed := true, recurses := true, apart := false, narrowed := true }
def SpanThreeUptoSaid : Prop := spanThreeUptoRow.holds Try.pinned (OpenSpec.upto spanThreeSpec)

/-- 'pentimentolaw09.SpanBack', WHERE WHAT IT READS IS OF BULK AT MOST 1048576: true; the input reads as it did. -/
def spanBackUptoRow : OpenClaim := { program := "ytkammkbjkojfmaa", sum := "99e94b924204eb147fb4c82e7162b881074c627128cbbc79085b20af426b56f2", func := "pentimento/pentimentolaw09.SpanBack", spec := "spanBack", unfollowed := true, recurses := true, apart := false, narrowed := true }
def SpanBackUptoSaid : Prop := spanBackUptoRow.holds Try.pinned (OpenSpec.upto spanBackSpec)

/-- 'pentimentolaw09.SpanTwo', WHERE WHAT IT READS IS OF BULK AT MOST 1048576: true; the input reads as it did. -/
def spanTwoUptoRow : OpenClaim := { program := "ytkammkbjkojfmaa", sum := "99e94b924204eb147fb4c82e7162b881074c627128cbbc79085b20af426b56f2", func := "pentimento/pentimentolaw09.SpanTwo", spec := "spanTwo", unfollowed := true, recurses := true, apart := false, narrowed := true }
def SpanTwoUptoSaid : Prop := spanTwoUptoRow.holds Try.pinned (OpenSpec.upto spanTwoSpec)

/-- 'pentimentolaw09.SpanTotals', WHERE WHAT IT READS IS OF BULK AT MOST 1048576: true; the input reads as it did. -/
def spanTotalsUptoRow : OpenClaim := { program := "ytkammkbjkojfmaa", sum := "99e94b924204eb147fb4c82e7162b881074c627128cbbc79085b20af426b56f2", func := "pentimento/pentimentolaw09.SpanTotals", spec := "spanTotals", unfollowed := true, recurses := true, apart := false, narrowed := true }
def SpanTotalsUptoSaid : Prop := spanTotalsUptoRow.holds Try.pinned (OpenSpec.upto spanTotalsSpec)

/-- 'pentimentolaw09.SpanKinds', WHERE WHAT IT READS IS OF BULK AT MOST 1048576: true; the input reads as it did. -/
def spanKindsUptoRow : OpenClaim := { program := "ytkammkbjkojfmaa", sum := "99e94b924204eb147fb4c82e7162b881074c627128cbbc79085b20af426b56f2", func := "pentimento/pentimentolaw09.SpanKinds", spec := "spanKinds", unfollowed := true, recurses := true, apart := false, narrowed := true }
def SpanKindsUptoSaid : Prop := spanKindsUptoRow.holds Try.pinned (OpenSpec.upto spanKindsSpec)

end Rows
end Go.Proofs.Ytkammkbjkojfmaa
