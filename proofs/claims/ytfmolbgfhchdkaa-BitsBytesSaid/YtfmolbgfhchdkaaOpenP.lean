/-
  Arguments of this program's types, opened.
-/
import Derived.Test.YtfmolbgfhchdkaaOpen3
import Derived.Test.YtfmolbgfhchdkaaRows
namespace Go.Proofs.Ytfmolbgfhchdkaa
open Go.RowKit Go.ChangeShapes Go.WideShapes Go.ChangeAt Go.Deep
section
variable {H : Type} {enc : TypeId × Value → H} {w : World} {r : Reach} {base : Nat} {spare : Nat → Bool} {held : Bool} {v : Value} {d : DataW H} {p : List MemPlace}
set_option maxRecDepth 100000 in
theorem in_int (hok : Value.okWide Try.prog w r base 3 v) (h : DataW.Trod enc Try.prog w 0 spare held 3 v d p) : ∃ n, v = .int .i64 n ∧ wfI n := by
  obtain ⟨n, rfl, _, _, hw⟩ := open_int Try.underlying3 hok h
  exact ⟨n, rfl, wfI_of hw⟩
set_option maxRecDepth 100000 in
theorem in_ops3 (hok : Value.okWide Try.prog w r base 22 v) (h : DataW.Trod enc Try.prog w 0 spare held 22 v d p) : ∃ l, SlP w v l ∧ ∀ x ∈ l, wf3 x :=
  open_SlF (k := 3) op3C wf3 (fun _ => rfl) Try.underlying22 (by kernel_rfl) (by decide) (fun n cs y h => el_op3 Try.underlying24 Try.underlying3 (by kernel_rfl) (by kernel_rfl) h) (okWide_slice Try.underlying22 hok) h
set_option maxRecDepth 100000 in
theorem in_op3 (hok : Value.okWide Try.prog w r base 24 v) (h : DataW.Trod enc Try.prog w 0 spare held 24 v d p) : ∃ a b c, v = .agg #[.int .i64 a, .int .i64 b, .int .i64 c] ∧ wf3 (a, b, c) := by
  obtain ⟨cs, rfl, _⟩ := okWide_struct Try.underlying24 hok
  obtain ⟨m, hm⟩ := h
  obtain ⟨o, ho, hw⟩ := el_op3 Try.underlying24 Try.underlying3 (by kernel_rfl) (by kernel_rfl) hm
  obtain ⟨a, b, c⟩ := o
  refine ⟨a, b, c, ?_, hw⟩
  obtain ⟨cs⟩ := cs
  simp only [Value.cells] at ho
  rw [ho]
set_option maxRecDepth 100000 in
theorem in_grains (hok : Value.okWide Try.prog w r base 40 v) (h : DataW.Trod enc Try.prog w 0 spare held 40 v d p) : ∃ a b, v = .agg #[.int .i64 a, .int .i64 b] ∧ wfI a ∧ wfI b := by
  obtain ⟨cs, rfl, _⟩ := okWide_struct Try.underlying40 hok
  obtain ⟨m, hm⟩ := h
  obtain ⟨a, b, ho, hw⟩ := el_grains Try.underlying40 Try.underlying3 (by kernel_rfl) (by kernel_rfl) hm
  refine ⟨a, b, ?_, hw⟩
  obtain ⟨cs⟩ := cs
  simp only [Value.cells] at ho
  rw [ho]
end
end Go.Proofs.Ytfmolbgfhchdkaa
