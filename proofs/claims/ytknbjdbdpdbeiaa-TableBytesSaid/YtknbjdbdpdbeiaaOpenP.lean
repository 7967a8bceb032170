/-
  Arguments of this program's types, opened.
-/
import Derived.Test.YtknbjdbdpdbeiaaOpen3
import Derived.Test.YtknbjdbdpdbeiaaRows
namespace Go.Proofs.Ytknbjdbdpdbeiaa
open Go.RowKit Go.ChangeShapes Go.WideShapes Go.ChangeAt Go.Deep
section
variable {H : Type} {enc : TypeId × Value → H} {w : World} {r : Reach} {base : Nat} {spare : Nat → Bool} {held : Bool} {v : Value} {d : DataW H} {p : List MemPlace}
set_option maxRecDepth 100000 in
theorem in_int (hok : Value.okWide Try.prog w r base 3 v) (h : DataW.Trod enc Try.prog w 0 spare held 3 v d p) : ∃ n, v = .int .i64 n ∧ wfI n := by
  obtain ⟨n, rfl, _, _, hw⟩ := open_int Try.underlying3 hok h
  exact ⟨n, rfl, wfI_of hw⟩
set_option maxRecDepth 100000 in
theorem in_ops (hok : Value.okWide Try.prog w r base 22 v) (h : DataW.Trod enc Try.prog w 0 spare held 22 v d p) : ∃ l, SlO w v l ∧ ∀ x ∈ l, wfO x :=
  open_SlF (k := 5) opC wfO (fun _ => rfl) Try.underlying22 (by kernel_rfl) (by decide) (fun n cs y h => el_op Try.underlying34 Try.underlying32 Try.underlying3 Try.underlying4 (by kernel_rfl) (by kernel_rfl) (by kernel_rfl) (by kernel_rfl) h) (okWide_slice Try.underlying22 hok) h
set_option maxRecDepth 100000 in
theorem in_op (hok : Value.okWide Try.prog w r base 34 v) (h : DataW.Trod enc Try.prog w 0 spare held 34 v d p) : ∃ o, v = opV o ∧ wfO o := by
  obtain ⟨cs, rfl, _⟩ := okWide_struct Try.underlying34 hok
  obtain ⟨m, hm⟩ := h
  obtain ⟨o, ho, hw⟩ := el_op Try.underlying34 Try.underlying32 Try.underlying3 Try.underlying4 (by kernel_rfl) (by kernel_rfl) (by kernel_rfl) (by kernel_rfl) hm
  refine ⟨o, ?_, hw⟩
  obtain ⟨cs⟩ := cs
  simp only [Value.cells] at ho
  rw [ho]
def partC (o : Int × Int × Int) : List Value := [.int .i64 o.1, .int .i64 o.2.1, .int .i64 o.2.2]
set_option maxRecDepth 100000 in
theorem in_part (hok : Value.okWide Try.prog w r base 56 v) (h : DataW.Trod enc Try.prog w 0 spare held 56 v d p) : ∃ a b c, v = .agg #[.int .i64 a, .int .i64 b, .int .i64 c] ∧ wfI a ∧ wfI b ∧ wfI c := by
  obtain ⟨cs, rfl, _⟩ := okWide_struct Try.underlying56 hok
  obtain ⟨m, hm⟩ := h
  obtain ⟨xs, m, _, _, hl, hxl, hf⟩ := DataW.trod_struct Try.underlying56 hm
  obtain ⟨cs⟩ := cs
  simp only [Value.cells] at hl hf
  have h3 : Try.prog.cellsOf 56 = 3 := by kernel_rfl
  rw [h3] at hl
  match cs, hl with
  | [c0, c1, c2], _ =>
    have h0 : DataW.trod enc Try.prog w 0 spare held m 3 (List.take 1 (List.drop 0 [c0, c1, c2])) = xs[0]? := hf 0 _ rfl
    have h1 : DataW.trod enc Try.prog w 0 spare held m 3 (List.take 1 (List.drop 1 [c0, c1, c2])) = xs[1]? := hf 1 _ rfl
    have h2 : DataW.trod enc Try.prog w 0 spare held m 3 (List.take 1 (List.drop 2 [c0, c1, c2])) = xs[2]? := hf 2 _ rfl
    obtain ⟨y0, e0⟩ : ∃ y0, xs[0]? = some y0 := ⟨_, List.getElem?_eq_getElem (by rw [hxl]; decide)⟩
    obtain ⟨y1, e1⟩ : ∃ y1, xs[1]? = some y1 := ⟨_, List.getElem?_eq_getElem (by rw [hxl]; decide)⟩
    obtain ⟨y2, e2⟩ : ∃ y2, xs[2]? = some y2 := ⟨_, List.getElem?_eq_getElem (by rw [hxl]; decide)⟩
    obtain ⟨a, ha, wa⟩ := el_int Try.underlying3 (h0.trans e0)
    obtain ⟨b, hb, wb⟩ := el_int Try.underlying3 (h1.trans e1)
    obtain ⟨c, hc, wc⟩ := el_int Try.underlying3 (h2.trans e2)
    cases ha; cases hb; cases hc
    exact ⟨a, b, c, rfl, wa, wb, wc⟩
end
end Go.Proofs.Ytknbjdbdpdbeiaa
