/-
  Arguments that are rows of extents, or of numbers, opened.
-/
import Derived.Test.YtkammkbjkojfmaaOpen3
import Derived.Test.YtkammkbjkojfmaaInts
import Derived.Test.YtkammkbjkojfmaaRows
namespace Go.Proofs.Ytkammkbjkojfmaa
open Go.RowKit Go.ChangeShapes Go.WideShapes Go.ChangeAt Go.Deep
section
variable {H : Type} {enc : TypeId × Value → H} {w : World} {r : Reach} {base : Nat} {spare : Nat → Bool} {held : Bool} {v : Value} {d : DataW H} {p : List MemPlace}
def extFields (ti : TypeId) : Array Field := #[{ name := "From", type := ti, offset := 0, embedded := false, tag := "", pkgPath := "", byteOffset := 0 }, { name := "Long", type := ti, offset := 1, embedded := false, tag := "", pkgPath := "", byteOffset := 8 }, { name := "Kind", type := ti, offset := 2, embedded := false, tag := "", pkgPath := "", byteOffset := 16 }]
theorem el_ext {P : Program} {n : Nat} {cs : List Value} {y : DataW H × List MemPlace} {base : Nat} {spare : Nat → Bool} {held : Bool} {t ti : TypeId} (ht : P.underlying t = some (.struct (extFields ti))) (hi : P.underlying ti = some (.int .i64)) (hc : P.cellsOf t = 3) (hci : P.cellsOf ti = 1)
    (h : DataW.trod enc P w base spare held n t cs = some y) : ∃ s : Op3, cs = op3C s ∧ wf3 s := by
  obtain ⟨xs, m, _, _, hl, hxl, hf⟩ := DataW.trod_struct ht h
  rw [hc] at hl
  match cs, hl with
  | [c0, c1, c2], _ =>
    have h0 : DataW.trod enc P w base spare held m ti (List.take (P.cellsOf ti) (List.drop 0 [c0, c1, c2])) = xs[0]? := hf 0 _ rfl
    have h1 : DataW.trod enc P w base spare held m ti (List.take (P.cellsOf ti) (List.drop 1 [c0, c1, c2])) = xs[1]? := hf 1 _ rfl
    have h2 : DataW.trod enc P w base spare held m ti (List.take (P.cellsOf ti) (List.drop 2 [c0, c1, c2])) = xs[2]? := hf 2 _ rfl
    rw [hci] at h0 h1 h2
    obtain ⟨y0, e0⟩ : ∃ y0, xs[0]? = some y0 := ⟨_, List.getElem?_eq_getElem (by rw [hxl]; exact (by decide : (0 : Nat) < 3))⟩
    obtain ⟨y1, e1⟩ : ∃ y1, xs[1]? = some y1 := ⟨_, List.getElem?_eq_getElem (by rw [hxl]; exact (by decide : (1 : Nat) < 3))⟩
    obtain ⟨y2, e2⟩ : ∃ y2, xs[2]? = some y2 := ⟨_, List.getElem?_eq_getElem (by rw [hxl]; exact (by decide : (2 : Nat) < 3))⟩
    obtain ⟨a, ha, wa⟩ := el_int hi (h0.trans e0)
    obtain ⟨b, hb', wb⟩ := el_int hi (h1.trans e1)
    obtain ⟨c, hc', wc⟩ := el_int hi (h2.trans e2)
    cases ha; cases hb'; cases hc'
    exact ⟨(a, b, c), rfl, wa, wb, wc⟩
/-- a slice that came in has an address, or no room -/
theorem slf_ok {P : Program} {w : World} {spare : Nat → Bool} {held : Bool} {v : Value} {d : DataW H} {p : List MemPlace} {t e : TypeId} (ht : P.underlying t = some (.slice e)) (h : DataW.Trod enc P w 0 spare held t v d p) : okV v := by
  intro n cap hv
  obtain ⟨fuel, hf⟩ := h
  rcases open_slice ht hf with ⟨hcs, hx⟩ | ⟨a, len, cap', m, n', D, Pl, hcs, _, hl', hm, hmm, hx, hi⟩
  · rw [hv] at hcs
    simp [Value.cells] at hcs
    exact hcs.2
  · rw [hv] at hcs
    simp [Value.cells] at hcs
set_option maxRecDepth 100000 in
theorem in_int (hok : Value.okWide Try.prog w r base 3 v) (h : DataW.Trod enc Try.prog w 0 spare held 3 v d p) : ∃ n, v = .int .i64 n ∧ wfI n := by
  obtain ⟨n, rfl, _, _, hw⟩ := open_int Try.underlying3 hok h
  exact ⟨n, rfl, wfI_of hw⟩
set_option maxRecDepth 100000 in
theorem in_exts (hok : Value.okWide Try.prog w r base 22 v) (h : DataW.Trod enc Try.prog w 0 spare held 22 v d p) : ∃ l, SlP w v l ∧ okV v := by
  obtain ⟨l, hl, _⟩ := open_SlF (k := 3) op3C wf3 (fun _ => rfl) Try.underlying22 (by kernel_rfl) (by decide) (fun n cs y h => el_ext Try.underlying38 Try.underlying3 (by kernel_rfl) (by kernel_rfl) h) (okWide_slice Try.underlying22 hok) h
  exact ⟨l, hl, slf_ok Try.underlying22 h⟩
set_option maxRecDepth 100000 in
theorem in_ints (hok : Value.okWide Try.prog w r base 27 v) (h : DataW.Trod enc Try.prog w 0 spare held 27 v d p) : ∃ l, SlI w v l := by
  obtain ⟨l, hl, _⟩ := open_SlF (k := 1) intC (fun _ => True) (fun _ => rfl) Try.underlying27 (by kernel_rfl) (by decide) (fun n cs y h => by obtain ⟨x, hx, _⟩ := el_int Try.underlying3 h; exact ⟨x, hx, trivial⟩) (okWide_slice Try.underlying27 hok) h
  exact ⟨l, hl⟩
end
end Go.Proofs.Ytkammkbjkojfmaa
