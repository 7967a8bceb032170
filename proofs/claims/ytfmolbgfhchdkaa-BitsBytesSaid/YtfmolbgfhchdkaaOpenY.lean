/-
  Arguments that are rows of bytes, or texts, opened.
-/
import Derived.Test.YtfmolbgfhchdkaaBy
import Derived.Test.YtfmolbgfhchdkaaOpenP
namespace Go.Proofs.Ytfmolbgfhchdkaa
open Go.RowKit Go.ChangeShapes Go.WideShapes Go.ChangeAt Go.Deep
section
variable {H : Type} {enc : TypeId × Value → H} {w : World} {r : Reach} {base : Nat} {spare : Nat → Bool} {held : Bool} {v : Value} {d : DataW H} {p : List MemPlace}
theorem el_byte {P : Program} {n : Nat} {cs : List Value} {y : DataW H × List MemPlace} {base : Nat} {spare : Nat → Bool} {held : Bool} {t : TypeId} (ht : P.underlying t = some (.int .u8)) (h : DataW.trod enc P w base spare held n t cs = some y) : ∃ b : UInt8, cs = byC b ∧ True := by
  obtain ⟨x, hx, _, hw⟩ := DataW.trod_int ht h
  have hb : 0 ≤ x ∧ x ≤ 255 := by simpa [Lit.wf, IntKind.min, IntKind.max, IntKind.signed, IntKind.bits] using hw
  refine ⟨UInt8.ofNat x.toNat, ?_, trivial⟩
  rw [hx]
  have : ((UInt8.ofNat x.toNat).toNat : Int) = x := by rw [ofNat_toNat]; omega
  rw [byC, this]
/-- a slice that came in has an address, or no room -/
theorem sl_ok {P : Program} {w : World} {spare : Nat → Bool} {held : Bool} {v : Value} {d : DataW H} {p : List MemPlace} {t e : TypeId} (ht : P.underlying t = some (.slice e)) (h : DataW.Trod enc P w 0 spare held t v d p) : okV v := by
  intro n cap hv
  obtain ⟨fuel, hf⟩ := h
  rcases open_slice ht hf with ⟨hcs, hx⟩ | ⟨a, len, cap', m, n', D, Pl, hcs, _, hl', hm, hmm, hx, hi⟩
  · rw [hv] at hcs
    simp [Value.cells] at hcs
    exact hcs.2
  · rw [hv] at hcs
    simp [Value.cells] at hcs
set_option maxRecDepth 100000 in
theorem in_bytes (hok : Value.okWide Try.prog w r base 53 v) (h : DataW.Trod enc Try.prog w 0 spare held 53 v d p) : ∃ l, SlY w v l ∧ okV v := by
  obtain ⟨l, hl, _⟩ := open_SlF (k := 1) byC (fun _ => True) (fun _ => rfl) Try.underlying53 (by kernel_rfl) (by decide) (fun n cs y h => el_byte Try.underlying5 h) (okWide_slice Try.underlying53 hok) h
  exact ⟨l, hl, sl_ok Try.underlying53 h⟩
end
end Go.Proofs.Ytfmolbgfhchdkaa
