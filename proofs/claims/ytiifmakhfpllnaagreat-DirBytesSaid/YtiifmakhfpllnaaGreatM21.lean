/-
  Arguments that are calls of three numbers, or two numbers, opened: no program in sight.
-/
import Derived.Test.YtiifmakhfpllnaaGreatM15
import Derived.Test.YtiifmakhfpllnaaGreatM03
import Derived.SizedLaws
import Derived.Test.YtiifmakhfpllnaaGreatRows
namespace Go.Proofs.YtiifmakhfpllnaaGreat
open Go.RowKit Go.ChangeShapes Go.WideShapes Go.ChangeAt Go.Deep
section
variable {H : Type} {enc : TypeId × Value → H} {P : Program} {w : World} {base : Nat} {spare : Nat → Bool} {held : Bool} {n : Nat} {cs : List Value} {y : DataW H × List MemPlace}
def op3Fields (ti : TypeId) : Array Field := #[{ name := "Kind", type := ti, offset := 0, embedded := false, tag := "", pkgPath := "", byteOffset := 0 }, { name := "From", type := ti, offset := 1, embedded := false, tag := "", pkgPath := "", byteOffset := 8 }, { name := "Long", type := ti, offset := 2, embedded := false, tag := "", pkgPath := "", byteOffset := 16 }]
theorem el_op3 {t ti : TypeId} (ht : P.underlying t = some (.struct (op3Fields ti))) (hi : P.underlying ti = some (.int .i64)) (hc : P.cellsOf t = 3) (hci : P.cellsOf ti = 1)
    (h : DataW.trod enc P w base spare held n t cs = some y) : ∃ s : Op3, cs = op3C s ∧ wf3 s := by
  obtain ⟨xs, m, _, _, hl, hxl, hf⟩ := DataW.trod_struct ht h
  rw [hc] at hl
  match cs, hl with
  | [c0, c1, c2], _ =>
    have h0 : DataW.trod enc P w base spare held m ti (List.take (P.cellsOf ti) (List.drop 0 [c0, c1, c2])) = xs[0]? := hf 0 _ rfl
    have h1 : DataW.trod enc P w base spare held m ti (List.take (P.cellsOf ti) (List.drop 1 [c0, c1, c2])) = xs[1]? := hf 1 _ rfl
    have h2 : DataW.trod enc P w base spare held m ti (List.take (P.cellsOf ti) (List.drop 2 [c0, c1, c2])) = xs[2]? := hf 2 _ rfl
    rw [hci] at h0 h1 h2
    obtain ⟨y0, e0⟩ : ∃ y0, xs[0]? = some y0 := ⟨_, List.getElem?_eq_getElem (by rw [hxl]; exact (by decide : (0 : Nat) < 3))⟩
    obtain ⟨y1, e1⟩ : ∃ y1, xs[1]? = some y1 := ⟨_, List.getElem?_eq_getElem (by rw [hxl]; exact (by decide : (1 : Nat) < 3))⟩
    obtain ⟨y2, e2⟩ : ∃ y2, xs[2]? = some y2 := ⟨_, List.getElem?_eq_getElem (by rw [hxl]; exact (by decide : (2 : Nat) < 3))⟩
    obtain ⟨a, ha, wa⟩ := el_int hi (h0.trans e0)
    obtain ⟨b, hb', wb⟩ := el_int hi (h1.trans e1)
    obtain ⟨c, hc', wc⟩ := el_int hi (h2.trans e2)
    cases ha; cases hb'; cases hc'
    exact ⟨(a, b, c), rfl, wa, wb, wc⟩
def grFields (ti : TypeId) : Array Field := #[{ name := "A", type := ti, offset := 0, embedded := false, tag := "", pkgPath := "", byteOffset := 0 }, { name := "B", type := ti, offset := 1, embedded := false, tag := "", pkgPath := "", byteOffset := 8 }]
theorem el_grains {t ti : TypeId} (ht : P.underlying t = some (.struct (grFields ti))) (hi : P.underlying ti = some (.int .i64)) (hc : P.cellsOf t = 2) (hci : P.cellsOf ti = 1)
    (h : DataW.trod enc P w base spare held n t cs = some y) : ∃ a b : Int, cs = [.int .i64 a, .int .i64 b] ∧ wfI a ∧ wfI b := by
  obtain ⟨xs, m, _, _, hl, hxl, hf⟩ := DataW.trod_struct ht h
  rw [hc] at hl
  match cs, hl with
  | [c0, c1], _ =>
    have h0 : DataW.trod enc P w base spare held m ti (List.take (P.cellsOf ti) (List.drop 0 [c0, c1])) = xs[0]? := hf 0 _ rfl
    have h1 : DataW.trod enc P w base spare held m ti (List.take (P.cellsOf ti) (List.drop 1 [c0, c1])) = xs[1]? := hf 1 _ rfl
    rw [hci] at h0 h1
    obtain ⟨y0, e0⟩ : ∃ y0, xs[0]? = some y0 := ⟨_, List.getElem?_eq_getElem (by rw [hxl]; exact (by decide : (0 : Nat) < 2))⟩
    obtain ⟨y1, e1⟩ : ∃ y1, xs[1]? = some y1 := ⟨_, List.getElem?_eq_getElem (by rw [hxl]; exact (by decide : (1 : Nat) < 2))⟩
    obtain ⟨a, ha, wa⟩ := el_int hi (h0.trans e0)
    obtain ⟨b, hb', wb⟩ := el_int hi (h1.trans e1)
    cases ha; cases hb'
    exact ⟨a, b, rfl, wa, wb⟩
/-- how long the datum of a slice is -/
theorem slf_len {α : Type} {f : α → List Value} {t e : TypeId} {v : Value} {d : DataW H} {p : List MemPlace} (ht : P.underlying t = some (.slice e)) (h : DataW.Trod enc P w 0 spare held t v d p) {l : List α} (hl : SlF f w v l) :
    (d = .nil ∧ l = []) ∨ ∃ elems sp, d = .slice elems sp ∧ elems.length = l.length := by
  obtain ⟨a0, c0, rfl, _⟩ := hl.open
  obtain ⟨fuel, hf⟩ := h
  rcases open_slice ht hf with ⟨hcs, hx⟩ | ⟨a, len, cap, m, n, D, Pl, hcs, _, hl', hm, hmm, hx, hi⟩
  · simp [Value.cells] at hcs
    cases hx
    exact .inl ⟨rfl, by simpa using hcs.2.1⟩
  · simp [Value.cells] at hcs
    obtain ⟨rfl, rfl, rfl⟩ := hcs
    cases hx
    exact .inr ⟨_, _, rfl, by simp⟩
/-- .. and so how long the slice can be -/
theorem len_sized {α : Type} {l : List α} {ts : List TypeId} {ds : List (DataW H)} (h : (DataW.weightsEach P ts ds).all (· ≤ reachBytes) = true) {j : Nat} {t e : TypeId} {d : DataW H} (ht : ts[j]? = some t) (hd : ds[j]? = some d) (hu : P.underlying t = some (.slice e))
    {k : Nat} (hb : P.bytesOf e = k) (hz : (d = .nil ∧ l = []) ∨ ∃ elems sp, d = .slice elems sp ∧ elems.length = l.length) : l.length * k ≤ 140737488351232 := by
  rcases hz with ⟨_, rfl⟩ | ⟨elems, sp, rfl, hl⟩
  · simp
  · have := sized_slice h ht hd hu
    rw [hb, Nat.add_mul, hl] at this
    have h2 : reachBytes = 140737488351232 := by decide
    omega
end
end Go.Proofs.YtiifmakhfpllnaaGreat

namespace Go.Proofs.YtiifmakhfpllnaaGreat
open Go.RowKit Go.ChangeShapes Go.WideShapes Go.ChangeAt Go.Deep
section
variable {H : Type} {enc : TypeId × Value → H} {w : World} {r : Reach} {base : Nat} {spare : Nat → Bool} {held : Bool} {v : Value} {d : DataW H} {p : List MemPlace}
set_option maxRecDepth 100000 in
theorem in_int (hok : Value.okWide Tryz.prog w r base 3 v) (h : DataW.Trod enc Tryz.prog w 0 spare held 3 v d p) : ∃ n, v = .int .i64 n ∧ wfI n := by
  obtain ⟨n, rfl, _, _, hw⟩ := open_int Tryz.underlying3 hok h
  exact ⟨n, rfl, wfI_of hw⟩
end
end Go.Proofs.YtiifmakhfpllnaaGreat
