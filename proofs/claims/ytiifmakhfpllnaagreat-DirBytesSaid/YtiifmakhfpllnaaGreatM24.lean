/-
  Arguments of package dir's laws, opened: calls, names.
-/
import Derived.Test.YtiifmakhfpllnaaGreatM15
import Derived.Test.YtiifmakhfpllnaaGreatM21
import Derived.ChangeMaps5
import Derived.Test.YtiifmakhfpllnaaGreatM09
namespace Go.Proofs.YtiifmakhfpllnaaGreat
open Go.RowKit Go.ChangeShapes Go.WideShapes Go.ChangeAt Go.Deep
section
variable {H : Type} {enc : TypeId × Value → H} {P : Program} {w : World} {base : Nat} {spare : Nat → Bool} {held : Bool} {n : Nat} {cs : List Value} {y : DataW H × List MemPlace}
theorem el_str {t : TypeId} (ht : P.underlying t = some .string) (h : DataW.trod enc P w base spare held n t cs = some y) : ∃ s : List UInt8, cs = [strL s] ∧ s.length ≤ maxLen := by
  obtain ⟨s, hs, _, hl⟩ := DataW.trod_string ht h
  exact ⟨s.data.toList, by rw [hs, str_eq], hl⟩
def opdFields (ti ts tb : TypeId) : Array Field := #[{ name := "Kind", type := ti, offset := 0, embedded := false, tag := "", pkgPath := "", byteOffset := 0 }, { name := "Name", type := ts, offset := 1, embedded := false, tag := "", pkgPath := "", byteOffset := 8 }, { name := "Other", type := ts, offset := 2, embedded := false, tag := "", pkgPath := "", byteOffset := 24 }, { name := "Sectors", type := ti, offset := 3, embedded := false, tag := "", pkgPath := "", byteOffset := 40 }, { name := "Grain", type := ti, offset := 4, embedded := false, tag := "", pkgPath := "", byteOffset := 48 }, { name := "From", type := ti, offset := 5, embedded := false, tag := "", pkgPath := "", byteOffset := 56 }, { name := "Long", type := ti, offset := 6, embedded := false, tag := "", pkgPath := "", byteOffset := 64 }, { name := "On", type := tb, offset := 7, embedded := false, tag := "", pkgPath := "", byteOffset := 72 }]
theorem el_opD {t ti ts tb : TypeId} (ht : P.underlying t = some (.struct (opdFields ti ts tb))) (hi : P.underlying ti = some (.int .i64)) (hs : P.underlying ts = some .string) (hb : P.underlying tb = some .bool) (hc : P.cellsOf t = 8) (hci : P.cellsOf ti = 1) (hcs : P.cellsOf ts = 1) (hcb : P.cellsOf tb = 1)
    (h : DataW.trod enc P w base spare held n t cs = some y) : ∃ o : OpD, cs = opdC o ∧ wfD o := by
  obtain ⟨xs, m, _, _, hl, hxl, hf⟩ := DataW.trod_struct ht h
  rw [hc] at hl
  match cs, hl with
  | [c0, c1, c2, c3, c4, c5, c6, c7], _ =>
    have h0 : DataW.trod enc P w base spare held m ti (List.take (P.cellsOf ti) (List.drop 0 [c0, c1, c2, c3, c4, c5, c6, c7])) = xs[0]? := hf 0 _ rfl
    rw [hci] at h0
    have h1 : DataW.trod enc P w base spare held m ts (List.take (P.cellsOf ts) (List.drop 1 [c0, c1, c2, c3, c4, c5, c6, c7])) = xs[1]? := hf 1 _ rfl
    rw [hcs] at h1
    have h2 : DataW.trod enc P w base spare held m ts (List.take (P.cellsOf ts) (List.drop 2 [c0, c1, c2, c3, c4, c5, c6, c7])) = xs[2]? := hf 2 _ rfl
    rw [hcs] at h2
    have h3 : DataW.trod enc P w base spare held m ti (List.take (P.cellsOf ti) (List.drop 3 [c0, c1, c2, c3, c4, c5, c6, c7])) = xs[3]? := hf 3 _ rfl
    rw [hci] at h3
    have h4 : DataW.trod enc P w base spare held m ti (List.take (P.cellsOf ti) (List.drop 4 [c0, c1, c2, c3, c4, c5, c6, c7])) = xs[4]? := hf 4 _ rfl
    rw [hci] at h4
    have h5 : DataW.trod enc P w base spare held m ti (List.take (P.cellsOf ti) (List.drop 5 [c0, c1, c2, c3, c4, c5, c6, c7])) = xs[5]? := hf 5 _ rfl
    rw [hci] at h5
    have h6 : DataW.trod enc P w base spare held m ti (List.take (P.cellsOf ti) (List.drop 6 [c0, c1, c2, c3, c4, c5, c6, c7])) = xs[6]? := hf 6 _ rfl
    rw [hci] at h6
    have h7 : DataW.trod enc P w base spare held m tb (List.take (P.cellsOf tb) (List.drop 7 [c0, c1, c2, c3, c4, c5, c6, c7])) = xs[7]? := hf 7 _ rfl
    rw [hcb] at h7
    obtain ⟨y0, e0⟩ : ∃ y0, xs[0]? = some y0 := ⟨_, List.getElem?_eq_getElem (by rw [hxl]; exact (by decide : (0 : Nat) < 8))⟩
    obtain ⟨y1, e1⟩ : ∃ y1, xs[1]? = some y1 := ⟨_, List.getElem?_eq_getElem (by rw [hxl]; exact (by decide : (1 : Nat) < 8))⟩
    obtain ⟨y2, e2⟩ : ∃ y2, xs[2]? = some y2 := ⟨_, List.getElem?_eq_getElem (by rw [hxl]; exact (by decide : (2 : Nat) < 8))⟩
    obtain ⟨y3, e3⟩ : ∃ y3, xs[3]? = some y3 := ⟨_, List.getElem?_eq_getElem (by rw [hxl]; exact (by decide : (3 : Nat) < 8))⟩
    obtain ⟨y4, e4⟩ : ∃ y4, xs[4]? = some y4 := ⟨_, List.getElem?_eq_getElem (by rw [hxl]; exact (by decide : (4 : Nat) < 8))⟩
    obtain ⟨y5, e5⟩ : ∃ y5, xs[5]? = some y5 := ⟨_, List.getElem?_eq_getElem (by rw [hxl]; exact (by decide : (5 : Nat) < 8))⟩
    obtain ⟨y6, e6⟩ : ∃ y6, xs[6]? = some y6 := ⟨_, List.getElem?_eq_getElem (by rw [hxl]; exact (by decide : (6 : Nat) < 8))⟩
    obtain ⟨y7, e7⟩ : ∃ y7, xs[7]? = some y7 := ⟨_, List.getElem?_eq_getElem (by rw [hxl]; exact (by decide : (7 : Nat) < 8))⟩
    obtain ⟨a0, q0, w0⟩ := el_int hi (h0.trans e0)
    obtain ⟨a1, q1, w1⟩ := el_str hs (h1.trans e1)
    obtain ⟨a2, q2, w2⟩ := el_str hs (h2.trans e2)
    obtain ⟨a3, q3, w3⟩ := el_int hi (h3.trans e3)
    obtain ⟨a4, q4, w4⟩ := el_int hi (h4.trans e4)
    obtain ⟨a5, q5, w5⟩ := el_int hi (h5.trans e5)
    obtain ⟨a6, q6, w6⟩ := el_int hi (h6.trans e6)
    obtain ⟨a7, q7⟩ := el_bool hb (h7.trans e7)
    cases q0; cases q1; cases q2; cases q3; cases q4; cases q5; cases q6; cases q7
    exact ⟨⟨a0, a1, a2, a3, a4, a5, a6, a7⟩, rfl, w0, w3, w4, w5, w6, w1, w2⟩
end
section
variable {H : Type} {enc : TypeId × Value → H} {w : World} {base : Nat} {r : Reach} {spare : Nat → Bool} {held : Bool} {v : Value} {d : DataW H} {p : List MemPlace}
set_option maxRecDepth 100000 in
theorem in_opsD (hok : Value.okWide Tryz.prog w r base 22 v) (h : DataW.Trod enc Tryz.prog w 0 spare held 22 v d p) : ∃ l, SlOD w v l ∧ ∀ x ∈ l, wfD x :=
  open_SlF (k := 8) opdC wfD (fun _ => rfl) Tryz.underlying22 (by kernel_rfl) (by decide) (fun n cs y h => el_opD Tryz.underlying36 Tryz.underlying3 Tryz.underlying9 Tryz.underlying4 (by kernel_rfl) (by kernel_rfl) (by kernel_rfl) (by kernel_rfl) h) (okWide_slice Tryz.underlying22 hok) h
set_option maxRecDepth 100000 in
theorem in_strD (hok : Value.okWide Tryz.prog w r base 9 v) (h : DataW.Trod enc Tryz.prog w 0 spare held 9 v d p) : ∃ s, v = strL s ∧ s.length ≤ maxLen := by
  obtain ⟨s, rfl, _, _, hw⟩ := Go.ChangeMaps.open_string Tryz.underlying9 hok h
  exact ⟨s.data.toList, str_eq _, hw⟩
end
end Go.Proofs.YtiifmakhfpllnaaGreat
