/-
  Arguments of this program's types, opened.
-/
import Derived.Test.YtilhbjjjmdnjmaaGreatM38
import Derived.Test.YtilhbjjjmdnjmaaGreatRows
import Derived.Test.YtilhbjjjmdnjmaaGreatM03
import Derived.Test.YtilhbjjjmdnjmaaGreatM33
import Derived.Test.YtilhbjjjmdnjmaaGreatM21
import Derived.ChangeMaps5
namespace Go.Proofs.YtilhbjjjmdnjmaaGreat
open Go.RowKit Go.ChangeShapes Go.WideShapes Go.ChangeAt Go.Deep
section
variable {H : Type} {enc : TypeId × Value → H} {w : World} {r : Reach} {base : Nat} {spare : Nat → Bool} {held : Bool} {v : Value} {d : DataW H} {p : List MemPlace}
set_option maxRecDepth 100000 in
theorem in_int (hok : Value.okWide Tryz.prog w r base 3 v) (h : DataW.Trod enc Tryz.prog w 0 spare held 3 v d p) : ∃ n, v = .int .i64 n ∧ wfI n := by
  obtain ⟨n, rfl, _, _, hw⟩ := open_int Tryz.underlying3 hok h
  exact ⟨n, rfl, wfI_of hw⟩
end
end Go.Proofs.YtilhbjjjmdnjmaaGreat

namespace Go.Proofs.YtilhbjjjmdnjmaaGreat
open Go.RowKit Go.ChangeShapes Go.WideShapes Go.ChangeAt Go.Deep
section
variable {H : Type} {enc : TypeId × Value → H} {w : World} {r : Reach} {base : Nat} {spare : Nat → Bool} {held : Bool} {v : Value} {d : DataW H} {p : List MemPlace}
theorem el_byte {P : Program} {n : Nat} {cs : List Value} {y : DataW H × List MemPlace} {base : Nat} {spare : Nat → Bool} {held : Bool} {t : TypeId} (ht : P.underlying t = some (.int .u8)) (h : DataW.trod enc P w base spare held n t cs = some y) : ∃ b : UInt8, cs = byC b ∧ True := by
  obtain ⟨x, hx, _, hw⟩ := DataW.trod_int ht h
  have hb : 0 ≤ x ∧ x ≤ 255 := by simpa [Lit.wf, IntKind.min, IntKind.max, IntKind.signed, IntKind.bits] using hw
  refine ⟨UInt8.ofNat x.toNat, ?_, trivial⟩
  rw [hx]
  have : ((UInt8.ofNat x.toNat).toNat : Int) = x := by rw [ofNat_toNat]; omega
  rw [byC, this]
/-- a slice that came in has an address, or no room -/
theorem sl_ok {P : Program} {w : World} {spare : Nat → Bool} {held : Bool} {v : Value} {d : DataW H} {p : List MemPlace} {t e : TypeId} (ht : P.underlying t = some (.slice e)) (h : DataW.Trod enc P w 0 spare held t v d p) : okV v := by
  intro n cap hv
  obtain ⟨fuel, hf⟩ := h
  rcases open_slice ht hf with ⟨hcs, hx⟩ | ⟨a, len, cap', m, n', D, Pl, hcs, _, hl', hm, hmm, hx, hi⟩
  · rw [hv] at hcs
    simp [Value.cells] at hcs
    exact hcs.2
  · rw [hv] at hcs
    simp [Value.cells] at hcs
set_option maxRecDepth 100000 in
theorem in_bytes (hok : Value.okWide Tryz.prog w r base 40 v) (h : DataW.Trod enc Tryz.prog w 0 spare held 40 v d p) : ∃ l, SlY w v l ∧ okV v := by
  obtain ⟨l, hl, _⟩ := open_SlF (k := 1) byC (fun _ => True) (fun _ => rfl) Tryz.underlying40 (by kernel_rfl) (by decide) (fun n cs y h => el_byte Tryz.underlying5 h) (okWide_slice Tryz.underlying40 hok) h
  exact ⟨l, hl, sl_ok Tryz.underlying40 h⟩
end
end Go.Proofs.YtilhbjjjmdnjmaaGreat

namespace Go.Proofs.YtilhbjjjmdnjmaaGreat
open Go.RowKit Go.ChangeShapes Go.WideShapes Go.ChangeAt Go.Deep
section
variable {H : Type} {enc : TypeId × Value → H} {w : World} {r : Reach} {base : Nat} {spare : Nat → Bool} {held : Bool} {v : Value} {d : DataW H} {p : List MemPlace}
theorem trodI_slice {P : Program} {t e : TypeId} {n : Nat} {u : Value} {y : DataW H × List MemPlace} (ht : P.underlying t = some (.slice e)) (h : DataW.trod enc P w 0 spare held n t [u] = some y) : ∃ a n c, u = .slice a n c := by
  rcases open_slice ht h with ⟨hcs, _⟩ | ⟨a', len, cap, m, n', D, Pl, hcs, _⟩
  · simp at hcs; exact ⟨_, _, _, hcs⟩
  · simp at hcs; exact ⟨_, _, _, hcs⟩
theorem elI_str {P : Program} {n : Nat} {cs : List Value} {y : DataW H × List MemPlace} {t : TypeId} (ht : P.underlying t = some .string) (h : DataW.trod enc P w 0 spare held n t cs = some y) : ∃ s : List UInt8, cs = [strL s] ∧ s.length ≤ maxLen := by
  obtain ⟨s, hs, _, hl⟩ := DataW.trod_string ht h
  exact ⟨s.data.toList, by rw [hs, str_eq], hl⟩
set_option maxRecDepth 100000 in
theorem el_bytes {n : Nat} {u : Value} {y : DataW H × List MemPlace} (h : DataW.trod enc Tryz.prog w 0 spare held n 40 [u] = some y) : ∃ l, SlY w u l ∧ okV u := by
  have hu := trodI_slice Tryz.underlying40 h
  have hc : [u] = u.cells.toList := by obtain ⟨_, _, _, e⟩ := hu; rw [e]; rfl
  have hT : DataW.Trod enc Tryz.prog w 0 spare held 40 u y.1 y.2 := ⟨n, by rw [← hc]; exact h⟩
  obtain ⟨l, hl, _⟩ := open_SlF (k := 1) byC (fun _ => True) (fun _ => rfl) Tryz.underlying40 (by kernel_rfl) (by decide) (fun n cs y h => el_byte Tryz.underlying5 h) hu hT
  exact ⟨l, hl, sl_ok Tryz.underlying40 hT⟩
set_option maxRecDepth 100000 in
theorem el_opI {n : Nat} {cs : List Value} {y : DataW H × List MemPlace} (h : DataW.trod enc Tryz.prog w 0 spare held n 42 cs = some y) : ∃ x : OpI × Value, cs = opiC x ∧ SlY w x.2 x.1.b ∧ okV x.2 ∧ x.1.nm.length ≤ maxLen := by
  obtain ⟨xs, m, _, _, hl, hxl, hf⟩ := DataW.trod_struct (fs := #[{ name := "Kind", type := 3, offset := 0, embedded := false, tag := "", pkgPath := "", byteOffset := 0 }, { name := "At", type := 3, offset := 1, embedded := false, tag := "", pkgPath := "", byteOffset := 8 }, { name := "Long", type := 3, offset := 2, embedded := false, tag := "", pkgPath := "", byteOffset := 16 }, { name := "B", type := 40, offset := 3, embedded := false, tag := "", pkgPath := "", byteOffset := 24 }, { name := "Name", type := 9, offset := 4, embedded := false, tag := "", pkgPath := "", byteOffset := 48 }]) Tryz.underlying42 h
  have hc : Tryz.prog.cellsOf 42 = 5 := by kernel_rfl
  have hci : Tryz.prog.cellsOf 3 = 1 := by kernel_rfl
  have hcs : Tryz.prog.cellsOf 9 = 1 := by kernel_rfl
  have hcy : Tryz.prog.cellsOf 40 = 1 := by kernel_rfl
  rw [hc] at hl
  match cs, hl with
  | [c0, c1, c2, c3, c4], _ =>
    have h0 : DataW.trod enc Tryz.prog w 0 spare held m 3 (List.take (Tryz.prog.cellsOf 3) (List.drop 0 [c0, c1, c2, c3, c4])) = xs[0]? := hf 0 _ rfl
    rw [hci] at h0
    have h1 : DataW.trod enc Tryz.prog w 0 spare held m 3 (List.take (Tryz.prog.cellsOf 3) (List.drop 1 [c0, c1, c2, c3, c4])) = xs[1]? := hf 1 _ rfl
    rw [hci] at h1
    have h2 : DataW.trod enc Tryz.prog w 0 spare held m 3 (List.take (Tryz.prog.cellsOf 3) (List.drop 2 [c0, c1, c2, c3, c4])) = xs[2]? := hf 2 _ rfl
    rw [hci] at h2
    have h3 : DataW.trod enc Tryz.prog w 0 spare held m 40 (List.take (Tryz.prog.cellsOf 40) (List.drop 3 [c0, c1, c2, c3, c4])) = xs[3]? := hf 3 _ rfl
    rw [hcy] at h3
    have h4 : DataW.trod enc Tryz.prog w 0 spare held m 9 (List.take (Tryz.prog.cellsOf 9) (List.drop 4 [c0, c1, c2, c3, c4])) = xs[4]? := hf 4 _ rfl
    rw [hcs] at h4
    obtain ⟨y0, e0⟩ : ∃ y0, xs[0]? = some y0 := ⟨_, List.getElem?_eq_getElem (by rw [hxl]; exact (by decide : (0 : Nat) < 5))⟩
    obtain ⟨y1, e1⟩ : ∃ y1, xs[1]? = some y1 := ⟨_, List.getElem?_eq_getElem (by rw [hxl]; exact (by decide : (1 : Nat) < 5))⟩
    obtain ⟨y2, e2⟩ : ∃ y2, xs[2]? = some y2 := ⟨_, List.getElem?_eq_getElem (by rw [hxl]; exact (by decide : (2 : Nat) < 5))⟩
    obtain ⟨y3, e3⟩ : ∃ y3, xs[3]? = some y3 := ⟨_, List.getElem?_eq_getElem (by rw [hxl]; exact (by decide : (3 : Nat) < 5))⟩
    obtain ⟨y4, e4⟩ : ∃ y4, xs[4]? = some y4 := ⟨_, List.getElem?_eq_getElem (by rw [hxl]; exact (by decide : (4 : Nat) < 5))⟩
    obtain ⟨a0, q0, w0⟩ := el_int Tryz.underlying3 (h0.trans e0)
    obtain ⟨a1, q1, w1⟩ := el_int Tryz.underlying3 (h1.trans e1)
    obtain ⟨a2, q2, w2⟩ := el_int Tryz.underlying3 (h2.trans e2)
    obtain ⟨l, q3, w3⟩ := el_bytes (u := c3) (h3.trans e3)
    obtain ⟨a4, q4, w4⟩ := elI_str Tryz.underlying9 (h4.trans e4)
    cases q0; cases q1; cases q2; cases q4
    exact ⟨(⟨a0, a1, a2, l, a4⟩, c3), rfl, q3, w3, w4⟩
set_option maxRecDepth 100000 in
theorem in_opsN (hok : Value.okWide Tryz.prog w r base 24 v) (h : DataW.Trod enc Tryz.prog w 0 spare held 24 v d p) : ∃ l, OpsW w w.heap.size v l ∧ ∀ o ∈ l, o.nm.length ≤ maxLen := by
  obtain ⟨rows, hl, ho⟩ := open_SlF (k := 5) opiC (fun x => SlY w x.2 x.1.b ∧ okV x.2 ∧ x.1.nm.length ≤ maxLen) (fun _ => rfl) Tryz.underlying24 (by kernel_rfl) (by decide) (fun n cs y h => el_opI h) (okWide_slice Tryz.underlying24 hok) h
  refine ⟨rows.map (·.1), ⟨rows, rfl, hl, fun hp => SlF.lt hl ?_, fun x hx => BytW.start (ho x hx).1 (ho x hx).2.1⟩, fun o hm => (by obtain ⟨x, hx, rfl⟩ := List.mem_map.1 hm; exact (ho x hx).2.2)⟩
  cases rows with
  | nil => simp at hp
  | cons x l => simp [opiC]
set_option maxRecDepth 100000 in
theorem in_opsI (hok : Value.okWide Tryz.prog w r base 24 v) (h : DataW.Trod enc Tryz.prog w 0 spare held 24 v d p) : ∃ l, OpsW w w.heap.size v l := let ⟨l, h, _⟩ := in_opsN hok h; ⟨l, h⟩
set_option maxRecDepth 100000 in
theorem in_opI (hok : Value.okWide Tryz.prog w r base 42 v) (h : DataW.Trod enc Tryz.prog w 0 spare held 42 v d p) : ∃ o vo, v = opiV o vo ∧ BytW w w.heap.size vo o.b := by
  obtain ⟨cs, rfl, _⟩ := okWide_struct Tryz.underlying42 hok
  obtain ⟨m, hm⟩ := h
  obtain ⟨x, hx, h1, h2, _⟩ := el_opI hm
  refine ⟨x.1, x.2, ?_, BytW.start h1 h2⟩
  obtain ⟨cs⟩ := cs
  simp only [Value.cells] at hx
  rw [hx]
  rfl
set_option maxRecDepth 100000 in
theorem in_seat (hok : Value.okWide Tryz.prog w r base 23 v) (h : DataW.Trod enc Tryz.prog w 0 spare held 23 v d p) : ∃ a b c, v = .agg #[.int .i64 a, .int .i64 b, .int .i64 c] := by
  obtain ⟨cs, rfl, _⟩ := okWide_struct Tryz.underlying23 hok
  obtain ⟨m, hm⟩ := h
  obtain ⟨xs, m, _, _, hl, hxl, hf⟩ := DataW.trod_struct Tryz.underlying23 hm
  obtain ⟨cs⟩ := cs
  simp only [Value.cells] at hl hf
  have h3 : Tryz.prog.cellsOf 23 = 3 := by kernel_rfl
  rw [h3] at hl
  match cs, hl with
  | [c0, c1, c2], _ =>
    have h0 : DataW.trod enc Tryz.prog w 0 spare held m 3 (List.take 1 (List.drop 0 [c0, c1, c2])) = xs[0]? := hf 0 _ rfl
    have h1 : DataW.trod enc Tryz.prog w 0 spare held m 3 (List.take 1 (List.drop 1 [c0, c1, c2])) = xs[1]? := hf 1 _ rfl
    have h2 : DataW.trod enc Tryz.prog w 0 spare held m 3 (List.take 1 (List.drop 2 [c0, c1, c2])) = xs[2]? := hf 2 _ rfl
    obtain ⟨y0, e0⟩ : ∃ y0, xs[0]? = some y0 := ⟨_, List.getElem?_eq_getElem (by rw [hxl]; decide)⟩
    obtain ⟨y1, e1⟩ : ∃ y1, xs[1]? = some y1 := ⟨_, List.getElem?_eq_getElem (by rw [hxl]; decide)⟩
    obtain ⟨y2, e2⟩ : ∃ y2, xs[2]? = some y2 := ⟨_, List.getElem?_eq_getElem (by rw [hxl]; decide)⟩
    obtain ⟨a, ha, wa⟩ := el_int Tryz.underlying3 (h0.trans e0)
    obtain ⟨b, hb, wb⟩ := el_int Tryz.underlying3 (h1.trans e1)
    obtain ⟨c, hc, wc⟩ := el_int Tryz.underlying3 (h2.trans e2)
    cases ha; cases hb; cases hc
    exact ⟨a, b, c, rfl⟩
set_option maxRecDepth 100000 in
theorem in_seat19 (hok : Value.okWide Tryz.prog w r base 50 v) (h : DataW.Trod enc Tryz.prog w 0 spare held 50 v d p) : ∃ a b c, v = .agg #[.int .i64 a, .int .i64 b, .int .i64 c] := by
  obtain ⟨cs, rfl, _⟩ := okWide_struct Tryz.underlying50 hok
  obtain ⟨m, hm⟩ := h
  obtain ⟨xs, m, _, _, hl, hxl, hf⟩ := DataW.trod_struct Tryz.underlying50 hm
  obtain ⟨cs⟩ := cs
  simp only [Value.cells] at hl hf
  have h3 : Tryz.prog.cellsOf 50 = 3 := by kernel_rfl
  rw [h3] at hl
  match cs, hl with
  | [c0, c1, c2], _ =>
    have h0 : DataW.trod enc Tryz.prog w 0 spare held m 3 (List.take 1 (List.drop 0 [c0, c1, c2])) = xs[0]? := hf 0 _ rfl
    have h1 : DataW.trod enc Tryz.prog w 0 spare held m 3 (List.take 1 (List.drop 1 [c0, c1, c2])) = xs[1]? := hf 1 _ rfl
    have h2 : DataW.trod enc Tryz.prog w 0 spare held m 3 (List.take 1 (List.drop 2 [c0, c1, c2])) = xs[2]? := hf 2 _ rfl
    obtain ⟨y0, e0⟩ : ∃ y0, xs[0]? = some y0 := ⟨_, List.getElem?_eq_getElem (by rw [hxl]; decide)⟩
    obtain ⟨y1, e1⟩ : ∃ y1, xs[1]? = some y1 := ⟨_, List.getElem?_eq_getElem (by rw [hxl]; decide)⟩
    obtain ⟨y2, e2⟩ : ∃ y2, xs[2]? = some y2 := ⟨_, List.getElem?_eq_getElem (by rw [hxl]; decide)⟩
    obtain ⟨a, ha, wa⟩ := el_int Tryz.underlying3 (h0.trans e0)
    obtain ⟨b, hb, wb⟩ := el_int Tryz.underlying3 (h1.trans e1)
    obtain ⟨c, hc, wc⟩ := el_int Tryz.underlying3 (h2.trans e2)
    cases ha; cases hb; cases hc
    exact ⟨a, b, c, rfl⟩
set_option maxRecDepth 100000 in
theorem in_below (hok : Value.okWide Tryz.prog w r base 26 v) (h : DataW.Trod enc Tryz.prog w 0 spare held 26 v d p) : ∃ l, SlT w v l ∧ okV v ∧ ∀ s ∈ l, s.length ≤ maxLen := by
  obtain ⟨l, h1, h2⟩ := open_SlF (k := 1) strC (fun s => s.length ≤ maxLen) (fun _ => rfl) Tryz.underlying26 (by kernel_rfl) (by decide) (fun n cs y h => elI_str Tryz.underlying9 h) (okWide_slice Tryz.underlying26 hok) h
  exact ⟨l, h1, sl_ok Tryz.underlying26 h, h2⟩
end
end Go.Proofs.YtilhbjjjmdnjmaaGreat
