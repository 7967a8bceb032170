/-
  Arguments that are slices, opened to lists: no program in sight.
-/
import Derived.Test.YtmbbmombhkaeoaaSlots
import Derived.ProofKit
import Derived.OpenShut
import Derived.ChangeOld
import Derived.Deep.Slices
namespace Go.Proofs.Ytmbbmombhkaeoaa
open Go.RowKit Go.ChangeShapes Go.WideShapes Go.ChangeAt Go.Deep

/-- a number within its range -/
def wfI (n : Int) : Prop := -9223372036854775808 ≤ n ∧ n ≤ 9223372036854775807
theorem wfI_of {n : Int} (h : (Lit.int .i64 n).wf = true) : wfI n := by
  simpa [Lit.wf, IntKind.min, IntKind.max, IntKind.signed, IntKind.bits, wfI] using h
def wfS (s : Slt) : Prop := wfI s.1 ∧ wfI s.2.1
def wfO (o : Opr) : Prop := wfI o.1 ∧ wfI o.2.1 ∧ wfS o.2.2
section
variable {H : Type} {enc : TypeId × Value → H} {P : Program} {w : World} {base : Nat} {spare : Nat → Bool} {held : Bool} {n : Nat} {cs : List Value} {y : DataW H × List MemPlace}
theorem el_int {t : TypeId} (ht : P.underlying t = some (.int .i64)) (h : DataW.trod enc P w base spare held n t cs = some y) : ∃ x, cs = [.int .i64 x] ∧ wfI x := by
  obtain ⟨x, hx, _, hw⟩ := DataW.trod_int ht h
  exact ⟨x, hx, wfI_of hw⟩
theorem el_bool {t : TypeId} (ht : P.underlying t = some .bool) (h : DataW.trod enc P w base spare held n t cs = some y) : ∃ x, cs = [.bool x] := by
  obtain ⟨x, hx, _⟩ := DataW.trod_bool ht h
  exact ⟨x, hx⟩
/-- the fields of a slot -/
def slotFields (ti tb : TypeId) : Array Field := #[{ name := "Kind", type := ti, offset := 0, embedded := false, tag := "", pkgPath := "", byteOffset := 0 }, { name := "Host", type := ti, offset := 1, embedded := false, tag := "", pkgPath := "", byteOffset := 8 }, { name := "Own", type := tb, offset := 2, embedded := false, tag := "", pkgPath := "", byteOffset := 16 }]
theorem el_slot {t ti tb : TypeId} (ht : P.underlying t = some (.struct (slotFields ti tb))) (hi : P.underlying ti = some (.int .i64)) (hb : P.underlying tb = some .bool) (hc : P.cellsOf t = 3) (hci : P.cellsOf ti = 1) (hcb : P.cellsOf tb = 1)
    (h : DataW.trod enc P w base spare held n t cs = some y) : ∃ s : Slt, cs = slotC s ∧ wfS s := by
  obtain ⟨xs, m, _, _, hl, hxl, hf⟩ := DataW.trod_struct ht h
  rw [hc] at hl
  match cs, hl with
  | [c0, c1, c2], _ =>
    have h0 : DataW.trod enc P w base spare held m ti (List.take (P.cellsOf ti) (List.drop 0 [c0, c1, c2])) = xs[0]? := hf 0 _ rfl
    have h1 : DataW.trod enc P w base spare held m ti (List.take (P.cellsOf ti) (List.drop 1 [c0, c1, c2])) = xs[1]? := hf 1 _ rfl
    have h2 : DataW.trod enc P w base spare held m tb (List.take (P.cellsOf tb) (List.drop 2 [c0, c1, c2])) = xs[2]? := hf 2 _ rfl
    rw [hci] at h0 h1
    rw [hcb] at h2
    obtain ⟨y0, e0⟩ : ∃ y0, xs[0]? = some y0 := ⟨_, List.getElem?_eq_getElem (by rw [hxl]; exact (by decide : (0 : Nat) < 3))⟩
    obtain ⟨y1, e1⟩ : ∃ y1, xs[1]? = some y1 := ⟨_, List.getElem?_eq_getElem (by rw [hxl]; exact (by decide : (1 : Nat) < 3))⟩
    obtain ⟨y2, e2⟩ : ∃ y2, xs[2]? = some y2 := ⟨_, List.getElem?_eq_getElem (by rw [hxl]; exact (by decide : (2 : Nat) < 3))⟩
    obtain ⟨a, ha, wa⟩ := el_int hi (h0.trans e0)
    obtain ⟨b, hb', wb⟩ := el_int hi (h1.trans e1)
    obtain ⟨c, hc'⟩ := el_bool hb (h2.trans e2)
    cases ha; cases hb'; cases hc'
    exact ⟨(a, b, c), rfl, wa, wb⟩
def opFields (ti ts : TypeId) : Array Field := #[{ name := "Kind", type := ti, offset := 0, embedded := false, tag := "", pkgPath := "", byteOffset := 0 }, { name := "C", type := ti, offset := 1, embedded := false, tag := "", pkgPath := "", byteOffset := 8 }, { name := "S", type := ts, offset := 2, embedded := false, tag := "", pkgPath := "", byteOffset := 16 }]
theorem el_op {t ts ti tb : TypeId} (ht : P.underlying t = some (.struct (opFields ti ts))) (hs : P.underlying ts = some (.struct (slotFields ti tb))) (hi : P.underlying ti = some (.int .i64)) (hb : P.underlying tb = some .bool)
    (hc : P.cellsOf t = 5) (hcs : P.cellsOf ts = 3) (hci : P.cellsOf ti = 1) (hcb : P.cellsOf tb = 1) (h : DataW.trod enc P w base spare held n t cs = some y) : ∃ o : Opr, cs = opC o ∧ wfO o := by
  obtain ⟨xs, m, _, _, hl, hxl, hf⟩ := DataW.trod_struct ht h
  rw [hc] at hl
  match cs, hl with
  | [c0, c1, c2, c3, c4], _ =>
    have h0 : DataW.trod enc P w base spare held m ti (List.take (P.cellsOf ti) (List.drop 0 [c0, c1, c2, c3, c4])) = xs[0]? := hf 0 _ rfl
    have h1 : DataW.trod enc P w base spare held m ti (List.take (P.cellsOf ti) (List.drop 1 [c0, c1, c2, c3, c4])) = xs[1]? := hf 1 _ rfl
    have h2 : DataW.trod enc P w base spare held m ts (List.take (P.cellsOf ts) (List.drop 2 [c0, c1, c2, c3, c4])) = xs[2]? := hf 2 _ rfl
    rw [hci] at h0 h1
    rw [hcs] at h2
    obtain ⟨y0, e0⟩ : ∃ y0, xs[0]? = some y0 := ⟨_, List.getElem?_eq_getElem (by rw [hxl]; exact (by decide : (0 : Nat) < 3))⟩
    obtain ⟨y1, e1⟩ : ∃ y1, xs[1]? = some y1 := ⟨_, List.getElem?_eq_getElem (by rw [hxl]; exact (by decide : (1 : Nat) < 3))⟩
    obtain ⟨y2, e2⟩ : ∃ y2, xs[2]? = some y2 := ⟨_, List.getElem?_eq_getElem (by rw [hxl]; exact (by decide : (2 : Nat) < 3))⟩
    obtain ⟨a, ha, wa⟩ := el_int hi (h0.trans e0)
    obtain ⟨b, hb', wb⟩ := el_int hi (h1.trans e1)
    obtain ⟨s, hs', ws⟩ := el_slot hs hi hb hcs hci hcb (h2.trans e2)
    cases ha; cases hb'; cases hs'
    exact ⟨(a, b, s), rfl, wa, wb, ws⟩
theorem spot_none {W : World} {a : Addr} {u : Value} (h : W.cell? a = some u) : a.spot = none := by
  unfold World.cell? at h
  split at h
  · split at h
    · cases h
    · rename_i hs
      cases hsp : a.spot with
      | none => rfl
      | some _ => simp [hsp] at hs
  · cases h
theorem add_form (a : Addr) (h : a.spot = none) (n : Nat) : a.add n = ⟨a.block, a.off + n, none⟩ := by
  obtain ⟨b, o, s⟩ := a
  simp only at h
  subst h
  unfold Addr.add
  split <;> simp_all
/-- a slice that came in, as a list -/
theorem open_SlF {α : Type} (f : α → List Value) (ok : α → Prop) {t e : TypeId} {v : Value} {d : DataW H} {p : List MemPlace} {k : Nat} (hfk : ∀ x, (f x).length = k) (ht : P.underlying t = some (.slice e)) (hk : P.cellsOf e = k) (hk0 : 0 < k)
    (hel : ∀ n cs y, DataW.trod enc P w 0 spare held n e cs = some y → ∃ x, cs = f x ∧ ok x) (hv : ∃ a n c, v = .slice a n c) (h : DataW.Trod enc P w 0 spare held t v d p) :
    ∃ l : List α, SlF f w v l ∧ ∀ x ∈ l, ok x := by
  obtain ⟨a0, n0, c0, rfl⟩ := hv
  obtain ⟨fuel, hf⟩ := h
  rcases open_slice ht hf with ⟨hcs, _⟩ | ⟨a, len, cap, m, n, D, Pl, hcs, _, hl, hm, hmm, _, hi⟩
  · simp [Value.cells] at hcs
    obtain ⟨rfl, rfl, rfl⟩ := hcs
    exact ⟨[], Sl.nil w, by simp⟩
  · simp [Value.cells] at hcs
    obtain ⟨rfl, rfl, rfl⟩ := hcs
    have hle : n0 ≤ m := by rw [hmm]; split <;> omega
    rw [hk] at hi
    have hx : ∀ i, i < n0 → ∃ x, ok x ∧ ∀ j u, (f x)[j]? = some u → w.cell? ((a.add (i * k)).add j) = some u := fun i hin => by
      obtain ⟨cs', hc, ht'⟩ := hi i (by omega)
      obtain ⟨x, rfl, hok⟩ := hel _ _ _ ht'
      obtain ⟨_, hlen, hat⟩ := World.cells?_some hc
      refine ⟨x, hok, fun j u hu => ?_⟩
      have hj : j < (f x).length := (List.getElem?_eq_some_iff.1 hu).1
      rw [hat j (by rw [← hfk x]; exact hj)]
      exact hu
    by_cases hn0 : n0 = 0
    · subst hn0
      exact ⟨[], ⟨some a, c0, rfl, Nat.zero_le _, hm, .inl rfl⟩, by simp⟩
    · classical
      obtain ⟨x00, _, h00⟩ := hx 0 (by omega)
      have hu0 : (f x00)[0]? = some ((f x00)[0]'(by rw [hfk]; exact hk0)) := List.getElem?_eq_getElem _
      have hsp : a.spot = none := by
        have := h00 0 _ hu0
        rw [Nat.zero_mul, Addr.add_zero', Addr.add_zero'] at this
        exact spot_none this
      let g : Nat → α := fun i => if h : i < n0 then (hx i h).choose else x00
      have hg : ∀ i, i < n0 → ok (g i) ∧ ∀ j u, (f (g i))[j]? = some u → w.cell? ((a.add (i * k)).add j) = some u := fun i hin => by
        simp only [g, dif_pos hin]
        exact (hx i hin).choose_spec
      refine ⟨(List.range n0).map g, ⟨some a, c0, by simp, by simpa using hl, hm, .inr ⟨a.block, a.off, ?_, ?_, fun j u hu => ?_⟩⟩, fun x hxm => ?_⟩
      · obtain ⟨b, o, s⟩ := a
        simp only at hsp
        subst hsp
        rfl
      · have := (hg 0 (by omega)).2 0 _ (List.getElem?_eq_getElem (by rw [hfk]; exact hk0))
        rw [Nat.zero_mul, Addr.add_zero', Addr.add_zero'] at this
        exact World.block_lt_of_cell? w a this
      · have hj : j < ((List.range n0).map g).length * k := by
          have h1 := (List.getElem?_eq_some_iff.1 hu).1
          rw [List.length_flatMap] at h1
          have : (((List.range n0).map g).map fun x => (f x).length).sum = ((List.range n0).map g).length * k := by
            rw [List.map_congr_left (g := fun _ => k) (fun x _ => hfk x), List.map_const', List.sum_replicate_nat]
          omega
        obtain ⟨q, r, hr, rfl⟩ : ∃ q r, r < k ∧ j = q * k + r := ⟨j / k, j % k, Nat.mod_lt _ hk0, (Nat.div_add_mod' j k).symm⟩
        rw [flat_at f k hfk _ q r hr] at hu
        have hq : q < n0 := by
          rw [List.length_map, List.length_range] at hj
          exact Nat.lt_of_not_le fun hle => by
            have := Nat.mul_le_mul_right k hle
            omega
        rw [List.getElem?_map, List.getElem?_range hq] at hu
        have := (hg q hq).2 r u (by simpa using hu)
        rw [add_form a hsp, add_form _ rfl] at this
        simp only at this
        rw [← Nat.add_assoc]
        exact this
      · obtain ⟨i, hi', rfl⟩ := List.mem_map.1 hxm
        exact (hg i (by simpa using hi')).1
end
end Go.Proofs.Ytmbbmombhkaeoaa
