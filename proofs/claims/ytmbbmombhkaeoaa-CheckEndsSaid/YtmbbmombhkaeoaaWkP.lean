/-
  The arguments of the Check statements, opened; how long they may be.
-/
import Derived.Test.YtmbbmombhkaeoaaChkP
import Derived.Test.YtmbbmombhkaeoaaWkA
namespace Go.Proofs.Ytmbbmombhkaeoaa
open Go.RowKit Go.ChangeShapes Go.WideShapes Go.ChangeAt Go.Deep
section
variable {H : Type} {enc : TypeId × Value → H} {w : World} {r : Reach} {base : Nat} {spare : Nat → Bool} {held : Bool} {v : Value} {d : DataW H} {p : List MemPlace}
theorem weightsAll_mem {P : Program} {e : TypeId} {q : Nat → Bool} : ∀ {l : List (DataW H)}, (DataW.weightsAll P e l).all q = true → ∀ d ∈ l, (d.weights P e).all q = true
  | [], _, d, hd => by cases hd
  | x :: l, h, d, hd => by
    unfold DataW.weightsAll at h
    rw [List.all_append, Bool.and_eq_true] at h
    rcases List.mem_cons.1 hd with rfl | hd
    · exact h.1
    · exact weightsAll_mem h.2 d hd
theorem weightsEach_at {P : Program} {q : Nat → Bool} : ∀ {ts : List TypeId} {ds : List (DataW H)} {j : Nat} {t : TypeId} {d : DataW H}, (DataW.weightsEach P ts ds).all q = true → ts[j]? = some t → ds[j]? = some d → (d.weights P t).all q = true
  | [], _, _, _, _, _, ht, _ => by simp at ht
  | _ :: _, [], _, _, _, _, _, hd => by simp at hd
  | t0 :: ts, d0 :: ds, j, t, d, h, ht, hd => by
    unfold DataW.weightsEach at h
    rw [List.all_append, Bool.and_eq_true] at h
    cases j with
    | zero => simp at ht hd; subst ht; subst hd; exact h.1
    | succ j => exact weightsEach_at h.2 (by simpa using ht) (by simpa using hd)
theorem slf_lenW {P : Program} {α : Type} {f : α → List Value} {t e : TypeId} (ht : P.underlying t = some (.slice e)) (h : DataW.Trod enc P w 0 spare held t v d p) {l : List α} (hl : SlF f w v l) :
    (d = .nil ∧ l = []) ∨ ∃ elems sp, d = .slice elems sp ∧ elems.length = l.length := by
  obtain ⟨a0, c0, rfl, _⟩ := hl.open
  obtain ⟨fuel, hf⟩ := h
  rcases open_slice ht hf with ⟨hcs, hx⟩ | ⟨a, len, cap, m, n, D, Pl, hcs, _, hl', hm, hmm, hx, hi⟩
  · simp [Value.cells] at hcs
    cases hx
    exact .inl ⟨rfl, by simpa using hcs.2.1⟩
  · simp [Value.cells] at hcs
    obtain ⟨rfl, rfl, rfl⟩ := hcs
    cases hx
    exact .inr ⟨_, _, rfl, by simp⟩
set_option maxRecDepth 100000 in
theorem in_rowW {u : Value} (hu : ∃ a n c, u = .slice a n c) (h : DataW.Trod enc Try.prog w 0 spare held 42 u d p) (hz : (d.weights Try.prog 42).all (· ≤ reachBytes) = true) : ∃ l, SlS w u l ∧ l.length ≤ 5864062014634 := by
  obtain ⟨l, hl, _⟩ := open_SlF (k := 3) slotC wfS (fun _ => rfl) Try.underlying42 (by kernel_rfl) (by decide) (fun n cs y h => el_slot Try.underlying44 Try.underlying3 Try.underlying4 (by kernel_rfl) (by kernel_rfl) (by kernel_rfl) h) hu h
  refine ⟨l, hl, ?_⟩
  rcases slf_lenW Try.underlying42 h hl with ⟨_, rfl⟩ | ⟨elems, sp, rfl, he⟩
  · exact Nat.zero_le _
  · unfold DataW.weights at hz
    rw [Try.underlying42] at hz
    simp only [List.all_cons, Bool.and_eq_true, decide_eq_true_eq] at hz
    have hb : Try.prog.bytesOf 44 = 24 := by kernel_rfl
    have h2 : reachBytes = 140737488351232 := by decide
    have h1 := hz.1
    rw [hb, h2] at h1
    omega
set_option maxRecDepth 100000 in
theorem in_rowsW (hok : Value.okWide Try.prog w r base 23 v) (h : DataW.Trod enc Try.prog w 0 spare held 23 v d p) (hz : (d.weights Try.prog 23).all (· ≤ reachBytes) = true) : ∃ ls, SlR w v ls ∧ Bnd ls := by
  obtain ⟨a0, n0, c0, rfl⟩ := okWide_slice Try.underlying23 hok
  obtain ⟨fuel, hf⟩ := h
  rcases open_slice1 Try.underlying23 (by kernel_rfl) hf with ⟨hcs, hx⟩ | ⟨a, len, cap, m, n, V, D, Pl, hcs, _, hl, hm, hmm, hx, hi⟩
  · simp [Value.cells] at hcs
    obtain ⟨rfl, rfl, rfl⟩ := hcs
    exact ⟨[], ⟨[], rfl, Sl.nil w, fun i u hu => by simp at hu⟩, ⟨Nat.zero_le _, fun i => by simp⟩⟩
  · simp [Value.cells] at hcs
    obtain ⟨rfl, rfl, rfl⟩ := hcs
    have hle : n0 ≤ m := by rw [hmm]; split <;> omega
    have hd : d = _ := congrArg Prod.fst hx
    rw [hd] at hz
    unfold DataW.weights at hz
    rw [Try.underlying23] at hz
    simp only [List.all_cons, List.all_append, Bool.and_eq_true, decide_eq_true_eq] at hz
    obtain ⟨z1, z2, _⟩ := hz
    have hbz : Try.prog.bytesOf 42 = 24 := by kernel_rfl
    have hrr : reachBytes = 140737488351232 := by decide
    rw [hbz, hrr] at z1
    simp only [List.length_map, List.length_range] at z1
    have z3 := weightsAll_mem z2
    have hrow : ∀ i, ∃ l, i < n0 → SlS w (V i) l ∧ l.length ≤ 5864062014634 := fun i => by
      by_cases hin : i < n0
      · obtain ⟨_, ht⟩ := hi i (by omega)
        have hc : [V i] = (V i).cells.toList := by obtain ⟨_, _, _, e⟩ := trod_slice Try.underlying42 ht; rw [e]; rfl
        obtain ⟨l, h1, h2⟩ := in_rowW (trod_slice Try.underlying42 ht) ⟨n, hc ▸ ht⟩ (z3 (D i) (List.mem_map.2 ⟨i, List.mem_range.2 hin, rfl⟩))
        exact ⟨l, fun _ => ⟨h1, h2⟩⟩
      · exact ⟨[], fun h => absurd h hin⟩
    let L : Nat → List Slt := fun i => (hrow i).choose
    have hL : ∀ i, i < n0 → SlS w (V i) (L i) ∧ (L i).length ≤ 5864062014634 := fun i => (hrow i).choose_spec
    refine ⟨(List.range n0).map L, ⟨(List.range n0).map V, by simp, ?_, fun i u hu => ?_⟩, ?_⟩
    · rw [List.length_map, List.length_range]
      by_cases h0 : n0 = 0
      · subst h0
        exact ⟨some a, c0, rfl, Nat.zero_le _, hm, .inl rfl⟩
      · have hc0 := (hi 0 (by omega)).1
        rw [Addr.add_zero'] at hc0
        have hsp := spot_none hc0
        refine ⟨some a, c0, rfl, hl, hm, .inr ⟨a.block, a.off, ?_, World.block_lt_of_cell? w a hc0, fun j u hu => ?_⟩⟩
        · obtain ⟨b, o, s⟩ := a
          simp only at hsp
          subst hsp
          rfl
        · have hj : j < n0 := by have := (List.getElem?_eq_some_iff.1 hu).1; simpa using this
          rw [List.getElem?_map, List.getElem?_range hj] at hu
          simp at hu
          subst hu
          have := (hi j (by omega)).1
          rwa [add_form a hsp] at this
    · have hj : i < n0 := by have := (List.getElem?_eq_some_iff.1 hu).1; simpa using this
      rw [List.getElem?_map, List.getElem?_range hj] at hu
      simp at hu
      subst hu
      rw [List.getD_eq_getElem?_getD, List.getElem?_map, List.getElem?_range hj]
      exact (hL i hj).1
    · refine ⟨by simp; omega, fun i => ?_⟩
      rw [List.getD_eq_getElem?_getD, List.getElem?_map]
      by_cases hj : i < n0
      · rw [List.getElem?_range hj]; exact (hL i hj).2
      · rw [List.getElem?_eq_none (by simp; omega)]; exact Nat.zero_le _
end
end Go.Proofs.Ytmbbmombhkaeoaa
