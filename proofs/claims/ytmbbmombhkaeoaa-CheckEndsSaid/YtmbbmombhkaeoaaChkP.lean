/-
  The arguments of the Check statements, opened; what their bulk says.
-/
import Derived.Test.YtmbbmombhkaeoaaChkD
import Derived.Test.YtmbbmombhkaeoaaOpen
import Derived.Test.YtmbbmombhkaeoaaRows
namespace Go.Proofs.Ytmbbmombhkaeoaa
open Go.RowKit Go.ChangeShapes Go.WideShapes Go.ChangeAt Go.Deep
section
variable {H : Type} {enc : TypeId × Value → H} {w : World} {r : Reach} {base : Nat} {spare : Nat → Bool} {held : Bool} {v : Value} {d : DataW H} {p : List MemPlace}
theorem bulk_one {H : Type} (d : DataW H) : 1 ≤ Rows.uptoBulk d := by
  cases d with
  | lit l => cases l <;> simp [Rows.uptoBulk]
  | _ => simp [Rows.uptoBulk]
theorem bulk_sum {H : Type} (D : Nat → DataW H) (f : Nat → Nat) : ∀ l : List Nat, (∀ i ∈ l, f i ≤ Rows.uptoBulk (D i)) → (l.map f).sum ≤ Rows.uptoBulkAll (l.map D)
  | [], _ => by simp
  | i :: l, h => by
    have h1 := h i List.mem_cons_self
    have h2 := bulk_sum D f l (fun j hj => h j (List.mem_cons_of_mem _ hj))
    simp only [List.map_cons, List.sum_cons, Rows.uptoBulkAll]
    omega
theorem bulk_app {H : Type} (l r : List (DataW H)) : Rows.uptoBulkAll (l ++ r) = Rows.uptoBulkAll l + Rows.uptoBulkAll r := by
  induction l with
  | nil => simp [Rows.uptoBulkAll]
  | cons x l ih => simp only [List.cons_append, Rows.uptoBulkAll, ih]; omega
theorem bulk_len {P : Program} {t e : TypeId} {a : Option Addr} {n c : Nat} (ht : P.underlying t = some (.slice e)) (h : DataW.Trod enc P w 0 spare held t (.slice a n c) d p) : n + 1 ≤ Rows.uptoBulk d := by
  obtain ⟨fuel, hf⟩ := h
  rcases open_slice ht hf with ⟨hcs, hx⟩ | ⟨a', len, cap, m, n', D, Pl, hcs, _, hl, hm, hmm, hx, hi⟩
  · simp [Value.cells] at hcs
    have := bulk_one d
    omega
  · simp [Value.cells] at hcs
    obtain ⟨_, rfl, _⟩ := hcs
    have hd : d = _ := congrArg Prod.fst hx
    rw [hd]
    have := bulk_sum D (fun _ => 1) (List.range n) (fun i _ => bulk_one _)
    rw [List.map_const', List.sum_replicate_nat, List.length_range] at this
    simp only [Rows.uptoBulk]
    omega
theorem trod_slice {P : Program} {t e : TypeId} {n : Nat} {u : Value} {y : DataW H × List MemPlace} (ht : P.underlying t = some (.slice e)) (h : DataW.trod enc P w 0 spare held n t [u] = some y) : ∃ a n c, u = .slice a n c := by
  rcases open_slice ht h with ⟨hcs, _⟩ | ⟨a', len, cap, m, n', D, Pl, hcs, _⟩
  · simp at hcs; exact ⟨_, _, _, hcs⟩
  · simp at hcs; exact ⟨_, _, _, hcs⟩
set_option maxRecDepth 100000 in
theorem in_intU (hok : Value.okWide Try.prog w r base 3 v) (h : DataW.Trod enc Try.prog w 0 spare held 3 v d p) : ∃ n, v = .int .i64 n ∧ wfI n := by
  obtain ⟨n, rfl, _, _, hw⟩ := open_int Try.underlying3 hok h
  exact ⟨n, rfl, wfI_of hw⟩
set_option maxRecDepth 100000 in
theorem in_nums (hok : Value.okWide Try.prog w r base 22 v) (h : DataW.Trod enc Try.prog w 0 spare held 22 v d p) : ∃ l, SlI w v l ∧ l.length + 1 ≤ Rows.uptoBulk d := by
  obtain ⟨l, hl, _⟩ := open_SlF (k := 1) intC (fun _ => True) (fun _ => rfl) Try.underlying22 (by kernel_rfl) (by decide) (fun n cs y h => by obtain ⟨x, hx, _⟩ := el_int Try.underlying3 h; exact ⟨x, hx, trivial⟩) (okWide_slice Try.underlying22 hok) h
  refine ⟨l, hl, ?_⟩
  obtain ⟨a, cap, rfl, _⟩ := SlF.open hl
  exact bulk_len Try.underlying22 h
set_option maxRecDepth 100000 in
theorem in_row {u : Value} (hu : ∃ a n c, u = .slice a n c) (h : DataW.Trod enc Try.prog w 0 spare held 42 u d p) : ∃ l, SlS w u l ∧ l.length + 1 ≤ Rows.uptoBulk d := by
  obtain ⟨l, hl, _⟩ := open_SlF (k := 3) slotC wfS (fun _ => rfl) Try.underlying42 (by kernel_rfl) (by decide) (fun n cs y h => el_slot Try.underlying44 Try.underlying3 Try.underlying4 (by kernel_rfl) (by kernel_rfl) (by kernel_rfl) h) hu h
  refine ⟨l, hl, ?_⟩
  obtain ⟨a, cap, rfl, _⟩ := SlF.open hl
  exact bulk_len Try.underlying42 h
set_option maxRecDepth 100000 in
theorem in_rows (hok : Value.okWide Try.prog w r base 23 v) (h : DataW.Trod enc Try.prog w 0 spare held 23 v d p) : ∃ ls, SlR w v ls ∧ tot ls + 1 ≤ Rows.uptoBulk d := by
  obtain ⟨a0, n0, c0, rfl⟩ := okWide_slice Try.underlying23 hok
  obtain ⟨fuel, hf⟩ := h
  rcases open_slice1 Try.underlying23 (by kernel_rfl) hf with ⟨hcs, hx⟩ | ⟨a, len, cap, m, n, V, D, Pl, hcs, _, hl, hm, hmm, hx, hi⟩
  · simp [Value.cells] at hcs
    obtain ⟨rfl, rfl, rfl⟩ := hcs
    exact ⟨[], ⟨[], rfl, Sl.nil w, fun i u hu => by simp at hu⟩, bulk_one d⟩
  · simp [Value.cells] at hcs
    obtain ⟨rfl, rfl, rfl⟩ := hcs
    have hle : n0 ≤ m := by rw [hmm]; split <;> omega
    have hrow : ∀ i, ∃ l, i < n0 → SlS w (V i) l ∧ l.length + 1 ≤ Rows.uptoBulk (D i) := fun i => by
      by_cases hin : i < n0
      · obtain ⟨_, ht⟩ := hi i (by omega)
        have hc : [V i] = (V i).cells.toList := by obtain ⟨_, _, _, e⟩ := trod_slice Try.underlying42 ht; rw [e]; rfl
        obtain ⟨l, h1, h2⟩ := in_row (trod_slice Try.underlying42 ht) ⟨n, hc ▸ ht⟩
        exact ⟨l, fun _ => ⟨h1, h2⟩⟩
      · exact ⟨[], fun h => absurd h hin⟩
    let L : Nat → List Slt := fun i => (hrow i).choose
    have hL : ∀ i, i < n0 → SlS w (V i) (L i) ∧ (L i).length + 1 ≤ Rows.uptoBulk (D i) := fun i => (hrow i).choose_spec
    have hd : d = _ := congrArg Prod.fst hx
    refine ⟨(List.range n0).map L, ⟨(List.range n0).map V, by simp, ?_, fun i u hu => ?_⟩, ?_⟩
    · rw [List.length_map, List.length_range]
      by_cases h0 : n0 = 0
      · subst h0
        exact ⟨some a, c0, rfl, Nat.zero_le _, hm, .inl rfl⟩
      · have hc0 := (hi 0 (by omega)).1
        rw [Addr.add_zero'] at hc0
        have hsp := spot_none hc0
        refine ⟨some a, c0, rfl, hl, hm, .inr ⟨a.block, a.off, ?_, World.block_lt_of_cell? w a hc0, fun j u hu => ?_⟩⟩
        · obtain ⟨b, o, s⟩ := a
          simp only at hsp
          subst hsp
          rfl
        · have hj : j < n0 := by have := (List.getElem?_eq_some_iff.1 hu).1; simpa using this
          rw [List.getElem?_map, List.getElem?_range hj] at hu
          simp at hu
          subst hu
          have := (hi j (by omega)).1
          rwa [add_form a hsp] at this
    · have hj : i < n0 := by have := (List.getElem?_eq_some_iff.1 hu).1; simpa using this
      rw [List.getElem?_map, List.getElem?_range hj] at hu
      simp at hu
      subst hu
      rw [List.getD_eq_getElem?_getD, List.getElem?_map, List.getElem?_range hj]
      exact (hL i hj).1
    · rw [hd]
      have := bulk_sum D (fun i => (L i).length + 1) (List.range n0) (fun i hi' => (hL i (by simpa using hi')).2)
      unfold tot
      rw [List.map_map]
      simp only [Rows.uptoBulk]
      have e : (List.map ((fun l => l.length + 1) ∘ L) (List.range n0)).sum = ((List.range n0).map fun i => (L i).length + 1).sum := rfl
      omega
end
end Go.Proofs.Ytmbbmombhkaeoaa
