/-
  ref11: rows of entries; Find, put, with.
-/
import Derived.Test.YtiifmakhfpllnaaGreatM32
import Derived.Test.YtiifmakhfpllnaaGreatM13
import Derived.Test.YtiifmakhfpllnaaGreatM18
import Derived.Sort.Walk0
import Derived.Test.YtiifmakhfpllnaaGreatM25
import Derived.BigQuiet
namespace Go.Proofs.YtiifmakhfpllnaaGreat
open Go.RowKit Go.Maps
attribute [local go_sem] cells_str store_str eql_str lss_str guard_str

/-- an entry's cells; its granules lie elsewhere -/
def enC (p : Ent × Value) : List Value := [strL p.1.name, .bool p.1.on, .bool p.1.use, .int .i64 p.1.S, .int .i64 p.1.g, p.2]
abbrev SlE := SlF enC
theorem infoEn : (Tryz.prog.info? 76).map (fun i => (i.zero, i.size, i.bytes)) = some (some (.agg #[.string ⟨#[]⟩, .bool false, .bool false, .int .i64 0, .int .i64 0, .slice none 0 0]), 6, 64) := by kernel_rfl
def zP : Ent × Value := (⟨[], false, false, 0, 0, []⟩, .slice none 0 0)
/-- a slice whose elements lie in none of some blocks -/
def okH (H : List Nat) (v : Value) : Prop := okV v ∧ ∀ k o n c, v = .slice (some ⟨k, o, none⟩) n c → 0 < n → k ∉ H
theorem okH.mk {H : List Nat} {v : Value} (h : okV v) (hn : ∀ k, v.ownBlock = some k → k ∉ H) : okH H v := ⟨h, fun k o n c e _ => hn k (by rw [e]; rfl)⟩
theorem okH.of_owns {H : List Nat} {w : World} {base : Nat} {e : TypeId} {size : Nat} {v : Value} {n : Nat} {xs : List Value} (h : w.ownsRow base e size v n xs) (hH : ∀ k ∈ H, k < base) : okH H v :=
  okH.mk (okV.of_owns h) fun k hk hm => by have := own_base h k hk; have := hH k hm; omega
theorem okH.loc {H : List Nat} {u u' : Value} {W : Nat} (hu : okH H u) (hok : okV u') (hlo : u' = u ∨ ∀ k, u'.ownBlock = some k → W ≤ k) (hW : ∀ k ∈ H, k < W) : okH H u' := by
  rcases hlo with rfl | h
  · exact hu
  · exact okH.mk hok fun k hk hm => by have := h k hk; have := hW k hm; omega
/-- elements stay where only those blocks turn; and in none of new ones -/
theorem slH_fr {α : Type} {f : α → List Value} {H H' M : List Nat} {w w' : World} {v : Value} {l : List α} (h : SlF f w v l) (hok : okH H v) (hf : Fr M w w') (hM : ∀ k ∈ M, k ∈ H ∨ w.heap.size ≤ k) (hH : ∀ k ∈ H', k ∈ H ∨ w.heap.size ≤ k)
    (hne : l ≠ [] → l.flatMap f ≠ []) : SlF f w' v l ∧ okH H' v := by
  by_cases hl : l = []
  · subst hl
    obtain ⟨a, cap, rfl, h2, h3, _⟩ := h
    exact ⟨⟨a, cap, rfl, h2, h3, .inl rfl⟩, hok.1, fun k o n c e hn => by cases e; simp at hn⟩
  · have h' := h
    obtain ⟨a, cap, rfl, _, _, hc⟩ := h
    rcases hc with hc | ⟨b, off, rfl, hb, _⟩
    · exact absurd hc (hne hl)
    · have hl2 : 0 < l.length := by cases l with | nil => exact absurd rfl hl | cons x l => simp
      have hbH := hok.2 b off _ _ rfl hl2
      refine ⟨SlF.fr h' hf fun k hk hm => ?_, hok.1, fun k o n c e hn hm => ?_⟩
      · have : b = k := by simpa [Value.ownBlock] using hk
        subst this
        rcases hM b hm with h1 | h1
        · exact hbH h1
        · omega
      · cases e
        rcases hH b hm with h1 | h1
        · exact hbH h1
        · omega
/-- its granules are there -/
def rowP (H : List Nat) (w : World) (p : Ent × Value) : Prop := SlB w p.2 p.1.l ∧ okH H p.2
structure RefE (H : List Nat) (w : World) (v : Value) (P : List (Ent × Value)) : Prop where
  sl : SlE w v P
  ok : okH H v
  rows : ∀ p ∈ P, rowP H w p
  low : ∀ k ∈ H, k < w.heap.size
variable {H : List Nat}
/-- the reference's rows are kept by whatever turns those blocks alone; and are in none of new ones -/
theorem RefE.fr {M H' : List Nat} {w w' : World} {v : Value} {P : List (Ent × Value)} (h : RefE H w v P) (hf : Fr M w w') (hM : ∀ k ∈ M, k ∈ H ∨ w.heap.size ≤ k) (hH : ∀ k ∈ H', (k ∈ H ∨ w.heap.size ≤ k) ∧ k < w'.heap.size) : RefE H' w' v P := by
  have h1 := slH_fr h.sl h.ok hf hM (fun k hk => (hH k hk).1) (fun hl => by cases P with | nil => exact absurd rfl hl | cons x l => simp [enC])
  exact ⟨h1.1, h1.2, fun p hp => slH_fr (h.rows p hp).1 (h.rows p hp).2 hf hM (fun k hk => (hH k hk).1) (fun hl => by cases hq : p.1.l with | nil => exact absurd hq hl | cons x l => simp [boolC]), fun k hk => (hH k hk).2⟩
theorem RefE.fr0 {w w' : World} {v : Value} {P : List (Ent × Value)} (h : RefE H w v P) (hf : Fr [] w w') : RefE H w' v P := ⟨SlF.fr0 h.sl hf, h.ok, fun p hp => ⟨SlF.fr0 (h.rows p hp).1 hf, (h.rows p hp).2⟩, fun k hk => Nat.lt_of_lt_of_le (h.low k hk) hf.size⟩
theorem rowP.fr0 {w w' : World} {p : Ent × Value} (h : rowP H w p) (hf : Fr [] w w') : rowP H w' p := ⟨SlF.fr0 h.1 hf, h.2⟩
theorem SlE.at {w : World} {a : Option Addr} {cap n : Nat} {l : List (Ent × Value)} (h : SlE w (.slice a n cap) l) {i : Nat} (hi : i < l.length) : ∃ b off, a = some ⟨b, off, none⟩ ∧ b < w.heap.size ∧
    w.cell? ⟨b, off + i * 6, none⟩ = some (strL (l.getD i zP).1.name) ∧ w.cell? ⟨b, off + i * 6 + 1, none⟩ = some (.bool (l.getD i zP).1.on) ∧ w.cell? ⟨b, off + i * 6 + 2, none⟩ = some (.bool (l.getD i zP).1.use) ∧
    w.cell? ⟨b, off + i * 6 + 3, none⟩ = some (.int .i64 (l.getD i zP).1.S) ∧ w.cell? ⟨b, off + i * 6 + 4, none⟩ = some (.int .i64 (l.getD i zP).1.g) ∧ w.cell? ⟨b, off + i * 6 + 5, none⟩ = some (l.getD i zP).2 := by
  obtain ⟨a', cap', hv, _, _, hc⟩ := h.open
  cases hv
  obtain ⟨b, off, rfl, hb, hc⟩ := hc 6 (fun _ => rfl) (by omega) i _ (getD_some zP hi)
  exact ⟨b, off, rfl, hb, hc 0 _ rfl, hc 1 _ rfl, hc 2 _ rfl, hc 3 _ rfl, hc 4 _ rfl, hc 5 _ rfl⟩
/-! ### Find -/
def idxE (E : List Ent) (s : List UInt8) : Option Nat := E.findIdx? fun x => decide (x.name = s)
def idxI : Option Nat → Int
  | none => -1
  | some k => k
theorem idxE_some {E : List Ent} {s : List UInt8} {k : Nat} (h : idxE E s = some k) : ∃ hk : k < E.length, E[k].name = s ∧ findE E s = some E[k] := by
  unfold idxE at h
  have h1 := List.findIdx?_eq_some_iff_getElem.1 h
  obtain ⟨hk, h2, h3⟩ := h1
  refine ⟨hk, by simpa using h2, ?_⟩
  unfold findE
  rw [List.find?_eq_some_iff_getElem]
  exact ⟨h2, k, hk, rfl, fun j hj => by simpa using h3 j hj⟩
theorem idxE_none {E : List Ent} {s : List UInt8} : idxE E s = none ↔ findE E s = none := by
  unfold idxE findE
  rw [List.findIdx?_eq_none_iff, List.find?_eq_none]
  simp
theorem idxE_at {E : List Ent} {s : List UInt8} {k : Nat} (hk : k < E.length) (h : E[k].name = s) (h2 : ∀ j (hj : j < k), (E[j]'(by omega)).name ≠ s) : idxE E s = some k := by
  unfold idxE
  rw [List.findIdx?_eq_some_iff_getElem]
  exact ⟨hk, by simpa using h, fun j hj => by simpa using h2 j hj⟩
set_option maxRecDepth 100000 in
set_option maxHeartbeats 800000 in
theorem rFind_calls (v : Value) (P : List (Ent × Value)) (s : List UInt8) (w : World) (hv : SlE w v P) (h100 : P.length ≤ 100) :
    Calls Tryz.prog 32 #[v, strL s] w fun e w' => e = .returned (.int .i64 (idxI (idxE (P.map (·.1)) s))) ∧ w' = w := by
  obtain ⟨a, cap, rfl, hlc, hcm, _⟩ := hv.open
  have Hat : Hid (∀ k (hk : k < P.length), (P[k]).1.name = s → (∀ j (hj : j < k), (P[j]'(by omega)).1.name ≠ s) → idxI (idxE (P.map (·.1)) s) = k) := hidIt (fun k hk h1 h2 => by
    rw [idxE_at (k := k) (by simpa using hk) (by simpa using h1) (fun j hj => by simpa using h2 j hj)]; rfl)
  have Hno : Hid ((∀ j (hj : j < P.length), (P[j]).1.name ≠ s) → idxI (idxE (P.map (·.1)) s) = -1) := hidIt (fun h => by
    rw [idxE_none.2]
    · rfl
    · unfold findE
      rw [List.find?_eq_none]
      intro x hx
      obtain ⟨p, hp, rfl⟩ := List.mem_map.1 hx
      obtain ⟨j, hj, rfl⟩ := List.mem_iff_getElem.1 hp
      simpa using h j hj)
  generalize idxI (idxE (P.map (·.1)) s) = res at *
  go_enter Tryz.func32, Tryz.ntmps32
  go_wp2
  go_loopw [5] (fun i wr => ∃ k : Nat, ∃ hk : k ≤ P.length, i = .int .i64 k ∧ (∀ j (hj : j < k), (P[j]'(by omega)).1.name ≠ s) ∧ wr = w) (fun i _ => P.length - (intOf i).toNat)
  case atStart => exact ⟨0, Nat.zero_le _, rfl, fun j hj => by omega, rfl⟩
  case round =>
    obtain ⟨k, hk, rfl, hall, rfl⟩ := hrel
    by_cases hlt : k < P.length
    · obtain ⟨b, off, rfl, hb, c0, _⟩ := SlE.at hv hlt
      have hg : P.getD k zP = P[k] := by rw [List.getD_eq_getElem?_getD, List.getElem?_eq_getElem hlt]; rfl
      rw [hg] at c0
      have Ha := hidIt (fun h => Hat.out k hlt h hall)
      have Hn : Hid ((P[k]).1.name ≠ s → ∀ j (hj : j < k + 1), (P[j]'(by omega)).1.name ≠ s) := hidIt (fun h j hj => by
        by_cases e : j = k
        · subst e; exact h
        · exact hall j (by omega))
      clear Hat Hno hall hg
      by_cases he : (P[k]).1.name = s
      · have hd : decide ((P[k]).1.name = s) = true := decide_eq_true he
        have Ha2 := hidIt (Ha.out he)
        clear Ha Hn he
        generalize (P[k]).1.name = q at *
        go_wp2
        go_ret
        exact ⟨ret_int Ha2.out.symm, rfl⟩
      · have hd : decide ((P[k]).1.name = s) = false := decide_eq_false he
        have Hn2 := hidIt (Hn.out he)
        clear Hn Ha he
        generalize (P[k]).1.name = q at *
        go_wp2
        go_roundw
        case rel => exact ⟨k + 1, by omega, by go_num, Hn2.out, trivial⟩
        case measure => simp [intOf]; omega
    · have hke : k = P.length := by omega
      subst hke
      have Hr := hidIt (Hno.out hall)
      clear Hat Hno hall
      go_wp2
      go_ret
      exact ⟨ret_int Hr.out.symm, rfl⟩
/-! ### put, with -/
theorem flat6_length (l : List (Ent × Value)) : (l.flatMap enC).length = l.length * 6 := by
  induction l with
  | nil => rfl
  | cons x l ih => rw [List.flatMap_cons, List.length_append, ih, List.length_cons]; simp [enC]; omega
theorem flat6_set (g : List (Ent × Value)) (i : Nat) (hi : i < g.length) (s : Ent × Value) :
    (g.set i s).flatMap enC = ((((((g.flatMap enC).set (i * 6) (strL s.1.name)).set (i * 6 + 1) (.bool s.1.on)).set (i * 6 + 2) (.bool s.1.use)).set (i * 6 + 3) (.int .i64 s.1.S)).set (i * 6 + 4) (.int .i64 s.1.g)).set (i * 6 + 5) s.2 := by
  have hl := flat6_length g
  apply List.ext_getElem?
  intro k
  obtain ⟨q, j, hj, rfl⟩ : ∃ q j, j < 6 ∧ k = q * 6 + j := ⟨k / 6, k % 6, Nat.mod_lt _ (by omega), by omega⟩
  rw [flat_at enC 6 (fun _ => rfl) _ q j hj]
  simp only [List.getElem?_set, List.length_set, hl, flat_at enC 6 (fun _ => rfl) _ q j hj]
  by_cases hq : i = q
  · subst hq
    match j, hj with
    | 0, _ => simp [hi, enC]
    | 1, _ => simp [hi, enC]; omega
    | 2, _ => simp [hi, enC]; omega
    | 3, _ => simp [hi, enC]; omega
    | 4, _ => simp [hi, enC]; omega
    | 5, _ => simp [hi, enC]; omega
  · rw [if_neg hq, if_neg (by omega), if_neg (by omega), if_neg (by omega), if_neg (by omega), if_neg (by omega), if_neg (by omega)]
theorem owns_put6 {w : World} {base g n cap : Nat} {e : TypeId} {l : List (Ent × Value)} (h : w.ownsRow base e 6 (.slice (some ⟨g, 0, none⟩) n cap) n (l.flatMap enC)) (hl : l.length = n) (i : Nat) (hi : i < n) (s : Ent × Value) :
    ((((((w.setCell ⟨g, i * 6, none⟩ (strL s.1.name)).setCell ⟨g, i * 6 + 1, none⟩ (.bool s.1.on)).setCell ⟨g, i * 6 + 2, none⟩ (.bool s.1.use)).setCell ⟨g, i * 6 + 3, none⟩ (.int .i64 s.1.S)).setCell ⟨g, i * 6 + 4, none⟩ (.int .i64 s.1.g)).setCell ⟨g, i * 6 + 5, none⟩ s.2).ownsRow base e 6 (.slice (some ⟨g, 0, none⟩) n cap) n ((l.set i s).flatMap enC) := by
  rw [flat6_set l i (by omega) s]
  exact owns_put (owns_put (owns_put (owns_put (owns_put (owns_put h _ _) _ _) _ _) _ _) _ _) _ _
theorem owns_at6 {w : World} {base g n cap : Nat} {e : TypeId} {l : List (Ent × Value)} (h : w.ownsRow base e 6 (.slice (some ⟨g, 0, none⟩) n cap) n (l.flatMap enC)) {i : Nat} (hi : i < l.length) :
    (∀ j, j < 6 → ∃ u, w.cell? ⟨g, i * 6 + j, none⟩ = some u) ∧ ∀ o, w.frozen? ⟨g, o, none⟩ = false := by
  refine ⟨fun j hj => ?_, fun o => ?_⟩
  · have h1 : i * 6 + j < (l.flatMap enC).length := by rw [flat6_length]; omega
    exact ⟨_, (owns_at h (List.getElem?_eq_getElem h1)).1⟩
  · rcases h.2 with ⟨h1, _⟩ | ⟨g', cap', cur, hv, _, hg, _⟩
    · cases h1
    · cases hv
      exact frozen_of_row w g o _ _ hg
theorem en_one {p : Ent × Value} (h : p.2.oneCell' = true) : ∀ u ∈ enC p, u.oneCell' = true := by
  intro u hu
  simp only [enC, List.mem_cons, List.not_mem_nil, or_false] at hu
  rcases hu with rfl | rfl | rfl | rfl | rfl | rfl
  · rfl
  · rfl
  · rfl
  · rfl
  · rfl
  · exact h
theorem slb_one {w : World} {u : Value} {l : List Bool} (h : SlB w u l) : u.oneCell' = true := by
  obtain ⟨a, cap, rfl, _⟩ := h
  rfl
theorem rows_one {w : World} {P : List (Ent × Value)} (h : ∀ p ∈ P, rowP H w p) : ∀ u ∈ P.flatMap enC, u.oneCell' = true := by
  intro u hu
  obtain ⟨p, hp, hx⟩ := List.mem_flatMap.1 hu
  exact en_one (slb_one (h p hp).1) u hx
end Go.Proofs.YtiifmakhfpllnaaGreat

namespace Go.Proofs.YtiifmakhfpllnaaGreat
open Go.RowKit Go.Maps Go.Sort
attribute [local go_sem] cells_str store_str eql_str lss_str guard_str
variable {H : List Nat}

theorem own_in {v : Value} {x : Nat} (h : v.ownBlock = some x) : x ∈ v.ownBlock.toList := by simp [h]
theorem enT (w : World) (p : Ent × Value) : ∃ a n c, rowP H w p → p.2 = .slice a n c := by
  by_cases h : rowP H w p
  · obtain ⟨a, c, h1, _⟩ := h.1
    exact ⟨a, _, c, fun _ => h1⟩
  · exact ⟨none, 0, 0, fun h' => absurd h' h⟩
def enV (p : Ent × Value) : Value := .agg #[strL p.1.name, .bool p.1.on, .bool p.1.use, .int .i64 p.1.S, .int .i64 p.1.g, p.2]
def withPost (H : List Nat) (w : World) (Q : List (Ent × Value)) (e : Ending) (w' : World) : Prop := ∃ v', e = .returned v' ∧ RefE H w' v' Q ∧ Fr [] w w'
set_option maxRecDepth 100000 in
set_option maxHeartbeats 1600000 in
theorem rWith_calls (v : Value) (P : List (Ent × Value)) (k : Nat) (p : Ent × Value) (w : World) (hv : RefE H w v P) (hk : k < P.length) (h100 : P.length ≤ 100) (hp : rowP H w p) :
    Calls Tryz.prog 41 #[v, .int .i64 (k : Int), enV p] w (withPost H w (P.set k p)) := by
  obtain ⟨a, cap, rfl, hlc, hcm, _⟩ := hv.sl.open
  obtain ⟨pa, pc, hpe, _⟩ := hp.1
  have hl6 := flat6_length P
  obtain ⟨x, u⟩ := p
  obtain ⟨s, on, use, S, g, l⟩ := x
  simp only at hpe
  subst hpe
  have B5 := Blk.new w [strL s, .bool on, .bool use, .int .i64 S, .int .i64 g, .slice pa l.length pc] 76
  have hf5 := (Fr.refl [] w).alloc (.cells #[strL s, .bool on, .bool use, .int .i64 S, .int .i64 g, .slice pa l.length pc] 76)
  have hmade := World.ownsRow_made (base := w.heap.size + 1) (e := 76) (size := 6) (w.alloc (.cells #[strL s, .bool on, .bool use, .int .i64 S, .int .i64 g, .slice pa l.length pc] 76)) #[] 0 (by simp) (by decide) rfl
  rw [World.size_alloc] at hmade
  unfold enV
  go_enter Tryz.func41, Tryz.ntmps41
  go_wp2_with (at_builtin; refine Hid.out ?_)
  refine hidIt ?_
  refine wpList_append_slL 31 76 (.agg #[.string ⟨#[]⟩, .bool false, .bool false, .int .i64 0, .int .i64 0, .slice none 0 0]) 6 64 Tryz.underlying31 infoEn rfl (by decide) (by decide) rfl _ _ rfl (w.heap.size + 1) _ 0 _ rfl hmade _ P.length (P.flatMap enC) (Sl.fr0 hv.sl (hf5.alloc _)) hv.ok.1 hl6 (rows_one hv.rows) rfl (by omega) (by omega) (by simp) ?_
  intro v' w2 hown2 hgrow hloc
  rw [Nat.zero_add, List.nil_append] at hown2
  obtain ⟨gb, cap', rfl, hgb, hgc⟩ := owns_succ hown2 (by omega)
  have hf2 : Fr [] w w2 := (hf5.alloc _).grown hgrow (fun x hx => .inr (by cases hx; simp))
  have B5b := B5.fr0 (w' := w2) (((Fr.refl [] (w.alloc (.cells #[strL s, .bool on, .bool use, .int .i64 S, .int .i64 g, .slice pa l.length pc] 76))).alloc (.cells #[] 76)).grown hgrow (fun x hx => .inr (by cases hx; simp)))
  have c5 := B5b.cell
  have l5 := B5b.lt
  have d := owns_at6 hown2 hk
  obtain ⟨_, d0⟩ := d.1 0 (by omega)
  obtain ⟨_, d1⟩ := d.1 1 (by omega)
  obtain ⟨_, d2⟩ := d.1 2 (by omega)
  obtain ⟨_, d3⟩ := d.1 3 (by omega)
  obtain ⟨_, d4⟩ := d.1 4 (by omega)
  obtain ⟨_, d5⟩ := d.1 5 (by omega)
  have dz := d.2
  rw [Nat.add_zero] at d0
  have hown3 := owns_put6 hown2 rfl k hk (⟨s, on, use, S, g, l⟩, .slice pa l.length pc)
  have hfs : Fr [gb] w2 ((((((w2.setCell ⟨gb, k * 6, none⟩ (strL s)).setCell ⟨gb, k * 6 + 1, none⟩ (.bool on)).setCell ⟨gb, k * 6 + 2, none⟩ (.bool use)).setCell ⟨gb, k * 6 + 3, none⟩ (.int .i64 S)).setCell ⟨gb, k * 6 + 4, none⟩ (.int .i64 g)).setCell ⟨gb, k * 6 + 5, none⟩ (.slice pa l.length pc)) :=
    ((((((Fr.refl [gb] w2).setCell (.inl (by simp)) _).setCell (.inl (by simp)) _).setCell (.inl (by simp)) _).setCell (.inl (by simp)) _).setCell (.inl (by simp)) _).setCell (.inl (by simp)) _
  have hF := hf2.trans1 hfs (by omega)
  have hrows : ∀ q ∈ P.set k (⟨s, on, use, S, g, l⟩, .slice pa l.length pc), rowP H ((((((w2.setCell ⟨gb, k * 6, none⟩ (strL s)).setCell ⟨gb, k * 6 + 1, none⟩ (.bool on)).setCell ⟨gb, k * 6 + 2, none⟩ (.bool use)).setCell ⟨gb, k * 6 + 3, none⟩ (.int .i64 S)).setCell ⟨gb, k * 6 + 4, none⟩ (.int .i64 g)).setCell ⟨gb, k * 6 + 5, none⟩ (.slice pa l.length pc)) q := fun q hq => by
    rcases List.mem_or_eq_of_mem_set hq with h | rfl
    · exact (hv.rows q h).fr0 hF
    · exact hp.fr0 hF
  have hll : (P.set k (⟨s, on, use, S, g, l⟩, .slice pa l.length pc)).length = P.length := by simp
  rw [← hll] at hown3
  have hsl := SlF.of_owns (f := enC) hown3
  rw [hll] at hsl
  have Hres := hidIt (RefE.mk hsl (okH.mk (fun n c h => (by cases h)) (fun k hk hm => (by have h1 : gb = k := (by simpa [Value.ownBlock] using hk); have h2 := hv.low k hm; omega))) hrows (fun k hk => Nat.lt_of_lt_of_le (hv.low k hk) hF.size))
  replace hF := hidIt hF
  clear hown3 hfs hrows hown2 hgrow hloc hf2 d hf5 B5 B5b hsl hll hmade
  go_wp2
  go_ret
  exact ⟨_, rfl, Hres.out, hF.out⟩
/-! ### put -/
def insP (p : Ent × Value) : List (Ent × Value) → List (Ent × Value)
  | [] => [p]
  | d :: l => if p.1.name < d.1.name then p :: d :: l else d :: insP p l
theorem insP_E (p : Ent × Value) : ∀ P : List (Ent × Value), (insP p P).map (·.1) = insE p.1 (P.map (·.1))
  | [] => rfl
  | d :: l => by
    simp only [insP, insE, List.map_cons]
    split
    · rfl
    · rw [List.map_cons, insP_E p l]
theorem mem_insP {p q : Ent × Value} : ∀ {P : List (Ent × Value)}, q ∈ insP p P → q = p ∨ q ∈ P
  | [], h => by simp [insP] at h; exact .inl h
  | d :: l, h => by
    simp only [insP] at h
    split at h
    · rcases List.mem_cons.1 h with h | h
      · exact .inl h
      · exact .inr h
    · rcases List.mem_cons.1 h with h | h
      · exact .inr (by simp [h])
      · rcases mem_insP h with h | h
        · exact .inl h
        · exact .inr (List.mem_cons_of_mem _ h)
theorem insP_len (p : Ent × Value) : ∀ P : List (Ent × Value), (insP p P).length = P.length + 1
  | [] => rfl
  | d :: l => by
    simp only [insP]
    split
    · rfl
    · simp [insP_len p l]
/-- what is still to come -/
def restP (p : Ent × Value) (P : List (Ent × Value)) (d : Bool) (k : Nat) : List (Ent × Value) := if d = true then P.drop k else insP p (P.drop k)
set_option maxRecDepth 100000 in
set_option maxHeartbeats 1600000 in
theorem rPut_calls (v : Value) (P : List (Ent × Value)) (p : Ent × Value) (w : World) (hv : RefE H w v P) (h100 : P.length ≤ 100) (hp : rowP H w p) :
    Calls Tryz.prog 33 #[v, enV p] w (withPost H w (insP p P)) := by
  obtain ⟨a, cap, rfl, hlc, hcm, _⟩ := hv.sl.open
  obtain ⟨pa, pn, pc, hpe0⟩ := enT (H := H) w p
  have hpe := hpe0 hp
  have hpone := slb_one hp.1
  have HP : Hid (∀ W : World, enC p = [strL p.1.name, .bool p.1.on, .bool p.1.use, .int .i64 p.1.S, .int .i64 p.1.g, .slice pa pn pc]) := hidIt (fun _ => by rw [← hpe]; rfl)
  have B3 := Blk.new w [strL p.1.name, .bool p.1.on, .bool p.1.use, .int .i64 p.1.S, .int .i64 p.1.g, .slice pa pn pc] 76
  have hf3 := (Fr.refl [] w).alloc (.cells #[strL p.1.name, .bool p.1.on, .bool p.1.use, .int .i64 p.1.S, .int .i64 p.1.g, .slice pa pn pc] 76)
  have Hlen := insP_len p P
  have Hlow := hidIt hv.low
  unfold enV
  rw [hpe]
  clear hpe0
  go_enter Tryz.func33, Tryz.ntmps33
  go_wp2
  go_loopw [5, 6, 7] (fun u d i wr => ∃ (k : Nat) (db : Bool) (O : List (Ent × Value)), k ≤ P.length ∧ i = .int .i64 k ∧ d = .bool db ∧ O ++ restP p P db k = insP p P ∧ wr.ownsRow w.heap.size 76 6 u O.length (O.flatMap enC) ∧ Blk wr w.heap.size [strL p.1.name, .bool p.1.on, .bool p.1.use, .int .i64 p.1.S, .int .i64 p.1.g, .slice pa pn pc] 76 ∧ (∀ x, u.ownBlock = some x → x ≠ w.heap.size) ∧ Fr [] w wr) (fun _ _ i _ => P.length - (intOf i).toNat)
  case atStart => exact ⟨0, false, [], Nat.zero_le _, rfl, rfl, by simp [restP], by simpa using World.ownsRow_nil _ _ _ _, B3, by simp [Value.ownBlock], hf3⟩
  case round =>
    obtain ⟨k, db, O, hk, rfl, rfl, hO, hown, B, hne, hF⟩ := hrel
    have hOl : O.length ≤ 101 := by
      have := congrArg List.length hO
      rw [List.length_append, Hlen] at this
      omega
    have c3 := B.cell
    have l3 := B.lt
    have hsz := hF.size
    by_cases hlt : k < P.length
    · obtain ⟨b, off, rfl, hb, d0, d1, d2, d3, d4, d5⟩ := SlE.at hv.sl hlt
      have hg : P.getD k zP = P[k] := by rw [List.getD_eq_getElem?_getD, List.getElem?_eq_getElem hlt]; rfl
      have hq := hv.rows _ (List.getElem_mem hlt)
      have hqone := slb_one hq.1
      have hdr := List.drop_eq_getElem_cons hlt
      obtain ⟨qa, qn, qc, hqe0⟩ := enT (H := H) w (P[k])
      have hqe := hqe0 hq
      rw [hg] at d0 d1 d2 d3 d4 d5
      rw [hqe] at d5
      have HQ : Hid (∀ W : World, enC (P[k]) = [strL (P[k]).1.name, .bool (P[k]).1.on, .bool (P[k]).1.use, .int .i64 (P[k]).1.S, .int .i64 (P[k]).1.g, .slice qa qn qc]) := hidIt (fun _ => by rw [← hqe]; rfl)
      have Hdone : Hid (db = true → (O ++ [P[k]]) ++ restP p P true (k + 1) = insP p P) := hidIt (fun h => by
        subst h
        rw [← hO, List.append_assoc]
        unfold restP
        simp only [if_pos]
        rw [hdr]
        rfl)
      have Hno : Hid (db = false → ¬ p.1.name < (P[k]).1.name → (O ++ [P[k]]) ++ restP p P false (k + 1) = insP p P) := hidIt (fun h h2 => by
        subst h
        rw [← hO, List.append_assoc]
        unfold restP
        rw [if_neg (by simp), if_neg (by simp), hdr]
        simp only [insP, if_neg h2]
        rfl)
      have Hyes : Hid (db = false → p.1.name < (P[k]).1.name → (O ++ [p] ++ [P[k]]) ++ restP p P true (k + 1) = insP p P) := hidIt (fun h h2 => by
        subst h
        rw [← hO, List.append_assoc, List.append_assoc]
        unfold restP
        rw [if_pos rfl, if_neg (by simp), hdr]
        simp only [insP, if_pos h2]
        rfl)
      clear hqe0 hg hdr hO
      generalize P[k] = q at *
      have hbl : off + k * 6 < off + k * 6 + 6 := by omega
      cases db with
      | true =>
        have Hd := hidIt (Hdone.out rfl)
        clear Hdone Hno Hyes hq hv hp
        have e0 := ((hF.rules0).1 b _ hb).trans d0
        have e1 := ((hF.rules0).1 b _ hb).trans d1
        have e2 := ((hF.rules0).1 b _ hb).trans d2
        have e3 := ((hF.rules0).1 b _ hb).trans d3
        have e4 := ((hF.rules0).1 b _ hb).trans d4
        have e5 := ((hF.rules0).1 b _ hb).trans d5
        go_wp2_with fail
        go_quiet (fail)
        replace hown := owns_drewN hown nq
        replace hF := hF.drewN nq
        replace B := B.drewN nq
        generalize wr.drewN nq = wq at *
        clear e0 e1 e2 e3 e4 e5
        have e0 := ((hF.rules0).1 b _ hb).trans d0
        have e1 := ((hF.rules0).1 b _ hb).trans d1
        have e2 := ((hF.rules0).1 b _ hb).trans d2
        have e3 := ((hF.rules0).1 b _ hb).trans d3
        have e4 := ((hF.rules0).1 b _ hb).trans d4
        have e5 := ((hF.rules0).1 b _ hb).trans d5
        have c3 := B.cell
        have l3 := B.lt
        have hsz := hF.size
        go_wp2_with (at_builtin; refine Hid.out ?_)
        refine hidIt ?_
        refine wpList_append1 31 76 (.agg #[.string ⟨#[]⟩, .bool false, .bool false, .int .i64 0, .int .i64 0, .slice none 0 0]) 6 64 Tryz.underlying31 infoEn rfl (by decide) (by decide) rfl _ _ rfl w.heap.size _ _ _ rfl (hown.alloc _) [_, _, _, _, _, _] rfl (by have h1 := en_one hqone; rw [HQ.out wq] at h1; exact h1) wq.heap.size rfl (Blk.new _ _ _) (show O.length ≤ _ by omega) (by simp; omega) ?_
        intro v2 w2 hown2 hgr hloc
        have hF2 : Fr [] w w2 := (hF.alloc _).grown hgr (fun x hx => .inr (own_base hown x hx))
        have B2 := B.fr (((Fr.refl (u5).ownBlock.toList wq).alloc _).grown hgr (fun x hx => .inl (own_in (v := u5) hx))) (fun hx => hne _ (by simpa using hx) rfl)
        have hne2 : ∀ x, (v2).ownBlock = some x → x ≠ w.heap.size := fun x hx => by
          rcases hloc with h | h
          · exact hne x (h.symm.trans hx)
          · have h2 := h.symm.trans hx
            have h3 := hF.size
            have h4 := B.lt
            cases h2
            simp
            omega
        rw [← HQ.out wr, show (O).flatMap enC ++ enC (q) = (O ++ [q]).flatMap enC by simp, show (O).length + 1 = (O ++ [q]).length by simp] at hown2
        clear hown hgr hloc e0 e1 e2 e3 e4 e5
        go_wp2
        go_roundw
        case rel => exact ⟨k + 1, true, O ++ [q], by omega, by go_num, rfl, Hd.out, hown2, B2, hne2, hF2⟩
        case measure => simp [intOf]; omega
      | false =>
        have e0 := ((hF.rules0).1 b _ hb).trans d0
        have e1 := ((hF.rules0).1 b _ hb).trans d1
        have e2 := ((hF.rules0).1 b _ hb).trans d2
        have e3 := ((hF.rules0).1 b _ hb).trans d3
        have e4 := ((hF.rules0).1 b _ hb).trans d4
        have e5 := ((hF.rules0).1 b _ hb).trans d5
        have hls := bytesLess_eq p.1.name q.1.name
        by_cases hless : p.1.name < q.1.name
        · have Hd := hidIt (Hyes.out rfl hless)
          have hls2 : Op.bytesLess p.1.name q.1.name = true := by rw [hls]; exact decide_eq_true hless
          clear Hdone Hno Hyes hq hv hp hls hless
          go_wp2_with fail
          go_quiet (fail)
          replace hown := owns_drewN hown nq
          replace hF := hF.drewN nq
          replace B := B.drewN nq
          generalize wr.drewN nq = wq at *
          clear e0 e1 e2 e3 e4 e5
          have e0 := ((hF.rules0).1 b _ hb).trans d0
          have e1 := ((hF.rules0).1 b _ hb).trans d1
          have e2 := ((hF.rules0).1 b _ hb).trans d2
          have e3 := ((hF.rules0).1 b _ hb).trans d3
          have e4 := ((hF.rules0).1 b _ hb).trans d4
          have e5 := ((hF.rules0).1 b _ hb).trans d5
          have c3 := B.cell
          have l3 := B.lt
          have hsz := hF.size
          go_wp2_with (at_builtin; refine Hid.out ?_)
          refine hidIt ?_
          refine wpList_append1 31 76 (.agg #[.string ⟨#[]⟩, .bool false, .bool false, .int .i64 0, .int .i64 0, .slice none 0 0]) 6 64 Tryz.underlying31 infoEn rfl (by decide) (by decide) rfl _ _ rfl w.heap.size _ _ _ rfl (hown.alloc _) [_, _, _, _, _, _] rfl (by have h1 := en_one hpone; rw [HP.out wq] at h1; exact h1) wq.heap.size rfl (Blk.new _ _ _) (show O.length ≤ _ by omega) (by simp; omega) ?_
          intro v2 w2 hown2 hgr hloc
          have hF2 : Fr [] w w2 := (hF.alloc _).grown hgr (fun x hx => .inr (own_base hown x hx))
          have B2 := B.fr (((Fr.refl (u5).ownBlock.toList wq).alloc _).grown hgr (fun x hx => .inl (own_in (v := u5) hx))) (fun hx => hne _ (by simpa using hx) rfl)
          have hne2 : ∀ x, (v2).ownBlock = some x → x ≠ w.heap.size := fun x hx => by
            rcases hloc with h | h
            · exact hne x (h.symm.trans hx)
            · have h2 := h.symm.trans hx
              have h3 := hF.size
              have h4 := B.lt
              cases h2
              simp
              omega
          rw [← HP.out wr, show (O).flatMap enC ++ enC (p) = (O ++ [p]).flatMap enC by simp, show (O).length + 1 = (O ++ [p]).length by simp] at hown2
          clear hown hgr hloc e0 e1 e2 e3 e4 e5 c3 l3
          have hsz2 := hF2.size
          have e0 := ((hF2.rules0).1 b _ hb).trans d0
          have e1 := ((hF2.rules0).1 b _ hb).trans d1
          have e2 := ((hF2.rules0).1 b _ hb).trans d2
          have e3 := ((hF2.rules0).1 b _ hb).trans d3
          have e4 := ((hF2.rules0).1 b _ hb).trans d4
          have e5 := ((hF2.rules0).1 b _ hb).trans d5
          clear d0 d1 d2 d3 d4 d5
          go_wp2_with (at_builtin; refine Hid.out ?_)
          refine hidIt ?_
          refine wpList_append1 31 76 (.agg #[.string ⟨#[]⟩, .bool false, .bool false, .int .i64 0, .int .i64 0, .slice none 0 0]) 6 64 Tryz.underlying31 infoEn rfl (by decide) (by decide) rfl _ _ rfl w.heap.size _ _ _ rfl (hown2.alloc _) [_, _, _, _, _, _] rfl (by have h1 := en_one hqone; rw [HQ.out w2] at h1; exact h1) w2.heap.size rfl (Blk.new _ _ _) (show (O ++ [p]).length ≤ _ by simp; omega) (by simp; omega) ?_
          intro v3 w3 hown3 hgr3 hloc3
          have hF3 : Fr [] w w3 := (hF2.alloc _).grown hgr3 (fun x hx => .inr (own_base hown2 x hx))
          have B3b := B2.fr (((Fr.refl (v2).ownBlock.toList w2).alloc _).grown hgr3 (fun x hx => .inl (own_in (v := v2) hx))) (fun hx => hne2 _ (by simpa using hx) rfl)
          have hne3 : ∀ x, (v3).ownBlock = some x → x ≠ w.heap.size := fun x hx => by
            rcases hloc3 with h | h
            · exact hne2 x (h.symm.trans hx)
            · have h2 := h.symm.trans hx
              have h3 := hF2.size
              have h4 := B2.lt
              cases h2
              simp
              omega
          rw [← HQ.out w2, show (O ++ [p]).flatMap enC ++ enC (q) = (O ++ [p] ++ [q]).flatMap enC by simp, show (O ++ [p]).length + 1 = (O ++ [p] ++ [q]).length by simp] at hown3
          clear hown2 hgr3 hloc3 e0 e1 e2 e3 e4 e5
          go_wp2
          go_roundw
          case rel => exact ⟨k + 1, true, O ++ [p] ++ [q], by omega, by go_num, rfl, Hd.out, hown3, B3b, hne3, hF3⟩
          case measure => simp [intOf]; omega
        · have Hd := hidIt (Hno.out rfl hless)
          have hls2 : Op.bytesLess p.1.name q.1.name = false := by rw [hls]; exact decide_eq_false hless
          clear Hdone Hno Hyes hq hv hp hls hless
          go_wp2_with fail
          go_quiet (fail)
          replace hown := owns_drewN hown nq
          replace hF := hF.drewN nq
          replace B := B.drewN nq
          generalize wr.drewN nq = wq at *
          clear e0 e1 e2 e3 e4 e5
          have e0 := ((hF.rules0).1 b _ hb).trans d0
          have e1 := ((hF.rules0).1 b _ hb).trans d1
          have e2 := ((hF.rules0).1 b _ hb).trans d2
          have e3 := ((hF.rules0).1 b _ hb).trans d3
          have e4 := ((hF.rules0).1 b _ hb).trans d4
          have e5 := ((hF.rules0).1 b _ hb).trans d5
          have c3 := B.cell
          have l3 := B.lt
          have hsz := hF.size
          go_wp2_with (at_builtin; refine Hid.out ?_)
          refine hidIt ?_
          refine wpList_append1 31 76 (.agg #[.string ⟨#[]⟩, .bool false, .bool false, .int .i64 0, .int .i64 0, .slice none 0 0]) 6 64 Tryz.underlying31 infoEn rfl (by decide) (by decide) rfl _ _ rfl w.heap.size _ _ _ rfl (hown.alloc _) [_, _, _, _, _, _] rfl (by have h1 := en_one hqone; rw [HQ.out wq] at h1; exact h1) wq.heap.size rfl (Blk.new _ _ _) (show O.length ≤ _ by omega) (by simp; omega) ?_
          intro v2 w2 hown2 hgr hloc
          have hF2 : Fr [] w w2 := (hF.alloc _).grown hgr (fun x hx => .inr (own_base hown x hx))
          have B2 := B.fr (((Fr.refl (u5).ownBlock.toList wq).alloc _).grown hgr (fun x hx => .inl (own_in (v := u5) hx))) (fun hx => hne _ (by simpa using hx) rfl)
          have hne2 : ∀ x, (v2).ownBlock = some x → x ≠ w.heap.size := fun x hx => by
            rcases hloc with h | h
            · exact hne x (h.symm.trans hx)
            · have h2 := h.symm.trans hx
              have h3 := hF.size
              have h4 := B.lt
              cases h2
              simp
              omega
          rw [← HQ.out wr, show (O).flatMap enC ++ enC (q) = (O ++ [q]).flatMap enC by simp, show (O).length + 1 = (O ++ [q]).length by simp] at hown2
          clear hown hgr hloc e0 e1 e2 e3 e4 e5
          go_wp2
          go_roundw
          case rel => exact ⟨k + 1, false, O ++ [q], by omega, by go_num, rfl, Hd.out, hown2, B2, hne2, hF2⟩
          case measure => simp [intOf]; omega
    · have hke : k = P.length := by omega
      subst hke
      have hrows : ∀ W, Fr [] w W → ∀ q ∈ insP p P, rowP H W q := fun W hW q hq => by
        rcases mem_insP hq with rfl | h
        · exact hp.fr0 hW
        · exact (hv.rows q h).fr0 hW
      have Hrows := hidIt hrows
      cases db with
      | true =>
        have hO2 : O = insP p P := by simpa [restP] using hO
        subst hO2
        have hsl := SlF.of_owns (f := enC) hown
        have hokv := okH.of_owns hown Hlow.out
        clear hown hrows hO hv hp
        go_wp2
        go_ret
        exact ⟨_, rfl, ⟨hsl, hokv, Hrows.out _ hF, fun k hk => Nat.lt_of_lt_of_le (Hlow.out k hk) hF.size⟩, hF⟩
      | false =>
        have hO2 : O ++ [p] = insP p P := by simpa [restP, insP] using hO
        clear hrows hO hv hp
        go_wp2_with (at_builtin; refine Hid.out ?_)
        refine hidIt ?_
        refine wpList_append1 31 76 (.agg #[.string ⟨#[]⟩, .bool false, .bool false, .int .i64 0, .int .i64 0, .slice none 0 0]) 6 64 Tryz.underlying31 infoEn rfl (by decide) (by decide) rfl _ _ rfl w.heap.size _ _ _ rfl (hown.alloc _) [_, _, _, _, _, _] rfl (by have h1 := en_one hpone; rw [HP.out wr] at h1; exact h1) wr.heap.size rfl (Blk.new _ _ _) (show O.length ≤ _ by omega) (by simp; omega) ?_
        intro v2 w2 hown2 hgr hloc
        have hF2 : Fr [] w w2 := (hF.alloc _).grown hgr (fun x hx => .inr (own_base hown x hx))
        have B2 := B.fr (((Fr.refl (u5).ownBlock.toList wr).alloc _).grown hgr (fun x hx => .inl (own_in (v := u5) hx))) (fun hx => hne _ (by simpa using hx) rfl)
        have hne2 : ∀ x, (v2).ownBlock = some x → x ≠ w.heap.size := fun x hx => by
          rcases hloc with h | h
          · exact hne x (h.symm.trans hx)
          · have h2 := h.symm.trans hx
            have h3 := hF.size
            have h4 := B.lt
            cases h2
            simp
            omega
        rw [← HP.out wr, show (O).flatMap enC ++ enC (p) = (O ++ [p]).flatMap enC by simp, show (O).length + 1 = (O ++ [p]).length by simp] at hown2
        rw [hO2] at hown2
        have hsl := SlF.of_owns (f := enC) hown2
        have hokv := okH.of_owns hown2 Hlow.out
        clear hown hown2 hgr hloc hO2
        go_wp2
        go_ret
        exact ⟨_, rfl, ⟨hsl, hokv, Hrows.out _ hF2, fun k hk => Nat.lt_of_lt_of_le (Hlow.out k hk) hF2.size⟩, hF2⟩
end Go.Proofs.YtiifmakhfpllnaaGreat

namespace Go.Proofs.YtiifmakhfpllnaaGreat
open Go.RowKit Go.Maps

def signsL : List UInt8 := [97, 98, 99, 100, 101, 102, 103, 104, 105, 106, 107, 108, 109, 110, 111, 112, 113, 114, 115, 116, 117, 118, 119, 120, 121, 122, 48, 49, 50, 51, 52, 53, 54, 55, 56, 57, 46, 45]
theorem signs_ok : ∀ n : Fin 256, signsL.contains (UInt8.ofNat n.val) = okSign (UInt8.ofNat n.val) := by decide +kernel
theorem signs_all (x : UInt8) : signsL.contains x = okSign x := by
  have h := signs_ok ⟨x.toNat, x.toNat_lt⟩
  simpa using h
theorem take_contains {Q : List UInt8} {k : Nat} (hk : k < Q.length) (x : UInt8) : (Q.take (k + 1)).contains x = ((Q.take k).contains x || (Q.getD k 0 == x)) := by
  have h1 : Q.take (k + 1) = Q.take k ++ [Q[k]] := List.take_succ_eq_append_getElem hk
  rw [h1, List.getD_eq_getElem?_getD, List.getElem?_eq_getElem hk, Bool.eq_iff_iff]
  simp only [List.contains_iff_mem, List.mem_append, List.mem_singleton, Bool.or_eq_true, beq_iff_eq, Option.getD_some]
  constructor
  · rintro (h | h)
    · exact .inl h
    · exact .inr h.symm
  · rintro (h | h)
    · exact .inl h
    · exact .inr h.symm
set_option maxRecDepth 100000 in
set_option maxHeartbeats 1600000 in
theorem rNameR_calls (s : List UInt8) (w : World) (hs : s.length ≤ maxLen) : Calls Tryz.prog 31 #[strL s] w fun e w' => e = .returned (.bool (okName s)) ∧ Fr [] w w' := by
  unfold maxLen at hs
  have hlen := fun ty X => len_str s ty X
  obtain ⟨Q, hQ⟩ : ∃ Q, Q = signsL := ⟨_, rfl⟩
  have hlit : Value.string ⟨#[97, 98, 99, 100, 101, 102, 103, 104, 105, 106, 107, 108, 109, 110, 111, 112, 113, 114, 115, 116, 117, 118, 119, 120, 121, 122, 48, 49, 50, 51, 52, 53, 54, 55, 56, 57, 46, 45]⟩ = strL Q := by rw [hQ]; rfl
  have hQl : Q.length = 38 := by rw [hQ]; rfl
  have HQ := hidIt hQ
  have hlenQ := fun ty X => len_str Q ty X
  rw [hQl] at hlenQ
  clear hQ
  go_enter Tryz.func31, Tryz.ntmps31
  go_wp2
  go_loopw [4, 5, 6] (fun i _ _ wr => ∃ k : Nat, k ≤ s.length ∧ i = .int .i64 k ∧ (s.take k).all okSign = true ∧ Fr [] w wr) (fun i _ _ _ => s.length - (intOf i).toNat)
  case atStart => exact ⟨0, Nat.zero_le _, rfl, by simp, Fr.refl _ _⟩
  case round =>
    obtain ⟨k, hk, rfl, hall, hF⟩ := hrel
    by_cases hlt : k < s.length
    · have hat := fun X => at_str hlt X
      have Hyes : Hid (okSign (s.getD k 0) = true → (s.take (k + 1)).all okSign = true) := hidIt (all_take hall hlt)
      have Hno : Hid (okSign (s.getD k 0) = false → okName s = false) := hidIt (all_not hlt)
      clear hall
      generalize s.getD k 0 = x at *
      go_wp2
      go_loopw [5, 6] (fun d i w2 => ∃ j : Nat, j ≤ 38 ∧ i = .int .i64 j ∧ d = .bool ((Q.take j).contains x) ∧ Fr [] w w2) (fun _ i _ => 38 - (intOf i).toNat)
      case atStart => exact ⟨0, Nat.zero_le _, rfl, by simp, hF⟩
      case round =>
        clear hF
        obtain ⟨j, hj, rfl, rfl, hF⟩ := hrel
        by_cases hjl : j < 38
        · have hatQ := fun X => at_str (l := Q) (i := j) (by omega) X
          have Hst := hidIt (take_contains (Q := Q) (k := j) (by omega) x)
          generalize Q.getD j 0 = y at *
          generalize (Q.take j).contains x = cb at *
          by_cases hxy : y = x
          · have hb : ((y.toNat : Int) == (x.toNat : Int)) = true := by simp [hxy]
            have Hr : Hid ((Q.take (j + 1)).contains x = true) := hidIt (by rw [Hst.out, hxy]; simp)
            clear hxy Hst
            generalize (y.toNat : Int) = Y at *
            generalize (x.toNat : Int) = X at *
            go_wp2_with fail
            go_quiet (fail)
            go_wp2
            go_roundw
            case rel => exact ⟨j + 1, by omega, by go_num, by rw [Hr.out], hF.drewN _⟩
            case measure => simp [intOf]; omega
          · have hb : ((y.toNat : Int) == (x.toNat : Int)) = false := by
              simp only [beq_eq_false_iff_ne, ne_eq]
              intro h
              exact hxy (UInt8.toNat_inj.1 (by omega))
            have Hr : Hid ((Q.take (j + 1)).contains x = cb) := hidIt (by rw [Hst.out]; simp [hxy])
            clear hxy Hst
            generalize (y.toNat : Int) = Y at *
            generalize (x.toNat : Int) = X at *
            go_wp2_with fail
            go_quiet (fail)
            go_wp2
            go_roundw
            case rel => exact ⟨j + 1, by omega, by go_num, by rw [Hr.out], hF.drewN _⟩
            case measure => simp [intOf]; omega
        · have hje : j = 38 := by omega
          subst hje
          have hc : (Q.take 38).contains x = okSign x := by rw [← hQl, List.take_length, HQ.out, signs_all]
          rw [hc]
          cases hok : okSign x with
          | true =>
            have Hy := hidIt (Hyes.out hok)
            clear Hyes Hno hok hc
            go_wp2
            go_roundw
            case rel => exact ⟨k + 1, by omega, by go_num, Hy.out, hF⟩
            case measure => simp [intOf]; omega
          | false =>
            have Hn := hidIt (Hno.out hok)
            clear Hyes Hno hok hc
            go_wp2
            go_ret
            exact ⟨ret_bool Hn.out.symm, hF⟩
    · have hke : k = s.length := by omega
      subst hke
      rw [List.take_length] at hall
      have Hr : Hid (okName s = (decide ((0 : Int) < s.length) && decide ((s.length : Int) < 16))) := hidIt (by
        unfold okName
        rw [hall, Bool.true_and]
        rw [Bool.eq_iff_iff]
        simp
        omega)
      clear hall
      by_cases h0 : (0 : Int) < s.length
      · go_wp2
        go_ret
        exact ⟨ret_bool (by rw [Hr.out, decide_eq_true h0, Bool.true_and]), hF⟩
      · go_wp2
        go_ret
        exact ⟨ret_bool (by rw [Hr.out, decide_eq_false (show ¬ (0 : Int) < s.length by omega)]; rfl), hF⟩
end Go.Proofs.YtiifmakhfpllnaaGreat

namespace Go.Proofs.YtiifmakhfpllnaaGreat
open Go
section
variable {P : Program} {ops : Array Oper} {Q : Exit → Act → World → Prop} {S : World → Prop}
def wpB2 (P : Program) (ops : Array Oper) (S : World → Prop) (Q : Exit → Act → World → Prop) (l1 l2 : List (Bool × Oper)) : List Oper → Act → World → Prop
  | [], a, w => wpG P ops S Q l1 a w ∧ wpG P ops S Q l2 a w
  | o :: rest, a, w => ∃ v, YieldsIf P ops S o v a ∧ wpB2 P ops S Q l1 l2 rest (a.put o.dst v) w
def fB2 (md : Region.Mode) (ops : Array Oper) (k1 k2 : Nat) (r1 r2 : List (Bool × Nat)) : List Nat → Array Bool → Bool
  | [], listed => decide (Region.ready md ops listed = [k1, k2]) && fB md ops r1 (listed.setIfInBounds k1 true) && fB md ops r2 (listed.setIfInBounds k2 true)
  | k :: rest, listed => Region.free md ops listed k && (Region.ready md ops listed).contains k && fB2 md ops k1 k2 r1 r2 rest (listed.setIfInBounds k true)
theorem wpAnyH_B2 {md : Region.Mode} (hs : Region.noSelect ops = true) (hQ : ∀ c a a' w, Q (.panic c) a w → Q (.panic c) a' w) (d : Oper) (k1 k2 : Nat) (r1 r2 : List (Bool × Nat)) (hr : r1.length = r2.length) (hk1 : k1 < ops.size) (hk2 : k2 < ops.size) (hr1 : ∀ p ∈ r1, p.2 < ops.size) (hr2 : ∀ p ∈ r2, p.2 < ops.size) : ∀ (l : List Nat) (listed : Array Bool) (a : Act) (w : World), (∀ p ∈ l, p < ops.size) →
    fB2 md ops k1 k2 r1 r2 l listed = true → S w → wpB2 P ops S Q (inOrder ops.toList d ((false, k1) :: r1)) (inOrder ops.toList d ((false, k2) :: r2)) (l.map fun k => ops.toList.getD k d) a w → wpAnyH P md ops Q S (l.length + 1 + r1.length) listed a w
  | [], listed, a, w, _, hB, hS, h => by
    simp only [fB2, Bool.and_eq_true, decide_eq_true_eq] at hB
    obtain ⟨h1, h2⟩ := h
    have key : ∀ (k : Nat) (r : List (Bool × Nat)) (hk : k < ops.size) (hr : ∀ p ∈ r, p.2 < ops.size), fB md ops r (listed.setIfInBounds k true) = true → wpG P ops S Q (inOrder ops.toList d ((false, k) :: r)) a w → wpOp P ops Q k (fun a' w' => S w' ∧ wpAnyH P md ops Q S r.length (listed.setIfInBounds k true) a' w') a w := by
      intro k r hk hr hf h
      have h0 : ops[k]? = some (ops.toList.getD k d) := by simp [hk]
      refine wpOp_step h0 fun K' hK => ?_
      replace h : wpG P ops S Q ((false, ops.toList.getD k d) :: inOrder ops.toList d r) a w := h
      unfold wpG at h
      split at h
      · rename_i hw
        rw [if_pos hw]
        exact Oper.wp_mono (fun a w h => let ⟨S', g1, g2, g3⟩ := h; hK _ _ ⟨g1 _ g2, anyH_S g1 _ _ _ _ (wpAnyH_G hs hQ d r S' _ a w hr hf g2 g3)⟩) h
      · rename_i hw
        rw [if_neg hw]
        exact hK _ _ ⟨hS, wpAnyH_G hs hQ d r S _ _ w hr hf hS h⟩
    have hlen : ([] : List Nat).length + 1 + r1.length = r1.length + 1 := by simp; omega
    rw [hlen]
    refine wpAnyH_all hB.1.1 (by simp) fun i hi => ?_
    rcases List.mem_cons.1 hi with rfl | hi
    · exact key _ r1 hk1 hr1 hB.1.2 h1
    · obtain rfl : i = k2 := by simpa using hi
      rw [hr]
      exact key _ r2 hk2 hr2 hB.2 h2
  | k :: l, listed, a, w, hl, hB, hS, h => by
    have hk : k < ops.size := hl _ List.mem_cons_self
    have h0 : ops[k]? = some (ops.toList.getD k d) := by simp [hk]
    simp only [fB2, Bool.and_eq_true] at hB
    obtain ⟨v, hy, h⟩ := h
    have hlen : (k :: l).length + 1 + r1.length = (l.length + 1 + r1.length) + 1 := by simp; omega
    rw [hlen]
    exact wpAnyH_take h0 hs hB.1.1 hB.1.2 (fun c a w => hQ c _ _ w) hy hS (wpAnyH_B2 hs hQ d k1 k2 r1 r2 hr hk1 hk2 hr1 hr2 l _ _ w (fun p hp => hl p (List.mem_cons_of_mem _ hp)) hB.2 hS h)
def b2B (ops : Array Oper) (l : List Nat) (k1 k2 : Nat) (r1 r2 : List (Bool × Nat)) : Bool :=
  plainOps ops && (Region.noSelect ops && decide (r1.length = r2.length) && decide (l.length + 1 + r1.length = ops.size) && decide (k1 < ops.size) && decide (k2 < ops.size) && l.all (fun p => decide (p < ops.size)) && r1.all (fun p => decide (p.2 < ops.size)) && r2.all (fun p => decide (p.2 < ops.size)) && fB2 .any ops k1 k2 r1 r2 l (Array.replicate ops.size false))
theorem wp_region_B2 {id : Nat} {a : Act} {w : World} {o : Oper} {l : List Oper} (S : World → Prop) (p : List Nat) (k1 k2 : Nat) (r1 r2 : List (Bool × Nat)) (hm : P.follows .mixedOrders = true) (hB : b2B (o :: l).toArray p k1 k2 r1 r2 = true) (hS : S w.drew)
    (h : wpB2 P (o :: l).toArray S (noEnd Q) (inOrder (o :: l) o ((false, k1) :: r1)) (inOrder (o :: l) o ((false, k2) :: r2)) (p.map fun k => (o :: l).getD k o) a w.drew) : (Code.region id (o :: l).toArray true).wp P Q a w := by
  refine Code.wp_mono noEnd_imp (wp_region_any hm ?_)
  simp only [b2B, Bool.and_eq_true, decide_eq_true_eq, List.all_eq_true] at hB
  obtain ⟨_, ⟨⟨⟨⟨⟨⟨⟨hs, hr⟩, ht⟩, hk1⟩, hk2⟩, hp⟩, h1⟩, h2⟩, hB⟩ := hB
  have := wpAnyH_B2 (P := P) (Q := noEnd Q) (md := .any) hs (fun _ _ _ _ h => h) o k1 k2 r1 r2 hr hk1 hk2 (fun p hp => h1 p hp) (fun p hp => h2 p hp) p (Array.replicate (o :: l).toArray.size false) a w.drew (fun q hq => hp q hq) hB hS h
  rw [ht] at this
  exact wpAny_of_held _ _ _ _ this
variable {a : Act} {w : World} {rest : List Oper} {o : Oper} {l1 l2 : List (Bool × Oper)}
theorem wpB2_end (h1 : wpG P ops S Q l1 a w) (h2 : wpG P ops S Q l2 a w) : wpB2 P ops S Q l1 l2 [] a w := ⟨h1, h2⟩
theorem wpB2_pure (h : ∀ K : Act → Prop, (∀ a, wpB2 P ops S Q l1 l2 rest a w → K a) → if Region.wanted o (yielded ops a.tmps) then ∃ v, (∀ w, (execOp a.eval o).run P w = .ok (.value v) w) ∧ K (a.put o.dst v) else K (a.put o.dst undef)) :
    wpB2 P ops S Q l1 l2 (o :: rest) a w := by
  have := h (fun a => wpB2 P ops S Q l1 l2 rest a w) (fun _ h => h)
  by_cases hw : Region.wanted o (yielded ops a.tmps) = true
  · rw [if_pos hw] at this
    obtain ⟨v, h1, h2⟩ := this
    exact ⟨v, .inl ⟨hw, fun w _ => h1 w⟩, h2⟩
  · rw [if_neg hw] at this
    exact ⟨undef, .inr ⟨by simpa using hw, rfl⟩, this⟩
theorem wpB2_val (v : Value) (hw : Region.wanted o (yielded ops a.tmps) = true) (hr : ∀ W, S W → (execOp a.eval o).run P W = .ok (.value v) W) (h : wpB2 P ops S Q l1 l2 rest (a.put o.dst v) w) : wpB2 P ops S Q l1 l2 (o :: rest) a w :=
  ⟨v, .inl ⟨hw, hr⟩, h⟩
end
end Go.Proofs.YtiifmakhfpllnaaGreat
