/-
  law08.TableEach: the plain law and the walk.
-/
import Derived.Test.YtknbjdbdpdbeiaaTableAll
import Derived.Test.YtknbjdbdpdbeiaaTabEW
import Derived.Test.YtknbjdbdpdbeiaaTabRow
import Derived.Test.YtknbjdbdpdbeiaaHeldL
import Derived.Test.YtknbjdbdpdbeiaaOpenP
namespace Go.Proofs.Ytknbjdbdpdbeiaa
open Go.RowKit Go.Maps
attribute [local go_sem] Oper.semAt_some
attribute [local go_sem high] equalSlot0 equalSlotR0 fieldKind

/-! ### the plain law -/
theorem cntE_mono {l : List Slt} (a : Nat) : ∀ b, a ≤ b → b ≤ 256 → cntL l a ≤ cntL l b
  | b, hab, hb => by
    by_cases e : a = b
    · rw [e]; exact Nat.le_refl _
    · obtain ⟨m, rfl⟩ : ∃ m, b = m + 1 := ⟨b - 1, by omega⟩
      have ih := cntE_mono (l := l) a m (by omega) (by omega)
      cases hm : isL l m with
      | true => have := (cnt_next (by omega : m < 256) hm).2.2; omega
      | false => have := cnt_skip (by omega : m < 256) hm; omega
  termination_by b => b
theorem getD_inj {L : List Nat} (hn : L.Nodup) {i j : Nat} (hi : i < L.length) (hj : j < L.length) (e : L.getD i 0 = L.getD j 0) : i = j := by
  rw [List.getD_eq_getElem?_getD, List.getElem?_eq_getElem hi, List.getD_eq_getElem?_getD, List.getElem?_eq_getElem hj] at e
  exact (List.getElem?_inj hi hn).1 (by rw [List.getElem?_eq_getElem hi, List.getElem?_eq_getElem hj]; exact congrArg some e)
theorem listed_nodup (l : List Slt) : (listed l).Nodup := List.Pairwise.imp (fun h => Nat.ne_of_lt h) (List.Pairwise.filter _ List.pairwise_lt_range)
/-- between x and the k-th cluster that is listed there are Holes alone -/
theorem each_gap {l : List Slt} {x y k : Nat} (hk : k < (listed l).length) (hc : cntL l x = k) (h1 : x ≤ y) (h2 : y < (listed l).getD k 0) : (l.getD y zS).1 = 0 ∧ y < 256 := by
  have hm : (listed l).getD k 0 ∈ listed l := by
    rw [List.getD_eq_getElem?_getD, List.getElem?_eq_getElem hk]; exact List.getElem_mem _
  obtain ⟨m1, m2⟩ := List.mem_filter.1 hm
  rw [List.mem_range] at m1
  refine ⟨?_, by omega⟩
  cases hy : isL l y with
  | false => simpa [isL] using hy
  | true =>
    have n1 := (cnt_next (by omega : y < 256) hy).2.2
    have n2 := cntE_mono (l := l) (y + 1) _ (by omega) (Nat.le_of_lt m1)
    have n3 := cntE_mono (l := l) x y h1 (by omega)
    have n4 := cnt_next m1 m2
    have n5 := getD_inj (listed_nodup l) n4.1 hk n4.2.1
    omega
theorem each_at {l : List Slt} {x k : Nat} (hk : k < (listed l).length) (hx : x ≤ 256) (hc : cntL l x = k) : x ≤ (listed l).getD k 0 ∧ (listed l).getD k 0 < 256 ∧ (l.getD ((listed l).getD k 0) zS).1 ≠ 0 ∧ cntL l ((listed l).getD k 0 + 1) = k + 1 := by
  have hm : (listed l).getD k 0 ∈ listed l := by
    rw [List.getD_eq_getElem?_getD, List.getElem?_eq_getElem hk]; exact List.getElem_mem _
  obtain ⟨m1, m2⟩ := List.mem_filter.1 hm
  rw [List.mem_range] at m1
  have n4 := cnt_next m1 m2
  have n5 := getD_inj (listed_nodup l) n4.1 hk n4.2.1
  refine ⟨?_, m1, by simpa [isL] using m2, by omega⟩
  rcases Nat.lt_or_ge ((listed l).getD k 0) x with h | h
  · have := cntE_mono (l := l) ((listed l).getD k 0 + 1) x h hx
    omega
  · exact h
theorem each_rest {l : List Slt} {x y : Nat} (hc : cntL l x = (listed l).length) (h1 : x ≤ y) (h2 : y < 256) : (l.getD y zS).1 = 0 := by
  cases hy : isL l y with
  | false => simpa [isL] using hy
  | true =>
    have n1 := (cnt_next h2 hy).1
    have n3 := cntE_mono (l := l) x y h1 (by omega)
    omega
theorem listed_len (l : List Slt) : (listed l).length ≤ 256 := Nat.le_trans (List.length_filter_le _ _) (by simp)
/-! ### the walk -/
/-- what stands still while the rounds go on -/
structure EachS (w A : World) (tb mb b8 : Nat) (l : List Slt) (st fr lo : Int) : Prop where
  tab : TabW A tb mb l
  b5 : Blk A w.heap.size [.int .i64 st, .int .i64 fr, .int .i64 lo] 56
  b6 : Blk A (w.heap.size + 1) [.bool false] 4
  b7 : Blk A (w.heap.size + 2) [.int .i64 st] 3
  b8 : Blk A b8 [.pointer (some ⟨tb, 0, none⟩)] 23
  fr : Fr [] w A
theorem EachS.step {w A B : World} {tb mb b8 s : Nat} {l : List Slt} {st fr lo : Int} {M : List Nat} (h : EachS w A tb mb b8 l st fr lo) (hf : Fr M A B) (hs : tb < s ∧ mb < s ∧ b8 < s ∧ w.heap.size + 2 < s) (hM : ∀ x ∈ M, s ≤ x) : EachS w B tb mb b8 l st fr lo :=
  have nm : ∀ x, x < s → x ∉ M := fun x hx hm => by have := hM x hm; omega
  ⟨h.tab.fr hf (nm _ hs.1) (nm _ hs.2.1), h.b5.fr hf (nm _ (by omega)), h.b6.fr hf (nm _ (by omega)), h.b7.fr hf (nm _ (by omega)), h.b8.fr hf (nm _ hs.2.2.1), h.fr.trans hf (fun x hx hl => by have := hM x hx; omega)⟩
theorem EachS.step0 {w A B : World} {tb mb b8 : Nat} {l : List Slt} {st fr lo : Int} (h : EachS w A tb mb b8 l st fr lo) (hf : Fr [] A B) : EachS w B tb mb b8 l st fr lo :=
  ⟨h.tab.fr0 hf, h.b5.fr0 hf, h.b6.fr0 hf, h.b7.fr0 hf, h.b8.fr0 hf, h.fr.trans0 hf⟩
def cellN (W : World) (b : Nat) : Nat := (intOf ((W.cell? ⟨b, 0, none⟩).getD undef)).toNat
theorem cellN_blk {W : World} {b : Nat} {x : Int} {t : TypeId} (h : Blk W b [.int .i64 x] t) : cellN W b = x.toNat := by
  unfold cellN; rw [h.cell 0]; rfl
set_option maxRecDepth 100000 in
set_option maxHeartbeats 1600000 in
theorem TableEach_no (n : Int) (v : Value) (ops : List Opr) (st fr lo : Int) (w : World) (hv : SlO w v ops) (h : (okSize n && decide (ops.length ≤ 100)) = false) :
    Calls Try.prog 7 #[.int .i64 n, v, .agg #[.int .i64 st, .int .i64 fr, .int .i64 lo]] w fun e w' => e = .returned (.bool true) ∧ Fr [] w w' := by
  obtain ⟨a, cap, rfl, hlc, hcm, _⟩ := hv.open
  have B6 : Blk (((w.alloc (.cells #[.int .i64 st, .int .i64 fr, .int .i64 lo] 56)).alloc (.cells #[.bool false] 4)).alloc (.cells #[.int .i64 st] 3)) (w.heap.size + 1) [.bool false] 4 := (Blk.new' (by simp) [.bool false] _).alloc _
  have hF0 := (((Fr.refl [] w).alloc (.cells #[.int .i64 st, .int .i64 fr, .int .i64 lo] 56)).alloc (.cells #[.bool false] 4)).alloc (.cells #[.int .i64 st] 3)
  cases hn : okSize n with
  | false =>
    have key := fun w => New_no n w hn
    clear h
    refine calls_marks Try.func7 rfl ?_
    simp only [Try.ntmps7, List.size_toArray, List.length_cons, List.length_nil, Nat.reduceAdd, Nat.reduceSub, Array.replicate_succ, Array.replicate_zero, List.push_toArray, List.append_toArray, List.nil_append, List.cons_append]
    go_wp2_with fail
    refine (key _).mono ?_
    rintro e w1 ⟨rfl, rfl⟩
    go_wp2_with fail
    refine (alive_calls _).mono ?_
    rintro e w2 ⟨rfl, hf⟩
    replace B6 := (B6.alloc (.cells #[.pointer none] 23)).fr0 hf
    have c6 := B6.cell
    have f6 := B6.frozen
    have l6 := B6.lt
    go_wp2
    have c6' := (B6.setCell 0 (.bool true)).cell
    exact leave_plain (v := .bool true) rfl (by simp [results, Try.results7, go_sem, c6']) ⟨rfl, ((hF0.alloc _).trans0 hf).setCell (.inr (by simp)) _⟩
  | true =>
    have hlen : (100 : Int) < ops.length := by rw [hn] at h; simp at h; omega
    have key := fun w => New_yes n w hn
    clear h
    refine calls_marks Try.func7 rfl ?_
    simp only [Try.ntmps7, List.size_toArray, List.length_cons, List.length_nil, Nat.reduceAdd, Nat.reduceSub, Array.replicate_succ, Array.replicate_zero, List.push_toArray, List.append_toArray, List.nil_append, List.cons_append]
    go_wp2_with fail
    refine (key _).mono ?_
    rintro e w1 ⟨tb, mb, rfl, ht, hm, hT, hf1⟩
    replace B6 := B6.fr0 hf1
    replace hF0 := hF0.trans0 hf1
    go_wp2_with fail
    refine (alive_calls _).mono ?_
    rintro e w2 ⟨rfl, hf⟩
    replace B6 := (B6.alloc (.cells #[.pointer (some ⟨tb, 0, none⟩)] 23)).fr0 hf
    have c6 := B6.cell
    have f6 := B6.frozen
    have l6 := B6.lt
    go_wp2
    have c6' := (B6.setCell 0 (.bool true)).cell
    exact leave_plain (v := .bool true) rfl (by simp [results, Try.results7, go_sem, c6']) ⟨rfl, ((hF0.alloc _).trans0 hf).setCell (.inr (by simp)) _⟩
set_option maxRecDepth 100000 in
set_option maxHeartbeats 6400000 in
theorem TableEach_yes (n : Nat) (v : Value) (os : List Opr) (st fr lo : Int) (w : World) (hv : SlO w v os) (hn : n ≤ 256) (h100 : os.length ≤ 100) :
    Calls Try.prog 7 #[.int .i64 (n : Int), v, .agg #[.int .i64 st, .int .i64 fr, .int .i64 lo]] w fun e w' => e = .returned (.bool true) ∧ Fr [] w w' := by
  obtain ⟨a, cap, rfl, hlc, hcm, _⟩ := hv.open
  have hok : okSize (n : Int) = true := by simp [okSize]; omega
  have W0 := (((w.alloc (.cells #[.int .i64 st, .int .i64 fr, .int .i64 lo] 56)).alloc (.cells #[.bool false] 4)).alloc (.cells #[.int .i64 st] 3))
  have B5 := ((Blk.new w [.int .i64 st, .int .i64 fr, .int .i64 lo] 56).alloc (.cells #[.bool false] 4)).alloc (.cells #[.int .i64 st] 3)
  have B6 : Blk (((w.alloc (.cells #[.int .i64 st, .int .i64 fr, .int .i64 lo] 56)).alloc (.cells #[.bool false] 4)).alloc (.cells #[.int .i64 st] 3)) (w.heap.size + 1) [.bool false] 4 := (Blk.new' (by simp) [.bool false] _).alloc _
  have B7 : Blk (((w.alloc (.cells #[.int .i64 st, .int .i64 fr, .int .i64 lo] 56)).alloc (.cells #[.bool false] 4)).alloc (.cells #[.int .i64 st] 3)) (w.heap.size + 2) [.int .i64 st] 3 := Blk.new' (by simp) [.int .i64 st] _
  have hF0 := (((Fr.refl [] w).alloc (.cells #[.int .i64 st, .int .i64 fr, .int .i64 lo] 56)).alloc (.cells #[.bool false] 4)).alloc (.cells #[.int .i64 st] 3)
  have key := fun w => New_yes (n : Int) w hok
  refine calls_marks Try.func7 rfl ?_
  simp only [Try.ntmps7, List.size_toArray, List.length_cons, List.length_nil, Nat.reduceAdd, Nat.reduceSub, Array.replicate_succ, Array.replicate_zero, List.push_toArray, List.append_toArray, List.nil_append, List.cons_append]
  go_wp2_with fail
  refine (key _).mono ?_
  rintro e w1 ⟨tb, mb, rfl, ht, hm, hT, hf1⟩
  replace hT : TabW w1 tb mb (List.replicate n zS) := hT
  simp only [World.size_alloc] at ht hm
  have tw := hT.lt
  have B8 := Blk.new w1 [.pointer (some ⟨tb, 0, none⟩)] 23
  have hfa := hf1.alloc (.cells #[.pointer (some ⟨tb, 0, none⟩)] 23)
  have hz1 := hf1.size
  simp only [World.size_alloc] at hz1
  replace B5 := B5.fr0 hfa
  replace B6 := B6.fr0 hfa
  replace B7 := B7.fr0 hfa
  replace hT := hT.fr0 ((Fr.refl [] w1).alloc (.cells #[.pointer (some ⟨tb, 0, none⟩)] 23))
  have hF := hF0.trans0 hfa
  have hz8 := B8.lt
  clear key hF0 hfa
  go_wp2_with fail
  go_loopw [37] (fun i wr => ∃ k : Nat, k ≤ os.length ∧ i = .int .i64 k ∧ TabW wr tb mb (tRun (List.replicate n zS) (os.take k)) ∧ Blk wr w.heap.size [.int .i64 st, .int .i64 fr, .int .i64 lo] 56 ∧ Blk wr (w.heap.size + 1) [.bool false] 4 ∧ Blk wr (w.heap.size + 2) [.int .i64 st] 3 ∧ Blk wr w1.heap.size [.pointer (some ⟨tb, 0, none⟩)] 23 ∧ Fr [] w wr) (fun i _ => os.length - (intOf i).toNat)
  case atStart => exact ⟨0, Nat.zero_le _, rfl, hT, B5, B6, B7, B8, hF⟩
  case round =>
    clear hT hF B5 B6 B7 B8
    obtain ⟨k, hk, rfl, hT, B5, B6, B7, B8, hF⟩ := hrel
    by_cases hlt : k < os.length
    · obtain ⟨b, off, rfl, hb, c0, c1, c2, c3, c4⟩ := SlO.at (hv.fr0 hF) hlt
      have Hst := hidIt (tRun_succ (l := List.replicate n zS) hlt)
      generalize tRun (List.replicate n zS) (os.take k) = l at *
      generalize os.getD k zO = o at *
      obtain ⟨q', c', k', h', o'⟩ := o
      simp only at c0 c1 c2 c3 c4
      have c8 := B8.cell
      have l8 := B8.lt
      go_wp2_with fail
      refine (does_calls tb mb l q' c' k' h' o' _ (hT.fr0 ((Fr.refl _ _).alloc _))).mono ?_
      rintro e w4 ⟨u3, rfl, hs3, hT4, hf⟩
      have hfg := ((Fr.refl [] wr).alloc (.cells #[.int .i64 q', .int .i64 c', .int .i64 k', .int .i64 h', .bool o'] 34))
      replace B5 := (B5.fr0 hfg).fr hf (by simp; omega)
      replace B6 := (B6.fr0 hfg).fr hf (by simp; omega)
      replace B7 := (B7.fr0 hfg).fr hf (by simp; omega)
      replace B8 := (B8.fr0 hfg).fr hf (by simp; omega)
      replace hF := (hF.trans0 hfg).trans hf (fun x hx hl => by simp at hx; omega)
      go_wp2
      go_roundw
      case rel => exact ⟨k + 1, by omega, by go_num, by rw [Hst.out]; exact hT4, B5, B6, B7, B8, hF⟩
      case measure => simp [intOf]; omega
    · generalize tRun (List.replicate n zS) (os.take k) = l at *
      have hge : os.length ≤ k := by omega
      clear hlt hv
      have hzr := hF.size
      have EL : tb < wr.heap.size ∧ mb < wr.heap.size ∧ w1.heap.size < wr.heap.size ∧ w.heap.size + 2 < wr.heap.size := ⟨hT.lt.1, hT.lt.2, B8.lt, B7.lt⟩
      have S0 : EachS w wr tb mb w1.heap.size l st fr lo := ⟨hT, B5, B6, B7, B8, hF⟩
      have B12 := (Blk.new wr [.int .i64 0] 3).alloc (.cells #[.int .i64 0] 3)
      have B13 := Blk.new' (w := wr.alloc (.cells #[.int .i64 0] 3)) (n := wr.heap.size + 1) (by simp) [.int .i64 0] 3
      have hfa := ((Fr.refl [] wr).alloc (.cells #[.int .i64 0] 3)).alloc (.cells #[.int .i64 0] 3)
      have c8 := (B8.fr0 hfa).cell
      clear hT B5 B6 B7 B8 hF
      go_wp2_with fail
      refine (tEach_calls tb _).mono ?_
      rintro e w4 ⟨bt, rfl, hbt, hf4, hb4⟩
      simp only [World.size_alloc] at hb4
      have S4 := (S0.step0 hfa).step0 hf4
      replace B12 := B12.fr0 hf4
      replace B13 := B13.fr0 hf4
      have hseq := tEach_seq bt tb mb l w4 hbt S4.tab
      have heg : ∀ args w, (callFunc 38 args).run Try.prog w = .ok (.enter 38 args) w := enters_of Try.func38 (by kernel_rfl) rfl
      have l13 := B13.lt
      have lbt := hbt.lt
      clear hfa hf4 hbt c8 S0
      generalize wr.heap.size = b12 at *
      go_wp2_with fail
      refine wp_rangeFunc_seq rfl heg hseq (Fr.refl _ _) (fun k f A => ∃ x : Nat, f = [b12, b12 + 1] ∧ x ≤ 256 ∧ cntL l x = k ∧ Blk A b12 [.int .i64 x] 3 ∧ Blk A (b12 + 1) [.int .i64 k] 3 ∧ EachS w A tb mb w1.heap.size l st fr lo)
        (fun c f A => ∃ x : Nat, c = .exit 2 ∧ f = [b12, b12 + 1] ∧ x ≤ 256 ∧ Blk A b12 [.int .i64 x] 3 ∧ Blk A (b12 + 1) [.int .i64 st] 3 ∧ EachS w A tb mb w1.heap.size l st fr lo) [b12, b12 + 1] ?st ?sx (by simp)
        (fun x hx => by rcases List.mem_cons.1 hx with rfl | hx; exact ⟨by omega, fun h => by omega⟩; have := List.mem_singleton.1 hx; subst this; exact ⟨by omega, fun h => by omega⟩) ⟨0, rfl, by omega, by simp [cntL], B12, B13, S4⟩ ?round ?done ?stop
      case st =>
        rintro k f A B M' ⟨x, rfl, hx, hc, h12, h13, hS⟩ hF hM
        have nM : ∀ y ∈ M', w4.heap.size ≤ y := fun y hy => by rcases hM y hy with h | h; cases h; exact h.1
        exact ⟨x, rfl, hx, hc, h12.fr hF (fun h => by have := nM _ h; omega), h13.fr hF (fun h => by have := nM _ h; omega), hS.step hF EL (fun y hy => by have := nM y hy; omega)⟩
      case sx =>
        rintro c f A B M' ⟨x, rfl, rfl, hx, h12, h13, hS⟩ hF hM
        have nM : ∀ y ∈ M', w4.heap.size ≤ y := fun y hy => (hM y hy).1
        exact ⟨x, rfl, rfl, hx, h12.fr hF (fun h => by have := nM _ h; omega), h13.fr hF (fun h => by have := nM _ h; omega), hS.step hF EL (fun y hy => by have := nM y hy; omega)⟩
      case round =>
        rintro lp k f A args h1 h2 h3 h4 hkk ⟨x, rfl, hx, hc, h12, h13, hS⟩ rfl
        refine ⟨rfl, ?_⟩
        clear hseq heg S4 B12 B13
        have hA := hS.b8.lt
        have Hkk := hidIt hkk
        have Hlen := hidIt (listed_len l)
        have hdefs : ∃ c, Hid (c = (listed l).getD k 0) := ⟨_, hidIt rfl⟩
        obtain ⟨c, Hc⟩ := hdefs
        rw [← Hc.out]
        have hdef2 : ∃ s, Hid (s = l.getD c zS) := ⟨_, hidIt rfl⟩
        obtain ⟨s, Hs⟩ := hdef2
        rw [← Hs.out]
        have hfA := (Fr.refl [] A).alloc (.cells (slotC s).toArray 43)
        have hBs := Blk.new A (slotC s) 43
        obtain ⟨p, q, r⟩ := s
        clear hkk
        gi_wp2
        refine ⟨⟨x, trivial, hx, hc, h12.fr0 hfA, h13.fr0 hfA, hS.step0 hfA⟩, hfA, ?_⟩
        clear hx hc h12 h13 hS
        rintro A2 ⟨x, _, hx, hc, h12, h13, hS⟩ hF2 hsz2
        have hBs2 := hBs.fr hF2 (by simp; omega)
        obtain ⟨e1, e2, e3, e4⟩ := each_at Hkk.out hx hc
        have eg := fun y h1 h2 => each_gap Hkk.out hc (y := y) h1 h2
        rw [← Hc.out] at e1 e2 e3 e4 eg
        rw [← Hs.out] at e3
        simp only at e3
        have hk256 : k < 256 := by have := Hkk.out; have := Hlen.out; omega
        have hlA := h13.lt
        clear hF2 hBs hfA Hc Hkk Hlen
        gi_wp2
        gi_loopw [] (fun W2 => ∃ y : Nat, x ≤ y ∧ y ≤ c ∧ Blk W2 b12 [.int .i64 y] 3 ∧ Blk W2 (b12 + 1) [.int .i64 k] 3 ∧ Blk W2 A.heap.size [.int .i64 p, .int .i64 q, .bool r] 43 ∧ EachS w W2 tb mb w1.heap.size l st fr lo ∧ Fr [b12] A2 W2) (fun W2 => c - cellN W2 b12)
        case atStart => exact ⟨x, Nat.le_refl _, e1, h12, h13, hBs2, hS, Fr.refl _ _⟩
        case round =>
          clear h12 h13 hBs2 hS
          obtain ⟨y, hy1, hy2, h12, h13, hBs, hS, hFr⟩ := hrel
          have c12 := h12.cell
          have f12 := h12.frozen
          have l12 := h12.lt
          have c8 := hS.b8.cell
          by_cases hyc : y < c
          · obtain ⟨g1, g2⟩ := eg y hy1 hyc
            have key := Get_calls tb mb l (y : Int) _ hS.tab
            rw [tget_nat] at key
            generalize l.getD y zS = s2 at *
            obtain ⟨p2, q2, r2⟩ := s2
            simp only at g1
            subst g1
            simp only [slotV] at key
            have hw1 : IntKind.i64.wrap ((y : Int) + 1) = ((y + 1 : Nat) : Int) := by rw [IntWalk.i64_in _ (by omega)]; omega
            have hylt : (y : Int) < (c : Int) := by omega
            gi_wp2_with fail
            refine ⟨trivial, rfl, (CallsIn.inRound lp (callsIn_wide.2 key)).mono ?_⟩
            rintro e w6 ⟨rfl, hf6⟩
            have hm0 := hidIt (cellN_blk h12)
            replace h12 := h12.fr0 hf6
            have c12 := h12.cell
            have f12 := h12.frozen
            have l12 := h12.lt
            gi_wp2
            have h12' := h12.setCell 0 (.int .i64 ((y + 1 : Nat) : Int))
            have hs := Fr.set1 w6 b12 (.int .i64 ((y + 1 : Nat) : Int))
            go_roundw
            case rel => exact ⟨y + 1, by omega, by omega, h12', (h13.fr0 hf6).other (by simp) _, (hBs.fr0 hf6).other (by simp; omega) _, (hS.step0 hf6).step hs EL (fun x hx => by have := List.mem_singleton.1 hx; omega), (hFr.trans0 hf6).trans' hs⟩
            case measure =>
              rw [show ((y : Int) + 1) = ((y + 1 : Nat) : Int) by omega, cellN_blk h12', hm0.out]
              simp only [Int.toNat_natCast]
              omega
          · have hye : y = c := by omega
            subst hye
            have hnlt : ¬ ((y : Int) < (y : Int)) := by omega
            have key := fun X (h : TabW X tb mb l) => Get_calls tb mb l (y : Int) X h
            rw [tget_nat, ← Hs.out] at key
            simp only [slotV] at key
            have hse : sEq (p, q, r) (p, q, r) = true := sEq_self _
            have hp0 : (p == (0 : Int)) = false := by simpa using e3
            have hFd : Fr [] wr wr.drew := (Fr.refl _ _).drew
            have h12d := h12.fr0 hFd
            have h13d := h13.fr0 hFd
            have hBd := hBs.fr0 hFd
            have hSd := hS.step0 hFd
            have hFrd := hFr.trans0 hFd
            gi_wp2_with fail
            refine wpIn_region_G (Fr [] wr.drew) [(true, 0), (true, 1), (true, 2), (true, 3), (true, 4), (true, 5), (true, 6), (false, 7), (true, 8), (true, 9), (true, 10), (true, 11), (true, 12), (true, 13), (true, 14)] follows (by as_aux_lemma => kernel_rfl) (Fr.refl _ _) ?_
            simp only [inOrder, List.map_cons, List.map_nil, List.getD_cons_zero, List.getD_cons_succ]
            iterate 1
              refine wpG_pure fun K hK => ?_
              go_simp
              refine hK _ ?_
              clear hK K
            refine wpG_val (.int .i64 y) (by first | rfl | go_simp) (fun X hX => by have cc := (h12d.fr0 hX).cell; go_simp) ?_
            simp only [Act.put, List.setIfInBounds_toArray, List.set_cons_zero, List.set_cons_succ]
            iterate 2
              refine wpG_pure fun K hK => ?_
              go_simp
              refine hK _ ?_
              clear hK K
            refine wpG_val (.agg #[.int .i64 p, .int .i64 q, .bool r]) (by first | rfl | go_simp) (fun X hX => by have cc := (hBd.fr0 hX).cell; go_simp) ?_
            simp only [Act.put, List.setIfInBounds_toArray, List.set_cons_zero, List.set_cons_succ]
            refine wpG_val (.pointer (some ⟨tb, 0, none⟩)) (by first | rfl | go_simp) (fun X hX => by have cc := (hSd.b8.fr0 hX).cell; go_simp) ?_
            simp only [Act.put, List.setIfInBounds_toArray, List.set_cons_zero, List.set_cons_succ]
            iterate 1
              refine wpG_pure fun K hK => ?_
              go_simp
              refine hK _ ?_
              clear hK K
            refine wpG_one fun K hK => ?_
            go_simp
            refine (key _ hSd.tab).mono ?_
            rintro e w6 ⟨rfl, hf6⟩
            refine hK _ _ (hf6) ?_
            clear hK K
            iterate 4
              refine wpG_pure fun K hK => ?_
              go_simp
              refine hK _ ?_
              clear hK K
            refine wpG_val (.int .i64 p) (by first | rfl | go_simp) (fun X hX => by have cc := (hBd.fr0 hX).cell; go_simp) ?_
            simp only [Act.put, List.setIfInBounds_toArray, List.set_cons_zero, List.set_cons_succ]
            iterate 2
              refine wpG_pure fun K hK => ?_
              go_simp
              refine hK _ ?_
              clear hK K
            refine wpG_end ?_
            have h12e := h12d.fr0 hf6
            have h13e := h13d.fr0 hf6
            have hSe := hSd.step0 hf6
            have hFe := hFrd.trans0 hf6
            have c12 := h12e.cell
            have f12 := h12e.frozen
            have l12 := h12e.lt
            have c13 := h13e.cell
            have f13 := h13e.frozen
            have l13 := h13e.lt
            have c7 := hSe.b7.cell
            have hw1 : IntKind.i64.wrap ((y : Int) + 1) = ((y + 1 : Nat) : Int) := by rw [IntWalk.i64_in _ (by omega)]; omega
            have hw2 : IntKind.i64.wrap ((k : Int) + 1) = ((k + 1 : Nat) : Int) := by rw [IntWalk.i64_in _ (by omega)]; omega
            have q13 : ∀ u : Value, (w6.setCell ⟨b12, 0, none⟩ u).cell? ⟨b12 + 1, 0, none⟩ = some (.int .i64 k) := fun u => (h13e.other (p := ⟨b12, 0, none⟩) (by simp) u).cell 0
            have q13f : ∀ u : Value, (w6.setCell ⟨b12, 0, none⟩ u).frozen? ⟨b12 + 1, 0, none⟩ = false := fun u => (h13e.other (p := ⟨b12, 0, none⟩) (by simp) u).frozen 0
            have q7 : ∀ u v : Value, ((w6.setCell ⟨b12, 0, none⟩ u).setCell ⟨b12 + 1, 0, none⟩ v).cell? ⟨w.heap.size + 1 + 1, 0, none⟩ = some (.int .i64 st) := fun u v => ((hSe.b7.other (p := ⟨b12, 0, none⟩) (by simp; omega) u).other (p := ⟨b12 + 1, 0, none⟩) (by simp; omega) v).cell 0
            have hs1 := Fr.set1 w6 b12 (.int .i64 ((y + 1 : Nat) : Int))
            have hs2 := Fr.set1 (w6.setCell ⟨b12, 0, none⟩ (.int .i64 ((y + 1 : Nat) : Int))) (b12 + 1) (.int .i64 ((k + 1 : Nat) : Int))
            have g12 := (h12e.setCell 0 (.int .i64 ((y + 1 : Nat) : Int))).fr hs2 (by simp)
            have g13 := (h13e.fr hs1 (by simp)).setCell 0 (.int .i64 ((k + 1 : Nat) : Int))
            have gS := (hSe.step hs1 EL (fun x hx => by have := List.mem_singleton.1 hx; omega)).step hs2 EL (fun x hx => by have := List.mem_singleton.1 hx; omega)
            have gF : Fr [b12, b12 + 1] A2 ((w6.setCell ⟨b12, 0, none⟩ (.int .i64 ((y + 1 : Nat) : Int))).setCell ⟨b12 + 1, 0, none⟩ (.int .i64 ((k + 1 : Nat) : Int))) := ((hFe.trans' hs1).mono (fun x hx _ => by have := List.mem_singleton.1 hx; subst this; simp)).trans hs2 (fun x hx _ => by have := List.mem_singleton.1 hx; subst this; simp)
            clear key h12 h13 hBs hS hFr h12d h13d hBd hSd hFrd hFd hs1 hs2 eg c8
            by_cases hst : ((k + 1 : Nat) : Int) = st
            · rw [hst] at hw2 g13 g12 gS gF
              gi_wp2
              exact ⟨_, ⟨y + 1, rfl, rfl, by omega, g12, g13, gS⟩, gF, fun z hz => ⟨by simp; rcases List.mem_cons.1 hz with rfl | hz; omega; have := List.mem_singleton.1 hz; omega, .inl hz⟩⟩
            · have hbs : (((k + 1 : Nat) : Int) == st) = false := by simpa using hst
              gi_wp2
              exact ⟨_, ⟨y + 1, rfl, by omega, e4, g12, g13, gS⟩, gF, fun z hz => ⟨by simp; rcases List.mem_cons.1 hz with rfl | hz; omega; have := List.mem_singleton.1 hz; omega, .inl hz⟩⟩
      case done =>
        rintro D f W h1 h2 ⟨x, rfl, hx, hc, h12, h13, hS⟩ hK
        obtain ⟨nn, hnn⟩ : ∃ nn : Int, nn = ((listed l).length : Nat) := ⟨_, rfl⟩
        rw [← hnn] at h13
        have hrest : nn ≠ st → ∀ y, x ≤ y → y < 256 → (l.getD y zS).1 = 0 := fun _ y a b => each_rest hc a b
        clear hnn hc
        clear hseq heg S4 B12 B13
        have hlen := hS.tab.len
        go_wp2_with fail
        go_loopw [] (fun W2 => ∃ y : Nat, x ≤ y ∧ y ≤ 256 ∧ Blk W2 b12 [.int .i64 y] 3 ∧ Blk W2 (b12 + 1) [.int .i64 nn] 3 ∧ EachS w W2 tb mb w1.heap.size l st fr lo ∧ W2.heap[D]? = some (.deferred (some []))) (fun W2 => l.length - cellN W2 b12)
        case atStart => exact ⟨x, Nat.le_refl _, hx, h12, h13, hS, hK⟩
        case round =>
          clear h12 h13 hS hK
          obtain ⟨y, hy1, hy2, h12, h13, hS, hK⟩ := hrel
          have hFd : Fr [] wr wr.drew := (Fr.refl _ _).drew
          have h12d := h12.fr0 hFd
          have h13d := h13.fr0 hFd
          have hSd := hS.step0 hFd
          have hKl := (Array.getElem?_eq_some_iff.1 hK).1
          by_cases hst : nn = st
          · go_wp2_with fail
            refine wp_region_G (Fr [] wr.drew) [(true, 0), (true, 1), (true, 2), (true, 3), (true, 4), (true, 5), (false, 6), (true, 7), (true, 8)] follows (by as_aux_lemma => kernel_rfl) (Fr.refl _ _) ?_
            simp only [inOrder, List.map_cons, List.map_nil, List.getD_cons_zero, List.getD_cons_succ]
            refine wpG_val (.int .i64 nn) (by first | rfl | go_simp) (fun X hX => by have cc := (h13d.fr0 hX).cell; go_simp) ?_
            simp only [Act.put, List.setIfInBounds_toArray, List.set_cons_zero, List.set_cons_succ]
            refine wpG_val (.int .i64 st) (by first | rfl | go_simp) (fun X hX => by have cc := (hSd.b7.fr0 hX).cell; go_simp) ?_
            simp only [Act.put, List.setIfInBounds_toArray, List.set_cons_zero, List.set_cons_succ]
            iterate 4
              refine wpG_pure fun K hK => ?_
              go_simp
              refine hK _ ?_
              clear hK K
            iterate 1
              refine wpG_one fun K hK => ?_
              go_simp
              clear hK K
            iterate 2
              refine wpG_pure fun K hK => ?_
              go_simp
              refine hK _ ?_
              clear hK K
            refine wpG_end ?_
            have hFe : Fr [] wr.drew wr.drew.drew := (Fr.refl _ _).drew
            have hS2 := hSd.step0 hFe
            have hK2 : wr.drew.drew.heap[D]? = some (.deferred (some [])) := hK
            clear h12 h13 hS h12d h13d hrest
            go_wp2_with fail
            refine wp_region_G (Fr [w.heap.size + 1] wr.drew.drew) [(false, 0), (true, 1), (true, 2), (true, 3), (true, 4), (true, 5), (true, 6), (true, 9), (true, 11), (true, 12), (true, 13), (true, 14), (false, 7), (false, 8), (false, 10), (false, 15), (false, 16), (true, 17), (false, 18)] follows (by as_aux_lemma => kernel_rfl) (Fr.refl _ _) ?_
            simp only [inOrder, List.map_cons, List.map_nil, List.getD_cons_zero, List.getD_cons_succ]
            refine wpG_one fun K hK => ?_
            go_simp
            refine (alive_calls _).mono ?_
            rintro e w5 ⟨rfl, hf5⟩
            refine hK _ _ (hf5.weak) ?_
            clear hK K
            iterate 1
              refine wpG_pure fun K hK => ?_
              go_simp
              refine hK _ ?_
              clear hK K
            refine wpG_val (.pointer (some ⟨tb, 0, none⟩)) (by first | rfl | go_simp) (fun X hX => by have cc := (hS2.b8.fr hX (by simp; omega)).cell; go_simp) ?_
            simp only [Act.put, List.setIfInBounds_toArray, List.set_cons_zero, List.set_cons_succ]
            iterate 1
              refine wpG_pure fun K hK => ?_
              go_simp
              refine hK _ ?_
              clear hK K
            refine wpG_val (.int .i64 fr) (by first | rfl | go_simp) (fun X hX => by have cc := (hS2.b5.fr hX (by simp)).cell; go_simp) ?_
            simp only [Act.put, List.setIfInBounds_toArray, List.set_cons_zero, List.set_cons_succ]
            iterate 1
              refine wpG_pure fun K hK => ?_
              go_simp
              refine hK _ ?_
              clear hK K
            refine wpG_val (.int .i64 lo) (by first | rfl | go_simp) (fun X hX => by have cc := (hS2.b5.fr hX (by simp)).cell; go_simp) ?_
            simp only [Act.put, List.setIfInBounds_toArray, List.set_cons_zero, List.set_cons_succ]
            refine wpG_val (.pointer (some ⟨tb, 0, none⟩)) (by first | rfl | go_simp) (fun X hX => by have cc := (hS2.b8.fr hX (by simp; omega)).cell; go_simp) ?_
            simp only [Act.put, List.setIfInBounds_toArray, List.set_cons_zero, List.set_cons_succ]
            iterate 1
              refine wpG_pure fun K hK => ?_
              go_simp
              refine hK _ ?_
              clear hK K
            refine wpG_val (.int .i64 fr) (by first | rfl | go_simp) (fun X hX => by have cc := (hS2.b5.fr hX (by simp)).cell; go_simp) ?_
            simp only [Act.put, List.setIfInBounds_toArray, List.set_cons_zero, List.set_cons_succ]
            iterate 1
              refine wpG_pure fun K hK => ?_
              go_simp
              refine hK _ ?_
              clear hK K
            refine wpG_val (.int .i64 lo) (by first | rfl | go_simp) (fun X hX => by have cc := (hS2.b5.fr hX (by simp)).cell; go_simp) ?_
            simp only [Act.put, List.setIfInBounds_toArray, List.set_cons_zero, List.set_cons_succ]
            have T5 := hS2.tab.fr0 hf5
            refine wpG_one fun K hK => ?_
            go_simp
            refine (Row_calls tb mb l fr lo _ T5).mono ?_
            rintro e w6 ⟨u6, rfl, ho6, hf6⟩
            have hf56 := hf5.trans0 hf6
            refine hK _ _ (hf56.weak) ?_
            clear hK K
            have hs6 : SlS w6 u6 (rowL l fr (rowN lo)) := SlF.of_owns (by rw [rowL_length]; exact ho6)
            refine wpG_one fun K hK => ?_
            go_simp
            refine (plain_calls u6 _ _ hs6 (by rw [rowL_length]; have := rowN_le lo; omega)).mono ?_
            rintro e w7 ⟨u7, rfl, ho7, hf7⟩
            have hf57 := hf56.trans0 hf7
            refine hK _ _ (hf57.weak) ?_
            clear hK K
            have hs7 : SlS w7 u7 (rowL l fr (rowN lo)) := SlF.of_owns ho7
            refine wpG_one fun K hK => ?_
            go_simp
            refine (all_calls tb mb l _ (T5.fr0 (hf6.trans0 hf7))).mono ?_
            rintro e w8 ⟨u8, rfl, ho8, hf8⟩
            have hf58 := hf57.trans0 hf8
            refine hK _ _ (hf58.weak) ?_
            clear hK K
            refine wpG_one fun K hK => ?_
            go_simp
            refine (rRow_calls u8 l fr lo _ (SlF.of_owns ho8)).mono ?_
            rintro e w9 ⟨u9, rfl, ho9, hf9⟩
            have hf59 := hf58.trans0 hf9
            refine hK _ _ (hf59.weak) ?_
            clear hK K
            refine wpG_one fun K hK => ?_
            go_simp
            refine (Same_calls u7 u9 (rowL l fr (rowN lo)) _ (hs7.fr0 (hf8.trans0 hf9)) (SlF.of_owns (by rw [rowL_length]; exact ho9))).mono ?_
            rintro e wA ⟨rfl, hfA⟩
            have hf5A := hf59.trans0 hfA
            refine hK _ _ (hf5A.weak) ?_
            clear hK K
            iterate 1
              refine wpG_pure fun K hK => ?_
              go_simp
              refine hK _ ?_
              clear hK K
            have B6 := hS2.b6.fr0 hf5A
            have c6 := B6.cell
            have f6 := B6.frozen
            have l6 := B6.lt
            refine wpG_one fun K hK => ?_
            go_simp
            refine hK _ _ (hf5A.weak.setCell (.inl (by simp)) _) ?_
            clear hK K
            refine wpG_end ?_
            have hKA : wA.heap[D]? = some (.deferred (some [])) := (hf5A.block D (Array.getElem?_eq_some_iff.1 hK2).1 (by simp)).trans hK2
            have B6z := B6.setCell 0 (.bool true)
            go_wp2
            refine leave_mark (v := .bool true) rfl ((Below.heap_setCell _ _ _ _ (by show D ≠ w.heap.size + 1; omega)).trans hKA) (fun W' hF => ?_) fun W' hF => ⟨rfl, ((hS2.fr.trans0 hf5A).setCell (.inr (by simp)) _).trans1 hF (by omega)⟩
            have c6' := (B6z.fr hF (by simp; omega)).cell
            simp [results, Try.results7, go_sem, c6']
          · have hbs : (nn == st) = false := by simpa using hst
            have hrs := hrest hst
            go_wp2_with fail
            refine wp_region_G (Fr [] wr.drew) [(true, 0), (true, 1), (true, 2), (true, 3), (true, 4), (true, 5), (false, 6), (true, 7), (true, 8)] follows (by as_aux_lemma => kernel_rfl) (Fr.refl _ _) ?_
            simp only [inOrder, List.map_cons, List.map_nil, List.getD_cons_zero, List.getD_cons_succ]
            refine wpG_val (.int .i64 nn) (by first | rfl | go_simp) (fun X hX => by have cc := (h13d.fr0 hX).cell; go_simp) ?_
            simp only [Act.put, List.setIfInBounds_toArray, List.set_cons_zero, List.set_cons_succ]
            refine wpG_val (.int .i64 st) (by first | rfl | go_simp) (fun X hX => by have cc := (hSd.b7.fr0 hX).cell; go_simp) ?_
            simp only [Act.put, List.setIfInBounds_toArray, List.set_cons_zero, List.set_cons_succ]
            iterate 2
              refine wpG_pure fun K hK => ?_
              go_simp
              refine hK _ ?_
              clear hK K
            refine wpG_val (.int .i64 y) (by first | rfl | go_simp) (fun X hX => by have cc := (h12d.fr0 hX).cell; go_simp) ?_
            simp only [Act.put, List.setIfInBounds_toArray, List.set_cons_zero, List.set_cons_succ]
            refine wpG_val (.pointer (some ⟨tb, 0, none⟩)) (by first | rfl | go_simp) (fun X hX => by have cc := (hSd.b8.fr0 hX).cell; go_simp) ?_
            simp only [Act.put, List.setIfInBounds_toArray, List.set_cons_zero, List.set_cons_succ]
            refine wpG_one fun K hK => ?_
            go_simp
            refine (Len_calls tb mb l _ hSd.tab).mono ?_
            rintro e w6 ⟨rfl, rfl⟩
            refine hK _ _ (Fr.refl _ _) ?_
            clear hK K
            by_cases hyl : y < l.length
            · have hylt : (y : Int) < (l.length : Int) := by omega
              have g1 := hrs y hy1 (by omega)
              have key := Get_calls tb mb l (y : Int) _ hSd.tab
              rw [tget_nat] at key
              generalize l.getD y zS = s2 at *
              obtain ⟨p2, q2, r2⟩ := s2
              simp only at g1
              subst g1
              simp only [slotV] at key
              have hw1 : IntKind.i64.wrap ((y : Int) + 1) = ((y + 1 : Nat) : Int) := by rw [IntWalk.i64_in _ (by omega)]; omega
              iterate 2
                refine wpG_pure fun K hK => ?_
                go_simp
                refine hK _ ?_
                clear hK K
              refine wpG_end ?_
              have c12 := h12d.cell
              have c8 := hSd.b8.cell
              go_wp2_with fail
              refine key.mono ?_
              rintro e w6 ⟨rfl, hf6⟩
              have hm0 := hidIt (cellN_blk h12)
              clear c12
              replace h12d := h12d.fr0 hf6
              have c12 := h12d.cell
              have f12 := h12d.frozen
              have l12 := h12d.lt
              have hK6 := (hf6.block D hKl (by simp)).trans hK
              go_wp2
              have h12' := h12d.setCell 0 (.int .i64 ((y + 1 : Nat) : Int))
              have hs := Fr.set1 w6 b12 (.int .i64 ((y + 1 : Nat) : Int))
              go_roundw
              case rel => exact ⟨y + 1, by omega, by omega, h12', (h13d.fr0 hf6).other (by simp) _, (hSd.step0 hf6).step hs EL (fun x hx => by have := List.mem_singleton.1 hx; omega), (Below.heap_setCell _ _ _ _ (by show D ≠ b12; omega)).trans hK6⟩
              case measure =>
                rw [show ((y : Int) + 1) = ((y + 1 : Nat) : Int) by omega, cellN_blk h12', hm0.out]
                simp only [Int.toNat_natCast]
                omega
            · have hylt : ¬ ((y : Int) < (l.length : Int)) := by omega
              clear hrs
              iterate 2
                refine wpG_pure fun K hK => ?_
                go_simp
                refine hK _ ?_
                clear hK K
              refine wpG_end ?_
              have hFe : Fr [] wr.drew wr.drew.drew := (Fr.refl _ _).drew
              have hS2 := hSd.step0 hFe
              have hK2 : wr.drew.drew.heap[D]? = some (.deferred (some [])) := hK
              clear h12 h13 hS h12d h13d hrest
              go_wp2_with fail
              refine wp_region_G (Fr [w.heap.size + 1] wr.drew.drew) [(false, 0), (true, 1), (true, 2), (true, 3), (true, 4), (true, 5), (true, 6), (true, 9), (true, 11), (true, 12), (true, 13), (true, 14), (false, 7), (false, 8), (false, 10), (false, 15), (false, 16), (true, 17), (false, 18)] follows (by as_aux_lemma => kernel_rfl) (Fr.refl _ _) ?_
              simp only [inOrder, List.map_cons, List.map_nil, List.getD_cons_zero, List.getD_cons_succ]
              refine wpG_one fun K hK => ?_
              go_simp
              refine (alive_calls _).mono ?_
              rintro e w5 ⟨rfl, hf5⟩
              refine hK _ _ (hf5.weak) ?_
              clear hK K
              iterate 1
                refine wpG_pure fun K hK => ?_
                go_simp
                refine hK _ ?_
                clear hK K
              refine wpG_val (.pointer (some ⟨tb, 0, none⟩)) (by first | rfl | go_simp) (fun X hX => by have cc := (hS2.b8.fr hX (by simp; omega)).cell; go_simp) ?_
              simp only [Act.put, List.setIfInBounds_toArray, List.set_cons_zero, List.set_cons_succ]
              iterate 1
                refine wpG_pure fun K hK => ?_
                go_simp
                refine hK _ ?_
                clear hK K
              refine wpG_val (.int .i64 fr) (by first | rfl | go_simp) (fun X hX => by have cc := (hS2.b5.fr hX (by simp)).cell; go_simp) ?_
              simp only [Act.put, List.setIfInBounds_toArray, List.set_cons_zero, List.set_cons_succ]
              iterate 1
                refine wpG_pure fun K hK => ?_
                go_simp
                refine hK _ ?_
                clear hK K
              refine wpG_val (.int .i64 lo) (by first | rfl | go_simp) (fun X hX => by have cc := (hS2.b5.fr hX (by simp)).cell; go_simp) ?_
              simp only [Act.put, List.setIfInBounds_toArray, List.set_cons_zero, List.set_cons_succ]
              refine wpG_val (.pointer (some ⟨tb, 0, none⟩)) (by first | rfl | go_simp) (fun X hX => by have cc := (hS2.b8.fr hX (by simp; omega)).cell; go_simp) ?_
              simp only [Act.put, List.setIfInBounds_toArray, List.set_cons_zero, List.set_cons_succ]
              iterate 1
                refine wpG_pure fun K hK => ?_
                go_simp
                refine hK _ ?_
                clear hK K
              refine wpG_val (.int .i64 fr) (by first | rfl | go_simp) (fun X hX => by have cc := (hS2.b5.fr hX (by simp)).cell; go_simp) ?_
              simp only [Act.put, List.setIfInBounds_toArray, List.set_cons_zero, List.set_cons_succ]
              iterate 1
                refine wpG_pure fun K hK => ?_
                go_simp
                refine hK _ ?_
                clear hK K
              refine wpG_val (.int .i64 lo) (by first | rfl | go_simp) (fun X hX => by have cc := (hS2.b5.fr hX (by simp)).cell; go_simp) ?_
              simp only [Act.put, List.setIfInBounds_toArray, List.set_cons_zero, List.set_cons_succ]
              have T5 := hS2.tab.fr0 hf5
              refine wpG_one fun K hK => ?_
              go_simp
              refine (Row_calls tb mb l fr lo _ T5).mono ?_
              rintro e w6 ⟨u6, rfl, ho6, hf6⟩
              have hf56 := hf5.trans0 hf6
              refine hK _ _ (hf56.weak) ?_
              clear hK K
              have hs6 : SlS w6 u6 (rowL l fr (rowN lo)) := SlF.of_owns (by rw [rowL_length]; exact ho6)
              refine wpG_one fun K hK => ?_
              go_simp
              refine (plain_calls u6 _ _ hs6 (by rw [rowL_length]; have := rowN_le lo; omega)).mono ?_
              rintro e w7 ⟨u7, rfl, ho7, hf7⟩
              have hf57 := hf56.trans0 hf7
              refine hK _ _ (hf57.weak) ?_
              clear hK K
              have hs7 : SlS w7 u7 (rowL l fr (rowN lo)) := SlF.of_owns ho7
              refine wpG_one fun K hK => ?_
              go_simp
              refine (all_calls tb mb l _ (T5.fr0 (hf6.trans0 hf7))).mono ?_
              rintro e w8 ⟨u8, rfl, ho8, hf8⟩
              have hf58 := hf57.trans0 hf8
              refine hK _ _ (hf58.weak) ?_
              clear hK K
              refine wpG_one fun K hK => ?_
              go_simp
              refine (rRow_calls u8 l fr lo _ (SlF.of_owns ho8)).mono ?_
              rintro e w9 ⟨u9, rfl, ho9, hf9⟩
              have hf59 := hf58.trans0 hf9
              refine hK _ _ (hf59.weak) ?_
              clear hK K
              refine wpG_one fun K hK => ?_
              go_simp
              refine (Same_calls u7 u9 (rowL l fr (rowN lo)) _ (hs7.fr0 (hf8.trans0 hf9)) (SlF.of_owns (by rw [rowL_length]; exact ho9))).mono ?_
              rintro e wA ⟨rfl, hfA⟩
              have hf5A := hf59.trans0 hfA
              refine hK _ _ (hf5A.weak) ?_
              clear hK K
              iterate 1
                refine wpG_pure fun K hK => ?_
                go_simp
                refine hK _ ?_
                clear hK K
              have B6 := hS2.b6.fr0 hf5A
              have c6 := B6.cell
              have f6 := B6.frozen
              have l6 := B6.lt
              refine wpG_one fun K hK => ?_
              go_simp
              refine hK _ _ (hf5A.weak.setCell (.inl (by simp)) _) ?_
              clear hK K
              refine wpG_end ?_
              have hKA : wA.heap[D]? = some (.deferred (some [])) := (hf5A.block D (Array.getElem?_eq_some_iff.1 hK2).1 (by simp)).trans hK2
              have B6z := B6.setCell 0 (.bool true)
              go_wp2
              refine leave_mark (v := .bool true) rfl ((Below.heap_setCell _ _ _ _ (by show D ≠ w.heap.size + 1; omega)).trans hKA) (fun W' hF => ?_) fun W' hF => ⟨rfl, ((hS2.fr.trans0 hf5A).setCell (.inr (by simp)) _).trans1 hF (by omega)⟩
              have c6' := (B6z.fr hF (by simp; omega)).cell
              simp [results, Try.results7, go_sem, c6']
      case stop =>
        rintro D c f W h1 h2 ⟨x, rfl, rfl, hx, h12, h13, hS⟩ hK
        obtain ⟨nn, hnn⟩ : ∃ nn : Int, nn = st := ⟨_, rfl⟩
        rw [← hnn] at h13
        have hrest : nn ≠ st → ∀ y, x ≤ y → y < 256 → (l.getD y zS).1 = 0 := fun h => absurd hnn h
        clear hnn
        clear hseq heg S4 B12 B13
        have hlen := hS.tab.len
        go_wp2_with fail
        go_loopw [] (fun W2 => ∃ y : Nat, x ≤ y ∧ y ≤ 256 ∧ Blk W2 b12 [.int .i64 y] 3 ∧ Blk W2 (b12 + 1) [.int .i64 nn] 3 ∧ EachS w W2 tb mb w1.heap.size l st fr lo ∧ W2.heap[D]? = some (.deferred (some []))) (fun W2 => l.length - cellN W2 b12)
        case atStart => exact ⟨x, Nat.le_refl _, hx, h12, h13, hS, hK⟩
        case round =>
          clear h12 h13 hS hK
          obtain ⟨y, hy1, hy2, h12, h13, hS, hK⟩ := hrel
          have hFd : Fr [] wr wr.drew := (Fr.refl _ _).drew
          have h12d := h12.fr0 hFd
          have h13d := h13.fr0 hFd
          have hSd := hS.step0 hFd
          have hKl := (Array.getElem?_eq_some_iff.1 hK).1
          by_cases hst : nn = st
          · go_wp2_with fail
            refine wp_region_G (Fr [] wr.drew) [(true, 0), (true, 1), (true, 2), (true, 3), (true, 4), (true, 5), (false, 6), (true, 7), (true, 8)] follows (by as_aux_lemma => kernel_rfl) (Fr.refl _ _) ?_
            simp only [inOrder, List.map_cons, List.map_nil, List.getD_cons_zero, List.getD_cons_succ]
            refine wpG_val (.int .i64 nn) (by first | rfl | go_simp) (fun X hX => by have cc := (h13d.fr0 hX).cell; go_simp) ?_
            simp only [Act.put, List.setIfInBounds_toArray, List.set_cons_zero, List.set_cons_succ]
            refine wpG_val (.int .i64 st) (by first | rfl | go_simp) (fun X hX => by have cc := (hSd.b7.fr0 hX).cell; go_simp) ?_
            simp only [Act.put, List.setIfInBounds_toArray, List.set_cons_zero, List.set_cons_succ]
            iterate 4
              refine wpG_pure fun K hK => ?_
              go_simp
              refine hK _ ?_
              clear hK K
            iterate 1
              refine wpG_one fun K hK => ?_
              go_simp
              clear hK K
            iterate 2
              refine wpG_pure fun K hK => ?_
              go_simp
              refine hK _ ?_
              clear hK K
            refine wpG_end ?_
            have hFe : Fr [] wr.drew wr.drew.drew := (Fr.refl _ _).drew
            have hS2 := hSd.step0 hFe
            have hK2 : wr.drew.drew.heap[D]? = some (.deferred (some [])) := hK
            clear h12 h13 hS h12d h13d hrest
            go_wp2_with fail
            refine wp_region_G (Fr [w.heap.size + 1] wr.drew.drew) [(false, 0), (true, 1), (true, 2), (true, 3), (true, 4), (true, 5), (true, 6), (true, 9), (true, 11), (true, 12), (true, 13), (true, 14), (false, 7), (false, 8), (false, 10), (false, 15), (false, 16), (true, 17), (false, 18)] follows (by as_aux_lemma => kernel_rfl) (Fr.refl _ _) ?_
            simp only [inOrder, List.map_cons, List.map_nil, List.getD_cons_zero, List.getD_cons_succ]
            refine wpG_one fun K hK => ?_
            go_simp
            refine (alive_calls _).mono ?_
            rintro e w5 ⟨rfl, hf5⟩
            refine hK _ _ (hf5.weak) ?_
            clear hK K
            iterate 1
              refine wpG_pure fun K hK => ?_
              go_simp
              refine hK _ ?_
              clear hK K
            refine wpG_val (.pointer (some ⟨tb, 0, none⟩)) (by first | rfl | go_simp) (fun X hX => by have cc := (hS2.b8.fr hX (by simp; omega)).cell; go_simp) ?_
            simp only [Act.put, List.setIfInBounds_toArray, List.set_cons_zero, List.set_cons_succ]
            iterate 1
              refine wpG_pure fun K hK => ?_
              go_simp
              refine hK _ ?_
              clear hK K
            refine wpG_val (.int .i64 fr) (by first | rfl | go_simp) (fun X hX => by have cc := (hS2.b5.fr hX (by simp)).cell; go_simp) ?_
            simp only [Act.put, List.setIfInBounds_toArray, List.set_cons_zero, List.set_cons_succ]
            iterate 1
              refine wpG_pure fun K hK => ?_
              go_simp
              refine hK _ ?_
              clear hK K
            refine wpG_val (.int .i64 lo) (by first | rfl | go_simp) (fun X hX => by have cc := (hS2.b5.fr hX (by simp)).cell; go_simp) ?_
            simp only [Act.put, List.setIfInBounds_toArray, List.set_cons_zero, List.set_cons_succ]
            refine wpG_val (.pointer (some ⟨tb, 0, none⟩)) (by first | rfl | go_simp) (fun X hX => by have cc := (hS2.b8.fr hX (by simp; omega)).cell; go_simp) ?_
            simp only [Act.put, List.setIfInBounds_toArray, List.set_cons_zero, List.set_cons_succ]
            iterate 1
              refine wpG_pure fun K hK => ?_
              go_simp
              refine hK _ ?_
              clear hK K
            refine wpG_val (.int .i64 fr) (by first | rfl | go_simp) (fun X hX => by have cc := (hS2.b5.fr hX (by simp)).cell; go_simp) ?_
            simp only [Act.put, List.setIfInBounds_toArray, List.set_cons_zero, List.set_cons_succ]
            iterate 1
              refine wpG_pure fun K hK => ?_
              go_simp
              refine hK _ ?_
              clear hK K
            refine wpG_val (.int .i64 lo) (by first | rfl | go_simp) (fun X hX => by have cc := (hS2.b5.fr hX (by simp)).cell; go_simp) ?_
            simp only [Act.put, List.setIfInBounds_toArray, List.set_cons_zero, List.set_cons_succ]
            have T5 := hS2.tab.fr0 hf5
            refine wpG_one fun K hK => ?_
            go_simp
            refine (Row_calls tb mb l fr lo _ T5).mono ?_
            rintro e w6 ⟨u6, rfl, ho6, hf6⟩
            have hf56 := hf5.trans0 hf6
            refine hK _ _ (hf56.weak) ?_
            clear hK K
            have hs6 : SlS w6 u6 (rowL l fr (rowN lo)) := SlF.of_owns (by rw [rowL_length]; exact ho6)
            refine wpG_one fun K hK => ?_
            go_simp
            refine (plain_calls u6 _ _ hs6 (by rw [rowL_length]; have := rowN_le lo; omega)).mono ?_
            rintro e w7 ⟨u7, rfl, ho7, hf7⟩
            have hf57 := hf56.trans0 hf7
            refine hK _ _ (hf57.weak) ?_
            clear hK K
            have hs7 : SlS w7 u7 (rowL l fr (rowN lo)) := SlF.of_owns ho7
            refine wpG_one fun K hK => ?_
            go_simp
            refine (all_calls tb mb l _ (T5.fr0 (hf6.trans0 hf7))).mono ?_
            rintro e w8 ⟨u8, rfl, ho8, hf8⟩
            have hf58 := hf57.trans0 hf8
            refine hK _ _ (hf58.weak) ?_
            clear hK K
            refine wpG_one fun K hK => ?_
            go_simp
            refine (rRow_calls u8 l fr lo _ (SlF.of_owns ho8)).mono ?_
            rintro e w9 ⟨u9, rfl, ho9, hf9⟩
            have hf59 := hf58.trans0 hf9
            refine hK _ _ (hf59.weak) ?_
            clear hK K
            refine wpG_one fun K hK => ?_
            go_simp
            refine (Same_calls u7 u9 (rowL l fr (rowN lo)) _ (hs7.fr0 (hf8.trans0 hf9)) (SlF.of_owns (by rw [rowL_length]; exact ho9))).mono ?_
            rintro e wA ⟨rfl, hfA⟩
            have hf5A := hf59.trans0 hfA
            refine hK _ _ (hf5A.weak) ?_
            clear hK K
            iterate 1
              refine wpG_pure fun K hK => ?_
              go_simp
              refine hK _ ?_
              clear hK K
            have B6 := hS2.b6.fr0 hf5A
            have c6 := B6.cell
            have f6 := B6.frozen
            have l6 := B6.lt
            refine wpG_one fun K hK => ?_
            go_simp
            refine hK _ _ (hf5A.weak.setCell (.inl (by simp)) _) ?_
            clear hK K
            refine wpG_end ?_
            have hKA : wA.heap[D]? = some (.deferred (some [])) := (hf5A.block D (Array.getElem?_eq_some_iff.1 hK2).1 (by simp)).trans hK2
            have B6z := B6.setCell 0 (.bool true)
            go_wp2
            refine leave_mark (v := .bool true) rfl ((Below.heap_setCell _ _ _ _ (by show D ≠ w.heap.size + 1; omega)).trans hKA) (fun W' hF => ?_) fun W' hF => ⟨rfl, ((hS2.fr.trans0 hf5A).setCell (.inr (by simp)) _).trans1 hF (by omega)⟩
            have c6' := (B6z.fr hF (by simp; omega)).cell
            simp [results, Try.results7, go_sem, c6']
          · have hbs : (nn == st) = false := by simpa using hst
            have hrs := hrest hst
            go_wp2_with fail
            refine wp_region_G (Fr [] wr.drew) [(true, 0), (true, 1), (true, 2), (true, 3), (true, 4), (true, 5), (false, 6), (true, 7), (true, 8)] follows (by as_aux_lemma => kernel_rfl) (Fr.refl _ _) ?_
            simp only [inOrder, List.map_cons, List.map_nil, List.getD_cons_zero, List.getD_cons_succ]
            refine wpG_val (.int .i64 nn) (by first | rfl | go_simp) (fun X hX => by have cc := (h13d.fr0 hX).cell; go_simp) ?_
            simp only [Act.put, List.setIfInBounds_toArray, List.set_cons_zero, List.set_cons_succ]
            refine wpG_val (.int .i64 st) (by first | rfl | go_simp) (fun X hX => by have cc := (hSd.b7.fr0 hX).cell; go_simp) ?_
            simp only [Act.put, List.setIfInBounds_toArray, List.set_cons_zero, List.set_cons_succ]
            iterate 2
              refine wpG_pure fun K hK => ?_
              go_simp
              refine hK _ ?_
              clear hK K
            refine wpG_val (.int .i64 y) (by first | rfl | go_simp) (fun X hX => by have cc := (h12d.fr0 hX).cell; go_simp) ?_
            simp only [Act.put, List.setIfInBounds_toArray, List.set_cons_zero, List.set_cons_succ]
            refine wpG_val (.pointer (some ⟨tb, 0, none⟩)) (by first | rfl | go_simp) (fun X hX => by have cc := (hSd.b8.fr0 hX).cell; go_simp) ?_
            simp only [Act.put, List.setIfInBounds_toArray, List.set_cons_zero, List.set_cons_succ]
            refine wpG_one fun K hK => ?_
            go_simp
            refine (Len_calls tb mb l _ hSd.tab).mono ?_
            rintro e w6 ⟨rfl, rfl⟩
            refine hK _ _ (Fr.refl _ _) ?_
            clear hK K
            by_cases hyl : y < l.length
            · have hylt : (y : Int) < (l.length : Int) := by omega
              have g1 := hrs y hy1 (by omega)
              have key := Get_calls tb mb l (y : Int) _ hSd.tab
              rw [tget_nat] at key
              generalize l.getD y zS = s2 at *
              obtain ⟨p2, q2, r2⟩ := s2
              simp only at g1
              subst g1
              simp only [slotV] at key
              have hw1 : IntKind.i64.wrap ((y : Int) + 1) = ((y + 1 : Nat) : Int) := by rw [IntWalk.i64_in _ (by omega)]; omega
              iterate 2
                refine wpG_pure fun K hK => ?_
                go_simp
                refine hK _ ?_
                clear hK K
              refine wpG_end ?_
              have c12 := h12d.cell
              have c8 := hSd.b8.cell
              go_wp2_with fail
              refine key.mono ?_
              rintro e w6 ⟨rfl, hf6⟩
              have hm0 := hidIt (cellN_blk h12)
              clear c12
              replace h12d := h12d.fr0 hf6
              have c12 := h12d.cell
              have f12 := h12d.frozen
              have l12 := h12d.lt
              have hK6 := (hf6.block D hKl (by simp)).trans hK
              go_wp2
              have h12' := h12d.setCell 0 (.int .i64 ((y + 1 : Nat) : Int))
              have hs := Fr.set1 w6 b12 (.int .i64 ((y + 1 : Nat) : Int))
              go_roundw
              case rel => exact ⟨y + 1, by omega, by omega, h12', (h13d.fr0 hf6).other (by simp) _, (hSd.step0 hf6).step hs EL (fun x hx => by have := List.mem_singleton.1 hx; omega), (Below.heap_setCell _ _ _ _ (by show D ≠ b12; omega)).trans hK6⟩
              case measure =>
                rw [show ((y : Int) + 1) = ((y + 1 : Nat) : Int) by omega, cellN_blk h12', hm0.out]
                simp only [Int.toNat_natCast]
                omega
            · have hylt : ¬ ((y : Int) < (l.length : Int)) := by omega
              clear hrs
              iterate 2
                refine wpG_pure fun K hK => ?_
                go_simp
                refine hK _ ?_
                clear hK K
              refine wpG_end ?_
              have hFe : Fr [] wr.drew wr.drew.drew := (Fr.refl _ _).drew
              have hS2 := hSd.step0 hFe
              have hK2 : wr.drew.drew.heap[D]? = some (.deferred (some [])) := hK
              clear h12 h13 hS h12d h13d hrest
              go_wp2_with fail
              refine wp_region_G (Fr [w.heap.size + 1] wr.drew.drew) [(false, 0), (true, 1), (true, 2), (true, 3), (true, 4), (true, 5), (true, 6), (true, 9), (true, 11), (true, 12), (true, 13), (true, 14), (false, 7), (false, 8), (false, 10), (false, 15), (false, 16), (true, 17), (false, 18)] follows (by as_aux_lemma => kernel_rfl) (Fr.refl _ _) ?_
              simp only [inOrder, List.map_cons, List.map_nil, List.getD_cons_zero, List.getD_cons_succ]
              refine wpG_one fun K hK => ?_
              go_simp
              refine (alive_calls _).mono ?_
              rintro e w5 ⟨rfl, hf5⟩
              refine hK _ _ (hf5.weak) ?_
              clear hK K
              iterate 1
                refine wpG_pure fun K hK => ?_
                go_simp
                refine hK _ ?_
                clear hK K
              refine wpG_val (.pointer (some ⟨tb, 0, none⟩)) (by first | rfl | go_simp) (fun X hX => by have cc := (hS2.b8.fr hX (by simp; omega)).cell; go_simp) ?_
              simp only [Act.put, List.setIfInBounds_toArray, List.set_cons_zero, List.set_cons_succ]
              iterate 1
                refine wpG_pure fun K hK => ?_
                go_simp
                refine hK _ ?_
                clear hK K
              refine wpG_val (.int .i64 fr) (by first | rfl | go_simp) (fun X hX => by have cc := (hS2.b5.fr hX (by simp)).cell; go_simp) ?_
              simp only [Act.put, List.setIfInBounds_toArray, List.set_cons_zero, List.set_cons_succ]
              iterate 1
                refine wpG_pure fun K hK => ?_
                go_simp
                refine hK _ ?_
                clear hK K
              refine wpG_val (.int .i64 lo) (by first | rfl | go_simp) (fun X hX => by have cc := (hS2.b5.fr hX (by simp)).cell; go_simp) ?_
              simp only [Act.put, List.setIfInBounds_toArray, List.set_cons_zero, List.set_cons_succ]
              refine wpG_val (.pointer (some ⟨tb, 0, none⟩)) (by first | rfl | go_simp) (fun X hX => by have cc := (hS2.b8.fr hX (by simp; omega)).cell; go_simp) ?_
              simp only [Act.put, List.setIfInBounds_toArray, List.set_cons_zero, List.set_cons_succ]
              iterate 1
                refine wpG_pure fun K hK => ?_
                go_simp
                refine hK _ ?_
                clear hK K
              refine wpG_val (.int .i64 fr) (by first | rfl | go_simp) (fun X hX => by have cc := (hS2.b5.fr hX (by simp)).cell; go_simp) ?_
              simp only [Act.put, List.setIfInBounds_toArray, List.set_cons_zero, List.set_cons_succ]
              iterate 1
                refine wpG_pure fun K hK => ?_
                go_simp
                refine hK _ ?_
                clear hK K
              refine wpG_val (.int .i64 lo) (by first | rfl | go_simp) (fun X hX => by have cc := (hS2.b5.fr hX (by simp)).cell; go_simp) ?_
              simp only [Act.put, List.setIfInBounds_toArray, List.set_cons_zero, List.set_cons_succ]
              have T5 := hS2.tab.fr0 hf5
              refine wpG_one fun K hK => ?_
              go_simp
              refine (Row_calls tb mb l fr lo _ T5).mono ?_
              rintro e w6 ⟨u6, rfl, ho6, hf6⟩
              have hf56 := hf5.trans0 hf6
              refine hK _ _ (hf56.weak) ?_
              clear hK K
              have hs6 : SlS w6 u6 (rowL l fr (rowN lo)) := SlF.of_owns (by rw [rowL_length]; exact ho6)
              refine wpG_one fun K hK => ?_
              go_simp
              refine (plain_calls u6 _ _ hs6 (by rw [rowL_length]; have := rowN_le lo; omega)).mono ?_
              rintro e w7 ⟨u7, rfl, ho7, hf7⟩
              have hf57 := hf56.trans0 hf7
              refine hK _ _ (hf57.weak) ?_
              clear hK K
              have hs7 : SlS w7 u7 (rowL l fr (rowN lo)) := SlF.of_owns ho7
              refine wpG_one fun K hK => ?_
              go_simp
              refine (all_calls tb mb l _ (T5.fr0 (hf6.trans0 hf7))).mono ?_
              rintro e w8 ⟨u8, rfl, ho8, hf8⟩
              have hf58 := hf57.trans0 hf8
              refine hK _ _ (hf58.weak) ?_
              clear hK K
              refine wpG_one fun K hK => ?_
              go_simp
              refine (rRow_calls u8 l fr lo _ (SlF.of_owns ho8)).mono ?_
              rintro e w9 ⟨u9, rfl, ho9, hf9⟩
              have hf59 := hf58.trans0 hf9
              refine hK _ _ (hf59.weak) ?_
              clear hK K
              refine wpG_one fun K hK => ?_
              go_simp
              refine (Same_calls u7 u9 (rowL l fr (rowN lo)) _ (hs7.fr0 (hf8.trans0 hf9)) (SlF.of_owns (by rw [rowL_length]; exact ho9))).mono ?_
              rintro e wA ⟨rfl, hfA⟩
              have hf5A := hf59.trans0 hfA
              refine hK _ _ (hf5A.weak) ?_
              clear hK K
              iterate 1
                refine wpG_pure fun K hK => ?_
                go_simp
                refine hK _ ?_
                clear hK K
              have B6 := hS2.b6.fr0 hf5A
              have c6 := B6.cell
              have f6 := B6.frozen
              have l6 := B6.lt
              refine wpG_one fun K hK => ?_
              go_simp
              refine hK _ _ (hf5A.weak.setCell (.inl (by simp)) _) ?_
              clear hK K
              refine wpG_end ?_
              have hKA : wA.heap[D]? = some (.deferred (some [])) := (hf5A.block D (Array.getElem?_eq_some_iff.1 hK2).1 (by simp)).trans hK2
              have B6z := B6.setCell 0 (.bool true)
              go_wp2
              refine leave_mark (v := .bool true) rfl ((Below.heap_setCell _ _ _ _ (by show D ≠ w.heap.size + 1; omega)).trans hKA) (fun W' hF => ?_) fun W' hF => ⟨rfl, ((hS2.fr.trans0 hf5A).setCell (.inr (by simp)) _).trans1 hF (by omega)⟩
              have c6' := (B6z.fr hF (by simp; omega)).cell
              simp [results, Try.results7, go_sem, c6']
theorem TableEach_any (w : World) (n : Int) (_ : wfI n) (vs : Value) (os : List Opr) (hs : SlO w vs os) (_ : ∀ x ∈ os, wfO x) (a b c : Int) (_ : wfI a) (_ : wfI b) (_ : wfI c) :
    Calls Try.prog 7 #[.int .i64 n, vs, .agg #[.int .i64 a, .int .i64 b, .int .i64 c]] w fun e w' => e = .returned (.bool true) ∧ Fr [] w w' := by
  cases h : okSize n && decide (os.length ≤ 100) with
  | false => exact TableEach_no n vs os a b c w hs h
  | true =>
    simp only [Bool.and_eq_true, decide_eq_true_eq] at h
    obtain ⟨k, rfl⟩ : ∃ k : Nat, n = (k : Int) := ⟨n.toNat, by have := h.1; simp [okSize] at this; omega⟩
    exact TableEach_yes k vs os a b c w hs (by have := h.1; simp [okSize] at this; omega) h.2
end Go.Proofs.Ytknbjdbdpdbeiaa
