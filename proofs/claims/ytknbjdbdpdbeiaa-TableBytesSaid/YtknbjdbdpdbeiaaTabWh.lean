/-
  table.whole, slices.Equal of rows of bytes.
-/
import Derived.Test.YtknbjdbdpdbeiaaTabEr
import Derived.Test.YtknbjdbdpdbeiaaTabDec
import Derived.Test.YtknbjdbdpdbeiaaRng
namespace Go.Proofs.Ytknbjdbdpdbeiaa
open Go.RowKit Go.Maps
attribute [local go_sem] Oper.semAt_some
attribute [local go_sem] mapAt_alloc mapAt_setCell mapAt_drew mapAt_drewN
attribute [local go_sem high] equalSlot0 equalSlotR0 equalGroup guardGroup buildGroup zeroGroup gC_size grp_length zG_length

theorem lstR_mem {ks : List Nat} {G : Nat → List Slt} {p : Nat × Slt} (h : p ∈ lstR ks G) : ∃ k ∈ ks, ∃ i, i < 16 ∧ ((G k).getD i zS).1 ≠ 0 ∧ p.1 = 16 * k + i := by
  obtain ⟨k, hk, hp⟩ := List.mem_flatMap.1 h
  obtain ⟨i, hi, rfl⟩ := List.mem_map.1 hp
  obtain ⟨h1, h2⟩ := List.mem_filter.1 hi
  exact ⟨k, hk, i, by simpa using h1, by simpa [kindR] using h2, rfl⟩
theorem mem_lstR {ks : List Nat} {G : Nat → List Slt} {k i : Nat} (hk : k ∈ ks) (hi : i < 16) (h0 : ((G k).getD i zS).1 ≠ 0) : (16 * k + i, (G k).getD i zS) ∈ lstR ks G :=
  List.mem_flatMap.2 ⟨k, hk, List.mem_map.2 ⟨i, List.mem_filter.2 ⟨by simpa using hi, by simpa [kindR] using h0⟩, rfl⟩⟩
theorem wholeR_yes {n : Nat} {ks : List Nat} {G : Nat → List Slt} (h1 : ∀ k ∈ ks, G k ≠ zG) (h2 : ∀ i, i < (lstR ks G).length → ((lstR ks G).getD i zP).1 < n) : wholeR n ks G := fun k hk =>
  ⟨h1 k hk, fun i hi h0 => by
    obtain ⟨j, hj, he⟩ := List.getElem_of_mem (mem_lstR hk hi h0)
    have := h2 j hj
    rw [List.getD_eq_getElem?_getD, List.getElem?_eq_getElem hj, Option.getD_some, he] at this
    exact this⟩
theorem wholeR_no {n : Nat} {ks : List Nat} {G : Nat → List Slt} {i : Nat} (hi : i < (lstR ks G).length) (h : n ≤ ((lstR ks G).getD i zP).1) : ¬ wholeR n ks G := fun hw => by
  have hm : (lstR ks G).getD i zP ∈ lstR ks G := by rw [List.getD_eq_getElem?_getD, List.getElem?_eq_getElem hi]; exact List.getElem_mem _
  obtain ⟨k, hk, j, hj, h0, he⟩ := lstR_mem hm
  have := (hw k hk).2 j hj h0
  omega
theorem rawM_some {ks : List Nat} {G : Nat → List Slt} {kv v : Value} (h : rawM ks G kv = some v) : ∃ k ∈ ks, kv = .int .i64 ((k : Nat) : Int) ∧ v = .agg (gC (G k)) := by
  cases kv with
  | int q k =>
    cases q <;> first | (simp [rawM] at h; done) | skip
    rw [rawM_int] at h
    by_cases hc : 0 ≤ k ∧ k.toNat ∈ ks
    · rw [if_pos hc] at h
      cases h
      exact ⟨k.toNat, hc.2, by congr 1; omega, rfl⟩
    · rw [if_neg hc] at h
      cases h
  | _ => simp [rawM] at h
def wholePost (w : World) (n : Nat) (ks : List Nat) (G : Nat → List Slt) (e : Ending) (w' : World) : Prop :=
  ((wholeR n ks G ∧ e = .returned (.bool true)) ∨ (¬ wholeR n ks G ∧ e = .returned (.bool false))) ∧ Fr [] w w'
set_option maxRecDepth 100000 in
set_option maxHeartbeats 3200000 in
theorem whole_calls (tb mb n : Nat) (ks : List Nat) (G : Nat → List Slt) (w : World) (hT : RawW w tb mb n ks G) : Calls Try.prog 51 #[.pointer (some ⟨tb, 0, none⟩)] w (wholePost w n ks G) := by
  have hlts := hT.lts
  have hgl : ∀ k ∈ ks, (G k).length = 16 := fun k hk => (hT.grp k hk).1
  have B1 := (Blk.new w [.pointer (some ⟨tb, 0, none⟩)] 23).alloc (.cells #[.bool false] 4)
  have B2 : Blk ((w.alloc (.cells #[.pointer (some ⟨tb, 0, none⟩)] 23)).alloc (.cells #[.bool false] 4)) (w.heap.size + 1) [.bool false] 4 := Blk.new' (by simp) [.bool false] _
  have hF0 := ((Fr.refl [] w).alloc (.cells #[.pointer (some ⟨tb, 0, none⟩)] 23)).alloc (.cells #[.bool false] 4)
  have hT0 := hT.fr0 hF0
  obtain ⟨es, clock, hm, hi⟩ := hT0.map
  have cT := hT0.blk.cell
  have c1 := B1.cell
  refine calls_marks Try.func51 rfl ?_
  simp only [Try.ntmps51, List.size_toArray, List.length_cons, List.length_nil, Nat.reduceAdd, Nat.reduceSub, Array.replicate_succ, Array.replicate_zero, List.push_toArray, List.append_toArray, List.nil_append, List.cons_append]
  go_wp2_with (first
    | (at_range; refine wpList_range_isM rfl _ _ rfl Try.underlying70 hi mb rfl hm ?_; intro hrg0)
    | go_in)
  go_frame
  have hfr := ((Fr.refl [] ((w.alloc (.cells #[.pointer (some ⟨tb, 0, none⟩)] 23)).alloc (.cells #[.bool false] 4))).alloc (.mapIter (some mb) clock #[] clock))
  have hF1 := hF0.trans0 hfr
  replace B1 := B1.fr0 hfr
  replace B2 := B2.fr0 hfr
  clear hm hi cT c1 hfr hF0 hT0
  have hsz : ((w.alloc (.cells #[.pointer (some ⟨tb, 0, none⟩)] 23)).alloc (.cells #[.bool false] 4)).heap.size = w.heap.size + 2 := by simp
  rw [hsz] at hrg0 ⊢
  have hsz2 : (((w.alloc (.cells #[.pointer (some ⟨tb, 0, none⟩)] 23)).alloc (.cells #[.bool false] 4)).alloc (.mapIter (some mb) clock #[] clock)).heap.size = w.heap.size + 3 := by simp
  have hz0 : w.heap.size + 3 ≤ (((w.alloc (.cells #[.pointer (some ⟨tb, 0, none⟩)] 23)).alloc (.cells #[.bool false] 4)).alloc (.mapIter (some mb) clock #[] clock)).heap.size := by rw [hsz2]; exact Nat.le_refl _
  generalize (((w.alloc (.cells #[.pointer (some ⟨tb, 0, none⟩)] 23)).alloc (.cells #[.bool false] 4)).alloc (.mapIter (some mb) clock #[] clock)) = W0 at *
  clear hsz hsz2
  go_loopw [4] (fun _ wr => ∃ L cnt, RngM Try.prog 3 wr mb (w.heap.size + 2) (rawM ks G) L cnt ∧ (∀ k ∈ ks, L (.int .i64 ((k : Nat) : Int)) ∨ G k ≠ zG) ∧ Blk wr w.heap.size [.pointer (some ⟨tb, 0, none⟩)] 23 ∧ Blk wr (w.heap.size + 1) [.bool false] 4 ∧ w.heap.size + 3 ≤ wr.heap.size ∧ Fr [] w wr) (fun _ wr => wr.rangeLeft mb (w.heap.size + 2))
  case atStart => exact ⟨_, _, hrg0, fun k hk => .inl (by rw [rawM_int, if_pos ⟨by omega, by rw [Int.toNat_natCast]; exact hk⟩]; rfl), B1, B2, hz0, hF1⟩
  case round =>
    clear hrg0 B1 B2 hz0 hF1
    obtain ⟨L, cnt, hrg, hL, B1, B2, hz, hF⟩ := hrel
    have hleft := hidIt hrg.left
    generalize wr = wo at *
    go_wp2_with (first
      | (at_next; refine wpList_next_isM rfl _ rfl mb (w.heap.size + 2) rfl hrg ?_ ?_)
      | go_in)
    · intro hL0
      have hall : ∀ k ∈ ks, G k ≠ zG := fun k hk => (hL k hk).elim (fun h => absurd h (hL0 _)) id
      have hTw := hT.fr0 hF
      have c1 := B1.cell
      clear hrg hL hL0 hleft
      go_wp2_with fail
      refine (tEach_calls tb _).mono ?_
      rintro e w4 ⟨bt, rfl, hbt, hf4, hb4⟩
      have hT4 := hTw.fr0 hf4
      replace B1 := B1.fr0 hf4
      replace B2 := B2.fr0 hf4
      have hF4 := hF.trans0 hf4
      have hseq := tEach_seqR bt tb mb n ks G w4 hbt hT4
      have heg : ∀ args w, (callFunc 38 args).run Try.prog w = .ok (.enter 38 args) w := enters_of Try.func38 (by kernel_rfl) rfl
      have hz4 := hf4.size
      have hltb := hT4.lts
      clear hF hTw c1 hf4
      go_wp2_with fail
      have hall' := hidIt hall
      have hsz := hF4.size
      have Hyes : Hid ((∀ i, i < (lstR ks G).length → ((lstR ks G).getD i zP).1 < n) → wholeR n ks G) := hidIt (fun h => wholeR_yes hall h)
      have Hno : ∀ i, i < (lstR ks G).length → Hid (n ≤ ((lstR ks G).getD i zP).1 → ¬ wholeR n ks G) := fun i hi => hidIt (fun h => wholeR_no hi h)
      have hpair : ∀ i, i < (lstR ks G).length → ((lstR ks G).getD i zP).1 < 1048592 := fun i hi => by
        have hm : (lstR ks G).getD i zP ∈ lstR ks G := by rw [List.getD_eq_getElem?_getD, List.getElem?_eq_getElem hi]; exact List.getElem_mem _
        obtain ⟨k, hk, j, hj, _, he⟩ := lstR_mem hm
        have := hT.key k hk
        omega
      clear hall
      refine wp_rangeFunc_seq rfl heg hseq (Fr.refl _ _) (fun k f A => f = [w.heap.size + 1] ∧ (∀ i, i < k → ((lstR ks G).getD i zP).1 < n) ∧ Blk A w.heap.size [.pointer (some ⟨tb, 0, none⟩)] 23 ∧ Blk A (w.heap.size + 1) [.bool false] 4 ∧ RawW A tb mb n ks G ∧ Fr [] w A)
        (fun c f A => c = .ret ∧ f = [w.heap.size + 1] ∧ ¬ wholeR n ks G ∧ Blk A (w.heap.size + 1) [.bool false] 4 ∧ Fr [] w A) [w.heap.size + 1] ?st ?sx (by simp)
        (fun x hx => by have := List.mem_singleton.1 hx; subst this; exact ⟨by omega, fun h => by omega⟩) ⟨rfl, fun i hi => by omega, B1, B2, hT4, hF4⟩ ?round ?done ?stop
      case st =>
        rintro k f A B M' ⟨rfl, hk, h1, h2, hTA, hFA⟩ hF hM
        have nM : ∀ y ∈ M', w4.heap.size ≤ y := fun y hy => by rcases hM y hy with h | h; cases h; exact h.1
        exact ⟨rfl, hk, h1.fr hF (fun h => by have := nM _ h; omega), h2.fr hF (fun h => by have := nM _ h; omega), hTA.fr hF (fun h => by have := nM _ h; omega) (fun h => by have := nM _ h; omega), hFA.trans hF (fun x hx hl => by have := nM _ hx; omega)⟩
      case sx =>
        rintro c f A B M' ⟨rfl, rfl, hw, h2, hFA⟩ hF hM
        have nM : ∀ y ∈ M', w4.heap.size ≤ y := fun y hy => (hM y hy).1
        exact ⟨rfl, rfl, hw, h2.fr hF (fun h => by have := nM _ h; omega), hFA.trans hF (fun x hx hl => by have := nM _ hx; omega)⟩
      case round =>
        rintro lp k f A args h1 h2 h3 h4 hkk ⟨rfl, hk, b1, b2, hTA, hFA⟩ rfl
        refine ⟨rfl, ?_⟩
        clear hseq heg hT4 B1 B2 hall' Hyes
        have hp := hpair k hkk
        have hno := Hno k hkk
        have hdef : ∃ q, Hid (q = (lstR ks G).getD k zP) := ⟨_, hidIt rfl⟩
        obtain ⟨q, Hq⟩ := hdef
        rw [← Hq.out] at hp hno ⊢
        have hnx : Hid (q.1 < n → ∀ i, i < k + 1 → ((lstR ks G).getD i zP).1 < n) := hidIt (fun hq i hi => by
          by_cases e : i = k
          · subst e; rw [← Hq.out]; exact hq
          · exact hk i (by omega))
        replace hk := hidIt hk
        clear Hq hpair Hno hkk
        obtain ⟨c, s⟩ := q
        simp only at hp hno hnx ⊢
        generalize lstR ks G = LL at *
        gi_wp2
        refine ⟨⟨trivial, hk.out, b1, b2, hTA, hFA⟩, Fr.refl _ _, ?_⟩
        clear hk b1 b2 hTA hFA
        rintro A2 ⟨_, hk, b1, b2, hTA, hFA⟩ hF2 hsz2
        replace hk := hidIt hk
        have c1 := b1.cell
        have cT := hTA.blk.cell
        have c2 := b2.cell
        have f2 := b2.frozen
        have l2 := b2.lt
        by_cases hc : c < n
        · have hci : ¬ (n : Int) ≤ (c : Int) := by omega
          replace hnx := hidIt (hnx.out hc)
          replace hk := hk.out
          clear hk hno hc
          gi_wp2
          exact ⟨_, ⟨rfl, hnx.out, b1, b2, hTA, hFA⟩, Fr.refl _ _, fun x hx => ⟨by have := List.mem_singleton.1 hx; omega, .inl hx⟩⟩
        · have hci : (n : Int) ≤ (c : Int) := by omega
          have hw := hidIt (hno.out (by omega))
          have hs1 := Fr.set1 A2 (w.heap.size + 1) (.bool false)
          have e2 := b2.setCell 0 (.bool false)
          clear hk hno hnx hc
          gi_wp2
          exact ⟨_, ⟨rfl, rfl, hw.out, e2, hFA.setCell (.inr (by simp)) _⟩, hs1, fun x hx => ⟨by have := List.mem_singleton.1 hx; simp; omega, .inl hx⟩⟩
      case done =>
        rintro D f W h1 h2 ⟨rfl, hk, b1, b2, hTA, hFA⟩ hK
        have hw := hidIt (Hyes.out hk)
        have f2 := b2.frozen
        have c2 := b2.cell
        have l2 := b2.lt
        have hKl := (Array.getElem?_eq_some_iff.1 hK).1
        go_wp2
        have hs1 := Fr.set1 W (w.heap.size + 1) (.bool true)
        refine leave_mark (v := .bool true) rfl ((hs1.block D hKl (by simpa using h2)).trans hK) (fun W' hf => ?_) (fun W' hf => ⟨.inl ⟨hw.out, rfl⟩, (hFA.setCell (.inr (by simp)) _).trans hf (fun x hx hl => by have := List.mem_singleton.1 hx; omega)⟩)
        have e2 := ((b2.setCell 0 (.bool true)).fr hf (by simpa using fun e => h2 (by simp [e]))).cell
        simp [results, Try.results51, go_sem, e2]
      case stop =>
        rintro D c f W h1 h2 ⟨rfl, rfl, hw, b2, hFA⟩ hK
        go_wp2
        refine leave_mark (v := .bool false) rfl hK (fun W' hf => ?_) (fun W' hf => ⟨.inr ⟨hw, rfl⟩, hFA.trans hf (fun x hx hl => by have := List.mem_singleton.1 hx; omega)⟩)
        have e2 := (b2.fr hf (by simpa using fun e => h2 (by simp [e]))).cell
        simp [results, Try.results51, go_sem, e2]
    · intro kv v w1 cnt1 hLk hmk hrg1 hlt hf1 hsz1 hen
      have hF1 : Fr [] w w1 := hF.trans hf1 (fun x hx hl => by simp at hx; omega)
      obtain ⟨k, hk, rfl, rfl⟩ := rawM_some hmk
      have hg16 := hgl k hk
      have hL1 : G k ≠ zG → ∀ k' ∈ ks, (L (.int .i64 ((k' : Nat) : Int)) ∧ ¬ (Value.int .i64 ((k' : Nat) : Int) = .int .i64 ((k : Nat) : Int))) ∨ G k' ≠ zG := fun hz k' hk' => by
        rcases hL k' hk' with h | h
        · by_cases e : k' = k
          · subst e; exact .inr hz
          · exact .inl ⟨h, fun e2 => e (by have := (Value.int.inj e2).2; omega)⟩
        · exact .inr h
      have Hno : Hid (G k = zG → ¬ wholeR n ks G) := hidIt (fun h hw => (hw k hk).1 h)
      have B1' := B1.fr hf1 (by simp)
      have B2' := B2.fr hf1 (by simp)
      replace hL1 := hidIt hL1
      clear B1 B2 hL hrg hf1 hmk hF hLk
      generalize G k = g at *
      by_cases hz : g = zG
      · have hzd : decide (g = zG) = true := decide_eq_true hz
        replace hz := hidIt hz
        have hFa := hF1.alloc (.cells (gC g) 78)
        have B2a := B2'.alloc (.cells (gC g) 78)
        have f2 := B2a.frozen
        have c2 := B2a.cell
        have l2 := B2a.lt
        have e2 := (B2a.setCell 0 (.bool false)).cell
        go_wp2_with (first | (refine wpList_allocGroup rfl rfl ?_) | (refine wpList_buildGroup rfl rfl ?_) | (refine wpList_storeGroup rfl _ _ rfl _ rfl _ rfl (by simp) hg16 (by simp [gC_size, zG_length]) ?_) | (refine wpList_loadGroup rfl _ rfl _ rfl (by simp) hg16 ?_))
        exact leave_plain (v := .bool false) rfl (by simp [results, Try.results51, go_sem, e2]) ⟨.inr ⟨Hno.out hz.out, rfl⟩, hFa.setCell (.inr (by simp)) _⟩
      · have hzd : decide (g = zG) = false := decide_eq_false hz
        replace hz := hidIt hz
        go_wp2_with (first | (refine wpList_allocGroup rfl rfl ?_) | (refine wpList_buildGroup rfl rfl ?_) | (refine wpList_storeGroup rfl _ _ rfl _ rfl _ rfl (by simp) hg16 (by simp [gC_size, zG_length]) ?_) | (refine wpList_loadGroup rfl _ rfl _ rfl (by simp) hg16 ?_))
        go_roundw
        case rel => exact ⟨_, _, hrg1.fr0 ((Fr.refl _ _).alloc _), hL1.out hz.out, B1'.alloc _, B2'.alloc _, by simp; omega, hF1.alloc _⟩
        case measure => rw [(hrg1.fr0 ((Fr.refl _ _).alloc _)).left, hleft.out]; omega
set_option maxRecDepth 100000 in
set_option maxHeartbeats 1600000 in
theorem EqualY_calls (v u : Value) (l m : List UInt8) (w : World) (hv : SlY w v l) (hu : SlY w u m) : Calls Try.prog 52 #[v, u] w fun e w' => e = .returned (.bool (decide (l = m))) ∧ Fr [] w w' := by
  obtain ⟨a, cap, rfl, _, hcm, _⟩ := hv.open
  obtain ⟨a', cap', rfl, _, hcm', _⟩ := hu.open
  unfold maxLen at hcm hcm'
  by_cases hlen : l.length = m.length
  · have hli : ((l.length : Int) != (m.length : Int)) = false := by simp [hlen]
    have Heq : Hid ((∀ i, i < l.length → l.getD i 0 = m.getD i 0) → decide (l = m) = true) := hidIt (fun h => decide_eq_true (by
      apply List.ext_getElem hlen
      intro i h1 h2
      have := h i h1
      rw [List.getD_eq_getElem?_getD, List.getElem?_eq_getElem h1, List.getD_eq_getElem?_getD, List.getElem?_eq_getElem h2] at this
      exact this))
    have Hne : ∀ i, Hid (l.getD i 0 ≠ m.getD i 0 → decide (l = m) = false) := fun i => hidIt (fun h => decide_eq_false (fun e => h (by rw [e])))
    generalize decide (l = m) = res at *
    have Hlen := hidIt hlen
    clear hlen
    go_enter Try.func52, Try.ntmps52
    go_wp2
    go_loopw [13] (fun i wr => ∃ k : Nat, k ≤ l.length ∧ i = .int .i64 k ∧ (∀ j, j < k → l.getD j 0 = m.getD j 0) ∧ Fr [] w wr) (fun i _ => l.length - (intOf i).toNat)
    case atStart => exact ⟨0, Nat.zero_le _, rfl, fun j hj => by omega, Fr.refl _ _⟩
    case round =>
      obtain ⟨k, hk, rfl, hall, hF⟩ := hrel
      by_cases hlt : k < l.length
      · have hlt' : k < m.length := by rw [← Hlen.out]; exact hlt
        obtain ⟨b, off, rfl, hb, c0⟩ := SlY.at (SlF.fr0 hv hF) hlt
        obtain ⟨b', off', rfl, hb', c0'⟩ := SlY.at (SlF.fr0 hu hF) hlt'
        have hkm : (k : Int) < (m.length : Int) := by omega
        have hne := Hne k
        have hnx : Hid (l.getD k 0 = m.getD k 0 → ∀ j, j < k + 1 → l.getD j 0 = m.getD j 0) := hidIt (fun h j hj => by
          by_cases e : j = k
          · subst e; exact h
          · exact hall j (by omega))
        clear Hne hall Heq
        generalize l.getD k 0 = x at *
        generalize m.getD k 0 = y at *
        by_cases hxy : x = y
        · have hb1 : ((x.toNat : Int) != (y.toNat : Int)) = false := by simp [hxy]
          replace hnx := hidIt (hnx.out hxy)
          clear hne hxy
          generalize (x.toNat : Int) = X at *
          generalize (y.toNat : Int) = Y at *
          go_wp2_with fail
          go_quiet (fail)
          go_wp2
          go_roundw
          case rel => exact ⟨k + 1, by omega, by go_num, hnx.out, hF.drewN _⟩
          case measure => simp [intOf]; omega
        · have hb1 : ((x.toNat : Int) != (y.toNat : Int)) = true := by
            simp
            intro h
            exact hxy (UInt8.toNat_inj.1 (by omega))
          replace hne := hidIt (hne.out hxy)
          clear hnx hxy
          generalize (x.toNat : Int) = X at *
          generalize (y.toNat : Int) = Y at *
          go_wp2_with fail
          go_quiet (fail)
          go_wp2
          go_ret
          exact ⟨ret_bool hne.out.symm, hF.drewN _⟩
      · have hke : k = l.length := by omega
        subst hke
        have hres := hidIt (Heq.out hall)
        clear Heq Hne hall
        go_wp2
        go_ret
        exact ⟨ret_bool hres.out.symm, hF⟩
  · have hli : ((l.length : Int) != (m.length : Int)) = true := by simp; omega
    have hd : decide (l = m) = false := decide_eq_false (fun e => hlen (by rw [e]))
    rw [hd]
    clear hd hlen
    go_enter Try.func52, Try.ntmps52
    go_wp2
    go_ret
    exact ⟨rfl, Fr.refl _ _⟩
end Go.Proofs.Ytknbjdbdpdbeiaa
