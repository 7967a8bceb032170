/-
  Package image: pieces, and what its iterator hands out.
-/
import Derived.Test.YtilhbjjjmdnjmaaGreatM16
import Derived.Test.YtilhbjjjmdnjmaaGreatM14
import Derived.Test.YtilhbjjjmdnjmaaGreatM15
import Derived.Test.YtilhbjjjmdnjmaaGreatM10
import Derived.RangeFuncBound
import Derived.Shelf.RegionOpen
import Derived.OwnWalkIn
import Derived.TacticsInMore
import Derived.LoopNIn
import Derived.LoopIn
namespace Go.Proofs.YtilhbjjjmdnjmaaGreat
open Go.RowKit Go.Maps
attribute [local go_sem] Oper.semAt_some

section
variable {ib : Nat} {p : Pl} {M : Img}
def pieceV (z a l k : Nat) : Value := .agg #[.int .i64 (pcC z a k : Nat), .int .i64 (pcFr z a k : Nat), .int .i64 (pcTo z a l k : Nat), .int .i64 (pcAt z a k : Nat)]
def piecesPost (w : World) (ib a l : Nat) (e : Ending) (w' : World) : Prop := ∃ b1 b2 b3, e = .returned (.func (.func 84) #[] #[.pointer (some ⟨b1, 0, none⟩), .pointer (some ⟨b2, 0, none⟩), .pointer (some ⟨b3, 0, none⟩)]) ∧
  Blk w' b1 [.pointer (some ⟨ib, 0, none⟩)] 29 ∧ Blk w' b2 [.int .i64 (a : Int)] 3 ∧ Blk w' b3 [.int .i64 (l : Int)] 3 ∧ Fr [] w w' ∧ w.heap.size ≤ b1 ∧ w.heap.size ≤ b2 ∧ w.heap.size ≤ b3
set_option maxRecDepth 100000 in
set_option maxHeartbeats 800000 in
theorem iPieces_calls (a l : Nat) (w : World) : Calls Tryz.prog 44 #[.pointer (some ⟨ib, 0, none⟩), .int .i64 (a : Int), .int .i64 (l : Int)] w (piecesPost w ib a l) := by
  go_enter Tryz.func44, Tryz.ntmps44
  go_wp2
  go_ret
  exact ⟨_, _, _, rfl, ((Blk.new w [_] _).alloc _).alloc _, (Blk.new' (by simp) [_] _).alloc _, Blk.new' (by simp) [_] _, (((Fr.refl _ _).alloc _).alloc _).alloc _, Nat.le_refl _, by omega, by omega⟩
set_option maxRecDepth 100000 in
set_option maxHeartbeats 2000000 in
theorem pieces_seq (b1 b2 b3 a l : Nat) (w : World) (h : ImgW w ib p M) (hB : M.B ≤ 3) (hal : a + l ≤ 4096) (h1 : Blk w b1 [.pointer (some ⟨ib, 0, none⟩)] 29) (h2 : Blk w b2 [.int .i64 (a : Int)] 3) (h3 : Blk w b3 [.int .i64 (l : Int)] 3) :
    Seq Tryz.prog 84 #[.pointer (some ⟨b1, 0, none⟩), .pointer (some ⟨b2, 0, none⟩), .pointer (some ⟨b3, 0, none⟩)] [] (fun x => x = b3) (pcN M.z a l) (fun k _ args => args = #[pieceV M.z a l k]) w := by
  intro lp J Jx fp W hFW hl1 hl2 hst hsx hfp hJ hY
  have hz : 0 < M.z ∧ M.z ≤ 128 := by
    unfold Img.z
    have : 2 ^ M.B ≤ 2 ^ 3 := Nat.pow_le_pow_right (by omega) hB
    have := Nat.two_pow_pos M.B
    omega
  have kB := iBytes_calls W (h.fr0 hFW) hB
  have B1 := h1.fr0 hFW
  have B2 := h2.fr0 hFW
  have B3 := h3.fr0 hFW
  have c1 := B1.cell
  have hHk : ∀ k, Hid (k < pcN M.z a l ↔ 0 < l ∧ pcC M.z a k * M.z < 16 * (a + l)) := fun k => hidIt (pc_lt hz.1)
  have hHf : ∀ k, k < pcN M.z a l → Hid (pcFr M.z a k < pcTo M.z a l k ∧ pcTo M.z a l k ≤ M.z ∧ pcC M.z a k * M.z + pcTo M.z a l k ≤ 16 * (a + l) ∧ pcFr M.z a k = 16 * a - pcC M.z a k * M.z ∧ pcTo M.z a l k = min (16 * (a + l) - pcC M.z a k * M.z) M.z ∧ pcAt M.z a k = pcC M.z a k * M.z + pcFr M.z a k - 16 * a ∧ 16 * a ≤ pcC M.z a k * M.z + pcFr M.z a k) := fun k hk => by
    have := pc_facts hz.1 hk
    exact hidIt ⟨this.1, this.2.1, this.2.2.1, rfl, rfl, rfl, this.2.2.2.2.1⟩
  have hH0 : Hid (16 * a / M.z = pcC M.z a 0) := hidIt rfl
  have hHs : ∀ k, Hid (pcC M.z a (k + 1) = pcC M.z a k + 1) := fun k => hidIt rfl
  refine callsIn_of_wp Tryz.func84 rfl trivial ?_ rfl
  simp only [Tryz.ntmps84, List.size_toArray, List.length_cons, List.length_nil, Nat.reduceAdd, Nat.reduceSub, Array.replicate_succ, Array.replicate_zero, List.push_toArray, List.append_toArray, List.nil_append, List.cons_append]
  gi_wp2_with fail
  refine ⟨trivial, rfl, (callsIn_wide.2 kB).mono ?_⟩
  rintro e w1 ⟨rfl, rfl⟩
  have hdr : Fr [] W W.drew := (Fr.refl [] W).drew
  have hJ1 := hst 0 fp W W.drew [] hJ hdr (fun x h => by cases h)
  have d2 := B2.drew
  have d3 := B3.drew
  have hw1 : IntKind.i64.wrap ((a : Int) * 16) = ((16 * a : Nat) : Int) := (IntWalk.i64_in _ (by omega)).trans (by omega)
  have hw2 : IntKind.i64.wrap ((a : Int) + (l : Int)) = ((a + l : Nat) : Int) := (IntWalk.i64_in _ (by omega)).trans (by omega)
  have hw3 : IntKind.i64.wrap (((a : Int) + (l : Int)) * 16) = ((a : Int) + (l : Int)) * 16 := IntWalk.i64_in _ (by omega)
  clear h h1 h2 h3 kB
  gi_wp2_with fail
  refine wpIn_wide.2 ?_
  refine wp_region_G (Fr [] W.drew) [(true, 0), (true, 1), (true, 2), (true, 3), (true, 4), (true, 5), (true, 6), (true, 7)] (by as_aux_lemma => kernel_rfl) (by as_aux_lemma => kernel_rfl) (Fr.refl _ _) ?_
  simp only [inOrder, List.map_cons, List.map_nil, List.getD_cons_zero, List.getD_cons_succ]
  refine wpG_val (.int .i64 (a : Int)) (by first | rfl | go_simp) (fun X hX => by have cc := (d2.fr0 hX).cell; go_simp) ?_
  simp only [Act.put, List.setIfInBounds_toArray, List.set_cons_zero, List.set_cons_succ]
  iterate 1
    refine wpG_pure fun K hK => ?_
    go_simp
    refine hK _ ?_
    clear hK K
  refine wpG_val (.int .i64 (a : Int)) (by first | rfl | go_simp) (fun X hX => by have cc := (d2.fr0 hX).cell; go_simp) ?_
  simp only [Act.put, List.setIfInBounds_toArray, List.set_cons_zero, List.set_cons_succ]
  refine wpG_val (.int .i64 (l : Int)) (by first | rfl | go_simp) (fun X hX => by have cc := (d3.fr0 hX).cell; go_simp) ?_
  simp only [Act.put, List.setIfInBounds_toArray, List.set_cons_zero, List.set_cons_succ]
  iterate 4
    refine wpG_pure fun K hK => ?_
    go_simp
    refine hK _ ?_
    clear hK K
  refine wpG_end ?_
  obtain ⟨lo, hlo⟩ : ∃ lo : Nat, lo = 16 * a := ⟨_, rfl⟩
  obtain ⟨hi, hhi⟩ : ∃ hi : Nat, hi = 16 * (a + l) := ⟨_, rfl⟩
  have e1 : (16 : Int) * (a : Int) = (lo : Int) := by omega
  have e2 : ((a : Int) + (l : Int)) * 16 = (hi : Int) := by omega
  rw [e1, e2]
  have hc0 : (lo : Int) / (M.z : Int) = ((pcC M.z a 0 : Nat) : Int) := by rw [← hH0.out, hlo]; omega
  have hC0 : pcC M.z a 0 ≤ 65536 := by rw [← hH0.out]; exact Nat.le_trans (Nat.div_le_self _ _) (by omega)
  have hhib : hi ≤ 65536 := by omega
  rw [← hhi] at hHk hHf
  rw [← hlo] at hHf
  have hlohi : lo ≤ hi := by omega
  clear e1 e2 hlo hhi hw1 hw2 hw3 hH0 hdr B1 B2 c1
  obtain ⟨N, hNq⟩ : ∃ N, Hid (N = pcN M.z a l) := ⟨_, hidIt rfl⟩
  rw [← hNq.out] at hHk hHf hY
  have hY' := fun k f A h1 h2 => hY k f A #[pieceV M.z a l k] h1 h2 rfl
  unfold pieceV at hY'
  generalize hC : pcC M.z a = C at *
  generalize pcFr M.z a = F at *
  generalize pcTo M.z a l = T at *
  generalize pcAt M.z a = A0 at *
  generalize M.z = z at hz hc0 hHk hHf hY' ⊢
  clear hY hC
  have B3 := d3
  clear d2 d3 hJ
  gi_wp2_with fail
  gi_loopw [8, 9] (fun i _ wr => ∃ (k : Nat) (f : List Nat), k ≤ N ∧ i = .int .i64 (C k : Nat) ∧ C k ≤ 65536 ∧ J k f wr ∧ (∀ x ∈ f, x < wr.heap.size ∧ x ≠ b3) ∧ Blk wr b3 [.int .i64 (l : Int)] 3 ∧ W.heap.size ≤ wr.heap.size) (fun i _ _ => hi - (intOf i).toNat)
  case atStart => exact ⟨0, fp, Nat.zero_le _, rfl, hC0, hJ1, fun x hx => ⟨(hfp x hx).1, (hfp x hx).2⟩, B3, Nat.le_refl _⟩
  case round =>
    clear hJ1 hfp B3 hc0
    obtain ⟨k, f, hk, rfl, hcb, hj, hf, B3, hsz⟩ := hrel
    have c3 := B3.cell
    have hHk' := (hHk k).out
    by_cases hlt : k < N
    · obtain ⟨f1, f2, f3, f4, f5, f6, f7⟩ := (hHf k hlt).out
      obtain ⟨g1, g2⟩ := hHk'.1 hlt
      have hCm : C k ≤ C k * z := Nat.le_mul_of_pos_right _ hz.1
      have hmul : (C k : Int) * (z : Int) = ((C k * z : Nat) : Int) := by push_cast; rfl
      have hs := hHs k
      have hy := hY' k f
      have hch : C k < hi := by omega
      generalize hm : C k * z = m at *
      generalize C k = ck at *
      generalize F k = fk at *
      generalize T k = tk at *
      generalize A0 k = ak at *
      have hl0 : (0 : Int) < (l : Int) := by omega
      have hmh : (m : Int) < (hi : Int) := by omega
      by_cases hA : lo < m <;> by_cases hH : z < hi - m
      · have e1 : fk = 0 := by omega
        have l1 : (lo : Int) - (m : Int) < 0 := by omega
        have a1 : (m : Int) - (lo : Int) = (ak : Int) := by omega
        have e1' : (fk : Int) = 0 := by omega
        rw [e1'] at hy
        have e2 : tk = z := by omega
        have h1 : ¬ (hi : Int) - (m : Int) ≤ (z : Int) := by omega
        subst e2
        have hFa : Fr [] wr (wr.alloc (.cells #[.int .i64 (ck : Int), .int .i64 0, .int .i64 (tk : Int), .int .i64 (ak : Int)] 101)) := (Fr.refl _ _).alloc _
        have hy2 := hy _ hlt (hst _ _ _ _ [] hj hFa (fun x h => by cases h))
        have B3a := B3.fr0 hFa
        have hsa := hFa.size
        obtain ⟨fn', tmps', assign', body', hyy, hR⟩ := hy2
        have hHN := hidIt hlt
        clear hY' hst hy f4 f5 f6 hHk' hHk hHf hHs hCm g2 f2 f3 f7 hlt
        gi_wp2_with fail
        refine ⟨rfl, hR.mono ?_⟩
        clear hR hyy
        rintro e w4 (⟨rfl, f', hj4, hf4, hg4⟩ | ⟨rfl, hjx⟩)
        · have q4 := hf4.size
          have B34 := B3a.fr hf4 (fun h => (hf _ h).2 rfl)
          have hg : ∀ y, y ∈ f' → y < w4.heap.size ∧ y ≠ b3 := fun y hy => by
            refine ⟨(hg4 y hy).1, ?_⟩
            rcases (hg4 y hy).2 with h | h
            · exact (hf y h).2
            · have := B3a.lt; omega
          gi_wp2
          go_roundw
          case rel => exact ⟨k + 1, f', by have := hHN.out; omega, by rw [hs.out]; go_num, by rw [hs.out]; omega, hj4, hg, B34, by omega⟩
          case measure => simp [intOf]; omega
        · gi_wp2
          refine bodyPost_ret (results_none rfl _ _ _) rfl ?_
          exact ⟨⟨_, rfl⟩, .inr hjx⟩
      · have e1 : fk = 0 := by omega
        have l1 : (lo : Int) - (m : Int) < 0 := by omega
        have a1 : (m : Int) - (lo : Int) = (ak : Int) := by omega
        have e1' : (fk : Int) = 0 := by omega
        rw [e1'] at hy
        have h1 : (hi : Int) - (m : Int) ≤ (z : Int) := by omega
        have h2 : (hi : Int) - (m : Int) = (tk : Int) := by omega
        have h3 : (tk : Int) ≤ (z : Int) := by omega
        have hFa : Fr [] wr (wr.alloc (.cells #[.int .i64 (ck : Int), .int .i64 0, .int .i64 (tk : Int), .int .i64 (ak : Int)] 101)) := (Fr.refl _ _).alloc _
        have hy2 := hy _ hlt (hst _ _ _ _ [] hj hFa (fun x h => by cases h))
        have B3a := B3.fr0 hFa
        have hsa := hFa.size
        obtain ⟨fn', tmps', assign', body', hyy, hR⟩ := hy2
        have hHN := hidIt hlt
        clear hY' hst hy f4 f5 f6 hHk' hHk hHf hHs hCm g2 f2 f3 f7 hlt
        gi_wp2_with fail
        refine ⟨rfl, hR.mono ?_⟩
        clear hR hyy
        rintro e w4 (⟨rfl, f', hj4, hf4, hg4⟩ | ⟨rfl, hjx⟩)
        · have q4 := hf4.size
          have B34 := B3a.fr hf4 (fun h => (hf _ h).2 rfl)
          have hg : ∀ y, y ∈ f' → y < w4.heap.size ∧ y ≠ b3 := fun y hy => by
            refine ⟨(hg4 y hy).1, ?_⟩
            rcases (hg4 y hy).2 with h | h
            · exact (hf y h).2
            · have := B3a.lt; omega
          gi_wp2
          go_roundw
          case rel => exact ⟨k + 1, f', by have := hHN.out; omega, by rw [hs.out]; go_num, by rw [hs.out]; omega, hj4, hg, B34, by omega⟩
          case measure => simp [intOf]; omega
        · gi_wp2
          refine bodyPost_ret (results_none rfl _ _ _) rfl ?_
          exact ⟨⟨_, rfl⟩, .inr hjx⟩
      · have l1 : ¬ (lo : Int) - (m : Int) < 0 := by omega
        have l2 : (lo : Int) - (m : Int) = (fk : Int) := by omega
        have l3 : ¬ (fk : Int) < 0 := by omega
        have a1 : (m : Int) + (fk : Int) - (lo : Int) = (ak : Int) := by omega
        have e2 : tk = z := by omega
        have h1 : ¬ (hi : Int) - (m : Int) ≤ (z : Int) := by omega
        subst e2
        have hFa : Fr [] wr (wr.alloc (.cells #[.int .i64 (ck : Int), .int .i64 (fk : Int), .int .i64 (tk : Int), .int .i64 (ak : Int)] 101)) := (Fr.refl _ _).alloc _
        have hy2 := hy _ hlt (hst _ _ _ _ [] hj hFa (fun x h => by cases h))
        have B3a := B3.fr0 hFa
        have hsa := hFa.size
        obtain ⟨fn', tmps', assign', body', hyy, hR⟩ := hy2
        have hHN := hidIt hlt
        clear hY' hst hy f4 f5 f6 hHk' hHk hHf hHs hCm g2 f2 f3 f7 hlt
        gi_wp2_with fail
        refine ⟨rfl, hR.mono ?_⟩
        clear hR hyy
        rintro e w4 (⟨rfl, f', hj4, hf4, hg4⟩ | ⟨rfl, hjx⟩)
        · have q4 := hf4.size
          have B34 := B3a.fr hf4 (fun h => (hf _ h).2 rfl)
          have hg : ∀ y, y ∈ f' → y < w4.heap.size ∧ y ≠ b3 := fun y hy => by
            refine ⟨(hg4 y hy).1, ?_⟩
            rcases (hg4 y hy).2 with h | h
            · exact (hf y h).2
            · have := B3a.lt; omega
          gi_wp2
          go_roundw
          case rel => exact ⟨k + 1, f', by have := hHN.out; omega, by rw [hs.out]; go_num, by rw [hs.out]; omega, hj4, hg, B34, by omega⟩
          case measure => simp [intOf]; omega
        · gi_wp2
          refine bodyPost_ret (results_none rfl _ _ _) rfl ?_
          exact ⟨⟨_, rfl⟩, .inr hjx⟩
      · have l1 : ¬ (lo : Int) - (m : Int) < 0 := by omega
        have l2 : (lo : Int) - (m : Int) = (fk : Int) := by omega
        have l3 : ¬ (fk : Int) < 0 := by omega
        have a1 : (m : Int) + (fk : Int) - (lo : Int) = (ak : Int) := by omega
        have h1 : (hi : Int) - (m : Int) ≤ (z : Int) := by omega
        have h2 : (hi : Int) - (m : Int) = (tk : Int) := by omega
        have h3 : (tk : Int) ≤ (z : Int) := by omega
        have hFa : Fr [] wr (wr.alloc (.cells #[.int .i64 (ck : Int), .int .i64 (fk : Int), .int .i64 (tk : Int), .int .i64 (ak : Int)] 101)) := (Fr.refl _ _).alloc _
        have hy2 := hy _ hlt (hst _ _ _ _ [] hj hFa (fun x h => by cases h))
        have B3a := B3.fr0 hFa
        have hsa := hFa.size
        obtain ⟨fn', tmps', assign', body', hyy, hR⟩ := hy2
        have hHN := hidIt hlt
        clear hY' hst hy f4 f5 f6 hHk' hHk hHf hHs hCm g2 f2 f3 f7 hlt
        gi_wp2_with fail
        refine ⟨rfl, hR.mono ?_⟩
        clear hR hyy
        rintro e w4 (⟨rfl, f', hj4, hf4, hg4⟩ | ⟨rfl, hjx⟩)
        · have q4 := hf4.size
          have B34 := B3a.fr hf4 (fun h => (hf _ h).2 rfl)
          have hg : ∀ y, y ∈ f' → y < w4.heap.size ∧ y ≠ b3 := fun y hy => by
            refine ⟨(hg4 y hy).1, ?_⟩
            rcases (hg4 y hy).2 with h | h
            · exact (hf y h).2
            · have := B3a.lt; omega
          gi_wp2
          go_roundw
          case rel => exact ⟨k + 1, f', by have := hHN.out; omega, by rw [hs.out]; go_num, by rw [hs.out]; omega, hj4, hg, B34, by omega⟩
          case measure => simp [intOf]; omega
        · gi_wp2
          refine bodyPost_ret (results_none rfl _ _ _) rfl ?_
          exact ⟨⟨_, rfl⟩, .inr hjx⟩
    · have hke : k = N := by omega
      subst hke
      have hnot : ¬ (0 < l ∧ C k * z < hi) := fun h => hlt (hHk'.2 h)
      have hmul : (C k : Int) * (z : Int) = ((C k * z : Nat) : Int) := by push_cast; rfl
      have hkz : C k * z ≤ 65536 * 128 := Nat.mul_le_mul hcb hz.2
      clear hHk' hHk
      generalize hm : C k * z = m at *
      have hl3 : ¬ (0 : Int) < (l : Int) ∨ (0 : Int) < (l : Int) ∧ ¬ (m : Int) < (hi : Int) := by omega
      rcases hl3 with h | ⟨h0, h⟩
      · gi_wp2
        go_end0
        exact ⟨⟨_, rfl⟩, .inl ⟨f, by rw [← hNq.out]; exact hj⟩⟩
      · gi_wp2
        go_end0
        exact ⟨⟨_, rfl⟩, .inl ⟨f, by rw [← hNq.out]; exact hj⟩⟩
end
end Go.Proofs.YtilhbjjjmdnjmaaGreat
