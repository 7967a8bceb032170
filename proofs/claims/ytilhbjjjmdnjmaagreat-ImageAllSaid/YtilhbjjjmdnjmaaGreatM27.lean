/-
  table.Each: its iterator.
-/
import Derived.Test.YtilhbjjjmdnjmaaGreatM01
import Derived.Test.YtilhbjjjmdnjmaaGreatM08
import Derived.Test.YtilhbjjjmdnjmaaGreatM07
import Derived.Test.YtilhbjjjmdnjmaaGreatM15
import Derived.RangeFuncBound
import Derived.Shelf.RegionOpen
import Derived.OwnWalkIn
import Derived.TacticsInMore
import Derived.LoopNIn
import Derived.LoopIn
namespace Go.Proofs.YtilhbjjjmdnjmaaGreat
open Go.RowKit Go.Maps
attribute [local go_sem] Oper.semAt_some
attribute [local go_sem] mapAt_alloc mapAt_setCell mapAt_drew mapAt_drewN
attribute [local go_sem high] equalSlot0 equalGroup guardGroup buildGroup zeroGroup gC_size grp_length zG_length

def keptI (l : List Slt) : List Int := (keptL l).map Int.ofNat
theorem keptI_lt (l : List Slt) : (keptI l).Pairwise (· < ·) := List.pairwise_map.2 ((keptL_lt l).imp (fun {a b} h => by simp only [Int.ofNat_eq_natCast]; omega))
theorem keptI_mem {l : List Slt} (k : Int) : k ∈ keptI l ↔ (tabM l (.int .i64 k)).isSome = true := by
  unfold keptI
  rw [tabM_int, List.mem_map]
  constructor
  · rintro ⟨g, hg, rfl⟩
    obtain ⟨h1, h2⟩ := keptL_mem.1 hg
    simp only [Int.ofNat_eq_natCast, Int.toNat_natCast]
    rw [if_pos ⟨by omega, by omega, h2⟩]
    rfl
  · intro h
    by_cases hc : 0 ≤ k ∧ k < 16 ∧ keptG l k.toNat = true
    · exact ⟨k.toNat, keptL_mem.2 ⟨by omega, hc.2.2⟩, by simp only [Int.ofNat_eq_natCast]; omega⟩
    · rw [if_neg hc] at h
      cases h
theorem keptI_len (l : List Slt) : (keptI l).length = (keptL l).length := by simp [keptI]
theorem keptI_getD {l : List Slt} {j : Nat} (h : j < (keptL l).length) : (keptI l).getD j 0 = ((keptL l).getD j 0 : Nat) := by
  unfold keptI
  rw [List.getD_eq_getElem?_getD, List.getElem?_map, List.getD_eq_getElem?_getD, List.getElem?_eq_getElem h]
  rfl
set_option maxRecDepth 100000 in
set_option maxHeartbeats 2000000 in
theorem tEach_calls (tb : Nat) (w : World) : Calls Tryz.prog 92 #[.pointer (some ⟨tb, 0, none⟩)] w fun e w' => ∃ bt, e = .returned (.func (.func 103) #[] #[.pointer (some ⟨bt, 0, none⟩)]) ∧ Blk w' bt [.pointer (some ⟨tb, 0, none⟩)] 65 ∧ Fr [] w w' ∧ w.heap.size ≤ bt := by
  go_enter Tryz.func92, Tryz.ntmps92
  go_wp2
  go_ret
  exact ⟨_, rfl, Blk.new w [_] _, (Fr.refl _ _).alloc _, Nat.le_refl _⟩
set_option maxRecDepth 100000 in
set_option maxHeartbeats 2000000 in
theorem tEach_seq (bt tb mb : Nat) (l : List Slt) (w : World) (hbt : Blk w bt [.pointer (some ⟨tb, 0, none⟩)] 65) (hT : TabW w tb mb l) :
    Seq Tryz.prog 103 #[.pointer (some ⟨bt, 0, none⟩)] [] (fun x => x = bt ∨ x = tb ∨ x = mb) (listed l).length
      (fun k _ args => args = #[.int .i64 ((listed l).getD k 0 : Nat), slotV (l.getD ((listed l).getD k 0) zS)]) w := by
  intro lp J Jx fp W hFW hl1 hl2 hst hsx hfp hJ hY
  have hbW := hbt.fr0 hFW
  have hTW := hT.fr0 hFW
  have c1 := hbW.cell
  have c2 := hTW.blk.cell
  obtain ⟨es, clock, hm, hi⟩ := hTW.map
  have hmlt := mapAt_lt hm
  have keyS : ∀ w1, Fr [] W w1 → w1.cell? ⟨W.heap.size, 0, none⟩ = some (.map (some mb)) → W.heap.size < w1.heap.size → _ := fun w1 hf h1 h2 => sorted_calls W.heap.size mb 16 w1 h1 h2 (mapAt_fr hm hf (by simp)) hi
    (by
      have h3 := hi.size (ks := (keptI l).map (Value.int .i64)) (List.pairwise_map.2 ((keptI_lt l).imp (fun {a b} h e => by cases e; omega))) (fun x => by
        rw [List.mem_map]
        constructor
        · rintro ⟨k, hk, rfl⟩
          exact (keptI_mem k).1 hk
        · intro h
          cases x with
          | int q k =>
            cases q <;> first | exact ⟨k, (keptI_mem k).2 h, rfl⟩ | (simp [tabM] at h)
          | _ => simp [tabM] at h)
      rw [h3, List.length_map, keptI_len]
      exact Nat.le_trans (List.length_filter_le _ _) (by simp)) (by omega) (keptI l) (keptI_lt l) (fun k => keptI_mem k)
  have keyK := keys_calls mb W
  refine callsIn_of_wp Tryz.func103 rfl trivial ?_ rfl
  simp only [Tryz.ntmps103, List.size_toArray, List.length_cons, List.length_nil, Nat.reduceAdd, Nat.reduceSub, Array.replicate_succ, Array.replicate_zero, List.push_toArray, List.append_toArray, List.nil_append, List.cons_append]
  gi_wp2_with fail
  refine ⟨trivial, rfl, (callsIn_wide.2 keyK).mono ?_⟩
  rintro e w1 ⟨rfl, rfl⟩
  have hf1 := (Fr.refl [] W).alloc (.cells #[.map (some mb)] 122)
  have B1 := Blk.new W [.map (some mb)] 122
  have keyS' := keyS _ hf1 (by have := B1.cell 0; exact this) (by simp)
  gi_wp2_with fail
  refine ⟨trivial, rfl, (callsIn_wide.2 keyS').mono ?_⟩
  rintro e w2 ⟨v, rfl, hs2, hf2, hb2⟩
  obtain ⟨a2, cap2, rfl, hlc, hcm, _⟩ := hs2.open
  unfold maxLen at hcm
  have hFz := hf1.trans0 hf2
  have hb := hbW.fr0 hFz
  have hT2 := hTW.fr0 hFz
  have hJ2 := hst 0 fp W w2 [] hJ hFz (fun x h => by cases h)
  have hsz2 := hFz.size
  have hfp2 : ∀ x ∈ fp, x < w2.heap.size ∧ x ≠ bt ∧ x ≠ tb ∧ x ≠ mb ∧ ∀ p, a2 = some p → p.block ≠ x := fun x hx => by
    obtain ⟨h1, h2⟩ := hfp x hx
    refine ⟨by omega, fun h => h2 (.inl h), fun h => h2 (.inr (.inl h)), fun h => h2 (.inr (.inr h)), fun p hp he => ?_⟩
    have h3 := hb2 p.block (by simp [Value.ownBlock, hp])
    simp at h3
    omega
  have hJ0 : J (cntL l (begL l 0)) fp w2 := by rw [cnt_first]; exact hJ2
  have hlK := keptI_len l
  have Hg : ∀ j, j < (keptL l).length → Hid ((keptL l).getD j 0 < 16 ∧ (keptI l).getD j 0 = ((keptL l).getD j 0 : Nat) ∧ begL l j = 16 * (keptL l).getD j 0 ∧ cntL l (16 * (keptL l).getD j 0 + 16) = cntL l (begL l (j + 1))) := fun j hj => hidIt ⟨(keptL_getD hj).1, keptI_getD hj, by unfold begL; rw [if_pos hj], cnt_group hj⟩
  have Hy : ∀ c, c < 256 → (l.getD c zS).1 ≠ 0 → Hid (cntL l c < (listed l).length ∧ (listed l).getD (cntL l c) 0 = c ∧ cntL l (c + 1) = cntL l c + 1) := fun c hc h => hidIt (cnt_next hc (by simpa [isL] using h))
  have Hn : ∀ c, c < 256 → (l.getD c zS).1 = 0 → Hid (cntL l (c + 1) = cntL l c) := fun c hc h => hidIt (cnt_skip hc (by simpa [isL] using h))
  have He : Hid (cntL l (begL l (keptL l).length) = (listed l).length) := hidIt (by unfold begL; rw [if_neg (Nat.lt_irrefl _), cnt_end])
  generalize cntL l = C at *
  generalize hN : (listed l).length = N at *
  generalize hO : (fun k => (listed l).getD k 0) = O at *
  replace hY := fun k f A (h1 : k < N) (h2 : J k f A) => hY k f A #[.int .i64 (O k : Nat), slotV (l.getD (O k) zS)] h1 h2 (by rw [← hO])
  replace Hy : ∀ c, c < 256 → (l.getD c zS).1 ≠ 0 → Hid (C c < N ∧ O (C c) = c ∧ C (c + 1) = C c + 1) := by rw [← hO]; exact Hy
  clear hO
  rw [hlK] at hs2
  generalize hB : begL l = B at *
  generalize keptI l = KI at *
  generalize hKL : (keptL l).length = KN at *
  generalize hG : (fun j => (keptL l).getD j 0) = G at *
  replace Hg : ∀ j, j < KN → Hid (G j < 16 ∧ KI.getD j 0 = (G j : Nat) ∧ B j = 16 * G j ∧ C (16 * G j + 16) = C (B (j + 1))) := by rw [← hG]; exact Hg
  clear hB hKL hG keyK keyS keyS' hm hi hmlt c1 c2 hJ hJ2 hfp B1 hf1 hf2 hbW hTW hFz hb2 hl1 hl2 hFW hbt hT
  subst hlK
  gi_wp2_with fail
  gi_loopw [4, 5, 14, 24] (fun _ _ i _ wr => ∃ (j : Nat) (f : List Nat), j ≤ KI.length ∧ i = .int .i64 j ∧ J (C (B j)) f wr ∧ (∀ x ∈ f, x < wr.heap.size ∧ x ≠ bt ∧ x ≠ tb ∧ x ≠ mb ∧ ∀ p, a2 = some p → p.block ≠ x) ∧ Blk wr bt [.pointer (some ⟨tb, 0, none⟩)] 65 ∧ TabW wr tb mb l ∧ SlI wr (.slice a2 KI.length cap2) KI ∧ W.heap.size ≤ wr.heap.size) (fun _ _ i _ _ => KI.length - (intOf i).toNat)
  case atStart => exact ⟨0, fp, Nat.zero_le _, rfl, hJ0, hfp2, hb, hT2, hs2, hsz2⟩
  case round =>
    clear hJ0 hfp2 hb hT2 hs2 hsz2
    obtain ⟨j, f, hj, rfl, hJj, hf, hb, hT, hsl, hsz⟩ := hrel
    by_cases hlt : j < KI.length
    · obtain ⟨b, off, rfl, hbl, d0⟩ := SlI.at hsl hlt
      obtain ⟨g1, g2, g3, g4⟩ := (Hg j hlt).out
      replace g4 := hidIt g4
      rw [g2] at d0
      rw [g3] at hJj
      clear g2 g3 Hg He
      generalize G j = g at *
      have c1 := hb.cell
      have c2 := hT.blk.cell
      obtain ⟨es, clock, hm, hi⟩ := hT.map
      have hlook : ∀ (W : World), mapAt W mb = some (es, clock) → (Instr.lookup 122 (.map (some mb)) (.int .i64 (g : Int)) false).run Tryz.prog W = .ok (.agg (gC (grp l g))) W := fun W hW => by
        rw [run_lookup_isM Tryz.underlying122 keyInt hi false (keyI (by omega) (by omega)) W (zeroGroup W) hW, tabM_getD hT.right (by omega) (by omega), Int.toNat_natCast]; rfl
      have hix : ∀ (i : Nat) (W : World), i < 16 → (Instr.index 136 (.agg (gC (grp l g))) (.int .i64 (i : Int))).run Tryz.prog W = .ok (slotV (l.getD (16 * g + i) zS)) W := fun i W hi => by
        rw [indexGroup (grp l g) (grp_length _ _) (i : Int) (by omega) (by omega) W, Int.toNat_natCast, grp_getD l g i hi]
      gi_wp2_with fail
      clear hm hi hlook c1 c2
      gi_loopw [5, 24] (fun _ x W2 => ∃ (i : Nat) (f : List Nat), i ≤ 16 ∧ x = .int .i64 i ∧ J (C (16 * g + i)) f W2 ∧ (∀ x ∈ f, x < W2.heap.size ∧ x ≠ bt ∧ x ≠ tb ∧ x ≠ mb ∧ b ≠ x) ∧ Blk W2 bt [.pointer (some ⟨tb, 0, none⟩)] 65 ∧ TabW W2 tb mb l ∧ SlI W2 (.slice (some ⟨b, off, none⟩) KI.length cap2) KI ∧ W.heap.size ≤ W2.heap.size) (fun _ x _ => 16 - (intOf x).toNat)
      case atStart => exact ⟨0, f, by omega, rfl, hJj, fun x hx => by obtain ⟨h1, h2, h3, h4, h5⟩ := hf x hx; exact ⟨h1, h2, h3, h4, h5 _ rfl⟩, hb, hT, hsl, hsz⟩
      case round =>
        clear hJj hf hb hT hsl hsz hbl d0 f
        obtain ⟨i, f, hi16, rfl, hJi, hf, hb, hT, hsl, hsz⟩ := hrel
        by_cases hil : i < 16
        · have hxi := fun W => hix i W hil
          clear hix
          by_cases hk : (l.getD (16 * g + i) zS).1 = 0
          · have hn := Hn (16 * g + i) (by omega) hk
            have hFa : Fr [] wr (wr.alloc (.cells (slotC (l.getD (16 * g + i) zS)).toArray 90)) := (Fr.refl _ _).alloc _
            have hj' := hst _ _ _ _ [] hJi hFa (fun x h => by cases h)
            have hb' := hb.fr0 hFa
            have hT' := hT.fr0 hFa
            have hsl' := SlF.fr0 hsl hFa
            have hsza := hFa.size
            clear Hn Hy hY hst hJi hb hT hsl hFa
            generalize l.getD (16 * g + i) zS = s at *
            obtain ⟨p, q, r⟩ := s
            simp only at hk
            subst hk
            gi_wp2
            refine ⟨fun _ h => (by cases h), ?_⟩
            gi_wp2
            go_roundw
            case rel => exact ⟨i + 1, f, by omega, by go_num, by rw [← Nat.add_assoc, hn.out]; exact hj', fun y hy => ⟨by have := (hf y hy).1; simp only [World.size_alloc]; omega, (hf y hy).2⟩, hb', hT', hsl', by simp only [World.size_alloc]; omega⟩
            case measure => simp [intOf]; omega
          · obtain ⟨n1, n2, n3⟩ := (Hy (16 * g + i) (by omega) hk).out
            replace n3 := hidIt n3
            have hFa : Fr [] wr (wr.alloc (.cells (slotC (l.getD (16 * g + i) zS)).toArray 90)) := (Fr.refl _ _).alloc _
            have hy := hY (C (16 * g + i)) f _ n1 (hst _ _ _ _ [] hJi hFa (fun x h => by cases h))
            rw [n2] at hy
            have hb' := hb.fr0 hFa
            have hT' := hT.fr0 hFa
            have hsl' := SlF.fr0 hsl hFa
            have hsza := hFa.size
            clear Hn Hy hJi hb hT hsl
            generalize l.getD (16 * g + i) zS = s at *
            obtain ⟨p, q, r⟩ := s
            simp only at hk hy hFa hb' hT' hsl' hsza
            have hkb : (p == (0 : Int)) = false := by simpa using hk
            obtain ⟨fn', tmps', assign', body', hyy, hR⟩ := hy
            rw [show ((16 * g + i : Nat) : Int) = (g : Int) * 16 + (i : Int) by omega] at hyy
            clear hY hst n2
            gi_wp2_with fail
            refine ⟨rfl, hR.mono ?_⟩
            clear hR hyy
            rintro e w4 (⟨rfl, f', hj4, hf4, hg4⟩ | ⟨rfl, hjx⟩)
            · have q4 := hf4.size
              simp only [World.size_alloc] at q4 hsza hg4
              have nb : ∀ y, y ∈ f → y < wr.heap.size ∧ y ≠ bt ∧ y ≠ tb ∧ y ≠ mb ∧ b ≠ y := hf
              have hb4 := hb'.fr hf4 (fun h => (nb _ h).2.1 rfl)
              have hT4 := hT'.fr hf4 (fun h => (nb _ h).2.2.1 rfl) (fun h => (nb _ h).2.2.2.1 rfl)
              have hsl4 : SlI w4 (.slice (some ⟨b, off, none⟩) KI.length cap2) KI := SlF.fr hsl' hf4 (fun y hy hm => by cases hy; exact (nb _ hm).2.2.2.2 rfl)
              have tl := hT'.lt
              have bl := hb'.lt
              obtain ⟨b0, off0, hbe, hbl, _⟩ := SlI.at hsl' hlt
              cases hbe
              simp only [World.size_alloc] at tl bl hbl
              have hg : ∀ y, y ∈ f' → y < w4.heap.size ∧ y ≠ bt ∧ y ≠ tb ∧ y ≠ mb ∧ b ≠ y := fun y hy => by
                refine ⟨(hg4 y hy).1, ?_⟩
                rcases (hg4 y hy).2 with h | h
                · exact (nb y h).2
                · omega
              clear hb' hT' hsl' hFa hf4 hg4 nb
              gi_wp2
              go_roundw
              case rel => exact ⟨i + 1, f', by omega, by go_num, by rw [← Nat.add_assoc, n3.out]; exact hj4, hg, hb4, hT4, hsl4, by omega⟩
              case measure => simp [intOf]; omega
            · gi_wp2
              refine bodyPost_ret (results_none rfl _ _ _) rfl ?_
              exact ⟨⟨_, rfl⟩, .inr hjx⟩
        · have hie : i = 16 := by omega
          subst hie
          clear hix Hn Hy hY hst
          gi_wp2
          go_roundw
          case rel => exact ⟨j + 1, f, by omega, by go_num, by rw [← g4.out]; exact hJi, fun x hx => by obtain ⟨h1, h2, h3, h4, h5⟩ := hf x hx; exact ⟨h1, h2, h3, h4, fun p hp => by cases hp; exact h5⟩, hb, hT, hsl, hsz⟩
          case measure => simp [intOf]; omega
    · have hje : j = KI.length := by omega
      have hj' : J N f wr := by rw [← He.out, ← hje]; exact hJj
      clear hst hY Hy Hn Hg He hje
      subst hN
      gi_wp2
      go_end0
      exact ⟨⟨_, rfl⟩, .inl ⟨f, hj'⟩⟩
end Go.Proofs.YtilhbjjjmdnjmaaGreat
