/-
  table.Each of a table as a row of groups by their numbers, whatever they are: its iterator.
-/
import Derived.Test.YtknbjdbdpdbeiaaTabRaw
import Derived.Test.YtknbjdbdpdbeiaaTabEW
namespace Go.Proofs.Ytknbjdbdpdbeiaa
open Go.RowKit Go.Maps
attribute [local go_sem] Oper.semAt_some
attribute [local go_sem] mapAt_alloc mapAt_setCell mapAt_drew mapAt_drewN
attribute [local go_sem high] equalSlot0 equalSlotR0 equalGroup guardGroup buildGroup zeroGroup gC_size grp_length zG_length

/-! ### what is handed out -/
def kindR (g : List Slt) (i : Nat) : Bool := (g.getD i zS).1 != 0
def blkR (G : Nat → List Slt) (k : Nat) : List (Nat × Slt) := ((List.range 16).filter (kindR (G k))).map fun i => (16 * k + i, (G k).getD i zS)
def lstR (ks : List Nat) (G : Nat → List Slt) : List (Nat × Slt) := ks.flatMap (blkR G)
def inR (g : List Slt) (i : Nat) : Nat := (((List.range 16).take i).filter (kindR g)).length
def offR (ks : List Nat) (G : Nat → List Slt) (j : Nat) : Nat := ((ks.take j).flatMap (blkR G)).length
def zP : Nat × Slt := (0, zS)
theorem blkR_len (G : Nat → List Slt) (k : Nat) : (blkR G k).length = inR (G k) 16 := by unfold blkR inR; rw [List.length_map]; rfl
theorem offR_succ {ks : List Nat} {G : Nat → List Slt} {j : Nat} (hj : j < ks.length) : offR ks G (j + 1) = offR ks G j + inR (G (ks.getD j 0)) 16 := by
  unfold offR
  rw [takeE 0 hj, List.flatMap_append, List.length_append, ← blkR_len]
  simp
theorem offR_end (ks : List Nat) (G : Nat → List Slt) : offR ks G ks.length = (lstR ks G).length := by unfold offR lstR; rw [List.take_length]
theorem inR_skip {g : List Slt} {i : Nat} (hi : i < 16) (h : kindR g i = false) : inR g (i + 1) = inR g i := by
  unfold inR
  rw [takeE 0 (by simpa using hi), rangeD hi, List.filter_append, List.length_append, List.filter_cons, if_neg (by rw [h]; decide)]
  rfl
theorem inR_next {g : List Slt} {i : Nat} (hi : i < 16) (h : kindR g i = true) : inR g (i + 1) = inR g i + 1 ∧ inR g i < inR g 16 ∧ ((List.range 16).filter (kindR g)).getD (inR g i) 0 = i := by
  have hl : i < (List.range 16).length := by simpa using hi
  have e0 : (List.range 16).getD i 0 = i := rangeD hi
  have e1 : (List.range 16).filter (kindR g) = ((List.range 16).take i).filter (kindR g) ++ i :: ((List.range 16).drop (i + 1)).filter (kindR g) := by
    have h2 : List.range 16 = (List.range 16).take i ++ i :: (List.range 16).drop (i + 1) := by
      have := dropE 0 hl
      rw [e0] at this
      rw [← this, List.take_append_drop]
    have h3 := congrArg (fun l' => List.filter (kindR g) l') h2
    simp only [List.filter_append, List.filter_cons, if_pos h] at h3
    exact h3
  refine ⟨?_, ?_, ?_⟩
  · unfold inR
    rw [takeE 0 hl, e0, List.filter_append, List.length_append, List.filter_cons, if_pos h]
    rfl
  · have e2 : inR g 16 = ((List.range 16).filter (kindR g)).length := rfl
    rw [e2, e1]
    unfold inR
    rw [List.length_append, List.length_cons]
    omega
  · rw [e1, List.getD_eq_getElem?_getD]
    unfold inR
    rw [List.getElem?_append_right (Nat.le_refl _), Nat.sub_self]
    rfl
theorem lstR_at {ks : List Nat} {G : Nat → List Slt} {j i : Nat} (hj : j < ks.length) (hi : i < 16) (h : kindR (G (ks.getD j 0)) i = true) :
    offR ks G j + inR (G (ks.getD j 0)) i < (lstR ks G).length ∧ (lstR ks G).getD (offR ks G j + inR (G (ks.getD j 0)) i) zP = (16 * ks.getD j 0 + i, (G (ks.getD j 0)).getD i zS) := by
  obtain ⟨h1, h2, h3⟩ := inR_next hi h
  have e1 : lstR ks G = (ks.take j).flatMap (blkR G) ++ (blkR G (ks.getD j 0) ++ (ks.drop (j + 1)).flatMap (blkR G)) := by
    unfold lstR
    have h4 : ks = ks.take j ++ ks.getD j 0 :: ks.drop (j + 1) := by
      rw [← dropE 0 hj, List.take_append_drop]
    have h5 := congrArg (List.flatMap (blkR G)) h4
    rw [List.flatMap_append, List.flatMap_cons] at h5
    exact h5
  have hb := blkR_len G (ks.getD j 0)
  generalize ks.getD j 0 = k at *
  have ho : offR ks G j = ((ks.take j).flatMap (blkR G)).length := rfl
  constructor
  · rw [e1, List.length_append, List.length_append, ho]
    omega
  · rw [e1, List.getD_eq_getElem?_getD, List.getElem?_append_right (by omega), ho, Nat.add_sub_cancel_left, List.getElem?_append_left (by omega)]
    unfold blkR
    rw [List.getElem?_map]
    have hfl : inR (G k) i < ((List.range 16).filter (kindR (G k))).length := h2
    rw [List.getD_eq_getElem?_getD, List.getElem?_eq_getElem hfl] at h3
    rw [List.getElem?_eq_getElem hfl]
    simp only [Option.getD_some] at h3
    simp [h3]
set_option maxRecDepth 100000 in
set_option maxHeartbeats 2000000 in
theorem tEach_seqR (bt tb mb n : Nat) (ks : List Nat) (G : Nat → List Slt) (w : World) (hbt : Blk w bt [.pointer (some ⟨tb, 0, none⟩)] 23) (hT : RawW w tb mb n ks G) :
    Seq Try.prog 38 #[.pointer (some ⟨bt, 0, none⟩)] [] (fun x => x = bt ∨ x = tb ∨ x = mb) (lstR ks G).length
      (fun k _ args => args = #[.int .i64 (((lstR ks G).getD k zP).1 : Nat), slotV ((lstR ks G).getD k zP).2]) w := by
  intro lp J Jx fp W hFW hl1 hl2 hst hsx hfp hJ hY
  have hbW := hbt.fr0 hFW
  have hTW := hT.fr0 hFW
  have c1 := hbW.cell
  have c2 := hTW.blk.cell
  obtain ⟨es, clock, hm, hi⟩ := hTW.map
  have hmlt := mapAt_lt hm
  have keyS : ∀ w1, Fr [] W w1 → w1.cell? ⟨W.heap.size, 0, none⟩ = some (.map (some mb)) → W.heap.size < w1.heap.size → _ := fun w1 hf h1 h2 => sorted_calls W.heap.size mb 1000 w1 h1 h2 (mapAt_fr hm hf (by simp)) hi
    (by rw [raw_size hT.lt hi]; exact hT.few) (by omega) (keysI ks) (keysI_lt hT.lt) (fun k => keysI_mem k)
  have keyK := keys_calls mb W
  refine callsIn_of_wp Try.func38 rfl trivial ?_ rfl
  simp only [Try.ntmps38, List.size_toArray, List.length_cons, List.length_nil, Nat.reduceAdd, Nat.reduceSub, Array.replicate_succ, Array.replicate_zero, List.push_toArray, List.append_toArray, List.nil_append, List.cons_append]
  gi_wp2_with fail
  refine ⟨trivial, rfl, (callsIn_wide.2 keyK).mono ?_⟩
  rintro e w1 ⟨rfl, rfl⟩
  have hf1 := (Fr.refl [] W).alloc (.cells #[.map (some mb)] 70)
  have B1 := Blk.new W [.map (some mb)] 70
  have keyS' := keyS _ hf1 (by have := B1.cell 0; exact this) (by simp)
  gi_wp2_with fail
  refine ⟨trivial, rfl, (callsIn_wide.2 keyS').mono ?_⟩
  rintro e w2 ⟨v, rfl, hs2, hf2, hb2⟩
  obtain ⟨a2, cap2, rfl, hlc, hcm, _⟩ := hs2.open
  unfold maxLen at hcm
  have hFz := hf1.trans0 hf2
  have hb := hbW.fr0 hFz
  have hT2 := hTW.fr0 hFz
  have hJ2 := hst 0 fp W w2 [] hJ hFz (fun x h => by cases h)
  have hsz2 := hFz.size
  have hfp2 : ∀ x ∈ fp, x < w2.heap.size ∧ x ≠ bt ∧ x ≠ tb ∧ x ≠ mb ∧ ∀ p, a2 = some p → p.block ≠ x := fun x hx => by
    obtain ⟨h1, h2⟩ := hfp x hx
    refine ⟨by omega, fun h => h2 (.inl h), fun h => h2 (.inr (.inl h)), fun h => h2 (.inr (.inr h)), fun p hp he => ?_⟩
    have h3 := hb2 p.block (by simp [Value.ownBlock, hp])
    simp at h3
    omega
  have hJ0 : J (offR ks G 0) fp w2 := hJ2
  have hlK : (keysI ks).length = ks.length := by simp [keysI]
  have Hg : ∀ j, j < ks.length → Hid ((keysI ks).getD j 0 = (ks.getD j 0 : Nat) ∧ ks.getD j 0 < 65536 ∧ (G (ks.getD j 0)).length = 16 ∧ rawM ks G (.int .i64 ((ks.getD j 0 : Nat) : Int)) = some (.agg (gC (G (ks.getD j 0)))) ∧ offR ks G (j + 1) = offR ks G j + inR (G (ks.getD j 0)) 16 ∧
      ∀ i, i < 16 → kindR (G (ks.getD j 0)) i = true → offR ks G j + inR (G (ks.getD j 0)) i < (lstR ks G).length ∧ (lstR ks G).getD (offR ks G j + inR (G (ks.getD j 0)) i) zP = (16 * ks.getD j 0 + i, (G (ks.getD j 0)).getD i zS)) := fun j hj => hidIt
    ⟨keysI_getD hj, hT.key _ (getD_memN hj), (hT.grp _ (getD_memN hj)).1, by rw [rawM_int, if_pos ⟨by omega, by rw [Int.toNat_natCast]; exact getD_memN hj⟩, Int.toNat_natCast], offR_succ hj, fun i hi h => lstR_at hj hi h⟩
  have He : Hid (offR ks G ks.length = (lstR ks G).length) := hidIt (offR_end ks G)
  generalize hO : offR ks G = O at *
  generalize hN : (lstR ks G).length = N at *
  generalize hLL : lstR ks G = LL at *
  replace hY := fun k f A (h1 : k < N) (h2 : J k f A) => hY k f A #[.int .i64 ((LL.getD k zP).1 : Nat), slotV (LL.getD k zP).2] h1 h2 rfl
  rw [hlK] at hs2
  replace hN := hidIt hN
  replace hLL := hidIt hLL
  clear hO keyK keyS keyS' hm hi hmlt c1 c2 hJ hJ2 hfp B1 hf1 hf2 hbW hTW hFz hb2 hl1 hl2 hFW hbt hT
  gi_wp2_with fail
  gi_loopw [4, 5, 14, 24] (fun _ _ i _ wr => ∃ (j : Nat) (f : List Nat), j ≤ ks.length ∧ i = .int .i64 j ∧ J (O j) f wr ∧ (∀ x ∈ f, x < wr.heap.size ∧ x ≠ bt ∧ x ≠ tb ∧ x ≠ mb ∧ ∀ p, a2 = some p → p.block ≠ x) ∧ Blk wr bt [.pointer (some ⟨tb, 0, none⟩)] 23 ∧ RawW wr tb mb n ks G ∧ SlI wr (.slice a2 ks.length cap2) (keysI ks) ∧ W.heap.size ≤ wr.heap.size) (fun _ _ i _ _ => ks.length - (intOf i).toNat)
  case atStart => exact ⟨0, fp, Nat.zero_le _, rfl, hJ0, hfp2, hb, hT2, hs2, hsz2⟩
  case round =>
    clear hJ0 hfp2 hb hT2 hs2 hsz2
    obtain ⟨j, f, hj, rfl, hJj, hf, hb, hT, hsl, hsz⟩ := hrel
    by_cases hlt : j < ks.length
    · obtain ⟨b, off, rfl, hbl, d0⟩ := SlI.at hsl (by rw [hlK]; exact hlt)
      obtain ⟨g1, g2, g3, g4, g5, g6⟩ := (Hg j hlt).out
      rw [g1] at d0
      replace g5 := hidIt g5
      replace g6 := hidIt g6
      clear g1 Hg He
      have c1 := hb.cell
      have c2 := hT.blk.cell
      obtain ⟨es, clock, hm, hi⟩ := hT.map
      have hlook : ∀ (W : World), mapAt W mb = some (es, clock) → (Instr.lookup 70 (.map (some mb)) (.int .i64 ((ks.getD j 0 : Nat) : Int)) false).run Try.prog W = .ok (.agg (gC (G (ks.getD j 0)))) W := fun W hW => by
        rw [run_lookup_isM Try.underlying70 keyInt hi false (keyR (by omega) (by omega)) W (zeroGroup W) hW, g4]; rfl
      have hix : ∀ (i : Nat) (W : World), i < 16 → (Instr.index 78 (.agg (gC (G (ks.getD j 0)))) (.int .i64 (i : Int))).run Try.prog W = .ok (slotV ((G (ks.getD j 0)).getD i zS)) W := fun i W hi => by
        rw [indexGroup (G (ks.getD j 0)) g3 (i : Int) (by omega) (by omega) W, Int.toNat_natCast]
      clear g4
      generalize G (ks.getD j 0) = gL at *
      generalize ks.getD j 0 = g at *
      generalize O j = oj at *
      gi_wp2_with fail
      clear hm hi hlook c1 c2
      gi_loopw [5, 24] (fun _ x W2 => ∃ (i : Nat) (f : List Nat), i ≤ 16 ∧ x = .int .i64 i ∧ J (oj + inR gL i) f W2 ∧ (∀ x ∈ f, x < W2.heap.size ∧ x ≠ bt ∧ x ≠ tb ∧ x ≠ mb ∧ b ≠ x) ∧ Blk W2 bt [.pointer (some ⟨tb, 0, none⟩)] 23 ∧ RawW W2 tb mb n ks G ∧ SlI W2 (.slice (some ⟨b, off, none⟩) ks.length cap2) (keysI ks) ∧ W.heap.size ≤ W2.heap.size) (fun _ x _ => 16 - (intOf x).toNat)
      case atStart => exact ⟨0, f, by omega, rfl, hJj, fun x hx => by obtain ⟨h1, h2, h3, h4, h5⟩ := hf x hx; exact ⟨h1, h2, h3, h4, h5 _ rfl⟩, hb, hT, hsl, hsz⟩
      case round =>
        clear hJj hf hb hT hsl hsz hbl d0 f
        obtain ⟨i, f, hi16, rfl, hJi, hf, hb, hT, hsl, hsz⟩ := hrel
        by_cases hil : i < 16
        · have hxi := fun W => hix i W hil
          clear hix
          by_cases hk : (gL.getD i zS).1 = 0
          · have hn : Hid (inR gL (i + 1) = inR gL i) := hidIt (inR_skip hil (by unfold kindR; rw [hk]; rfl))
            have hFa : Fr [] wr (wr.alloc (.cells (slotC (gL.getD i zS)).toArray 43)) := (Fr.refl _ _).alloc _
            have hj' := hst _ _ _ _ [] hJi hFa (fun x h => by cases h)
            have hb' := hb.fr0 hFa
            have hT' := hT.fr0 hFa
            have hsl' := SlF.fr0 hsl hFa
            have hsza := hFa.size
            clear hY hst hJi hb hT hsl hFa g6
            generalize gL.getD i zS = s at *
            obtain ⟨p, q, r⟩ := s
            simp only at hk
            subst hk
            gi_wp2
            refine ⟨fun _ h => (by cases h), ?_⟩
            gi_wp2
            go_roundw
            case rel => exact ⟨i + 1, f, by omega, by go_num, by rw [hn.out]; exact hj', fun y hy => ⟨by have := (hf y hy).1; simp only [World.size_alloc]; omega, (hf y hy).2⟩, hb', hT', hsl', by simp only [World.size_alloc]; omega⟩
            case measure => simp [intOf]; omega
          · have hkk : kindR gL i = true := by unfold kindR; simpa using hk
            obtain ⟨n1, n2⟩ := g6.out i hil hkk
            have n3 : Hid (inR gL (i + 1) = inR gL i + 1) := hidIt (inR_next hil hkk).1
            clear hkk
            have hFa : Fr [] wr (wr.alloc (.cells (slotC (gL.getD i zS)).toArray 43)) := (Fr.refl _ _).alloc _
            have hy := hY (oj + inR gL i) f _ n1 (hst _ _ _ _ [] hJi hFa (fun x h => by cases h))
            rw [n2] at hy
            have hb' := hb.fr0 hFa
            have hT' := hT.fr0 hFa
            have hsl' := SlF.fr0 hsl hFa
            have hsza := hFa.size
            clear hJi hb hT hsl g6
            generalize gL.getD i zS = s at *
            obtain ⟨p, q, r⟩ := s
            simp only at hk hy hFa hb' hT' hsl' hsza
            have hkb : (p == (0 : Int)) = false := by simpa using hk
            obtain ⟨fn', tmps', assign', body', hyy, hR⟩ := hy
            rw [show ((16 * g + i : Nat) : Int) = (g : Int) * 16 + (i : Int) by omega] at hyy
            clear hY hst n2
            gi_wp2_with fail
            refine ⟨rfl, hR.mono ?_⟩
            clear hR hyy
            rintro e w4 (⟨rfl, f', hj4, hf4, hg4⟩ | ⟨rfl, hjx⟩)
            · have q4 := hf4.size
              simp only [World.size_alloc] at q4 hsza hg4
              have nb : ∀ y, y ∈ f → y < wr.heap.size ∧ y ≠ bt ∧ y ≠ tb ∧ y ≠ mb ∧ b ≠ y := hf
              have hb4 := hb'.fr hf4 (fun h => (nb _ h).2.1 rfl)
              have hT4 := hT'.fr hf4 (fun h => (nb _ h).2.2.1 rfl) (fun h => (nb _ h).2.2.2.1 rfl)
              have hsl4 : SlI w4 (.slice (some ⟨b, off, none⟩) ks.length cap2) (keysI ks) := SlF.fr hsl' hf4 (fun y hy hm => by cases hy; exact (nb _ hm).2.2.2.2 rfl)
              have tl := hT'.lts
              have bl := hb'.lt
              obtain ⟨b0, off0, hbe, hbl, _⟩ := SlI.at hsl' (by rw [hlK]; exact hlt)
              cases hbe
              simp only [World.size_alloc] at tl bl hbl
              have hg : ∀ y, y ∈ f' → y < w4.heap.size ∧ y ≠ bt ∧ y ≠ tb ∧ y ≠ mb ∧ b ≠ y := fun y hy => by
                refine ⟨(hg4 y hy).1, ?_⟩
                rcases (hg4 y hy).2 with h | h
                · exact (nb y h).2
                · omega
              clear hb' hT' hsl' hFa hf4 hg4 nb
              gi_wp2
              go_roundw
              case rel => exact ⟨i + 1, f', by omega, by go_num, by rw [n3.out, ← Nat.add_assoc]; exact hj4, hg, hb4, hT4, hsl4, by omega⟩
              case measure => simp [intOf]; omega
            · gi_wp2
              refine bodyPost_ret (results_none rfl _ _ _) rfl ?_
              exact ⟨⟨_, rfl⟩, .inr hjx⟩
        · have hie : i = 16 := by omega
          subst hie
          clear hix hY hst g6
          gi_wp2
          go_roundw
          case rel => exact ⟨j + 1, f, by omega, by go_num, by rw [g5.out]; exact hJi, fun x hx => by obtain ⟨h1, h2, h3, h4, h5⟩ := hf x hx; exact ⟨h1, h2, h3, h4, fun p hp => by cases hp; exact h5⟩, hb, hT, hsl, hsz⟩
          case measure => simp [intOf]; omega
    · have hje : j = ks.length := by omega
      have hj' : J (lstR ks G).length f wr := by rw [hLL.out, hN.out, ← He.out, ← hje]; exact hJj
      clear hst hY Hg He hje
      gi_wp2
      go_end0
      exact ⟨⟨_, rfl⟩, .inl ⟨f, hj'⟩⟩
end Go.Proofs.Ytknbjdbdpdbeiaa
