/-
  table.Decode.
-/
import Derived.Test.YtknbjdbdpdbeiaaTabWh
import Derived.Test.YtknbjdbdpdbeiaaOctR
import Derived.Test.YtknbjdbdpdbeiaaTableAll
namespace Go.Proofs.Ytknbjdbdpdbeiaa
open Go.RowKit Go.Maps
attribute [local go_sem] mapAt_alloc mapAt_setCell mapAt_drew mapAt_drewN
attribute [local go_sem high] equalSlot0 equalSlotR0 equalGroup guardGroup buildGroup zeroGroup gC_size grp_length zG_length

theorem RawW.ne {w : World} {tb mb n : Nat} {ks : List Nat} {G : Nat → List Slt} (h : RawW w tb mb n ks G) : tb ≠ mb := by
  rintro rfl
  obtain ⟨es, c, hm, _⟩ := h.map
  have := (mapAt_some.1 hm).symm.trans h.blk
  cases this
/-- a group is read out of a row of slots -/
theorem loadGroup_at (g : List Slt) (hg : g.length = 16) (b : Nat) (w : World) (h : ∀ j u, (g.flatMap slotC)[j]? = some u → w.cell? ⟨b, j, none⟩ = some u) :
    (Instr.loadAt 78 (.pointer (some ⟨b, 0, none⟩))).run Try.prog w = .ok (.agg (gC g)) w := by
  have hl := run_loadCells_list (P := Try.prog) (w := w) ⟨b, 0, none⟩ (g.flatMap slotC) (fun j v hv => by
    have hadd : (⟨b, 0, none⟩ : Addr).add j = ⟨b, j, none⟩ := by unfold Addr.add; split <;> simp_all
    rw [hadd]
    exact h j v hv)
  have hz : (g.flatMap slotC).length = 48 := by rw [flat3_length, hg]
  rw [hz] at hl
  have hi : (Try.prog.info? 78).map (·.size) = some 48 := by kernel_rfl
  have hagg : (isAgg 78).run Try.prog w = .ok true w := by
    unfold isAgg
    rw [Sem.run_bind, run_underlying Try.underlying78 w]
    rfl
  cases hq : Try.prog.info? 78 with
  | none => rw [hq] at hi; cases hi
  | some i =>
    have hs : i.size = 48 := by simpa [hq] using hi
    simp only [Instr.loadAt, Instr.sureAddr, Sem.run_bind, Sem.run_pure, Result.andThen_ok]
    simp [loadVar, Sem.run_bind, hagg, sizeOf, typeInfo, hq, hs, hl]
    unfold gC
    rfl
theorem wpStill_loadGroupAt {ops : Array Oper} {w : World} {Q : Act → Prop} {a : Act} {o : Oper} {rest : List Oper} {g : List Slt} (hgd : o.guard = none) (x : Operand) (ho : o.op = .load 78 x) (b : Nat)
    (hx : a.eval x = .pointer (some ⟨b, 0, none⟩)) (hl : g.length = 16) (hc : ∀ j u, (g.flatMap slotC)[j]? = some u → w.cell? ⟨b, j, none⟩ = some u) (h : wpStill Try.prog ops w Q rest (a.put o.dst (.agg (gC g)))) : wpStill Try.prog ops w Q (o :: rest) a :=
  wpStill_value hgd _ (by
    unfold execOp
    simp only [ho, hx, Sem.run_bind, loadGroup_at g hl b w hc, Result.andThen_ok, Sem.run_pure]) h
def tDecPost (w : World) (bs : List UInt8) (e : Ending) (w' : World) : Prop :=
  (∃ l tb mb, goodT l ∧ encT l = bs ∧ e = .returned (.tuple #[.pointer (some ⟨tb, 0, none⟩), .int .i64 0]) ∧ w.heap.size ≤ tb ∧ w.heap.size ≤ mb ∧ TabW w' tb mb l ∧ Fr [] w w') ∨
    ((∀ l, goodT l → encT l ≠ bs) ∧ e = .returned (.tuple #[.pointer none, .int .i64 80]) ∧ Fr [] w w')
/-- what the reader tells of the head of bytes that are too few -/
theorem head_short {bs : List UInt8} (h : bs.length < 4) : (rdNum (rdNum bs 0 2).1 (rdNum bs 0 2).2.1 2).2.2 = 0 ∧ (rdNum (rdNum bs 0 2).1 (rdNum bs 0 2).2.1 2).2.1 = 10 := by
  by_cases h2 : bs.length < 2
  · have e : rdNum bs 0 2 = (bs, 10, 0) := by simp [rdNum, h2]
    rw [e]
    simp [rdNum]
  · have e : rdNum bs 0 2 = (bs.drop 2, 0, valL (bs.take 2)) := by simp [rdNum, h2]
    have h3 : bs.length - 2 < 2 := by omega
    rw [e]
    simp [rdNum, h3]
set_option maxRecDepth 100000 in
set_option maxHeartbeats 1600000 in
theorem tDec_short (v : Value) (bs : List UInt8) (w : World) (hv : SlY w v bs) (hok : okV v) (h4 : bs.length < 4) : Calls Try.prog 29 #[v] w (tDecPost w bs) := by
  obtain ⟨a, cap, rfl, _, hcm, _⟩ := hv.open
  have Hno : Hid (∀ l, goodT l → encT l ≠ bs) := hidIt (fun l _ e => by rw [← e, encT_len] at h4; omega)
  obtain ⟨hm0, he0⟩ := head_short h4
  have kN1 := fun rb vb X h => Num_calls 2 (by omega) rb vb bs 0 X h
  have kN2 := fun rb vb X h => Num_calls 2 (by omega) rb vb (rdNum bs 0 2).1 (rdNum bs 0 2).2.1 X h
  have kNR := NewReader_calls _ bs w hv hok (by omega)
  rw [hm0] at kN2
  generalize (rdNum (rdNum bs 0 2).1 (rdNum bs 0 2).2.1 2).1 = l2 at *
  generalize (rdNum (rdNum bs 0 2).1 (rdNum bs 0 2).2.1 2).2.1 = e2 at *
  subst he0
  generalize (rdNum bs 0 2).1 = l1 at *
  generalize (rdNum bs 0 2).2.1 = e1 at *
  generalize (rdNum bs 0 2).2.2 = n at *
  clear h4 hm0
  cases hn : okSize (n : Int) with
  | false =>
    go_enter Try.func29, Try.ntmps29
    go_wp2_with fail
    refine kNR.mono ?_
    rintro e w1 ⟨rb, vb, rfl, h1, h2, hR, hf1⟩
    go_wp2_with fail
    refine (kN1 rb vb _ hR).mono ?_
    rintro e w2 ⟨rfl, hR2, hf2⟩
    go_wp2_with fail
    refine (New_no _ _ hn).mono ?_
    rintro e w3 ⟨rfl, rfl⟩
    go_wp2
    go_ret2
    exact .inr ⟨Hno.out, rfl, hf1.trans hf2 (fun x hx hl => by simp at hx; omega)⟩
  | true =>
    go_enter Try.func29, Try.ntmps29
    go_wp2_with fail
    refine kNR.mono ?_
    rintro e w1 ⟨rb, vb, rfl, h1, h2, hR, hf1⟩
    go_wp2_with fail
    refine (kN1 rb vb _ hR).mono ?_
    rintro e w2 ⟨rfl, hR2, hf2⟩
    go_wp2_with fail
    refine (New_yes _ _ hn).mono ?_
    rintro e w3 ⟨tb, mb, rfl, ht, hmb, hT, hf3⟩
    have hF2 := hf1.trans hf2 (fun x hx hl => by simp at hx; omega)
    have hF3 := hF2.trans0 hf3
    go_wp2_with fail
    refine (kN2 rb vb _ (hR2.fr0 hf3)).mono ?_
    rintro e w4 ⟨rfl, hR4, hf4⟩
    have hF4 := hF3.trans hf4 (fun x hx hl => by simp at hx; omega)
    go_wp2
    refine wp_loop_rounds 1 ?_
    rw [rounds_succ]
    have kE := End_calls rb vb l2 10 w4 hR4
    have hre : rdEnd l2 10 = 10 := by unfold rdEnd; rw [if_neg (by simp)]
    rw [hre] at kE
    go_wp2_with fail
    refine kE.mono ?_
    rintro e w5 ⟨rfl, rfl⟩
    go_wp2
    go_ret2
    exact .inr ⟨Hno.out, rfl, hF4⟩
theorem array_group (b c : Nat) (w : World) : (Instr.arrayAt 78 (.slice (some ⟨b, 0, none⟩) 16 c)).run Try.prog w = .ok (.pointer (some ⟨b, 0, none⟩)) w := by
  unfold Instr.arrayAt
  simp [run_underlying Try.underlying78]
theorem own_cells {w : World} {base size gb gc n : Nat} {e : TypeId} {xs : List Value} (h : w.ownsRow base e size (.slice (some ⟨gb, 0, none⟩) n gc) n xs) : ∀ j u, xs[j]? = some u → w.cell? ⟨gb, j, none⟩ = some u := by
  obtain ⟨a, cap, hv, _, _, hc⟩ := Sl.of_owns h
  cases hv
  rcases hc with he | ⟨b, off, e, _, hc⟩
  · intro j u hu
    rw [he] at hu
    cases hu
  · cases e
    intro j u hu
    have := hc j u hu
    rwa [Nat.zero_add] at this
theorem cut_block {b off n cap l k : Nat} {x : Nat} (h : (Value.slice (slAddr (some ⟨b, off, none⟩) cap l k) n (cap - l)).ownBlock = some x) : x = b := by
  obtain ⟨p, hp, rfl⟩ := ownBlock_slice h
  unfold slAddr at hp
  split at hp
  · cases hp; rfl
  · simp at hp
    subst hp
    unfold Addr.add
    split <;> simp_all
theorem cut_ok {a : Option Addr} {n cap A : Nat} (hok : okV (.slice a n cap)) (h : A + 66 ≤ cap) : okV (.slice (slAddr a cap (A + 2) 1) 64 (cap - (A + 2))) := by
  intro n' cap' e
  unfold slAddr at e
  rw [if_neg (by omega)] at e
  cases a with
  | none => have := hok n cap rfl; omega
  | some p => cases e
theorem rd_next {bs : List UInt8} {A : Nat} (h : A + 66 ≤ bs.length) : rdNum (bs.drop A) 0 2 = (bs.drop (A + 2), 0, valL ((bs.drop A).take 2)) ∧ ((bs.drop (A + 2)).length : Int) = (bs.length : Int) - (A + 2 : Nat) ∧ rdTake (bs.drop (A + 2)) 0 (64 : Nat) false = (bs.drop (A + 66), 0, (bs.drop (A + 2)).take 64) := by
  refine ⟨?_, ?_, ?_⟩
  · unfold rdNum
    rw [if_neg (by simp), if_neg (by rw [List.length_drop]; omega), List.drop_drop]
  · rw [List.length_drop]; omega
  · unfold rdTake
    rw [if_neg (by simp), if_neg (by simp), if_neg (by rw [List.length_drop]; omega), List.drop_drop]
    rfl
theorem rd_last {bs : List UInt8} {A : Nat} (h : bs.length < A + 66) : (rdNum (bs.drop A) 0 2).1.length < 64 := by
  unfold rdNum
  rw [if_neg (by simp)]
  split
  · rename_i h2
    rw [List.length_drop] at h2 ⊢
    omega
  · dsimp only
    rw [List.drop_drop, List.length_drop]
    omega
set_option maxRecDepth 100000 in
set_option maxHeartbeats 3200000 in
theorem tDec_long (v : Value) (bs : List UInt8) (w : World) (hv : SlY w v bs) (hok : okV v) (h4 : 4 ≤ bs.length) (hl : bs.length ≤ 5000) : Calls Try.prog 29 #[v] w (tDecPost w bs) := by
  obtain ⟨a, cap, rfl, hlc, hcm, _⟩ := hv.open
  obtain ⟨b0, off0, rfl, hb0, _⟩ := SlY.at hv (i := 0) (by omega)
  have kNR := NewReader_calls _ bs w hv hok (by omega)
  have er1 : rdNum bs 0 2 = (bs.drop 2, 0, valL (bs.take 2)) := by unfold rdNum; rw [if_neg (by simp), if_neg (by omega)]
  have er2 : rdNum (bs.drop 2) 0 2 = (bs.drop 4, 0, valL ((bs.drop 2).take 2)) := by unfold rdNum; rw [if_neg (by simp), if_neg (by rw [List.length_drop]; omega), List.drop_drop]
  have kN1 := fun rb vb X h => Num_calls 2 (by omega) rb vb bs 0 X h
  have kN2 := fun rb vb X h => Num_calls 2 (by omega) rb vb (bs.drop 2) 0 X h
  rw [er1] at kN1
  rw [er2] at kN2
  have Hinv0 : Hid (InvD bs (valL (bs.take 2)) (valL ((bs.drop 2).take 2)) 0 [] (fun _ => zG)) := hidIt InvD.zero
  have hm64 : valL ((bs.drop 2).take 2) < 65536 := by
    have h1 := valL_lt ((bs.drop 2).take 2)
    have h2 : ((bs.drop 2).take 2).length ≤ 2 := by rw [List.length_take]; omega
    have h3 := Nat.pow_le_pow_right (n := 256) (by omega) h2
    omega
  by_cases hn : valL (bs.take 2) ≤ 256
  · have hnk : okSize (valL (bs.take 2) : Int) = true := by simp [okSize]; omega
    generalize valL (bs.take 2) = n at *
    generalize valL ((bs.drop 2).take 2) = m at *
    have H4 := hidIt (rfl : bs.drop 4 = bs.drop 4)
    clear er1 er2
    go_enter Try.func29, Try.ntmps29
    go_wp2_with fail
    refine kNR.mono ?_
    rintro e w1 ⟨rb, vb, rfl, h1, h2, hR, hf1⟩
    have hR1 := hR.lt
    go_wp2_with fail
    refine (kN1 rb vb _ hR).mono ?_
    rintro e w2 ⟨rfl, hR2, hf2⟩
    have hz2 := hf2.size
    go_wp2_with fail
    refine (New_yes _ _ hnk).mono ?_
    rintro e w3 ⟨tb, mb, rfl, ht, hmb, hT, hf3⟩
    have hF2 := hf1.trans hf2 (fun x hx hl => by simp at hx; omega)
    have hF3 := hF2.trans0 hf3
    have hR3 := hR2.fr0 hf3
    have hT3 : RawW w3 tb mb n [] (fun _ => zG) := by
      obtain ⟨es, clock, hm, hi⟩ := hT.map
      have hbk := hT.blk
      have hll : (List.replicate (n : Int).toNat zS).length = n := by simp
      rw [hll] at hbk
      refine ⟨hbk, hn, by simp, by simp, by simp, by simp, es, clock, hm, ?_⟩
      rw [tabM_empty] at hi
      have e : rawM [] (fun _ => zG) = fun _ => none := by
        funext x
        cases x with
        | int q k =>
          cases q <;> try rfl
          rw [rawM_int, if_neg (by simp)]
        | _ => rfl
      rw [e]
      exact hi
    clear hT
    go_wp2_with fail
    refine (kN2 rb vb _ hR3).mono ?_
    rintro e w4 ⟨rfl, hR4, hf4⟩
    have hF4 := hF3.trans hf4 (fun x hx hl => by simp at hx; omega)
    have hT4 := hT3.fr hf4 (by simp; omega) (by simp; omega)
    clear kN1 kN2 kNR hR hR2 hR3 hT3 hf1 hf2 hf3 hf4 hF2 hF3
    go_wp2_with fail
    go_loopw [7, 23] (fun t i wr => ∃ (j A : Nat) (ks : List Nat) (G : Nat → List Slt), j ≤ m ∧ A ≤ bs.length ∧ Hid (A = 4 + 66 * j) ∧ i = .int .i64 (j : Int) ∧ t = .int .i64 (A : Int) ∧ RawW wr tb mb n ks G ∧ ks.length ≤ j ∧ Hid (InvD bs n m j ks G) ∧ RdW wr rb vb (bs.drop A) 0 ∧ Fr [] w wr) (fun _ i _ => m - (intOf i).toNat)
    case atStart => exact ⟨0, 4, [], fun _ => zG, Nat.zero_le _, h4, rfl, rfl, rfl, hT4, Nat.le_refl _, Hinv0, hR4, hF4⟩
    case round =>
      clear hT4 hR4 hF4
      obtain ⟨j, A, ks, G, hj, hA, HA, rfl, rfl, hT, hks, Hinv, hR, hF⟩ := hrel
      by_cases hjm : j < m
      · have kN := Num_calls 2 (by omega) rb vb (bs.drop A) 0 wr hR
        by_cases hlt : A + 66 ≤ bs.length
        · obtain ⟨e1, e2, e3⟩ := rd_next hlt
          rw [e1] at kN
          have hy64 : ((bs.drop (A + 2)).take 64).length = 4 * 16 := by rw [List.length_take, List.length_drop]; omega
          have Hk : kAt bs j = valL ((bs.drop A).take 2) := by unfold kAt; rw [HA.out]
          have Hg : gAt bs j = restL ((bs.drop (A + 2)).take 64) := by unfold gAt yAt; rw [HA.out]
          have hk64 : kAt bs j < 65536 := kAt_lt
          have Hnx := hidIt (Hinv.out.step hjm)
          have Hwr := hidIt (fun (s : Slt) hs hr => Hinv.out.wrong hjm (s := s) hs hr)
          have hgl : (gAt bs j).length = 16 := gAt_len (by have := HA.out; omega)
          rw [← Hk] at kN
          rw [Hg] at Hnx Hwr hgl
          have hleft : ¬ ((bs.drop (A + 2)).length : Int) < 64 := by rw [e2]; omega
          have kL := fun X h => Left_calls rb vb (bs.drop (A + 2)) 0 X h
          have kS := fun X h => Skip_calls 64 rb vb (bs.drop (A + 2)) 0 X h
          rw [e3] at kS
          have hcut : ∀ X : World, (Instr.sliceAt 62 (.slice (some ⟨b0, off0, none⟩) bs.length cap) (some (.int .i64 ((A : Int) + 2))) (some (.int .i64 ((A : Int) + 2 + 64))) none).run Try.prog X = .ok (.slice (slAddr (some ⟨b0, off0, none⟩) cap (A + 2) 1) 64 (cap - (A + 2))) X := fun X => by
            have := cut_lh (P := Try.prog) (w := X) 62 5 1 Try.underlying62 (by kernel_rfl) (some ⟨b0, off0, none⟩) bs.length cap (A + 2) (A + 2 + 64) (by omega) (by omega)
            rwa [show A + 2 + 64 - (A + 2) = 64 by omega] at this
          have hsy : SlY wr (.slice (slAddr (some ⟨b0, off0, none⟩) cap (A + 2) 1) 64 (cap - (A + 2))) ((bs.drop (A + 2)).take 64) := by
            have := SlF.mid 1 (fun _ => rfl) (SlF.fr0 hv hF) (m := A + 2) (j := A + 66) (by omega) (by omega)
            rwa [List.drop_take, show A + 66 - (A + 2) = 64 by omega] at this
          have hyok := cut_ok (A := A) hok (by omega)
          have H66 : Hid (bs.drop (A + 66) = bs.drop (A + 66)) := hidIt rfl
          clear Hk Hg e1 e2 e3 Hinv Hinv0 hv hok H4
          simp only at kN kS
          generalize kAt bs j = k at *
          generalize hD66 : bs.drop (A + 66) = D66 at *
          generalize (bs.drop (A + 2)).take 64 = y64 at *
          generalize bs.drop (A + 2) = D2 at *
          generalize bs.drop A = D at *
          replace hD66 := hidIt hD66
          have hlt2 := hT.lts
          have hne := hT.ne
          have hsub : ∀ x, (Value.slice (slAddr (some ⟨b0, off0, none⟩) cap (A + 2) 1) 64 (cap - (A + 2))).ownBlock = some x → x = b0 := fun x hx => cut_block hx
          generalize hsu : Value.slice (slAddr (some ⟨b0, off0, none⟩) cap (A + 2) 1) 64 (cap - (A + 2)) = su at *
          clear hsu
          go_wp2_with fail
          refine kN.mono ?_
          rintro e w5 ⟨rfl, hR5, hf5⟩
          have hT5 := hT.fr hf5 (by simp; omega) (by simp; omega)
          have hF5 := hF.trans hf5 (fun x hx hl => by simp at hx; omega)
          have hsy5 : SlY w5 su y64 := SlF.fr hsy hf5 (fun x hx => by rw [hsub x hx]; simp; omega)
          have hz5 := hf5.size
          go_wp2_with fail
          refine (kL _ hR5).mono ?_
          rintro e w6 ⟨rfl, rfl⟩
          clear kN kL hT hR hF hsy hf5
          go_wp2_with fail
          refine (Rest_calls su y64 16 _ hsy5 hyok hy64 (by omega)).mono ?_
          rintro e w6 (⟨hrr, u6, rfl, hown6, hf6⟩ | ⟨⟨s, hs, hr⟩, rfl, hf6⟩)
          · have hR6 := hR5.fr0 hf6
            have hT6 := hT5.fr0 hf6
            have hF6 := hF5.trans0 hf6
            rw [hgl] at hown6
            generalize restL y64 = g at *
            obtain ⟨gb, gc, rfl, hgb, hgc⟩ := owns_succ hown6 (by omega)
            clear hR5 hT5 hF5 hf6
            have cT := hT6.blk.cell
            have hcells := own_cells hown6
            have hks16 : ks.length < 1000 := by have := HA.out; omega
            obtain ⟨es, clock, hm, hi⟩ := hT6.map
            go_wp2_with fail
            refine wp_region_still_tail 8 follows (by as_aux_lemma => kernel_rfl) ?_
            simp only [List.take_succ_cons, List.take_zero, List.drop_succ_cons, List.drop_zero]
            change wpStill _ _ (World.drew _) _ _ _
            iterate 6 still_step
            refine wpStill_value rfl (.pointer (some ⟨gb, 0, none⟩)) (by have cc := array_group gb gc w6.drew; go_simp) ?_
            refine wpStill_loadGroupAt rfl _ rfl gb rfl hgl hcells ?_
            refine wpStill_nil ?_
            change wpList _ _ _ _ _ (World.drew _)
            refine wpList_mapUpdate_isM rfl _ _ _ 70 rfl Try.underlying70 keyInt hi mb rfl _ rfl _ rfl (keyR (by omega) (by omega)) (by rw [mapAt_drew]; exact hm) ?_
            intro es' clock' hi'
            refine wpList_nil ?_
            have hfp : Fr [mb] w6 (putMap w6.drew mb es' clock') := ((Fr.refl [] w6).drew.weak).trans' (putMap_fr _ _ _ _)
            have hT7 := hT6.ins hne hk64 ⟨hgl, hrr⟩ hks16 hfp (mapAt_putMap (by have := hT6.lts.2; exact this) _ _) hi'
            have hR7 := hR6.fr hfp (by simp; omega) (by simp; omega)
            have hF7 := hF6.trans hfp (fun x hx hl => by simp at hx; omega)
            have hil := insN_len ks k
            clear hT6 hR6 hF6 hi hm hi' hcells cT hfp hown6
            generalize putMap w6.drew mb es' clock' = w7 at *
            go_wp2_with fail
            refine (kS _ hR7).mono ?_
            rintro e w8 ⟨⟨v8, rfl⟩, hR8, hf8⟩
            have hT8 := hT7.fr hf8 (by simp; omega) (by simp; omega)
            have hF8 := hF7.trans hf8 (fun x hx hl => by simp at hx; omega)
            go_wp2
            go_roundw
            case rel => exact ⟨j + 1, A + 66, insN ks k, updG G k g, by omega, hlt, by have := HA.out; exact hidIt (by omega), by go_num, by go_num, hT8, by omega, Hnx, by rw [hD66.out]; exact hR8, hF8⟩
            case measure => simp [intOf]; omega
          · have hF6 := hF5.trans0 hf6
            go_wp2
            go_ret2
            exact .inr ⟨Hwr.out s hs hr, rfl, hF6⟩
        · have Hno := hidIt (Hinv.out.long hjm (by have := HA.out; omega))
          have hleft := rd_last (bs := bs) (A := A) (by omega)
          generalize rdNum (bs.drop A) 0 2 = R at *
          obtain ⟨D2, e2, k⟩ := R
          simp only at kN hleft
          have hleft' : (D2.length : Int) < 64 := by omega
          go_wp2_with fail
          refine kN.mono ?_
          rintro e w5 ⟨rfl, hR5, hf5⟩
          have hF5 := hF.trans hf5 (fun x hx hl => by simp at hx; omega)
          go_wp2_with fail
          refine (Left_calls rb vb D2 e2 _ hR5).mono ?_
          rintro e w6 ⟨rfl, rfl⟩
          go_wp2
          go_ret2
          exact .inr ⟨Hno.out, rfl, hF5⟩
      · have Hjm : Hid (j = m) := hidIt (by omega)
        have hzt := hF.size
        have hsv : SlY wr (.slice (some ⟨b0, off0, none⟩) bs.length cap) bs := SlF.fr0 hv hF
        have Hdone := hidIt (fun (l : List Slt) hg he => Hinv.out.done Hjm.out (l := l) hg he)
        have kE := End_calls rb vb (bs.drop A) 0 wr hR
        by_cases hend : bs.length = A
        · have hre : rdEnd (bs.drop A) 0 = 0 := by unfold rdEnd; rw [if_neg (by rw [List.length_drop]; omega)]
          rw [hre] at kE
          clear hre hR hend hv
          go_wp2_with fail
          refine kE.mono ?_
          rintro e w5 ⟨rfl, rfl⟩
          go_wp2_with fail
          refine (whole_calls tb mb n ks G _ hT).mono ?_
          rintro e w6 ⟨⟨hw, rfl⟩ | ⟨hw, rfl⟩, hf6⟩
          · have hT6 := hT.fr0 hf6
            have hF6 := hF.trans0 hf6
            go_wp2_with fail
            refine (tEncode_calls tb mb n ks G _ hT6).mono ?_
            rintro e w7 ⟨u7, rfl, hown7, hf7⟩
            have hT7 := hT6.fr0 hf7
            have hF7 := hF6.trans0 hf7
            have hs7 : SlY w7 u7 (encR n ks G) := SlF.of_owns hown7
            have hsv7 := SlF.fr0 hsv (hf6.trans0 hf7)
            have kQ := EqualY_calls u7 _ _ _ _ hs7 hsv7
            by_cases hd : encR n ks G = bs
            · rw [decide_eq_true hd] at kQ
              replace hd := hidIt hd
              go_wp2_with fail
              refine kQ.mono ?_
              rintro e w8 ⟨rfl, hf8⟩
              go_wp2
              go_ret2
              exact .inl ⟨rawL n ks G, tb, mb, rawL_good hn hT.grp, (rawL_enc hn hT.lt hT.grp hw).trans hd.out, rfl, by omega, by omega, (hT7.fr0 hf8).tab hw, hF7.trans0 hf8⟩
            · rw [decide_eq_false hd] at kQ
              replace hd := hidIt hd
              go_wp2_with fail
              refine kQ.mono ?_
              rintro e w8 ⟨rfl, hf8⟩
              go_wp2
              go_ret2
              exact .inr ⟨fun l hg he => hd.out (Hdone.out l hg he).2.1, rfl, hF7.trans0 hf8⟩
          · go_wp2
            go_ret2
            exact .inr ⟨fun l hg he => hw (Hdone.out l hg he).1, rfl, hF.trans0 hf6⟩
        · have hre : rdEnd (bs.drop A) 0 = 11 := by unfold rdEnd; rw [if_pos (by rw [List.length_drop]; omega)]
          rw [hre] at kE
          have Hend := hidIt hend
          clear hre hR hend hv
          go_wp2_with fail
          refine kE.mono ?_
          rintro e w5 ⟨rfl, rfl⟩
          go_wp2
          go_ret2
          exact .inr ⟨fun l hg he => Hend.out (by have h1 := (Hdone.out l hg he).2.2; have h2 := HA.out; have h3 := Hjm.out; omega), rfl, hF⟩
  · have Hno : Hid (∀ l, goodT l → encT l ≠ bs) := hidIt (fun l hg e => by
      subst e
      rw [encT_num hg] at hn
      exact hn hg.1)
    have hnk : okSize (valL (bs.take 2) : Int) = false := by simp [okSize]; omega
    generalize valL (bs.take 2) = n at *
    go_enter Try.func29, Try.ntmps29
    go_wp2_with fail
    refine kNR.mono ?_
    rintro e w1 ⟨rb, vb, rfl, h1, h2, hR, hf1⟩
    go_wp2_with fail
    refine (kN1 rb vb _ hR).mono ?_
    rintro e w2 ⟨rfl, hR2, hf2⟩
    go_wp2_with fail
    refine (New_no _ _ hnk).mono ?_
    rintro e w3 ⟨rfl, rfl⟩
    go_wp2
    go_ret2
    exact .inr ⟨Hno.out, rfl, hf1.trans hf2 (fun x hx hl => by simp at hx; omega)⟩
theorem tDec_calls (v : Value) (bs : List UInt8) (w : World) (hv : SlY w v bs) (hok : okV v) (hl : bs.length ≤ 5000) : Calls Try.prog 29 #[v] w (tDecPost w bs) := by
  by_cases h4 : bs.length < 4
  · exact tDec_short v bs w hv hok h4
  · exact tDec_long v bs w hv hok (by omega) hl
end Go.Proofs.Ytknbjdbdpdbeiaa
