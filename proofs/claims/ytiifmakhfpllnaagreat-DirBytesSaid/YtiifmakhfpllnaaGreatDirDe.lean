/-
  Package dir: Decode.
-/
import Derived.Test.YtiifmakhfpllnaaGreatM41
import Derived.Test.YtiifmakhfpllnaaGreatM33
import Derived.Test.YtiifmakhfpllnaaGreatM32
import Derived.Test.YtiifmakhfpllnaaGreatM42
namespace Go.Proofs.YtiifmakhfpllnaaGreat
open Go.RowKit Go.Maps
attribute [local go_sem] mapAt_alloc mapAt_setCell mapAt_drew mapAt_drewN cells_str store_str

theorem buildEnt (s : List UInt8) (a b : Bool) (w : World) : (Instr.build 56 #[(0, strL s), (1, .bool a), (2, .bool b)]).run Tryz.prog w = .ok (.agg #[strL s, .bool a, .bool b, .pointer none]) w := by kernel_rfl
theorem wpList_buildEnt {ops : Array Oper} {rest : List Oper} {o : Oper} {a : Act} {Q : Exit → Act → World → Prop} {w : World} (hg : o.guard = none) (x y z : Operand) (ho : o.op = .build 56 #[(0, x), (1, y), (2, z)]) (l : List UInt8) (p q : Bool)
    (hx : a.eval x = strL l) (hy : a.eval y = .bool p) (hz : a.eval z = .bool q) (h : wpList Tryz.prog ops Q rest (a.put o.dst (.agg #[strL l, .bool p, .bool q, .pointer none])) w) : wpList Tryz.prog ops Q (o :: rest) a w :=
  wpList_plain hg fun K hK => by
    unfold Oper.wp execOp
    simp only [ho, List.map_toArray, List.map_cons, List.map_nil, hx, hy, hz, Sem.run_bind, buildEnt, Result.andThen_ok, Sem.run_pure]
    exact hK _ _ h
def dDecPost (w : World) (bs : List UInt8) (e : Ending) (w' : World) : Prop :=
  (∃ db mb L, encD (L.map (·.x)) true = bs ∧ (∀ E, OkD E → encD E true = bs → E = L.map (·.x)) ∧ e = .returned (.tuple #[.pointer (some ⟨db, 0, none⟩), .int .i64 0]) ∧ DirW w' db mb L ∧ (∀ k ∈ homes db mb L, w.heap.size ≤ k) ∧ Fr [] w w') ∨
    ((∀ E, OkD E → encD E true ≠ bs) ∧ e = .returned (.tuple #[.pointer none, .int .i64 110]) ∧ Fr [] w w')
/-- the entry that was read, in the directory -/
def setOU (p q : Bool) (x : Ent) : Ent := { x with on := p, use := q }
set_option maxRecDepth 100000 in
set_option maxHeartbeats 3200000 in
theorem dDecode_calls (v : Value) (bs : List UInt8) (w : World) (hv : SlY w v bs) (hok : okV v) (hl : bs.length ≤ 100000) : Calls Tryz.prog 7 #[v] w (dDecPost w bs) := by
  go_enter Tryz.func7, Tryz.ntmps7
  go_wp2_with fail
  refine (dNew_calls w).mono ?_
  rintro e w1 ⟨db, mb, rfl, n1, n2, hD1, hf1⟩
  go_wp2_with fail
  refine (NewReader_calls v bs w1 (SlF.fr0 hv hf1) hok (by omega)).mono ?_
  rintro e w2 ⟨rb, vb, rfl, n3, n4, hR2, hf2⟩
  have hD2 := hD1.fr0 hf2
  have hlt1 := hD1.lt
  have hF2 := hf1.trans0 hf2
  have hz1 := hf1.size
  have kN := Num_calls 1 (by omega) rb vb bs 0 w2 hR2
  obtain ⟨l0, e0, n, hq0⟩ : ∃ l0 e0 n, rdNum bs 0 1 = (l0, e0, n) := ⟨_, _, _, rfl⟩
  have hn : n < 256 := by
    have h2 : (rdNum bs 0 1).2.2 < 256 := by
      unfold rdNum
      split
      · simp
      · split
        · simp
        · have := valL_lt (bs.take 1)
          refine Nat.lt_of_lt_of_le this ?_
          have : (bs.take 1).length ≤ 1 := by simp; omega
          exact Nat.pow_le_pow_right (n := 256) (by omega) this
    rw [hq0] at h2
    exact h2
  have hl0 : l0.length ≤ 100000 := by
    have := rdNum_short bs 0 1
    rw [hq0] at this
    simp only at this
    omega
  rw [hq0] at kN
  have hrd := Reads.start hq0
  clear hq0 hf1 hf2 hD1
  simp only at kN
  go_wp2_with fail
  refine kN.mono ?_
  rintro e w3 ⟨rfl, hR3, hf3⟩
  have hrw : w.heap.size ≤ rb := by omega
  have hvw : w.heap.size ≤ vb := by omega
  have hlr : ∀ k ∈ homes db mb [], k < w1.heap.size := hlt1
  have hD3 := hD2.fr hf3 (fun k hk hx => by have := hlt1 k hk; have := List.mem_singleton.1 hx; omega)
  have hF3 : Fr [] w w3 := hF2.trans hf3 (fun x hx hl => by have := List.mem_singleton.1 hx; omega)
  have hst : StD' w w3 db mb rb vb [] := ⟨hD3, fun k hk => by
    have := hlt1 k hk
    simp [homes, feet] at hk
    omega, hF3⟩
  clear kN hR2 hf3 hD2 hD3 hF2 hF3 hlr hlt1
  go_wp2_with fail
  go_loopw [6, 7, 8, 14] (fun _ _ _ i wr => ∃ (k : Nat) (L : List Cel) (l : List UInt8) (e : Int), k ≤ n ∧ i = .int .i64 k ∧ RdW wr rb vb l e ∧ l.length ≤ 100000 ∧ Reads bs n k (L.map (·.x)) l e ∧ StD' w wr db mb rb vb L) (fun _ _ _ i _ => n - (intOf i).toNat)
  case atStart => exact ⟨0, [], _, _, Nat.zero_le _, rfl, hR3, hl0, hrd, hst⟩
  case round =>
    clear hst hR3 hrd
    obtain ⟨k, L, l, e, hk, rfl, hR, hll, hrd, hst⟩ := hrel
    by_cases hlt : k < n
    · obtain ⟨l1, e1, s, hq1⟩ : ∃ a b c, rdText l e 1 = (a, b, c) := ⟨_, _, _, rfl⟩
      obtain ⟨l2, e2, a, hq2⟩ : ∃ x b c, rdNum l1 e1 1 = (x, b, c) := ⟨_, _, _, rfl⟩
      obtain ⟨l3, e3, b, hq3⟩ : ∃ a b c, rdNum l2 e2 1 = (a, b, c) := ⟨_, _, _, rfl⟩
      obtain ⟨l4, e4, y, hq4⟩ : ∃ a b c, rdText l3 e3 2 = (a, b, c) := ⟨_, _, _, rfl⟩
      have k1 := fun X h => Text_calls 1 (by omega) rb vb l e X h
      have k2 := fun X h => Num_calls 1 (by omega) rb vb l1 e1 X h
      have k3 := fun X h => Num_calls 1 (by omega) rb vb l2 e2 X h
      have k4 := fun X h => Text_calls 2 (by omega) rb vb l3 e3 X h
      rw [hq1] at k1
      rw [hq2] at k2
      rw [hq3] at k3
      rw [hq4] at k4
      simp only at k1 k2 k3 k4
      have hs1 := rdText_short l e 1
      have hs2 := rdNum_short l1 e1 1
      have hs3 := rdNum_short l2 e2 1
      have hs4 := rdText_short l3 e3 2
      rw [hq1] at hs1
      rw [hq2] at hs2
      rw [hq3] at hs3
      rw [hq4] at hs4
      simp only at hs1 hs2 hs3 hs4
      have Hno1 : Hid ((∀ S g m, goodB S g m → encB S g m ≠ y) → ∀ E, OkD E → encD E true ≠ bs) := hidIt (hrd.noBits hlt hq1 hq2 hq3 hq4)
      have Hno2 : Hid (okName s = false ∨ findE (L.map (·.x)) s ≠ none ∨ 8 ≤ (L.map (·.x)).length → ∀ E, OkD E → encD E true ≠ bs) := hidIt (hrd.noName hlt hq1 hq2 hq3 hq4)
      have Hst : Hid (∀ S g m, goodB S g m → encB S g m = y → Reads bs n (k + 1) (insE (rdE s a b S g m) (L.map (·.x))) l4 e4) := hidIt (fun S g m h1 h2 => hrd.step hlt hq1 hq2 hq3 hq4 h1 h2)
      clear hq1 hq2 hq3 hq4 hrd
      go_wp2_with fail
      refine (k1 _ hR).mono ?_
      rintro e w4 ⟨rfl, hR4, hf4⟩
      have hst4 := hst.read hrw hf4
      clear hst hR hf4 k1
      go_wp2_with fail
      refine (k2 _ hR4).mono ?_
      rintro e w5 ⟨rfl, hR5, hf5⟩
      have hst5 := hst4.read hrw hf5
      clear hst4 hR4 hf5 k2
      go_wp2_with fail
      refine (k3 _ hR5).mono ?_
      rintro e w6 ⟨rfl, hR6, hf6⟩
      have hst6 := hst5.read hrw hf6
      clear hst5 hR5 hf6 k3
      have HrdE : Hid (∀ S g m, setOU ((a : Int) == 1) ((b : Int) == 1) ⟨s, true, true, S, g, m⟩ = rdE s a b S g m) := hidIt (fun _ _ _ => rfl)
      generalize hpa : ((a : Int) == 1) = pa at *
      generalize hpb : ((b : Int) == 1) = pb at *
      have B6 := Blk.new w6 [strL s, .bool pa, .bool pb, .pointer none] 56
      have hfa := (Fr.refl [] w6).alloc (.cells #[strL s, .bool pa, .bool pb, .pointer none] 56)
      have hR7 := hR6.fr0 hfa
      have hst7 := hst6.keep hfa
      have hrb6 := hR6.lt
      clear hR6 hst6 hfa
      go_wp2_with (refine wpList_buildEnt rfl _ _ _ rfl _ _ _ rfl rfl rfl ?_)
      refine (k4 _ hR7).mono ?_
      rintro e w7 ⟨rfl, hR8, hf7⟩
      have hst8 := hst7.read hrw hf7
      have B8 := B6.fr hf7 (by simp; omega)
      obtain ⟨cv, w8, hcv, hsy, hcok, hfc⟩ := conv_bytes y w7 (by unfold maxLen; omega)
      have hst9 := hst8.keep hfc
      have hR9 := hR8.fr0 hfc
      have B9 := B8.fr0 hfc
      clear hst7 hst8 hR7 hR8 hf7 B6 B8 k4 hfc
      have hb6 : w6.heap.size < w8.heap.size := B9.lt
      have hrb8 := hR9.lt
      have hvb8 : vb < w8.heap.size := by omega
      have hy3 : y.length ≤ 100000 := by omega
      have hl4 : l4.length ≤ 100000 := by omega
      clear hs1 hs2 hs3
      go_wp2_with fail
      refine (bDec_calls cv y w8 hsy hcok hy3).mono ?_
      rintro e w9 (⟨S, g, m, tb, bm, hg, hy, rfl, n5, n6, hB, hf9⟩ | ⟨hno, rfl, hf9⟩)
      · have hst10 := hst9.keep hf9
        have hR10 := hR9.fr0 hf9
        have B10 := B9.fr0 hf9
        have c10 := B10.cell
        have hz9 := hf9.size
        have hpg : pow2 g = true := hg.2.1
        replace Hst := hidIt (Hst.out S g m hg hy)
        clear hst9 hR9 B9 hf9 hcv hsy hcok Hno1 hg hy
        cases hr : okName s with
        | false =>
          have hno := hidIt (Hno2.out (.inl hr))
          go_wp2_with fail
          refine (Add_arg s _ (some ⟨tb, 0, none⟩) _ (.inl hr)).mono ?_
          rintro e w10 ⟨rfl, hf10⟩
          have hF := hst10.fr.trans0 hf10
          clear hr Hno2 Hst
          go_wp2
          go_ret2
          exact .inr ⟨hno.out, rfl, hF⟩
        | true =>
          by_cases hth : findC L s ≠ none ∨ 8 ≤ L.length
          · have hno := hidIt (Hno2.out (.inr (by rw [findC_isNone, List.length_map]; exact hth)))
            go_wp2_with fail
            refine (Add_there db mb L s ⟨tb, 0, none⟩ _ hst10.dir hr hth).mono ?_
            rintro e w10 ⟨rfl, hf10⟩
            have hF := hst10.fr.trans0 hf10
            clear hr hth Hno2 Hst
            go_wp2
            go_ret2
            exact .inr ⟨hno.out, rfl, hF⟩
          · have hc : findC L s = none := Classical.byContradiction fun h => hth (.inl h)
            have h8 : L.length < 8 := by have := fun h => hth (.inr h); omega
            clear hth Hno2
            go_wp2_with fail
            refine (Add_yes db mb L s tb bm S g m _ hst10.dir hr hc h8 hB hpg).mono ?_
            rintro e w10 ⟨rfl, c, hcx, hD11, hcn, hf11⟩
            have hst11 := hst10.change (by omega) (by omega) hD11 (hf11.mono fun k hk _ => by simp at hk; simp [hk]) (fun k hk => by
              rcases feet_insC hk with h | h
              · exact .inr (hcn k h)
              · exact .inl h)
            have hap := hst10.apart
            have hapb : mb ≠ w6.heap.size := fun e => by
              obtain ⟨es, clock, hm, _⟩ := hst10.dir.map
              rw [e] at hm
              have := (mapAt_some.1 hm).symm.trans B10
              cases this
            have hR11 := hR10.fr hf11 (fun hx => hap.1 (by have := List.mem_singleton.1 hx; simp [this])) (fun hx => hap.2 (by have := List.mem_singleton.1 hx; simp [this]))
            have B11 := B10.fr hf11 (fun hx => hapb (List.mem_singleton.1 hx).symm)
            have hcm : c ∈ insC c L := mem_insC.2 (.inl rfl)
            have hcnm : c.x.name = s := by rw [hcx]
            have hfc : findC (insC c L) s = some c := by have := find_rising hD11.rising hcm; rwa [hcnm] at this
            have hE := hD11.ents c hcm
            have hown := hD11.own hcm
            have hne : ∀ k, k < w9.heap.size → k ∉ [c.eb] := fun k hk hx => by
              have := hcn c.eb (by simp [Cel.feet])
              have := List.mem_singleton.1 hx
              omega
            have hdbl : db < w9.heap.size := hst10.dir.lt db (by simp [homes])
            have hmbl : mb < w9.heap.size := hst10.dir.lt mb (by simp [homes])
            obtain ⟨es, clock, hm, hi⟩ := hD11.map
            have hs' : s.length ≤ maxLen := Nat.le_trans (okName_len hr) (by decide)
            have hmd : mapAt w10.drew mb = some (es, clock) := hm
            have hl2 : ∀ X, Fr [c.eb] w10.drew X → (Instr.lookup 46 (.map (some mb)) (strL s) false).run Tryz.prog X = .ok (.pointer (some ⟨c.eb, 0, none⟩)) X := fun X hX => by
              have := lookD hi hs' X (mapAt_fr hmd hX (hne mb hmbl))
              rw [hfc] at this
              exact this
            have ef := hE.blk.drew.frozen
            have ec := hE.blk.drew.cell
            have ec3 := hE.blk.cell
            have ef3 := hE.blk.frozen
            have el := hE.blk.drew.lt
            have Bd := B11.drew
            have Dd := hD11.blk.drew
            have hEq : (oneC (insC c L) s (setOU pa pb)).map (·.x) = insE (rdE s a b S g m) (L.map (·.x)) := by
              rw [oneC_map, insC_E]
              have h1 : ∀ d ∈ L.map (·.x), d.name ≠ c.x.name := by
                intro d hd
                obtain ⟨d', hd', rfl⟩ := List.mem_map.1 hd
                rw [hcnm]
                exact findC_none.1 hc d' hd'
              have h2 := oneE_ins (e := c.x) (f := setOU pa pb) (fun _ => rfl) h1
              rw [hcnm] at h2
              rw [h2, hcx, HrdE.out]
            have HEq := hidIt hEq
            have hE2 : EntW ((w10.drew.setCell ⟨c.eb, 1, none⟩ (.bool pa)).setCell ⟨c.eb, 2, none⟩ (.bool pb)) (c.on (setOU pa pb)) :=
              ⟨(hE.blk.drew.setCell 1 (.bool pa)).setCell 2 (.bool pb), (hE.bits.fr0 (Fr.refl [] w10).drew).fr (((Fr.refl [c.eb] _).setCell (.inl (by simp)) _).setCell (.inl (by simp)) _) (by simp; exact hown.1.symm) (by simp; exact hown.2.1.symm), hE.pow⟩
            have hFe : Fr [c.eb] w10 ((w10.drew.setCell ⟨c.eb, 1, none⟩ (.bool pa)).setCell ⟨c.eb, 2, none⟩ (.bool pb)) := (((Fr.refl [c.eb] w10).drew).setCell (.inl (by simp)) _).setCell (.inl (by simp)) _
            have hD12 := hD11.one hcm (f := setOU pa pb) (fun _ => rfl) (hFe.mono fun k hk _ => by have := List.mem_singleton.1 hk; simp [Cel.feet, this]) hE2
            rw [hcnm] at hD12
            have hst12 := hst11.change (L' := oneC (insC c L) s (setOU pa pb)) (by have := hf11.size; omega) (by have := hf11.size; omega) hD12 (hFe.mono fun k hk _ => List.mem_cons_of_mem _ (mem_feet.2 ⟨c, hcm, by have := List.mem_singleton.1 hk; simp [Cel.feet, this]⟩)) (fun k hk => .inl (by rwa [feet_oneC] at hk))
            have hR12 := hR11.fr hFe (hne rb (by omega)) (hne vb (by omega))
            replace hst12 := hidIt hst12
            replace hR12 := hidIt hR12
            clear hst10 hst11 hR10 hR11 hD12 hE2 hFe hEq hD11 hf11 hcn hB B10 c10 hm hi hE hcx hc HrdE hap
            go_wp2_with fail
            refine wp_region_G (Fr [c.eb] w10.drew) [(true, 0), (true, 1), (true, 2), (true, 3), (true, 4), (true, 5), (true, 6), (true, 7), (true, 8), (true, 9), (true, 10), (true, 11), (true, 12), (true, 13), (true, 14), (true, 15), (true, 16), (true, 17), (true, 18), (true, 19), (false, 20), (true, 21), (true, 22), (false, 23)] (by as_aux_lemma => kernel_rfl) (by as_aux_lemma => kernel_rfl) (Fr.refl _ _) ?_
            simp only [inOrder, List.map_cons, List.map_nil, List.getD_cons_zero, List.getD_cons_succ]
            iterate 3
              refine wpG_pure fun K hK => ?_
              go_simp
              refine hK _ ?_
              clear hK K
            refine wpG_val (.map (some mb)) (by first | rfl | go_simp) (fun X hX => by have cc := (Dd.fr hX (hne db hdbl)).cell; go_simp) ?_
            simp only [Act.put, List.setIfInBounds_toArray, List.set_cons_zero, List.set_cons_succ]
            iterate 1
              refine wpG_pure fun K hK => ?_
              go_simp
              refine hK _ ?_
              clear hK K
            refine wpG_val (strL s) (by first | rfl | go_simp) (fun X hX => by have cc := (Bd.fr hX (hne _ (by omega))).cell; go_simp) ?_
            simp only [Act.put, List.setIfInBounds_toArray, List.set_cons_zero, List.set_cons_succ]
            refine wpG_val (.pointer (some ⟨c.eb, 0, none⟩)) (by first | rfl | go_simp) (fun X hX => by have cc := hl2 X hX; go_simp) ?_
            simp only [Act.put, List.setIfInBounds_toArray, List.set_cons_zero, List.set_cons_succ]
            iterate 3
              refine wpG_pure fun K hK => ?_
              go_simp
              refine hK _ ?_
              clear hK K
            refine wpG_val (.map (some mb)) (by first | rfl | go_simp) (fun X hX => by have cc := (Dd.fr hX (hne db hdbl)).cell; go_simp) ?_
            simp only [Act.put, List.setIfInBounds_toArray, List.set_cons_zero, List.set_cons_succ]
            iterate 1
              refine wpG_pure fun K hK => ?_
              go_simp
              refine hK _ ?_
              clear hK K
            refine wpG_val (strL s) (by first | rfl | go_simp) (fun X hX => by have cc := (Bd.fr hX (hne _ (by omega))).cell; go_simp) ?_
            simp only [Act.put, List.setIfInBounds_toArray, List.set_cons_zero, List.set_cons_succ]
            refine wpG_val (.pointer (some ⟨c.eb, 0, none⟩)) (by first | rfl | go_simp) (fun X hX => by have cc := hl2 X hX; go_simp) ?_
            simp only [Act.put, List.setIfInBounds_toArray, List.set_cons_zero, List.set_cons_succ]
            iterate 1
              refine wpG_pure fun K hK => ?_
              go_simp
              refine hK _ ?_
              clear hK K
            refine wpG_val (.bool pa) (by first | rfl | go_simp) (fun X hX => by have cc := (Bd.fr hX (hne _ (by omega))).cell; go_simp) ?_
            simp only [Act.put, List.setIfInBounds_toArray, List.set_cons_zero, List.set_cons_succ]
            iterate 1
              refine wpG_pure fun K hK => ?_
              go_simp
              refine hK _ ?_
              clear hK K
            refine wpG_val (.bool pb) (by first | rfl | go_simp) (fun X hX => by have cc := (Bd.fr hX (hne _ (by omega))).cell; go_simp) ?_
            simp only [Act.put, List.setIfInBounds_toArray, List.set_cons_zero, List.set_cons_succ]
            iterate 2
              refine wpG_pure fun K hK => ?_
              go_simp
              refine hK _ ?_
              clear hK K
            refine wpG_one fun K hK => ?_
            go_simp
            refine hK _ _ ((Fr.refl _ _).setCell (p := ⟨c.eb, 1, none⟩) (.inl (by simp)) _) ?_
            clear hK K
            iterate 2
              refine wpG_pure fun K hK => ?_
              go_simp
              refine hK _ ?_
              clear hK K
            refine wpG_one fun K hK => ?_
            go_simp
            refine hK _ _ (by have h1 := ((Fr.refl [c.eb] w10.drew).setCell (p := ⟨c.eb, 1, none⟩) (.inl (by simp)) (.bool pa)).setCell (p := ⟨c.eb, 2, none⟩) (.inl (by simp)) (.bool pb); exact h1) ?_
            clear hK K
            refine wpG_end ?_
            clear hl2 ef el ec ec3 ef3 Bd Dd
            go_wp2
            go_roundw
            case rel => exact ⟨k + 1, _, l4, e4, by omega, by go_num, hR12.out, by omega, by rw [HEq.out]; exact Hst.out, hst12.out⟩
            case measure => simp [intOf]; omega
      · have hF := hst9.fr.trans0 hf9
        have hno := hidIt (Hno1.out hno)
        clear hst9 hR9 B9 hf9 hcv hsy hcok Hno1 Hno2 Hst
        go_wp2
        go_ret2
        exact .inr ⟨hno.out, rfl, hF⟩
    · have hke : k = n := by omega
      subst hke
      have hdn := hidIt hrd.done
      have hF := hst.fr
      have hok := hst.dir.ok
      have hen := fun E (h : l ≠ [] ∨ e ≠ 0) => (fun hE hb => by
        obtain ⟨_, h1, h2⟩ := hdn.out E hE hb
        rcases h with h | h
        · exact h h1
        · exact h h2 : OkD E → encD E true ≠ bs)
      by_cases hen0 : rdEnd l e = 0
      · have kE := End_calls rb vb l e _ hR
        rw [hen0] at kE
        go_wp2_with fail
        refine kE.mono ?_
        rintro e w4 ⟨rfl, rfl⟩
        go_wp2_with fail
        refine (dEncode_calls db mb L true _ hst.dir).mono ?_
        rintro e w5 ⟨ev, rfl, hown, hf5⟩
        have hst5 := hst.keep hf5
        go_wp2_with fail
        refine (EqualY_calls ev v _ bs w5 (SlF.of_owns hown) (SlF.fr0 hv hst5.fr)).mono ?_
        rintro e w6 ⟨rfl, hf6⟩
        have hst6 := hst5.keep hf6
        by_cases heq : encD (L.map (·.x)) true = bs
        · have hd : decide (encD (L.map (·.x)) true = bs) = true := decide_eq_true heq
          rw [hd]
          have Heq := hidIt heq
          clear heq hown hd
          go_wp2
          go_ret2
          exact .inl ⟨db, mb, L, Heq.out, fun E hE hb => (hdn.out E hE hb).1, rfl, hst6.dir, fun k hk => (hst6.new k hk).1, hst6.fr⟩
        · have hd : decide (encD (L.map (·.x)) true = bs) = false := decide_eq_false heq
          rw [hd]
          have Heq : Hid (∀ E, OkD E → encD E true ≠ bs) := hidIt (fun E hE hb => by
            have h1 := (hdn.out E hE hb).1
            rw [← h1] at heq
            exact heq hb)
          clear heq hown hd
          go_wp2
          go_ret2
          exact .inr ⟨Heq.out, rfl, hst6.fr⟩
      · have kE := End_calls rb vb l e _ hR
        have hq : (rdEnd l e != 0) = true := by simpa using hen0
        have hno : Hid (∀ E, OkD E → encD E true ≠ bs) := hidIt (fun E => hen E (by
          unfold rdEnd at hen0
          by_cases he : e = 0
          · left
            intro h
            rw [he, h] at hen0
            simp at hen0
          · exact .inr he))
        generalize rdEnd l e = q at *
        clear hen0 hen
        go_wp2_with fail
        refine kE.mono ?_
        rintro e w4 ⟨rfl, rfl⟩
        go_wp2
        go_ret2
        exact .inr ⟨hno.out, rfl, hF⟩
end Go.Proofs.YtiifmakhfpllnaaGreat
