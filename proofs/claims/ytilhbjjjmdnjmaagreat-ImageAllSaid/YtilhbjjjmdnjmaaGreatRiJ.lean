/-
  The document's image: Write.
-/
import Derived.Test.YtilhbjjjmdnjmaaGreatM58
namespace Go.Proofs.YtilhbjjjmdnjmaaGreat
open Go.RowKit Go.Maps
attribute [local go_sem] cells_str store_str len_str

section
variable {S : Nat → Prop} {vc vs vd : Value} {R : RIm}
set_option maxRecDepth 100000 in
set_option maxHeartbeats 6400000 in
theorem rWrite_calls (zero : Bool) (x : Int) (b : By) (u : Value) (bel : List By) (w : World) (h : RiW S w vc vs vd R) (hS : ∀ k, w.heap.size ≤ k → S k) (hbl : b.length ≤ maxLen) (hu : SlT w u bel) (huo : okV u) (hul : ∀ s ∈ bel, s.length ≤ maxLen) (hd9 : R.d.length + 256 ≤ 1000000) :
    Calls Tryz.prog 31 #[riV R vc vs vd, .int .i64 x, strL b, u, .bool zero] w (pairPost S w (rwriteE zero R x b bel)) := by
  obtain ⟨ac, cc, as_, cs, ad, cd, rfl, rfl, rfl, hcc, hcs, hcd⟩ := h.open
  obtain ⟨ua, uc, rfl, huc, _⟩ := hu.open
  have hcl := h.ok.cl
  have hm8 := h.ok.m8
  have hmp := h.ok.mp
  unfold maxLen at hbl
  obtain ⟨n, hn⟩ : ∃ n, n = w.heap.size := ⟨_, rfl⟩
  obtain ⟨S', hS'⟩ : ∃ S' : Nat → Prop, S' = fun k => S k ∧ k ≠ n ∧ k ≠ n + 1 := ⟨_, rfl⟩
  have hnew : ∀ W : World, n + 2 ≤ W.heap.size → ∀ k, W.heap.size ≤ k → S' k := fun W hW k hk => by rw [hS']; exact ⟨hS k (by omega), by omega, by omega⟩
  have hSn : ¬ S' n := by rw [hS']; rintro ⟨_, h1, _⟩; exact h1 rfl
  have hSn1 : ¬ S' (n + 1) := by rw [hS']; rintro ⟨_, _, h1⟩; exact h1 rfl
  have hST : ∀ k, S' k → S k := by rw [hS']; exact fun k h => h.1
  have h0 : RiW S' w (.slice ac R.c.length cc) (.slice as_ R.s.length cs) (.slice ad R.d.length cd) R := h.old.mono (fun k hk => by rw [hS']; exact ⟨hk.1, by omega, by omega⟩)
  clear hS'
  have hfa := (Fr.refl [] w).alloc (.cells #[.int .i64 (R.mn : Int), .int .i64 (R.rm : Int), .slice ac R.c.length cc, .slice as_ R.s.length cs, .slice ad R.d.length cd] 36)
  have B0 := Blk.new w [.int .i64 (R.mn : Int), .int .i64 (R.rm : Int), .slice ac R.c.length cc, .slice as_ R.s.length cs, .slice ad R.d.length cd] 36
  have B1 := Blk.new' (w := w.alloc (.cells #[.int .i64 (R.mn : Int), .int .i64 (R.rm : Int), .slice ac R.c.length cc, .slice as_ R.s.length cs, .slice ad R.d.length cd] 36)) (n := w.heap.size + 1) (by simp) [.int .i64 0, .int .i64 0, .slice none 0 0, .slice none 0 0, .slice none 0 0] 36
  replace hfa := hfa.alloc (.cells #[.int .i64 0, .int .i64 0, .slice none 0 0, .slice none 0 0, .slice none 0 0] 36)
  replace B0 := B0.alloc (.cells #[.int .i64 0, .int .i64 0, .slice none 0 0, .slice none 0 0, .slice none 0 0] 36)
  have hz : ((w.alloc (.cells #[.int .i64 (R.mn : Int), .int .i64 (R.rm : Int), .slice ac R.c.length cc, .slice as_ R.s.length cs, .slice ad R.d.length cd] 36)).alloc (.cells #[.int .i64 0, .int .i64 0, .slice none 0 0, .slice none 0 0, .slice none 0 0] 36)).heap.size = w.heap.size + 2 := by simp
  generalize hw1 : (w.alloc (.cells #[.int .i64 (R.mn : Int), .int .i64 (R.rm : Int), .slice ac R.c.length cc, .slice as_ R.s.length cs, .slice ad R.d.length cd] 36)).alloc (.cells #[.int .i64 0, .int .i64 0, .slice none 0 0, .slice none 0 0, .slice none 0 0] 36) = w1 at *
  have hbox : BoxW S' w w1 w.heap.size (.slice ac R.c.length cc) (.slice as_ R.s.length cs) (.slice ad R.d.length cd) R := ⟨B0, B1, h0.fr0 hfa, hfa⟩
  rw [hn] at hnew hSn hSn1
  clear hn n
  have hE1 : Hid (b.length % 16 ≠ 0 → rwriteE zero R x b bel = (1, R)) := hidIt (fun e => by unfold rwriteE; rw [if_pos e])
  have hE2 : Hid (¬ b.length % 16 ≠ 0 → rinside R x (b.length / 16 : Nat) ≠ 0 → rwriteE zero R x b bel = (rinside R x (b.length / 16 : Nat), R)) := hidIt (fun e e2 => by unfold rwriteE; rw [if_neg e, if_pos e2])
  have hE3 : Hid (¬ b.length % 16 ≠ 0 → ¬ rinside R x (b.length / 16 : Nat) ≠ 0 → rfree R < (rneedN zero R x.toNat (b.length / 16) R.c.length : Int) → rwriteE zero R x b bel = (120, R)) := hidIt (fun e e2 e3 => by unfold rwriteE; rw [if_neg e, if_neg e2, if_pos e3])
  have hE4 : Hid (¬ b.length % 16 ≠ 0 → ¬ rinside R x (b.length / 16 : Nat) ≠ 0 → ¬ rfree R < (rneedN zero R x.toNat (b.length / 16) R.c.length : Int) → rwriteE zero R x b bel = (0, rwN zero R x.toNat (b.length / 16) b bel R.c.length)) := hidIt (fun e e2 e3 => by unfold rwriteE; rw [if_neg e, if_neg e2, if_neg e3])
  have hmd : (b.length : Int) % 16 = ((b.length % 16 : Nat) : Int) := by push_cast; rfl
  have hdv : (b.length : Int) / 16 = ((b.length / 16 : Nat) : Int) := by push_cast; rfl
  have kI := fun W h => rInside_calls (S := S') (vc := .slice ac R.c.length cc) (vs := .slice as_ R.s.length cs) (vd := .slice ad R.d.length cd) (R := R) x ((b.length / 16 : Nat) : Int) W h
  have hu1 : RowW (fun k => k < w.heap.size) w1 strC (.slice ua bel.length uc) bel := ⟨SlF.fr0 hu hfa, fun _ _ h => huo _ _ h, fun hp => SlF.lt hu (by cases bel with | nil => cases hp | cons x l => simp)⟩
  generalize rwriteE zero R x b bel = res at *
  have c0 := hbox.box.cell
  have c1 := hbox.res.cell
  have g1 := hbox.res.frozen
  have hend := fun W vcX vsX vdX RX (hb : BoxW S' w W w.heap.size vcX vsX vdX RX) code (hr : res = (code, RX)) => hb.ret (T := S) (r := res) (Nat.le_refl _) hSn1 hST (by rw [hr]) code (by rw [hr])
  clear h h0 hu hfa hS B0 B1
  have hl30 := len_str b
  unfold riV at *
  go_enter Tryz.func31, Tryz.ntmps31
  by_cases h16 : b.length % 16 = 0
  case neg =>
    have hq : (((b.length % 16 : Nat) : Int) == 0) = false := by simp; omega
    have he := hend _ _ _ _ _ hbox 1 (hE1.out h16)
    replace he := hidIt he
    clear hE1 hE2 hE3 hE4 hend kI hnew
    generalize b.length % 16 = q at *
    go_wp2
    refine bodyPost_ret (v := .tuple #[.agg #[.int .i64 (R.mn : Int), .int .i64 (R.rm : Int), .slice ac R.c.length cc, .slice as_ R.s.length cs, .slice ad R.d.length cd], .int .i64 1]) (by simp [results, Tryz.results31, go_sem, c1]) rfl ?_
    have := he.out
    simpa using this
  have hq0 : b.length % 16 = 0 := h16
  rw [hq0] at hmd
  have hn16 : ¬ b.length % 16 ≠ 0 := fun e => e hq0
  replace hE2 := hidIt (hE2.out hn16)
  replace hE3 := hidIt (hE3.out hn16)
  replace hE4 := hidIt (hE4.out hn16)
  have hdlen : b.length / 16 ≤ 576460752303423487 := by omega
  have hb16 : Hid (b.length = 16 * (b.length / 16)) := hidIt (by omega)
  clear hE1 hn16 hq0 h16
  generalize b.length / 16 = L at *
  go_wp2_with fail
  refine (kI _ hbox.ri).mono ?_
  rintro e w2 ⟨rfl, hf2⟩
  have hb2 := hbox.keep hf2
  have hu2 := hu1.fr0 hf2
  clear kI c0 hw1
  replace c1 := hb2.res.cell
  replace g1 := hb2.res.frozen
  have c0 := hb2.box.cell
  have hz2 : w.heap.size + 2 ≤ w2.heap.size := by have := hf2.size; omega
  by_cases hi : rinside R x (L : Nat) = 0
  case neg =>
    have he := hend _ _ _ _ _ hb2 _ (hE2.out hi)
    replace he := hidIt he
    have hi' : (rinside R x (L : Nat) == 0) = false := by simpa using hi
    clear hE2 hE3 hE4 hend hnew hi
    generalize rinside R x (L : Nat) = ii at *
    go_wp2
    refine bodyPost_ret (v := .tuple #[.agg #[.int .i64 (R.mn : Int), .int .i64 (R.rm : Int), .slice ac R.c.length cc, .slice as_ R.s.length cs, .slice ad R.d.length cd], .int .i64 ii]) (by simp [results, Tryz.results31, go_sem, c1]) rfl ?_
    have := he.out
    simpa using this
  obtain ⟨a, l, rfl, hLl, hal⟩ := rinside_ok hi
  have hLl : L = l := by omega
  subst hLl
  rw [hi]
  have hni : ¬ rinside R (a : Int) (L : Nat) ≠ 0 := fun e => e hi
  replace hE3 := hidIt (hE3.out hni)
  replace hE4 := hidIt (hE4.out hni)
  rw [Int.toNat_natCast] at hE3 hE4
  have hA : R.mn * R.c.length ≤ 8 * 256 := Nat.mul_le_mul hm8 hcl
  have haL : a + L ≤ 2048 := by omega
  have hb32 : b.length ≤ 1048576 := by have := hb16.out; omega
  have hNs := fun k => hidIt (rneedN_succ (zero := zero) (R := R) (a := a) (l := L) k)
  have hNl := fun k => rneedN_le (zero := zero) (R := R) (a := a) (l := L) k
  have hNK : ∀ c, Hid (rneedK zero R a L c = (decide (0 < rins R.mn c a L) && !(zero && (decide (rins R.mn c a L = R.mn) || decide (rk R c = 2))) && !rown R c)) := fun c => hidIt rfl
  have hN0 : Hid (rneedN zero R a L 0 = 0) := hidIt rfl
  have hrl := fun c => rins_le R.mn c a L
  have kIn := fun c W h hc => rIns_calls (S := S') (vc := .slice ac R.c.length cc) (vs := .slice as_ R.s.length cs) (vd := .slice ad R.d.length cd) (R := R) c a L W h hc (by omega) (by omega)
  have kO := fun c W h hc => rOwn_calls (S := S') (vc := .slice ac R.c.length cc) (vs := .slice as_ R.s.length cs) (vd := .slice ad R.d.length cd) (R := R) c W h hc
  have kF := fun W h => rFree_calls (S := S') (vc := .slice ac R.c.length cc) (vs := .slice as_ R.s.length cs) (vd := .slice ad R.d.length cd) (R := R) W h
  unfold riV at *
  clear hi hni hE2 hbox hz hal hdv hmd hA
  go_wp2
  go_loopw [14, 15, 16, 17] (fun nd i _ _ wr => ∃ k : Nat, k ≤ R.c.length ∧ i = .int .i64 (k : Int) ∧ nd = .int .i64 ((rneedN zero R a L k : Nat) : Int) ∧ Fr [] w2 wr) (fun _ i _ _ _ => R.c.length - (intOf i).toNat)
  case atStart => exact ⟨0, Nat.zero_le _, rfl, by rw [hN0.out]; rfl, Fr.refl _ _⟩
  clear c0 c1 g1 hN0
  obtain ⟨k, hk, rfl, rfl, hF⟩ := hrel
  have hbr := hb2.keep hF
  have c0 := hbr.box.cell
  by_cases hlt : k < R.c.length
  case pos =>
    have hns := hNs k
    have hnl := hNl k
    have hnk := hNK k
    have hql := hrl k
    have kI := kIn k _ hbr.ri (by omega)
    have kOw := fun W h => kO k W h hlt
    obtain ⟨cb, coff, hcb, hcl2, d0, d1⟩ := celAt hbr.ri.c.sl hlt
    have d0' : ∀ W, Fr [] wr W → W.cell? ⟨cb, coff + k * 2, none⟩ = some (.int .i64 (rk R k)) := fun W hW => (World.cell?_of_block (hW.block cb hcl2 (by simp))).trans d0
    subst hcb
    clear hNs hNl hNK hrl kIn kO kF hE3 hE4 hend d0 d1 hnew
    generalize rneedN zero R a L k = N at *
    generalize rins R.mn k a L = q at *
    generalize rk R k = kd at *
    go_wp2_with fail
    refine kI.mono ?_
    rintro e w3 ⟨rfl, hf3⟩
    have hb3 := hbr.keep hf3
    have c3 := hb3.box.cell
    have d3 := d0' w3 hf3
    have kOw3 := kOw w3 hb3.ri
    clear kI kOw c0 d0'
    have hfin : ∀ (bb : Bool), rneedK zero R a L k = bb → Hid (rneedN zero R a L (k + 1) = N + (if bb = true then 1 else 0)) := fun bb hb => hidIt (by rw [hns.out, hb])
    rw [hnk.out] at hfin
    clear hns hnk
    by_cases hq0 : 0 < q
    case neg =>
      have hqz : q = 0 := by omega
      subst hqz
      have hqm : ((0 : Int) == (R.mn : Int)) = false := by simp; omega
      have hN9 := hfin false (by simp)
      clear hfin
      cases zero with
      | false =>
        clear kOw3
        go_wp2
        go_roundw
        case rel => exact ⟨k + 1, by omega, by go_num, by rw [hN9.out]; rfl, hF.trans0 hf3⟩
        case measure => simp [intOf]; omega
      | true =>
        by_cases hk2 : kd = 2
        · subst hk2
          clear kOw3
          go_wp2
          go_roundw
          case rel => exact ⟨k + 1, by omega, by go_num, by rw [hN9.out]; rfl, hF.trans0 hf3⟩
          case measure => simp [intOf]; omega
        · have hk2' : (kd == 2) = false := by simpa using hk2
          clear kOw3
          go_wp2
          go_roundw
          case rel => exact ⟨k + 1, by omega, by go_num, by rw [hN9.out]; rfl, hF.trans0 hf3⟩
          case measure => simp [intOf]; omega
    have hq1 : (0 : Int) < (q : Int) := by omega
    cases zero with
    | false =>
      have hN1 := fun (bb : Bool) (hb : rown R k = bb) => hfin (!bb) (by rw [hb]; cases bb <;> simp [hq0])
      clear hfin
      go_wp2_with fail
      refine kOw3.mono ?_
      rintro e w4 ⟨rfl, hf4⟩
      have c4 := (hb3.keep hf4).box.cell
      cases ho : rown R k with
      | true =>
        have hN2 := hN1 true ho
        clear hN1 ho
        go_wp2
        go_roundw
        case rel => exact ⟨k + 1, by omega, by go_num, by rw [hN2.out]; rfl, (hF.trans0 hf3).trans0 hf4⟩
        case measure => simp [intOf]; omega
      | false =>
        have hN2 := hN1 false ho
        clear hN1 ho
        go_wp2
        go_roundw
        case rel => exact ⟨k + 1, by omega, by go_num, by rw [hN2.out]; go_num, (hF.trans0 hf3).trans0 hf4⟩
        case measure => simp [intOf]; omega
    | true =>
      by_cases hqm : q = R.mn
      · have hqm' : ((q : Int) == (R.mn : Int)) = true := by simp; omega
        have hN1 := hfin false (by simp [hqm])
        clear hfin kOw3
        go_wp2
        go_roundw
        case rel => exact ⟨k + 1, by omega, by go_num, by rw [hN1.out]; rfl, hF.trans0 hf3⟩
        case measure => simp [intOf]; omega
      · have hqm' : ((q : Int) == (R.mn : Int)) = false := by simp; omega
        by_cases hk2 : kd = 2
        · subst hk2
          have hN1 := hfin false (by simp)
          clear hfin kOw3
          go_wp2
          go_roundw
          case rel => exact ⟨k + 1, by omega, by go_num, by rw [hN1.out]; rfl, hF.trans0 hf3⟩
          case measure => simp [intOf]; omega
        · have hk2' : (kd == 2) = false := by simpa using hk2
          have hN1 := fun (bb : Bool) (hb : rown R k = bb) => hfin (!bb) (by rw [hb]; cases bb <;> simp [hq0, hqm, hk2])
          clear hfin
          go_wp2_with fail
          refine kOw3.mono ?_
          rintro e w4 ⟨rfl, hf4⟩
          have c4 := (hb3.keep hf4).box.cell
          cases ho : rown R k with
          | true =>
            have hN2 := hN1 true ho
            clear hN1 ho
            go_wp2
            go_roundw
            case rel => exact ⟨k + 1, by omega, by go_num, by rw [hN2.out]; rfl, (hF.trans0 hf3).trans0 hf4⟩
            case measure => simp [intOf]; omega
          | false =>
            have hN2 := hN1 false ho
            clear hN1 ho
            go_wp2
            go_roundw
            case rel => exact ⟨k + 1, by omega, by go_num, by rw [hN2.out]; go_num, (hF.trans0 hf3).trans0 hf4⟩
            case measure => simp [intOf]; omega
  have hke : k = R.c.length := by omega
  subst hke
  clear hlt hk hNs hNl hNK kIn kO
  go_wp2_with fail
  refine (kF _ hbr.ri).mono ?_
  rintro e w3 ⟨rfl, hf3⟩
  have hb3 := hbr.keep hf3
  have hz3 : w.heap.size + 2 ≤ w3.heap.size := by have := hF.size; have := hf3.size; omega
  have hu3 := hu2.fr0 (hF.trans0 hf3)
  clear kF c0 hbr hb2 hF hf3
  have c1 := hb3.res.cell
  have g1 := hb3.res.frozen
  have c0 := hb3.box.cell
  have hNlast := rneedN_le (zero := zero) (R := R) (a := a) (l := L) R.c.length
  by_cases hfr : rfree R < (rneedN zero R a L R.c.length : Int)
  case pos =>
    have he := hend _ _ _ _ _ hb3 120 (hE3.out hfr)
    replace he := hidIt he
    clear hE3 hE4 hend hnew hrl
    generalize rneedN zero R a L R.c.length = NN at *
    generalize rfree R = FF at *
    go_wp2
    refine bodyPost_ret (v := .tuple #[.agg #[.int .i64 (R.mn : Int), .int .i64 (R.rm : Int), .slice ac R.c.length cc, .slice as_ R.s.length cs, .slice ad R.d.length cd], .int .i64 120]) (by simp [results, Tryz.results31, go_sem, c1]) rfl ?_
    have := he.out
    simpa using this
  have hE5 := hidIt (hE4.out (by omega))
  have hend2 := hend
  clear hE3 hE4 hend
  have hke := fun k => rwN_keep (zero := zero) (R := R) (a := a) (l := L) (b := b) (bel := bel) k
  have hst : ∀ k, Hid (rwN zero R a L b bel (k + 1) = rwK zero (rwN zero R a L b bel k) a L b bel k) := fun k => hidIt rfl
  have hb0 : BoxW S' w w3 w.heap.size (.slice ac R.c.length cc) (.slice as_ R.s.length cs) (.slice ad R.d.length cd) (rwN zero R a L b bel 0) := hb3
  generalize hNN : rneedN zero R a L R.c.length = NN at *
  generalize rfree R = FF at *
  clear hNN hb3
  go_wp2
  go_loopw [18, 19] (fun i _ wr => ∃ (k : Nat) (vc' vd' : Value), k ≤ R.c.length ∧ i = .int .i64 (k : Int) ∧ BoxW S' w wr w.heap.size vc' (.slice as_ R.s.length cs) vd' (rwN zero R a L b bel k) ∧ Fr [w.heap.size] w3 wr) (fun i _ _ => R.c.length - (intOf i).toNat)
  case atStart => exact ⟨0, _, _, Nat.zero_le _, rfl, hb0, Fr.refl _ _⟩
  clear hb0 c0 c1 g1
  obtain ⟨k, vc', vd', hk, rfl, hbr, hFr⟩ := hrel
  obtain ⟨hk1, hk2, hk3, hk4, hk5⟩ := hke k
  obtain ⟨R', hR'⟩ : ∃ R', Hid (rwN zero R a L b bel k = R') := ⟨_, hidIt rfl⟩
  have hst' := hst k
  rw [hR'.out] at hk1 hk2 hk3 hk4 hk5 hbr hst'
  obtain ⟨ac', cc', as', cs', ad', cd', hv1, hv2, hv3, hle1, hle2, hle3⟩ := hbr.ri.open
  subst hv1
  subst hv3
  have c0 := hbr.box.cell
  have hzr : w.heap.size + 2 ≤ wr.heap.size := by have := hFr.size; omega
  replace hk1 := hidIt hk1
  replace hk2 := hidIt hk2
  replace hk3 := hidIt hk3
  clear hv2 hk4
  by_cases hlt : k < R.c.length
  case pos =>
    have hltR : k < R'.c.length := by rw [hk3.out]; exact hlt
    have hm8' : R'.mn ≤ 8 := by rw [hk1.out]; exact hm8
    have hmp' : 0 < R'.mn := by rw [hk1.out]; exact hmp
    have kI := rIns_calls k a L _ hbr.ri (by omega) (by omega) (by omega)
    have hql := rins_le R'.mn k a L
    have hwK : Hid (rwK zero R' a L b bel k = if rins R'.mn k a L = 0 ∨ (zero = true ∧ rins R'.mn k a L < R'.mn ∧ rk R' k = 2) then R' else if zero = true ∧ rins R'.mn k a L = R'.mn then rset R' k (2, 0) else rput R' k (rlaid R'.mn (rclu R' k bel) k a b)) := hidIt rfl
    rw [hwK.out] at hst'
    obtain ⟨cb, coff, hcb, hcl2, d0, d1⟩ := celAt hbr.ri.c.sl hltR
    have d0' : ∀ W, Fr [] wr W → W.cell? ⟨cb, coff + k * 2, none⟩ = some (.int .i64 (rk R' k)) := fun W hW => (World.cell?_of_block (hW.block cb hcl2 (by simp))).trans d0
    subst hcb
    clear hrl d0 d1 hke hst hwK hend2 hE5 hR'
    unfold riV at kI
    generalize hq : rins R'.mn k a L = q at *
    generalize rk R' k = kd at *
    clear hq
    go_wp2_with fail
    refine kI.mono ?_
    rintro e w4 ⟨rfl, hf4⟩
    have hb4 := hbr.keep hf4
    have c4 := hb4.box.cell
    have d4 := d0' w4 hf4
    have hF4 := hFr.trans0 hf4
    have hz4 : w.heap.size + 2 ≤ w4.heap.size := by have := hf4.size; omega
    have hu4 := hu3.frS hF4 (fun y hm hs => by have hs : y < w.heap.size := hs; have := List.mem_singleton.1 hm; omega)
    clear kI c0 d0' hbr
    by_cases hq0 : q = 0
    case pos =>
      rw [if_pos (.inl hq0)] at hst'
      subst hq0
      go_wp2
      go_roundw
      case rel => exact ⟨k + 1, _, _, by omega, by go_num, by rw [hst'.out]; exact hb4, hF4⟩
      case measure => simp [intOf]; omega
    have hq1 : ((q : Int) == 0) = false := by simp; omega
    cases zero with
    | false =>
      rw [if_neg (by simp; omega), if_neg (by simp)] at hst'
      have hd4 := (Fr.refl [] w4).drew
      have hb4d := hb4.keep hd4
      have hF4d := hF4.trans0 hd4
      have B4d := hb4d.box
      have kC := rClu_calls k (.slice ua bel.length uc) bel _ hb4d.ri hltR (hu4.fr0 hd4).sl hul
      have hxl := rclu_len hb4.ri.ok hltR bel
      generalize rclu R' k bel = X at *
      have kL := fun W h => rLaid_calls (S := S') (vc := .slice (some ⟨cb, coff, none⟩) R'.c.length cc') (vs := .slice as_ R.s.length cs) (vd := .slice ad' R'.d.length cd') (R := R') X k a b W h hxl (by omega) (by omega) hb32
      have hyl := rlaid_len hxl k a b
      generalize rlaid R'.mn X k a b = Y at *
      have kP := fun W h hS => rPut_calls (S := S') (vc := .slice (some ⟨cb, coff, none⟩) R'.c.length cc') (vs := .slice as_ R.s.length cs) (vd := .slice ad' R'.d.length cd') (R := R') k Y W h hltR hS hyl (by omega)
      have hz4d : w.heap.size + 2 ≤ w4.drew.heap.size := hz4
      unfold riV at kC kL kP
      clear hb4 hu4 hd4 hF4
      go_wp2_with fail
      refine wp_region_Z 12 (Fr [] w4.drew) [(true, 0), (true, 1), (true, 2), (true, 3), (true, 4), (true, 5), (true, 7), (true, 8), (true, 9), (false, 6), (false, 10), (false, 11)] (by as_aux_lemma => kernel_rfl) (by as_aux_lemma => kernel_rfl) (Fr.refl _ _) ?_
      simp only [inOrder, List.map_cons, List.map_nil, List.getD_cons_zero, List.getD_cons_succ]
      refine wpG_val (.agg #[.int .i64 (R'.mn : Int), .int .i64 (R'.rm : Int), .slice (some ⟨cb, coff, none⟩) R'.c.length cc', .slice as_ R.s.length cs, .slice ad' R'.d.length cd']) (by first | rfl | go_simp) (fun X hX => by have cc := (B4d.fr0 hX).cell; go_simp) ?_
      simp only [Act.put, List.setIfInBounds_toArray, List.set_cons_zero, List.set_cons_succ]
      iterate 1
        refine wpG_pure fun K hK => ?_
        go_simp
        refine hK _ ?_
        clear hK K
      refine wpG_val (.agg #[.int .i64 (R'.mn : Int), .int .i64 (R'.rm : Int), .slice (some ⟨cb, coff, none⟩) R'.c.length cc', .slice as_ R.s.length cs, .slice ad' R'.d.length cd']) (by first | rfl | go_simp) (fun X hX => by have cc := (B4d.fr0 hX).cell; go_simp) ?_
      simp only [Act.put, List.setIfInBounds_toArray, List.set_cons_zero, List.set_cons_succ]
      refine wpG_val (.agg #[.int .i64 (R'.mn : Int), .int .i64 (R'.rm : Int), .slice (some ⟨cb, coff, none⟩) R'.c.length cc', .slice as_ R.s.length cs, .slice ad' R'.d.length cd']) (by first | rfl | go_simp) (fun X hX => by have cc := (B4d.fr0 hX).cell; go_simp) ?_
      simp only [Act.put, List.setIfInBounds_toArray, List.set_cons_zero, List.set_cons_succ]
      iterate 5
        refine wpG_pure fun K hK => ?_
        go_simp
        refine hK _ ?_
        clear hK K
      refine wpG_one fun K hK => ?_
      go_simp
      refine (kC).mono ?_
      rintro e w5 ⟨rfl, hf5⟩
      refine hK _ _ (hf5) ?_
      clear hK K
      have hb5 := hb4d.keep hf5
      refine wpG_one fun K hK => ?_
      go_simp
      refine (kL _ hb5.ri).mono ?_
      rintro e w6 ⟨rfl, hf6⟩
      refine hK _ _ (hf5.trans0 hf6) ?_
      clear hK K
      have hb6 := hb5.keep hf6
      refine wpG_one fun K hK => ?_
      go_simp
      refine (kP _ hb6.ri (hnew _ (by have := hf5.size; have := hf6.size; omega))).mono ?_
      rintro e w7 ⟨vc7, vd7, rfl, h7, hf7⟩
      refine hK _ _ ((hf5.trans0 hf6).trans0 hf7) ?_
      clear hK K
      have hb7 := hb6.keep hf7
      have hb8 := hb7.put (Nat.le_refl _) hSn h7
      generalize rput R' k Y = R5 at *
      obtain ⟨ac5, cc5, as5, cs5, ad5, cd5, rfl, hv6, rfl, _⟩ := h7.open
      clear hv6
      have c7 := hb7.box.cell
      have g7 := hb7.box.frozen
      have hF8 : Fr [w.heap.size] w3 _ := ((((((((hF4d.trans0 hf5).trans0 hf6).trans0 hf7).setCell (p := ⟨w.heap.size, 0, none⟩) (.inl (by simp)) (.int .i64 (R5.mn : Int))).setCell (p := ⟨w.heap.size, 1, none⟩) (.inl (by simp)) (.int .i64 (R5.rm : Int))).setCell (p := ⟨w.heap.size, 2, none⟩) (.inl (by simp)) (.slice ac5 R5.c.length cc5)).setCell (p := ⟨w.heap.size, 3, none⟩) (.inl (by simp)) (.slice as_ R.s.length cs)).setCell (p := ⟨w.heap.size, 4, none⟩) (.inl (by simp)) (.slice ad5 R5.d.length cd5))
      clear kC kL kP h7 hb7 hb6 hb5 hb4d c4 d4 B4d
      unfold riV
      refine wpG_last fun K hK => ?_
      go_simp
      refine hK _ _ ?_
      clear hK K
      go_wp2
      go_roundw
      case rel => exact ⟨k + 1, _, _, by omega, by go_num, by rw [hst'.out]; exact hb8, hF8⟩
      case measure => simp [intOf]; omega
    | true =>
      by_cases hqm : q = R'.mn
      · rw [if_neg (by simp; omega), if_pos ⟨rfl, hqm⟩] at hst'
        have hqm' : ((q : Int) == (R'.mn : Int)) = true := by simp; omega
        have hqn : ¬ (q : Int) < (R'.mn : Int) := by omega
        have kS := rSet_calls k (2, 0) _ hb4.ri hltR (hnew _ hz4) (hb4.ri.ok.setc k (x := (2, 0)) (fun e => absurd e (by simp)))
        unfold riV at kS
        go_wp2_with fail
        refine kS.mono ?_
        rintro e w5 ⟨vc5, rfl, h5, hf5, _⟩
        have hb5 := hb4.keep hf5
        have hb6 := hb5.put (Nat.le_refl _) hSn h5
        generalize rset R' k (2, 0) = R5 at *
        obtain ⟨ac5, cc5, as5, cs5, ad5, cd5, rfl, hv6, hv5, _⟩ := h5.open
        have c5 := hb5.box.cell
        have g5 := hb5.box.frozen
        have hF6 : Fr [w.heap.size] w3 _ := (((((hF4.trans0 hf5).setCell (p := ⟨w.heap.size, 0, none⟩) (.inl (by simp)) (.int .i64 (R5.mn : Int))).setCell (p := ⟨w.heap.size, 1, none⟩) (.inl (by simp)) (.int .i64 (R5.rm : Int))).setCell (p := ⟨w.heap.size, 2, none⟩) (.inl (by simp)) (.slice ac5 R5.c.length cc5)).setCell (p := ⟨w.heap.size, 3, none⟩) (.inl (by simp)) (.slice as_ R.s.length cs)).setCell (p := ⟨w.heap.size, 4, none⟩) (.inl (by simp)) (.slice ad' R'.d.length cd')
        clear kS h5 hb5 hb4 c4 d4 hv5 hv6
        unfold riV
        go_wp2
        go_roundw
        case rel => exact ⟨k + 1, _, _, by omega, by go_num, by rw [hst'.out]; exact hb6, hF6⟩
        case measure => simp [intOf]; omega
      · have hqm' : ((q : Int) == (R'.mn : Int)) = false := by simp; omega
        have hqn : (q : Int) < (R'.mn : Int) := by omega
        by_cases hk2 : kd = 2
        · rw [if_pos (.inr ⟨rfl, by omega, hk2⟩)] at hst'
          subst hk2
          go_wp2
          go_roundw
          case rel => exact ⟨k + 1, _, _, by omega, by go_num, by rw [hst'.out]; exact hb4, hF4⟩
          case measure => simp [intOf]; omega
        · have hk2' : (kd == 2) = false := by simpa using hk2
          rw [if_neg (by rintro (e | e); exact hq0 e; exact hk2 e.2.2), if_neg (fun e => hqm e.2)] at hst'
          have hd4 := (Fr.refl [] w4).drew
          have hb4d := hb4.keep hd4
          have hF4d := hF4.trans0 hd4
          have B4d := hb4d.box
          have kC := rClu_calls k (.slice ua bel.length uc) bel _ hb4d.ri hltR (hu4.fr0 hd4).sl hul
          have hxl := rclu_len hb4.ri.ok hltR bel
          generalize rclu R' k bel = X at *
          have kL := fun W h => rLaid_calls (S := S') (vc := .slice (some ⟨cb, coff, none⟩) R'.c.length cc') (vs := .slice as_ R.s.length cs) (vd := .slice ad' R'.d.length cd') (R := R') X k a b W h hxl (by omega) (by omega) hb32
          have hyl := rlaid_len hxl k a b
          generalize rlaid R'.mn X k a b = Y at *
          have kP := fun W h hS => rPut_calls (S := S') (vc := .slice (some ⟨cb, coff, none⟩) R'.c.length cc') (vs := .slice as_ R.s.length cs) (vd := .slice ad' R'.d.length cd') (R := R') k Y W h hltR hS hyl (by omega)
          have hz4d : w.heap.size + 2 ≤ w4.drew.heap.size := hz4
          unfold riV at kC kL kP
          clear hb4 hu4 hd4 hF4
          go_wp2_with fail
          refine wp_region_Z 12 (Fr [] w4.drew) [(true, 0), (true, 1), (true, 2), (true, 3), (true, 4), (true, 5), (true, 7), (true, 8), (true, 9), (false, 6), (false, 10), (false, 11)] (by as_aux_lemma => kernel_rfl) (by as_aux_lemma => kernel_rfl) (Fr.refl _ _) ?_
          simp only [inOrder, List.map_cons, List.map_nil, List.getD_cons_zero, List.getD_cons_succ]
          refine wpG_val (.agg #[.int .i64 (R'.mn : Int), .int .i64 (R'.rm : Int), .slice (some ⟨cb, coff, none⟩) R'.c.length cc', .slice as_ R.s.length cs, .slice ad' R'.d.length cd']) (by first | rfl | go_simp) (fun X hX => by have cc := (B4d.fr0 hX).cell; go_simp) ?_
          simp only [Act.put, List.setIfInBounds_toArray, List.set_cons_zero, List.set_cons_succ]
          iterate 1
            refine wpG_pure fun K hK => ?_
            go_simp
            refine hK _ ?_
            clear hK K
          refine wpG_val (.agg #[.int .i64 (R'.mn : Int), .int .i64 (R'.rm : Int), .slice (some ⟨cb, coff, none⟩) R'.c.length cc', .slice as_ R.s.length cs, .slice ad' R'.d.length cd']) (by first | rfl | go_simp) (fun X hX => by have cc := (B4d.fr0 hX).cell; go_simp) ?_
          simp only [Act.put, List.setIfInBounds_toArray, List.set_cons_zero, List.set_cons_succ]
          refine wpG_val (.agg #[.int .i64 (R'.mn : Int), .int .i64 (R'.rm : Int), .slice (some ⟨cb, coff, none⟩) R'.c.length cc', .slice as_ R.s.length cs, .slice ad' R'.d.length cd']) (by first | rfl | go_simp) (fun X hX => by have cc := (B4d.fr0 hX).cell; go_simp) ?_
          simp only [Act.put, List.setIfInBounds_toArray, List.set_cons_zero, List.set_cons_succ]
          iterate 5
            refine wpG_pure fun K hK => ?_
            go_simp
            refine hK _ ?_
            clear hK K
          refine wpG_one fun K hK => ?_
          go_simp
          refine (kC).mono ?_
          rintro e w5 ⟨rfl, hf5⟩
          refine hK _ _ (hf5) ?_
          clear hK K
          have hb5 := hb4d.keep hf5
          refine wpG_one fun K hK => ?_
          go_simp
          refine (kL _ hb5.ri).mono ?_
          rintro e w6 ⟨rfl, hf6⟩
          refine hK _ _ (hf5.trans0 hf6) ?_
          clear hK K
          have hb6 := hb5.keep hf6
          refine wpG_one fun K hK => ?_
          go_simp
          refine (kP _ hb6.ri (hnew _ (by have := hf5.size; have := hf6.size; omega))).mono ?_
          rintro e w7 ⟨vc7, vd7, rfl, h7, hf7⟩
          refine hK _ _ ((hf5.trans0 hf6).trans0 hf7) ?_
          clear hK K
          have hb7 := hb6.keep hf7
          have hb8 := hb7.put (Nat.le_refl _) hSn h7
          generalize rput R' k Y = R5 at *
          obtain ⟨ac5, cc5, as5, cs5, ad5, cd5, rfl, hv6, rfl, _⟩ := h7.open
          clear hv6
          have c7 := hb7.box.cell
          have g7 := hb7.box.frozen
          have hF8 : Fr [w.heap.size] w3 _ := ((((((((hF4d.trans0 hf5).trans0 hf6).trans0 hf7).setCell (p := ⟨w.heap.size, 0, none⟩) (.inl (by simp)) (.int .i64 (R5.mn : Int))).setCell (p := ⟨w.heap.size, 1, none⟩) (.inl (by simp)) (.int .i64 (R5.rm : Int))).setCell (p := ⟨w.heap.size, 2, none⟩) (.inl (by simp)) (.slice ac5 R5.c.length cc5)).setCell (p := ⟨w.heap.size, 3, none⟩) (.inl (by simp)) (.slice as_ R.s.length cs)).setCell (p := ⟨w.heap.size, 4, none⟩) (.inl (by simp)) (.slice ad5 R5.d.length cd5))
          clear kC kL kP h7 hb7 hb6 hb5 hb4d c4 d4 B4d
          unfold riV
          refine wpG_last fun K hK => ?_
          go_simp
          refine hK _ _ ?_
          clear hK K
          go_wp2
          go_roundw
          case rel => exact ⟨k + 1, _, _, by omega, by go_num, by rw [hst'.out]; exact hb8, hF8⟩
          case measure => simp [intOf]; omega
  have hke : k = R.c.length := by omega
  subst hke
  rw [hR'.out] at hE5
  have he := hidIt (hend2 _ _ _ _ _ hbr 0 hE5.out)
  have c1 := hbr.res.cell
  have g1 := hbr.res.frozen
  have hlt' : ¬ ((R.c.length : Nat) : Int) < (R'.c.length : Int) := by rw [hk3.out]; omega
  clear hlt hke hst hst' hend2 hE5 hR' hk3 hrl
  go_wp2
  refine bodyPost_ret (v := .tuple #[.agg #[.int .i64 (R'.mn : Int), .int .i64 (R'.rm : Int), .slice ac' R'.c.length cc', .slice as_ R.s.length cs, .slice ad' R'.d.length cd'], .int .i64 0]) (by simp [results, Tryz.results31, go_sem, c1]) rfl ?_
  have := he.out
  simpa using this
end
end Go.Proofs.YtilhbjjjmdnjmaaGreat
