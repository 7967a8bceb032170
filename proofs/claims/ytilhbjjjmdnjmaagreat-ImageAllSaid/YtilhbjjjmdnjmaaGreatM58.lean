/-
  The document's image: laid, Read.
-/
import Derived.Test.YtilhbjjjmdnjmaaGreatM57
import Derived.Test.YtilhbjjjmdnjmaaGreatM13
namespace Go.Proofs.YtilhbjjjmdnjmaaGreat
open Go.RowKit Go.Maps
attribute [local go_sem] cells_str store_str len_str

theorem add_strI (a b : List UInt8) (X : World) (h : a.length + b.length ≤ 9223372036854775807) : (binOp .add 9 (strL a) (strL b)).run Tryz.prog X = .ok (strL (a ++ b)) X := by
  have e : ((⟨a.toArray⟩ : ByteArray) ++ ⟨b.toArray⟩) = ⟨(a ++ b).toArray⟩ := by
    apply ByteArray.ext
    simp
  unfold strL
  have h' : ¬ 9223372036854775807 < a.length + b.length := by omega
  go_simp
def laidK (mn : Nat) (x : By) (c a : Nat) (b : By) (k : Nat) : By := if a ≤ c * mn + k ∧ 16 * (c * mn + k - a) + 16 ≤ b.length then (b.drop (16 * (c * mn + k - a))).take 16 else (x.drop (16 * k)).take 16
def laidN (mn : Nat) (x : By) (c a : Nat) (b : By) (k : Nat) : By := (List.range k).flatMap (laidK mn x c a b)
theorem laidN_succ (mn : Nat) (x : By) (c a : Nat) (b : By) (k : Nat) : laidN mn x c a b (k + 1) = laidN mn x c a b k ++ laidK mn x c a b k := by
  unfold laidN
  rw [List.range_succ, List.flatMap_append]
  simp
theorem laidK_len (mn : Nat) (x : By) (c a : Nat) (b : By) (k : Nat) : (laidK mn x c a b k).length ≤ 16 := by
  unfold laidK
  split <;> (rw [List.length_take]; omega)
theorem laidN_len (mn : Nat) (x : By) (c a : Nat) (b : By) : ∀ k, (laidN mn x c a b k).length ≤ 16 * k
  | 0 => by simp [laidN]
  | k + 1 => by
    have := laidN_len mn x c a b k
    have := laidK_len mn x c a b k
    rw [laidN_succ, List.length_append]
    omega
section
variable {S : Nat → Prop} {vc vs vd : Value} {R : RIm}
set_option maxRecDepth 100000 in
set_option maxHeartbeats 3200000 in
theorem rLaid_calls (x : By) (c a : Nat) (b : By) (w : World) (h : RiW S w vc vs vd R) (hx : x.length = 16 * R.mn) (hc : c ≤ 4096) (ha : a ≤ 65536) (hb : b.length ≤ 1048576) :
    Calls Tryz.prog 73 #[riV R vc vs vd, strL x, .int .i64 (c : Int), .int .i64 (a : Int), strL b] w fun e w' => e = .returned (strL (rlaid R.mn x c a b)) ∧ Fr [] w w' := by
  obtain ⟨ac, cc, as_, cs, ad, cd, rfl, rfl, rfl, hcc, hcs, hcd⟩ := h.open
  have hm8 := h.ok.m8
  have hX : c * R.mn ≤ 4096 * 8 := Nat.mul_le_mul hc hm8
  have hm : (c : Int) * (R.mn : Int) = ((c * R.mn : Nat) : Int) := by push_cast; rfl
  have hR : Hid (rlaid R.mn x c a b = laidN R.mn x c a b R.mn) := hidIt rfl
  have hKq : ∀ k, Hid (laidK R.mn x c a b k = if a ≤ c * R.mn + k ∧ 16 * (c * R.mn + k - a) + 16 ≤ b.length then (b.drop (16 * (c * R.mn + k - a))).take 16 else (x.drop (16 * k)).take 16) := fun k => hidIt rfl
  have hN := fun k => hidIt (laidN_succ R.mn x c a b k)
  have hNl := fun k => laidN_len R.mn x c a b k
  have hKl := fun k => laidK_len R.mn x c a b k
  have B0 := Blk.new w [.int .i64 (R.mn : Int), .int .i64 (R.rm : Int), .slice ac R.c.length cc, .slice as_ R.s.length cs, .slice ad R.d.length cd] 36
  have hfa := (Fr.refl [] w).alloc (.cells #[.int .i64 (R.mn : Int), .int .i64 (R.rm : Int), .slice ac R.c.length cc, .slice as_ R.s.length cs, .slice ad R.d.length cd] 36)
  have hz0 : laidN R.mn x c a b 0 = [] := rfl
  unfold riV
  clear h
  generalize rlaid R.mn x c a b = res at *
  generalize laidN R.mn x c a b = LN at *
  generalize laidK R.mn x c a b = LK at *
  generalize c * R.mn = X at *
  generalize R.mn = mn at *
  have hpart : ∀ (s : Nat) (l : By), 16 * s + 16 ≤ l.length → ∀ W, (Instr.slice 9 (strL l) (some (.int .i64 ((16 * s : Nat) : Int))) (some (.int .i64 ((16 * s + 16 : Nat) : Int))) none).run Tryz.prog W = .ok (strL ((l.drop (16 * s)).take 16)) W := fun s l hl W => by
    have := part_str (l := l) (a := 16 * s) (b := 16 * s + 16) (by omega) hl W
    rw [Nat.add_sub_cancel_left] at this
    exact this
  generalize hw1 : w.alloc (.cells #[.int .i64 (mn : Int), .int .i64 (R.rm : Int), .slice ac R.c.length cc, .slice as_ R.s.length cs, .slice ad R.d.length cd] 36) = w1 at *
  have c0 := B0.cell
  have hst : Value.string ⟨#[]⟩ = strL (LN 0) := by rw [hz0]; rfl
  replace hst := hidIt hst
  go_enter Tryz.func73, Tryz.ntmps73
  go_wp2
  try rw [hw1]
  clear hw1 c0
  go_loopw [11, 12, 13] (fun o i _ wr => ∃ k : Nat, k ≤ mn ∧ i = .int .i64 (k : Int) ∧ o = strL (LN k) ∧ Fr [] w1 wr) (fun _ i _ _ => mn - (intOf i).toNat)
  case atStart => exact ⟨0, Nat.zero_le _, rfl, hst.out, Fr.refl _ _⟩
  clear hst
  obtain ⟨k, hk, rfl, rfl, hF⟩ := hrel
  have c0 := (B0.fr0 hF).cell
  by_cases hlt : k < mn
  case pos =>
    have hn := hN k
    have hq := hKq k
    have hl1 := hNl k
    have hl2 := hKl k
    clear hN hKq hNl hKl hR hz0
    generalize LK k = K at *
    generalize hLn : LN k = L at *
    have hadd := fun W => add_strI L K W (by omega)
    by_cases h1 : a ≤ X + k
    · obtain ⟨s, hs⟩ : ∃ s, Hid (s = X + k - a) := ⟨_, hidIt rfl⟩
      rw [← hs.out] at hq
      have hsi : (X : Int) + (k : Int) - (a : Int) = (s : Int) := by have := hs.out; omega
      have hs0 : (0 : Int) ≤ (s : Int) := by omega
      have hs9 : s ≤ 40000 := by have := hs.out; omega
      have h16 : (16 : Int) * (s : Int) = ((16 * s : Nat) : Int) := by omega
      have h17 : ((16 * s : Nat) : Int) + 16 = ((16 * s + 16 : Nat) : Int) := by omega
      by_cases h2 : 16 * s + 16 ≤ b.length
      · rw [if_pos ⟨h1, h2⟩] at hq
        have hp := hpart s b h2
        rw [← hq.out] at hp
        have h2' : ((16 * s + 16 : Nat) : Int) ≤ (b.length : Int) := by omega
        obtain ⟨LO, hLO⟩ : ∃ LO, Hid (16 * s = LO) := ⟨_, hidIt rfl⟩
        rw [hLO.out] at hp h16 h17 h2'
        obtain ⟨HI, hHI⟩ : ∃ HI, Hid (LO + 16 = HI) := ⟨_, hidIt rfl⟩
        rw [hHI.out] at hp h17 h2'
        have hLO' := hLO.out
        have hHI' := hHI.out
        clear hpart hq h2 h1
        go_wp2
        go_roundw
        case rel => exact ⟨k + 1, by omega, by go_num, by rw [hn.out], hF⟩
        case measure => simp [intOf]; omega
      · have h2' : ¬ ((16 * s + 16 : Nat) : Int) ≤ (b.length : Int) := by omega
        rw [← h17, ← h16] at h2'
        have h2n : ¬ 16 * (s : Int) + 16 ≤ (b.length : Int) := by omega
        clear h16 h17 h2'
        have hq' : Hid (K = (x.drop (16 * k)).take 16) := hidIt (by rw [hq.out, if_neg (fun e => h2 e.2)])
        have hp := hpart k x (by omega)
        rw [← hq'.out] at hp
        have h16 : (16 : Int) * (k : Int) = ((16 * k : Nat) : Int) := by omega
        have h17 : ((16 * k : Nat) : Int) + 16 = ((16 * k + 16 : Nat) : Int) := by omega
        obtain ⟨LO, hLO⟩ : ∃ LO, Hid (16 * k = LO) := ⟨_, hidIt rfl⟩
        rw [hLO.out] at hp h16 h17
        obtain ⟨HI, hHI⟩ : ∃ HI, Hid (LO + 16 = HI) := ⟨_, hidIt rfl⟩
        rw [hHI.out] at hp h17
        have hLO' := hLO.out
        have hHI' := hHI.out
        clear hpart hq
        go_wp2
        go_roundw
        case rel => exact ⟨k + 1, by omega, by go_num, by rw [hn.out], hF⟩
        case measure => simp [intOf]; omega
    · have h1n : (X : Int) + (k : Int) - (a : Int) < 0 := by omega
      obtain ⟨sn, hsn⟩ : ∃ sn, sn = (X : Int) + (k : Int) - (a : Int) := ⟨_, rfl⟩
      rw [← hsn] at h1n
      have hsi := hsn.symm
      have hlow : -70000 ≤ sn := by omega
      clear hsn
      have hq' : Hid (K = (x.drop (16 * k)).take 16) := hidIt (by rw [hq.out, if_neg (fun e => h1 e.1)])
      have hp := hpart k x (by omega)
      rw [← hq'.out] at hp
      have h16 : (16 : Int) * (k : Int) = ((16 * k : Nat) : Int) := by omega
      have h17 : ((16 * k : Nat) : Int) + 16 = ((16 * k + 16 : Nat) : Int) := by omega
      obtain ⟨LO, hLO⟩ : ∃ LO, Hid (16 * k = LO) := ⟨_, hidIt rfl⟩
      rw [hLO.out] at hp h16 h17
      obtain ⟨HI, hHI⟩ : ∃ HI, Hid (LO + 16 = HI) := ⟨_, hidIt rfl⟩
      rw [hHI.out] at hp h17
      have hLO' := hLO.out
      have hHI' := hHI.out
      clear hpart hq
      go_wp2
      go_roundw
      case rel => exact ⟨k + 1, by omega, by go_num, by rw [hn.out], hF⟩
      case measure => simp [intOf]; omega
  have hke : k = mn := by omega
  subst hke
  rw [← hR.out]
  clear hlt hN hKq hNl hKl hR hz0 hpart
  go_wp2
  go_ret
  exact ⟨rfl, hfa.trans0 hF⟩
end
end Go.Proofs.YtilhbjjjmdnjmaaGreat

namespace Go.Proofs.YtilhbjjjmdnjmaaGreat
open Go.RowKit Go.Maps
attribute [local go_sem] cells_str store_str len_str

theorem rclu_len {R : RIm} (h : OkR R) {c : Nat} (hc : c < R.c.length) (bel : List By) : (rclu R c bel).length = 16 * R.mn := by
  unfold rclu
  split
  · rename_i h1
    obtain ⟨i, hi, hil⟩ := h.at hc h1
    rw [hi, Int.toNat_natCast, List.getD_eq_getElem?_getD, List.getElem?_eq_getElem hil]
    exact h.dz _ (List.getElem_mem _)
  · split
    · rename_i h2; exact h2.2
    · simp [zBy]
theorem rinside_ok {R : RIm} {x l : Int} (h : rinside R x l = 0) : ∃ a n : Nat, x = a ∧ l = n ∧ a + n ≤ R.mn * R.c.length := by
  unfold rinside at h
  split at h
  · simp at h
  · split at h
    · simp at h
    · rename_i h1 h2
      exact ⟨x.toNat, l.toNat, by omega, by omega, by omega⟩
def readK (R : RIm) (a i : Nat) : By := ((rclu R ((a + i) / R.mn) []).drop (16 * ((a + i) % R.mn))).take 16
def readN (R : RIm) (a k : Nat) : By := (List.range k).flatMap (readK R a)
theorem readN_succ (R : RIm) (a k : Nat) : readN R a (k + 1) = readN R a k ++ readK R a k := by
  unfold readN
  rw [List.range_succ, List.flatMap_append]
  simp
theorem readK_len (R : RIm) (a k : Nat) : (readK R a k).length ≤ 16 := by
  unfold readK
  rw [List.length_take]; omega
theorem readN_len (R : RIm) (a : Nat) : ∀ k, (readN R a k).length ≤ 16 * k
  | 0 => by simp [readN]
  | k + 1 => by
    have := readN_len R a k
    have := readK_len R a k
    rw [readN_succ, List.length_append]
    omega
section
variable {S : Nat → Prop} {vc vs vd : Value} {R : RIm}
def rreadPost (w : World) (R : RIm) (x l : Int) (e : Ending) (w' : World) : Prop := e = .returned (.tuple #[strL (if rinside R x l = 0 then rread R x.toNat l.toNat else []), .int .i64 (rinside R x l)]) ∧ Fr [] w w'
set_option maxRecDepth 100000 in
set_option maxHeartbeats 3200000 in
theorem rRead_calls (x l : Int) (w : World) (h : RiW S w vc vs vd R) : Calls Tryz.prog 30 #[riV R vc vs vd, .int .i64 x, .int .i64 l] w (rreadPost w R x l) := by
  have kI := fun W h => rInside_calls (S := S) (vc := vc) (vs := vs) (vd := vd) (R := R) x l W h
  have kC := fun c W h hc => rClu_calls (S := S) (vc := vc) (vs := vs) (vd := vd) (R := R) c (.slice none 0 0) [] W h hc (Sl.nil W) (fun s hs => by cases hs)
  obtain ⟨ac, cc, as_, cs, ad, cd, rfl, rfl, rfl, hcc, hcs, hcd⟩ := h.open
  have hm8 := h.ok.m8
  have hmp := h.ok.mp
  have hcl := h.ok.cl
  have hcu := fun c (hc : c < R.c.length) => rclu_len h.ok hc []
  have B0 := Blk.new w [.int .i64 (R.mn : Int), .int .i64 (R.rm : Int), .slice ac R.c.length cc, .slice as_ R.s.length cs, .slice ad R.d.length cd] 36
  have hfa := (Fr.refl [] w).alloc (.cells #[.int .i64 (R.mn : Int), .int .i64 (R.rm : Int), .slice ac R.c.length cc, .slice as_ R.s.length cs, .slice ad R.d.length cd] 36)
  have h1 := h.fr0 hfa
  generalize hw1 : w.alloc (.cells #[.int .i64 (R.mn : Int), .int .i64 (R.rm : Int), .slice ac R.c.length cc, .slice as_ R.s.length cs, .slice ad R.d.length cd] 36) = w1 at *
  have c0 := B0.cell
  unfold riV at *
  have hno : ¬ rinside R x l = 0 → ∀ W, Fr [] w W → rreadPost w R x l (.returned (.tuple #[strL [], .int .i64 (rinside R x l)])) W := fun hn W hW => by
    unfold rreadPost
    rw [if_neg hn]
    exact ⟨rfl, hW⟩
  have hyes : rinside R x l = 0 → ∀ W, Fr [] w W → rreadPost w R x l (.returned (.tuple #[strL (rread R x.toNat l.toNat), .int .i64 0])) W := fun hn W hW => by
    unfold rreadPost
    rw [if_pos hn, hn]
    exact ⟨rfl, hW⟩
  clear h
  go_enter Tryz.func30, Tryz.ntmps30
  go_wp2_with fail
  try rw [hw1]
  refine (kI _ h1).mono ?_
  rintro e w2 ⟨rfl, hf2⟩
  have h2 := h1.fr0 hf2
  have B02 := B0.fr0 hf2
  have hF2 := hfa.trans0 hf2
  clear c0 hw1 h1 B0 kI hfa hf2
  have hst : Hid (Value.string ⟨#[]⟩ = strL []) := hidIt rfl
  by_cases hi : rinside R x l = 0
  case neg =>
    have hfin := hidIt (hno hi)
    clear hno hyes
    have hi' : (rinside R x l == 0) = false := by simpa using hi
    generalize rinside R x l = ii at *
    go_wp2
    go_loopw [9, 10, 11] (fun o _ _ wr => o = strL [] ∧ wr = w2) (fun _ _ _ _ => 0)
    case atStart => exact ⟨hst.out, rfl⟩
    obtain ⟨rfl, rfl⟩ := hrel
    go_wp2
    go_ret2
    exact hfin.out _ hF2
  have hfin := hyes hi
  rw [hi]
  obtain ⟨a, n, rfl, rfl, hal⟩ := rinside_ok hi
  rw [Int.toNat_natCast, Int.toNat_natCast] at hfin
  clear hno hyes
  have hR : rread R a n = readN R a n := rfl
  rw [hR] at hfin
  replace hfin := hidIt hfin
  clear hR
  have hA : R.mn * R.c.length ≤ 8 * 256 := Nat.mul_le_mul hm8 hcl
  have hN := fun k => hidIt (readN_succ R a k)
  have hNl := fun k => readN_len R a k
  have hKl := fun k => readK_len R a k
  have hK : ∀ k, Hid (readK R a k = ((rclu R ((a + k) / R.mn) []).drop (16 * ((a + k) % R.mn))).take 16) := fun k => hidIt rfl
  have hz0 : Hid (readN R a 0 = []) := hidIt rfl
  have hpart : ∀ (s : Nat) (l : By), 16 * s + 16 ≤ l.length → ∀ W, (Instr.slice 9 (strL l) (some (.int .i64 ((16 * s : Nat) : Int))) (some (.int .i64 ((16 * s + 16 : Nat) : Int))) none).run Tryz.prog W = .ok (strL ((l.drop (16 * s)).take 16)) W := fun s l hl W => by
    have := part_str (l := l) (a := 16 * s) (b := 16 * s + 16) (by omega) hl W
    rw [Nat.add_sub_cancel_left] at this
    exact this
  have hdiv : ∀ k, k < n → Hid ((a + k) / R.mn < R.c.length ∧ (a + k) % R.mn < R.mn) := fun k hk => hidIt ⟨Nat.div_lt_of_lt_mul (by omega), Nat.mod_lt _ hmp⟩
  generalize R.mn * R.c.length = A at *
  clear hi
  go_wp2
  go_loopw [9, 10, 11] (fun o s _ wr => ∃ k : Nat, k ≤ n ∧ s = .int .i64 ((a + k : Nat) : Int) ∧ o = strL (readN R a k) ∧ Fr [] w2 wr) (fun _ s _ _ => a + n - (intOf s).toNat)
  case atStart => exact ⟨0, Nat.zero_le _, rfl, by rw [hz0.out]; exact hst.out, Fr.refl _ _⟩
  clear hst hz0
  obtain ⟨k, hk, rfl, rfl, hF⟩ := hrel
  have c0 := (B02.fr0 hF).cell
  by_cases hlt : k < n
  case pos =>
    obtain ⟨hq1, hq2⟩ := (hdiv k hlt).out
    have hn := hN k
    have hkk := hK k
    have hl1 := hNl k
    have hl2 := hKl k
    have hlt' : ((a + k : Nat) : Int) < (a : Int) + (n : Int) := by omega
    have hdv : ((a + k : Nat) : Int) / (R.mn : Int) = (((a + k) / R.mn : Nat) : Int) := by push_cast; rfl
    have hmd : ((a + k : Nat) : Int) % (R.mn : Int) = (((a + k) % R.mn : Nat) : Int) := by push_cast; rfl
    have hd := (Fr.refl [] wr).drew
    have h3 := (h2.fr0 hF).fr0 hd
    have B03 := (B02.fr0 hF).fr0 hd
    have kC' := kC ((a + k) / R.mn) _ h3 hq1
    have hpp := hpart ((a + k) % R.mn) _ (by rw [hcu _ hq1]; omega)
    rw [← hkk.out] at hpp
    have hXl : a + k ≤ 4096 := by omega
    have hnx := hidIt (rfl : a + (k + 1) = a + k + 1)
    have hms : Hid (a + n - (a + k + 1) < a + n - (a + k)) := hidIt (by omega)
    generalize readK R a k = K at *
    generalize rclu R ((a + k) / R.mn) [] = cl at *
    generalize (a + k) / R.mn = dv at *
    generalize (a + k) % R.mn = md at *
    generalize hY : a + k = Y at *
    replace hY := hidIt hY
    have hLl : (readN R a k).length + 16 ≤ 70000 := by omega
    have hLn := hn
    generalize readN R a k = L at *
    have hadd := fun W => add_strI L K W (by omega)
    have h16 : (16 : Int) * (md : Int) = ((16 * md : Nat) : Int) := by omega
    have h17 : ((16 * md : Nat) : Int) + 16 = ((16 * md + 16 : Nat) : Int) := by omega
    obtain ⟨LO, hLO⟩ : ∃ LO, Hid (16 * md = LO) := ⟨_, hidIt rfl⟩
    rw [hLO.out] at hpp h16 h17
    obtain ⟨HI, hHI⟩ : ∃ HI, Hid (LO + 16 = HI) := ⟨_, hidIt rfl⟩
    rw [hHI.out] at hpp h17
    have hLO' : LO ≤ 128 := by have := hLO.out; omega
    have hHI' : HI ≤ 144 := by have := hHI.out; omega
    have hmp0 : ¬ R.mn = 0 := by omega
    have hwd : IntKind.i64.wrap (dv : Int) = (dv : Int) := IntWalk.i64_in _ (by omega)
    have hwl : IntKind.i64.wrap (LO : Int) = (LO : Int) := IntWalk.i64_in _ (by omega)
    have hwh : IntKind.i64.wrap (HI : Int) = (HI : Int) := IntWalk.i64_in _ (by omega)
    clear hN hNl hKl hK hpart hdiv hcu kC h2 hkk hfin
    go_wp2_with fail
    refine wp_region_G (Fr [] wr.drew) [(true, 0), (true, 1), (true, 2), (true, 3), (true, 4), (true, 5), (true, 7), (true, 8), (true, 9), (true, 10), (true, 11), (false, 6), (true, 12), (true, 13), (true, 14)] (by as_aux_lemma => kernel_rfl) (by as_aux_lemma => kernel_rfl) (Fr.refl _ _) ?_
    simp only [inOrder, List.map_cons, List.map_nil, List.getD_cons_zero, List.getD_cons_succ]
    iterate 1
      refine wpG_pure fun K hK => ?_
      go_simp
      refine hK _ ?_
      clear hK K
    refine wpG_val (.agg #[.int .i64 (R.mn : Int), .int .i64 (R.rm : Int), .slice ac R.c.length cc, .slice as_ R.s.length cs, .slice ad R.d.length cd]) (by first | rfl | go_simp) (fun X hX => by have cc0 := (B03.fr0 hX).cell; go_simp) ?_
    simp only [Act.put, List.setIfInBounds_toArray, List.set_cons_zero, List.set_cons_succ]
    iterate 2
      refine wpG_pure fun K hK => ?_
      go_simp
      refine hK _ ?_
      clear hK K
    refine wpG_val (.int .i64 (R.mn : Int)) (by first | rfl | go_simp) (fun X hX => by have cc0 := (B03.fr0 hX).cell; go_simp) ?_
    simp only [Act.put, List.setIfInBounds_toArray, List.set_cons_zero, List.set_cons_succ]
    iterate 6
      refine wpG_pure fun K hK => ?_
      go_simp
      refine hK _ ?_
      clear hK K
    refine wpG_one fun K hK => ?_
    go_simp
    refine (kC').mono ?_
    rintro e w3 ⟨rfl, hf3⟩
    refine hK _ _ (hf3) ?_
    clear hK K
    iterate 3
      refine wpG_pure fun K hK => ?_
      go_simp
      refine hK _ ?_
      clear hK K
    refine wpG_end ?_
    clear kC' hpp B03 h3
    go_wp2
    go_roundw
    case rel => exact ⟨k + 1, by omega, by have := hY.out; go_num, by rw [hLn.out], (hF.trans0 hd).trans0 hf3⟩
    case measure => have := hY.out; simp [intOf]; omega
  have hke : k = n := by omega
  subst hke
  have hlt' : ¬ ((a + k : Nat) : Int) < (a : Int) + (k : Int) := by omega
  clear hlt hN hNl hKl hK hpart hdiv hcu kC
  generalize ((a + k : Nat) : Int) = Y at *
  go_wp2
  go_ret2
  exact hfin.out _ (hF2.trans0 hF)
end
end Go.Proofs.YtilhbjjjmdnjmaaGreat

namespace Go.Proofs.YtilhbjjjmdnjmaaGreat
open Go.RowKit Go.Maps
attribute [local go_sem] cells_str store_str len_str

section
variable {S T : Nat → Prop} {w w' : World} {vc vs vd : Value} {R : RIm}
theorem RowW.frS {α : Type} {f : α → List Value} {v : Value} {l : List α} {L : List Nat} (h : RowW S w f v l) (hf : Fr L w w') (hL : ∀ k ∈ L, ¬ S k) : RowW S w' f v l :=
  ⟨SlF.frE h.sl hf (fun hp k hk hm => hL k hm (h.own hp k hk)), h.ok, h.own⟩
theorem RowW.mono {α : Type} {f : α → List Value} {v : Value} {l : List α} (h : RowW S w f v l) (hS : ∀ k, S k → T k) : RowW T w f v l := ⟨h.sl, h.ok, fun hp k hk => hS k (h.own hp k hk)⟩
theorem RowW.old {α : Type} {f : α → List Value} {v : Value} {l : List α} (hf : ∀ x, 0 < (f x).length) (h : RowW S w f v l) : RowW (fun k => S k ∧ k < w.heap.size) w f v l :=
  ⟨h.sl, h.ok, fun hp k hk => ⟨h.own hp k hk, SlF.lt h.sl (by
    cases l with
    | nil => cases hp
    | cons x l => have := hf x; simp; omega) k hk⟩⟩
theorem RiW.frS {L : List Nat} (h : RiW S w vc vs vd R) (hf : Fr L w w') (hL : ∀ k ∈ L, ¬ S k) : RiW S w' vc vs vd R := by
  obtain ⟨rows, h1, h2, h3⟩ := h.s
  exact ⟨h.c.frS hf hL, ⟨rows, h1, h2.frS hf hL, fun r hr => (h3 r hr).frS hf hL⟩, h.d.frS hf hL, h.ok⟩
theorem RiW.mono (h : RiW S w vc vs vd R) (hS : ∀ k, S k → T k) : RiW T w vc vs vd R := by
  obtain ⟨rows, h1, h2, h3⟩ := h.s
  exact ⟨h.c.mono hS, ⟨rows, h1, h2.mono hS, fun r hr => (h3 r hr).mono hS⟩, h.d.mono hS, h.ok⟩
theorem RiW.old (h : RiW S w vc vs vd R) : RiW (fun k => S k ∧ k < w.heap.size) w vc vs vd R := by
  obtain ⟨rows, h1, h2, h3⟩ := h.s
  exact ⟨h.c.old (fun _ => by simp), ⟨rows, h1, h2.old (fun _ => by simp), fun r hr => (h3 r hr).old (fun _ => by simp)⟩, h.d.old (fun _ => by simp), h.ok⟩
end
theorem rlaid_len {mn : Nat} {x : By} (hx : x.length = 16 * mn) (c a : Nat) (b : By) : (rlaid mn x c a b).length = 16 * mn := by
  have := (flat16 (α := UInt8) (d := 0) (g := laidK mn x c a b) mn (fun k hk => by
    unfold laidK
    split
    · rw [List.length_take, List.length_drop]; omega
    · rw [List.length_take, List.length_drop]; omega)).1
  exact this
theorem rins_le (mn c a l : Nat) : rins mn c a l ≤ mn := by
  have := insN_le (c * mn) a l mn
  exact this
section
variable {zero : Bool} {R : RIm} {a l : Nat} {b : By} {bel : List By}
theorem rwK_keep (c : Nat) : (rwK zero R a l b bel c).mn = R.mn ∧ (rwK zero R a l b bel c).rm = R.rm ∧ (rwK zero R a l b bel c).c.length = R.c.length ∧ (rwK zero R a l b bel c).s = R.s ∧ (rwK zero R a l b bel c).d.length ≤ R.d.length + 1 := by
  unfold rwK rset rput
  split
  · exact ⟨rfl, rfl, rfl, rfl, by omega⟩
  · split
    · exact ⟨rfl, rfl, List.length_set, rfl, by show R.d.length ≤ _; omega⟩
    · split
      · exact ⟨rfl, rfl, rfl, rfl, by show (R.d.set _ _).length ≤ _; rw [List.length_set]; omega⟩
      · exact ⟨rfl, rfl, List.length_set, rfl, by show (R.d ++ [_]).length ≤ _; simp⟩
theorem rwN_keep : ∀ k, (rwN zero R a l b bel k).mn = R.mn ∧ (rwN zero R a l b bel k).rm = R.rm ∧ (rwN zero R a l b bel k).c.length = R.c.length ∧ (rwN zero R a l b bel k).s = R.s ∧ (rwN zero R a l b bel k).d.length ≤ R.d.length + k
  | 0 => ⟨rfl, rfl, rfl, rfl, Nat.le_refl _⟩
  | k + 1 => by
    have h1 := rwN_keep k
    have h2 := rwK_keep (zero := zero) (R := rwN zero R a l b bel k) (a := a) (l := l) (b := b) (bel := bel) k
    exact ⟨h2.1.trans h1.1, h2.2.1.trans h1.2.1, h2.2.2.1.trans h1.2.2.1, h2.2.2.2.1.trans h1.2.2.2.1, by have := h2.2.2.2.2; have := h1.2.2.2.2; show (rwK _ _ _ _ _ _ _).d.length ≤ _; omega⟩
theorem rneedN_succ (k : Nat) : rneedN zero R a l (k + 1) = rneedN zero R a l k + (if rneedK zero R a l k = true then 1 else 0) := by
  unfold rneedN
  rw [List.range_succ, List.countP_append]
  simp [List.countP_cons]
theorem rneedN_le (k : Nat) : rneedN zero R a l k ≤ k := by
  unfold rneedN
  have := List.countP_le_length (p := rneedK zero R a l) (l := List.range k)
  simpa using this
end
/-- what stands in a function's own box of an image -/
structure BoxW (S : Nat → Prop) (w wr : World) (n : Nat) (vc vs vd : Value) (R : RIm) : Prop where
  box : Blk wr n [.int .i64 (R.mn : Int), .int .i64 (R.rm : Int), vc, vs, vd] 36
  res : Blk wr (n + 1) [.int .i64 0, .int .i64 0, .slice none 0 0, .slice none 0 0, .slice none 0 0] 36
  ri : RiW S wr vc vs vd R
  fr : Fr [] w wr
theorem BoxW.keep {S : Nat → Prop} {w wr w' : World} {n : Nat} {vc vs vd : Value} {R : RIm} (h : BoxW S w wr n vc vs vd R) (hf : Fr [] wr w') : BoxW S w w' n vc vs vd R := ⟨h.box.fr0 hf, h.res.fr0 hf, h.ri.fr0 hf, h.fr.trans0 hf⟩
/-- the box has another image -/
theorem BoxW.put {S : Nat → Prop} {w wr : World} {n : Nat} {vc vs vd vc' vs' vd' : Value} {R R' : RIm} (h : BoxW S w wr n vc vs vd R) (hn : w.heap.size ≤ n) (hS : ¬ S n) (h' : RiW S wr vc' vs' vd' R') :
    BoxW S w (((((wr.setCell ⟨n, 0, none⟩ (.int .i64 (R'.mn : Int))).setCell ⟨n, 1, none⟩ (.int .i64 (R'.rm : Int))).setCell ⟨n, 2, none⟩ vc').setCell ⟨n, 3, none⟩ vs').setCell ⟨n, 4, none⟩ vd') n vc' vs' vd' R' := by
  have hB := ((((h.box.setCell 0 (.int .i64 (R'.mn : Int))).setCell 1 (.int .i64 (R'.rm : Int))).setCell 2 vc').setCell 3 vs').setCell 4 vd'
  have hf : Fr [n] wr (((((wr.setCell ⟨n, 0, none⟩ (.int .i64 (R'.mn : Int))).setCell ⟨n, 1, none⟩ (.int .i64 (R'.rm : Int))).setCell ⟨n, 2, none⟩ vc').setCell ⟨n, 3, none⟩ vs').setCell ⟨n, 4, none⟩ vd') :=
    (((((Fr.refl [n] wr).setCell (p := ⟨n, 0, none⟩) (.inl (by simp)) _).setCell (p := ⟨n, 1, none⟩) (.inl (by simp)) _).setCell (p := ⟨n, 2, none⟩) (.inl (by simp)) _).setCell (p := ⟨n, 3, none⟩) (.inl (by simp)) _).setCell (p := ⟨n, 4, none⟩) (.inl (by simp)) _
  refine ⟨hB, h.res.fr hf (by simp), h'.frS hf (fun k hk => by rw [List.mem_singleton.1 hk]; exact hS), h.fr.trans hf (fun x hx hl => by have := List.mem_singleton.1 hx; omega)⟩
/-- the result: another image, told with a code -/
def pairPost (S : Nat → Prop) (w : World) (r : Int × RIm) (e : Ending) (w' : World) : Prop := ∃ vc' vs' vd', e = .returned (.tuple #[riV r.2 vc' vs' vd', .int .i64 r.1]) ∧ RiW S w' vc' vs' vd' r.2 ∧ Fr [] w w'
theorem BoxW.ret {S T : Nat → Prop} {w wr : World} {n : Nat} {vc vs vd : Value} {R : RIm} (h : BoxW S w wr n vc vs vd R) (hn : w.heap.size ≤ n) (hS : ¬ S (n + 1)) (hT : ∀ k, S k → T k) {r : Int × RIm} (hr : r.2 = R) (code : Int) (hc : r.1 = code) :
    pairPost T w r (.returned (.tuple #[riV R vc vs vd, .int .i64 code])) (((((wr.setCell ⟨n + 1, 0, none⟩ (.int .i64 (R.mn : Int))).setCell ⟨n + 1, 1, none⟩ (.int .i64 (R.rm : Int))).setCell ⟨n + 1, 2, none⟩ vc).setCell ⟨n + 1, 3, none⟩ vs).setCell ⟨n + 1, 4, none⟩ vd) := by
  have hf : Fr [n + 1] wr (((((wr.setCell ⟨n + 1, 0, none⟩ (.int .i64 (R.mn : Int))).setCell ⟨n + 1, 1, none⟩ (.int .i64 (R.rm : Int))).setCell ⟨n + 1, 2, none⟩ vc).setCell ⟨n + 1, 3, none⟩ vs).setCell ⟨n + 1, 4, none⟩ vd) :=
    (((((Fr.refl [n + 1] wr).setCell (p := ⟨n + 1, 0, none⟩) (.inl (by simp)) _).setCell (p := ⟨n + 1, 1, none⟩) (.inl (by simp)) _).setCell (p := ⟨n + 1, 2, none⟩) (.inl (by simp)) _).setCell (p := ⟨n + 1, 3, none⟩) (.inl (by simp)) _).setCell (p := ⟨n + 1, 4, none⟩) (.inl (by simp)) _
  subst hr hc
  exact ⟨vc, vs, vd, rfl, (h.ri.frS hf (fun k hk => by rw [List.mem_singleton.1 hk]; exact hS)).mono hT, h.fr.trans hf (fun x hx hl => by have := List.mem_singleton.1 hx; omega)⟩
end Go.Proofs.YtilhbjjjmdnjmaaGreat
