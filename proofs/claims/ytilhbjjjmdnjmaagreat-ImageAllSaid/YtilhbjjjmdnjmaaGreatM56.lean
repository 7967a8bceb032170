/-
  The document's image in memory; Inside, Refs, Free.
-/
import Derived.Test.YtilhbjjjmdnjmaaGreatM55
import Derived.Test.YtilhbjjjmdnjmaaGreatM21
import Derived.Deep.QuietTactic
import Derived.BigQuiet
namespace Go.Proofs.YtilhbjjjmdnjmaaGreat
open Go.RowKit Go.Maps
attribute [local go_sem] cells_str store_str len_str

abbrev celC (x : RCel) : List Value := [.int .i64 x.1, .int .i64 x.2]
abbrev rsnC (r : (By × List RCel) × Value) : List Value := [strL r.1.1, r.2]
def zRW : (By × List RCel) × Value := (([], []), .slice none 0 0)
/-- what holds of it always -/
structure OkR (R : RIm) : Prop where
  mp : 0 < R.mn
  m8 : R.mn ≤ 8
  rm : R.rm ≤ 512
  cl : R.c.length ≤ 256
  sl : R.s.length ≤ 8
  ss : ∀ q ∈ R.s, q.2.length ≤ 256
  dl : R.d.length ≤ 1000000
  ids : ∀ x ∈ R.c, x.1 = 1 → 0 ≤ x.2 ∧ x.2 < R.d.length
  ids2 : ∀ q ∈ R.s, ∀ x ∈ q.2, x.1 = 1 → 0 ≤ x.2 ∧ x.2 < R.d.length
  dz : ∀ y ∈ R.d, y.length = 16 * R.mn
/-- a row, in blocks at which S -/
structure RowW {α : Type} (S : Nat → Prop) (w : World) (f : α → List Value) (v : Value) (l : List α) : Prop where
  sl : SlF f w v l
  ok : okV v
  own : 0 < l.length → ∀ k, v.ownBlock = some k → S k
theorem RowW.fr0 {α : Type} {S : Nat → Prop} {w w' : World} {f : α → List Value} {v : Value} {l : List α} (h : RowW S w f v l) (hf : Fr [] w w') : RowW S w' f v l := ⟨SlF.fr0 h.sl hf, h.ok, h.own⟩
theorem RowW.nil {α : Type} (S : Nat → Prop) (w : World) (f : α → List Value) : RowW S w f (.slice none 0 0) ([] : List α) := ⟨Sl.nil _, fun n c h => by cases h; rfl, fun hp => by cases hp⟩
def riV (R : RIm) (vc vs vd : Value) : Value := .agg #[.int .i64 (R.mn : Int), .int .i64 (R.rm : Int), vc, vs, vd]
structure RiW (S : Nat → Prop) (w : World) (vc vs vd : Value) (R : RIm) : Prop where
  c : RowW S w celC vc R.c
  s : ∃ rows : List ((By × List RCel) × Value), rows.map (·.1) = R.s ∧ RowW S w rsnC vs rows ∧ ∀ r ∈ rows, RowW S w celC r.2 r.1.2
  d : RowW S w strC vd R.d
  ok : OkR R
theorem RiW.fr0 {S : Nat → Prop} {w w' : World} {vc vs vd : Value} {R : RIm} (h : RiW S w vc vs vd R) (hf : Fr [] w w') : RiW S w' vc vs vd R := by
  obtain ⟨rows, h1, h2, h3⟩ := h.s
  exact ⟨h.c.fr0 hf, ⟨rows, h1, h2.fr0 hf, fun r hr => (h3 r hr).fr0 hf⟩, h.d.fr0 hf, h.ok⟩
theorem celAt {w : World} {a : Option Addr} {n cap : Nat} {l : List RCel} (h : SlF celC w (.slice a n cap) l) {i : Nat} (hi : i < l.length) : ∃ b off, a = some ⟨b, off, none⟩ ∧ b < w.heap.size ∧
    w.cell? ⟨b, off + i * 2, none⟩ = some (.int .i64 (l.getD i zRC).1) ∧ w.cell? ⟨b, off + i * 2 + 1, none⟩ = some (.int .i64 (l.getD i zRC).2) := by
  obtain ⟨a', cap', hv, _, _, hc⟩ := SlF.open h
  cases hv
  obtain ⟨b, off, rfl, hb, hc⟩ := hc 2 (fun _ => rfl) (by omega) i _ (getD_some zRC hi)
  have h0 := hc 0 _ rfl
  have h1 := hc 1 _ rfl
  exact ⟨b, off, rfl, hb, h0, h1⟩
theorem rsnAt {w : World} {a : Option Addr} {n cap : Nat} {l : List ((By × List RCel) × Value)} (h : SlF rsnC w (.slice a n cap) l) {i : Nat} (hi : i < l.length) : ∃ b off, a = some ⟨b, off, none⟩ ∧ b < w.heap.size ∧
    w.cell? ⟨b, off + i * 2, none⟩ = some (strL (l.getD i zRW).1.1) ∧ w.cell? ⟨b, off + i * 2 + 1, none⟩ = some (l.getD i zRW).2 := by
  obtain ⟨a', cap', hv, _, _, hc⟩ := SlF.open h
  cases hv
  obtain ⟨b, off, rfl, hb, hc⟩ := hc 2 (fun _ => rfl) (by omega) i _ (getD_some zRW hi)
  have h0 := hc 0 _ rfl
  have h1 := hc 1 _ rfl
  exact ⟨b, off, rfl, hb, h0, h1⟩
theorem RiW.open {S : Nat → Prop} {w : World} {vc vs vd : Value} {R : RIm} (h : RiW S w vc vs vd R) : ∃ ac cc as_ cs ad cd, vc = .slice ac R.c.length cc ∧ vs = .slice as_ R.s.length cs ∧ vd = .slice ad R.d.length cd ∧ R.c.length ≤ cc ∧ R.s.length ≤ cs ∧ R.d.length ≤ cd := by
  obtain ⟨rows, h1, h2, h3⟩ := h.s
  obtain ⟨ac, cc, hc, hc1, _⟩ := SlF.open h.c.sl
  obtain ⟨as_, cs, hs, hs1, _⟩ := SlF.open h2.sl
  obtain ⟨ad, cd, hd, hd1, _⟩ := SlF.open h.d.sl
  have hl : rows.length = R.s.length := by rw [← h1, List.length_map]
  rw [hl] at hs hs1
  exact ⟨ac, cc, as_, cs, ad, cd, hc, hs, hd, hc1, hs1, hd1⟩
theorem RiW.snapAt {S : Nat → Prop} {w : World} {vc vd : Value} {as_ : Option Addr} {ns cs : Nat} {R : RIm} (h : RiW S w vc (.slice as_ ns cs) vd R) {i : Nat} (hi : i < R.s.length) : ∃ b off a cap, as_ = some ⟨b, off, none⟩ ∧ b < w.heap.size ∧
    w.cell? ⟨b, off + i * 2, none⟩ = some (strL (R.s.getD i zRQ).1) ∧ w.cell? ⟨b, off + i * 2 + 1, none⟩ = some (.slice a (R.s.getD i zRQ).2.length cap) ∧ RowW S w celC (.slice a (R.s.getD i zRQ).2.length cap) (R.s.getD i zRQ).2 := by
  obtain ⟨rows, h1, h2, h3⟩ := h.s
  have hl : rows.length = R.s.length := by rw [← h1, List.length_map]
  obtain ⟨b, off, ha, hb, c0, c1⟩ := rsnAt h2.sl (i := i) (by omega)
  have hm : rows.getD i zRW ∈ rows := by rw [List.getD_eq_getElem?_getD, List.getElem?_eq_getElem (by omega : i < rows.length)]; exact List.getElem_mem _
  have e : R.s.getD i zRQ = (rows.getD i zRW).1 := by
    rw [← h1]
    simp only [List.getD_eq_getElem?_getD, List.getElem?_map, List.getElem?_eq_getElem (by omega : i < rows.length)]
    rfl
  have h4 := h3 _ hm
  rw [← e] at c0 h4
  obtain ⟨a, cap, hv, _⟩ := SlF.open h4.sl
  rw [hv] at c1 h4
  exact ⟨b, off, a, cap, ha, hb, c0, c1, h4⟩
section
variable {S : Nat → Prop} {vc vs vd : Value} {R : RIm}
set_option maxRecDepth 100000 in
set_option maxHeartbeats 1600000 in
theorem rInside_calls (x l : Int) (w : World) (h : RiW S w vc vs vd R) : Calls Tryz.prog 32 #[riV R vc vs vd, .int .i64 x, .int .i64 l] w fun e w' => e = .returned (.int .i64 (rinside R x l)) ∧ Fr [] w w' := by
  obtain ⟨ac, cc, as_, cs, ad, cd, rfl, rfl, rfl, _⟩ := h.open
  have H1 : Hid (l < 0 → rinside R x l = 1) := hidIt (fun e => by unfold rinside; rw [if_pos e])
  have H2 : Hid (¬ l < 0 → (x < 0 ∨ x > ((R.mn * R.c.length : Nat) : Int) ∨ l > ((R.mn * R.c.length : Nat) : Int) - x) → rinside R x l = 121) := hidIt (fun e e2 => by unfold rinside; rw [if_neg e, if_pos e2])
  have H3 : Hid (¬ l < 0 → ¬ (x < 0 ∨ x > ((R.mn * R.c.length : Nat) : Int) ∨ l > ((R.mn * R.c.length : Nat) : Int) - x) → rinside R x l = 0) := hidIt (fun e e2 => by unfold rinside; rw [if_neg e, if_neg e2])
  have hb : R.mn * R.c.length ≤ 2048 := Nat.mul_le_mul h.ok.m8 h.ok.cl
  have hm : (R.mn : Int) * (R.c.length : Int) = ((R.mn * R.c.length : Nat) : Int) := by push_cast; rfl
  unfold riV
  clear h
  generalize rinside R x l = res at *
  generalize R.mn * R.c.length = A at *
  generalize R.mn = mn at *
  generalize R.c.length = cl at *
  have hfa := (Fr.refl [] w).alloc (.cells #[.int .i64 (mn : Int), .int .i64 (R.rm : Int), .slice ac cl cc, .slice as_ R.s.length cs, .slice ad R.d.length cd] 36)
  go_enter Tryz.func32, Tryz.ntmps32
  by_cases h1 : l < 0
  · have e := hidIt (H1.out h1)
    clear H1 H2 H3
    go_wp2
    go_ret
    exact ⟨ret_int e.out.symm, hfa⟩
  · by_cases h2 : x < 0
    · have e := hidIt (H2.out (by omega) (.inl h2))
      clear H1 H2 H3
      go_wp2
      go_ret
      exact ⟨ret_int e.out.symm, hfa⟩
    · by_cases h3 : (A : Int) < x
      · have e := hidIt (H2.out (by omega) (.inr (.inl h3)))
        clear H1 H2 H3
        go_wp2
        go_ret
        exact ⟨ret_int e.out.symm, hfa⟩
      · by_cases h4 : (A : Int) - x < l
        · have e := hidIt (H2.out (by omega) (.inr (.inr h4)))
          clear H1 H2 H3
          go_wp2
          go_ret
          exact ⟨ret_int e.out.symm, hfa⟩
        · have e := hidIt (H3.out (by omega) (by rintro (h | h | h); exact h2 h; exact h3 h; exact h4 h))
          clear H1 H2 H3
          go_wp2
          go_ret
          exact ⟨ret_int e.out.symm, hfa⟩
end
end Go.Proofs.YtilhbjjjmdnjmaaGreat

namespace Go.Proofs.YtilhbjjjmdnjmaaGreat
open Go.RowKit Go.Maps
attribute [local go_sem] cells_str store_str len_str

theorem cntC_succ {l : List RCel} {k : Nat} (hk : k < l.length) (id : Int) : cntC (l.take (k + 1)) id = cntC (l.take k) id + (if (l.getD k zRC).1 = 1 ∧ (l.getD k zRC).2 = id then 1 else 0) := by
  have e : l.getD k zRC = l[k] := by rw [List.getD_eq_getElem?_getD, List.getElem?_eq_getElem hk]; rfl
  rw [e]
  unfold cntC
  rw [List.take_succ_eq_append_getElem hk, List.countP_append]
  have hi : isId id l[k] = true ↔ ((l[k]).1 = 1 ∧ (l[k]).2 = id) := by simp [isId]
  simp only [List.countP_cons, List.countP_nil, Nat.zero_add]
  congr 1
  by_cases h1 : (l[k]).1 = 1 ∧ (l[k]).2 = id
  · rw [if_pos h1, if_pos (hi.2 h1)]
  · rw [if_neg h1, if_neg (fun e => h1 (hi.1 e))]
theorem cntC_le (l : List RCel) (k : Nat) (id : Int) : cntC (l.take k) id ≤ l.length := by
  have := List.countP_le_length (p := isId id) (l := l.take k)
  rw [List.length_take] at this
  unfold cntC
  omega
theorem cntSC_succ {s : List (By × List RCel)} {i : Nat} (hi : i < s.length) (id : Int) : cntSC (s.take (i + 1)) id = cntSC (s.take i) id + cntC (s.getD i zRQ).2 id := by
  have e : s.getD i zRQ = s[i] := by rw [List.getD_eq_getElem?_getD, List.getElem?_eq_getElem hi]; rfl
  rw [e]
  unfold cntSC
  rw [List.take_succ_eq_append_getElem hi, List.map_append, List.sum_append]
  simp
theorem cntSC_le {s : List (By × List RCel)} (hs : ∀ q ∈ s, q.2.length ≤ 256) (id : Int) : ∀ i, i ≤ s.length → cntSC (s.take i) id ≤ 256 * i
  | 0, _ => by simp [cntSC]
  | i + 1, hi => by
    have ih := cntSC_le hs id i (by omega)
    rw [cntSC_succ (by omega)]
    have hm : s.getD i zRQ ∈ s := by rw [List.getD_eq_getElem?_getD, List.getElem?_eq_getElem (by omega : i < s.length)]; exact List.getElem_mem _
    have h1 := hs _ hm
    have h2 := cntC_le (s.getD i zRQ).2 (s.getD i zRQ).2.length id
    rw [List.take_length] at h2
    omega
theorem ret_nat {a b : Nat} (h : a = b) : (Ending.returned (.int .i64 (a : Int))) = .returned (.int .i64 (b : Int)) := by rw [h]
section
variable {S : Nat → Prop} {vc vs vd : Value} {R : RIm}
set_option maxRecDepth 100000 in
set_option maxHeartbeats 3200000 in
theorem rRefs_calls (id : Int) (w : World) (h : RiW S w vc vs vd R) : Calls Tryz.prog 77 #[riV R vc vs vd, .int .i64 id] w fun e w' => e = .returned (.int .i64 (rrefs R id : Nat)) ∧ Fr [] w w' := by
  obtain ⟨ac, cc, as_, cs, ad, cd, rfl, rfl, rfl, hcc, hcs, hcd⟩ := h.open
  have hcl := h.ok.cl
  have hsl := h.ok.sl
  have hss := h.ok.ss
  have hC := fun k => cntC_le R.c k id
  have hCs := fun k (hk : k < R.c.length) => hidIt (cntC_succ hk id)
  have hSl := fun i (hi : i ≤ R.s.length) => cntSC_le hss id i hi
  have hSs := fun i (hi : i < R.s.length) => hidIt (cntSC_succ hi id)
  have hCe : Hid (cntC (R.c.take R.c.length) id = cntC R.c id) := hidIt (by rw [List.take_length])
  have hSe : Hid (cntSC (R.s.take R.s.length) id = cntSC R.s id) := hidIt (by rw [List.take_length])
  have hR : Hid (rrefs R id = cntC R.c id + cntSC R.s id) := hidIt rfl
  have B0 := Blk.new w [.int .i64 (R.mn : Int), .int .i64 (R.rm : Int), .slice ac R.c.length cc, .slice as_ R.s.length cs, .slice ad R.d.length cd] 36
  have hfa := (Fr.refl [] w).alloc (.cells #[.int .i64 (R.mn : Int), .int .i64 (R.rm : Int), .slice ac R.c.length cc, .slice as_ R.s.length cs, .slice ad R.d.length cd] 36)
  have h1 := h.fr0 hfa
  generalize hw1 : w.alloc (.cells #[.int .i64 (R.mn : Int), .int .i64 (R.rm : Int), .slice ac R.c.length cc, .slice as_ R.s.length cs, .slice ad R.d.length cd] 36) = w1 at *
  have h256 : ∀ i, i < R.s.length → (R.s.getD i zRQ).2.length ≤ 256 := fun i hi => hss _ (by rw [List.getD_eq_getElem?_getD, List.getElem?_eq_getElem hi]; exact List.getElem_mem _)
  clear h hss
  unfold riV
  go_enter Tryz.func77, Tryz.ntmps77
  go_wp2
  try rw [hw1]
  clear hw1
  go_loopw [5, 6] (fun n i wr => ∃ k : Nat, k ≤ R.c.length ∧ i = .int .i64 (k : Int) ∧ n = .int .i64 ((cntC (R.c.take k) id : Nat) : Int) ∧ Fr [] w1 wr) (fun _ i _ => R.c.length - (intOf i).toNat)
  case atStart => exact ⟨0, Nat.zero_le _, rfl, rfl, Fr.refl _ _⟩
  obtain ⟨k, hk, rfl, rfl, hF⟩ := hrel
  have c0 := (B0.fr0 hF).cell
  by_cases hlt : k < R.c.length
  case pos =>
    obtain ⟨b, off, rfl, hb, d0, d1⟩ := celAt (h1.fr0 hF).c.sl hlt
    have hx := hCs k hlt
    have hy := hC k
    generalize R.c.getD k zRC = x at *
    obtain ⟨x1, x2⟩ := x
    simp only at d0 d1 hx
    generalize cntC (R.c.take k) id = C at *
    clear hCs hC hSl hSs hCe hSe hR h256
    by_cases hx1 : x1 = 1
    · by_cases hx2 : x2 = id
      · subst hx1
        subst hx2
        rw [if_pos ⟨rfl, rfl⟩] at hx
        go_wp2
        go_roundw
        case rel => exact ⟨k + 1, by omega, by go_num, by rw [hx.out]; go_num, hF⟩
        case measure => simp [intOf]; omega
      · subst hx1
        rw [if_neg (fun e => hx2 e.2)] at hx
        have hq : ((x2 : Int) == id) = false := by simpa using hx2
        go_wp2
        go_roundw
        case rel => exact ⟨k + 1, by omega, by go_num, by rw [hx.out]; rfl, hF⟩
        case measure => simp [intOf]; omega
    · rw [if_neg (fun e => hx1 e.1)] at hx
      have hq : ((x1 : Int) == 1) = false := by simpa using hx1
      go_wp2
      go_roundw
      case rel => exact ⟨k + 1, by omega, by go_num, by rw [hx.out]; rfl, hF⟩
      case measure => simp [intOf]; omega
  have hke : k = R.c.length := by omega
  subst hke
  have hCl := hC R.c.length
  rw [hCe.out] at hCl
  obtain ⟨C, hCq⟩ : ∃ C, Hid (cntC R.c id = C) := ⟨_, hidIt rfl⟩
  rw [hCe.out, hCq.out]
  rw [hCq.out] at hR hCl
  clear hlt hk hC hCs hCe
  obtain ⟨wo, hwo⟩ : ∃ wo, wo = wr := ⟨_, rfl⟩
  subst hwo
  go_wp2
  go_loopw [5, 7, 8] (fun n i _ wr => ∃ k : Nat, k ≤ R.s.length ∧ i = .int .i64 (k : Int) ∧ n = .int .i64 ((C + cntSC (R.s.take k) id : Nat) : Int) ∧ Fr [] w1 wr) (fun _ i _ _ => R.s.length - (intOf i).toNat)
  case atStart => exact ⟨0, Nat.zero_le _, rfl, rfl, hF⟩
  clear hF c0
  obtain ⟨k, hk, rfl, rfl, hF⟩ := hrel
  have c0 := (B0.fr0 hF).cell
  by_cases hlt : k < R.s.length
  case pos =>
    have hx := hSs k hlt
    have hy := hSl k hk
    have hz := h256 k hlt
    obtain ⟨b, off, a2, cap2, rfl, hb, d0, d1, hrow⟩ := (h1.fr0 hF).snapAt hlt
    have hD := fun j => cntC_le (R.s.getD k zRQ).2 j id
    have hDs := fun j (hj : j < (R.s.getD k zRQ).2.length) => hidIt (cntC_succ hj id)
    have hDe : Hid (cntC ((R.s.getD k zRQ).2.take (R.s.getD k zRQ).2.length) id = cntC (R.s.getD k zRQ).2 id) := hidIt (by rw [List.take_length])
    generalize cntSC (R.s.take k) id = T at *
    have hsn : ∀ W, Fr [] wr W → W.cell? ⟨b, off + k * 2 + 1, none⟩ = some (.slice a2 (R.s.getD k zRQ).2.length cap2) := fun W hW => (World.cell?_of_block (hW.block b hb (by simp))).trans d1
    generalize (R.s.getD k zRQ).2 = q at *
    clear hSl hSs hSe hR h256
    obtain ⟨wo, hwo⟩ : ∃ wo, wo = wr := ⟨_, rfl⟩
    subst hwo
    go_wp2
    go_loopw [5, 8] (fun n i wr => ∃ j : Nat, j ≤ q.length ∧ i = .int .i64 (j : Int) ∧ n = .int .i64 ((C + T + cntC (q.take j) id : Nat) : Int) ∧ Fr [] wo wr) (fun _ i _ => q.length - (intOf i).toNat)
    case atStart => exact ⟨0, Nat.zero_le _, rfl, rfl, Fr.refl _ _⟩
    obtain ⟨j, hj, rfl, rfl, hF2⟩ := hrel
    have c0 := (B0.fr0 (hF.trans0 hF2)).cell
    have d1 := hsn wr hF2
    by_cases hlj : j < q.length
    case pos =>
      obtain ⟨b3, off3, rfl, hb3, e0, e1⟩ := celAt (hrow.fr0 hF2).sl hlj
      have hp := hDs j hlj
      have hpl := hD j
      generalize q.getD j zRC = x at *
      obtain ⟨x1, x2⟩ := x
      simp only at e0 e1 hp
      generalize cntC (q.take j) id = U at *
      clear hD hDs hDe hsn hx hF B0 h1 hrow
      by_cases hx1 : x1 = 1
      · by_cases hx2 : x2 = id
        · subst hx1
          subst hx2
          rw [if_pos ⟨rfl, rfl⟩] at hp
          go_wp2
          go_roundw
          case rel => exact ⟨j + 1, by omega, by go_num, by rw [hp.out]; go_num, hF2⟩
          case measure => simp [intOf]; omega
        · subst hx1
          rw [if_neg (fun e => hx2 e.2)] at hp
          have hq : ((x2 : Int) == id) = false := by simpa using hx2
          go_wp2
          go_roundw
          case rel => exact ⟨j + 1, by omega, by go_num, by rw [hp.out]; rfl, hF2⟩
          case measure => simp [intOf]; omega
      · rw [if_neg (fun e => hx1 e.1)] at hp
        have hq : ((x1 : Int) == 1) = false := by simpa using hx1
        go_wp2
        go_roundw
        case rel => exact ⟨j + 1, by omega, by go_num, by rw [hp.out]; rfl, hF2⟩
        case measure => simp [intOf]; omega
    have hje : j = q.length := by omega
    subst hje
    rw [hDe.out]
    have hx' : Hid (C + cntSC (R.s.take (k + 1)) id = C + T + cntC q id) := hidIt (by rw [hx.out, Nat.add_assoc])
    clear hlj hj hD hDs hDe hsn hx hrow
    go_wp2
    go_roundw
    case rel => exact ⟨k + 1, by omega, by go_num, by rw [hx'.out], hF.trans0 hF2⟩
    case measure => simp [intOf]; omega
  have hke : k = R.s.length := by omega
  subst hke
  rw [hSe.out, ← hR.out]
  clear hlt hk hSl hSs hSe hR h256
  go_wp2
  go_ret
  exact ⟨rfl, hfa.trans0 hF⟩
end
end Go.Proofs.YtilhbjjjmdnjmaaGreat

namespace Go.Proofs.YtilhbjjjmdnjmaaGreat
open Go.RowKit Go.Maps
attribute [local go_sem] cells_str store_str len_str

theorem usedN_succ (R : RIm) (k : Nat) : usedN R (k + 1) = usedN R k + (if 0 < rrefs R (k : Int) then 1 else 0) := by
  unfold usedN
  rw [List.range_succ, List.countP_append]
  simp only [List.countP_cons, List.countP_nil, Nat.zero_add, decide_eq_true_eq]
theorem usedN_le (R : RIm) (k : Nat) : usedN R k ≤ k := by
  unfold usedN
  have := List.countP_le_length (p := fun (id : Nat) => decide (0 < rrefs R (id : Int))) (l := List.range k)
  simpa using this
def insN (X a l j : Nat) : Nat := (List.range j).countP fun k => decide (a ≤ X + k) && decide (X + k < a + l)
theorem insN_succ (X a l j : Nat) : insN X a l (j + 1) = insN X a l j + (if a ≤ X + j ∧ X + j < a + l then 1 else 0) := by
  unfold insN
  rw [List.range_succ, List.countP_append]
  simp only [List.countP_cons, List.countP_nil, Nat.zero_add, Bool.and_eq_true, decide_eq_true_eq]
theorem insN_le (X a l j : Nat) : insN X a l j ≤ j := by
  unfold insN
  have := List.countP_le_length (p := fun k => decide (a ≤ X + k) && decide (X + k < a + l)) (l := List.range j)
  simpa using this
section
variable {S : Nat → Prop} {vc vs vd : Value} {R : RIm}
set_option maxRecDepth 100000 in
set_option maxHeartbeats 3200000 in
theorem rFree_calls (w : World) (h : RiW S w vc vs vd R) : Calls Tryz.prog 37 #[riV R vc vs vd] w fun e w' => e = .returned (.int .i64 (rfree R)) ∧ Fr [] w w' := by
  have kR := fun id W h => rRefs_calls (S := S) (vc := vc) (vs := vs) (vd := vd) (R := R) id W h
  obtain ⟨ac, cc, as_, cs, ad, cd, rfl, rfl, rfl, hcc, hcs, hcd⟩ := h.open
  have hdl := h.ok.dl
  have hrm := h.ok.rm
  have hU := fun k => usedN_le R k
  have hUs := fun k => hidIt (usedN_succ R k)
  have hR : Hid (rfree R = (R.rm : Int) - (usedN R R.d.length : Int)) := hidIt rfl
  have B0 := Blk.new w [.int .i64 (R.mn : Int), .int .i64 (R.rm : Int), .slice ac R.c.length cc, .slice as_ R.s.length cs, .slice ad R.d.length cd] 36
  have hfa := (Fr.refl [] w).alloc (.cells #[.int .i64 (R.mn : Int), .int .i64 (R.rm : Int), .slice ac R.c.length cc, .slice as_ R.s.length cs, .slice ad R.d.length cd] 36)
  have h1 := h.fr0 hfa
  generalize hw1 : w.alloc (.cells #[.int .i64 (R.mn : Int), .int .i64 (R.rm : Int), .slice ac R.c.length cc, .slice as_ R.s.length cs, .slice ad R.d.length cd] 36) = w1 at *
  have c0 := B0.cell
  clear h
  unfold riV at *
  go_enter Tryz.func37, Tryz.ntmps37
  go_wp2
  try rw [hw1]
  clear hw1 c0
  go_loopw [3, 4] (fun n i wr => ∃ k : Nat, k ≤ R.d.length ∧ i = .int .i64 (k : Int) ∧ n = .int .i64 ((R.rm : Int) - (usedN R k : Int)) ∧ Fr [] w1 wr) (fun _ i _ => R.d.length - (intOf i).toNat)
  case atStart => exact ⟨0, Nat.zero_le _, rfl, by simp [usedN], Fr.refl _ _⟩
  obtain ⟨k, hk, rfl, rfl, hF⟩ := hrel
  have c0 := (B0.fr0 hF).cell
  by_cases hlt : k < R.d.length
  case pos =>
    have hx := hUs k
    have hy := hU k
    have kk := kR (k : Int) wr (h1.fr0 hF)
    clear hU hUs hR kR h1
    generalize usedN R k = U at *
    generalize rrefs R (k : Int) = q at *
    go_wp2_with fail
    refine kk.mono ?_
    rintro e w2 ⟨rfl, hf2⟩
    have c2 := ((B0.fr0 hF).fr0 hf2).cell
    by_cases hq : 0 < q
    · rw [if_pos hq] at hx
      have hq' : (0 : Int) < (q : Int) := by omega
      go_wp2
      go_roundw
      case rel => exact ⟨k + 1, by omega, by go_num, by rw [hx.out]; go_num, hF.trans0 hf2⟩
      case measure => simp [intOf]; omega
    · rw [if_neg hq] at hx
      have hq' : ¬ (0 : Int) < (q : Int) := by omega
      go_wp2
      go_roundw
      case rel => exact ⟨k + 1, by omega, by go_num, by rw [hx.out]; rfl, hF.trans0 hf2⟩
      case measure => simp [intOf]; omega
  have hke : k = R.d.length := by omega
  subst hke
  rw [← hR.out]
  clear hlt hk hU hUs hR kR
  go_wp2
  go_ret
  exact ⟨rfl, hfa.trans0 hF⟩
set_option maxRecDepth 100000 in
set_option maxHeartbeats 3200000 in
theorem rIns_calls (c a l : Nat) (w : World) (h : RiW S w vc vs vd R) (hc : c ≤ 4096) (ha : a ≤ 65536) (hl : l ≤ 65536) : Calls Tryz.prog 69 #[riV R vc vs vd, .int .i64 (c : Int), .int .i64 (a : Int), .int .i64 (l : Int)] w fun e w' => e = .returned (.int .i64 (rins R.mn c a l : Nat)) ∧ Fr [] w w' := by
  obtain ⟨ac, cc, as_, cs, ad, cd, rfl, rfl, rfl, hcc, hcs, hcd⟩ := h.open
  have hm8 := h.ok.m8
  have hX : c * R.mn ≤ 4096 * 8 := Nat.mul_le_mul hc hm8
  have hm : (c : Int) * (R.mn : Int) = ((c * R.mn : Nat) : Int) := by push_cast; rfl
  have hR : Hid (rins R.mn c a l = insN (c * R.mn) a l R.mn) := hidIt rfl
  have B0 := Blk.new w [.int .i64 (R.mn : Int), .int .i64 (R.rm : Int), .slice ac R.c.length cc, .slice as_ R.s.length cs, .slice ad R.d.length cd] 36
  have hfa := (Fr.refl [] w).alloc (.cells #[.int .i64 (R.mn : Int), .int .i64 (R.rm : Int), .slice ac R.c.length cc, .slice as_ R.s.length cs, .slice ad R.d.length cd] 36)
  unfold riV
  clear h
  generalize rins R.mn c a l = res at *
  generalize c * R.mn = X at *
  generalize R.mn = mn at *
  generalize hw1 : w.alloc (.cells #[.int .i64 (mn : Int), .int .i64 (R.rm : Int), .slice ac R.c.length cc, .slice as_ R.s.length cs, .slice ad R.d.length cd] 36) = w1 at *
  have c0 := B0.cell
  go_enter Tryz.func69, Tryz.ntmps69
  go_wp2
  try rw [hw1]
  clear hw1 c0
  go_loopw [9, 10] (fun n i wr => ∃ j : Nat, j ≤ mn ∧ i = .int .i64 ((X + j : Nat) : Int) ∧ n = .int .i64 ((insN X a l j : Nat) : Int) ∧ Fr [] w1 wr) (fun _ i _ => X + mn - (intOf i).toNat)
  case atStart => exact ⟨0, Nat.zero_le _, rfl, rfl, Fr.refl _ _⟩
  obtain ⟨j, hj, rfl, rfl, hF⟩ := hrel
  have c0 := (B0.fr0 hF).cell
  have hx := hidIt (insN_succ X a l j)
  have hy := insN_le X a l j
  by_cases hlt : j < mn
  case pos =>
    have hlt' : ((X + j : Nat) : Int) < (X : Int) + (mn : Int) := by omega
    have hXj : X + j ≤ 65536 := by omega
    have hnx : Hid (((X + (j + 1) : Nat) : Int) = ((X + j : Nat) : Int) + 1) := hidIt (by omega)
    have he1 : Hid (a ≤ X + j ↔ (a : Int) ≤ ((X + j : Nat) : Int)) := hidIt (by omega)
    have he2 : Hid (X + j < a + l ↔ ((X + j : Nat) : Int) < (a : Int) + (l : Int)) := hidIt (by omega)
    have hdec : Hid (X + mn - (X + j + 1) < X + mn - (X + j)) := hidIt (by omega)
    have hnn := hidIt (rfl : X + (j + 1) = X + j + 1)
    generalize insN X a l j = U at *
    generalize hYq : X + j = Y at *
    replace hYq := hidIt hYq
    clear he1 he2
    by_cases h1 : a ≤ Y
    · by_cases h2 : Y < a + l
      · rw [if_pos ⟨h1, h2⟩] at hx
        have h1' : (a : Int) ≤ (Y : Int) := by omega
        have h2' : (Y : Int) < (a : Int) + (l : Int) := by omega
        go_wp2
        go_roundw
        case rel => exact ⟨j + 1, by omega, by have := hYq.out; go_num, by have := hYq.out; rw [hx.out]; go_num, hF⟩
        case measure => have := hYq.out; simp [intOf]; omega
      · rw [if_neg (fun e => h2 e.2)] at hx
        have h1' : (a : Int) ≤ (Y : Int) := by omega
        have h2' : ¬ (Y : Int) < (a : Int) + (l : Int) := by omega
        go_wp2
        go_roundw
        case rel => exact ⟨j + 1, by omega, by have := hYq.out; go_num, by have := hYq.out; rw [hx.out]; go_num, hF⟩
        case measure => simp [intOf]; omega
    · rw [if_neg (fun e => h1 e.1)] at hx
      have h1' : ¬ (a : Int) ≤ (Y : Int) := by omega
      go_wp2
      go_roundw
      case rel => exact ⟨j + 1, by omega, by have := hYq.out; go_num, by rw [hx.out]; rfl, hF⟩
      case measure => simp [intOf]; omega
  have hke : j = mn := by omega
  subst hke
  have hR' := hR.out
  subst hR'
  have hlt' : ¬ ((X + j : Nat) : Int) < (X : Int) + (j : Int) := by omega
  clear hlt hR hx hy
  generalize ((X + j : Nat) : Int) = Y at *
  go_wp2
  go_ret
  exact ⟨rfl, hfa.trans0 hF⟩
end
end Go.Proofs.YtilhbjjjmdnjmaaGreat
