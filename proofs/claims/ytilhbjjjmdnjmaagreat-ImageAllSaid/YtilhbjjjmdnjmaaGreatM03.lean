/-
  Rows of bytes, and texts, as lists of bytes; a number's bytes.
-/
import Derived.Test.YtilhbjjjmdnjmaaGreatM02
import Derived.Test.YtilhbjjjmdnjmaaGreatProg
import Derived.Laws.BytesArg
import Derived.Laws.IdiomStrings
import Derived.Test.YtilhbjjjmdnjmaaGreatM00
import Derived.BigQuiet
import Derived.Deep.QuietTactic
import Derived.Laws.Strings3
import Derived.Laws.DeepStrings4
import Derived.Laws.OwnMore
namespace Go.Proofs.YtilhbjjjmdnjmaaGreat
open Go.RowKit

/-- a byte's cell -/
abbrev byC (b : UInt8) : List Value := [.int .u8 (b.toNat : Int)]
abbrev SlY := SlF byC
/-- a text -/
def strL (l : List UInt8) : Value := .string ⟨l.toArray⟩
theorem by_one {b : UInt8} : ∀ u ∈ byC b, u.oneCell' = true := by
  intro u hu
  simp at hu
  subst hu
  rfl
theorem flatY_length (l : List UInt8) : (l.flatMap byC).length = l.length := by induction l <;> simp_all
theorem SlY.at {w : World} {a : Option Addr} {cap n : Nat} {l : List UInt8} (h : SlY w (.slice a n cap) l) {i : Nat} (hi : i < l.length) : ∃ b off, a = some ⟨b, off, none⟩ ∧ b < w.heap.size ∧
    w.cell? ⟨b, off + i, none⟩ = some (.int .u8 ((l.getD i 0).toNat : Int)) := by
  obtain ⟨a', cap', hv, _, _, hc⟩ := h.open
  cases hv
  obtain ⟨b, off, rfl, hb, hc⟩ := hc 1 (fun _ => rfl) (by omega) i _ (getD_some 0 hi)
  have := hc 0 _ rfl
  rw [Nat.mul_one, Nat.add_zero] at this
  exact ⟨b, off, rfl, hb, this⟩
theorem infoY : (Tryz.prog.info? 5).map (fun i => (i.zero, i.size, i.bytes)) = some (some (.int .u8 0), 1, 1) := by kernel_rfl
/-- 'out = append(out, l...)', out the call's own slice; where it lies behind it -/
theorem wpList_append_slL {P : Program} (T E : TypeId) (z : Value) (size bytes : Nat) (ht : P.underlying T = some (.slice E)) (hinfo : (P.info? E).map (fun i => (i.zero, i.size, i.bytes)) = some (some z, size, bytes))
    (hzs : z.cells.size = size) (hsz : 0 < size) (hby : bytes ≤ 4096) {ops : Array Oper} {rest : List Oper} {o : Oper} {a : Act} {Q : Exit → Act → World → Prop} {w : World} (hgd : o.guard = none) (s x : Operand)
    (ho : o.op = .call { callee := .builtin .append, args := #[s, x], argTypes := #[T, T] }) (base : Nat) (v : Value) (n : Nat) (xs : List Value) (hs : a.eval s = v) (hown : w.ownsRow base E size v n xs)
    (u : Value) (m : Nat) (news : List Value) (hu : Sl w u m news) (hok : okV u) (hl : news.length = m * size) (h1 : ∀ y ∈ news, y.oneCell' = true) (hx : a.eval x = u) (hn : n ≤ 4294967296) (hm : m ≤ 4294967296) (hbase : base ≤ w.heap.size)
    (h : ∀ v' w', w'.ownsRow base E size v' (n + m) (xs ++ news) → w.grownBy w' v.ownBlock → (v'.ownBlock = v.ownBlock ∨ v'.ownBlock = some w.heap.size) → wpList P ops Q rest (a.put o.dst v') w') : wpList P ops Q (o :: rest) a w := by
  obtain ⟨i0, hi, hz0, hz1, hz2⟩ := info_parts hinfo
  obtain ⟨ad, cap, rfl, hmc, hcm, hc⟩ := hu
  cases ad with
  | none =>
    have hcap := hok _ _ rfl
    subst hcap
    have hm0 : m = 0 := by omega
    subst hm0
    have hnews : news = [] := List.eq_nil_of_length_eq_zero (by rw [hl, Nat.zero_mul])
    subst hnews
    refine wpList_append_own_none hgd s x T ho base E i0 size ht hi v n xs hs hown hx (h v w (by rw [List.append_nil]; exact hown) ⟨rfl, rfl, rfl, Nat.le_refl _, fun _ _ _ => rfl⟩ (.inl rfl))
  | some ad =>
    refine wpList_append_own_at w hgd s x T ho base E i0 z size bytes ht hi hz0 hz1 hz2 hzs hsz v n xs hs hown ad m cap news hx hl (fun j y hy => ?_) h1 (by unfold maxLen; omega) ?_ hbase (fun v' w' g1 g2 _ g4 => h v' w' g1 g2 g4)
    · rcases hc with he | ⟨b, off, hab, hb, hc⟩
      · rw [he] at hy; cases hy
      · cases hab
        have hadd : (⟨b, off, none⟩ : Addr).add j = ⟨b, off + j, none⟩ := by unfold Addr.add; split <;> simp_all
        rw [hadd]
        exact hc j y hy
    · have : (n + m) * bytes ≤ 8589934592 * 4096 := Nat.mul_le_mul (by omega) hby
      omega
/-! ### a number's bytes -/
/-- the W last bytes of a number, the greatest first -/
def numL : Nat → Nat → List UInt8
  | 0, _ => []
  | W + 1, n => numL W (n / 256) ++ [UInt8.ofNat n]
theorem numL_length : ∀ (W n : Nat), (numL W n).length = W
  | 0, _ => rfl
  | W + 1, n => by simp [numL, numL_length W]
theorem numL_getD : ∀ (W n i : Nat), i < W → (numL W n).getD i 0 = UInt8.ofNat (n / 256 ^ (W - 1 - i))
  | W + 1, n, i, h => by
    unfold numL
    rw [List.getD_eq_getElem?_getD]
    by_cases hi : i < W
    · rw [List.getElem?_append_left (by rw [numL_length]; exact hi), ← List.getD_eq_getElem?_getD, numL_getD W (n / 256) i hi, Nat.div_div_eq_div_mul]
      congr 2
      rw [show W + 1 - 1 - i = (W - 1 - i) + 1 by omega, Nat.pow_succ, Nat.mul_comm]
    · have : i = W := by omega
      subst this
      rw [List.getElem?_append_right (by rw [numL_length]; exact Nat.le_refl _), numL_length, Nat.sub_self]
      simp
theorem numL_take {W n i : Nat} (h : i < W) : (numL W n).take (i + 1) = (numL W n).take i ++ [UInt8.ofNat (n / 256 ^ (W - 1 - i))] := by
  have hl : i < (numL W n).length := by rw [numL_length]; exact h
  have hg : (numL W n)[i] = (numL W n).getD i 0 := by rw [List.getD_eq_getElem?_getD, List.getElem?_eq_getElem hl]; rfl
  rw [List.take_succ_eq_append_getElem hl, hg, numL_getD W n i h]
/-- the number of bytes -/
def valL (l : List UInt8) : Nat := l.foldl (fun n b => n * 256 + b.toNat) 0
theorem valL_snoc (l : List UInt8) (b : UInt8) : valL (l ++ [b]) = valL l * 256 + b.toNat := by simp [valL]
theorem ofNat_toNat (n : Nat) : (UInt8.ofNat n).toNat = n % 256 := by simp
theorem valL_numL : ∀ (W n : Nat), valL (numL W n) = n % 256 ^ W
  | 0, n => by simp [numL, valL, Nat.mod_one]
  | W + 1, n => by
    unfold numL
    rw [valL_snoc, valL_numL W, ofNat_toNat, Nat.pow_succ]
    have h1 := Nat.div_add_mod n 256
    have h2 : n % (256 ^ W * 256) = n / 256 % 256 ^ W * 256 + n % 256 := by
      rw [Nat.mul_comm (256 ^ W) 256, Nat.mod_mul]
      omega
    omega
theorem snoc_ind {α : Type} {p : List α → Prop} (h0 : p []) (h1 : ∀ l b, p l → p (l ++ [b])) : ∀ l, p l := by
  intro l
  rw [← List.reverse_reverse l]
  generalize l.reverse = r
  induction r with
  | nil => exact h0
  | cons b r ih => rw [List.reverse_cons]; exact h1 _ _ ih
theorem valL_lt : ∀ (l : List UInt8), valL l < 256 ^ l.length := by
  refine snoc_ind (by simp [valL]) fun l b ih => ?_
  · rw [valL_snoc, List.length_append, List.length_singleton, Nat.pow_succ]
    have := b.toNat_lt
    omega
theorem numL_valL : ∀ (l : List UInt8), numL l.length (valL l) = l := by
  refine snoc_ind rfl fun l b ih => ?_
  · rw [List.length_append, List.length_singleton]
    unfold numL
    rw [valL_snoc]
    have hb := b.toNat_lt
    rw [show (valL l * 256 + b.toNat) / 256 = valL l by omega, ih]
    congr 2
    apply UInt8.toNat_inj.1
    rw [ofNat_toNat]
    omega
theorem numL_inj {W n m : Nat} (h : numL W n = numL W m) (hn : n < 256 ^ W) (hm : m < 256 ^ W) : n = m := by
  have := congrArg valL h
  rwa [valL_numL, valL_numL, Nat.mod_eq_of_lt hn, Nat.mod_eq_of_lt hm] at this
/-! ### from bytes to texts -/
theorem conv_str {w : World} {v : Value} {l : List UInt8} (h : SlY w v l) : (convert 40 9 v).run Tryz.prog w = .ok (strL l) w := by
  obtain ⟨a, cap, rfl, h1, h2, hc⟩ := h.open
  cases a with
  | none =>
    have hl : l = [] := by
      cases l with
      | nil => rfl
      | cons x l =>
        obtain ⟨b, off, he, _⟩ := hc 1 (fun _ => rfl) (by omega) 0 x rfl
        cases he
    subst hl
    exact run_convert_bytes_nil (P := Tryz.prog) w _ _ Tryz.underlying40 Tryz.underlying5 _ _ _ Tryz.underlying9
  | some a =>
    refine run_convert_bytes_back (P := Tryz.prog) w _ _ _ a cap l Tryz.underlying40 Tryz.underlying5 Tryz.underlying9 fun j hj => ?_
    obtain ⟨b, off, he, _, hc2⟩ := hc 1 (fun _ => rfl) (by omega) j l[j] (List.getElem?_eq_getElem hj)
    cases he
    have hadd : (⟨b, off, none⟩ : Addr).add j = ⟨b, off + j, none⟩ := by unfold Addr.add; split <;> simp_all
    have := hc2 0 _ rfl
    rw [hadd, ← this, Nat.mul_one, Nat.add_zero]
theorem str_eq (a : ByteArray) : Value.string a = strL a.data.toList := by
  unfold strL
  congr 1
theorem strL_inj {l l' : List UInt8} (h : strL l = strL l') : l = l' := by
  unfold strL at h
  have := congrArg (fun v => match v with | .string a => a.data.toList | _ => []) h
  simpa using this
end Go.Proofs.YtilhbjjjmdnjmaaGreat

namespace Go.Proofs.YtilhbjjjmdnjmaaGreat
open Go.RowKit

abbrev natC (x : Nat) : List Value := [.int .i64 (x : Int)]
theorem nat_one {x : Nat} : ∀ u ∈ natC x, u.oneCell' = true := by
  intro u hu
  simp at hu
  subst hu
  rfl
theorem flatN_length (l : List Nat) : (l.flatMap natC).length = l.length := by induction l <;> simp_all
theorem flatN_at (l : List Nat) (i : Nat) (h : i < l.length) : (l.flatMap natC)[i]? = some (.int .i64 (l.getD i 0 : Nat)) := by
  have := flat_at natC 1 (fun _ => rfl) l i 0 (by omega)
  rw [Nat.mul_one, Nat.add_zero, getD_some 0 h] at this
  exact this
theorem flatN_set (l : List Nat) (i x : Nat) : (l.set i x).flatMap natC = (l.flatMap natC).set i (.int .i64 (x : Int)) := by
  apply List.ext_getElem?
  intro k
  have h1 := flat_at natC 1 (fun _ => rfl) (l.set i x) k 0 (by omega)
  have h2 := flat_at natC 1 (fun _ => rfl) l k 0 (by omega)
  rw [Nat.mul_one, Nat.add_zero] at h1 h2
  rw [h1, List.getElem?_set, List.getElem?_set, flatN_length, h2]
  by_cases e : i = k
  · subst e
    by_cases hi : i < l.length
    · rw [if_pos rfl, if_pos rfl, if_pos hi]; simp [hi]
    · rw [if_pos rfl, if_pos rfl, if_neg hi]; simp [hi]
  · rw [if_neg e, if_neg e]
/-- Block nb holds counts, whose row is rv. -/
structure CntW (w : World) (nb : Nat) (rv : Value) (n : List Nat) : Prop where
  blk : Blk w nb [rv] 126
  row : w.ownsRow 0 3 1 rv n.length (n.flatMap natC)
  len : n.length ≤ 512
  big : ∀ x ∈ n, x ≤ 65535
section
variable {w w' : World} {nb : Nat} {rv : Value} {n : List Nat}
theorem CntW.fr {L : List Nat} (h : CntW w nb rv n) (hf : Fr L w w') (h1 : nb ∉ L) (h2 : ∀ k, rv.ownBlock = some k → k ∉ L) : CntW w' nb rv n := ⟨h.blk.fr hf h1, owns_fr h.row hf h2, h.len, h.big⟩
theorem CntW.fr0 (h : CntW w nb rv n) (hf : Fr [] w w') : CntW w' nb rv n := h.fr hf (by simp) (by simp)
theorem CntW.open (h : CntW w nb rv n) : ∃ a c, rv = .slice a n.length c ∧ c ≤ maxLen := by
  obtain ⟨a, c, h1, _, h3, _⟩ := Sl.of_owns h.row
  exact ⟨a, c, h1, h3⟩
theorem CntW.at (h : CntW w nb rv n) {i : Nat} (hi : i < n.length) : ∃ g c, rv = .slice (some ⟨g, 0, none⟩) n.length c ∧ g < w.heap.size ∧ g ≠ nb ∧ w.cell? ⟨g, i, none⟩ = some (.int .i64 (n.getD i 0 : Nat)) ∧ w.frozen? ⟨g, i, none⟩ = false := by
  obtain ⟨g, c, rfl, _, _⟩ := owns_succ h.row (by omega)
  have h1 := owns_at h.row (flatN_at n i hi)
  refine ⟨g, c, rfl, (h.row.lt g rfl).2, ?_, h1⟩
  rintro rfl
  have h2 := h.blk.cell i
  rw [h1.1] at h2
  cases i with
  | zero => cases h2
  | succ i => cases h2
theorem CntW.put {g c : Nat} (h : CntW w nb (.slice (some ⟨g, 0, none⟩) n.length c) n) (hg : g ≠ nb) (k x : Nat) (hx : x ≤ 65535) : CntW (w.setCell ⟨g, k, none⟩ (.int .i64 (x : Int))) nb (.slice (some ⟨g, 0, none⟩) n.length c) (n.set k x) := by
  refine ⟨h.blk.other (by simpa using hg.symm) _, ?_, by rw [List.length_set]; exact h.len, fun y hy => ?_⟩
  · rw [flatN_set, List.length_set]
    exact owns_put h.row k _
  · rcases List.mem_or_eq_of_mem_set hy with hy | rfl
    · exact h.big y hy
    · exact hx
end
section
variable (nb : Nat) (rv : Value) (n : List Nat) (w : World) (h : CntW w nb rv n)
include h
set_option maxHeartbeats 800000 in
theorem cLen_calls : Calls Tryz.prog 61 #[.pointer (some ⟨nb, 0, none⟩)] w fun e w' => e = .returned (.int .i64 n.length) ∧ w = w' := by
  have c := h.blk.cell
  obtain ⟨a, cap, rfl, _⟩ := h.open
  go_enter Tryz.func61, Tryz.ntmps61
  go_wp2
  go_ret
  exact ⟨rfl, rfl⟩
set_option maxHeartbeats 800000 in
theorem cIs_calls (x : Int) : Calls Tryz.prog 96 #[.pointer (some ⟨nb, 0, none⟩), .int .i64 x] w fun e w' => e = .returned (.bool (decide (0 ≤ x) && decide (x < n.length))) ∧ w = w' := by
  have c := h.blk.cell
  obtain ⟨a, cap, rfl, _⟩ := h.open
  by_cases h0 : 0 ≤ x
  · rw [decide_eq_true h0, Bool.true_and]
    go_enter Tryz.func96, Tryz.ntmps96
    go_wp2
    go_ret
    exact ⟨rfl, rfl⟩
  · rw [decide_eq_false h0, Bool.false_and]
    go_enter Tryz.func96, Tryz.ntmps96
    go_wp2
    go_ret
    exact ⟨rfl, rfl⟩
set_option maxHeartbeats 800000 in
theorem cAt_calls (x : Nat) (hx : x < n.length) : Calls Tryz.prog 62 #[.pointer (some ⟨nb, 0, none⟩), .int .i64 (x : Int)] w fun e w' => e = .returned (.int .i64 (n.getD x 0 : Nat)) ∧ w = w' := by
  have c := h.blk.cell
  have kI := cIs_calls nb rv n w h x
  have hd : (decide ((0 : Int) ≤ (x : Int)) && decide ((x : Int) < n.length)) = true := by simp; omega
  rw [hd] at kI
  obtain ⟨g, cap, rfl, hg, hne, d, _⟩ := h.at hx
  clear h hd
  generalize n.getD x 0 = y at *
  go_enter Tryz.func62, Tryz.ntmps62
  go_wp2_with fail
  refine kI.mono ?_
  rintro e w1 ⟨rfl, rfl⟩
  go_wp2
  go_ret
  exact ⟨rfl, rfl⟩
end
theorem freeN_snoc (l : List Nat) (x : Nat) : freeN (l ++ [x]) = freeN l + (if x = 0 then 1 else 0) := by
  unfold freeN
  rw [List.countP_append]
  simp [List.countP_cons]
theorem freeN_take {l : List Nat} {k : Nat} (hk : k < l.length) : freeN (l.take (k + 1)) = freeN (l.take k) + (if l.getD k 0 = 0 then 1 else 0) := by
  rw [List.take_succ_eq_append_getElem hk, freeN_snoc, List.getD_eq_getElem?_getD, List.getElem?_eq_getElem hk]
  rfl
theorem freeN_le (l : List Nat) : freeN l ≤ l.length := List.countP_le_length
set_option maxRecDepth 100000 in
set_option maxHeartbeats 1600000 in
theorem cFree_calls (nb : Nat) (rv : Value) (n : List Nat) (w : World) (h : CntW w nb rv n) : Calls Tryz.prog 65 #[.pointer (some ⟨nb, 0, none⟩)] w fun e w' => e = .returned (.int .i64 (freeN n : Nat)) ∧ w = w' := by
  have c := h.blk.cell
  obtain ⟨a, cap, rfl, _⟩ := h.open
  have hlen := h.len
  go_enter Tryz.func65, Tryz.ntmps65
  go_wp2
  go_loop [3, 11] (fun u i => ∃ k : Nat, k ≤ n.length ∧ i = .int .i64 k ∧ u = .int .i64 (freeN (n.take k) : Nat)) (fun _ i => n.length - (intOf i).toNat)
  case atStart => exact ⟨0, Nat.zero_le _, rfl, rfl⟩
  case round =>
    obtain ⟨k, hk, rfl, rfl⟩ := hrel
    by_cases hlt : k < n.length
    · obtain ⟨g, cap', hrv, hg, hne, d, _⟩ := h.at hlt
      cases hrv
      have hle : freeN (n.take k) ≤ 512 := by have := freeN_le (n.take k); have := List.length_take_le k n; omega
      have Hs := hidIt (freeN_take hlt)
      clear h
      generalize n.getD k 0 = x at *
      by_cases hx : x = 0
      · subst hx
        have hs : (freeN (n.take k) : Int) + 1 = (freeN (n.take (k + 1)) : Nat) := by rw [Hs.out, if_pos rfl]; omega
        have HS := hidIt hs
        clear hs Hs
        generalize freeN (n.take k) = q at *
        go_wp2
        go_round
        case rel => exact ⟨k + 1, by omega, by go_num, by rw [HS.out]⟩
        case measure => simp [intOf]; omega
      · have hx' : ((x : Int) == 0) = false := by simpa using hx
        have hs : freeN (n.take (k + 1)) = freeN (n.take k) := by rw [Hs.out, if_neg hx]; rfl
        have HS := hidIt hs
        clear hs Hs hx
        go_wp2
        go_round
        case rel => exact ⟨k + 1, by omega, by go_num, by rw [HS.out]⟩
        case measure => simp [intOf]; omega
    · have hke : k = n.length := by omega
      subst hke
      go_wp2
      go_ret
      exact ⟨rfl, rfl⟩
theorem fr1_at {n : List Nat} {k : Nat} (hk : k < n.length) (h0 : n.getD k 0 = 0) (hlt : ∀ j, j < k → n.getD j 0 ≠ 0) : fr1 n = k := by
  have hg : n[k] = n.getD k 0 := by rw [List.getD_eq_getElem?_getD, List.getElem?_eq_getElem hk]; rfl
  refine (List.findIdx_eq hk).2 ⟨by rw [hg, h0]; rfl, fun j hj => ?_⟩
  have hj2 : j < n.length := by omega
  have := hlt j hj
  rw [List.getD_eq_getElem?_getD, List.getElem?_eq_getElem hj2] at this
  simpa using this
def takePost (w : World) (nb : Nat) (rv : Value) (n : List Nat) (e : Ending) (w' : World) : Prop :=
  ∃ g c, rv = .slice (some ⟨g, 0, none⟩) n.length c ∧ e = .returned (.tuple #[.int .i64 (fr1 n : Nat), .int .i64 0]) ∧ CntW w' nb rv (n.set (fr1 n) 1) ∧ Fr [g] w w'
set_option maxRecDepth 100000 in
set_option maxHeartbeats 1600000 in
theorem cTake_calls (nb : Nat) (rv : Value) (n : List Nat) (w : World) (h : CntW w nb rv n) (hf : 0 < freeN n) : Calls Tryz.prog 86 #[.pointer (some ⟨nb, 0, none⟩)] w (takePost w nb rv n) := by
  have c := h.blk.cell
  have hlen := h.len
  have hpos : 0 < n.length := by have := freeN_le n; omega
  obtain ⟨g, cap, rfl, hg, hne, _⟩ := h.at hpos
  have Hno : Hid (¬ ∀ j, j < n.length → n.getD j 0 ≠ 0) := hidIt (fun hall => by
    unfold freeN at hf
    obtain ⟨x, hx, h0⟩ := List.countP_pos_iff.1 hf
    obtain ⟨j, hj, rfl⟩ := List.mem_iff_getElem.1 hx
    have := hall j hj
    rw [List.getD_eq_getElem?_getD, List.getElem?_eq_getElem hj] at this
    exact this (by simpa using h0))
  clear hf
  go_enter Tryz.func86, Tryz.ntmps86
  go_wp2
  go_loop [10] (fun i => ∃ k : Nat, k ≤ n.length ∧ i = .int .i64 k ∧ ∀ j, j < k → n.getD j 0 ≠ 0) (fun i => n.length - (intOf i).toNat)
  case atStart => exact ⟨0, Nat.zero_le _, rfl, fun j hj => by omega⟩
  case round =>
    obtain ⟨k, hk, rfl, hall⟩ := hrel
    by_cases hlt : k < n.length
    · obtain ⟨g', cap', hrv, _, _, d, f⟩ := h.at hlt
      cases hrv
      have hput := h.put hne k 1 (by omega)
      have Hf := hidIt (fun h0 => fr1_at hlt h0 hall)
      have Hn : Hid (n.getD k 0 ≠ 0 → ∀ j, j < k + 1 → n.getD j 0 ≠ 0) := hidIt (fun h0 j hj => by
        by_cases e : j = k
        · subst e; exact h0
        · exact hall j (by omega))
      clear hall h
      obtain ⟨x, hx⟩ : ∃ x, n.getD k 0 = x := ⟨_, rfl⟩
      rw [hx] at d Hf Hn
      clear hx
      by_cases h0 : x = 0
      · subst h0
        have HF := hidIt (Hf.out rfl)
        clear Hf Hn
        go_wp2
        go_ret2
        exact ⟨g, cap, rfl, by rw [HF.out]; rfl, by rw [HF.out]; exact hput, (Fr.refl [g] w).setCell (.inl (by simp)) _⟩
      · have hx' : ((x : Int) == 0) = false := by simpa using h0
        have HN := hidIt (Hn.out h0)
        clear Hf Hn h0
        go_wp2
        go_round
        case rel => exact ⟨k + 1, by omega, by go_num, HN.out⟩
        case measure => simp [intOf]; omega
    · have hke : k = n.length := by omega
      subst hke
      exact absurd hall Hno.out
def cntPost (w : World) (nb : Nat) (rv : Value) (n : List Nat) (v : Value) (e : Ending) (w' : World) : Prop :=
  ∃ g c, rv = .slice (some ⟨g, 0, none⟩) n.length c ∧ e = .returned v ∧ CntW w' nb rv n ∧ Fr [g] w w'
set_option maxRecDepth 100000 in
set_option maxHeartbeats 1600000 in
theorem cMore_calls (nb : Nat) (rv : Value) (n : List Nat) (w : World) (h : CntW w nb rv n) (k : Nat) (h0 : 0 < n.getD k 0) (h1 : n.getD k 0 < 65535) :
    Calls Tryz.prog 93 #[.pointer (some ⟨nb, 0, none⟩), .int .i64 (k : Int)] w (cntPost w nb rv (n.set k (n.getD k 0 + 1)) (.int .i64 0)) := by
  have hk : k < n.length := getD_posN h0
  have c := h.blk.cell
  have kI := cIs_calls nb rv n w h k
  have hd : (decide ((0 : Int) ≤ (k : Int)) && decide ((k : Int) < n.length)) = true := by simp; omega
  rw [hd] at kI
  obtain ⟨g, cap, rfl, hg, hne, d, f⟩ := h.at hk
  have hput := h.put hne k (n.getD k 0 + 1) (by omega)
  have hl : (n.set k (n.getD k 0 + 1)).length = n.length := List.length_set
  have e0 : ((n.getD k 0 : Nat) : Int) ≠ 0 := by omega
  have e1 : (((n.getD k 0 : Nat) : Int) == 0) = false := by simpa using e0
  have e2 : (((n.getD k 0 : Nat) : Int) == 65535) = false := by
    have : ((n.getD k 0 : Nat) : Int) ≠ 65535 := by omega
    simpa using this
  have HP := hidIt hput
  have HL := hidIt hl
  clear h hd hput hl e0
  generalize n.getD k 0 = x at *
  have HN : Hid (∀ X, X = w.setCell ⟨g, k, none⟩ (.int .i64 (x + 1)) → CntW X nb (.slice (some ⟨g, 0, none⟩) n.length cap) (n.set k (x + 1))) := hidIt (fun X hX => by subst hX; have := HP.out; push_cast at this; exact this)
  go_enter Tryz.func93, Tryz.ntmps93
  go_wp2_with (first
    | (go_at_call 96; refine kI.mono ?_; rintro e w1 ⟨rfl, rfl⟩)
    | go_in)
  go_ret
  exact ⟨g, cap, by rw [HL.out], rfl, HN.out _ rfl, (Fr.refl [g] w).setCell (.inl (by simp)) _⟩
set_option maxRecDepth 100000 in
set_option maxHeartbeats 1600000 in
theorem cLess_calls (nb : Nat) (rv : Value) (n : List Nat) (w : World) (h : CntW w nb rv n) (k : Nat) (h0 : 0 < n.getD k 0) :
    Calls Tryz.prog 89 #[.pointer (some ⟨nb, 0, none⟩), .int .i64 (k : Int)] w (cntPost w nb rv (n.set k (n.getD k 0 - 1)) (.tuple #[.int .i64 ((n.getD k 0 - 1 : Nat) : Int), .int .i64 0])) := by
  have hk : k < n.length := getD_posN h0
  have c := h.blk.cell
  have kI := cIs_calls nb rv n w h k
  have hd : (decide ((0 : Int) ≤ (k : Int)) && decide ((k : Int) < n.length)) = true := by simp; omega
  rw [hd] at kI
  obtain ⟨g, cap, rfl, hg, hne, d, f⟩ := h.at hk
  have hbig : n.getD k 0 ≤ 65535 := h.big _ (by rw [List.getD_eq_getElem?_getD, List.getElem?_eq_getElem hk]; exact List.getElem_mem hk)
  have hput := h.put hne k (n.getD k 0 - 1) (by omega)
  have hl : (n.set k (n.getD k 0 - 1)).length = n.length := List.length_set
  have e1 : (((n.getD k 0 : Nat) : Int) == 0) = false := by
    have : ((n.getD k 0 : Nat) : Int) ≠ 0 := by omega
    simpa using this
  have HP := hidIt hput
  have HL := hidIt hl
  clear h hd hput hl
  generalize n.getD k 0 = x at *
  have hx1 : ((x - 1 : Nat) : Int) = (x : Int) + -1 := by omega
  have HN : Hid (∀ X, X = w.setCell ⟨g, k, none⟩ (.int .i64 (x + -1)) → CntW X nb (.slice (some ⟨g, 0, none⟩) n.length cap) (n.set k (x - 1))) := hidIt (fun X hX => by subst hX; have := HP.out; rw [hx1] at this; exact this)
  rw [hx1]
  clear hx1
  go_enter Tryz.func89, Tryz.ntmps89
  go_wp2_with (first
    | (go_at_call 96; refine kI.mono ?_; rintro e w1 ⟨rfl, rfl⟩)
    | go_in)
  go_ret2
  exact ⟨g, cap, by rw [HL.out], rfl, HN.out _ rfl, (Fr.refl [g] w).setCell (.inl (by simp)) _⟩
end Go.Proofs.YtilhbjjjmdnjmaaGreat

namespace Go.Proofs.YtilhbjjjmdnjmaaGreat
open Go.RowKit

theorem len_str (l : List UInt8) (ty : TypeId) (X : World) : (Builtin.len_ #[9] ty #[strL l]).run Tryz.prog X = .ok (goInt l.length) X := by
  unfold strL
  rw [run_len_string (P := Tryz.prog) X _ _ _ Tryz.underlying9]
  rfl
theorem extract_str (l : List UInt8) (a b : Nat) : (ByteArray.mk l.toArray).extract a b = ⟨((l.drop a).take (b - a)).toArray⟩ := ByteArray.extract_mk l a b
theorem size_str (l : List UInt8) : (ByteArray.mk l.toArray).size = l.length := by simp [ByteArray.size]
/-- s[:n] -/
theorem to_str {l : List UInt8} {n : Nat} (h : n ≤ l.length) (X : World) : (Instr.slice 9 (strL l) none (some (.int .i64 (n : Int))) none).run Tryz.prog X = .ok (strL (l.take n)) X := by
  unfold strL
  rw [run_slice_string_to_if (P := Tryz.prog) X _ _ _ _ Tryz.underlying9, if_pos ⟨by omega, by rw [size_str]; omega⟩, extract_str]
  simp
/-- s[n:] -/
theorem from_str {l : List UInt8} {n : Nat} (h : n ≤ l.length) (X : World) : (Instr.slice 9 (strL l) (some (.int .i64 (n : Int))) none none).run Tryz.prog X = .ok (strL (l.drop n)) X := by
  unfold strL
  rw [run_slice_string_from_if (P := Tryz.prog) X _ _ _ _ Tryz.underlying9, if_pos ⟨by omega, by rw [size_str]; omega⟩, extract_str, size_str]
  rw [List.take_of_length_le (by simp)]
  simp
/-- s[a:b] -/
theorem part_str {l : List UInt8} {a b : Nat} (h1 : a ≤ b) (h2 : b ≤ l.length) (X : World) : (Instr.slice 9 (strL l) (some (.int .i64 (a : Int))) (some (.int .i64 (b : Int))) none).run Tryz.prog X = .ok (strL ((l.drop a).take (b - a))) X := by
  unfold strL
  rw [run_slice_string_if (P := Tryz.prog) X _ _ _ _ _ _ Tryz.underlying9, if_pos ⟨by omega, by rw [size_str]; omega⟩, if_pos ⟨by omega, by omega⟩, extract_str]
  simp
theorem at_str {l : List UInt8} {i : Nat} (h : i < l.length) (X : World) : (Instr.index 9 (strL l) (.int .i64 (i : Int))).run Tryz.prog X = .ok (.int .u8 ((l.getD i 0).toNat : Int)) X := by
  unfold strL
  rw [run_index_string (P := Tryz.prog) X _ _ _ _ Tryz.underlying9, dif_pos ⟨by omega, by rw [size_str]; omega⟩]
  rw [List.getD_eq_getElem?_getD, List.getElem?_eq_getElem h]
  simp [ByteArray.getElem_eq_getElem_data]
theorem eql_str (T : TypeId) (a b : List UInt8) : binOp .eql T (strL a) (strL b) = pure (.bool (decide (a = b))) := by
  unfold strL
  rw [binOp_string_eql, ByteArray.toList_mk, ByteArray.toList_mk]
  congr 2
  by_cases h : a = b <;> simp [h]
theorem neq_str (T : TypeId) (a b : List UInt8) : binOp .neq T (strL a) (strL b) = pure (.bool (!decide (a = b))) := by
  unfold strL
  rw [binOp_string_neq, ByteArray.toList_mk, ByteArray.toList_mk]
  congr 3
  by_cases h : a = b <;> simp [h]
theorem lss_str (T : TypeId) (a b : List UInt8) : binOp .lss T (strL a) (strL b) = pure (.bool (Op.bytesLess a b)) := by
  unfold strL
  rw [binOp_string_lss, ByteArray.toList_mk, ByteArray.toList_mk]
theorem store_str {P : Program} (l : List UInt8) (a : Addr) (m : Mode) (w : World) : (store a (strL l) m).run P w = stored P w a (strL l) m := run_store P w a _ m rfl
theorem cells_str (l : List UInt8) : (strL l).cells = #[strL l] := rfl
theorem guard_str (op : BinOp) (x y : Operand) (a b : List UInt8) (w : World) : (eqGuard op 9 x y (strL a) (strL b)).run Tryz.prog w = .ok () w := by
  unfold strL eqGuard
  simp [go_sem]
end Go.Proofs.YtilhbjjjmdnjmaaGreat

namespace Go.Proofs.YtilhbjjjmdnjmaaGreat
open Go.RowKit

theorem infoN : (Tryz.prog.info? 3).map (fun i => (i.zero, i.size, i.bytes)) = some (some (.int .i64 0), 1, 8) := by kernel_rfl
/-- a snapshot's cells: its name, and where its table lies -/
abbrev snC (p : By × Nat) : List Value := [strL p.1, .pointer (some ⟨p.2, 0, none⟩)]
theorem infoSn : (Tryz.prog.info? 113).map (fun i => (i.zero, i.size, i.bytes)) = some (some (.agg #[.string ⟨#[]⟩, .pointer none]), 2, 24) := by kernel_rfl
theorem sn_one {p : By × Nat} : ∀ u ∈ snC p, u.oneCell' = true := by
  intro u hu
  simp only [List.mem_cons, List.not_mem_nil, or_false] at hu
  rcases hu with rfl | rfl <;> rfl
theorem flatSn_length (g : List (By × Nat)) : (g.flatMap snC).length = g.length * 2 := by
  induction g with
  | nil => rfl
  | cons x g ih => rw [List.flatMap_cons, List.length_append, ih, List.length_cons]; simp; omega
theorem flatN_length1 (l : List Nat) : (l.flatMap natC).length = l.length * 1 := by rw [flatN_length, Nat.mul_one]
theorem flatY_length1 (l : List UInt8) : (l.flatMap byC).length = l.length * 1 := by rw [flatY_length, Nat.mul_one]
set_option maxRecDepth 100000 in
theorem CloneI_calls (u : Value) (l : List (Nat)) (w : World) (hs : SlF natC w u l) (hl : l.length ≤ 1048576) :
    Calls Tryz.prog 108 #[u] w fun e w' => ∃ v, e = .returned v ∧ w'.ownsRow w.heap.size 3 1 v l.length (l.flatMap natC) ∧ Fr [] w w' := by
  obtain ⟨i0, hi, hz0, hz1, hz2⟩ := info_parts infoN
  have hs0 := hs
  obtain ⟨a, cap, rfl, hmc, hcm, hc⟩ := hs
  cases a with
  | none =>
    have hn : l = [] := by
      rcases hc with h | ⟨b, off, h, _⟩
      · have := congrArg List.length h
        rw [flatN_length1] at this
        exact List.eq_nil_of_length_eq_zero (by rw [List.length_nil] at this; omega)
      · cases h
    subst hn
    have hq : ∀ (w : World), (binOp .eql 57 (.slice none 0 cap) (.slice none 0 0)).run Tryz.prog w = .ok (.bool true) w := fun w => Lib.run_eql_slice_nil w _ 3 none 0 cap 0 0 Tryz.underlying57
    simp only [List.length_nil]
    go_enter Tryz.func108, Tryz.ntmps108
    go_wp2
    go_ret
    exact ⟨_, rfl, World.ownsRow_nil _ _ _ _, Fr.refl _ _⟩
  | some ad =>
    have hq : ∀ (w : World), (binOp .eql 57 (.slice (some ad) l.length cap) (.slice none 0 0)).run Tryz.prog w = .ok (.bool false) w := fun w => Lib.run_eql_slice_nil w _ 3 (some ad) l.length cap 0 0 Tryz.underlying57
    have hcell : ∀ (j : Nat) (y : Value), (l.flatMap natC)[j]? = some y → (w.alloc (.cells #[] 3)).cell? (ad.add j) = some y := fun j y hy => by
      rcases hc with he | ⟨b, off, hab, hb, hc⟩
      · rw [he] at hy; cases hy
      · cases hab
        have hadd : (⟨b, off, none⟩ : Addr).add j = ⟨b, off + j, none⟩ := by unfold Addr.add; split <;> simp_all
        rw [hadd]
        exact (World.cell?_of_block (((Fr.refl [] w).alloc _).block b hb (by simp))).trans (hc j y hy)
    clear hs0 hc
    go_enter Tryz.func108, Tryz.ntmps108
    go_wp2_with (at_builtin; refine Hid.out ?_)
    refine hidIt ?_
    refine wpList_append_own_at (w.alloc (.cells #[] 3)) rfl _ _ 57 rfl w.heap.size 3 i0 _ 1 8 Tryz.underlying57 hi hz0 hz1 hz2 rfl (by decide) (.slice (some ⟨w.heap.size, 0, none⟩) 0 0) 0 [] rfl (World.ownsRow_made w #[] 0 (Nat.le_refl _) (by decide) rfl) ad l.length cap (l.flatMap natC) rfl (flatN_length1 l) hcell (flat_one (fun _ => nat_one) l) (by unfold maxLen; omega) (by omega) (by simp) ?_
    intro v2 w2 hown2 hgrow2 _ hloc2
    rw [Nat.zero_add, List.nil_append] at hown2
    obtain ⟨a2, c2, rfl, _⟩ := Sl.of_owns hown2
    have hF2 : Fr [] w w2 := ((Fr.refl [] w).alloc _).grown hgrow2 (fun x hx => .inr (by cases hx; exact Nat.le_refl _))
    go_wp2
    go_ret
    exact ⟨_, rfl, hown2, hF2⟩
set_option maxRecDepth 100000 in
theorem CloneY_calls (u : Value) (l : List (UInt8)) (w : World) (hs : SlF byC w u l) (hl : l.length ≤ 1048576) :
    Calls Tryz.prog 98 #[u] w fun e w' => ∃ v, e = .returned v ∧ w'.ownsRow w.heap.size 5 1 v l.length (l.flatMap byC) ∧ Fr [] w w' := by
  obtain ⟨i0, hi, hz0, hz1, hz2⟩ := info_parts infoY
  have hs0 := hs
  obtain ⟨a, cap, rfl, hmc, hcm, hc⟩ := hs
  cases a with
  | none =>
    have hn : l = [] := by
      rcases hc with h | ⟨b, off, h, _⟩
      · have := congrArg List.length h
        rw [flatY_length1] at this
        exact List.eq_nil_of_length_eq_zero (by rw [List.length_nil] at this; omega)
      · cases h
    subst hn
    have hq : ∀ (w : World), (binOp .eql 40 (.slice none 0 cap) (.slice none 0 0)).run Tryz.prog w = .ok (.bool true) w := fun w => Lib.run_eql_slice_nil w _ 5 none 0 cap 0 0 Tryz.underlying40
    simp only [List.length_nil]
    go_enter Tryz.func98, Tryz.ntmps98
    go_wp2
    go_ret
    exact ⟨_, rfl, World.ownsRow_nil _ _ _ _, Fr.refl _ _⟩
  | some ad =>
    have hq : ∀ (w : World), (binOp .eql 40 (.slice (some ad) l.length cap) (.slice none 0 0)).run Tryz.prog w = .ok (.bool false) w := fun w => Lib.run_eql_slice_nil w _ 5 (some ad) l.length cap 0 0 Tryz.underlying40
    have hcell : ∀ (j : Nat) (y : Value), (l.flatMap byC)[j]? = some y → (w.alloc (.cells #[] 5)).cell? (ad.add j) = some y := fun j y hy => by
      rcases hc with he | ⟨b, off, hab, hb, hc⟩
      · rw [he] at hy; cases hy
      · cases hab
        have hadd : (⟨b, off, none⟩ : Addr).add j = ⟨b, off + j, none⟩ := by unfold Addr.add; split <;> simp_all
        rw [hadd]
        exact (World.cell?_of_block (((Fr.refl [] w).alloc _).block b hb (by simp))).trans (hc j y hy)
    clear hs0 hc
    go_enter Tryz.func98, Tryz.ntmps98
    go_wp2_with (at_builtin; refine Hid.out ?_)
    refine hidIt ?_
    refine wpList_append_own_at (w.alloc (.cells #[] 5)) rfl _ _ 40 rfl w.heap.size 5 i0 _ 1 1 Tryz.underlying40 hi hz0 hz1 hz2 rfl (by decide) (.slice (some ⟨w.heap.size, 0, none⟩) 0 0) 0 [] rfl (World.ownsRow_made w #[] 0 (Nat.le_refl _) (by decide) rfl) ad l.length cap (l.flatMap byC) rfl (flatY_length1 l) hcell (flat_one (fun _ => by_one) l) (by unfold maxLen; omega) (by omega) (by simp) ?_
    intro v2 w2 hown2 hgrow2 _ hloc2
    rw [Nat.zero_add, List.nil_append] at hown2
    obtain ⟨a2, c2, rfl, _⟩ := Sl.of_owns hown2
    have hF2 : Fr [] w w2 := ((Fr.refl [] w).alloc _).grown hgrow2 (fun x hx => .inr (by cases hx; exact Nat.le_refl _))
    go_wp2
    go_ret
    exact ⟨_, rfl, hown2, hF2⟩
set_option maxRecDepth 100000 in
theorem CloneS_calls (u : Value) (l : List (By × Nat)) (w : World) (hs : SlF snC w u l) (hl : l.length ≤ 1048576) :
    Calls Tryz.prog 59 #[u] w fun e w' => ∃ v, e = .returned v ∧ w'.ownsRow w.heap.size 113 2 v l.length (l.flatMap snC) ∧ Fr [] w w' := by
  obtain ⟨i0, hi, hz0, hz1, hz2⟩ := info_parts infoSn
  have hs0 := hs
  obtain ⟨a, cap, rfl, hmc, hcm, hc⟩ := hs
  cases a with
  | none =>
    have hn : l = [] := by
      rcases hc with h | ⟨b, off, h, _⟩
      · have := congrArg List.length h
        rw [flatSn_length] at this
        exact List.eq_nil_of_length_eq_zero (by rw [List.length_nil] at this; omega)
      · cases h
    subst hn
    have hq : ∀ (w : World), (binOp .eql 72 (.slice none 0 cap) (.slice none 0 0)).run Tryz.prog w = .ok (.bool true) w := fun w => Lib.run_eql_slice_nil w _ 113 none 0 cap 0 0 Tryz.underlying72
    simp only [List.length_nil]
    go_enter Tryz.func59, Tryz.ntmps59
    go_wp2
    go_ret
    exact ⟨_, rfl, World.ownsRow_nil _ _ _ _, Fr.refl _ _⟩
  | some ad =>
    have hq : ∀ (w : World), (binOp .eql 72 (.slice (some ad) l.length cap) (.slice none 0 0)).run Tryz.prog w = .ok (.bool false) w := fun w => Lib.run_eql_slice_nil w _ 113 (some ad) l.length cap 0 0 Tryz.underlying72
    have hcell : ∀ (j : Nat) (y : Value), (l.flatMap snC)[j]? = some y → (w.alloc (.cells #[] 113)).cell? (ad.add j) = some y := fun j y hy => by
      rcases hc with he | ⟨b, off, hab, hb, hc⟩
      · rw [he] at hy; cases hy
      · cases hab
        have hadd : (⟨b, off, none⟩ : Addr).add j = ⟨b, off + j, none⟩ := by unfold Addr.add; split <;> simp_all
        rw [hadd]
        exact (World.cell?_of_block (((Fr.refl [] w).alloc _).block b hb (by simp))).trans (hc j y hy)
    clear hs0 hc
    go_enter Tryz.func59, Tryz.ntmps59
    go_wp2_with (at_builtin; refine Hid.out ?_)
    refine hidIt ?_
    refine wpList_append_own_at (w.alloc (.cells #[] 113)) rfl _ _ 72 rfl w.heap.size 113 i0 _ 2 24 Tryz.underlying72 hi hz0 hz1 hz2 rfl (by decide) (.slice (some ⟨w.heap.size, 0, none⟩) 0 0) 0 [] rfl (World.ownsRow_made w #[] 0 (Nat.le_refl _) (by decide) rfl) ad l.length cap (l.flatMap snC) rfl (flatSn_length l) hcell (flat_one (fun _ => sn_one) l) (by unfold maxLen; omega) (by omega) (by simp) ?_
    intro v2 w2 hown2 hgrow2 _ hloc2
    rw [Nat.zero_add, List.nil_append] at hown2
    obtain ⟨a2, c2, rfl, _⟩ := Sl.of_owns hown2
    have hF2 : Fr [] w w2 := ((Fr.refl [] w).alloc _).grown hgrow2 (fun x hx => .inr (by cases hx; exact Nat.le_refl _))
    go_wp2
    go_ret
    exact ⟨_, rfl, hown2, hF2⟩
def newPost (w : World) (n : Nat) (e : Ending) (w' : World) : Prop := ∃ nb rv, e = .returned (.tuple #[.pointer (some ⟨nb, 0, none⟩), .int .i64 0]) ∧ CntW w' nb rv (List.replicate n 0) ∧ w.heap.size ≤ nb ∧ (∀ k, rv.ownBlock = some k → w.heap.size ≤ k) ∧ Fr [] w w'
theorem cNew_no (x : Int) (w : World) (h : x < 0 ∨ 512 < x) : Calls Tryz.prog 29 #[.int .i64 x] w fun e w' => e = .returned (.tuple #[.pointer none, .int .i64 1]) ∧ w = w' := by
  rcases h with h | h
  · go_enter Tryz.func29, Tryz.ntmps29
    go_wp2
    go_ret2
    exact ⟨rfl, rfl⟩
  · have h0 : ¬ x < 0 := by omega
    go_enter Tryz.func29, Tryz.ntmps29
    go_wp2
    go_ret2
    exact ⟨rfl, rfl⟩
/-- rows that are made -/
theorem makeN (n : Nat) (w : World) (h : n ≤ 4096) : ∃ w', (Instr.makeSlice 57 (.int .i64 (n : Int)) (.int .i64 (n : Int))).run Tryz.prog w = .ok (.slice (some ⟨w.heap.size, 0, none⟩) n n) w' ∧
    w'.ownsRow w.heap.size 3 1 (.slice (some ⟨w.heap.size, 0, none⟩) n n) n ((List.replicate n 0).flatMap natC) ∧ w.grownBy w' none := by
  obtain ⟨i0, hi0, hz0, hz1, hz2⟩ := info_parts infoN
  obtain ⟨w2, hrun, hown, hg⟩ := run_make_full (P := Tryz.prog) w w.heap.size 57 3 i0 _ 1 Tryz.underlying57 hi0 hz0 hz1 .i64 .i64 n (by rw [hz2]; omega) (by unfold maxLen; omega) (Nat.le_refl _)
  refine ⟨w2, hrun, ?_, hg⟩
  have e : (madeCells (Value.int .i64 0).cells (n * 1)).toList = (List.replicate n 0).flatMap natC := by
    show (madeCells #[Value.int .i64 0] (n * 1)).toList = _
    rw [Nat.mul_one, toList_madeCells_one]
    clear hown hrun hg h
    induction n with
    | zero => rfl
    | succ n ih => rw [List.replicate_succ, List.replicate_succ, List.flatMap_cons, ← ih]; rfl
  rw [← e]
  exact hown
theorem makeY (n : Nat) (w : World) (h : n ≤ 65536) : ∃ w', (Instr.makeSlice 40 (.int .i64 (n : Int)) (.int .i64 (n : Int))).run Tryz.prog w = .ok (.slice (some ⟨w.heap.size, 0, none⟩) n n) w' ∧
    w'.ownsRow w.heap.size 5 1 (.slice (some ⟨w.heap.size, 0, none⟩) n n) n ((zBy n).flatMap byC) ∧ w.grownBy w' none := by
  obtain ⟨i0, hi0, hz0, hz1, hz2⟩ := info_parts infoY
  obtain ⟨w2, hrun, hown, hg⟩ := run_make_full (P := Tryz.prog) w w.heap.size 40 5 i0 _ 1 Tryz.underlying40 hi0 hz0 hz1 .i64 .i64 n (by rw [hz2]; omega) (by unfold maxLen; omega) (Nat.le_refl _)
  refine ⟨w2, hrun, ?_, hg⟩
  have e : (madeCells (Value.int .u8 0).cells (n * 1)).toList = (zBy n).flatMap byC := by
    show (madeCells #[Value.int .u8 0] (n * 1)).toList = _
    rw [Nat.mul_one, toList_madeCells_one]
    unfold zBy
    clear hown hrun hg h
    induction n with
    | zero => rfl
    | succ n ih => rw [List.replicate_succ, List.replicate_succ, List.flatMap_cons, ← ih]; rfl
  rw [← e]
  exact hown
set_option maxRecDepth 100000 in
theorem cNew_yes (n : Nat) (w : World) (h : n ≤ 512) : Calls Tryz.prog 29 #[.int .i64 (n : Int)] w (newPost w n) := by
  obtain ⟨w2, hrun, hown, hg⟩ := makeN n w (by omega)
  have hF := (Fr.refl [] w).grown hg (fun x hx => by cases hx)
  have hb := own_base hown
  have B := Blk.new w2 [.slice (some ⟨w.heap.size, 0, none⟩) n n] 126
  have hfa := (Fr.refl [] w2).alloc (.cells #[.slice (some ⟨w.heap.size, 0, none⟩) n n] 126)
  have hz := hF.size
  have hl : (List.replicate n 0).length = n := List.length_replicate
  have hown2 := owns_base (base' := 0) (owns_fr hown hfa (by simp)) (Nat.zero_le _)
  have hC : CntW (w2.alloc (.cells #[.slice (some ⟨w.heap.size, 0, none⟩) n n] 126)) w2.heap.size (.slice (some ⟨w.heap.size, 0, none⟩) n n) (List.replicate n 0) := by
    refine ⟨B, ?_, ?_, fun x hx => by rw [List.eq_of_mem_replicate hx]; exact Nat.zero_le _⟩
    · rw [hl]; exact hown2
    · rw [hl]; exact h
  have HC := hidIt hC
  clear hC hown2 hown hl B
  go_enter Tryz.func29, Tryz.ntmps29
  go_wp2
  go_ret2
  exact ⟨_, _, rfl, HC.out, hz, hb, hF.trans0 hfa⟩
def cCopyPost (w : World) (n : List Nat) (e : Ending) (w' : World) : Prop := ∃ nb rv, e = .returned (.pointer (some ⟨nb, 0, none⟩)) ∧ CntW w' nb rv n ∧ w.heap.size ≤ nb ∧ (∀ k, rv.ownBlock = some k → w.heap.size ≤ k) ∧ Fr [] w w'
theorem cCopy_calls (nb : Nat) (rv : Value) (n : List Nat) (w : World) (h : CntW w nb rv n) : Calls Tryz.prog 95 #[.pointer (some ⟨nb, 0, none⟩)] w (cCopyPost w n) := by
  have c := h.blk.cell
  have hlen := h.len
  have hbig := hidIt h.big
  have kC := CloneI_calls rv n w (SlF.of_owns h.row) (by omega)
  obtain ⟨a, cap, rfl, _⟩ := h.open
  clear h
  go_enter Tryz.func95, Tryz.ntmps95
  go_wp2_with fail
  refine kC.mono ?_
  rintro e w1 ⟨v, rfl, hown, hf⟩
  obtain ⟨a2, c2, rfl, _⟩ := Sl.of_owns hown
  have B := Blk.new w1 [.slice a2 n.length c2] 126
  have hfa := (Fr.refl [] w1).alloc (.cells #[.slice a2 n.length c2] 126)
  have hb := own_base hown
  have hz := hf.size
  have hown2 := owns_base (base' := 0) (owns_fr hown hfa (by simp)) (Nat.zero_le _)
  go_wp2
  go_ret
  exact ⟨_, _, rfl, ⟨B, hown2, hlen, hbig.out⟩, hz, hb, hf.trans0 hfa⟩
end Go.Proofs.YtilhbjjjmdnjmaaGreat
