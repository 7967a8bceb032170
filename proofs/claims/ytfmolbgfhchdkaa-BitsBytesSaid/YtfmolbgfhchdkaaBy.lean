/-
  Rows of bytes, and texts, as lists of bytes; a number's bytes.
-/
import Derived.Test.YtfmolbgfhchdkaaBools
import Derived.Test.YtfmolbgfhchdkaaInts
import Derived.Test.YtfmolbgfhchdkaaProg
import Derived.Laws.BytesArg
import Derived.Laws.IdiomStrings
namespace Go.Proofs.Ytfmolbgfhchdkaa
open Go.RowKit

/-- a byte's cell -/
abbrev byC (b : UInt8) : List Value := [.int .u8 (b.toNat : Int)]
abbrev SlY := SlF byC
/-- a text -/
def strL (l : List UInt8) : Value := .string ⟨l.toArray⟩
theorem by_one {b : UInt8} : ∀ u ∈ byC b, u.oneCell' = true := by
  intro u hu
  simp at hu
  subst hu
  rfl
theorem flatY_length (l : List UInt8) : (l.flatMap byC).length = l.length := by induction l <;> simp_all
theorem SlY.at {w : World} {a : Option Addr} {cap n : Nat} {l : List UInt8} (h : SlY w (.slice a n cap) l) {i : Nat} (hi : i < l.length) : ∃ b off, a = some ⟨b, off, none⟩ ∧ b < w.heap.size ∧
    w.cell? ⟨b, off + i, none⟩ = some (.int .u8 ((l.getD i 0).toNat : Int)) := by
  obtain ⟨a', cap', hv, _, _, hc⟩ := h.open
  cases hv
  obtain ⟨b, off, rfl, hb, hc⟩ := hc 1 (fun _ => rfl) (by omega) i _ (getD_some 0 hi)
  have := hc 0 _ rfl
  rw [Nat.mul_one, Nat.add_zero] at this
  exact ⟨b, off, rfl, hb, this⟩
theorem infoY : (Try.prog.info? 5).map (fun i => (i.zero, i.size, i.bytes)) = some (some (.int .u8 0), 1, 1) := by kernel_rfl
/-- 'out = append(out, l...)', out the call's own slice; where it lies behind it -/
theorem wpList_append_slL {P : Program} (T E : TypeId) (z : Value) (size bytes : Nat) (ht : P.underlying T = some (.slice E)) (hinfo : (P.info? E).map (fun i => (i.zero, i.size, i.bytes)) = some (some z, size, bytes))
    (hzs : z.cells.size = size) (hsz : 0 < size) (hby : bytes ≤ 4096) {ops : Array Oper} {rest : List Oper} {o : Oper} {a : Act} {Q : Exit → Act → World → Prop} {w : World} (hgd : o.guard = none) (s x : Operand)
    (ho : o.op = .call { callee := .builtin .append, args := #[s, x], argTypes := #[T, T] }) (base : Nat) (v : Value) (n : Nat) (xs : List Value) (hs : a.eval s = v) (hown : w.ownsRow base E size v n xs)
    (u : Value) (m : Nat) (news : List Value) (hu : Sl w u m news) (hok : okV u) (hl : news.length = m * size) (h1 : ∀ y ∈ news, y.oneCell' = true) (hx : a.eval x = u) (hn : n ≤ 4294967296) (hm : m ≤ 4294967296) (hbase : base ≤ w.heap.size)
    (h : ∀ v' w', w'.ownsRow base E size v' (n + m) (xs ++ news) → w.grownBy w' v.ownBlock → (v'.ownBlock = v.ownBlock ∨ v'.ownBlock = some w.heap.size) → wpList P ops Q rest (a.put o.dst v') w') : wpList P ops Q (o :: rest) a w := by
  obtain ⟨i0, hi, hz0, hz1, hz2⟩ := info_parts hinfo
  obtain ⟨ad, cap, rfl, hmc, hcm, hc⟩ := hu
  cases ad with
  | none =>
    have hcap := hok _ _ rfl
    subst hcap
    have hm0 : m = 0 := by omega
    subst hm0
    have hnews : news = [] := List.eq_nil_of_length_eq_zero (by rw [hl, Nat.zero_mul])
    subst hnews
    refine wpList_append_own_none hgd s x T ho base E i0 size ht hi v n xs hs hown hx (h v w (by rw [List.append_nil]; exact hown) ⟨rfl, rfl, rfl, Nat.le_refl _, fun _ _ _ => rfl⟩ (.inl rfl))
  | some ad =>
    refine wpList_append_own_at w hgd s x T ho base E i0 z size bytes ht hi hz0 hz1 hz2 hzs hsz v n xs hs hown ad m cap news hx hl (fun j y hy => ?_) h1 (by unfold maxLen; omega) ?_ hbase (fun v' w' g1 g2 _ g4 => h v' w' g1 g2 g4)
    · rcases hc with he | ⟨b, off, hab, hb, hc⟩
      · rw [he] at hy; cases hy
      · cases hab
        have hadd : (⟨b, off, none⟩ : Addr).add j = ⟨b, off + j, none⟩ := by unfold Addr.add; split <;> simp_all
        rw [hadd]
        exact hc j y hy
    · have : (n + m) * bytes ≤ 8589934592 * 4096 := Nat.mul_le_mul (by omega) hby
      omega
/-! ### a number's bytes -/
/-- the W last bytes of a number, the greatest first -/
def numL : Nat → Nat → List UInt8
  | 0, _ => []
  | W + 1, n => numL W (n / 256) ++ [UInt8.ofNat n]
theorem numL_length : ∀ (W n : Nat), (numL W n).length = W
  | 0, _ => rfl
  | W + 1, n => by simp [numL, numL_length W]
theorem numL_getD : ∀ (W n i : Nat), i < W → (numL W n).getD i 0 = UInt8.ofNat (n / 256 ^ (W - 1 - i))
  | W + 1, n, i, h => by
    unfold numL
    rw [List.getD_eq_getElem?_getD]
    by_cases hi : i < W
    · rw [List.getElem?_append_left (by rw [numL_length]; exact hi), ← List.getD_eq_getElem?_getD, numL_getD W (n / 256) i hi, Nat.div_div_eq_div_mul]
      congr 2
      rw [show W + 1 - 1 - i = (W - 1 - i) + 1 by omega, Nat.pow_succ, Nat.mul_comm]
    · have : i = W := by omega
      subst this
      rw [List.getElem?_append_right (by rw [numL_length]; exact Nat.le_refl _), numL_length, Nat.sub_self]
      simp
theorem numL_take {W n i : Nat} (h : i < W) : (numL W n).take (i + 1) = (numL W n).take i ++ [UInt8.ofNat (n / 256 ^ (W - 1 - i))] := by
  have hl : i < (numL W n).length := by rw [numL_length]; exact h
  have hg : (numL W n)[i] = (numL W n).getD i 0 := by rw [List.getD_eq_getElem?_getD, List.getElem?_eq_getElem hl]; rfl
  rw [List.take_succ_eq_append_getElem hl, hg, numL_getD W n i h]
/-- the number of bytes -/
def valL (l : List UInt8) : Nat := l.foldl (fun n b => n * 256 + b.toNat) 0
theorem valL_snoc (l : List UInt8) (b : UInt8) : valL (l ++ [b]) = valL l * 256 + b.toNat := by simp [valL]
theorem ofNat_toNat (n : Nat) : (UInt8.ofNat n).toNat = n % 256 := by simp
theorem valL_numL : ∀ (W n : Nat), valL (numL W n) = n % 256 ^ W
  | 0, n => by simp [numL, valL, Nat.mod_one]
  | W + 1, n => by
    unfold numL
    rw [valL_snoc, valL_numL W, ofNat_toNat, Nat.pow_succ]
    have h1 := Nat.div_add_mod n 256
    have h2 : n % (256 ^ W * 256) = n / 256 % 256 ^ W * 256 + n % 256 := by
      rw [Nat.mul_comm (256 ^ W) 256, Nat.mod_mul]
      omega
    omega
theorem snoc_ind {α : Type} {p : List α → Prop} (h0 : p []) (h1 : ∀ l b, p l → p (l ++ [b])) : ∀ l, p l := by
  intro l
  rw [← List.reverse_reverse l]
  generalize l.reverse = r
  induction r with
  | nil => exact h0
  | cons b r ih => rw [List.reverse_cons]; exact h1 _ _ ih
theorem valL_lt : ∀ (l : List UInt8), valL l < 256 ^ l.length := by
  refine snoc_ind (by simp [valL]) fun l b ih => ?_
  · rw [valL_snoc, List.length_append, List.length_singleton, Nat.pow_succ]
    have := b.toNat_lt
    omega
theorem numL_valL : ∀ (l : List UInt8), numL l.length (valL l) = l := by
  refine snoc_ind rfl fun l b ih => ?_
  · rw [List.length_append, List.length_singleton]
    unfold numL
    rw [valL_snoc]
    have hb := b.toNat_lt
    rw [show (valL l * 256 + b.toNat) / 256 = valL l by omega, ih]
    congr 2
    apply UInt8.toNat_inj.1
    rw [ofNat_toNat]
    omega
theorem numL_inj {W n m : Nat} (h : numL W n = numL W m) (hn : n < 256 ^ W) (hm : m < 256 ^ W) : n = m := by
  have := congrArg valL h
  rwa [valL_numL, valL_numL, Nat.mod_eq_of_lt hn, Nat.mod_eq_of_lt hm] at this
/-! ### from bytes to texts -/
theorem conv_str {w : World} {v : Value} {l : List UInt8} (h : SlY w v l) : (convert 53 9 v).run Try.prog w = .ok (strL l) w := by
  obtain ⟨a, cap, rfl, h1, h2, hc⟩ := h.open
  cases a with
  | none =>
    have hl : l = [] := by
      cases l with
      | nil => rfl
      | cons x l =>
        obtain ⟨b, off, he, _⟩ := hc 1 (fun _ => rfl) (by omega) 0 x rfl
        cases he
    subst hl
    exact run_convert_bytes_nil (P := Try.prog) w _ _ Try.underlying53 Try.underlying5 _ _ _ Try.underlying9
  | some a =>
    refine run_convert_bytes_back (P := Try.prog) w _ _ _ a cap l Try.underlying53 Try.underlying5 Try.underlying9 fun j hj => ?_
    obtain ⟨b, off, he, _, hc2⟩ := hc 1 (fun _ => rfl) (by omega) j l[j] (List.getElem?_eq_getElem hj)
    cases he
    have hadd : (⟨b, off, none⟩ : Addr).add j = ⟨b, off + j, none⟩ := by unfold Addr.add; split <;> simp_all
    have := hc2 0 _ rfl
    rw [hadd, ← this, Nat.mul_one, Nat.add_zero]
theorem str_eq (a : ByteArray) : Value.string a = strL a.data.toList := by
  unfold strL
  congr 1
theorem strL_inj {l l' : List UInt8} (h : strL l = strL l') : l = l' := by
  unfold strL at h
  have := congrArg (fun v => match v with | .string a => a.data.toList | _ => []) h
  simpa using this
end Go.Proofs.Ytfmolbgfhchdkaa
